/- Words with brackets as members, in the program; conditions: a list and texts that lie in memory. -/
import Derived.Test.YtmcemaphhlcjfaaDoorGroupP
import Derived.Deep.Cut
namespace Go.Proofs.YtmcemaphhlcjfaaDoor
open Go.RowKit

theorem arr_form (t : Array Value) (n : Nat) (h : t.size = n) : t = ((List.range n).map fun k => t.getD k undef).toArray := by
  refine Array.ext (by simp [h]) fun j h1 h2 => ?_
  simp [Array.getD, h1]
theorem act101 (a : Act) (h : a.tmps.size = 101) (hd : a.defers = []) : ∃ T : Nat → Value, (∀ k, a.tmps.getD k undef = T k) ∧ a = { tmps := #[T 0, T 1, T 2, T 3, T 4, T 5, T 6, T 7, T 8, T 9, T 10, T 11, T 12, T 13, T 14, T 15, T 16, T 17, T 18, T 19, T 20, T 21, T 22, T 23, T 24, T 25, T 26, T 27, T 28, T 29, T 30, T 31, T 32, T 33, T 34, T 35, T 36, T 37, T 38, T 39, T 40, T 41, T 42, T 43, T 44, T 45, T 46, T 47, T 48, T 49, T 50, T 51, T 52, T 53, T 54, T 55, T 56, T 57, T 58, T 59, T 60, T 61, T 62, T 63, T 64, T 65, T 66, T 67, T 68, T 69, T 70, T 71, T 72, T 73, T 74, T 75, T 76, T 77, T 78, T 79, T 80, T 81, T 82, T 83, T 84, T 85, T 86, T 87, T 88, T 89, T 90, T 91, T 92, T 93, T 94, T 95, T 96, T 97, T 98, T 99, T 100], defers := [] } := by
  refine ⟨fun k => a.tmps.getD k undef, fun _ => rfl, ?_⟩
  have e := arr_form a.tmps 101 h
  cases a with
  | mk t d =>
    cases hd
    congr 1
theorem ba_ne {t : ByteArray} (h : t.size ≠ 0) : (t.toList == []) = false := ba_nonempty fun h2 => h (by have h5 : t.data.toList.length = 0 := (by rw [h2]; rfl); rw [Array.length_toList] at h5; exact h5)
theorem ba_em {t : ByteArray} (h : t.size = 0) : (t.toList == []) = true := ba_empty (List.eq_nil_of_length_eq_zero (by rw [Array.length_toList]; exact h))
theorem grp_end (xs : List ByteArray) (f : Nat) : grpF xs f xs.length = [] := by cases f <;> simp [grpF]
theorem app_grown {w W w1 : World} {v : Value} {n : Nat} {xs : List Value} {o : Obj} (hbel : Below w.heap.size w W) (ho : OwnG W w.heap.size 9 1 v n xs) (hg : (W.alloc o).grownBy w1 v.ownBlock) : Below w.heap.size w w1 :=
  (hbel.alloc hbel.size _).grown hg (by have := hbel.size; simp; omega) (fun j hj => (ho.block_lt j hj).1)

set_option maxRecDepth 100000 in
set_option maxHeartbeats 4000000 in
theorem Group_any (w : World) (A : Option Addr) (N ca : Nat) (xs : List ByteArray) (hN : xs.length = N) (ha : StrsAt w A xs) (hx : N ≤ 1000000000) (hz : ∀ x ∈ xs, x.size ≤ 140737488351232) :
    Calls Tryd.prog 23 #[.slice A N ca] w fun e W' => ∃ v, e = .returned v ∧ OwnG W' w.heap.size 9 1 v (groupB xs).length ((groupB xs).map Value.string) ∧ Below w.heap.size w W' := by
  obtain ⟨i0, hi, hz0, hz1, hz2⟩ := info_parts Tryd.info9
  obtain ⟨R, hR⟩ : ∃ R, groupB xs = R := ⟨_, rfl⟩
  rw [hR]
  have HR : Hid (R = [] ++ grpF xs (N + 1) 0) := by unfold Hid; rw [← hR, ← hN]; rfl
  have HN := Lib.hid hN
  have HZ := Lib.hid hz
  clear hR hN hz
  go_enter Tryd.func23, Tryd.ntmps23
  go_wp2
  refine wp_scope_two (fun n a W => ∃ (i fl : Nat) (v : Value) (out : List ByteArray), n = 2 * (N - i) + 1 ∧ i ≤ N ∧ (a.defers = [] ∧ a.tmps.size = 101 ∧ a.tmps.getD 0 undef = .slice A N ca ∧ a.tmps.getD 3 undef = v ∧ a.tmps.getD 4 undef = .int .i64 (i : Nat)) ∧ OwnG W w.heap.size 9 1 v out.length (out.map Value.string) ∧ out.length ≤ i ∧ N < fl + i ∧ Below w.heap.size w W ∧ Hid (R = out ++ grpF xs fl i))
    (fun n a W => ∃ (i fl : Nat) (v : Value) (out : List ByteArray), n = 2 * (N - i) ∧ i < N ∧ (a.defers = [] ∧ a.tmps.size = 101 ∧ a.tmps.getD 0 undef = .slice A N ca ∧ a.tmps.getD 3 undef = v ∧ a.tmps.getD 4 undef = .int .i64 (i : Nat)) ∧ OwnG W w.heap.size 9 1 v out.length (out.map Value.string) ∧ out.length ≤ i ∧ N < fl + (i + 1) ∧ Below w.heap.size w W ∧ Hid (R = out ++ (xAt xs i :: grpF xs fl (i + 1)))) rfl rfl ?first ?pass0 ?pass1
  case first =>
    go_upto_region 5 with fail
    refine (fun h : ∀ (i : Nat) (v : Value), i = 0 → v = .slice none 0 0 → Code.wp Tryd.prog _ _ { tmps := #[.slice A N ca, undef, .slice none 0 0, v, .int .i64 (i : Nat), .int .i64 0, .int .i64 0, .string ⟨#[]⟩, undef, undef, undef, undef, undef, undef, undef, undef, undef, undef, undef, undef, undef, undef, undef, undef, undef, undef, undef, undef, undef, undef, undef, undef, undef, undef, undef, undef, undef, undef, undef, undef, undef, undef, undef, undef, undef, undef, undef, undef, undef, undef, undef, undef, undef, undef, undef, undef, undef, undef, undef, undef, undef, undef, undef, undef, undef, undef, undef, undef, undef, undef, undef, undef, undef, undef, undef, undef, undef, undef, undef, undef, undef, undef, undef, undef, undef, undef, undef, undef, undef, undef, undef, undef, undef, undef, undef, undef, undef, undef, undef, undef, undef], defers := [] } w => h 0 _ rfl rfl) ?_
    intro i v hi00 hv
    obtain ⟨fl, hfl0⟩ : ∃ fl : Nat, fl = N + 1 := ⟨_, rfl⟩
    obtain ⟨out, hout⟩ : ∃ out : List ByteArray, out = [] := ⟨_, rfl⟩
    have hown : OwnG w w.heap.size 9 1 v out.length (out.map Value.string) := by rw [hv, hout]; exact OwnG.nil _ _ _ _
    have hol : out.length ≤ i := by rw [hout]; exact Nat.zero_le _
    have hfl : N < fl + i := by omega
    have hi1 : i ≤ N := by omega
    have hbel := Below.refl w.heap.size w
    have hrel : Hid (R = out ++ grpF xs fl i) := by rw [hout, hfl0, hi00]; exact HR
    clear hv hout hfl0 hi00
    refine wp_label ?_
    rename_i K hK
    refine hK _ _ ?_
    by_cases hlt : i < N
    · obtain ⟨x, hx1⟩ : ∃ x, xs[i]? = some x := ⟨_, List.getElem?_eq_getElem (by have := HN.out; omega)⟩
      have hzx : x.size ≤ 140737488351232 := HZ.out x (List.mem_of_getElem? hx1)
      obtain ⟨b, o, rfl, hcx⟩ := ha i x hx1
      have hbx := World.block_lt_of_cell? _ _ hcx
      have kx : w.cell? ⟨b, o + i, none⟩ = some (.string x) := by rw [hbel.cell (p := ⟨b, o + i, none⟩) hbx]; exact hcx
      have e1 : xAt xs i = x := xAt_some hx1
      obtain ⟨fl, rfl⟩ : ∃ g, fl = g + 1 := ⟨fl - 1, by omega⟩
      have hst := hrel.out
      rw [grpF, if_pos (by have := HN.out; omega), e1] at hst
      have q1 : (i : Int) < N := by omega
      have q1e : ((i : Int) == (N : Int)) = false := beq_eq_false_iff_ne.2 (by omega)
      have HI : Hid (∀ w, Calls Tryd.prog 50 #[.string x, .int .u8 40] w fun e w' => e = .returned (.int .i64 (k40 x)) ∧ w' = w) := fun w => Tryd.strings_IndexByte x 40 w
      have hk40 := indexByte_lt x.data.toList 40
      have hk40g := Lib.indexByte_ge x.data.toList 40
      have hkx : k40 x < x.size := by unfold k40; simpa using hk40
      have hkg : -1 ≤ k40 x := hk40g
      generalize k40 x = k at *
      have HCX := Lib.hid hcx
      clear hk40 hk40g hcx hrel
      by_cases hk1 : k < 1
      · rw [if_pos (Or.inl hk1)] at hst
        have HST : Hid (R = out ++ (xAt xs i :: grpF xs fl (i + 1))) := by unfold Hid; rw [e1]; exact hst
        clear hst e1 hx1
        go_wp2_with fail
        refine (HI.out _).mono ?_
        rintro e w' ⟨rfl, hw'⟩
        obtain rfl : w = w' := hw'.symm
        go_wp2
        go_step3
        exact Or.inr ⟨rfl, 2 * (N - i), i, fl, v, out, rfl, hlt, ⟨rfl, rfl, rfl, rfl, rfl⟩, hown, hol, by omega, hbel, HST⟩
      · have HC : Hid (∀ w, Calls Tryd.prog 51 #[.string x, .string ⟨#[41]⟩] w fun e w' => e = .returned (.bool (clB x)) ∧ w' = w) := fun w => Tryd.strings_HasSuffix x ⟨#[41]⟩ w (by omega)
        cases hcl : clB x
        · rw [if_neg (by intro h; rcases h with h | h; exact hk1 h; rw [hcl] at h; cases h)] at hst
          rw [hcl] at HC
          have HST := Lib.hid hst
          have HE1 := Lib.hid e1
          have HX1 := Lib.hid hx1
          clear hst e1 hx1 hcl
          go_wp2_with fail
          refine (HI.out _).mono ?_
          rintro e w' ⟨rfl, hw'⟩
          obtain rfl : w = w' := hw'.symm
          go_wp2_with fail
          refine (HC.out _).mono ?_
          rintro e w' ⟨rfl, hw'⟩
          obtain rfl : w = w' := hw'.symm
          go_wp2
          go_loopw [6] (fun tv wi => ∃ t : Nat, tv = .int .i64 t ∧ i + 1 ≤ t ∧ t ≤ N ∧ Hid (∀ m, i + 1 ≤ m → m < t → clB (xAt xs m) = false) ∧ wi = w) (fun tv _ => N - (intOf tv).toNat)
          case atStart => exact ⟨i + 1, by go_num, Nat.le_refl _, by omega, fun m h1 h2 => by omega, rfl⟩
          case round =>
            obtain ⟨t, rfl, ht1, ht2, hbet, hwr⟩ := hrel
            obtain rfl : w = wr := hwr.symm
            by_cases htN : t < N
            · obtain ⟨y, hy1⟩ : ∃ y, xs[t]? = some y := ⟨_, List.getElem?_eq_getElem (by have := HN.out; omega)⟩
              have hzy : y.size ≤ 140737488351232 := HZ.out y (List.mem_of_getElem? hy1)
              obtain ⟨b', o', hAA, hcy⟩ := ha t y hy1
              cases hAA
              have ky : w.cell? ⟨b, o + t, none⟩ = some (.string y) := by rw [hbel.cell (p := ⟨b, o + t, none⟩) hbx]; exact hcy
              have e2 : xAt xs t = y := xAt_some hy1
              have HCy : Hid (∀ w, Calls Tryd.prog 51 #[.string y, .string ⟨#[41]⟩] w fun e w' => e = .returned (.bool (clB y)) ∧ w' = w) := fun w => Tryd.strings_HasSuffix y ⟨#[41]⟩ w (by omega)
              have q2 : (t : Int) < N := by omega
              cases hcy2 : clB y
              · rw [hcy2] at HCy
                have HBT : Hid (∀ m, i + 1 ≤ m → m < t + 1 → clB (xAt xs m) = false) := fun m h1 h2 => by
                  by_cases hm : m = t
                  · rw [hm, e2]; exact hcy2
                  · exact hbet.out m h1 (by omega)
                clear hcy2 e2 hy1 hcy hbet
                go_wp2_with fail
                refine (HCy.out _).mono ?_
                rintro e w' ⟨rfl, hw'⟩
                obtain rfl : w = w' := hw'.symm
                go_wp2
                exact ⟨⟨t + 1, by go_num, by omega, by omega, HBT, by trivial⟩, by simp [intOf]; omega⟩
              · rw [hcy2] at HCy
                have hsk : seek xs (i + 1) = t := seek_is xs (i + 1) t ht1 (by have := HN.out; omega) hbet.out (fun _ => by rw [e2]; exact hcy2)
                have hst2 := HST.out
                rw [hsk, if_neg (by have := HN.out; omega)] at hst2
                have hyp : 1 ≤ y.size := by
                  have h9 : [41].length ≤ y.data.toList.length := List.IsSuffix.length_le (List.isSuffixOf_iff_suffix.1 hcy2)
                  simpa using h9
                have HE2 := Lib.hid e2
                have HCY := Lib.hid hcy
                have q3 : ((t : Int) == (N : Int)) = false := beq_eq_false_iff_ne.2 (by omega)
                obtain ⟨K, rfl⟩ : ∃ K : Nat, k = K := ⟨k.toNat, by omega⟩
                rw [Int.toNat_natCast] at hst2
                have HST2 := Lib.hid hst2
                have hKx : K + 1 ≤ x.size := by omega
                have hKx0 : K ≤ x.size := by omega
                have v1 : IntKind.i64.wrap ((K : Int) + 1) = ((K + 1 : Nat) : Int) := by rw [IntWalk.i64_in _ (by omega)]; omega
                have v2 : IntKind.i64.wrap ((y.size : Int) - 1) = ((y.size - 1 : Nat) : Int) := by rw [IntWalk.i64_in _ (by omega)]; omega
                have v3 : y.size - 1 ≤ y.size := by omega
                have HOWN := Lib.hid hown
                have HBEL := Lib.hid hbel
                obtain ⟨P, hP⟩ : ∃ P, x.extract 0 K = P := ⟨_, rfl⟩
                have HP := Lib.hid hP
                have hPs : P.size ≤ 140737488351232 := by rw [← hP]; simp; omega
                clear hst2 hsk hcy2 e2 hy1 hcy hbet hown
                go_wp2_with fail
                refine (HCy.out _).mono ?_
                rintro e w' ⟨rfl, hw'⟩
                obtain rfl : w = w' := hw'.symm
                go_wp2
                go_loopw [3, 8, 9] (fun v' nv _ wi => ∃ (n : Nat), nv = .int .i64 n ∧ i ≤ n ∧ n ≤ t + 1 ∧ OwnG wi w.heap.size 9 1 v' (out ++ mems xs K i t (n - i)).length ((out ++ mems xs K i t (n - i)).map Value.string) ∧ Below w.heap.size w wi) (fun _ nv _ _ => t + 1 - (intOf nv).toNat)
                case atStart => exact ⟨i, rfl, Nat.le_refl _, by omega, by rw [Nat.sub_self]; simpa [mems] using HOWN.out, HBEL.out⟩
                case round =>
                  obtain ⟨n, rfl, hin, hnt1, hown, hbel⟩ := hrel
                  obtain ⟨L, hL⟩ : ∃ L, (out ++ mems xs K i t (n - i)).length = L := ⟨_, rfl⟩
                  obtain ⟨OS, hOS⟩ : ∃ OS, (out ++ mems xs K i t (n - i)).map Value.string = OS := ⟨_, rfl⟩
                  have hLb : L ≤ n := by rw [← hL, List.length_append]; have := mems_len xs K i t (n - i); omega
                  obtain ⟨AV, cv, rfl, hcv, _⟩ := hown.form
                  rw [hL, hOS] at hown
                  rw [hL]
                  have HOW := Lib.hid hown
                  have hsz := hbel.size
                  have HLL := Lib.hid hL
                  have HOSS := Lib.hid hOS
                  clear hL hOS hown
                  by_cases hdt : n ≤ t
                  · obtain ⟨M, hMw⟩ : ∃ M, mw xs K i t n = M := ⟨_, rfl⟩
                    have hmm := mems_succ xs K i t (n - i)
                    rw [HE1.out, show i + (n - i) = n by omega, show n - i + 1 = n + 1 - i by omega, hMw, HP.out] at hmm
                    have HMM : Hid (M.size = 0 → mems xs K i t (n + 1 - i) = mems xs K i t (n - i)) := fun h0 => by rw [hmm, memb, if_pos h0, List.append_nil]
                    have HMN : Hid (M.size ≠ 0 → mems xs K i t (n + 1 - i) = mems xs K i t (n - i) ++ [P ++ ⟨#[40]⟩ ++ M ++ ⟨#[41]⟩]) := fun h0 => by rw [hmm, memb, if_neg h0]
                    clear hmm
                    by_cases hni : n = i
                    · obtain rfl : i = n := hni.symm
                      by_cases hme : M.size = 0
                      · skip
                        have hM : x.extract (K + 1) x.size = M := by rw [← hMw]; unfold mw; rw [if_pos rfl, if_neg (by omega), HE1.out]
                        have n1 : ((i : Int) == (t : Int)) = false := beq_eq_false_iff_ne.2 (by omega)
                        have hms : M.size ≤ 140737488351232 := by rw [← hM]; simp; omega
                        have kz : wr.cell? ⟨b, o + i, none⟩ = some (.string x) := by rw [hbel.cell (p := ⟨b, o + i, none⟩) hbx]; exact HCX.out
                        have q5 : (i : Int) ≤ (t : Int) := by omega
                        have q6 : (i : Int) < (N : Int) := by omega
                        have q := ba_em (t := M) hme
                        have HNX := Lib.hid (HMM.out hme)
                        clear HMM HMN hme hMw
                        go_wp2
                        refine ⟨⟨i + 1, by go_num, by omega, by omega, ?_, hbel⟩, by first | (simp [intOf]; done) | (simp [intOf]; omega)⟩
                        rw [HNX.out, HLL.out, HOSS.out]; exact HOW.out
                      · skip
                        have hM : x.extract (K + 1) x.size = M := by rw [← hMw]; unfold mw; rw [if_pos rfl, if_neg (by omega), HE1.out]
                        have n1 : ((i : Int) == (t : Int)) = false := beq_eq_false_iff_ne.2 (by omega)
                        have hms : M.size ≤ 140737488351232 := by rw [← hM]; simp; omega
                        have kz : wr.cell? ⟨b, o + i, none⟩ = some (.string x) := by rw [hbel.cell (p := ⟨b, o + i, none⟩) hbx]; exact HCX.out
                        have q5 : (i : Int) ≤ (t : Int) := by omega
                        have q6 : (i : Int) < (N : Int) := by omega
                        have q := ba_ne (t := M) hme
                        have HNX := Lib.hid (HMN.out hme)
                        have g1 : ¬ (9223372036854775807 < P.size + 1) := by omega
                        have g2 : ¬ (9223372036854775807 < P.size + (1 + M.size)) := by omega
                        have g3 : ¬ (9223372036854775807 < P.size + (1 + (M.size + 1))) := by omega
                        have g4 : ¬ (9223372036854775807 < P.size + 1 + M.size) := by omega
                        have g5 : ¬ (9223372036854775807 < P.size + 1 + M.size + 1) := by omega
                        clear HMM HMN hme hMw
                        obtain ⟨Z, hZ⟩ : ∃ Z, P ++ ⟨#[40]⟩ ++ M ++ ⟨#[41]⟩ = Z := ⟨_, rfl⟩
                        rw [hZ] at HNX
                        have HO := Lib.hid (HOW.out.below ((Below.refl _ wr).alloc (Nat.le_refl _) (.cells #[.string Z] 9)))
                        go_wp2_with (at_builtin; refine wpList_append_G _ rfl _ _ 27 rfl w.heap.size 9 i0 (.string ⟨#[]⟩) 1 16 Tryd.underlying27 hi hz0 hz1 hz2 rfl (.slice AV L cv) L OS rfl HO.out ⟨_, 0, none⟩ 1 1 [.string Z] rfl rfl (cell_one_new _ _ _) (by simp [Value.oneCell']) (by omega) (by unfold maxLen; omega) (by omega) (by simp; omega) ?_; intro g cap w1 hown1 hgrow1 _ _)
                        refine ⟨⟨i + 1, by go_num, by omega, by omega, ?_, app_grown hbel HOW.out hgrow1⟩, by first | (simp [intOf]; done) | (simp [intOf]; omega)⟩
                        rw [HNX.out, ← List.append_assoc, List.length_append, List.map_append, HLL.out, HOSS.out]; exact hown1
                    · by_cases hnt : n = t
                      · obtain rfl : t = n := hnt.symm
                        by_cases hme : M.size = 0
                        · skip
                          have hM : y.extract 0 (y.size - 1) = M := by rw [← hMw]; unfold mw; rw [if_pos rfl, if_neg (by omega), HE2.out]
                          have n1 : ((t : Int) == (i : Int)) = false := beq_eq_false_iff_ne.2 (by omega)
                          have hms : M.size ≤ 140737488351232 := by rw [← hM]; simp; omega
                          have kz : wr.cell? ⟨b, o + t, none⟩ = some (.string y) := by rw [hbel.cell (p := ⟨b, o + t, none⟩) hbx]; exact HCY.out
                          have q5 : (t : Int) ≤ (t : Int) := by omega
                          have q6 : (t : Int) < (N : Int) := by omega
                          have q := ba_em (t := M) hme
                          have HNX := Lib.hid (HMM.out hme)
                          clear HMM HMN hme hMw
                          go_wp2
                          refine ⟨⟨t + 1, by go_num, by omega, by omega, ?_, hbel⟩, by first | (simp [intOf]; done) | (simp [intOf]; omega)⟩
                          rw [HNX.out, HLL.out, HOSS.out]; exact HOW.out
                        · skip
                          have hM : y.extract 0 (y.size - 1) = M := by rw [← hMw]; unfold mw; rw [if_pos rfl, if_neg (by omega), HE2.out]
                          have n1 : ((t : Int) == (i : Int)) = false := beq_eq_false_iff_ne.2 (by omega)
                          have hms : M.size ≤ 140737488351232 := by rw [← hM]; simp; omega
                          have kz : wr.cell? ⟨b, o + t, none⟩ = some (.string y) := by rw [hbel.cell (p := ⟨b, o + t, none⟩) hbx]; exact HCY.out
                          have q5 : (t : Int) ≤ (t : Int) := by omega
                          have q6 : (t : Int) < (N : Int) := by omega
                          have q := ba_ne (t := M) hme
                          have HNX := Lib.hid (HMN.out hme)
                          have g1 : ¬ (9223372036854775807 < P.size + 1) := by omega
                          have g2 : ¬ (9223372036854775807 < P.size + (1 + M.size)) := by omega
                          have g3 : ¬ (9223372036854775807 < P.size + (1 + (M.size + 1))) := by omega
                          have g4 : ¬ (9223372036854775807 < P.size + 1 + M.size) := by omega
                          have g5 : ¬ (9223372036854775807 < P.size + 1 + M.size + 1) := by omega
                          clear HMM HMN hme hMw
                          obtain ⟨Z, hZ⟩ : ∃ Z, P ++ ⟨#[40]⟩ ++ M ++ ⟨#[41]⟩ = Z := ⟨_, rfl⟩
                          rw [hZ] at HNX
                          have HO := Lib.hid (HOW.out.below ((Below.refl _ wr).alloc (Nat.le_refl _) (.cells #[.string Z] 9)))
                          go_wp2_with (at_builtin; refine wpList_append_G _ rfl _ _ 27 rfl w.heap.size 9 i0 (.string ⟨#[]⟩) 1 16 Tryd.underlying27 hi hz0 hz1 hz2 rfl (.slice AV L cv) L OS rfl HO.out ⟨_, 0, none⟩ 1 1 [.string Z] rfl rfl (cell_one_new _ _ _) (by simp [Value.oneCell']) (by omega) (by unfold maxLen; omega) (by omega) (by simp; omega) ?_; intro g cap w1 hown1 hgrow1 _ _)
                          refine ⟨⟨t + 1, by go_num, by omega, by omega, ?_, app_grown hbel HOW.out hgrow1⟩, by first | (simp [intOf]; done) | (simp [intOf]; omega)⟩
                          rw [HNX.out, ← List.append_assoc, List.length_append, List.map_append, HLL.out, HOSS.out]; exact hown1
                      · by_cases hme : M.size = 0
                        · skip
                          obtain ⟨M', hz1⟩ : ∃ z, xs[n]? = some z := ⟨_, List.getElem?_eq_getElem (by have := HN.out; omega)⟩
                          have hM : M' = M := by rw [← hMw]; unfold mw; rw [if_neg hni, if_neg hnt, xAt_some hz1]
                          subst hM
                          have hms : M'.size ≤ 140737488351232 := HZ.out M' (List.mem_of_getElem? hz1)
                          obtain ⟨b', o', hAA, hcz⟩ := ha n M' hz1
                          cases hAA
                          have kz : wr.cell? ⟨b, o + n, none⟩ = some (.string M') := by rw [hbel.cell (p := ⟨b, o + n, none⟩) hbx]; exact hcz
                          have n1 : ((n : Int) == (i : Int)) = false := beq_eq_false_iff_ne.2 (by omega)
                          have n2 : ((n : Int) == (t : Int)) = false := beq_eq_false_iff_ne.2 (by omega)
                          clear hz1 hcz
                          have q5 : (n : Int) ≤ (t : Int) := by omega
                          have q6 : (n : Int) < (N : Int) := by omega
                          have q := ba_em (t := M') hme
                          have HNX := Lib.hid (HMM.out hme)
                          clear HMM HMN hme hMw
                          go_wp2
                          refine ⟨⟨n + 1, by go_num, by omega, by omega, ?_, hbel⟩, by first | (simp [intOf]; done) | (simp [intOf]; omega)⟩
                          rw [HNX.out, HLL.out, HOSS.out]; exact HOW.out
                        · skip
                          obtain ⟨M', hz1⟩ : ∃ z, xs[n]? = some z := ⟨_, List.getElem?_eq_getElem (by have := HN.out; omega)⟩
                          have hM : M' = M := by rw [← hMw]; unfold mw; rw [if_neg hni, if_neg hnt, xAt_some hz1]
                          subst hM
                          have hms : M'.size ≤ 140737488351232 := HZ.out M' (List.mem_of_getElem? hz1)
                          obtain ⟨b', o', hAA, hcz⟩ := ha n M' hz1
                          cases hAA
                          have kz : wr.cell? ⟨b, o + n, none⟩ = some (.string M') := by rw [hbel.cell (p := ⟨b, o + n, none⟩) hbx]; exact hcz
                          have n1 : ((n : Int) == (i : Int)) = false := beq_eq_false_iff_ne.2 (by omega)
                          have n2 : ((n : Int) == (t : Int)) = false := beq_eq_false_iff_ne.2 (by omega)
                          clear hz1 hcz
                          have q5 : (n : Int) ≤ (t : Int) := by omega
                          have q6 : (n : Int) < (N : Int) := by omega
                          have q := ba_ne (t := M') hme
                          have HNX := Lib.hid (HMN.out hme)
                          have g1 : ¬ (9223372036854775807 < P.size + 1) := by omega
                          have g2 : ¬ (9223372036854775807 < P.size + (1 + M'.size)) := by omega
                          have g3 : ¬ (9223372036854775807 < P.size + (1 + (M'.size + 1))) := by omega
                          have g4 : ¬ (9223372036854775807 < P.size + 1 + M'.size) := by omega
                          have g5 : ¬ (9223372036854775807 < P.size + 1 + M'.size + 1) := by omega
                          clear HMM HMN hme hMw
                          obtain ⟨Z, hZ⟩ : ∃ Z, P ++ ⟨#[40]⟩ ++ M' ++ ⟨#[41]⟩ = Z := ⟨_, rfl⟩
                          rw [hZ] at HNX
                          have HO := Lib.hid (HOW.out.below ((Below.refl _ wr).alloc (Nat.le_refl _) (.cells #[.string Z] 9)))
                          go_wp2_with (at_builtin; refine wpList_append_G _ rfl _ _ 27 rfl w.heap.size 9 i0 (.string ⟨#[]⟩) 1 16 Tryd.underlying27 hi hz0 hz1 hz2 rfl (.slice AV L cv) L OS rfl HO.out ⟨_, 0, none⟩ 1 1 [.string Z] rfl rfl (cell_one_new _ _ _) (by simp [Value.oneCell']) (by omega) (by unfold maxLen; omega) (by omega) (by simp; omega) ?_; intro g cap w1 hown1 hgrow1 _ _)
                          refine ⟨⟨n + 1, by go_num, by omega, by omega, ?_, app_grown hbel HOW.out hgrow1⟩, by first | (simp [intOf]; done) | (simp [intOf]; omega)⟩
                          rw [HNX.out, ← List.append_assoc, List.length_append, List.map_append, HLL.out, HOSS.out]; exact hown1
                  · obtain rfl : n = t + 1 := by omega
                    have q7 : ¬ ((t + 1 : Nat) : Int) ≤ (t : Int) := by omega
                    have q7' : ¬ (t : Int) + 1 ≤ (t : Int) := by omega
                    have HST3 : Hid (R = (out ++ mems xs K i t (t + 1 - i)) ++ grpF xs fl (t + 1)) := by unfold Hid; rw [List.append_assoc]; exact HST2.out
                    go_wp2
                    go_step3
                    exact Or.inl ⟨rfl, 2 * (N - (t + 1)) + 1, t + 1, fl, _, out ++ mems xs K i t (t + 1 - i), rfl, by omega, ⟨rfl, rfl, rfl, rfl, by go_num⟩, by rw [HLL.out, HOSS.out]; exact HOW.out, by rw [HLL.out]; omega, by omega, hbel, HST3⟩
            · obtain rfl : t = N := by omega
              have hsk : seek xs (i + 1) = t := seek_is xs (i + 1) t ht1 (by have := HN.out; omega) hbet.out (fun h => by have := HN.out; omega)
              have hst2 := HST.out
              rw [hsk, if_pos HN.out.symm] at hst2
              have HST2 : Hid (R = out ++ (xAt xs i :: grpF xs fl (i + 1))) := by unfold Hid; rw [HE1.out]; exact hst2
              clear hst2 hsk
              go_wp2
              go_step3
              exact Or.inr ⟨rfl, 2 * (t - i), i, fl, v, out, rfl, hlt, ⟨rfl, rfl, rfl, rfl, rfl⟩, hown, hol, by omega, hbel, HST2⟩
        · rw [if_pos (Or.inr hcl)] at hst
          rw [hcl] at HC
          have HST : Hid (R = out ++ (xAt xs i :: grpF xs fl (i + 1))) := by unfold Hid; rw [e1]; exact hst
          clear hst e1 hx1 hcl
          go_wp2_with fail
          refine (HI.out _).mono ?_
          rintro e w' ⟨rfl, hw'⟩
          obtain rfl : w = w' := hw'.symm
          go_wp2_with fail
          refine (HC.out _).mono ?_
          rintro e w' ⟨rfl, hw'⟩
          obtain rfl : w = w' := hw'.symm
          go_wp2
          go_step3
          exact Or.inr ⟨rfl, 2 * (N - i), i, fl, v, out, rfl, hlt, ⟨rfl, rfl, rfl, rfl, rfl⟩, hown, hol, by omega, hbel, HST⟩
    · obtain rfl : i = N := by omega
      have HRE : Hid (R = out) := by
        unfold Hid; have := hrel.out; rw [← HN.out, grp_end, List.append_nil] at this; exact this
      clear hrel
      go_wp2
      change bodyPost Tryd.prog Tryd.f23 (fun e W' => ∃ v, e = .returned v ∧ OwnG W' w.heap.size 9 1 v R.length (R.map Value.string) ∧ Below w.heap.size w W') Exit.ret _ _
      go_ret
      exact ⟨v, rfl, by rw [HRE.out]; exact hown, hbel⟩
  case pass0 =>
    rintro n a W ⟨i, fl, v, out, rfl, hi1, ⟨hd, hsz, t0, t3, t4⟩, hown, hol, hfl, hbel, hrel⟩
    obtain ⟨T, hT, rfl⟩ := act101 a hsz hd
    rw [hT] at t0 t3 t4
    rw [t0, t3, t4]
    clear hT hd hsz t0 t3 t4
    by_cases hlt : i < N
    · obtain ⟨x, hx1⟩ : ∃ x, xs[i]? = some x := ⟨_, List.getElem?_eq_getElem (by have := HN.out; omega)⟩
      have hzx : x.size ≤ 140737488351232 := HZ.out x (List.mem_of_getElem? hx1)
      obtain ⟨b, o, rfl, hcx⟩ := ha i x hx1
      have hbx := World.block_lt_of_cell? _ _ hcx
      have kx : W.cell? ⟨b, o + i, none⟩ = some (.string x) := by rw [hbel.cell (p := ⟨b, o + i, none⟩) hbx]; exact hcx
      have e1 : xAt xs i = x := xAt_some hx1
      obtain ⟨fl, rfl⟩ : ∃ g, fl = g + 1 := ⟨fl - 1, by omega⟩
      have hst := hrel.out
      rw [grpF, if_pos (by have := HN.out; omega), e1] at hst
      have q1 : (i : Int) < N := by omega
      have q1e : ((i : Int) == (N : Int)) = false := beq_eq_false_iff_ne.2 (by omega)
      have HI : Hid (∀ w, Calls Tryd.prog 50 #[.string x, .int .u8 40] w fun e w' => e = .returned (.int .i64 (k40 x)) ∧ w' = w) := fun w => Tryd.strings_IndexByte x 40 w
      have hk40 := indexByte_lt x.data.toList 40
      have hk40g := Lib.indexByte_ge x.data.toList 40
      have hkx : k40 x < x.size := by unfold k40; simpa using hk40
      have hkg : -1 ≤ k40 x := hk40g
      generalize k40 x = k at *
      have HCX := Lib.hid hcx
      clear hk40 hk40g hcx hrel
      by_cases hk1 : k < 1
      · rw [if_pos (Or.inl hk1)] at hst
        have HST : Hid (R = out ++ (xAt xs i :: grpF xs fl (i + 1))) := by unfold Hid; rw [e1]; exact hst
        clear hst e1 hx1
        go_wp2_with fail
        refine (HI.out _).mono ?_
        rintro e w' ⟨rfl, hw'⟩
        obtain rfl : W = w' := hw'.symm
        go_wp2
        go_step3
        exact Or.inr ⟨rfl, 2 * (N - i), by omega, i, fl, v, out, rfl, hlt, ⟨rfl, rfl, rfl, rfl, rfl⟩, hown, hol, by omega, hbel, HST⟩
      · have HC : Hid (∀ w, Calls Tryd.prog 51 #[.string x, .string ⟨#[41]⟩] w fun e w' => e = .returned (.bool (clB x)) ∧ w' = w) := fun w => Tryd.strings_HasSuffix x ⟨#[41]⟩ w (by omega)
        cases hcl : clB x
        · rw [if_neg (by intro h; rcases h with h | h; exact hk1 h; rw [hcl] at h; cases h)] at hst
          rw [hcl] at HC
          have HST := Lib.hid hst
          have HE1 := Lib.hid e1
          have HX1 := Lib.hid hx1
          clear hst e1 hx1 hcl
          go_wp2_with fail
          refine (HI.out _).mono ?_
          rintro e w' ⟨rfl, hw'⟩
          obtain rfl : W = w' := hw'.symm
          go_wp2_with fail
          refine (HC.out _).mono ?_
          rintro e w' ⟨rfl, hw'⟩
          obtain rfl : W = w' := hw'.symm
          go_wp2
          go_loopw [6] (fun tv wi => ∃ t : Nat, tv = .int .i64 t ∧ i + 1 ≤ t ∧ t ≤ N ∧ Hid (∀ m, i + 1 ≤ m → m < t → clB (xAt xs m) = false) ∧ wi = W) (fun tv _ => N - (intOf tv).toNat)
          case atStart => exact ⟨i + 1, by go_num, Nat.le_refl _, by omega, fun m h1 h2 => by omega, rfl⟩
          case round =>
            obtain ⟨t, rfl, ht1, ht2, hbet, hwr⟩ := hrel
            obtain rfl : W = wr := hwr.symm
            by_cases htN : t < N
            · obtain ⟨y, hy1⟩ : ∃ y, xs[t]? = some y := ⟨_, List.getElem?_eq_getElem (by have := HN.out; omega)⟩
              have hzy : y.size ≤ 140737488351232 := HZ.out y (List.mem_of_getElem? hy1)
              obtain ⟨b', o', hAA, hcy⟩ := ha t y hy1
              cases hAA
              have ky : W.cell? ⟨b, o + t, none⟩ = some (.string y) := by rw [hbel.cell (p := ⟨b, o + t, none⟩) hbx]; exact hcy
              have e2 : xAt xs t = y := xAt_some hy1
              have HCy : Hid (∀ w, Calls Tryd.prog 51 #[.string y, .string ⟨#[41]⟩] w fun e w' => e = .returned (.bool (clB y)) ∧ w' = w) := fun w => Tryd.strings_HasSuffix y ⟨#[41]⟩ w (by omega)
              have q2 : (t : Int) < N := by omega
              cases hcy2 : clB y
              · rw [hcy2] at HCy
                have HBT : Hid (∀ m, i + 1 ≤ m → m < t + 1 → clB (xAt xs m) = false) := fun m h1 h2 => by
                  by_cases hm : m = t
                  · rw [hm, e2]; exact hcy2
                  · exact hbet.out m h1 (by omega)
                clear hcy2 e2 hy1 hcy hbet
                go_wp2_with fail
                refine (HCy.out _).mono ?_
                rintro e w' ⟨rfl, hw'⟩
                obtain rfl : W = w' := hw'.symm
                go_wp2
                exact ⟨⟨t + 1, by go_num, by omega, by omega, HBT, by trivial⟩, by simp [intOf]; omega⟩
              · rw [hcy2] at HCy
                have hsk : seek xs (i + 1) = t := seek_is xs (i + 1) t ht1 (by have := HN.out; omega) hbet.out (fun _ => by rw [e2]; exact hcy2)
                have hst2 := HST.out
                rw [hsk, if_neg (by have := HN.out; omega)] at hst2
                have hyp : 1 ≤ y.size := by
                  have h9 : [41].length ≤ y.data.toList.length := List.IsSuffix.length_le (List.isSuffixOf_iff_suffix.1 hcy2)
                  simpa using h9
                have HE2 := Lib.hid e2
                have HCY := Lib.hid hcy
                have q3 : ((t : Int) == (N : Int)) = false := beq_eq_false_iff_ne.2 (by omega)
                obtain ⟨K, rfl⟩ : ∃ K : Nat, k = K := ⟨k.toNat, by omega⟩
                rw [Int.toNat_natCast] at hst2
                have HST2 := Lib.hid hst2
                have hKx : K + 1 ≤ x.size := by omega
                have hKx0 : K ≤ x.size := by omega
                have v1 : IntKind.i64.wrap ((K : Int) + 1) = ((K + 1 : Nat) : Int) := by rw [IntWalk.i64_in _ (by omega)]; omega
                have v2 : IntKind.i64.wrap ((y.size : Int) - 1) = ((y.size - 1 : Nat) : Int) := by rw [IntWalk.i64_in _ (by omega)]; omega
                have v3 : y.size - 1 ≤ y.size := by omega
                have HOWN := Lib.hid hown
                have HBEL := Lib.hid hbel
                obtain ⟨P, hP⟩ : ∃ P, x.extract 0 K = P := ⟨_, rfl⟩
                have HP := Lib.hid hP
                have hPs : P.size ≤ 140737488351232 := by rw [← hP]; simp; omega
                clear hst2 hsk hcy2 e2 hy1 hcy hbet hown
                go_wp2_with fail
                refine (HCy.out _).mono ?_
                rintro e w' ⟨rfl, hw'⟩
                obtain rfl : W = w' := hw'.symm
                go_wp2
                go_loopw [3, 8, 9] (fun v' nv _ wi => ∃ (n : Nat), nv = .int .i64 n ∧ i ≤ n ∧ n ≤ t + 1 ∧ OwnG wi w.heap.size 9 1 v' (out ++ mems xs K i t (n - i)).length ((out ++ mems xs K i t (n - i)).map Value.string) ∧ Below w.heap.size w wi) (fun _ nv _ _ => t + 1 - (intOf nv).toNat)
                case atStart => exact ⟨i, rfl, Nat.le_refl _, by omega, by rw [Nat.sub_self]; simpa [mems] using HOWN.out, HBEL.out⟩
                case round =>
                  obtain ⟨n, rfl, hin, hnt1, hown, hbel⟩ := hrel
                  obtain ⟨L, hL⟩ : ∃ L, (out ++ mems xs K i t (n - i)).length = L := ⟨_, rfl⟩
                  obtain ⟨OS, hOS⟩ : ∃ OS, (out ++ mems xs K i t (n - i)).map Value.string = OS := ⟨_, rfl⟩
                  have hLb : L ≤ n := by rw [← hL, List.length_append]; have := mems_len xs K i t (n - i); omega
                  obtain ⟨AV, cv, rfl, hcv, _⟩ := hown.form
                  rw [hL, hOS] at hown
                  rw [hL]
                  have HOW := Lib.hid hown
                  have hsz := hbel.size
                  have HLL := Lib.hid hL
                  have HOSS := Lib.hid hOS
                  clear hL hOS hown
                  by_cases hdt : n ≤ t
                  · obtain ⟨M, hMw⟩ : ∃ M, mw xs K i t n = M := ⟨_, rfl⟩
                    have hmm := mems_succ xs K i t (n - i)
                    rw [HE1.out, show i + (n - i) = n by omega, show n - i + 1 = n + 1 - i by omega, hMw, HP.out] at hmm
                    have HMM : Hid (M.size = 0 → mems xs K i t (n + 1 - i) = mems xs K i t (n - i)) := fun h0 => by rw [hmm, memb, if_pos h0, List.append_nil]
                    have HMN : Hid (M.size ≠ 0 → mems xs K i t (n + 1 - i) = mems xs K i t (n - i) ++ [P ++ ⟨#[40]⟩ ++ M ++ ⟨#[41]⟩]) := fun h0 => by rw [hmm, memb, if_neg h0]
                    clear hmm
                    by_cases hni : n = i
                    · obtain rfl : i = n := hni.symm
                      by_cases hme : M.size = 0
                      · skip
                        have hM : x.extract (K + 1) x.size = M := by rw [← hMw]; unfold mw; rw [if_pos rfl, if_neg (by omega), HE1.out]
                        have n1 : ((i : Int) == (t : Int)) = false := beq_eq_false_iff_ne.2 (by omega)
                        have hms : M.size ≤ 140737488351232 := by rw [← hM]; simp; omega
                        have kz : wr.cell? ⟨b, o + i, none⟩ = some (.string x) := by rw [hbel.cell (p := ⟨b, o + i, none⟩) hbx]; exact HCX.out
                        have q5 : (i : Int) ≤ (t : Int) := by omega
                        have q6 : (i : Int) < (N : Int) := by omega
                        have q := ba_em (t := M) hme
                        have HNX := Lib.hid (HMM.out hme)
                        clear HMM HMN hme hMw
                        go_wp2
                        refine ⟨⟨i + 1, by go_num, by omega, by omega, ?_, hbel⟩, by first | (simp [intOf]; done) | (simp [intOf]; omega)⟩
                        rw [HNX.out, HLL.out, HOSS.out]; exact HOW.out
                      · skip
                        have hM : x.extract (K + 1) x.size = M := by rw [← hMw]; unfold mw; rw [if_pos rfl, if_neg (by omega), HE1.out]
                        have n1 : ((i : Int) == (t : Int)) = false := beq_eq_false_iff_ne.2 (by omega)
                        have hms : M.size ≤ 140737488351232 := by rw [← hM]; simp; omega
                        have kz : wr.cell? ⟨b, o + i, none⟩ = some (.string x) := by rw [hbel.cell (p := ⟨b, o + i, none⟩) hbx]; exact HCX.out
                        have q5 : (i : Int) ≤ (t : Int) := by omega
                        have q6 : (i : Int) < (N : Int) := by omega
                        have q := ba_ne (t := M) hme
                        have HNX := Lib.hid (HMN.out hme)
                        have g1 : ¬ (9223372036854775807 < P.size + 1) := by omega
                        have g2 : ¬ (9223372036854775807 < P.size + (1 + M.size)) := by omega
                        have g3 : ¬ (9223372036854775807 < P.size + (1 + (M.size + 1))) := by omega
                        have g4 : ¬ (9223372036854775807 < P.size + 1 + M.size) := by omega
                        have g5 : ¬ (9223372036854775807 < P.size + 1 + M.size + 1) := by omega
                        clear HMM HMN hme hMw
                        obtain ⟨Z, hZ⟩ : ∃ Z, P ++ ⟨#[40]⟩ ++ M ++ ⟨#[41]⟩ = Z := ⟨_, rfl⟩
                        rw [hZ] at HNX
                        have HO := Lib.hid (HOW.out.below ((Below.refl _ wr).alloc (Nat.le_refl _) (.cells #[.string Z] 9)))
                        go_wp2_with (at_builtin; refine wpList_append_G _ rfl _ _ 27 rfl w.heap.size 9 i0 (.string ⟨#[]⟩) 1 16 Tryd.underlying27 hi hz0 hz1 hz2 rfl (.slice AV L cv) L OS rfl HO.out ⟨_, 0, none⟩ 1 1 [.string Z] rfl rfl (cell_one_new _ _ _) (by simp [Value.oneCell']) (by omega) (by unfold maxLen; omega) (by omega) (by simp; omega) ?_; intro g cap w1 hown1 hgrow1 _ _)
                        refine ⟨⟨i + 1, by go_num, by omega, by omega, ?_, app_grown hbel HOW.out hgrow1⟩, by first | (simp [intOf]; done) | (simp [intOf]; omega)⟩
                        rw [HNX.out, ← List.append_assoc, List.length_append, List.map_append, HLL.out, HOSS.out]; exact hown1
                    · by_cases hnt : n = t
                      · obtain rfl : t = n := hnt.symm
                        by_cases hme : M.size = 0
                        · skip
                          have hM : y.extract 0 (y.size - 1) = M := by rw [← hMw]; unfold mw; rw [if_pos rfl, if_neg (by omega), HE2.out]
                          have n1 : ((t : Int) == (i : Int)) = false := beq_eq_false_iff_ne.2 (by omega)
                          have hms : M.size ≤ 140737488351232 := by rw [← hM]; simp; omega
                          have kz : wr.cell? ⟨b, o + t, none⟩ = some (.string y) := by rw [hbel.cell (p := ⟨b, o + t, none⟩) hbx]; exact HCY.out
                          have q5 : (t : Int) ≤ (t : Int) := by omega
                          have q6 : (t : Int) < (N : Int) := by omega
                          have q := ba_em (t := M) hme
                          have HNX := Lib.hid (HMM.out hme)
                          clear HMM HMN hme hMw
                          go_wp2
                          refine ⟨⟨t + 1, by go_num, by omega, by omega, ?_, hbel⟩, by first | (simp [intOf]; done) | (simp [intOf]; omega)⟩
                          rw [HNX.out, HLL.out, HOSS.out]; exact HOW.out
                        · skip
                          have hM : y.extract 0 (y.size - 1) = M := by rw [← hMw]; unfold mw; rw [if_pos rfl, if_neg (by omega), HE2.out]
                          have n1 : ((t : Int) == (i : Int)) = false := beq_eq_false_iff_ne.2 (by omega)
                          have hms : M.size ≤ 140737488351232 := by rw [← hM]; simp; omega
                          have kz : wr.cell? ⟨b, o + t, none⟩ = some (.string y) := by rw [hbel.cell (p := ⟨b, o + t, none⟩) hbx]; exact HCY.out
                          have q5 : (t : Int) ≤ (t : Int) := by omega
                          have q6 : (t : Int) < (N : Int) := by omega
                          have q := ba_ne (t := M) hme
                          have HNX := Lib.hid (HMN.out hme)
                          have g1 : ¬ (9223372036854775807 < P.size + 1) := by omega
                          have g2 : ¬ (9223372036854775807 < P.size + (1 + M.size)) := by omega
                          have g3 : ¬ (9223372036854775807 < P.size + (1 + (M.size + 1))) := by omega
                          have g4 : ¬ (9223372036854775807 < P.size + 1 + M.size) := by omega
                          have g5 : ¬ (9223372036854775807 < P.size + 1 + M.size + 1) := by omega
                          clear HMM HMN hme hMw
                          obtain ⟨Z, hZ⟩ : ∃ Z, P ++ ⟨#[40]⟩ ++ M ++ ⟨#[41]⟩ = Z := ⟨_, rfl⟩
                          rw [hZ] at HNX
                          have HO := Lib.hid (HOW.out.below ((Below.refl _ wr).alloc (Nat.le_refl _) (.cells #[.string Z] 9)))
                          go_wp2_with (at_builtin; refine wpList_append_G _ rfl _ _ 27 rfl w.heap.size 9 i0 (.string ⟨#[]⟩) 1 16 Tryd.underlying27 hi hz0 hz1 hz2 rfl (.slice AV L cv) L OS rfl HO.out ⟨_, 0, none⟩ 1 1 [.string Z] rfl rfl (cell_one_new _ _ _) (by simp [Value.oneCell']) (by omega) (by unfold maxLen; omega) (by omega) (by simp; omega) ?_; intro g cap w1 hown1 hgrow1 _ _)
                          refine ⟨⟨t + 1, by go_num, by omega, by omega, ?_, app_grown hbel HOW.out hgrow1⟩, by first | (simp [intOf]; done) | (simp [intOf]; omega)⟩
                          rw [HNX.out, ← List.append_assoc, List.length_append, List.map_append, HLL.out, HOSS.out]; exact hown1
                      · by_cases hme : M.size = 0
                        · skip
                          obtain ⟨M', hz1⟩ : ∃ z, xs[n]? = some z := ⟨_, List.getElem?_eq_getElem (by have := HN.out; omega)⟩
                          have hM : M' = M := by rw [← hMw]; unfold mw; rw [if_neg hni, if_neg hnt, xAt_some hz1]
                          subst hM
                          have hms : M'.size ≤ 140737488351232 := HZ.out M' (List.mem_of_getElem? hz1)
                          obtain ⟨b', o', hAA, hcz⟩ := ha n M' hz1
                          cases hAA
                          have kz : wr.cell? ⟨b, o + n, none⟩ = some (.string M') := by rw [hbel.cell (p := ⟨b, o + n, none⟩) hbx]; exact hcz
                          have n1 : ((n : Int) == (i : Int)) = false := beq_eq_false_iff_ne.2 (by omega)
                          have n2 : ((n : Int) == (t : Int)) = false := beq_eq_false_iff_ne.2 (by omega)
                          clear hz1 hcz
                          have q5 : (n : Int) ≤ (t : Int) := by omega
                          have q6 : (n : Int) < (N : Int) := by omega
                          have q := ba_em (t := M') hme
                          have HNX := Lib.hid (HMM.out hme)
                          clear HMM HMN hme hMw
                          go_wp2
                          refine ⟨⟨n + 1, by go_num, by omega, by omega, ?_, hbel⟩, by first | (simp [intOf]; done) | (simp [intOf]; omega)⟩
                          rw [HNX.out, HLL.out, HOSS.out]; exact HOW.out
                        · skip
                          obtain ⟨M', hz1⟩ : ∃ z, xs[n]? = some z := ⟨_, List.getElem?_eq_getElem (by have := HN.out; omega)⟩
                          have hM : M' = M := by rw [← hMw]; unfold mw; rw [if_neg hni, if_neg hnt, xAt_some hz1]
                          subst hM
                          have hms : M'.size ≤ 140737488351232 := HZ.out M' (List.mem_of_getElem? hz1)
                          obtain ⟨b', o', hAA, hcz⟩ := ha n M' hz1
                          cases hAA
                          have kz : wr.cell? ⟨b, o + n, none⟩ = some (.string M') := by rw [hbel.cell (p := ⟨b, o + n, none⟩) hbx]; exact hcz
                          have n1 : ((n : Int) == (i : Int)) = false := beq_eq_false_iff_ne.2 (by omega)
                          have n2 : ((n : Int) == (t : Int)) = false := beq_eq_false_iff_ne.2 (by omega)
                          clear hz1 hcz
                          have q5 : (n : Int) ≤ (t : Int) := by omega
                          have q6 : (n : Int) < (N : Int) := by omega
                          have q := ba_ne (t := M') hme
                          have HNX := Lib.hid (HMN.out hme)
                          have g1 : ¬ (9223372036854775807 < P.size + 1) := by omega
                          have g2 : ¬ (9223372036854775807 < P.size + (1 + M'.size)) := by omega
                          have g3 : ¬ (9223372036854775807 < P.size + (1 + (M'.size + 1))) := by omega
                          have g4 : ¬ (9223372036854775807 < P.size + 1 + M'.size) := by omega
                          have g5 : ¬ (9223372036854775807 < P.size + 1 + M'.size + 1) := by omega
                          clear HMM HMN hme hMw
                          obtain ⟨Z, hZ⟩ : ∃ Z, P ++ ⟨#[40]⟩ ++ M' ++ ⟨#[41]⟩ = Z := ⟨_, rfl⟩
                          rw [hZ] at HNX
                          have HO := Lib.hid (HOW.out.below ((Below.refl _ wr).alloc (Nat.le_refl _) (.cells #[.string Z] 9)))
                          go_wp2_with (at_builtin; refine wpList_append_G _ rfl _ _ 27 rfl w.heap.size 9 i0 (.string ⟨#[]⟩) 1 16 Tryd.underlying27 hi hz0 hz1 hz2 rfl (.slice AV L cv) L OS rfl HO.out ⟨_, 0, none⟩ 1 1 [.string Z] rfl rfl (cell_one_new _ _ _) (by simp [Value.oneCell']) (by omega) (by unfold maxLen; omega) (by omega) (by simp; omega) ?_; intro g cap w1 hown1 hgrow1 _ _)
                          refine ⟨⟨n + 1, by go_num, by omega, by omega, ?_, app_grown hbel HOW.out hgrow1⟩, by first | (simp [intOf]; done) | (simp [intOf]; omega)⟩
                          rw [HNX.out, ← List.append_assoc, List.length_append, List.map_append, HLL.out, HOSS.out]; exact hown1
                  · obtain rfl : n = t + 1 := by omega
                    have q7 : ¬ ((t + 1 : Nat) : Int) ≤ (t : Int) := by omega
                    have q7' : ¬ (t : Int) + 1 ≤ (t : Int) := by omega
                    have HST3 : Hid (R = (out ++ mems xs K i t (t + 1 - i)) ++ grpF xs fl (t + 1)) := by unfold Hid; rw [List.append_assoc]; exact HST2.out
                    go_wp2
                    go_step3
                    exact Or.inl ⟨rfl, 2 * (N - (t + 1)) + 1, by omega, t + 1, fl, _, out ++ mems xs K i t (t + 1 - i), rfl, by omega, ⟨rfl, rfl, rfl, rfl, by go_num⟩, by rw [HLL.out, HOSS.out]; exact HOW.out, by rw [HLL.out]; omega, by omega, hbel, HST3⟩
            · obtain rfl : t = N := by omega
              have hsk : seek xs (i + 1) = t := seek_is xs (i + 1) t ht1 (by have := HN.out; omega) hbet.out (fun h => by have := HN.out; omega)
              have hst2 := HST.out
              rw [hsk, if_pos HN.out.symm] at hst2
              have HST2 : Hid (R = out ++ (xAt xs i :: grpF xs fl (i + 1))) := by unfold Hid; rw [HE1.out]; exact hst2
              clear hst2 hsk
              go_wp2
              go_step3
              exact Or.inr ⟨rfl, 2 * (t - i), by omega, i, fl, v, out, rfl, hlt, ⟨rfl, rfl, rfl, rfl, rfl⟩, hown, hol, by omega, hbel, HST2⟩
        · rw [if_pos (Or.inr hcl)] at hst
          rw [hcl] at HC
          have HST : Hid (R = out ++ (xAt xs i :: grpF xs fl (i + 1))) := by unfold Hid; rw [e1]; exact hst
          clear hst e1 hx1 hcl
          go_wp2_with fail
          refine (HI.out _).mono ?_
          rintro e w' ⟨rfl, hw'⟩
          obtain rfl : W = w' := hw'.symm
          go_wp2_with fail
          refine (HC.out _).mono ?_
          rintro e w' ⟨rfl, hw'⟩
          obtain rfl : W = w' := hw'.symm
          go_wp2
          go_step3
          exact Or.inr ⟨rfl, 2 * (N - i), by omega, i, fl, v, out, rfl, hlt, ⟨rfl, rfl, rfl, rfl, rfl⟩, hown, hol, by omega, hbel, HST⟩
    · obtain rfl : i = N := by omega
      have HRE : Hid (R = out) := by
        unfold Hid; have := hrel.out; rw [← HN.out, grp_end, List.append_nil] at this; exact this
      clear hrel
      go_wp2
      change bodyPost Tryd.prog Tryd.f23 (fun e W' => ∃ v, e = .returned v ∧ OwnG W' w.heap.size 9 1 v R.length (R.map Value.string) ∧ Below w.heap.size w W') Exit.ret _ _
      go_ret
      exact ⟨v, rfl, by rw [HRE.out]; exact hown, hbel⟩
  case pass1 =>
    rintro n a W ⟨i, fl, v, out, rfl, hi1, ⟨hd, hsz, t0, t3, t4⟩, hown, hol, hfl, hbel, hrel⟩
    obtain ⟨T, hT, rfl⟩ := act101 a hsz hd
    rw [hT] at t0 t3 t4
    rw [t0, t3, t4]
    clear hT hd hsz t0 t3 t4
    obtain ⟨L, hL⟩ : ∃ L, out.length = L := ⟨_, rfl⟩
    obtain ⟨OS, hOS⟩ : ∃ OS, out.map Value.string = OS := ⟨_, rfl⟩
    obtain ⟨x, hx1⟩ : ∃ x, xs[i]? = some x := ⟨_, List.getElem?_eq_getElem (by have := HN.out; omega)⟩
    obtain ⟨b, o, rfl, hcx⟩ := ha i x hx1
    have hbx := World.block_lt_of_cell? _ _ hcx
    have kx : W.cell? ⟨b, o + i, none⟩ = some (.string x) := by rw [hbel.cell (p := ⟨b, o + i, none⟩) hbx]; exact hcx
    have e1 : xAt xs i = x := xAt_some hx1
    have hrl : R = (out ++ [x]) ++ grpF xs fl (i + 1) := by have := hrel.out; rw [e1] at this; simpa using this
    have HRL := Lib.hid hrl
    have HM : Hid ((out ++ [x]).map Value.string = OS ++ [.string x]) := by unfold Hid; rw [← hOS]; simp
    have HL : Hid ((out ++ [x]).length = L + 1) := by unfold Hid; rw [← hL]; simp
    have q1 : (i : Int) < N := by omega
    obtain ⟨AV, cv, rfl, hcv, _⟩ := hown.form
    rw [hL, hOS] at hown
    rw [hL] at hol ⊢
    have HO := Lib.hid (hown.below ((Below.refl _ W).alloc (Nat.le_refl _) (.cells #[.string x] 9)))
    have HOW := Lib.hid hown
    have hsz := hbel.size
    clear hrl hrel hcx hx1 e1 hL hOS hown
    go_wp2_with (at_builtin; refine wpList_append_G _ rfl _ _ 27 rfl w.heap.size 9 i0 (.string ⟨#[]⟩) 1 16 Tryd.underlying27 hi hz0 hz1 hz2 rfl (.slice AV L cv) L OS rfl HO.out ⟨_, 0, none⟩ 1 1 [.string x] rfl rfl (cell_one_new _ _ _) (by simp [Value.oneCell']) (by omega) (by unfold maxLen; omega) (by omega) (by simp; omega) ?_; intro g cap w1 hown1 hgrow1 _ _)
    go_step3
    refine Or.inl ⟨rfl, 2 * (N - (i + 1)) + 1, by omega, i + 1, fl, _, out ++ [x], rfl, by omega, ⟨rfl, rfl, rfl, rfl, by go_num⟩, by rw [HL.out, HM.out]; exact hown1, by rw [HL.out]; omega, by omega, app_grown hbel HOW.out hgrow1, HRL⟩
end Go.Proofs.YtmcemaphhlcjfaaDoor
