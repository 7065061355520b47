/- Words with brackets as members, in the reference; conditions: a list and texts that lie in memory. -/
import Derived.Test.YtmcemaphhlcjfaaDoorGroupW
namespace Go.Proofs.YtmcemaphhlcjfaaDoor
open Go.RowKit

theorem idx_get : ∀ (l : List UInt8) (c : UInt8) (k : Nat), Lib.indexByte l c = k → ∃ h : k < l.length, l[k] = c
  | [], c, k, h => by simp [Lib.indexByte] at h
  | x :: l, c, k, h => by
    simp only [Lib.indexByte] at h
    split at h
    · rename_i hx
      have hk0 : k = 0 := by
        have h5 : ((0 : Nat) : Int) = (k : Int) := h
        omega
      subst hk0
      exact ⟨by simp, by simpa using hx⟩
    · have hg := Lib.indexByte_ge l c
      split at h
      · omega
      · rename_i hne
        have hne2 : Lib.indexByte l c ≠ -1 := by simpa using hne
        obtain ⟨k', rfl⟩ : ∃ k', k = k' + 1 := ⟨k - 1, by omega⟩
        obtain ⟨h1, h2⟩ := idx_get l c k' (by omega)
        exact ⟨by simpa using h1, by simpa using h2⟩
theorem head_eq (x : ByteArray) (K : Nat) (h : k40 x = K) : x.extract 0 (K + 1) = x.extract 0 K ++ ⟨#[40]⟩ := by
  obtain ⟨h1, h2⟩ := idx_get _ _ _ h
  have h3 : K < x.size := by simpa using h1
  refine ba_ext ?_
  have e : (x.extract 0 K ++ (⟨#[40]⟩ : ByteArray)).data.toList = (x.extract 0 K).data.toList ++ [40] := by
    rw [ByteArray.data_append]
    simp
  rw [e, extract_list, extract_list, List.drop_zero, List.drop_zero, take_snoc x K h3, ← get_list' x K h3, h2]
theorem clB_last (x : ByteArray) (h : 0 < x.size) : clB x = ((x[x.size - 1]'(by omega)).toNat == 41) := by
  have e0 : x.data.toList = x.data.toList.take (x.size - 1) ++ [x[x.size - 1]'(by omega)] := by
    have h1 := take_snoc x (x.size - 1) (by omega)
    rw [show x.size - 1 + 1 = x.size by omega, List.take_of_length_le (by simp)] at h1
    exact h1
  unfold clB
  rw [e0]
  generalize List.take (x.size - 1) x.data.toList = l
  generalize x[x.size - 1]'(by omega) = c
  show Lib.hasSuffix (l ++ [c]) [41] = _
  have : Lib.hasSuffix (l ++ [c]) [41] = ([41] : List UInt8).isSuffixOf (l ++ [c]) := rfl
  rw [this]
  unfold List.isSuffixOf
  simp only [List.reverse_append, List.reverse_singleton, List.singleton_append, List.isPrefixOf, Bool.and_true]
  by_cases hc : c = 41
  · subst hc; rfl
  · have e1 : ((41 : UInt8) == c) = false := beq_eq_false_iff_ne.2 (Ne.symm hc)
    rw [e1]; symm
    refine beq_eq_false_iff_ne.2 fun h => hc (UInt8.toNat_inj.1 h)
theorem clB_empty (x : ByteArray) (h : x.size = 0) : clB x = false := by
  have : x.data.toList = [] := List.eq_nil_of_length_eq_zero (by rw [Array.length_toList]; exact h)
  unfold clB; rw [this]; rfl

set_option maxRecDepth 100000 in
theorem closed_any (x : ByteArray) (w : World) (hx : x.size ≤ 140737488351232) :
    Calls Tryd.prog 52 #[.string x] w fun e w' => e = .returned (.bool (clB x)) ∧ w' = w := by
  by_cases h : x.size = 0
  · have HC := Lib.hid (clB_empty x h)
    have q := ba_em h
    clear h
    go_enter Tryd.func52, Tryd.ntmps52
    go_wp2
    go_ret
    exact ⟨ret_bool HC.out.symm, rfl⟩
  · have q := ba_ne h
    have p2 : x.size - 1 < x.size := by omega
    have HC := Lib.hid (clB_last x (by omega))
    have p1 : IntKind.i64.wrap ((x.size : Int) - 1) = ((x.size - 1 : Nat) : Int) := by rw [IntWalk.i64_in _ (by omega)]; omega
    cases hb : ((x[x.size - 1]'(by omega)).toNat == 41)
    · have hb2 : (((x[x.size - 1]'(by omega)).toNat : Int) == 41) = false := beq_eq_false_iff_ne.2 (fun e => (beq_eq_false_iff_ne.1 hb) (by omega))
      have HC2 : Hid (clB x = false) := HC.out.trans hb
      clear hb HC
      go_enter Tryd.func52, Tryd.ntmps52
      go_wp2
      go_ret
      exact ⟨ret_bool HC2.out.symm, rfl⟩
    · have hb2 : ((x[x.size - 1]'(by omega)).toNat : Int) = 41 := by have := beq_iff_eq.1 hb; omega
      have HC2 : Hid (clB x = true) := HC.out.trans hb
      clear hb HC
      go_enter Tryd.func52, Tryd.ntmps52
      go_wp2
      go_ret
      exact ⟨ret_bool HC2.out.symm, rfl⟩

set_option maxRecDepth 100000 in
set_option maxHeartbeats 4000000 in
theorem GroupR_any (w : World) (A : Option Addr) (N ca : Nat) (xs : List ByteArray) (hN : xs.length = N) (ha : StrsAt w A xs) (hx : N ≤ 1000000000) (hz : ∀ x ∈ xs, x.size ≤ 140737488351232) :
    Calls Tryd.prog 25 #[.slice A N ca] w fun e W' => ∃ v, e = .returned v ∧ OwnG W' w.heap.size 9 1 v (groupB xs).length ((groupB xs).map Value.string) ∧ Below w.heap.size w W' := by
  obtain ⟨i0, hi, hz0, hz1, hz2⟩ := info_parts Tryd.info9
  obtain ⟨R, hR⟩ : ∃ R, groupB xs = R := ⟨_, rfl⟩
  rw [hR]
  have HR : Hid (R = [] ++ grpF xs (N + 1) 0) := by unfold Hid; rw [← hR, ← hN]; rfl
  have HN := Lib.hid hN
  have HZ := Lib.hid hz
  clear hR hN hz
  go_enter Tryd.func25, Tryd.ntmps25
  go_wp2
  go_loopw [3, 4, 5, 6, 7, 8, 9, 10] (fun v iv _ _ _ _ _ _ W => ∃ (i fl : Nat) (out : List ByteArray), iv = .int .i64 i ∧ i ≤ N ∧ OwnG W w.heap.size 9 1 v out.length (out.map Value.string) ∧ out.length ≤ i ∧ N < fl + i ∧ Below w.heap.size w W ∧ Hid (R = out ++ grpF xs fl i)) (fun _ iv _ _ _ _ _ _ _ => N - (intOf iv).toNat)
  case atStart => exact ⟨0, N + 1, [], rfl, Nat.zero_le _, OwnG.nil _ _ _ _, Nat.le_refl _, by omega, Below.refl _ w, HR⟩
  case round =>
    obtain ⟨W0, hW0⟩ : ∃ W0 : World, W0 = wr := ⟨_, rfl⟩
    subst hW0
    obtain ⟨i, fl, out, rfl, hi1, hown, hol, hfl, hbel, hrel⟩ := hrel
    by_cases hlt : i < N
    · obtain ⟨x, hx1⟩ : ∃ x, xs[i]? = some x := ⟨_, List.getElem?_eq_getElem (by have := HN.out; omega)⟩
      have hzx : x.size ≤ 140737488351232 := HZ.out x (List.mem_of_getElem? hx1)
      obtain ⟨b, o, rfl, hcx⟩ := ha i x hx1
      have hbx := World.block_lt_of_cell? _ _ hcx
      have kx : W0.cell? ⟨b, o + i, none⟩ = some (.string x) := by rw [hbel.cell (p := ⟨b, o + i, none⟩) hbx]; exact hcx
      have e1 : xAt xs i = x := xAt_some hx1
      obtain ⟨fl, rfl⟩ : ∃ g, fl = g + 1 := ⟨fl - 1, by omega⟩
      have hst := hrel.out
      rw [grpF, if_pos (by have := HN.out; omega), e1] at hst
      have q1 : (i : Int) < N := by omega
      have HI : Hid (∀ w, Calls Tryd.prog 45 #[.string x, .int .u8 40] w fun e w' => e = .returned (.int .i64 (k40 x)) ∧ w' = w) := fun w => refIndex_any x 40 40 rfl w (by omega)
      have hk40 := indexByte_lt x.data.toList 40
      have hk40g := Lib.indexByte_ge x.data.toList 40
      have hkx : k40 x < x.size := by unfold k40; simpa using hk40
      have hkg : -1 ≤ k40 x := hk40g
      have HHD := Lib.hid (head_eq x)
      generalize k40 x = k at *
      have HCX := Lib.hid hcx
      obtain ⟨L, hL⟩ : ∃ L, out.length = L := ⟨_, rfl⟩
      obtain ⟨OS, hOS⟩ : ∃ OS, out.map Value.string = OS := ⟨_, rfl⟩
      have HM : Hid ((out ++ [x]).map Value.string = OS ++ [.string x]) := by unfold Hid; rw [← hOS]; simp
      have HL : Hid ((out ++ [x]).length = L + 1) := by unfold Hid; rw [← hL]; simp
      obtain ⟨AV, cv, rfl, hcv, _⟩ := hown.form
      rw [hL, hOS] at hown
      rw [hL] at hol ⊢
      have HOW := Lib.hid hown
      have HO := Lib.hid (hown.below ((Below.refl _ W0).alloc (Nat.le_refl _) (.cells #[.string x] 9)))
      have HLL := Lib.hid hL
      have HOSS := Lib.hid hOS
      have hsz := hbel.size
      clear hk40 hk40g hcx hrel hL hOS hown
      by_cases hk1 : k < 1
      · rw [if_pos (Or.inl hk1)] at hst
        have HRL : Hid (R = (out ++ [x]) ++ grpF xs fl (i + 1)) := by unfold Hid; rw [hst]; simp
        have hk2 : k ≤ 0 := by omega
        clear hst e1 hx1 hk1
        go_wp2_with fail
        refine (HI.out _).mono ?_
        rintro e w' ⟨rfl, hw'⟩
        obtain rfl : W0 = w' := hw'.symm
        go_wp2_with (at_builtin; refine wpList_append_G _ rfl _ _ 27 rfl w.heap.size 9 i0 (.string ⟨#[]⟩) 1 16 Tryd.underlying27 hi hz0 hz1 hz2 rfl (.slice AV L cv) L OS rfl HO.out ⟨_, 0, none⟩ 1 1 [.string x] rfl rfl (cell_one_new _ _ _) (by simp [Value.oneCell']) (by omega) (by unfold maxLen; omega) (by omega) (by simp; omega) ?_; intro g cap w1 hown1 hgrow1 _ _)
        exact ⟨⟨i + 1, fl, out ++ [x], by go_num, by omega, by rw [HL.out, HM.out]; exact hown1, by rw [HL.out]; omega, by omega, app_grown hbel HOW.out hgrow1, HRL⟩, by simp [intOf]; omega⟩
      · have hk2 : ¬ k ≤ 0 := by omega
        have HC := Lib.hid fun w => closed_any x w hzx
        cases hcl : clB x
        · rw [if_neg (by intro h; rcases h with h | h; exact hk1 h; rw [hcl] at h; cases h)] at hst
          rw [hcl] at HC
          have HST := Lib.hid hst
          have HE1 := Lib.hid e1
          clear hst e1 hx1 hcl hk1
          go_wp2_with fail
          refine (HI.out _).mono ?_
          rintro e w' ⟨rfl, hw'⟩
          obtain rfl : W0 = w' := hw'.symm
          go_wp2_with fail
          refine (HC.out _).mono ?_
          rintro e w' ⟨rfl, hw'⟩
          obtain rfl : W0 = w' := hw'.symm
          go_wp2
          go_loopw [6, 7] (fun ev nv wi => ∃ n : Nat, nv = .int .i64 n ∧ i + 1 ≤ n ∧ n ≤ N ∧ wi = W0 ∧ ((ev = .int .i64 (-1) ∧ Hid (∀ m, i + 1 ≤ m → m < n → clB (xAt xs m) = false)) ∨ (∃ t : Nat, ev = .int .i64 t ∧ n = t + 1 ∧ i + 1 ≤ t ∧ Hid (clB (xAt xs t) = true ∧ ∀ m, i + 1 ≤ m → m < t → clB (xAt xs m) = false)))) (fun _ nv _ => N - (intOf nv).toNat)
          case atStart => exact ⟨i + 1, by go_num, Nat.le_refl _, by omega, rfl, .inl ⟨rfl, fun m h1 h2 => by omega⟩⟩
          case round =>
            obtain ⟨n, rfl, hn1, hn2, hwr, hcase⟩ := hrel
            obtain rfl : W0 = wr := hwr.symm
            rcases hcase with ⟨rfl, hbet⟩ | ⟨t, rfl, rfl, ht1, hcl⟩
            · by_cases hnN : n < N
              · obtain ⟨y, hy1⟩ : ∃ y, xs[n]? = some y := ⟨_, List.getElem?_eq_getElem (by have := HN.out; omega)⟩
                have hzy : y.size ≤ 140737488351232 := HZ.out y (List.mem_of_getElem? hy1)
                obtain ⟨b', o', hAA, hcy⟩ := ha n y hy1
                cases hAA
                have ky : W0.cell? ⟨b, o + n, none⟩ = some (.string y) := by rw [hbel.cell (p := ⟨b, o + n, none⟩) hbx]; exact hcy
                have e2 : xAt xs n = y := xAt_some hy1
                have HCy := Lib.hid fun w => closed_any y w hzy
                have q2 : (n : Int) < N := by omega
                cases hcy2 : clB y
                · rw [hcy2] at HCy
                  have HBT : Hid (∀ m, i + 1 ≤ m → m < n + 1 → clB (xAt xs m) = false) := fun m h1 h2 => by
                    by_cases hm : m = n
                    · rw [hm, e2]; exact hcy2
                    · exact hbet.out m h1 (by omega)
                  clear hcy2 e2 hy1 hcy hbet
                  go_wp2_with fail
                  refine (HCy.out _).mono ?_
                  rintro e w' ⟨rfl, hw'⟩
                  obtain rfl : W0 = w' := hw'.symm
                  go_wp2
                  exact ⟨⟨n + 1, by go_num, by omega, by omega, by trivial, .inl ⟨rfl, HBT⟩⟩, by simp [intOf]; omega⟩
                · rw [hcy2] at HCy
                  have HBT : Hid (clB (xAt xs n) = true ∧ ∀ m, i + 1 ≤ m → m < n → clB (xAt xs m) = false) := ⟨by rw [e2]; exact hcy2, hbet.out⟩
                  clear hcy2 e2 hy1 hcy hbet
                  go_wp2_with fail
                  refine (HCy.out _).mono ?_
                  rintro e w' ⟨rfl, hw'⟩
                  obtain rfl : W0 = w' := hw'.symm
                  go_wp2
                  exact ⟨⟨n + 1, by go_num, by omega, by omega, by trivial, .inr ⟨n, rfl, rfl, hn1, HBT⟩⟩, by simp [intOf]; omega⟩
              · obtain rfl : n = N := by omega
                have hsk : seek xs (i + 1) = n := seek_is xs (i + 1) n hn1 (by have := HN.out; omega) hbet.out (fun h => by have := HN.out; omega)
                have hst2 := HST.out
                rw [hsk, if_pos HN.out.symm] at hst2
                have HRL : Hid (R = (out ++ [x]) ++ grpF xs fl (i + 1)) := by unfold Hid; rw [hst2]; simp
                clear hst2 hsk
                go_wp2_with (at_builtin; refine wpList_append_G _ rfl _ _ 27 rfl w.heap.size 9 i0 (.string ⟨#[]⟩) 1 16 Tryd.underlying27 hi hz0 hz1 hz2 rfl (.slice AV L cv) L OS rfl HO.out ⟨_, 0, none⟩ 1 1 [.string x] rfl rfl (cell_one_new _ _ _) (by simp [Value.oneCell']) (by omega) (by unfold maxLen; omega) (by omega) (by simp; omega) ?_; intro g cap w1 hown1 hgrow1 _ _)
                exact ⟨⟨i + 1, fl, out ++ [x], by go_num, by omega, by rw [HL.out, HM.out]; exact hown1, by rw [HL.out]; omega, by omega, app_grown hbel HOW.out hgrow1, HRL⟩, by simp [intOf]; omega⟩
            · have htN : t < N := by omega
              obtain ⟨y, hy1⟩ : ∃ y, xs[t]? = some y := ⟨_, List.getElem?_eq_getElem (by have := HN.out; omega)⟩
              have hzy : y.size ≤ 140737488351232 := HZ.out y (List.mem_of_getElem? hy1)
              obtain ⟨b', o', hAA, hcy⟩ := ha t y hy1
              cases hAA
              have e2 : xAt xs t = y := xAt_some hy1
              have hcy2 : clB y = true := by rw [← e2]; exact hcl.out.1
              have hsk : seek xs (i + 1) = t := seek_is xs (i + 1) t ht1 (by have := HN.out; omega) hcl.out.2 (fun _ => hcl.out.1)
              have hst2 := HST.out
              rw [hsk, if_neg (by have := HN.out; omega)] at hst2
              have hyp : 1 ≤ y.size := by
                have h9 : [41].length ≤ y.data.toList.length := List.IsSuffix.length_le (List.isSuffixOf_iff_suffix.1 hcy2)
                simpa using h9
              have HE2 := Lib.hid e2
              have HCY := Lib.hid hcy
              obtain ⟨K, rfl⟩ : ∃ K : Nat, k = K := ⟨k.toNat, by omega⟩
              rw [Int.toNat_natCast] at hst2
              have HST2 := Lib.hid hst2
              have hKx : K + 1 ≤ x.size := by omega
              have v1 : IntKind.i64.wrap ((K : Int) + 1) = ((K + 1 : Nat) : Int) := by rw [IntWalk.i64_in _ (by omega)]; omega
              have v2 : IntKind.i64.wrap ((y.size : Int) - 1) = ((y.size - 1 : Nat) : Int) := by rw [IntWalk.i64_in _ (by omega)]; omega
              have v3 : y.size - 1 ≤ y.size := by omega
              obtain ⟨P, hP⟩ : ∃ P, x.extract 0 K = P := ⟨_, rfl⟩
              obtain ⟨H, hH⟩ : ∃ H, x.extract 0 (K + 1) = H := ⟨_, rfl⟩
              have HH : Hid (H = P ++ ⟨#[40]⟩) := by unfold Hid; rw [← hH, ← hP]; exact HHD.out K rfl
              have HP := Lib.hid hP
              have hHs : H.size ≤ 140737488351232 := by rw [← hH]; simp; omega
              have q9 : ¬ (t : Int) < 0 := by omega
              clear hst2 hsk hcy2 e2 hy1 hcy hcl hP
              rcases Nat.lt_or_ge (t + 1) N with hb9 | hb9
              · have q10 : (t : Int) + 1 < N := by omega
                go_wp2
                go_loopw [3, 9, 10] (fun v' nv _ wi => ∃ (n : Nat), nv = .int .i64 n ∧ i ≤ n ∧ n ≤ t + 1 ∧ OwnG wi w.heap.size 9 1 v' (out ++ mems xs K i t (n - i)).length ((out ++ mems xs K i t (n - i)).map Value.string) ∧ Below w.heap.size w wi) (fun _ nv _ _ => t + 1 - (intOf nv).toNat)
                case atStart => exact ⟨i, rfl, Nat.le_refl _, by omega, by rw [Nat.sub_self]; simp only [mems, List.range_zero, List.flatMap_nil, List.append_nil]; rw [HLL.out, HOSS.out]; exact HOW.out, hbel⟩
                case round =>
                  clear kx HOW HO hbel hcv hsz
                  obtain ⟨n, rfl, hin, hnt1, hown, hbel⟩ := hrel
                  have hol2 : out.length ≤ i := by rw [HLL.out]; exact hol
                  clear HLL HOSS HL HM
                  obtain ⟨L, hL⟩ : ∃ L, (out ++ mems xs K i t (n - i)).length = L := ⟨_, rfl⟩
                  obtain ⟨OS, hOS⟩ : ∃ OS, (out ++ mems xs K i t (n - i)).map Value.string = OS := ⟨_, rfl⟩
                  have hLb : L ≤ n := by rw [← hL, List.length_append]; have := mems_len xs K i t (n - i); omega
                  obtain ⟨AV, cv, rfl, hcv, _⟩ := hown.form
                  rw [hL, hOS] at hown
                  rw [hL]
                  have HOW := Lib.hid hown
                  have hsz := hbel.size
                  have HLL := Lib.hid hL
                  have HOSS := Lib.hid hOS
                  clear hL hOS hown
                  by_cases hdt : n ≤ t
                  · obtain ⟨M, hMw⟩ : ∃ M, mw xs K i t n = M := ⟨_, rfl⟩
                    have hmm := mems_succ xs K i t (n - i)
                    rw [HE1.out, show i + (n - i) = n by omega, show n - i + 1 = n + 1 - i by omega, hMw, HP.out] at hmm
                    have HMM : Hid (M.size = 0 → mems xs K i t (n + 1 - i) = mems xs K i t (n - i)) := fun h0 => by rw [hmm, memb, if_pos h0, List.append_nil]
                    have HMN : Hid (M.size ≠ 0 → mems xs K i t (n + 1 - i) = mems xs K i t (n - i) ++ [P ++ ⟨#[40]⟩ ++ M ++ ⟨#[41]⟩]) := fun h0 => by rw [hmm, memb, if_neg h0]
                    clear hmm
                    by_cases hni : n = i
                    · obtain rfl : i = n := hni.symm
                      by_cases hme : M.size = 0
                      · skip
                        have hM : x.extract (K + 1) x.size = M := by rw [← hMw]; unfold mw; rw [if_pos rfl, if_neg (by omega), HE1.out]
                        have n1 : ((i : Int) == (t : Int)) = false := beq_eq_false_iff_ne.2 (by omega)
                        have hms : M.size ≤ 140737488351232 := by rw [← hM]; simp; omega
                        have kz : wr.cell? ⟨b, o + i, none⟩ = some (.string x) := by rw [hbel.cell (p := ⟨b, o + i, none⟩) hbx]; exact HCX.out
                        have q5 : (i : Int) ≤ (t : Int) := by omega
                        have q6 : (i : Int) < (N : Int) := by omega
                        have q := ba_em (t := M) hme
                        have HNX := Lib.hid (HMM.out hme)
                        clear HMM HMN hme hMw
                        go_wp2
                        refine ⟨⟨i + 1, by go_num, by omega, by omega, ?_, hbel⟩, by first | (simp [intOf]; done) | (simp [intOf]; omega)⟩
                        rw [HNX.out, HLL.out, HOSS.out]; exact HOW.out
                      · skip
                        have hM : x.extract (K + 1) x.size = M := by rw [← hMw]; unfold mw; rw [if_pos rfl, if_neg (by omega), HE1.out]
                        have n1 : ((i : Int) == (t : Int)) = false := beq_eq_false_iff_ne.2 (by omega)
                        have hms : M.size ≤ 140737488351232 := by rw [← hM]; simp; omega
                        have kz : wr.cell? ⟨b, o + i, none⟩ = some (.string x) := by rw [hbel.cell (p := ⟨b, o + i, none⟩) hbx]; exact HCX.out
                        have q5 : (i : Int) ≤ (t : Int) := by omega
                        have q6 : (i : Int) < (N : Int) := by omega
                        have q := ba_ne (t := M) hme
                        have HNX := Lib.hid (HMN.out hme)
                        have g1 : ¬ (9223372036854775807 < H.size + 1) := by omega
                        have g2 : ¬ (9223372036854775807 < H.size + (1 + M.size)) := by omega
                        have g3 : ¬ (9223372036854775807 < H.size + (1 + (M.size + 1))) := by omega
                        have g4 : ¬ (9223372036854775807 < H.size + M.size) := by omega
                        have g5 : ¬ (9223372036854775807 < H.size + M.size + 1) := by omega
                        clear HMM HMN hme hMw
                        obtain ⟨Z, hZ⟩ : ∃ Z, H ++ M ++ ⟨#[41]⟩ = Z := ⟨_, rfl⟩
                        rw [← HH.out, hZ] at HNX
                        have HO := Lib.hid (HOW.out.below ((Below.refl _ wr).alloc (Nat.le_refl _) (.cells #[.string Z] 9)))
                        go_wp2_with (at_builtin; refine wpList_append_G _ rfl _ _ 27 rfl w.heap.size 9 i0 (.string ⟨#[]⟩) 1 16 Tryd.underlying27 hi hz0 hz1 hz2 rfl (.slice AV L cv) L OS rfl HO.out ⟨_, 0, none⟩ 1 1 [.string Z] rfl rfl (cell_one_new _ _ _) (by simp [Value.oneCell']) (by omega) (by unfold maxLen; omega) (by omega) (by simp; omega) ?_; intro g cap w1 hown1 hgrow1 _ _)
                        refine ⟨⟨i + 1, by go_num, by omega, by omega, ?_, app_grown hbel HOW.out hgrow1⟩, by first | (simp [intOf]; done) | (simp [intOf]; omega)⟩
                        rw [HNX.out, ← List.append_assoc, List.length_append, List.map_append, HLL.out, HOSS.out]; exact hown1
                    · by_cases hnt : n = t
                      · obtain rfl : t = n := hnt.symm
                        by_cases hme : M.size = 0
                        · skip
                          have hM : y.extract 0 (y.size - 1) = M := by rw [← hMw]; unfold mw; rw [if_pos rfl, if_neg (by omega), HE2.out]
                          have n1 : ((t : Int) == (i : Int)) = false := beq_eq_false_iff_ne.2 (by omega)
                          have hms : M.size ≤ 140737488351232 := by rw [← hM]; simp; omega
                          have kz : wr.cell? ⟨b, o + t, none⟩ = some (.string y) := by rw [hbel.cell (p := ⟨b, o + t, none⟩) hbx]; exact HCY.out
                          have q5 : (t : Int) ≤ (t : Int) := by omega
                          have q6 : (t : Int) < (N : Int) := by omega
                          have q := ba_em (t := M) hme
                          have HNX := Lib.hid (HMM.out hme)
                          clear HMM HMN hme hMw
                          go_wp2
                          refine ⟨⟨t + 1, by go_num, by omega, by omega, ?_, hbel⟩, by first | (simp [intOf]; done) | (simp [intOf]; omega)⟩
                          rw [HNX.out, HLL.out, HOSS.out]; exact HOW.out
                        · skip
                          have hM : y.extract 0 (y.size - 1) = M := by rw [← hMw]; unfold mw; rw [if_pos rfl, if_neg (by omega), HE2.out]
                          have n1 : ((t : Int) == (i : Int)) = false := beq_eq_false_iff_ne.2 (by omega)
                          have hms : M.size ≤ 140737488351232 := by rw [← hM]; simp; omega
                          have kz : wr.cell? ⟨b, o + t, none⟩ = some (.string y) := by rw [hbel.cell (p := ⟨b, o + t, none⟩) hbx]; exact HCY.out
                          have q5 : (t : Int) ≤ (t : Int) := by omega
                          have q6 : (t : Int) < (N : Int) := by omega
                          have q := ba_ne (t := M) hme
                          have HNX := Lib.hid (HMN.out hme)
                          have g1 : ¬ (9223372036854775807 < H.size + 1) := by omega
                          have g2 : ¬ (9223372036854775807 < H.size + (1 + M.size)) := by omega
                          have g3 : ¬ (9223372036854775807 < H.size + (1 + (M.size + 1))) := by omega
                          have g4 : ¬ (9223372036854775807 < H.size + M.size) := by omega
                          have g5 : ¬ (9223372036854775807 < H.size + M.size + 1) := by omega
                          clear HMM HMN hme hMw
                          obtain ⟨Z, hZ⟩ : ∃ Z, H ++ M ++ ⟨#[41]⟩ = Z := ⟨_, rfl⟩
                          rw [← HH.out, hZ] at HNX
                          have HO := Lib.hid (HOW.out.below ((Below.refl _ wr).alloc (Nat.le_refl _) (.cells #[.string Z] 9)))
                          go_wp2_with (at_builtin; refine wpList_append_G _ rfl _ _ 27 rfl w.heap.size 9 i0 (.string ⟨#[]⟩) 1 16 Tryd.underlying27 hi hz0 hz1 hz2 rfl (.slice AV L cv) L OS rfl HO.out ⟨_, 0, none⟩ 1 1 [.string Z] rfl rfl (cell_one_new _ _ _) (by simp [Value.oneCell']) (by omega) (by unfold maxLen; omega) (by omega) (by simp; omega) ?_; intro g cap w1 hown1 hgrow1 _ _)
                          refine ⟨⟨t + 1, by go_num, by omega, by omega, ?_, app_grown hbel HOW.out hgrow1⟩, by first | (simp [intOf]; done) | (simp [intOf]; omega)⟩
                          rw [HNX.out, ← List.append_assoc, List.length_append, List.map_append, HLL.out, HOSS.out]; exact hown1
                      · by_cases hme : M.size = 0
                        · skip
                          obtain ⟨M', hz1⟩ : ∃ z, xs[n]? = some z := ⟨_, List.getElem?_eq_getElem (by have := HN.out; omega)⟩
                          have hM : M' = M := by rw [← hMw]; unfold mw; rw [if_neg hni, if_neg hnt, xAt_some hz1]
                          subst hM
                          have hms : M'.size ≤ 140737488351232 := HZ.out M' (List.mem_of_getElem? hz1)
                          obtain ⟨b', o', hAA, hcz⟩ := ha n M' hz1
                          cases hAA
                          have kz : wr.cell? ⟨b, o + n, none⟩ = some (.string M') := by rw [hbel.cell (p := ⟨b, o + n, none⟩) hbx]; exact hcz
                          have n1 : ((n : Int) == (i : Int)) = false := beq_eq_false_iff_ne.2 (by omega)
                          have n2 : ((n : Int) == (t : Int)) = false := beq_eq_false_iff_ne.2 (by omega)
                          clear hz1 hcz
                          have q5 : (n : Int) ≤ (t : Int) := by omega
                          have q6 : (n : Int) < (N : Int) := by omega
                          have q := ba_em (t := M') hme
                          have HNX := Lib.hid (HMM.out hme)
                          clear HMM HMN hme hMw
                          go_wp2
                          refine ⟨⟨n + 1, by go_num, by omega, by omega, ?_, hbel⟩, by first | (simp [intOf]; done) | (simp [intOf]; omega)⟩
                          rw [HNX.out, HLL.out, HOSS.out]; exact HOW.out
                        · skip
                          obtain ⟨M', hz1⟩ : ∃ z, xs[n]? = some z := ⟨_, List.getElem?_eq_getElem (by have := HN.out; omega)⟩
                          have hM : M' = M := by rw [← hMw]; unfold mw; rw [if_neg hni, if_neg hnt, xAt_some hz1]
                          subst hM
                          have hms : M'.size ≤ 140737488351232 := HZ.out M' (List.mem_of_getElem? hz1)
                          obtain ⟨b', o', hAA, hcz⟩ := ha n M' hz1
                          cases hAA
                          have kz : wr.cell? ⟨b, o + n, none⟩ = some (.string M') := by rw [hbel.cell (p := ⟨b, o + n, none⟩) hbx]; exact hcz
                          have n1 : ((n : Int) == (i : Int)) = false := beq_eq_false_iff_ne.2 (by omega)
                          have n2 : ((n : Int) == (t : Int)) = false := beq_eq_false_iff_ne.2 (by omega)
                          clear hz1 hcz
                          have q5 : (n : Int) ≤ (t : Int) := by omega
                          have q6 : (n : Int) < (N : Int) := by omega
                          have q := ba_ne (t := M') hme
                          have HNX := Lib.hid (HMN.out hme)
                          have g1 : ¬ (9223372036854775807 < H.size + 1) := by omega
                          have g2 : ¬ (9223372036854775807 < H.size + (1 + M'.size)) := by omega
                          have g3 : ¬ (9223372036854775807 < H.size + (1 + (M'.size + 1))) := by omega
                          have g4 : ¬ (9223372036854775807 < H.size + M'.size) := by omega
                          have g5 : ¬ (9223372036854775807 < H.size + M'.size + 1) := by omega
                          clear HMM HMN hme hMw
                          obtain ⟨Z, hZ⟩ : ∃ Z, H ++ M' ++ ⟨#[41]⟩ = Z := ⟨_, rfl⟩
                          rw [← HH.out, hZ] at HNX
                          have HO := Lib.hid (HOW.out.below ((Below.refl _ wr).alloc (Nat.le_refl _) (.cells #[.string Z] 9)))
                          go_wp2_with (at_builtin; refine wpList_append_G _ rfl _ _ 27 rfl w.heap.size 9 i0 (.string ⟨#[]⟩) 1 16 Tryd.underlying27 hi hz0 hz1 hz2 rfl (.slice AV L cv) L OS rfl HO.out ⟨_, 0, none⟩ 1 1 [.string Z] rfl rfl (cell_one_new _ _ _) (by simp [Value.oneCell']) (by omega) (by unfold maxLen; omega) (by omega) (by simp; omega) ?_; intro g cap w1 hown1 hgrow1 _ _)
                          refine ⟨⟨n + 1, by go_num, by omega, by omega, ?_, app_grown hbel HOW.out hgrow1⟩, by first | (simp [intOf]; done) | (simp [intOf]; omega)⟩
                          rw [HNX.out, ← List.append_assoc, List.length_append, List.map_append, HLL.out, HOSS.out]; exact hown1
                  · obtain rfl : n = t + 1 := by omega
                    have q7 : ¬ ((t + 1 : Nat) : Int) ≤ (t : Int) := by omega
                    have q7' : ¬ (t : Int) + 1 ≤ (t : Int) := by omega
                    have HST3 : Hid (R = (out ++ mems xs K i t (t + 1 - i)) ++ grpF xs fl (t + 1)) := by unfold Hid; rw [List.append_assoc]; exact HST2.out
                    go_wp2
                    exact ⟨⟨t + 1, fl, out ++ mems xs K i t (t + 1 - i), by go_num, by omega, by rw [HLL.out, HOSS.out]; exact HOW.out, by rw [HLL.out]; omega, by omega, hbel, HST3⟩, by simp [intOf]; omega⟩
              · have q10 : ¬ (t : Int) + 1 < N := by omega
                go_wp2
                go_loopw [3, 9, 10] (fun v' nv _ wi => ∃ (n : Nat), nv = .int .i64 n ∧ i ≤ n ∧ n ≤ t + 1 ∧ OwnG wi w.heap.size 9 1 v' (out ++ mems xs K i t (n - i)).length ((out ++ mems xs K i t (n - i)).map Value.string) ∧ Below w.heap.size w wi) (fun _ nv _ _ => t + 1 - (intOf nv).toNat)
                case atStart => exact ⟨i, rfl, Nat.le_refl _, by omega, by rw [Nat.sub_self]; simp only [mems, List.range_zero, List.flatMap_nil, List.append_nil]; rw [HLL.out, HOSS.out]; exact HOW.out, hbel⟩
                case round =>
                  clear kx HOW HO hbel hcv hsz
                  obtain ⟨n, rfl, hin, hnt1, hown, hbel⟩ := hrel
                  have hol2 : out.length ≤ i := by rw [HLL.out]; exact hol
                  clear HLL HOSS HL HM
                  obtain ⟨L, hL⟩ : ∃ L, (out ++ mems xs K i t (n - i)).length = L := ⟨_, rfl⟩
                  obtain ⟨OS, hOS⟩ : ∃ OS, (out ++ mems xs K i t (n - i)).map Value.string = OS := ⟨_, rfl⟩
                  have hLb : L ≤ n := by rw [← hL, List.length_append]; have := mems_len xs K i t (n - i); omega
                  obtain ⟨AV, cv, rfl, hcv, _⟩ := hown.form
                  rw [hL, hOS] at hown
                  rw [hL]
                  have HOW := Lib.hid hown
                  have hsz := hbel.size
                  have HLL := Lib.hid hL
                  have HOSS := Lib.hid hOS
                  clear hL hOS hown
                  by_cases hdt : n ≤ t
                  · obtain ⟨M, hMw⟩ : ∃ M, mw xs K i t n = M := ⟨_, rfl⟩
                    have hmm := mems_succ xs K i t (n - i)
                    rw [HE1.out, show i + (n - i) = n by omega, show n - i + 1 = n + 1 - i by omega, hMw, HP.out] at hmm
                    have HMM : Hid (M.size = 0 → mems xs K i t (n + 1 - i) = mems xs K i t (n - i)) := fun h0 => by rw [hmm, memb, if_pos h0, List.append_nil]
                    have HMN : Hid (M.size ≠ 0 → mems xs K i t (n + 1 - i) = mems xs K i t (n - i) ++ [P ++ ⟨#[40]⟩ ++ M ++ ⟨#[41]⟩]) := fun h0 => by rw [hmm, memb, if_neg h0]
                    clear hmm
                    by_cases hni : n = i
                    · obtain rfl : i = n := hni.symm
                      by_cases hme : M.size = 0
                      · skip
                        have hM : x.extract (K + 1) x.size = M := by rw [← hMw]; unfold mw; rw [if_pos rfl, if_neg (by omega), HE1.out]
                        have n1 : ((i : Int) == (t : Int)) = false := beq_eq_false_iff_ne.2 (by omega)
                        have hms : M.size ≤ 140737488351232 := by rw [← hM]; simp; omega
                        have kz : wr.cell? ⟨b, o + i, none⟩ = some (.string x) := by rw [hbel.cell (p := ⟨b, o + i, none⟩) hbx]; exact HCX.out
                        have q5 : (i : Int) ≤ (t : Int) := by omega
                        have q6 : (i : Int) < (N : Int) := by omega
                        have q := ba_em (t := M) hme
                        have HNX := Lib.hid (HMM.out hme)
                        clear HMM HMN hme hMw
                        go_wp2
                        refine ⟨⟨i + 1, by go_num, by omega, by omega, ?_, hbel⟩, by first | (simp [intOf]; done) | (simp [intOf]; omega)⟩
                        rw [HNX.out, HLL.out, HOSS.out]; exact HOW.out
                      · skip
                        have hM : x.extract (K + 1) x.size = M := by rw [← hMw]; unfold mw; rw [if_pos rfl, if_neg (by omega), HE1.out]
                        have n1 : ((i : Int) == (t : Int)) = false := beq_eq_false_iff_ne.2 (by omega)
                        have hms : M.size ≤ 140737488351232 := by rw [← hM]; simp; omega
                        have kz : wr.cell? ⟨b, o + i, none⟩ = some (.string x) := by rw [hbel.cell (p := ⟨b, o + i, none⟩) hbx]; exact HCX.out
                        have q5 : (i : Int) ≤ (t : Int) := by omega
                        have q6 : (i : Int) < (N : Int) := by omega
                        have q := ba_ne (t := M) hme
                        have HNX := Lib.hid (HMN.out hme)
                        have g1 : ¬ (9223372036854775807 < H.size + 1) := by omega
                        have g2 : ¬ (9223372036854775807 < H.size + (1 + M.size)) := by omega
                        have g3 : ¬ (9223372036854775807 < H.size + (1 + (M.size + 1))) := by omega
                        have g4 : ¬ (9223372036854775807 < H.size + M.size) := by omega
                        have g5 : ¬ (9223372036854775807 < H.size + M.size + 1) := by omega
                        clear HMM HMN hme hMw
                        obtain ⟨Z, hZ⟩ : ∃ Z, H ++ M ++ ⟨#[41]⟩ = Z := ⟨_, rfl⟩
                        rw [← HH.out, hZ] at HNX
                        have HO := Lib.hid (HOW.out.below ((Below.refl _ wr).alloc (Nat.le_refl _) (.cells #[.string Z] 9)))
                        go_wp2_with (at_builtin; refine wpList_append_G _ rfl _ _ 27 rfl w.heap.size 9 i0 (.string ⟨#[]⟩) 1 16 Tryd.underlying27 hi hz0 hz1 hz2 rfl (.slice AV L cv) L OS rfl HO.out ⟨_, 0, none⟩ 1 1 [.string Z] rfl rfl (cell_one_new _ _ _) (by simp [Value.oneCell']) (by omega) (by unfold maxLen; omega) (by omega) (by simp; omega) ?_; intro g cap w1 hown1 hgrow1 _ _)
                        refine ⟨⟨i + 1, by go_num, by omega, by omega, ?_, app_grown hbel HOW.out hgrow1⟩, by first | (simp [intOf]; done) | (simp [intOf]; omega)⟩
                        rw [HNX.out, ← List.append_assoc, List.length_append, List.map_append, HLL.out, HOSS.out]; exact hown1
                    · by_cases hnt : n = t
                      · obtain rfl : t = n := hnt.symm
                        by_cases hme : M.size = 0
                        · skip
                          have hM : y.extract 0 (y.size - 1) = M := by rw [← hMw]; unfold mw; rw [if_pos rfl, if_neg (by omega), HE2.out]
                          have n1 : ((t : Int) == (i : Int)) = false := beq_eq_false_iff_ne.2 (by omega)
                          have hms : M.size ≤ 140737488351232 := by rw [← hM]; simp; omega
                          have kz : wr.cell? ⟨b, o + t, none⟩ = some (.string y) := by rw [hbel.cell (p := ⟨b, o + t, none⟩) hbx]; exact HCY.out
                          have q5 : (t : Int) ≤ (t : Int) := by omega
                          have q6 : (t : Int) < (N : Int) := by omega
                          have q := ba_em (t := M) hme
                          have HNX := Lib.hid (HMM.out hme)
                          clear HMM HMN hme hMw
                          go_wp2
                          refine ⟨⟨t + 1, by go_num, by omega, by omega, ?_, hbel⟩, by first | (simp [intOf]; done) | (simp [intOf]; omega)⟩
                          rw [HNX.out, HLL.out, HOSS.out]; exact HOW.out
                        · skip
                          have hM : y.extract 0 (y.size - 1) = M := by rw [← hMw]; unfold mw; rw [if_pos rfl, if_neg (by omega), HE2.out]
                          have n1 : ((t : Int) == (i : Int)) = false := beq_eq_false_iff_ne.2 (by omega)
                          have hms : M.size ≤ 140737488351232 := by rw [← hM]; simp; omega
                          have kz : wr.cell? ⟨b, o + t, none⟩ = some (.string y) := by rw [hbel.cell (p := ⟨b, o + t, none⟩) hbx]; exact HCY.out
                          have q5 : (t : Int) ≤ (t : Int) := by omega
                          have q6 : (t : Int) < (N : Int) := by omega
                          have q := ba_ne (t := M) hme
                          have HNX := Lib.hid (HMN.out hme)
                          have g1 : ¬ (9223372036854775807 < H.size + 1) := by omega
                          have g2 : ¬ (9223372036854775807 < H.size + (1 + M.size)) := by omega
                          have g3 : ¬ (9223372036854775807 < H.size + (1 + (M.size + 1))) := by omega
                          have g4 : ¬ (9223372036854775807 < H.size + M.size) := by omega
                          have g5 : ¬ (9223372036854775807 < H.size + M.size + 1) := by omega
                          clear HMM HMN hme hMw
                          obtain ⟨Z, hZ⟩ : ∃ Z, H ++ M ++ ⟨#[41]⟩ = Z := ⟨_, rfl⟩
                          rw [← HH.out, hZ] at HNX
                          have HO := Lib.hid (HOW.out.below ((Below.refl _ wr).alloc (Nat.le_refl _) (.cells #[.string Z] 9)))
                          go_wp2_with (at_builtin; refine wpList_append_G _ rfl _ _ 27 rfl w.heap.size 9 i0 (.string ⟨#[]⟩) 1 16 Tryd.underlying27 hi hz0 hz1 hz2 rfl (.slice AV L cv) L OS rfl HO.out ⟨_, 0, none⟩ 1 1 [.string Z] rfl rfl (cell_one_new _ _ _) (by simp [Value.oneCell']) (by omega) (by unfold maxLen; omega) (by omega) (by simp; omega) ?_; intro g cap w1 hown1 hgrow1 _ _)
                          refine ⟨⟨t + 1, by go_num, by omega, by omega, ?_, app_grown hbel HOW.out hgrow1⟩, by first | (simp [intOf]; done) | (simp [intOf]; omega)⟩
                          rw [HNX.out, ← List.append_assoc, List.length_append, List.map_append, HLL.out, HOSS.out]; exact hown1
                      · by_cases hme : M.size = 0
                        · skip
                          obtain ⟨M', hz1⟩ : ∃ z, xs[n]? = some z := ⟨_, List.getElem?_eq_getElem (by have := HN.out; omega)⟩
                          have hM : M' = M := by rw [← hMw]; unfold mw; rw [if_neg hni, if_neg hnt, xAt_some hz1]
                          subst hM
                          have hms : M'.size ≤ 140737488351232 := HZ.out M' (List.mem_of_getElem? hz1)
                          obtain ⟨b', o', hAA, hcz⟩ := ha n M' hz1
                          cases hAA
                          have kz : wr.cell? ⟨b, o + n, none⟩ = some (.string M') := by rw [hbel.cell (p := ⟨b, o + n, none⟩) hbx]; exact hcz
                          have n1 : ((n : Int) == (i : Int)) = false := beq_eq_false_iff_ne.2 (by omega)
                          have n2 : ((n : Int) == (t : Int)) = false := beq_eq_false_iff_ne.2 (by omega)
                          clear hz1 hcz
                          have q5 : (n : Int) ≤ (t : Int) := by omega
                          have q6 : (n : Int) < (N : Int) := by omega
                          have q := ba_em (t := M') hme
                          have HNX := Lib.hid (HMM.out hme)
                          clear HMM HMN hme hMw
                          go_wp2
                          refine ⟨⟨n + 1, by go_num, by omega, by omega, ?_, hbel⟩, by first | (simp [intOf]; done) | (simp [intOf]; omega)⟩
                          rw [HNX.out, HLL.out, HOSS.out]; exact HOW.out
                        · skip
                          obtain ⟨M', hz1⟩ : ∃ z, xs[n]? = some z := ⟨_, List.getElem?_eq_getElem (by have := HN.out; omega)⟩
                          have hM : M' = M := by rw [← hMw]; unfold mw; rw [if_neg hni, if_neg hnt, xAt_some hz1]
                          subst hM
                          have hms : M'.size ≤ 140737488351232 := HZ.out M' (List.mem_of_getElem? hz1)
                          obtain ⟨b', o', hAA, hcz⟩ := ha n M' hz1
                          cases hAA
                          have kz : wr.cell? ⟨b, o + n, none⟩ = some (.string M') := by rw [hbel.cell (p := ⟨b, o + n, none⟩) hbx]; exact hcz
                          have n1 : ((n : Int) == (i : Int)) = false := beq_eq_false_iff_ne.2 (by omega)
                          have n2 : ((n : Int) == (t : Int)) = false := beq_eq_false_iff_ne.2 (by omega)
                          clear hz1 hcz
                          have q5 : (n : Int) ≤ (t : Int) := by omega
                          have q6 : (n : Int) < (N : Int) := by omega
                          have q := ba_ne (t := M') hme
                          have HNX := Lib.hid (HMN.out hme)
                          have g1 : ¬ (9223372036854775807 < H.size + 1) := by omega
                          have g2 : ¬ (9223372036854775807 < H.size + (1 + M'.size)) := by omega
                          have g3 : ¬ (9223372036854775807 < H.size + (1 + (M'.size + 1))) := by omega
                          have g4 : ¬ (9223372036854775807 < H.size + M'.size) := by omega
                          have g5 : ¬ (9223372036854775807 < H.size + M'.size + 1) := by omega
                          clear HMM HMN hme hMw
                          obtain ⟨Z, hZ⟩ : ∃ Z, H ++ M' ++ ⟨#[41]⟩ = Z := ⟨_, rfl⟩
                          rw [← HH.out, hZ] at HNX
                          have HO := Lib.hid (HOW.out.below ((Below.refl _ wr).alloc (Nat.le_refl _) (.cells #[.string Z] 9)))
                          go_wp2_with (at_builtin; refine wpList_append_G _ rfl _ _ 27 rfl w.heap.size 9 i0 (.string ⟨#[]⟩) 1 16 Tryd.underlying27 hi hz0 hz1 hz2 rfl (.slice AV L cv) L OS rfl HO.out ⟨_, 0, none⟩ 1 1 [.string Z] rfl rfl (cell_one_new _ _ _) (by simp [Value.oneCell']) (by omega) (by unfold maxLen; omega) (by omega) (by simp; omega) ?_; intro g cap w1 hown1 hgrow1 _ _)
                          refine ⟨⟨n + 1, by go_num, by omega, by omega, ?_, app_grown hbel HOW.out hgrow1⟩, by first | (simp [intOf]; done) | (simp [intOf]; omega)⟩
                          rw [HNX.out, ← List.append_assoc, List.length_append, List.map_append, HLL.out, HOSS.out]; exact hown1
                  · obtain rfl : n = t + 1 := by omega
                    have q7 : ¬ ((t + 1 : Nat) : Int) ≤ (t : Int) := by omega
                    have q7' : ¬ (t : Int) + 1 ≤ (t : Int) := by omega
                    have HST3 : Hid (R = (out ++ mems xs K i t (t + 1 - i)) ++ grpF xs fl (t + 1)) := by unfold Hid; rw [List.append_assoc]; exact HST2.out
                    go_wp2
                    exact ⟨⟨t + 1, fl, out ++ mems xs K i t (t + 1 - i), by go_num, by omega, by rw [HLL.out, HOSS.out]; exact HOW.out, by rw [HLL.out]; omega, by omega, hbel, HST3⟩, by simp [intOf]; omega⟩
        · rw [if_pos (Or.inr hcl)] at hst
          rw [hcl] at HC
          have HRL : Hid (R = (out ++ [x]) ++ grpF xs fl (i + 1)) := by unfold Hid; rw [hst]; simp
          clear hst e1 hx1 hcl hk1
          go_wp2_with fail
          refine (HI.out _).mono ?_
          rintro e w' ⟨rfl, hw'⟩
          obtain rfl : W0 = w' := hw'.symm
          go_wp2_with fail
          refine (HC.out _).mono ?_
          rintro e w' ⟨rfl, hw'⟩
          obtain rfl : W0 = w' := hw'.symm
          go_wp2_with (at_builtin; refine wpList_append_G _ rfl _ _ 27 rfl w.heap.size 9 i0 (.string ⟨#[]⟩) 1 16 Tryd.underlying27 hi hz0 hz1 hz2 rfl (.slice AV L cv) L OS rfl HO.out ⟨_, 0, none⟩ 1 1 [.string x] rfl rfl (cell_one_new _ _ _) (by simp [Value.oneCell']) (by omega) (by unfold maxLen; omega) (by omega) (by simp; omega) ?_; intro g cap w1 hown1 hgrow1 _ _)
          exact ⟨⟨i + 1, fl, out ++ [x], by go_num, by omega, by rw [HL.out, HM.out]; exact hown1, by rw [HL.out]; omega, by omega, app_grown hbel HOW.out hgrow1, HRL⟩, by simp [intOf]; omega⟩
    · obtain rfl : i = N := by omega
      have HRE : Hid (R = out) := by
        unfold Hid; have := hrel.out; rw [← HN.out, grp_end, List.append_nil] at this; exact this
      clear hrel
      go_wp2
      go_ret
      exact ⟨_, rfl, by rw [HRE.out]; exact hown, hbel⟩
end Go.Proofs.YtmcemaphhlcjfaaDoor
