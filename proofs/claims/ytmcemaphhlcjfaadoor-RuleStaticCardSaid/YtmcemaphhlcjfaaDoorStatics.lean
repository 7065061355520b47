/- RuleStatic answers true at every list of stems; conditions: texts that lie in memory, the library's one number in its cell. -/
import Derived.Test.YtmcemaphhlcjfaaDoorRAlive
import Derived.Test.YtmcemaphhlcjfaaDoorStaticP
import Derived.Test.YtmcemaphhlcjfaaDoorStrsIn
import Derived.BigQuiet
import Derived.Deep.Cut
namespace Go.Proofs.YtmcemaphhlcjfaaDoor
open Go.RowKit

theorem mk_form {w W' : World} {e : Ending} {X : MkP} (h : MkQ w X e W') :
    (∃ AT cT AP cP AO cO AL cL, e = .returned (.tuple #[.agg #[.slice AT X.T.length cT, .slice AP X.P.length cP, .slice AO X.O.length cO, .bool X.d, .bool X.p, .bool X.t, .string X.st, .slice none 0 0, .bool false, .string ⟨#[]⟩, .bool false], .slice AL X.L.length cL, .int .i64 X.e])) ∧ Below w.heap.size w W' := by
  obtain ⟨vT, vP, vO, vL, he, hT, hP, hO, hL, hb⟩ := h
  obtain ⟨AT, cT, rfl, _, _⟩ := hT
  obtain ⟨AP, cP, rfl, _, _⟩ := hP
  obtain ⟨AO, cO, rfl, _, _⟩ := hO
  obtain ⟨AL, cL, rfl, _, _⟩ := hL
  exact ⟨⟨AT, cT, AP, cP, AO, cO, AL, cL, he⟩, hb⟩
/-- what the first call tells -/
def First (o : Bool) (N : Nat) (nP nO nL : Nat) (p : Bool) (st : ByteArray) (n : Int) : Prop := (o = true ∧ n = 55) ∨ (o = false ∧ n = 0 ∧ st = ⟨#[120, 37, 46, 111]⟩ ∧ nP = 2 ∧ nO = 1 ∧ nL = N ∧ p = false)
theorem mk1 (L : ByteArray) (xs : List ByteArray) (o : Bool) (hL : L = mk (leftL xs ++ tailL o)) (hz : L.size ≤ 400000) (h : ∀ s ∈ xs, Low s) (hx : xs ≠ []) (w : World) (hw : 1 < w.heap.size) (m : Int) (hm : w.cell? ⟨1, 0, none⟩ = some (.int .i64 m)) :
    Calls Tryd.prog 13 #[.string L, .string ⟨#[120, 37, 46, 111, 58, 32, 37, 46, 99, 32, 37, 46, 104, 32, 124, 32, 100, 47, 37]⟩, .bool false] w fun e W' => (∃ AT nT cT AP nP cP AO nO cO AL nL cL d p t st n, e = .returned (.tuple #[.agg #[.slice AT nT cT, .slice AP nP cP, .slice AO nO cO, .bool d, .bool p, .bool t, .string st, .slice none 0 0, .bool false, .string ⟨#[]⟩, .bool false], .slice AL nL cL, .int .i64 n]) ∧ First o xs.length nP nO nL p st n) ∧ Below w.heap.size w W' := by
  refine (Make_any L rsA false w hz (by decide) hw m hm).mono fun e W' hq => ?_
  obtain ⟨⟨AT, cT, AP, cP, AO, cO, AL, cL, he⟩, hb⟩ := mk_form hq
  refine ⟨⟨AT, _, cT, AP, _, cP, AO, _, cO, AL, _, cL, _, _, _, _, _, he, ?_⟩, hb⟩
  cases o
  · obtain ⟨T, P, O, L', e1, e2, e3, e4⟩ := make_first xs h hx
    rw [hL, e1]
    exact .inr ⟨rfl, rfl, rfl, e3, e4, e2, rfl⟩
  · rw [hL, make_other xs h]
    exact .inl ⟨rfl, rfl⟩
theorem mk2 (L : ByteArray) (xs : List ByteArray) (o : Bool) (hL : L = mk (leftL xs ++ (tailL o ++ 32 :: po))) (hz : L.size ≤ 400000) (h : ∀ s ∈ xs, Low s) (hx : xs ≠ []) (w : World) (hw : 1 < w.heap.size) (m : Int) (hm : w.cell? ⟨1, 0, none⟩ = some (.int .i64 m)) :
    Calls Tryd.prog 13 #[.string L, .string ⟨#[97]⟩, .bool false] w fun e W' => (∃ AT nT cT AP nP cP AO nO cO AL nL cL d p t st, e = .returned (.tuple #[.agg #[.slice AT nT cT, .slice AP nP cP, .slice AO nO cO, .bool d, .bool p, .bool t, .string st, .slice none 0 0, .bool false, .string ⟨#[]⟩, .bool false], .slice AL nL cL, .int .i64 55])) ∧ Below w.heap.size w W' := by
  refine (Make_any L rsB false w hz (by decide) hw m hm).mono fun e W' hq => ?_
  obtain ⟨⟨AT, cT, AP, cP, AO, cO, AL, cL, he⟩, hb⟩ := mk_form hq
  rw [hL, make_mixed xs o h hx] at he
  exact ⟨⟨AT, _, cT, AP, _, cP, AO, _, cO, AL, _, cL, _, _, _, _, he⟩, hb⟩
theorem mk3 (w : World) (hw : 1 < w.heap.size) (m : Int) (hm : w.cell? ⟨1, 0, none⟩ = some (.int .i64 m)) :
    Calls Tryd.prog 13 #[.string ⟨#[37, 46, 111, 32, 37, 46, 112]⟩, .string ⟨#[97, 37]⟩, .bool true] w fun e W' => (∃ AT nT cT AP nP cP AO nO cO AL cL st, e = .returned (.tuple #[.agg #[.slice AT nT cT, .slice AP nP cP, .slice AO nO cO, .bool false, .bool true, .bool true, .string st, .slice none 0 0, .bool false, .string ⟨#[]⟩, .bool false], .slice AL 0 cL, .int .i64 0])) ∧ Below w.heap.size w W' := by
  refine (Make_any rsL rsC true w (by decide) (by decide) hw m hm).mono fun e W' hq => ?_
  obtain ⟨⟨AT, cT, AP, cP, AO, cO, AL, cL, he⟩, hb⟩ := mk_form hq
  obtain ⟨T, P, O, e1⟩ := make_third
  rw [e1] at he
  exact ⟨⟨AT, _, cT, AP, _, cP, AO, _, cO, AL, cL, _, he⟩, hb⟩
theorem left_snoc (a : List ByteArray) (s : ByteArray) : leftL (a ++ [s]) = leftL a ++ 32 :: tgt s := by
  induction a with
  | nil => simp [leftL]
  | cons x a ih => simp [leftL, ih]
theorem app_list (a b : ByteArray) : (a ++ b).data.toList = a.data.toList ++ b.data.toList := by simp
theorem left_step (L s : ByteArray) (a : List ByteArray) (h : L = mk (leftL a)) : L ++ ⟨#[32, 120]⟩ ++ s ++ ⟨#[46, 111]⟩ = mk (leftL (a ++ [s])) := by
  apply ba_ext
  rw [app_list, app_list, app_list, h, left_snoc]
  show leftL a ++ [32, 120] ++ s.data.toList ++ [46, 111] = leftL a ++ 32 :: tgt s
  simp [tgt]
theorem left_tail1 (L : ByteArray) (a : List ByteArray) (h : L = mk (leftL a)) : L ++ ⟨#[32, 121, 46, 111]⟩ = mk (leftL a ++ tailL true) := by
  apply ba_ext
  rw [app_list, h]; rfl
theorem left_tail2 (L : ByteArray) (a : List ByteArray) (o : Bool) (h : L = mk (leftL a ++ tailL o)) : L ++ ⟨#[32, 37, 46, 111]⟩ = mk (leftL a ++ (tailL o ++ 32 :: po)) := by
  apply ba_ext
  rw [app_list, h]
  show leftL a ++ tailL o ++ [32, 37, 46, 111] = leftL a ++ (tailL o ++ 32 :: po)
  simp [po]
theorem low_of {s : ByteArray} (h : ∀ j, j < s.size → 97 ≤ (s.get! j).toNat ∧ (s.get! j).toNat ≤ 122) : Low s := fun c hc => by
  obtain ⟨j, hj, rfl⟩ := List.getElem_of_mem hc
  have hj2 : j < s.size := by simpa using hj
  have := h j hj2
  rw [← bget s j hj2, ← get_list' s j hj2] at this
  exact this

set_option maxRecDepth 100000 in
set_option maxHeartbeats 8000000 in
theorem RuleStatic_law (A : Option Addr) (ca : Nat) (xs : List ByteArray) (o : Bool) (w : World) (hA : StrsAt w A xs) (hn : xs.length ≤ 8796093022208) (_ : ∀ x ∈ xs, x.size ≤ 140737488351232) (hc : xs.length ≤ ca) (hw : 1 < w.heap.size) (m : Int) (hm : w.cell? ⟨1, 0, none⟩ = some (.int .i64 m)) :
    Calls Tryd.prog 7 #[.slice A xs.length ca, .bool o] w fun e w' => e = .returned (.bool true) ∧ Below w.heap.size w w' := by
  have HA := Lib.hid (ruleAlive w hw m hm)
  obtain ⟨N, hN⟩ : ∃ N, xs.length = N := ⟨_, rfl⟩
  rw [hN] at hn hc ⊢
  have HN := Lib.hid hN
  have HAT := Lib.hid hA
  have HM := Lib.hid hm
  clear hN hA hm
  by_cases q1 : (20 : Int) < N
  · go_enter Tryd.func7, Tryd.ntmps7
    go_wp2_with fail
    refine HA.out.mono ?_
    rintro e w1 ⟨rfl, hb1⟩
    go_wp2
    go_ret
    exact ⟨rfl, hb1⟩
  by_cases q2 : N = 0
  · subst q2
    go_enter Tryd.func7, Tryd.ntmps7
    go_wp2_with fail
    refine HA.out.mono ?_
    rintro e w1 ⟨rfl, hb1⟩
    go_wp2
    go_ret
    exact ⟨rfl, hb1⟩
  have q3 : ((N : Int) == 0) = false := beq_eq_false_iff_ne.2 (by omega)
  go_enter Tryd.func7, Tryd.ntmps7
  go_wp2_with fail
  refine HA.out.mono ?_
  rintro e w1 ⟨rfl, hb1⟩
  have hs1 : w.heap.size ≤ w1.heap.size := hb1.size
  have hm1 : w1.cell? ⟨1, 0, none⟩ = some (.int .i64 m) := by rw [hb1.cell (p := ⟨1, 0, none⟩) hw]; exact HM.out
  have HM1 := Lib.hid hm1
  have HB1 := Lib.hid hb1
  clear hb1 hm1
  go_wp2
  go_loopw [6, 7, 8, 9] (fun lv iv _ _ wi => ∃ (k : Nat) (L : ByteArray), iv = .int .i64 k ∧ lv = .string L ∧ k ≤ N ∧ L.size ≤ 104 * k ∧ wi = w1 ∧ Hid (L = mk (leftL (xs.take k)) ∧ ∀ s ∈ xs.take k, Low s)) (fun _ iv _ _ _ => N - (intOf iv).toNat)
  case atStart => exact ⟨0, _, rfl, rfl, Nat.zero_le _, Nat.le_refl _, rfl, rfl, fun s hs => by simp at hs⟩
  case round =>
    obtain ⟨k, L, rfl, rfl, hk, hL, hwr, hrel⟩ := hrel
    obtain rfl : w1 = wr := hwr.symm
    by_cases hlt : k < N
    · obtain ⟨x, hx1⟩ : ∃ x, xs[k]? = some x := ⟨_, List.getElem?_eq_getElem (by have := HN.out; omega)⟩
      obtain ⟨g, off, rfl, kx⟩ := HAT.out k x hx1
      have hg := World.block_lt_of_cell? _ _ kx
      have kx1 : w1.cell? ⟨g, off + k, none⟩ = some (.string x) := by rw [HB1.out.cell (p := ⟨g, off + k, none⟩) hg]; exact kx
      have qk : (k : Int) < N := by omega
      have HT := Lib.hid (show xs.take (k + 1) = xs.take k ++ [x] from by
        obtain ⟨h1, h2⟩ := List.getElem?_eq_some_iff.1 hx1
        rw [List.take_succ_eq_append_getElem h1, h2])
      clear hx1 kx
      by_cases q4 : (100 : Int) < x.size
      · go_wp2
        go_ret
        exact ⟨rfl, HB1.out⟩
      · have HLs := Lib.hid (left_step L x _ hrel.out.1)
        have hLs : (L ++ ⟨#[32, 120]⟩ ++ x ++ ⟨#[46, 111]⟩).size ≤ 104 * (k + 1) := by
          simp only [ByteArray.size_append]
          show L.size + 2 + x.size + 2 ≤ _
          omega
        obtain ⟨L2, hL2⟩ : ∃ L2, L ++ ⟨#[32, 120]⟩ ++ x ++ ⟨#[46, 111]⟩ = L2 := ⟨_, rfl⟩
        rw [hL2] at HLs hLs
        have HL2 := Lib.hid hL2
        clear hL2
        go_wp2
        go_loopw [8, 9] (fun jv _ wi => ∃ j : Nat, jv = .int .i64 j ∧ j ≤ x.size ∧ wi = w1 ∧ Hid (∀ i, i < j → 97 ≤ (x.get! i).toNat ∧ (x.get! i).toNat ≤ 122)) (fun jv _ _ => x.size - (intOf jv).toNat)
        case atStart => exact ⟨0, rfl, Nat.zero_le _, rfl, fun i h => absurd h (Nat.not_lt_zero _)⟩
        case round =>
          obtain ⟨j, rfl, hj, hwr2, hlow⟩ := hrel
          obtain rfl : w1 = wr := hwr2.symm
          by_cases hlj : j < x.size
          · have qj : (j : Int) < x.size := by omega
            have hb := bget x j hlj
            obtain ⟨c, hcx⟩ : ∃ c, x[j] = c := ⟨_, rfl⟩
            rw [hcx] at hb
            by_cases r1 : (97 : Int) ≤ c.toNat
            · by_cases r2 : (c.toNat : Int) ≤ 122
              · have HC : Hid (∀ i, i < j + 1 → 97 ≤ (x.get! i).toNat ∧ (x.get! i).toNat ≤ 122) := fun i hi => by
                  by_cases hij : i = j
                  · rw [hij, ← hb]; omega
                  · exact hlow.out i (by omega)
                clear hb hlow
                go_wp2
                exact ⟨⟨j + 1, by go_num, by omega, by trivial, HC⟩, by simp [intOf]; omega⟩
              · clear hb hlow
                go_wp2
                go_ret
                exact ⟨rfl, HB1.out⟩
            · clear hb hlow
              go_wp2
              go_ret
              exact ⟨rfl, HB1.out⟩
          · obtain rfl : j = x.size := by omega
            have HLow := Lib.hid (low_of hlow.out)
            clear hlow
            go_wp2
            refine ⟨⟨k + 1, L2, by go_num, by rw [HL2.out], by omega, hLs, by trivial, ?_, ?_⟩, by simp [intOf]; omega⟩
            · rw [HLs.out, HT.out]
            · rw [HT.out]
              intro s hs
              rcases List.mem_append.1 hs with h | h
              · exact hrel.out.2 s h
              · have : s = x := by simpa using h
                rw [this]; exact HLow.out
    · obtain rfl : k = N := by omega
      have hr1 := hrel.out
      rw [List.take_of_length_le (by have := HN.out; omega)] at hr1
      have hne : xs ≠ [] := by intro e; have := HN.out; rw [e] at this; simp at this; omega
      have HP := Lib.hid (show (∀ s ∈ xs, Low s) ∧ xs ≠ [] from ⟨hr1.2, hne⟩)
      cases o
      · have hL4 : L = mk (leftL xs ++ tailL false) := by
          show L = mk (leftL xs ++ []); rw [List.append_nil]; exact hr1.1
        have HK1 := Lib.hid fun (w : World) h1 h2 => mk1 L xs false hL4 (by omega) HP.out.1 HP.out.2 w h1 m h2
        have HK2 := Lib.hid fun (w : World) h1 h2 => mk2 _ xs false (left_tail2 L xs false hL4) (by rw [ByteArray.size_append]; show L.size + 4 ≤ _; omega) HP.out.1 HP.out.2 w h1 m h2
        have HK3 := Lib.hid fun (w : World) h1 h2 => mk3 w h1 m h2
        rw [HN.out] at HK1
        clear hr1 hne hL4 HP hrel
        go_wp2_with fail
        refine (HK1.out w1 (by omega) HM1.out).mono ?_
        rintro e w2 ⟨⟨AT, nAT, cAT, AP, nAP, cAP, AO, nAO, cAO, AL, nAL, cAL, Ad, Ap, At, As, n, rfl, hF⟩, hb⟩
        have hs1a : w1.heap.size ≤ w2.heap.size := hb.size
        have HBx := Lib.hid (HB1.out.trans (hb.mono (by omega)))
        have HMx := Lib.hid ((hb.cell (p := ⟨1, 0, none⟩) (show 1 < _ by omega)).trans HM1.out)
        clear hb HB1 HM1 
        go_upto_region 20 with fail
        obtain ⟨w3, hw3⟩ : ∃ w3, w2.alloc (.cells #[.slice AT nAT cAT, .slice AP nAP cAP, .slice AO nAO cAO, .bool Ad, .bool Ap, .bool At, .string As, .slice none 0 0, .bool false, .string ⟨#[]⟩, .bool false] 29) = w3 := ⟨_, rfl⟩
        rw [hw3]
        have hr3 : w3.heap[w2.heap.size]? = some (.cells #[.slice AT nAT cAT, .slice AP nAP cAP, .slice AO nAO cAO, .bool Ad, .bool Ap, .bool At, .string As, .slice none 0 0, .bool false, .string ⟨#[]⟩, .bool false] 29 (0, 0)) := by rw [← hw3]; exact World.alloc_heap_new w2 _
        have hb3 : Below w2.heap.size w2 w3 := by rw [← hw3]; exact (Below.refl _ w2).alloc (Nat.le_refl _) _
        have hs1b : w2.heap.size < w3.heap.size := lt_of_block hr3
        have HB2 := Lib.hid (HBx.out.trans (hb3.mono (by omega)))
        have HM2 := Lib.hid ((hb3.cell (p := ⟨1, 0, none⟩) (show 1 < _ by omega)).trans HMx.out)
        have HR1 := Lib.hid hr3
        clear hw3 hr3 hb3 HBx HMx 
        have HF := Lib.hid hF
        clear hF
        go_wp2_with fail
        refine (HK2.out w3 (by omega) HM2.out).mono ?_
        rintro e w4 ⟨⟨BT, nBT, cBT, BP, nBP, cBP, BO, nBO, cBO, BL, nBL, cBL, Bd, Bp, Bt, Bs, rfl⟩, hb⟩
        have hs2a : w3.heap.size ≤ w4.heap.size := hb.size
        have HBx := Lib.hid (HB2.out.trans (hb.mono (by omega)))
        have HMx := Lib.hid ((hb.cell (p := ⟨1, 0, none⟩) (show 1 < _ by omega)).trans HM2.out)
        have HR1x := Lib.hid ((hb.block _ (by omega)).trans HR1.out)
        clear hb HB2 HM2 HR1
        go_upto_region 21 with fail
        obtain ⟨w5, hw3⟩ : ∃ w3, w4.alloc (.cells #[.slice BT nBT cBT, .slice BP nBP cBP, .slice BO nBO cBO, .bool Bd, .bool Bp, .bool Bt, .string Bs, .slice none 0 0, .bool false, .string ⟨#[]⟩, .bool false] 29) = w3 := ⟨_, rfl⟩
        rw [hw3]
        have hr3 : w5.heap[w4.heap.size]? = some (.cells #[.slice BT nBT cBT, .slice BP nBP cBP, .slice BO nBO cBO, .bool Bd, .bool Bp, .bool Bt, .string Bs, .slice none 0 0, .bool false, .string ⟨#[]⟩, .bool false] 29 (0, 0)) := by rw [← hw3]; exact World.alloc_heap_new w4 _
        have hb3 : Below w4.heap.size w4 w5 := by rw [← hw3]; exact (Below.refl _ w4).alloc (Nat.le_refl _) _
        have hs2b : w4.heap.size < w5.heap.size := lt_of_block hr3
        have HB3 := Lib.hid (HBx.out.trans (hb3.mono (by omega)))
        have HM3 := Lib.hid ((hb3.cell (p := ⟨1, 0, none⟩) (show 1 < _ by omega)).trans HMx.out)
        have HR2 := Lib.hid hr3
        have HR1 := Lib.hid ((hb3.block _ (by omega)).trans HR1x.out)
        clear hw3 hr3 hb3 HBx HMx HR1x
        go_wp2_with fail
        refine (HK3.out w5 (by omega) HM3.out).mono ?_
        rintro e w6 ⟨⟨CT, nCT, cCT, CP, nCP, cCP, CO, nCO, cCO, CL, cCL, Cs, rfl⟩, hb⟩
        have hs3a : w5.heap.size ≤ w6.heap.size := hb.size
        have HBx := Lib.hid (HB3.out.trans (hb.mono (by omega)))
        have HMx := Lib.hid ((hb.cell (p := ⟨1, 0, none⟩) (show 1 < _ by omega)).trans HM3.out)
        have HR1x := Lib.hid ((hb.block _ (by omega)).trans HR1.out)
        clear hb HB3 HM3 HR1
        go_upto_region 22 with fail
        obtain ⟨w7, hw3⟩ : ∃ w3, w6.alloc (.cells #[.slice CT nCT cCT, .slice CP nCP cCP, .slice CO nCO cCO, .bool false, .bool true, .bool true, .string Cs, .slice none 0 0, .bool false, .string ⟨#[]⟩, .bool false] 29) = w3 := ⟨_, rfl⟩
        rw [hw3]
        have hr3 : w7.heap[w6.heap.size]? = some (.cells #[.slice CT nCT cCT, .slice CP nCP cCP, .slice CO nCO cCO, .bool false, .bool true, .bool true, .string Cs, .slice none 0 0, .bool false, .string ⟨#[]⟩, .bool false] 29 (0, 0)) := by rw [← hw3]; exact World.alloc_heap_new w6 _
        have hb3 : Below w6.heap.size w6 w7 := by rw [← hw3]; exact (Below.refl _ w6).alloc (Nat.le_refl _) _
        have hs3b : w6.heap.size < w7.heap.size := lt_of_block hr3
        have HB4 := Lib.hid (HBx.out.trans (hb3.mono (by omega)))
        have HM4 := Lib.hid ((hb3.cell (p := ⟨1, 0, none⟩) (show 1 < _ by omega)).trans HMx.out)
        have HR3 := Lib.hid hr3
        have HR1 := Lib.hid ((hb3.block _ (by omega)).trans HR1x.out)
        clear hw3 hr3 hb3 HBx HMx HR1x
        obtain ⟨c3, _⟩ := rowc HR3.out (j := 3) rfl
        obtain ⟨c4, _⟩ := rowc HR3.out (j := 4) rfl
        obtain ⟨c5, _⟩ := rowc HR3.out (j := 5) rfl
        go_wp2_with fail
        refine (numRule_any 55 _).mono ?_
        rintro e wn ⟨rfl, hwn⟩
        obtain rfl : w7 = wn := hwn.symm
        go_wp2_with fail
        refine (numRule_any 0 _).mono ?_
        rintro e wn ⟨rfl, hwn⟩
        obtain rfl : w7 = wn := hwn.symm
        obtain ⟨rfl, rfl, rfl, rfl, rfl, rfl⟩ : n = 0 ∧ As = ⟨#[120, 37, 46, 111]⟩ ∧ nAP = 2 ∧ nAO = 1 ∧ nAL = k ∧ Ap = false := by
          rcases HF.out with ⟨h, _⟩ | ⟨_, h⟩
          · cases h
          · exact h
        obtain ⟨a1, _⟩ := rowc HR1.out (j := 1) rfl
        obtain ⟨a2, _⟩ := rowc HR1.out (j := 2) rfl
        obtain ⟨a4, _⟩ := rowc HR1.out (j := 4) rfl
        obtain ⟨a6, _⟩ := rowc HR1.out (j := 6) rfl
        go_wp2_with fail
        refine (numRule_any 0 _).mono ?_
        rintro e wn ⟨rfl, hwn⟩
        obtain rfl : w7 = wn := hwn.symm
        go_wp2
        go_ret
        exact ⟨rfl, HB4.out⟩
      · have hL4 : L ++ ⟨#[32, 121, 46, 111]⟩ = mk (leftL xs ++ tailL true) := left_tail1 L xs hr1.1
        have hz4 : (L ++ ⟨#[32, 121, 46, 111]⟩).size ≤ 399996 := by rw [ByteArray.size_append]; show L.size + 4 ≤ _; omega
        have HK1 := Lib.hid fun (w : World) h1 h2 => mk1 _ xs true hL4 (by omega) HP.out.1 HP.out.2 w h1 m h2
        have HK2 := Lib.hid fun (w : World) h1 h2 => mk2 _ xs true (left_tail2 _ xs true hL4) (by rw [ByteArray.size_append]; show (L ++ ⟨#[32, 121, 46, 111]⟩).size + 4 ≤ _; omega) HP.out.1 HP.out.2 w h1 m h2
        have HK3 := Lib.hid fun (w : World) h1 h2 => mk3 w h1 m h2
        rw [HN.out] at HK1
        clear hr1 hne hL4 HP hrel
        go_wp2_with fail
        refine (HK1.out w1 (by omega) HM1.out).mono ?_
        rintro e w2 ⟨⟨AT, nAT, cAT, AP, nAP, cAP, AO, nAO, cAO, AL, nAL, cAL, Ad, Ap, At, As, n, rfl, hF⟩, hb⟩
        have hs1a : w1.heap.size ≤ w2.heap.size := hb.size
        have HBx := Lib.hid (HB1.out.trans (hb.mono (by omega)))
        have HMx := Lib.hid ((hb.cell (p := ⟨1, 0, none⟩) (show 1 < _ by omega)).trans HM1.out)
        clear hb HB1 HM1 
        go_upto_region 20 with fail
        obtain ⟨w3, hw3⟩ : ∃ w3, w2.alloc (.cells #[.slice AT nAT cAT, .slice AP nAP cAP, .slice AO nAO cAO, .bool Ad, .bool Ap, .bool At, .string As, .slice none 0 0, .bool false, .string ⟨#[]⟩, .bool false] 29) = w3 := ⟨_, rfl⟩
        rw [hw3]
        have hr3 : w3.heap[w2.heap.size]? = some (.cells #[.slice AT nAT cAT, .slice AP nAP cAP, .slice AO nAO cAO, .bool Ad, .bool Ap, .bool At, .string As, .slice none 0 0, .bool false, .string ⟨#[]⟩, .bool false] 29 (0, 0)) := by rw [← hw3]; exact World.alloc_heap_new w2 _
        have hb3 : Below w2.heap.size w2 w3 := by rw [← hw3]; exact (Below.refl _ w2).alloc (Nat.le_refl _) _
        have hs1b : w2.heap.size < w3.heap.size := lt_of_block hr3
        have HB2 := Lib.hid (HBx.out.trans (hb3.mono (by omega)))
        have HM2 := Lib.hid ((hb3.cell (p := ⟨1, 0, none⟩) (show 1 < _ by omega)).trans HMx.out)
        have HR1 := Lib.hid hr3
        clear hw3 hr3 hb3 HBx HMx 
        have HF := Lib.hid hF
        clear hF
        go_wp2_with fail
        refine (HK2.out w3 (by omega) HM2.out).mono ?_
        rintro e w4 ⟨⟨BT, nBT, cBT, BP, nBP, cBP, BO, nBO, cBO, BL, nBL, cBL, Bd, Bp, Bt, Bs, rfl⟩, hb⟩
        have hs2a : w3.heap.size ≤ w4.heap.size := hb.size
        have HBx := Lib.hid (HB2.out.trans (hb.mono (by omega)))
        have HMx := Lib.hid ((hb.cell (p := ⟨1, 0, none⟩) (show 1 < _ by omega)).trans HM2.out)
        have HR1x := Lib.hid ((hb.block _ (by omega)).trans HR1.out)
        clear hb HB2 HM2 HR1
        go_upto_region 21 with fail
        obtain ⟨w5, hw3⟩ : ∃ w3, w4.alloc (.cells #[.slice BT nBT cBT, .slice BP nBP cBP, .slice BO nBO cBO, .bool Bd, .bool Bp, .bool Bt, .string Bs, .slice none 0 0, .bool false, .string ⟨#[]⟩, .bool false] 29) = w3 := ⟨_, rfl⟩
        rw [hw3]
        have hr3 : w5.heap[w4.heap.size]? = some (.cells #[.slice BT nBT cBT, .slice BP nBP cBP, .slice BO nBO cBO, .bool Bd, .bool Bp, .bool Bt, .string Bs, .slice none 0 0, .bool false, .string ⟨#[]⟩, .bool false] 29 (0, 0)) := by rw [← hw3]; exact World.alloc_heap_new w4 _
        have hb3 : Below w4.heap.size w4 w5 := by rw [← hw3]; exact (Below.refl _ w4).alloc (Nat.le_refl _) _
        have hs2b : w4.heap.size < w5.heap.size := lt_of_block hr3
        have HB3 := Lib.hid (HBx.out.trans (hb3.mono (by omega)))
        have HM3 := Lib.hid ((hb3.cell (p := ⟨1, 0, none⟩) (show 1 < _ by omega)).trans HMx.out)
        have HR2 := Lib.hid hr3
        have HR1 := Lib.hid ((hb3.block _ (by omega)).trans HR1x.out)
        clear hw3 hr3 hb3 HBx HMx HR1x
        go_wp2_with fail
        refine (HK3.out w5 (by omega) HM3.out).mono ?_
        rintro e w6 ⟨⟨CT, nCT, cCT, CP, nCP, cCP, CO, nCO, cCO, CL, cCL, Cs, rfl⟩, hb⟩
        have hs3a : w5.heap.size ≤ w6.heap.size := hb.size
        have HBx := Lib.hid (HB3.out.trans (hb.mono (by omega)))
        have HMx := Lib.hid ((hb.cell (p := ⟨1, 0, none⟩) (show 1 < _ by omega)).trans HM3.out)
        have HR1x := Lib.hid ((hb.block _ (by omega)).trans HR1.out)
        clear hb HB3 HM3 HR1
        go_upto_region 22 with fail
        obtain ⟨w7, hw3⟩ : ∃ w3, w6.alloc (.cells #[.slice CT nCT cCT, .slice CP nCP cCP, .slice CO nCO cCO, .bool false, .bool true, .bool true, .string Cs, .slice none 0 0, .bool false, .string ⟨#[]⟩, .bool false] 29) = w3 := ⟨_, rfl⟩
        rw [hw3]
        have hr3 : w7.heap[w6.heap.size]? = some (.cells #[.slice CT nCT cCT, .slice CP nCP cCP, .slice CO nCO cCO, .bool false, .bool true, .bool true, .string Cs, .slice none 0 0, .bool false, .string ⟨#[]⟩, .bool false] 29 (0, 0)) := by rw [← hw3]; exact World.alloc_heap_new w6 _
        have hb3 : Below w6.heap.size w6 w7 := by rw [← hw3]; exact (Below.refl _ w6).alloc (Nat.le_refl _) _
        have hs3b : w6.heap.size < w7.heap.size := lt_of_block hr3
        have HB4 := Lib.hid (HBx.out.trans (hb3.mono (by omega)))
        have HM4 := Lib.hid ((hb3.cell (p := ⟨1, 0, none⟩) (show 1 < _ by omega)).trans HMx.out)
        have HR3 := Lib.hid hr3
        have HR1 := Lib.hid ((hb3.block _ (by omega)).trans HR1x.out)
        clear hw3 hr3 hb3 HBx HMx HR1x
        obtain ⟨c3, _⟩ := rowc HR3.out (j := 3) rfl
        obtain ⟨c4, _⟩ := rowc HR3.out (j := 4) rfl
        obtain ⟨c5, _⟩ := rowc HR3.out (j := 5) rfl
        go_wp2_with fail
        refine (numRule_any 55 _).mono ?_
        rintro e wn ⟨rfl, hwn⟩
        obtain rfl : w7 = wn := hwn.symm
        go_wp2_with fail
        refine (numRule_any 0 _).mono ?_
        rintro e wn ⟨rfl, hwn⟩
        obtain rfl : w7 = wn := hwn.symm
        have hn55 : n = 55 := by
          rcases HF.out with ⟨_, h⟩ | ⟨h, _⟩
          · exact h
          · cases h
        subst hn55
        go_wp2_with fail
        refine (numRule_any 55 _).mono ?_
        rintro e wn ⟨rfl, hwn⟩
        obtain rfl : w7 = wn := hwn.symm
        go_wp2
        go_ret
        exact ⟨rfl, HB4.out⟩
end Go.Proofs.YtmcemaphhlcjfaaDoor
