/- TextSorts: a sorted list has the texts of the list, rising, each once, and is its own sorted list. -/
import Derived.Test.YtndoloohdloflabSortR
import Derived.Test.YtndoloohdloflabTextJoi
import Derived.Laws.Cover1
namespace Go.Proofs.Ytndoloohdloflab
open Go.RowKit

set_option maxRecDepth 100000 in
set_option maxHeartbeats 2000000 in
theorem TextSorts_walk (A : Option Addr) (ca : Nat) (xs : List ByteArray) (w : World) (ha : StrsAt w A xs) (hl : xs.length ≤ 8796093022208) (hz : ∀ x ∈ xs, x.size ≤ 140737488351232) (_ : xs.length ≤ ca) (hw : 0 < w.heap.size) (m : Int) (hm : w.cell? ⟨0, 0, none⟩ = some (.int .i64 m)) :
    Calls Try.prog 8 #[.slice A xs.length ca] w fun e w' => e = .returned (.bool true) ∧ Below w.heap.size w w' := by
  have HL := Lib.hid (textAlive_any w hw m hm)
  have HBig := Lib.hid fun w1 (hb : Below w.heap.size w w1) => Big_any w1 A ca xs (ha.below (Nat.le_refl _) hb) (by omega) hz
  by_cases hb : 20000 < bigF xs 0
  · rw [decide_eq_true hb] at HBig
    clear ha hz
    generalize xs.length = N at *
    go_enter Try.func8, Try.ntmps8
    go_wp2_with (first | (go_at_call 12; refine (HL.out).mono ?_; rintro e w1 ⟨rfl, HB⟩) | (go_at_call 28; refine (HBig.out _ HB).mono ?_; rintro e w2 ⟨rfl, rfl⟩))
    go_ret
    exact ⟨rfl, HB⟩
  · rw [decide_eq_false hb] at HBig
    have hT : totL xs ≤ 20000 := by have := bigF_tot xs 0 (by omega); omega
    have hN := len_totL xs
    have hS1 := sortB_len xs
    have HLent := Lib.hid fun w1 (hb : Below w.heap.size w w1) => Lent_any w1 A ca xs (ha.below (Nat.le_refl _) hb) (by omega)
    have HSort := Lib.hid fun w1 g c (h : StrsAt w1 (some ⟨g, 0, none⟩) xs) => Sort_any w1 (some ⟨g, 0, none⟩) c xs h (by omega)
    have HStay := Lib.hid fun w1 g c (hb : Below w.heap.size w w1) (h1 : StrsAt w1 (some ⟨g, 0, none⟩) xs) (h2 : w1.cell? ⟨g, xs.length, none⟩ = some (.string lentX)) (h3 : xs.length + 1 ≤ c) (h4 : c ≤ 9223372036854775807) => Stays_any w1 g c A ca xs h1 h2 h3 h4 (ha.below (Nat.le_refl _) hb) (by omega)
    have HSR := Lib.hid fun w1 (hb : Below w.heap.size w w1) => SortR_any w1 A ca xs (ha.below (Nat.le_refl _) hb) (by omega)
    have HS2 := Lib.hid fun w1 A2 c (h : StrsAt w1 A2 (sortB xs)) => Sort_any w1 A2 c (sortB xs) h (by omega)
    have HLA := Lib.hid fun (W : World) base g c (h : OwnG W base 9 1 (.slice (some ⟨g, 0, none⟩) (xs.length + 1) c) (xs.length + 1) ((xs ++ [lentX]).map Value.string)) => lent_at h
    rw [sortB_idem] at HS2
    have hinc := sortB_inc xs
    have hmem := sortB_mem xs
    obtain ⟨W1, hW1⟩ : ∃ W1, sortB xs = W1 := ⟨_, rfl⟩
    rw [hW1] at hS1 HSort HSR HS2 hinc hmem
    clear hW1
    have hWl : W1.length ≤ 20000 := by omega
    have HSame : Hid (∀ w1 A2 A5 c2 c5, StrsAt w1 A2 W1 → StrsAt w1 A5 W1 → Calls Try.prog 24 #[.slice A2 W1.length c2, .slice A5 W1.length c5] w1 fun e w' => e = .returned (.bool true) ∧ Below w1.heap.size w1 w') := by
      intro w1 A2 A5 c2 c5 h1 h2
      have := Same_any w1 A2 A5 c2 c5 W1 W1 h1 h2 (by omega)
      rw [sameL_self] at this; exact this
    have HHas1 : Hid (∀ w1 x, Below w.heap.size w w1 → x ∈ W1 → Calls Try.prog 35 #[.slice A xs.length ca, .string x] w1 fun e w' => e = .returned (.bool true) ∧ w' = w1) := by
      intro w1 x hb hx
      have h1 := Has_any w1 A ca xs x (ha.below (Nat.le_refl _) hb) (by omega)
      rw [(hasB_iff xs x).2 ((hmem x).1 hx)] at h1
      exact h1
    have HHas2 : Hid (∀ w1 A2 c2 x, StrsAt w1 A2 W1 → x ∈ xs → Calls Try.prog 35 #[.slice A2 W1.length c2, .string x] w1 fun e w' => e = .returned (.bool true) ∧ w' = w1) := by
      intro w1 A2 c2 x h2 hx
      have h1 := Has_any w1 A2 c2 W1 x h2 (by omega)
      rw [(hasB_iff W1 x).2 ((hmem x).2 hx)] at h1
      exact h1
    have HA := Lib.hid ha
    have HINC := Lib.hid hinc
    clear ha hz hb hT hmem hinc
    generalize hL : (xs ++ [lentX]).map Value.string = L at *
    clear hL
    obtain ⟨N, hNN⟩ : ∃ N, xs.length = N := ⟨_, rfl⟩
    have HN := Lib.hid hNN
    obtain ⟨M, hMM⟩ : ∃ M, W1.length = M := ⟨_, rfl⟩
    have HM := Lib.hid hMM
    rw [hNN] at hl hN hS1 HBig HLent HSort HStay HSR HLA HHas1 ⊢
    rw [hMM] at hS1 hWl HSort HSR HS2 HSame HHas2
    clear hNN hMM
    go_enter Try.func8, Try.ntmps8
    go_wp2_with fail
    refine HL.out.mono ?_
    rintro e w1 ⟨rfl, hb1⟩
    go_wp2_with fail
    refine (HBig.out w1 hb1).mono ?_
    rintro e w1' ⟨rfl, rfl⟩
    go_wp2_with fail
    refine (HLent.out w1' hb1).mono ?_
    rintro e w2 ⟨g, cap, rfl, hown, hb2⟩
    obtain ⟨hs2, hx2, hc2⟩ := HLA.out _ _ _ _ hown
    have hb2' := hb1.trans (hb2.mono hb1.size)
    have hcm : cap ≤ 9223372036854775807 := by obtain ⟨A', c', e, _, h2⟩ := hown.form; cases e; unfold maxLen at h2; omega
    go_wp2_with fail
    refine (HSort.out w2 g cap hs2).mono ?_
    rintro e w3 ⟨v3, rfl, hv3, hb3⟩
    obtain ⟨A3, c3, rfl, _, _⟩ := hv3.form
    have hs3 := hs2.below (Nat.le_refl _) hb3
    have hx3 : w3.cell? ⟨g, N, none⟩ = some (.string lentX) := by rw [hb3.cell (p := ⟨g, N, none⟩) (World.block_lt_of_cell? _ _ hx2)]; exact hx2
    have hb3' := hb2'.trans (hb3.mono hb2'.size)
    go_wp2_with fail
    refine (HStay.out w3 g cap hb3' hs3 hx3 hc2 hcm).mono ?_
    rintro e w4 ⟨rfl, hb4⟩
    have hb4' := hb3'.trans (hb4.mono hb3'.size)
    have hv4 := hv3.below hb4
    go_wp2_with fail
    refine (HSR.out w4 hb4').mono ?_
    rintro e w5 ⟨v5, rfl, hv5, hb5⟩
    obtain ⟨A5, c5, rfl, _, _⟩ := hv5.form
    have hb5' := hb4'.trans (hb5.mono hb4'.size)
    have hv45 := hv4.below hb5
    go_wp2_with fail
    refine (HSame.out w5 A3 A5 c3 c5 hv45.strsAt hv5.strsAt).mono ?_
    rintro e w6 ⟨rfl, hb6⟩
    have hb6' := hb5'.trans (hb6.mono hb5'.size)
    have hv6 := hv45.below hb6
    go_wp2_with fail
    refine (HS2.out w6 A3 c3 hv6.strsAt).mono ?_
    rintro e w7 ⟨v7, rfl, hv7, hb7⟩
    obtain ⟨A7, c7, rfl, _, _⟩ := hv7.form
    have hb7' := hb6'.trans (hb7.mono hb6'.size)
    have hv67 := hv6.below hb7
    go_wp2_with fail
    refine (HSame.out w7 A7 A3 c7 c3 hv7.strsAt hv67.strsAt).mono ?_
    rintro e w8 ⟨rfl, hb8⟩
    have hb8' := hb7'.trans (hb8.mono hb7'.size)
    have hv8 := Lib.hid (hv67.below hb8).strsAt
    clear hb1 hb2 hb2' hb3 hb3' hb4 hb4' hb5 hb5' hb6 hb6' hb7 hb7' hb8 hown hv3 hv4 hv5 hv45 hv6 hv7 hv67 hs2 hs3 hx2 hx3
    go_wp2
    go_loopw [7] (fun i wi => ∃ (k n : Nat), i = .int .i64 k ∧ k ≤ M ∧ Hid (wi = w8.drewN n)) (fun i _ => M - (intOf i).toNat)
    case atStart => exact ⟨0, 0, rfl, Nat.zero_le _, rfl⟩
    case round =>
      obtain ⟨k, n, rfl, hk, hwi⟩ := hrel
      have hwr : Below w.heap.size w wr := by rw [hwi.out]; exact below_drewN hb8' n
      have hvr := Lib.hid (hv8.out.below (Nat.le_refl _) (show Below w8.heap.size w8 wr by rw [hwi.out]; exact below_drewN (Below.refl _ w8) n))
      by_cases hlt : k < M
      · obtain ⟨x, hx1⟩ : ∃ x, W1[k]? = some x := ⟨_, List.getElem?_eq_getElem (by rw [HM.out]; exact hlt)⟩
        obtain ⟨b, o, rfl, hcx⟩ := hvr.out k x hx1
        have q1 : (k : Int) < M := by omega
        have HHx := Lib.hid fun n => HHas1.out (wr.drewN n) x (below_drewN hwr n) (List.mem_of_getElem? hx1)
        by_cases h0 : k = 0
        · subst h0
          rw [Nat.add_zero] at hcx
          have q1 : (0 : Int) < M := by omega
          go_wp2
          go_quiet (first | (go_at_call 35; exact Calls.quiet_of_same (HHx.out _)))
          rename_i nq
          go_wp2
          exact ⟨⟨1, n + nq, by go_num, by omega, by unfold Hid; rw [hwi.out]; simp [World.drewN, Nat.add_assoc]⟩, by simp [intOf]; omega⟩
        · obtain ⟨j, hj⟩ : ∃ j, k = j + 1 := ⟨k - 1, by omega⟩
          obtain ⟨y, hy1⟩ : ∃ y, W1[j]? = some y := ⟨_, List.getElem?_eq_getElem (by rw [HM.out]; omega)⟩
          obtain ⟨b2, o2, e2, hcy⟩ := hvr.out j y hy1
          cases e2
          have hlt2 := inc_lt HINC.out hy1 hx1 (by omega)
          have q2 : (0 : Int) < k := by omega
          have q2n : 0 < k := by omega
          have q3 : IntKind.i64.wrap ((k : Int) - 1) = (j : Int) := by rw [IntWalk.i64_in _ (by omega)]; omega
          have q4 : (j : Int) < M := by omega
          have q5 : Op.bytesLess y.toList x.toList = true := by rw [bless]; exact decide_eq_true hlt2
          clear hj hx1 hy1 h0 hlt2
          go_wp2
          go_quiet (first | (go_at_call 35; exact Calls.quiet_of_same (HHx.out _)))
          rename_i nq
          go_wp2
          exact ⟨⟨k + 1, n + nq, by go_num, by omega, by unfold Hid; rw [hwi.out]; simp [World.drewN, Nat.add_assoc]⟩, by simp [intOf]; omega⟩
      · have q1 : ¬ (k : Int) < M := by omega
        have hAr := Lib.hid (HA.out.below (Nat.le_refl _) hwr)
        clear hwi
        obtain ⟨wo, hwo⟩ : ∃ wo : World, wo = wr := ⟨_, rfl⟩
        rw [← hwo] at hwr hvr hAr
        have HWO := Lib.hid hwo
        clear hwo
        go_wp2
        go_loopw [8] (fun i wi => ∃ (k : Nat), i = .int .i64 k ∧ k ≤ N ∧ Hid (wi = wo)) (fun i _ => N - (intOf i).toNat)
        case atStart => exact ⟨0, rfl, Nat.zero_le _, HWO.out.symm⟩
        case round =>
          obtain ⟨k2, rfl, hk2, hwi⟩ := hrel
          have hwi := hwi.out
          obtain rfl : wo = wr := hwi.symm
          by_cases hlt2 : k2 < N
          · obtain ⟨x, hx1⟩ : ∃ x, xs[k2]? = some x := ⟨_, List.getElem?_eq_getElem (by rw [HN.out]; exact hlt2)⟩
            obtain ⟨b, o, rfl, hcx⟩ := hAr.out k2 x hx1
            have q1 : (k2 : Int) < N := by omega
            have HHx := Lib.hid (HHas2.out wo _ c3 x hvr.out (List.mem_of_getElem? hx1))
            clear hx1
            go_wp2_with (go_at_call 35; refine HHx.out.mono ?_; rintro e w' ⟨rfl, rfl⟩)
            exact ⟨⟨k2 + 1, by go_num, by omega, by first | exact rfl | exact True.intro⟩, by simp [intOf]; omega⟩
          · have q1 : ¬ (k2 : Int) < N := by omega
            go_wp2
            go_ret
            exact ⟨rfl, hwr⟩
end Go.Proofs.Ytndoloohdloflab
