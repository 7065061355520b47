/- TextJoins: the texts of every list are joined by one blank, and words that are joined are cut again as they were. -/
import Derived.Test.YtndoloohdloflabJoinR
import Derived.Test.YtndoloohdloflabTextLaws
namespace Go.Proofs.Ytndoloohdloflab
open Go.RowKit

theorem totL_sum (l : List ByteArray) : totL l = (l.map fun x => 1 + x.size).sum := by
  induction l with
  | nil => rfl
  | cons x l ih => rw [totL, ih]; simp
theorem splitP_sum (p : UInt8 → Bool) : ∀ l : List UInt8, ((splitP p l).map fun x => 1 + x.length).sum = l.length + 1
  | [] => rfl
  | c :: l => by
    have ih := splitP_sum p l
    rw [splitP]
    split
    · simp at ih ⊢; omega
    · cases hs : splitP p l with
      | nil => exact absurd hs (splitP_ne p l)
      | cons x xs => rw [hs] at ih; simp at ih ⊢; omega
theorem sum_filter (p : List UInt8 → Bool) : ∀ l : List (List UInt8), ((l.filter p).map fun x => 1 + x.length).sum ≤ (l.map fun x => 1 + x.length).sum
  | [] => Nat.le_refl _
  | x :: l => by
    have := sum_filter p l
    rw [List.filter_cons]
    split <;> simp <;> omega
theorem totL_words (s : ByteArray) : totL (wordsB s) ≤ s.size + 1 := by
  rw [totL_sum, wordsB, List.map_map]
  have h1 := sum_filter (fun x => !x.isEmpty) (splitP isB s.data.toList)
  rw [splitP_sum] at h1
  have h2 : ((fun x : ByteArray => 1 + x.size) ∘ mk) = fun x : List UInt8 => 1 + x.length := by
    funext x; show 1 + (mk x).size = _; rw [mk_size]
  rw [h2]
  have h3 : s.data.toList.length = s.size := by rw [Array.length_toList]; rfl
  rw [h3] at h1
  exact h1
theorem joinB_size (xs : List ByteArray) : (joinB xs).size ≤ totL xs := by
  have h := restJ_len xs true
  rw [restJ_join] at h
  rw [joinB, mk_size]; exact h
theorem len_totL (xs : List ByteArray) : xs.length ≤ totL xs := by
  induction xs with
  | nil => simp
  | cons x l ih => simp [totL]; omega

set_option maxRecDepth 100000 in
set_option maxHeartbeats 2000000 in
theorem TextJoins_walk (A : Option Addr) (ca : Nat) (xs : List ByteArray) (w : World) (ha : StrsAt w A xs) (hl : xs.length ≤ 8796093022208) (hz : ∀ x ∈ xs, x.size ≤ 140737488351232) (hc : xs.length ≤ ca) (hw : 0 < w.heap.size) (m : Int) (hm : w.cell? ⟨0, 0, none⟩ = some (.int .i64 m)) :
    Calls Try.prog 7 #[.slice A xs.length ca] w fun e w' => e = .returned (.bool true) ∧ Below w.heap.size w w' := by
  have HL := Lib.hid (textAlive_any w hw m hm)
  have HBig := Lib.hid fun w1 (hb : Below w.heap.size w w1) => Big_any w1 A ca xs (ha.below (Nat.le_refl _) hb) (by omega) hz
  by_cases hb : 20000 < bigF xs 0
  · rw [decide_eq_true hb] at HBig
    clear ha hz
    generalize xs.length = N at *
    go_enter Try.func7, Try.ntmps7
    go_wp2_with (first | (go_at_call 12; refine (HL.out).mono ?_; rintro e w1 ⟨rfl, HB⟩) | (go_at_call 28; refine (HBig.out _ HB).mono ?_; rintro e w2 ⟨rfl, rfl⟩))
    go_ret
    exact ⟨rfl, HB⟩
  · rw [decide_eq_false hb] at HBig
    have hT : totL xs ≤ 20000 := by have := bigF_tot xs 0 (by omega); omega
    have hN := len_totL xs
    have hJ := joinB_size xs
    have hW1 := totL_words (joinB xs)
    have hW2 := joinB_size (wordsB (joinB xs))
    have hW3 := len_totL (wordsB (joinB xs))
    have HLent := Lib.hid fun w1 (hb : Below w.heap.size w w1) => Lent_any w1 A ca xs (ha.below (Nat.le_refl _) hb) (by omega)
    have HJoin := Lib.hid fun w1 g c (h : StrsAt w1 (some ⟨g, 0, none⟩) xs) (hc : xs.length ≤ c) => Join_any w1 (some ⟨g, 0, none⟩) c xs h hc (by omega) (by omega)
    have HStay := Lib.hid fun w1 g c (hb : Below w.heap.size w w1) (h1 : StrsAt w1 (some ⟨g, 0, none⟩) xs) (h2 : w1.cell? ⟨g, xs.length, none⟩ = some (.string lentX)) (h3 : xs.length + 1 ≤ c) (h4 : c ≤ 9223372036854775807) => Stays_any w1 g c A ca xs h1 h2 h3 h4 (ha.below (Nat.le_refl _) hb) (by omega)
    have HJR := Lib.hid fun w1 (hb : Below w.heap.size w w1) => JoinR_any w1 A ca xs (ha.below (Nat.le_refl _) hb) hT (by omega)
    have HSp := Lib.hid fun w => Split_any (joinB xs) (by omega) w
    have HJ2 := Lib.hid fun w1 A2 c (h : StrsAt w1 A2 (wordsB (joinB xs))) (hc : (wordsB (joinB xs)).length ≤ c) => Join_any w1 A2 c (wordsB (joinB xs)) h hc (by omega) (by omega)
    have HSp2 := Lib.hid fun w => Split_any (joinB (wordsB (joinB xs))) (by omega) w
    have HLA := Lib.hid fun (W : World) base g c (h : OwnG W base 9 1 (.slice (some ⟨g, 0, none⟩) (xs.length + 1) c) (xs.length + 1) ((xs ++ [lentX]).map Value.string)) => lent_at h
    rw [words_join] at HSp2
    generalize joinB (wordsB (joinB xs)) = S2 at *
    generalize wordsB (joinB xs) = W1 at *
    generalize joinB xs = S1 at *
    have HSame : Hid (∀ w1 A2 A5 c2 c5, StrsAt w1 A2 W1 → StrsAt w1 A5 W1 → Calls Try.prog 24 #[.slice A2 W1.length c2, .slice A5 W1.length c5] w1 fun e w' => e = .returned (.bool true) ∧ Below w1.heap.size w1 w') := by
      intro w1 A2 A5 c2 c5 h1 h2
      have := Same_any w1 A2 A5 c2 c5 W1 W1 h1 h2 (by omega)
      rw [sameL_self] at this; exact this
    clear ha hz hb hT hJ hW1 hW2
    generalize hL : (xs ++ [lentX]).map Value.string = L at *
    clear hL
    generalize xs.length = N at *
    go_enter Try.func7, Try.ntmps7
    go_wp2_with fail
    refine HL.out.mono ?_
    rintro e w1 ⟨rfl, hb1⟩
    go_wp2_with fail
    refine (HBig.out w1 hb1).mono ?_
    rintro e w1' ⟨rfl, rfl⟩
    go_wp2_with fail
    refine (HLent.out w1' hb1).mono ?_
    rintro e w2 ⟨g, cap, rfl, hown, hb2⟩
    obtain ⟨hs2, hx2, hc2⟩ := HLA.out _ _ _ _ hown
    have hb2' := hb1.trans (hb2.mono hb1.size)
    go_wp2_with fail
    refine (HJoin.out w2 g cap hs2 (by omega)).mono ?_
    rintro e w3 ⟨rfl, hb3⟩
    have hcm : cap ≤ 9223372036854775807 := by obtain ⟨A', c', e, _, h2⟩ := hown.form; cases e; unfold maxLen at h2; omega
    have hs3 := hs2.below (Nat.le_refl _) hb3
    have hx3 : w3.cell? ⟨g, N, none⟩ = some (.string lentX) := by rw [hb3.cell (p := ⟨g, N, none⟩) (World.block_lt_of_cell? _ _ hx2)]; exact hx2
    have hb3' := hb2'.trans (hb3.mono hb2'.size)
    go_wp2_with fail
    refine (HStay.out w3 g cap hb3' hs3 hx3 hc2 hcm).mono ?_
    rintro e w4 ⟨rfl, hb4⟩
    have hb4' := hb3'.trans (hb4.mono hb3'.size)
    go_wp2_with fail
    refine (HSp.out w4).mono ?_
    rintro e w5 ⟨v5, rfl, hv5, hb5⟩
    have hb5' := hb4'.trans (hb5.mono hb4'.size)
    obtain ⟨A5, c5, rfl, hc5, _⟩ := hv5.form
    go_wp2_with fail
    refine (HJR.out w5 hb5').mono ?_
    rintro e w6 ⟨rfl, hb6⟩
    have hb6' := hb5'.trans (hb6.mono hb5'.size)
    have hv6 := hv5.below hb6
    go_wp2_with fail
    refine (HJ2.out w6 A5 c5 hv6.strsAt hc5).mono ?_
    rintro e w7 ⟨rfl, hb7⟩
    have hb7' := hb6'.trans (hb7.mono hb6'.size)
    have hv7 := hv6.below hb7
    go_wp2_with fail
    refine (HSp2.out w7).mono ?_
    rintro e w8 ⟨v8, rfl, hv8, hb8⟩
    have hb8' := hb7'.trans (hb8.mono hb7'.size)
    have hv78 := hv7.below hb8
    obtain ⟨A8, c8, rfl, hc8, _⟩ := hv8.form
    go_wp2_with fail
    refine (HSame.out w8 A5 A8 c5 c8 hv78.strsAt hv8.strsAt).mono ?_
    rintro e w9 ⟨rfl, hb9⟩
    have hb9' := hb8'.trans (hb9.mono hb8'.size)
    go_wp2
    go_ret
    exact ⟨rfl, hb9'⟩
end Go.Proofs.Ytndoloohdloflab
