/- PatFilters: which words of every list stay and which go. -/
import Derived.Test.YtndoloohdloflaaPatFiR
import Derived.Test.YtndoloohdloflaaPatLaws
import Derived.Test.YtndoloohdloflaaStrsIn
namespace Go.Proofs.Ytndoloohdloflaa
open Go.RowKit

theorem filt_sum (ps : List ByteArray) : ∀ xs : List ByteArray, (filtB ps xs false).length + (filtB ps xs true).length = xs.length
  | [] => rfl
  | x :: l => by
    have := filt_sum ps l
    simp only [filtB, List.filter_cons] at this ⊢
    cases hitB ps x <;> simp at this ⊢ <;> omega
theorem filt_le (ps xs : List ByteArray) (o : Bool) : (filtB ps xs o).length ≤ xs.length := List.length_filter_le _ _
theorem len_totL (xs : List ByteArray) : xs.length ≤ totL xs := by
  induction xs with
  | nil => simp
  | cons x l ih => simp [totL]; omega

set_option maxRecDepth 100000 in
set_option maxHeartbeats 4000000 in
theorem PatFilters_walk (A : Option Addr) (ca : Nat) (ps : List ByteArray) (B : Option Addr) (cb : Nat) (xs : List ByteArray) (w : World) (ha : StrsAt w A ps) (hl : ps.length ≤ 8796093022208) (hz : ∀ x ∈ ps, x.size ≤ 140737488351232) (_ : ps.length ≤ ca) (hb : StrsAt w B xs) (hl2 : xs.length ≤ 8796093022208) (hz2 : ∀ x ∈ xs, x.size ≤ 140737488351232) (_ : xs.length ≤ cb) :
    Calls Try.prog 5 #[.slice A ps.length ca, .slice B xs.length cb] w fun e w' => e = .returned (.bool true) ∧ Below w.heap.size w w' := by
  have HL := Lib.hid (patAlive w)
  have HB1 := Lib.hid fun w1 (h : Below w.heap.size w w1) => Big_any w1 A ca ps (ha.below (Nat.le_refl _) h) (by omega) hz
  have HB2 := Lib.hid fun w1 (h : Below w.heap.size w w1) => Big_any w1 B cb xs (hb.below (Nat.le_refl _) h) (by omega) hz2
  by_cases b1 : 20000 < bigF ps 0
  · rw [decide_eq_true b1] at HB1
    clear ha hb hz hz2 HB2
    generalize ps.length = N at *
    generalize xs.length = M at *
    go_enter Try.func5, Try.ntmps5
    go_wp2_with (first | (go_at_call 16; refine (HL.out).mono ?_; rintro e w1 ⟨rfl, HB⟩) | (go_at_call 25; refine (HB1.out _ HB).mono ?_; rintro e w2 ⟨rfl, rfl⟩))
    go_ret
    exact ⟨rfl, HB⟩
  rw [decide_eq_false b1] at HB1
  by_cases b2 : 20000 < bigF xs 0
  · rw [decide_eq_true b2] at HB2
    clear ha hb hz hz2
    obtain ⟨N, hN⟩ : ∃ N, ps.length = N := ⟨_, rfl⟩
    obtain ⟨M, hM⟩ : ∃ M, xs.length = M := ⟨_, rfl⟩
    rw [hN] at HB1 ⊢
    rw [hM] at HB2 ⊢
    clear hN hM
    go_enter Try.func5, Try.ntmps5
    go_wp2_with fail
    refine HL.out.mono ?_
    rintro e w1 ⟨rfl, HB⟩
    go_wp2_with fail
    refine (HB1.out _ HB).mono ?_
    rintro e w2 ⟨rfl, rfl⟩
    go_wp2_with fail
    refine (HB2.out _ HB).mono ?_
    rintro e w3 ⟨rfl, rfl⟩
    go_wp2
    go_ret
    exact ⟨rfl, HB⟩
  rw [decide_eq_false b2] at HB2
  by_cases b3 : 40 < ps.length
  · clear ha hb hz hz2
    obtain ⟨N, hN⟩ : ∃ N, ps.length = N := ⟨_, rfl⟩
    obtain ⟨M, hM⟩ : ∃ M, xs.length = M := ⟨_, rfl⟩
    rw [hN] at HB1 b3 ⊢
    rw [hM] at HB2 ⊢
    clear hN hM
    have q3 : (40 : Int) < N := by omega
    go_enter Try.func5, Try.ntmps5
    go_wp2_with fail
    refine HL.out.mono ?_
    rintro e w1 ⟨rfl, HB⟩
    go_wp2_with fail
    refine (HB1.out _ HB).mono ?_
    rintro e w2 ⟨rfl, rfl⟩
    go_wp2_with fail
    refine (HB2.out _ HB).mono ?_
    rintro e w3 ⟨rfl, rfl⟩
    go_wp2
    go_ret
    exact ⟨rfl, HB⟩
  have q3 : ¬ (40 : Int) < ps.length := by omega
  have hT2 : totL xs ≤ 20000 := by have := bigF_tot xs 0 (by omega); omega
  have hM2 := len_totL xs
  have hf1 := filt_le ps xs false
  have hf2 := filt_le ps xs true
  have hsum := filt_sum ps xs
  have HLent1 := Lib.hid fun w1 (h : Below w.heap.size w w1) => Lent_any w1 A ca ps (ha.below (Nat.le_refl _) h) (by omega)
  have HLent2 := Lib.hid fun w1 (h : Below w.heap.size w w1) => Lent_any w1 B cb xs (hb.below (Nat.le_refl _) h) (by omega)
  have HFil := Lib.hid fun w1 g1 c1 g2 c2 o (h1 : StrsAt w1 (some ⟨g1, 0, none⟩) ps) (h2 : StrsAt w1 (some ⟨g2, 0, none⟩) xs) => Filter_any w1 (some ⟨g1, 0, none⟩) (some ⟨g2, 0, none⟩) c1 c2 ps xs o h1 h2 (by omega) (by omega) hz hz2
  have HFR := Lib.hid fun w1 o (h : Below w.heap.size w w1) => FilterR_any w1 A B ca cb ps xs o (ha.below (Nat.le_refl _) h) (hb.below (Nat.le_refl _) h) (by omega) (by omega) hz hz2
  have HSt1 := Lib.hid fun w1 g c (h : Below w.heap.size w w1) (h1 : StrsAt w1 (some ⟨g, 0, none⟩) ps) (h2 : w1.cell? ⟨g, ps.length, none⟩ = some (.string lentX)) (h3 : ps.length + 1 ≤ c) (h4 : c ≤ 9223372036854775807) => Stays_any w1 g c A ca ps h1 h2 h3 h4 (ha.below (Nat.le_refl _) h) (by omega)
  have HSt2 := Lib.hid fun w1 g c (h : Below w.heap.size w w1) (h1 : StrsAt w1 (some ⟨g, 0, none⟩) xs) (h2 : w1.cell? ⟨g, xs.length, none⟩ = some (.string lentX)) (h3 : xs.length + 1 ≤ c) (h4 : c ≤ 9223372036854775807) => Stays_any w1 g c B cb xs h1 h2 h3 h4 (hb.below (Nat.le_refl _) h) (by omega)
  have HLA1 := Lib.hid fun (W : World) base g c (h : OwnG W base 9 1 (.slice (some ⟨g, 0, none⟩) (ps.length + 1) c) (ps.length + 1) ((ps ++ [lentX]).map Value.string)) => lent_at h
  have HLA2 := Lib.hid fun (W : World) base g c (h : OwnG W base 9 1 (.slice (some ⟨g, 0, none⟩) (xs.length + 1) c) (xs.length + 1) ((xs ++ [lentX]).map Value.string)) => lent_at h
  have HS : Hid (∀ (F : List ByteArray) w1 A2 A5 c2 c5, F.length ≤ 20000 → StrsAt w1 A2 F → StrsAt w1 A5 F → Calls Try.prog 29 #[.slice A2 F.length c2, .slice A5 F.length c5] w1 fun e w' => e = .returned (.bool true) ∧ Below w1.heap.size w1 w') := by
    intro F w1 A2 A5 c2 c5 hF h1 h2
    have := Same_any w1 A2 A5 c2 c5 F F h1 h2 (by omega)
    rw [sameL_self] at this; exact this
  have HSF := Lib.hid (HS.out (filtB ps xs false) · · · · · (by omega))
  have HST := Lib.hid (HS.out (filtB ps xs true) · · · · · (by omega))
  have HFilF := Lib.hid (HFil.out · · · · · false)
  have HFilT := Lib.hid (HFil.out · · · · · true)
  have HFRF := Lib.hid (HFR.out · false)
  have HFRT := Lib.hid (HFR.out · true)
  clear HS HFil HFR b1 b2 b3 hT2 hM2 hz hz2
  generalize filtB ps xs false = F0 at *
  generalize filtB ps xs true = F1 at *
  generalize hL1 : (ps ++ [lentX]).map Value.string = L1 at *
  generalize hL2 : (xs ++ [lentX]).map Value.string = L2 at *
  clear hL1 hL2 ha hb
  have hsum2 : ((F0.length : Int) + F1.length) = xs.length := by omega
  have w9 : IntKind.i64.wrap ((F0.length : Int) + F1.length) = ((xs.length : Nat) : Int) := by rw [IntWalk.i64_in _ (by omega)]; omega
  clear hsum2 hsum hf1 hf2
  generalize ps.length = N at *
  generalize xs.length = M at *
  generalize F0.length = n0 at *
  generalize F1.length = n1 at *
  go_enter Try.func5, Try.ntmps5
  go_wp2_with fail
  refine HL.out.mono ?_
  rintro e w1 ⟨rfl, k1⟩
  go_wp2_with fail
  refine (HB1.out _ k1).mono ?_
  rintro e w1' ⟨rfl, rfl⟩
  go_wp2_with fail
  refine (HB2.out _ k1).mono ?_
  rintro e w1'' ⟨rfl, rfl⟩
  go_wp2_with fail
  refine (HLent1.out _ k1).mono ?_
  rintro e w2 ⟨g1, c1, rfl, hown1, hb2⟩
  have k2 := k1.trans (hb2.mono k1.size)
  go_wp2_with fail
  refine (HLent2.out _ k2).mono ?_
  rintro e w3 ⟨g2, c2, rfl, hown2, hb3⟩
  have k3 := k2.trans (hb3.mono k2.size)
  have hown1 := hown1.below hb3
  go_wp2_with fail
  refine (HFilF.out w3 g1 c1 g2 c2 (HLA1.out _ _ _ _ hown1).1 (HLA2.out _ _ _ _ hown2).1).mono ?_
  rintro e w4 ⟨v4, rfl, hv4, hb4⟩
  obtain ⟨A4, c4, rfl, _, _⟩ := hv4.form
  have k4 := k3.trans (hb4.mono k3.size)
  have hown1 := hown1.below hb4
  have hown2 := hown2.below hb4
  go_wp2_with fail
  refine (HFilT.out w4 g1 c1 g2 c2 (HLA1.out _ _ _ _ hown1).1 (HLA2.out _ _ _ _ hown2).1).mono ?_
  rintro e w5 ⟨v5, rfl, hv5, hb5⟩
  obtain ⟨A5, c5, rfl, _, _⟩ := hv5.form
  have k5 := k4.trans (hb5.mono k4.size)
  have hown1 := hown1.below hb5
  have hown2 := hown2.below hb5
  have hv4 := hv4.below hb5
  have hm1 : c1 ≤ 9223372036854775807 := by obtain ⟨A', c', e, _, h2⟩ := hown1.form; cases e; unfold maxLen at h2; omega
  have hm2 : c2 ≤ 9223372036854775807 := by obtain ⟨A', c', e, _, h2⟩ := hown2.form; cases e; unfold maxLen at h2; omega
  obtain ⟨x1, x2, x3⟩ := HLA1.out _ _ _ _ hown1
  go_wp2_with fail
  refine (HSt1.out w5 g1 c1 k5 x1 x2 x3 hm1).mono ?_
  rintro e w6 ⟨rfl, hb6⟩
  have k6 := k5.trans (hb6.mono k5.size)
  have hown2 := hown2.below hb6
  have hv4 := hv4.below hb6
  have hv5 := hv5.below hb6
  obtain ⟨y1, y2, y3⟩ := HLA2.out _ _ _ _ hown2
  go_wp2_with fail
  refine (HSt2.out w6 g2 c2 k6 y1 y2 y3 hm2).mono ?_
  rintro e w7 ⟨rfl, hb7⟩
  have k7 := k6.trans (hb7.mono k6.size)
  have hv4 := hv4.below hb7
  have hv5 := hv5.below hb7
  go_wp2_with fail
  refine (HFRF.out w7 k7).mono ?_
  rintro e w8 ⟨v8, rfl, hv8, hb8⟩
  obtain ⟨A8, c8, rfl, _, _⟩ := hv8.form
  have k8 := k7.trans (hb8.mono k7.size)
  have hv4 := hv4.below hb8
  have hv5 := hv5.below hb8
  go_wp2_with fail
  refine (HSF.out w8 A4 A8 c4 c8 hv4.strsAt hv8.strsAt).mono ?_
  rintro e w9 ⟨rfl, hb9⟩
  have k9 := k8.trans (hb9.mono k8.size)
  have hv5 := hv5.below hb9
  go_wp2_with fail
  refine (HFRT.out w9 k9).mono ?_
  rintro e w10 ⟨v10, rfl, hv10, hb10⟩
  obtain ⟨A10, c10, rfl, _, _⟩ := hv10.form
  have k10 := k9.trans (hb10.mono k9.size)
  have hv5 := hv5.below hb10
  go_wp2_with fail
  refine (HST.out w10 A5 A10 c5 c10 hv5.strsAt hv10.strsAt).mono ?_
  rintro e w11 ⟨rfl, hb11⟩
  have k11 := k10.trans (hb11.mono k10.size)
  go_wp2
  go_ret
  exact ⟨rfl, k11⟩
end Go.Proofs.Ytndoloohdloflaa
