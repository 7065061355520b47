/- TextEmpty: a text of which nothing is found is as it was, and replacing a text by itself turns nothing. -/
import Derived.Test.YtndoloohdloflabTextRep
namespace Go.Proofs.Ytndoloohdloflab
open Go.RowKit

theorem rpl_self (fr : List UInt8) (hf : fr ≠ []) : ∀ k l, l.length ≤ k → rpl fr fr l = l := by
  intro k
  induction k with
  | zero => intro l hl; have : l = [] := List.eq_nil_of_length_eq_zero (by omega); subst this; rfl
  | succ k ih =>
    intro l hl
    have hfl : 1 ≤ fr.length := by cases fr with | nil => exact absurd rfl hf | cons => simp
    cases l with
    | nil => rfl
    | cons c r =>
      simp only [List.length_cons] at hl
      rw [rpl_cons fr fr hf]
      split
      · rename_i h
        rw [ih _ (by rw [List.length_drop]; simp; omega)]
        obtain ⟨t, ht⟩ := List.isPrefixOf_iff_prefix.1 h
        rw [← ht]; simp
      · rw [ih r (by omega)]
theorem rpl_nil_len (fr : List UInt8) (hf : fr ≠ []) : ∀ k l, l.length ≤ k → (rpl fr [] l).length ≤ l.length := by
  intro k
  induction k with
  | zero => intro l hl; have : l = [] := List.eq_nil_of_length_eq_zero (by omega); subst this; simp [rpl_nil]
  | succ k ih =>
    intro l hl
    have hfl : 1 ≤ fr.length := by cases fr with | nil => exact absurd rfl hf | cons => simp
    cases l with
    | nil => simp [rpl_nil]
    | cons c r =>
      simp only [List.length_cons] at hl
      rw [rpl_cons fr [] hf]
      split
      · have := ih ((c :: r).drop fr.length) (by rw [List.length_drop]; simp; omega)
        rw [List.length_drop] at this
        simp only [List.nil_append]
        simp at *; omega
      · have := ih r (by omega)
        simp; omega
theorem mk_self (s : ByteArray) : mk s.data.toList = s := by apply ByteArray.ext; simp [mk]
theorem repB_self (s fr : ByteArray) (hf : fr.data.toList ≠ []) (hs : s.size ≤ 65536) : repB s fr fr = some s := by
  unfold repB repL
  have h := rpl_self _ hf _ s.data.toList (Nat.le_refl _)
  rw [if_neg hf, h, if_pos (by simpa using hs)]
  simp [mk_self]
theorem repB_none (s fr : ByteArray) (hf : fr.data.toList ≠ []) (hs : s.size ≤ 65536) : ∃ b, repB s fr ⟨#[]⟩ = some b ∧ b.size ≤ s.size ∧ (Lib.index s.data.toList fr.data.toList < 0 → b = s) := by
  have h := rpl_nil_len _ hf _ s.data.toList (Nat.le_refl _)
  refine ⟨mk (rpl fr.data.toList [] s.data.toList), ?_, by rw [mk_size]; simpa using h, fun hi => ?_⟩
  · unfold repB repL
    rw [if_neg hf, if_pos (Nat.le_trans h (by simpa using hs))]
    rfl
  · rw [index_none_rpl _ _ hf _ hi, mk_self]

set_option maxRecDepth 100000 in
set_option maxHeartbeats 2000000 in
theorem TextEmpty_walk (s fr : ByteArray) (w : World) (hs : s.size ≤ 140737488351232) (hf : fr.size ≤ 140737488351232) (hw : 0 < w.heap.size) (m : Int) (hm : w.cell? ⟨0, 0, none⟩ = some (.int .i64 m)) :
    Calls Try.prog 5 #[.string s, .string fr] w fun e w' => e = .returned (.bool true) ∧ Below w.heap.size w w' := by
  have HL := Lib.hid (textAlive_any w hw m hm)
  by_cases he : fr.size = 0
  · obtain rfl : fr = ⟨#[]⟩ := by cases fr; congr; exact Array.size_eq_zero_iff.1 he
    go_enter Try.func5, Try.ntmps5
    go_wp2_with (go_at_call 12; refine (HL.out).mono ?_; rintro e w1 ⟨rfl, HB⟩)
    all_goals (go_ret; exact ⟨rfl, HB⟩)
  have hne : fr.data.toList ≠ [] := fun e => he (by have := congrArg List.length e; simpa using this)
  have hfe : (fr.toList == []) = false := by rw [ba_toList]; simpa using hne
  by_cases hb : (20000 : Int) < s.size ∨ (20000 : Int) < fr.size
  · go_enter Try.func5, Try.ntmps5
    go_wp2_with (first | (go_at_call 12; refine (HL.out).mono ?_; rintro e w1 ⟨rfl, HB⟩) | (go_at_call 17; exfalso; omega))
    all_goals (go_ret; exact ⟨rfl, HB⟩)
  · have q1 : ¬ (20000 : Int) < s.size := by omega
    have q2 : ¬ (20000 : Int) < fr.size := by omega
    have E1 := Lib.hid fun w h1 h2 => Replace_any s fr fr w (by omega) (by omega) (by omega) h1 m h2
    have E2 := Lib.hid fun w h1 h2 => Replace_any s fr ⟨#[]⟩ w (by omega) (by omega) (by decide) h1 m h2
    have E3 := Lib.hid fun w h2 => Find_any s fr w (by omega) m h2
    rw [repB_self s fr hne (by omega)] at E1
    obtain ⟨b, hb1, hb2, hb3⟩ := repB_none s fr hne (by omega)
    rw [hb1] at E2
    unfold repV at E1 E2
    generalize Lib.index s.data.toList fr.data.toList = ix at *
    have hbs : (b.size : Int) ≤ s.size := by omega
    have HB3 := Lib.hid hb3
    clear hb1 hb hne hb3
    have hss : (s.toList == s.toList) = true := by simp
    by_cases hi : ix < 0
    · obtain rfl := HB3.out hi
      go_enter Try.func5, Try.ntmps5
      go_wp2_with fail
      refine HL.out.mono ?_
      rintro e w1 ⟨rfl, hb1⟩
      have hp1 : 0 < w1.heap.size := Nat.lt_of_lt_of_le hw hb1.size
      have hm1 : w1.cell? ⟨0, 0, none⟩ = some (.int .i64 m) := by rw [hb1.cell (p := ⟨0, 0, none⟩) hw]; exact hm
      go_wp2_with fail
      refine (E1.out w1 hp1 hm1).mono ?_
      rintro e w2 ⟨rfl, hb2⟩
      have hp2 : 0 < w2.heap.size := Nat.lt_of_lt_of_le hp1 hb2.size
      have hm2 : w2.cell? ⟨0, 0, none⟩ = some (.int .i64 m) := by rw [hb2.cell (p := ⟨0, 0, none⟩) hp1]; exact hm1
      go_wp2_with fail
      refine (E2.out w2 hp2 hm2).mono ?_
      rintro e w3 ⟨rfl, hb3⟩
      have hm3 : w3.cell? ⟨0, 0, none⟩ = some (.int .i64 m) := by rw [hb3.cell (p := ⟨0, 0, none⟩) hp2]; exact hm2
      have hbb := (hb1.trans (hb2.mono hb1.size)).trans (hb3.mono (Nat.le_trans hb1.size hb2.size))
      go_wp2_with (first | (go_at_call 19; refine (num_any _ _).mono ?_; rintro e wz ⟨rfl, rfl⟩) | (go_at_call 20; refine (E3.out _ hm3).mono ?_; rintro e wz ⟨rfl, rfl⟩))
      go_ret
      exact ⟨rfl, hbb⟩
    · have hi2 : 0 ≤ ix := by omega
      go_enter Try.func5, Try.ntmps5
      go_wp2_with fail
      refine HL.out.mono ?_
      rintro e w1 ⟨rfl, hb1⟩
      have hp1 : 0 < w1.heap.size := Nat.lt_of_lt_of_le hw hb1.size
      have hm1 : w1.cell? ⟨0, 0, none⟩ = some (.int .i64 m) := by rw [hb1.cell (p := ⟨0, 0, none⟩) hw]; exact hm
      go_wp2_with fail
      refine (E1.out w1 hp1 hm1).mono ?_
      rintro e w2 ⟨rfl, hb2⟩
      have hp2 : 0 < w2.heap.size := Nat.lt_of_lt_of_le hp1 hb2.size
      have hm2 : w2.cell? ⟨0, 0, none⟩ = some (.int .i64 m) := by rw [hb2.cell (p := ⟨0, 0, none⟩) hp1]; exact hm1
      go_wp2_with fail
      refine (E2.out w2 hp2 hm2).mono ?_
      rintro e w3 ⟨rfl, hb3⟩
      have hm3 : w3.cell? ⟨0, 0, none⟩ = some (.int .i64 m) := by rw [hb3.cell (p := ⟨0, 0, none⟩) hp2]; exact hm2
      have hbb := (hb1.trans (hb2.mono hb1.size)).trans (hb3.mono (Nat.le_trans hb1.size hb2.size))
      go_wp2_with (first | (go_at_call 19; refine (num_any _ _).mono ?_; rintro e wz ⟨rfl, rfl⟩) | (go_at_call 20; refine (E3.out _ hm3).mono ?_; rintro e wz ⟨rfl, rfl⟩))
      go_ret
      exact ⟨rfl, hbb⟩
end Go.Proofs.Ytndoloohdloflab
