/- The rule that two sides make, or why they make none, for every two sides; conditions: texts of at most 400,000 bytes, the library's one number in its cell. -/
import Derived.Test.YtmcemaphhlcjfaaDoorMake
namespace Go.Proofs.YtmcemaphhlcjfaaDoor
open Go.RowKit

theorem nbL_len : ∀ l : List UInt8, (nbL l).length ≤ l.length
  | [] => Nat.le_refl _
  | c :: l => by
    rw [nbL]; split
    · simp
    · have := nbL_len l; simp; omega
theorem colF_in : ∀ (f : Nat) (l : List UInt8) (i : Nat), colF f l i = -1 ∨ ((i : Int) ≤ colF f l i ∧ colF f l i < i + l.length)
  | 0, _, _ => .inl rfl
  | f + 1, [], i => .inl rfl
  | f + 1, c :: l, i => by
    rw [colF]
    split
    · rcases colF_in f l (i + 1) with h | h
      · exact .inl h
      · right; simp; omega
    · have hn := nbL_len (c :: l)
      cases hc : colW (nbL (c :: l)) with
      | some k =>
        obtain ⟨_, _, h3⟩ := colW_some hc
        right; simp only [List.length_cons] at hn ⊢; omega
      | none =>
        simp only
        rcases colF_in f ((c :: l).drop (nbL (c :: l)).length) (i + (nbL (c :: l)).length) with h | h
        · exact .inl h
        · right
          rw [List.length_drop] at h
          omega
theorem colon_in (s : ByteArray) : colonB s < 0 ∨ (0 ≤ colonB s ∧ colonB s < s.size) := by
  rcases colF_in s.size s.data.toList 0 with h | h
  · left; show colF _ _ _ < 0; omega
  · right; rw [toList_len] at h; show 0 ≤ colF _ _ _ ∧ colF _ _ _ < _; omega

theorem Make_any (l r : ByteArray) (d : Bool) (w : World) (hl : l.size ≤ 400000) (hr : r.size ≤ 400000) (hw : 1 < w.heap.size) (m : Int) (hm : w.cell? ⟨1, 0, none⟩ = some (.int .i64 m)) :
    Calls Tryd.prog 13 #[.string l, .string r, .bool d] w fun e W' => MkQ w (makeP l r d) e W' := by
  have hnl := names_len l
  by_cases hT : (namesB l).length = 0
  · have e1 : makeP l r d = errP 50 := by unfold makeP; rw [if_pos hT]
    rw [e1]
    exact Make_err l r d w l 50 (.inl rfl) (fun w' h1 h2 => (made_sep l r d w' hl hr h1 m (h2.trans hm) hT).mono fun e W' h => ⟨_, h.1, h.2⟩) hw
  · rcases colon_in r with hc | ⟨hc, hc2⟩
    · rcases impl_cases (namesB l) with ⟨h1, h2, h3⟩ | ⟨h1, x, h2⟩
      · have e1 : makeP l r d = ⟨namesB l, (halvesL (namesB r)).1, (halvesL (namesB r)).2, if decide (0 < cntP (namesB l)) then [] else namesB l, if decide (0 < cntP (namesB l)) then false else d, decide (0 < cntP (namesB l)), if decide (0 < cntP (namesB l)) then d else false, ⟨#[]⟩, 0⟩ := by
          unfold makeP; rw [if_neg hT, if_neg (by omega), if_neg (by rw [h1]; simp)]
        rw [e1]
        refine Make_ok l r d w (namesB l) _ _ _ _ _ ⟨#[]⟩ hT (by omega) (fun w' g1 g2 => (made_impl l r d w' hl hr g1 m (g2.trans hm) hT hc).mono fun e W' h => ?_) hw
        rw [h2, h3] at h
        exact h
      · have e1 : makeP l r d = errP 55 := by
          unfold makeP; rw [if_neg hT, if_neg (by omega), if_pos (by rw [h1]; decide), h1]
        rw [e1]
        refine Make_err l r d w x 55 (.inr (.inl rfl)) (fun w' g1 g2 => (made_impl l r d w' hl hr g1 m (g2.trans hm) hT hc).mono fun e W' h => ?_) hw
        rw [h2] at h
        obtain ⟨_, _, _, g3, _, _, _, _, g4⟩ := h
        exact ⟨_, g3, g4⟩
    · obtain ⟨i, hi⟩ : ∃ i : Nat, colonB r = i := ⟨(colonB r).toNat, by omega⟩
      rcases stat_cases (r.extract 0 i) (namesB l) with ⟨h1, h2⟩ | ⟨h1, x, h2⟩
      · have e1 : makeP l r d = ⟨namesB l, (halvesL (namesB (r.extract (i + 1) r.size))).1, (halvesL (namesB (r.extract (i + 1) r.size))).2, namesB l, d, false, false, statS (r.extract 0 i), 0⟩ := by
          unfold makeP; rw [if_neg hT, if_pos hc, hi, Int.toNat_natCast, if_neg (by rw [h1]; simp)]
        rw [e1]
        refine Make_ok l r d w (namesB l) _ _ d false false _ hT (by omega) (fun w' g1 g2 => (made_stat l r d w' hl hr g1 m (g2.trans hm) hT i hi (by omega)).mono fun e W' h => ?_) hw
        rw [h2] at h
        exact h
      · have hne : statN (r.extract 0 i) (namesB l) ≠ 0 := by rcases h1 with h | h <;> rw [h] <;> decide
        have e1 : makeP l r d = errP (statN (r.extract 0 i) (namesB l)) := by
          unfold makeP; rw [if_neg hT, if_pos hc, hi, Int.toNat_natCast, if_pos hne]
        rw [e1]
        refine Make_err l r d w x _ (.inr h1) (fun w' g1 g2 => (made_stat l r d w' hl hr g1 m (g2.trans hm) hT i hi (by omega)).mono fun e W' h => ?_) hw
        rw [h2] at h
        obtain ⟨_, _, _, g3, _, _, _, _, g4⟩ := h
        exact ⟨_, g3, g4⟩
end Go.Proofs.YtmcemaphhlcjfaaDoor
