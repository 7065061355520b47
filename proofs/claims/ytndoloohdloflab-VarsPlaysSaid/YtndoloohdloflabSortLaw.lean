/- Rising lists of texts, each text once: a sorted list is its own sorted list; no condition. -/
import Derived.Test.YtndoloohdloflabLists
import Derived.Lib.SlicesCompact
import Derived.Sort.KeysCollected
namespace Go.Proofs.Ytndoloohdloflab
open Go.Lib Go.RowKit
theorem lt_irr (x : (List UInt8)) : ¬ x < x := List.lt_irrefl x
theorem lt_tr {x y z : (List UInt8)} (h : x < y) (k : y < z) : x < z := List.lt_trans h k
theorem lt_of_le_ne {x y : (List UInt8)} (h : x ≤ y) (k : x ≠ y) : x < y := by
  rcases List.le_iff_lt_or_eq.1 h with h | h
  · exact h
  · exact absurd h k
theorem le_of_lt' {x y : (List UInt8)} (h : x < y) : x ≤ y := List.le_of_lt h
theorem lt_le {x y z : (List UInt8)} (h : x < y) (k : y ≤ z) : x < z := by
  rcases List.le_iff_lt_or_eq.1 k with k | k
  · exact lt_tr h k
  · exact k ▸ h
theorem tri (x y : (List UInt8)) : x < y ∨ x = y ∨ y < x := by
  rcases List.le_total x y with h | h
  · rcases List.le_iff_lt_or_eq.1 h with h | h
    · exact .inl h
    · exact .inr (.inl h)
  · rcases List.le_iff_lt_or_eq.1 h with h | h
    · exact .inr (.inr h)
    · exact .inr (.inl h.symm)
def Inc (l : List (List UInt8)) : Prop := l.Pairwise (· < ·)
theorem inc_ext : ∀ {a b : List (List UInt8)}, Inc a → Inc b → (∀ x, x ∈ a ↔ x ∈ b) → a = b
  | [], [], _, _, _ => rfl
  | [], y :: b, _, _, h => by have := (h y).2 (by simp); simp at this
  | x :: a, [], _, _, h => by have := (h x).1 (by simp); simp at this
  | x :: a, y :: b, ha, hb, h => by
    have ha1 := List.pairwise_cons.1 ha
    have hb1 := List.pairwise_cons.1 hb
    have e : x = y := by
      rcases List.mem_cons.1 ((h x).1 (by simp)) with e | h1
      · exact e
      rcases List.mem_cons.1 ((h y).2 (by simp)) with e | h2
      · exact e.symm
      · exact absurd (lt_tr (ha1.1 y h2) (hb1.1 x h1)) (lt_irr x)
    subst e
    rw [inc_ext ha1.2 hb1.2 fun z => ?_]
    constructor
    · intro hz
      rcases List.mem_cons.1 ((h z).1 (by simp [hz])) with e | h1
      · subst e; exact absurd (ha1.1 z hz) (lt_irr z)
      · exact h1
    · intro hz
      rcases List.mem_cons.1 ((h z).2 (by simp [hz])) with e | h1
      · subst e; exact absurd (hb1.1 z hz) (lt_irr z)
      · exact h1
theorem compact_upto (zs : List (List UInt8)) (hs : zs.Pairwise (· ≤ ·)) : ∀ m, m ≤ zs.length → Inc (compactUpTo zs.toArray m) ∧ (∀ x, x ∈ compactUpTo zs.toArray m ↔ x ∈ zs.take m)
  | 0, _ => ⟨by simp [compactUpTo, Inc], by simp [compactUpTo]⟩
  | m + 1, hm => by
    obtain ⟨h1, h2⟩ := compact_upto zs hs m (by omega)
    have hd : (zs.toArray)[m]! = zs[m] := by simp [getElem!_pos, show m < zs.length by omega]
    have ht : zs.take (m + 1) = zs.take m ++ [zs[m]] := List.take_succ_eq_append_getElem (by omega)
    have hp := List.Pairwise.sublist (List.take_sublist (m + 1) zs) hs
    rw [ht] at hp
    have hle : ∀ x ∈ zs.take m, x ≤ zs[m] := fun x hx => (List.pairwise_append.1 hp).2.2 x hx zs[m] (by simp)
    rw [compactUpTo_succ, hd]
    by_cases hk : keeps zs.toArray m = true
    · rw [if_pos hk, ht]
      refine ⟨List.pairwise_append.2 ⟨h1, by simp, ?_⟩, fun x => by rw [List.mem_append, List.mem_append, h2]⟩
      intro x hx y hy
      rw [List.mem_singleton] at hy
      subst hy
      refine lt_of_le_ne (hle x ((h2 x).1 hx)) ?_
      intro e
      rw [keeps, decide_eq_true_eq] at hk
      rcases hk with rfl | hk
      · simp [compactUpTo] at hx
      · have hm0 : m ≠ 0 := by rintro rfl; simp [compactUpTo] at hx
        have hd1 : (zs.toArray)[m - 1]! = zs[m - 1] := by simp [getElem!_pos, show m - 1 < zs.length by omega]
        rw [hd, hd1] at hk
        have hx1 : x ∈ zs.take m := (h2 x).1 hx
        have hl1 : zs[m - 1] ≤ zs[m] := hle _ (by rw [List.mem_take_iff_getElem]; exact ⟨m - 1, by omega, rfl⟩)
        obtain ⟨i, hi, he⟩ := List.mem_take_iff_getElem.1 hx1
        have hl2 : x ≤ zs[m - 1] := by
          rw [← he]
          rcases Nat.lt_or_eq_of_le (show i ≤ m - 1 by omega) with h | h
          · exact List.pairwise_iff_getElem.1 hs i (m - 1) (by omega) (by omega) h
          · subst h; exact List.le_refl _
        rw [e] at hl2
        exact hk (List.le_antisymm hl2 hl1)
    · rw [if_neg hk, List.append_nil, ht]
      refine ⟨h1, fun x => ?_⟩
      rw [h2, List.mem_append]
      refine ⟨.inl, ?_⟩
      rintro (h | h)
      · exact h
      · rw [List.mem_singleton] at h
        subst h
        simp only [keeps, decide_eq_true_eq, not_or, Decidable.not_not] at hk
        have hd1 : (zs.toArray)[m - 1]! = zs[m - 1] := by simp [getElem!_pos, show m - 1 < zs.length by omega]
        rw [hd, hd1] at hk
        rw [hk.2, List.mem_take_iff_getElem]
        exact ⟨m - 1, by omega, rfl⟩
def sortL (l : List (List UInt8)) : List (List UInt8) := compact (l.mergeSort fun x y => decide (x ≤ y))
theorem sortL_inc (l : List (List UInt8)) : Inc (sortL l) ∧ ∀ x, x ∈ sortL l ↔ x ∈ l := by
  have hs : (l.mergeSort fun x y => decide (x ≤ y)).Pairwise (· ≤ ·) := by
    have := List.pairwise_mergeSort (le := fun x y : (List UInt8) => decide (x ≤ y)) (fun a b c h k => by simp at *; exact List.le_trans h k) (fun a b => by simpa using List.le_total a b) l
    simpa using this
  have h := compact_upto _ hs _ (Nat.le_refl _)
  refine ⟨h.1, fun x => ?_⟩
  show x ∈ compactUpTo _ _ ↔ _
  rw [h.2, List.take_length, List.mem_mergeSort]
theorem sortL_idem (l : List (List UInt8)) : sortL (sortL l) = sortL l := inc_ext (sortL_inc _).1 (sortL_inc _).1 (sortL_inc _).2
theorem sortL_is {l s : List (List UInt8)} (h : Inc s) (hm : ∀ x, x ∈ s ↔ x ∈ l) : s = sortL l := inc_ext h (sortL_inc l).1 fun x => by rw [hm, (sortL_inc l).2]
def lst (l : List ByteArray) : List (List UInt8) := l.map (·.data.toList)
def sortB (l : List ByteArray) : List ByteArray := (sortL (lst l)).map mk
theorem lst_mk (l : List (List UInt8)) : lst (l.map mk) = l := by simp [lst, mk, Function.comp_def]
theorem mk_lst (l : List ByteArray) : (lst l).map mk = l := by
  rw [lst, List.map_map]
  exact List.map_id l
theorem sortB_idem (l : List ByteArray) : sortB (sortB l) = sortB l := by rw [sortB, sortB, lst_mk, sortL_idem]
theorem sortB_is {l s : List ByteArray} (h : Inc (lst s)) (hm : ∀ x, x ∈ lst s ↔ x ∈ lst l) : s = sortB l := by rw [sortB, ← sortL_is h hm, mk_lst]
theorem sortB_inc (l : List ByteArray) : Inc (lst (sortB l)) := by rw [sortB, lst_mk]; exact (sortL_inc _).1
theorem mem_lst (l : List ByteArray) (x : ByteArray) : x.data.toList ∈ lst l ↔ x ∈ l := by
  rw [lst, List.mem_map]
  exact ⟨fun ⟨y, h, e⟩ => by rw [← ba_ext e]; exact h, fun h => ⟨x, h, rfl⟩⟩
theorem sortB_mem (l : List ByteArray) (x : ByteArray) : x ∈ sortB l ↔ x ∈ l := by rw [← mem_lst, ← mem_lst, sortB, lst_mk, (sortL_inc _).2]
theorem sortL_len (l : List (List UInt8)) : (sortL l).length ≤ l.length := by
  have h : ∀ zs : List (List UInt8), (compact zs).length ≤ zs.length := fun zs => by
    unfold compact compactUpTo
    rw [List.length_map]
    exact Nat.le_trans (List.length_filter_le _ _) (by simp)
  have := h (l.mergeSort fun x y => decide (x ≤ y))
  rw [List.length_mergeSort] at this
  exact this
theorem sortB_len (l : List ByteArray) : (sortB l).length ≤ l.length := by
  have := sortL_len (lst l)
  rw [sortB, List.length_map]
  simpa [lst] using this
end Go.Proofs.Ytndoloohdloflab
