/- A text put into a rising list at its place; no condition. -/
import Derived.Test.YtndoloohdloflabSort
import Derived.Laws.CopyOwn
namespace Go.Proofs.Ytndoloohdloflab
open Go.RowKit
theorem ins_list {α : Type} (C S : List α) (e x : α) (p L : Nat) (hS : S.length = L) (hp : p ≤ L) (hC : C.take (L + 1) = S ++ [e]) :
    ((splice C (p + 1) (S.drop p)).set p x).take (L + 1) = S.take p ++ x :: S.drop p := by
  obtain ⟨D, hD⟩ : ∃ D, C = (S ++ [e]) ++ D := ⟨C.drop (L + 1), by rw [← hC, List.take_append_drop]⟩
  obtain ⟨S1, S2, rfl, h1⟩ : ∃ S1 S2, S = S1 ++ S2 ∧ S1.length = p := ⟨S.take p, S.drop p, (List.take_append_drop p S).symm, by simp; omega⟩
  subst hD
  subst h1
  have e1 : (S1 ++ S2).drop S1.length = S2 := by simp
  have e2 : (S1 ++ S2).take S1.length = S1 := by simp
  have h2 : ∃ h t, S2 ++ [e] = h :: t := by cases S2 with
    | nil => exact ⟨e, [], rfl⟩
    | cons a l => exact ⟨a, l ++ [e], rfl⟩
  obtain ⟨h, t, ht⟩ := h2
  have e3 : (((S1 ++ S2) ++ [e]) ++ D).take (S1.length + 1) = S1 ++ [h] := by
    rw [List.append_assoc, List.append_assoc, ← List.append_assoc S2, ht]
    rw [List.take_append, List.take_of_length_le (by omega)]
    simp
  rw [e1, e2, splice, e3]
  have hl : (S1 ++ S2).length = S1.length + S2.length := by simp
  rw [List.append_assoc, List.set_append_right _ _ (Nat.le_refl _)]
  simp only [Nat.sub_self, List.cons_append, List.nil_append, List.set_cons_zero]
  rw [List.take_append, List.take_of_length_le (by omega)]
  congr 1
  rw [← hS, hl, show S1.length + S2.length + 1 - S1.length = S2.length + 1 by omega]
  simp
theorem inc_lt {srt : List ByteArray} (h : Inc (lst srt)) {i j : Nat} {u v : ByteArray} (hu : srt[i]? = some u) (hv : srt[j]? = some v) (hij : i < j) : u.toList < v.toList := by
  have h1 := (List.getElem?_eq_some_iff.1 hu)
  have h2 := (List.getElem?_eq_some_iff.1 hv)
  have := List.pairwise_iff_getElem.1 h i j (by simpa [lst] using h1.1) (by simpa [lst] using h2.1) hij
  rw [ba_toList, ba_toList, ← h1.2, ← h2.2]
  simpa [lst] using this
theorem inc_ins {srt : List ByteArray} (h : Inc (lst srt)) (x : ByteArray) (p : Nat) (hlo : ∀ j y, srt[j]? = some y → j < p → y.toList < x.toList) (hhi : ∀ j y, srt[j]? = some y → p ≤ j → ¬ y.toList < x.toList) (hne : ∀ y, srt[p]? = some y → y.toList ≠ x.toList) :
    Inc (lst (srt.take p ++ x :: srt.drop p)) := by
  have hgt : ∀ j y, srt[j]? = some y → p ≤ j → x.toList < y.toList := by
    intro j y hy hj
    rcases tri y.toList x.toList with h1 | h1 | h1
    · exact absurd h1 (hhi j y hy hj)
    · rcases Nat.lt_or_eq_of_le hj with hj | hj
      · obtain ⟨z, hz⟩ : ∃ z, srt[p]? = some z := ⟨_, List.getElem?_eq_getElem (by have := (List.getElem?_eq_some_iff.1 hy).1; omega)⟩
        have := inc_lt h hz hy hj
        rw [h1] at this
        exact absurd this (hhi p z hz (Nat.le_refl _))
      · subst hj; exact absurd h1 (hne y hy)
    · exact h1
  unfold Inc lst at *
  rw [List.map_append, List.map_cons, List.map_take, List.map_drop]
  refine List.pairwise_append.2 ⟨List.Pairwise.sublist (List.take_sublist _ _) h, List.pairwise_cons.2 ⟨?_, List.Pairwise.sublist (List.drop_sublist _ _) h⟩, ?_⟩
  · intro z hz
    rw [← List.map_drop] at hz
    obtain ⟨y, hy, rfl⟩ := List.mem_map.1 hz
    obtain ⟨i, hi, e⟩ := List.getElem_of_mem hy
    rw [List.getElem_drop] at e
    have := hgt (p + i) y (by rw [← e]; exact List.getElem?_eq_getElem _) (by omega)
    rw [ba_toList, ba_toList] at this; exact this
  · intro a ha b hb
    rw [← List.map_take] at ha
    obtain ⟨y, hy, rfl⟩ := List.mem_map.1 ha
    obtain ⟨i, hi, e⟩ := List.getElem_of_mem hy
    rw [List.getElem_take] at e
    have hi2 : i < p := by simp at hi; omega
    have h1 := hlo i y (by rw [← e]; exact List.getElem?_eq_getElem _) hi2
    rw [ba_toList, ba_toList] at h1
    rcases List.mem_cons.1 hb with rfl | hb
    · exact h1
    · rw [← List.map_drop] at hb
      obtain ⟨z, hz, rfl⟩ := List.mem_map.1 hb
      obtain ⟨i2, hi2, e2⟩ := List.getElem_of_mem hz
      rw [List.getElem_drop] at e2
      have h3 := hgt (p + i2) z (by rw [← e2]; exact List.getElem?_eq_getElem _) (by omega)
      rw [ba_toList, ba_toList] at h3
      exact lt_tr h1 h3
theorem mem_ins (srt : List ByteArray) (x y : ByteArray) (p : Nat) : y ∈ srt.take p ++ x :: srt.drop p ↔ y = x ∨ y ∈ srt := by
  rw [List.mem_append, List.mem_cons]
  constructor
  · rintro (h | h | h)
    · exact .inr (List.mem_of_mem_take h)
    · exact .inl h
    · exact .inr (List.mem_of_mem_drop h)
  · rintro (h | h)
    · exact .inr (.inl h)
    · rw [← List.take_append_drop p srt, List.mem_append] at h
      rcases h with h | h
      · exact .inl h
      · exact .inr (.inr h)
theorem bless : ∀ (x y : List UInt8), Op.bytesLess x y = decide (x < y)
  | [], [] => by simp [Op.bytesLess]
  | _ :: _, [] => by simp [Op.bytesLess]
  | [], _ :: _ => by simp [Op.bytesLess]
  | a :: x, b :: y => by
    rw [Op.bytesLess, bless x y]
    simp only [List.cons_lt_cons_iff]
    by_cases h1 : a < b <;> by_cases h2 : a = b <;> by_cases h3 : x < y <;> simp [h1, h2, h3]
end Go.Proofs.Ytndoloohdloflab
