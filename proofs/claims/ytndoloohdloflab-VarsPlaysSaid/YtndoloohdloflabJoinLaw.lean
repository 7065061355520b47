/- Words joined by one blank are cut into the same words again; no condition. -/
import Derived.Test.YtndoloohdloflabSplit
import Derived.Lib.Join
namespace Go.Proofs.Ytndoloohdloflab
open Go.RowKit

theorem splitP_none (p : UInt8 → Bool) : ∀ l : List UInt8, ∀ x ∈ splitP p l, ∀ c ∈ x, p c = false
  | [], x, hx, c, hc => by simp [splitP] at hx; subst hx; simp at hc
  | a :: l, x, hx, c, hc => by
    have ih := splitP_none p l
    rw [splitP] at hx
    by_cases h : p a = true
    · rw [if_pos h] at hx
      rcases List.mem_cons.1 hx with rfl | hx
      · simp at hc
      · exact ih x hx c hc
    · rw [if_neg h] at hx
      cases hs : splitP p l with
      | nil => exact absurd hs (splitP_ne p l)
      | cons y ys =>
        rw [hs] at hx ih
        rcases List.mem_cons.1 hx with rfl | hx
        · rcases List.mem_cons.1 hc with rfl | hc
          · simpa using h
          · exact ih y (by simp) c hc
        · exact ih x (by simp [hx]) c hc

theorem fields_are (l : List UInt8) : ∀ x ∈ fieldsL l, x ≠ [] ∧ ∀ c ∈ x, isB c = false := by
  intro x hx
  unfold fieldsL at hx
  rw [List.mem_filter] at hx
  exact ⟨by intro e; subst e; simp at hx, splitP_none isB l x hx.1⟩

theorem fields_tail : ∀ ws : List (List UInt8), (∀ x ∈ ws, x ≠ [] ∧ ∀ c ∈ x, isB c = false) → fieldsL (Lib.joinTail [32] ws) = ws
  | [], _ => rfl
  | x :: l, h => by
    have e : Lib.joinTail [32] (x :: l) = 32 :: (x ++ Lib.joinTail [32] l) := by simp [Lib.joinTail]
    have hx := h x (by simp)
    rw [e, fields_blank _ _ (by decide), fields_word x _ hx.1 hx.2, fields_tail l (fun y hy => h y (by simp [hy]))]
    cases l with
    | nil => left; rfl
    | cons y l => right; exact ⟨32, _, by simp [Lib.joinTail]; rfl, by decide⟩

theorem fields_join (ws : List (List UInt8)) (h : ∀ x ∈ ws, x ≠ [] ∧ ∀ c ∈ x, isB c = false) : fieldsL (Lib.join ws [32]) = ws := by
  cases ws with
  | nil => rfl
  | cons x l =>
    have hx := h x (by simp)
    rw [Lib.join_cons, fields_word x _ hx.1 hx.2, fields_tail l (fun y hy => h y (by simp [hy]))]
    cases l with
    | nil => left; rfl
    | cons y l => right; exact ⟨32, _, by simp [Lib.joinTail]; rfl, by decide⟩

def joinB (xs : List ByteArray) : ByteArray := mk (Lib.join (xs.map (·.data.toList)) [32])
theorem words_join (s : ByteArray) : wordsB (joinB (wordsB s)) = wordsB s := by
  unfold wordsB joinB
  have e : ((fieldsL s.data.toList).map mk).map (·.data.toList) = fieldsL s.data.toList := by rw [List.map_map]; simp [Function.comp_def, mk]
  rw [e]
  show (fieldsL (Lib.join (fieldsL s.data.toList) [32])).map mk = _
  rw [fields_join _ (fields_are _)]
theorem tail_len : ∀ l : List (List UInt8), (Lib.joinTail [32] l).length = (l.map fun x => 1 + x.length).sum
  | [] => rfl
  | x :: l => by
    have := tail_len l
    simp [Lib.joinTail] at this ⊢; omega
end Go.Proofs.Ytndoloohdloflab
