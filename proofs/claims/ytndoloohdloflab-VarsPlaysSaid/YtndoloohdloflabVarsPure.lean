/- Lists of variables by rising names: what putting in and taking away leave, by the place where a name stands or would stand; no condition beside those of each lemma. -/
import Derived.Test.YtndoloohdloflabVars
import Derived.Test.YtndoloohdloflabSortIns
namespace Go.Proofs.Ytndoloohdloflab
open Go.RowKit Go.Maps
theorem before_lt : ∀ (x y : List UInt8), bytesBefore x y = decide (x < y)
  | [], [] => by simp [bytesBefore]
  | _ :: _, [] => by simp [bytesBefore]
  | [], _ :: _ => by simp [bytesBefore]
  | a :: x, b :: y => by
    rw [bytesBefore, before_lt x y]
    simp only [List.cons_lt_cons_iff]
    by_cases h1 : a < b <;> by_cases h2 : a = b <;> by_cases h3 : x < y <;> simp [h1, h2, h3]
def Vr.nm (v : Vr) : List UInt8 := v.name.data.toList
/-- the names rise -/
def Up (l : List Vr) : Prop := l.Pairwise fun a b => a.nm < b.nm
theorem Up.nil : Up [] := List.Pairwise.nil
theorem Up.at {l : List Vr} (h : Up l) {i j : Nat} {u v : Vr} (hu : l[i]? = some u) (hv : l[j]? = some v) (hij : i < j) : u.nm < v.nm := by
  have h1 := List.getElem?_eq_some_iff.1 hu
  have h2 := List.getElem?_eq_some_iff.1 hv
  have := List.pairwise_iff_getElem.1 h i j h1.1 h2.1 hij
  rw [h1.2, h2.2] at this; exact this
theorem Up.inj {l : List Vr} (h : Up l) {i j : Nat} {u v : Vr} (hu : l[i]? = some u) (hv : l[j]? = some v) (he : u.nm = v.nm) : i = j := by
  rcases Nat.lt_trichotomy i j with h1 | h1 | h1
  · exact absurd (h.at hu hv h1) (by rw [he]; exact lt_irr _)
  · exact h1
  · exact absurd (h.at hv hu h1) (by rw [he]; exact lt_irr _)
/-- p is the place where the name k stands, or would stand -/
structure PlaceOf (l : List Vr) (k : List UInt8) (p : Nat) : Prop where
  le : p ≤ l.length
  lo : ∀ y ∈ l.take p, y.nm < k
  hi : ∀ y ∈ l.drop p, ¬ y.nm < k
theorem PlaceOf.mk' {l : List Vr} {k : List UInt8} {p : Nat} (h : p ≤ l.length) (h1 : ∀ j y, l[j]? = some y → j < p → y.nm < k) (h2 : ∀ j y, l[j]? = some y → p ≤ j → ¬ y.nm < k) : PlaceOf l k p := by
  refine ⟨h, fun y hy => ?_, fun y hy => ?_⟩
  · obtain ⟨i, hi, e⟩ := List.getElem_of_mem hy
    rw [List.getElem_take] at e
    exact h1 i y (by rw [← e]; exact List.getElem?_eq_getElem _) (by simp at hi; omega)
  · obtain ⟨i, hi, e⟩ := List.getElem_of_mem hy
    rw [List.getElem_drop] at e
    exact h2 (p + i) y (by rw [← e]; exact List.getElem?_eq_getElem _) (by omega)
/-- the name stands at p -/
def foundAt (l : List Vr) (k : List UInt8) (p : Nat) : Bool := match l[p]? with | some y => y.nm == k | none => false
theorem ins_at (x : Vr) (a b : List Vr) (h1 : ∀ y ∈ a, y.nm < x.nm) (h2 : ∀ y ∈ b, x.nm < y.nm) : insV x (a ++ b) = a ++ x :: b := by
  induction a with
  | nil =>
    cases b with
    | nil => rfl
    | cons y b =>
      have := h2 y (by simp)
      simp only [List.nil_append, insV]
      rw [if_pos (by rw [before_lt]; exact decide_eq_true this)]
  | cons y a ih =>
    have h := h1 y (by simp)
    simp only [List.cons_append, insV]
    rw [if_neg (by rw [before_lt]; simp only [decide_eq_true_eq]; exact fun h' => lt_irr _ (lt_tr h h')), ih fun z hz => h1 z (by simp [hz])]
theorem up_split {a b : List Vr} (h : Up (a ++ b)) : Up a ∧ Up b ∧ ∀ x ∈ a, ∀ y ∈ b, x.nm < y.nm := List.pairwise_append.1 h
theorem find_none {l : List Vr} {k : ByteArray} (h : ∀ y ∈ l, y.nm ≠ k.data.toList) : getV l k = none := by
  unfold getV
  rw [List.find?_eq_none]
  intro y hy
  have := h y hy
  simpa [Vr.nm] using this
theorem del_none {l : List Vr} {k : ByteArray} (h : ∀ y ∈ l, y.nm ≠ k.data.toList) : delV l k = l := by
  unfold delV
  rw [List.filter_eq_self]
  intro y hy
  have := h y hy
  simpa [Vr.nm] using this
theorem ne_of_lt' {x y : List UInt8} (h : x < y) : x ≠ y := fun e => lt_irr y (e ▸ h)
section
variable {l : List Vr} {k : ByteArray} {p : Nat}
theorem place_found (hu : Up l) (h : PlaceOf l k.data.toList p) (hf : foundAt l k.data.toList p = true) : ∃ y a b, l = a ++ y :: b ∧ a.length = p ∧ y.name = k ∧ (∀ z ∈ a, z.nm < y.nm) ∧ (∀ z ∈ b, y.nm < z.nm) ∧ l[p]? = some y := by
  unfold foundAt at hf
  cases hy : l[p]? with
  | none => rw [hy] at hf; cases hf
  | some y =>
    rw [hy] at hf
    have h1 := List.getElem?_eq_some_iff.1 hy
    have hs : l = l.take p ++ y :: l.drop (p + 1) := by
      rw [← h1.2, List.getElem_cons_drop, List.take_append_drop]
    have hk : y.nm = k.data.toList := by simpa using hf
    have hu2 := hu
    rw [hs] at hu2
    obtain ⟨_, h3, h4⟩ := up_split hu2
    refine ⟨y, l.take p, l.drop (p + 1), hs, by have := h1.1; simp; omega, ba_ext hk, fun z hz => h4 z hz y (by simp), (List.pairwise_cons.1 h3).1, rfl⟩
theorem place_not (hu : Up l) (h : PlaceOf l k.data.toList p) (hf : foundAt l k.data.toList p = false) : ∃ a b, l = a ++ b ∧ a.length = p ∧ (∀ z ∈ a, z.nm < k.data.toList) ∧ (∀ z ∈ b, k.data.toList < z.nm) := by
  refine ⟨l.take p, l.drop p, (List.take_append_drop _ _).symm, by have := h.le; simp; omega, h.lo, fun z hz => ?_⟩
  obtain ⟨i, hi, e⟩ := List.getElem_of_mem hz
  rw [List.getElem_drop] at e
  have hz2 : l[p + i]? = some z := by rw [← e]; exact List.getElem?_eq_getElem _
  have hn := h.hi z hz
  rcases tri z.nm k.data.toList with h1 | h1 | h1
  · exact absurd h1 hn
  · exfalso
    rcases Nat.eq_zero_or_pos i with rfl | hi0
    · unfold foundAt at hf; rw [show l[p]? = some z from hz2] at hf; simp [h1] at hf
    · obtain ⟨y, hy⟩ : ∃ y, l[p]? = some y := ⟨_, List.getElem?_eq_getElem (by simp at hi; omega)⟩
      have h2 := hu.at hy hz2 (by omega)
      rw [h1] at h2
      exact h.hi y (List.mem_iff_getElem?.2 ⟨0, by rw [List.getElem?_drop]; exact hy⟩) h2
  · exact h1
theorem get_found (hu : Up l) (h : PlaceOf l k.data.toList p) (hf : foundAt l k.data.toList p = true) : getV l k = l[p]? := by
  obtain ⟨y, a, b, rfl, rfl, rfl, h1, h2, h3⟩ := place_found hu h hf
  rw [h3]
  unfold getV
  rw [List.find?_append, List.find?_eq_none.2 (fun z hz => by have := ne_of_lt' (h1 z hz); simpa [Vr.nm] using this)]
  simp
theorem get_not (hu : Up l) (h : PlaceOf l k.data.toList p) (hf : foundAt l k.data.toList p = false) : getV l k = none := by
  obtain ⟨a, b, rfl, rfl, h1, h2⟩ := place_not hu h hf
  refine find_none fun y hy => ?_
  rcases List.mem_append.1 hy with hy | hy
  · exact ne_of_lt' (h1 y hy)
  · exact (ne_of_lt' (h2 y hy)).symm
theorem get_some (hu : Up l) (h : PlaceOf l k.data.toList p) : (getV l k).isSome = foundAt l k.data.toList p := by
  cases hf : foundAt l k.data.toList p with
  | true => obtain ⟨y, a, b, _, _, _, _, _, h3⟩ := place_found hu h hf; rw [get_found hu h hf, h3]; rfl
  | false => rw [get_not hu h hf]; rfl
theorem del_found (hu : Up l) (h : PlaceOf l k.data.toList p) (hf : foundAt l k.data.toList p = true) : delV l k = l.take p ++ l.drop (p + 1) := by
  obtain ⟨y, a, b, rfl, rfl, rfl, h1, h2, _⟩ := place_found hu h hf
  have e1 : (a ++ y :: b).take a.length = a := by simp
  have e2 : (a ++ y :: b).drop (a.length + 1) = b := by simp
  rw [e1, e2]
  unfold delV
  rw [List.filter_append, List.filter_cons, if_neg (by simp)]
  congr 1
  · exact List.filter_eq_self.2 fun z hz => by have := ne_of_lt' (h1 z hz); simpa [Vr.nm] using this
  · exact List.filter_eq_self.2 fun z hz => by have := (ne_of_lt' (h2 z hz)).symm; simpa [Vr.nm] using this
theorem del_not (hu : Up l) (h : PlaceOf l k.data.toList p) (hf : foundAt l k.data.toList p = false) : delV l k = l := by
  obtain ⟨a, b, rfl, rfl, h1, h2⟩ := place_not hu h hf
  refine del_none fun y hy => ?_
  rcases List.mem_append.1 hy with hy | hy
  · exact ne_of_lt' (h1 y hy)
  · exact (ne_of_lt' (h2 y hy)).symm
theorem put_found (x : Vr) (hx : x.name = k) (hu : Up l) (h : PlaceOf l k.data.toList p) (hf : foundAt l k.data.toList p = true) : putV l x = l.take p ++ x :: l.drop (p + 1) := by
  unfold putV
  rw [hx, del_found hu h hf]
  obtain ⟨y, a, b, rfl, rfl, rfl, h1, h2, _⟩ := place_found hu h hf
  have e1 : (a ++ y :: b).take a.length = a := by simp
  have e2 : (a ++ y :: b).drop (a.length + 1) = b := by simp
  rw [e1, e2]
  have e : x.nm = y.nm := by simp [Vr.nm, hx]
  exact ins_at x a b (by rw [e]; exact h1) (by rw [e]; exact h2)
theorem put_not (x : Vr) (hx : x.name = k) (hu : Up l) (h : PlaceOf l k.data.toList p) (hf : foundAt l k.data.toList p = false) : putV l x = l.take p ++ x :: l.drop p := by
  unfold putV
  rw [hx, del_not hu h hf]
  obtain ⟨a, b, rfl, rfl, h1, h2⟩ := place_not hu h hf
  have e1 : (a ++ b).take a.length = a := by simp
  have e2 : (a ++ b).drop a.length = b := by simp
  rw [e1, e2]
  have e : x.nm = k.data.toList := by simp [Vr.nm, hx]
  exact ins_at x a b (by rw [e]; exact h1) (by rw [e]; exact h2)
theorem put_up (x : Vr) (hx : x.name = k) (hu : Up l) (h : PlaceOf l k.data.toList p) : Up (putV l x) := by
  have e : x.nm = k.data.toList := by simp [Vr.nm, hx]
  cases hf : foundAt l k.data.toList p with
  | true =>
    rw [put_found x hx hu h hf]
    obtain ⟨y, a, b, rfl, rfl, rfl, h1, h2, _⟩ := place_found hu h hf
    have e1 : (a ++ y :: b).take a.length = a := by simp
    have e2 : (a ++ y :: b).drop (a.length + 1) = b := by simp
    rw [e1, e2]
    obtain ⟨u1, u2, u3⟩ := up_split hu
    have e : x.nm = y.nm := e
    refine List.pairwise_append.2 ⟨u1, List.pairwise_cons.2 ⟨fun z hz => by rw [e]; exact h2 z hz, (List.pairwise_cons.1 u2).2⟩, fun z hz t ht => ?_⟩
    rcases List.mem_cons.1 ht with rfl | ht
    · rw [e]; exact h1 z hz
    · exact u3 z hz t (by simp [ht])
  | false =>
    rw [put_not x hx hu h hf]
    obtain ⟨a, b, rfl, rfl, h1, h2⟩ := place_not hu h hf
    have e1 : (a ++ b).take a.length = a := by simp
    have e2 : (a ++ b).drop a.length = b := by simp
    rw [e1, e2]
    obtain ⟨u1, u2, u3⟩ := up_split hu
    refine List.pairwise_append.2 ⟨u1, List.pairwise_cons.2 ⟨fun z hz => by rw [e]; exact h2 z hz, u2⟩, fun z hz t ht => ?_⟩
    rcases List.mem_cons.1 ht with rfl | ht
    · rw [e]; exact h1 z hz
    · exact u3 z hz t ht
theorem del_up (hu : Up l) : Up (delV l k) := List.Pairwise.sublist List.filter_sublist hu
end
theorem place_ex (l : List Vr) (hu : Up l) (k : List UInt8) : ∃ p, PlaceOf l k p := by
  induction l with
  | nil => exact ⟨0, Nat.le_refl _, by simp, by simp⟩
  | cons y l ih =>
    obtain ⟨h1, h2⟩ := List.pairwise_cons.1 hu
    obtain ⟨p, hp⟩ := ih h2
    by_cases h : y.nm < k
    · refine ⟨p + 1, by simp; exact hp.le, fun z hz => ?_, fun z hz => hp.hi z (by simpa using hz)⟩
      rcases List.mem_cons.1 (by simpa using hz) with rfl | hz
      · exact h
      · exact hp.lo z hz
    · refine ⟨0, Nat.zero_le _, by simp, fun z hz => ?_⟩
      rcases List.mem_cons.1 (by simpa using hz) with rfl | hz
      · exact h
      · exact fun h' => h (lt_tr (h1 z hz) h')
theorem put_up' {l : List Vr} (x : Vr) (hu : Up l) : Up (putV l x) := by
  obtain ⟨p, hp⟩ := place_ex l hu x.name.data.toList
  exact put_up x rfl hu hp
end Go.Proofs.Ytndoloohdloflab
