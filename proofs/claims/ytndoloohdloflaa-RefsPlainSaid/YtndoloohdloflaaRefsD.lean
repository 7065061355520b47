/- The parts of a text with one reference in it, and of one with a doubled dollar; no condition. -/
import Derived.Test.YtndoloohdloflaaRefsC
namespace Go.Proofs.Ytndoloohdloflaa
open Go.RowKit

theorem get_at (s : ByteArray) (L : List UInt8) (h : s.data.toList = L) (i : Nat) (c : UInt8) (hc : L[i]? = some c) : i < s.size ∧ s.get! i = c := by
  subst h
  have hlt : i < s.size := by have := (List.getElem?_eq_some_iff.1 hc).1; simpa using this
  refine ⟨hlt, ?_⟩
  rw [← bget s i hlt, ← get_list' s i hlt]
  exact (List.getElem?_eq_some_iff.1 hc).2
theorem parts_plain (s : ByteArray) (L : List UInt8) (h : s.data.toList = L) : ∀ (x : List UInt8) (i f : Nat) (bs : List UInt8) (acc : List (Int × ByteArray × ByteArray × List ByteArray)), (∀ c ∈ x, c ≠ 36) → (∀ j c, x[j]? = some c → L[i + j]? = some c) →
    partsG s (f + x.length) i bs acc = partsG s f (i + x.length) (bs ++ x) acc
  | [], i, f, bs, acc, _, _ => by simp
  | c :: x, i, f, bs, acc, hc, hL => by
    obtain ⟨h1, h2⟩ := get_at s L h i c (by have := hL 0 c rfl; simpa using this)
    have ih := parts_plain s L h x (i + 1) f (bs ++ [c]) acc (fun d hd => hc d (by simp [hd])) (fun j d hd => by have := hL (j + 1) d (by simpa using hd); rw [show i + 1 + j = i + (j + 1) by omega]; exact this)
    rw [List.length_cons, show f + (x.length + 1) = (f + x.length) + 1 by omega, partsG, if_pos h1, if_neg (by rw [h2]; intro e; exact hc c (by simp) e.1), h2, ih]
    rw [show i + 1 + x.length = i + (x.length + 1) by omega]
    simp
theorem parts_end (s : ByteArray) (f i : Nat) (bs : List UInt8) (acc : List (Int × ByteArray × ByteArray × List ByteArray)) (h : s.size ≤ i) : partsG s (f + 1) i bs acc = some (flushP acc bs) := by
  rw [partsG, if_neg (by omega)]
theorem close_name : ∀ (n r : List UInt8), (∀ c ∈ n, c ≠ 40 ∧ c ≠ 41) → closeL 40 41 (n ++ 41 :: r) 1 = some n.length
  | [], r, _ => by simp [closeL]
  | c :: n, r, h => by
    have hc := h c (by simp)
    have ih := close_name n r (fun d hd => h d (by simp [hd]))
    rw [List.cons_append, closeL, if_neg (by simpa using hc.1), if_neg (by simpa using hc.2), ih]
    rfl
theorem best_no (s : ByteArray) (h : ∀ c ∈ s.data.toList, isB c = false) : ∀ k, bestK s k = none
  | 0 => rfl
  | k + 1 => by
    rw [bestK, best_no s h k]
    have : updK s k none = false := by
      unfold updK
      by_cases hlt : (fAt k).1.size < s.size
      · have : isB (s.get! (fAt k).1.size) = false := by
          rw [← bget s _ hlt, ← get_list' s _ hlt]
          exact h _ (List.getElem_mem _)
        simp [this]
      · simp [hlt]
    rw [this]; rfl

theorem parts_ref (a b n : ByteArray) (s : ByteArray) (hs : s.data.toList = a.data.toList ++ 36 :: 40 :: (n.data.toList ++ 41 :: b.data.toList)) (ha : ∀ c ∈ a.data.toList, c ≠ 36) (hb : ∀ c ∈ b.data.toList, c ≠ 36) (ha0 : a.data.toList ≠ []) (hb0 : b.data.toList ≠ [])
    (hn : ∀ c ∈ n.data.toList, (c ≠ 40 ∧ c ≠ 41) ∧ isB c = false) :
    partsI s = some [((1 : Int), a, (⟨#[]⟩ : ByteArray), ([] : List ByteArray)), ((2 : Int), n, (⟨#[]⟩ : ByteArray), ([] : List ByteArray)), ((1 : Int), b, (⟨#[]⟩ : ByteArray), ([] : List ByteArray))] := by
  have hz : s.size = a.data.toList.length + 2 + n.data.toList.length + 1 + b.data.toList.length := by
    have := congrArg List.length hs
    simp at this
    have e : s.data.size = s.size := rfl
    simp; omega
  obtain ⟨la, hla⟩ : ∃ l, a.data.toList = l := ⟨_, rfl⟩
  obtain ⟨lb, hlb⟩ : ∃ l, b.data.toList = l := ⟨_, rfl⟩
  obtain ⟨ln, hln⟩ : ∃ l, n.data.toList = l := ⟨_, rfl⟩
  have ea : mk la = a := by rw [← hla]; rfl
  have eb : mk lb = b := by rw [← hlb]; rfl
  rw [hla] at hs ha ha0 hz
  rw [hlb] at hs hb hb0 hz
  rw [hln] at hs hn hz
  unfold partsI
  have g0 := get_at s _ hs la.length 36 (by rw [List.getElem?_append_right (Nat.le_refl _)]; simp)
  have g1 := get_at s _ hs (la.length + 1) 40 (by rw [List.getElem?_append_right (by omega)]; simp)
  have he : endI s (la.length + 1) = ((la.length + 2 + ln.length : Nat) : Int) := by
    unfold endI
    rw [g1.2, hs]
    have hd : (la ++ 36 :: 40 :: (ln ++ 41 :: lb)).drop (la.length + 1 + 1) = ln ++ 41 :: lb := by
      rw [List.drop_append]
      simp [show la.length + 1 + 1 - la.length = 2 by omega]
      omega
    rw [hd]
    show posI _ (closeL 40 41 _ 1) = _
    rw [close_name ln lb (fun c hc => (hn c hc).1)]
    simp only [posI]; omega
  have hx : s.extract (la.length + 2) (la.length + 2 + ln.length) = n := by
    apply ba_ext
    rw [extract_list, hs, hln]
    rw [show la ++ 36 :: 40 :: (ln ++ 41 :: lb) = (la ++ [36, 40]) ++ (ln ++ 41 :: lb) by simp]
    rw [List.drop_take, List.drop_append]
    simp [List.drop_eq_nil_of_le]
  have e1 := parts_plain s _ hs la 0 (s.size + 1 - la.length) [] [] ha (fun j c hc => by rw [Nat.zero_add, List.getElem?_append_left (List.getElem?_eq_some_iff.1 hc).1]; exact hc)
  rw [show s.size + 1 - la.length + la.length = s.size + 1 by omega, Nat.zero_add, List.nil_append] at e1
  rw [e1, show s.size + 1 - la.length = (s.size - la.length) + 1 by omega, partsG, if_pos g0.1, if_pos ⟨g0.2, g1.1⟩, if_neg (by rw [g1.2]; decide), if_pos (.inl g1.2), he, if_neg (by omega)]
  rw [show (((la.length + 2 + ln.length : Nat) : Int)).toNat = la.length + 2 + ln.length by omega, hx]
  have hw : withinP n = ((2 : Int), n, (⟨#[]⟩ : ByteArray), ([] : List ByteArray)) := within_none (best_no n (fun c hc => (hn c (by rw [← hln]; exact hc)).2) 35)
  rw [hw]
  have e2 := parts_plain s _ hs lb (la.length + 2 + ln.length + 1) (s.size - la.length - lb.length) [] (flushP [] la ++ [((2 : Int), n, (⟨#[]⟩ : ByteArray), ([] : List ByteArray))]) hb (fun j c hc => by
    rw [show la ++ 36 :: 40 :: (ln ++ 41 :: lb) = (la ++ 36 :: 40 :: (ln ++ [41])) ++ lb by simp]
    rw [List.getElem?_append_right (by simp; omega)]
    have : la.length + 2 + ln.length + 1 + j - (la ++ 36 :: 40 :: (ln ++ [41])).length = j := by simp; omega
    rw [this]; exact hc)
  rw [show s.size - la.length - lb.length + lb.length = s.size - la.length by omega] at e2
  rw [e2, show s.size - la.length - lb.length = (s.size - la.length - lb.length - 1) + 1 by omega, parts_end _ _ _ _ _ (by omega), List.nil_append]
  simp [flushP, ha0, hb0, ea, eb]
theorem parts_dollar (a b : ByteArray) (s : ByteArray) (hs : s.data.toList = a.data.toList ++ 36 :: 36 :: b.data.toList) (ha : ∀ c ∈ a.data.toList, c ≠ 36) (hb : ∀ c ∈ b.data.toList, c ≠ 36) :
    partsI s = some [((1 : Int), mk (a.data.toList ++ 36 :: b.data.toList), (⟨#[]⟩ : ByteArray), ([] : List ByteArray))] := by
  have hz : s.size = a.data.toList.length + 2 + b.data.toList.length := by
    have := congrArg List.length hs
    simp at this
    have e : s.data.size = s.size := rfl
    simp; omega
  obtain ⟨la, hla⟩ : ∃ l, a.data.toList = l := ⟨_, rfl⟩
  obtain ⟨lb, hlb⟩ : ∃ l, b.data.toList = l := ⟨_, rfl⟩
  rw [hla] at hs ha hz ⊢
  rw [hlb] at hs hb hz ⊢
  unfold partsI
  have g0 := get_at s _ hs la.length 36 (by rw [List.getElem?_append_right (Nat.le_refl _)]; simp)
  have g1 := get_at s _ hs (la.length + 1) 36 (by rw [List.getElem?_append_right (by omega)]; simp)
  have e1 := parts_plain s _ hs la 0 (s.size + 1 - la.length) [] [] ha (fun j c hc => by rw [Nat.zero_add, List.getElem?_append_left (List.getElem?_eq_some_iff.1 hc).1]; exact hc)
  rw [show s.size + 1 - la.length + la.length = s.size + 1 by omega, Nat.zero_add, List.nil_append] at e1
  rw [e1, show s.size + 1 - la.length = (s.size - la.length) + 1 by omega, partsG, if_pos g0.1, if_pos ⟨g0.2, g1.1⟩, if_pos g1.2]
  have e2 := parts_plain s _ hs lb (la.length + 2) (s.size - la.length - lb.length) (la ++ [36]) [] hb (fun j c hc => by
    rw [show la ++ 36 :: 36 :: lb = (la ++ [36, 36]) ++ lb by simp]
    rw [List.getElem?_append_right (by simp)]
    have : la.length + 2 + j - (la ++ [36, 36]).length = j := by simp
    rw [this]; exact hc)
  rw [show s.size - la.length - lb.length + lb.length = s.size - la.length by omega] at e2
  rw [e2, show s.size - la.length - lb.length = (s.size - la.length - lb.length - 1) + 1 by omega, parts_end _ _ _ _ _ (by omega)]
  simp [flushP]
end Go.Proofs.Ytndoloohdloflaa
