/- The first colon in a word that has no bracket, in plain words; no condition. -/
import Derived.Test.YtmcemaphhlcjfaaDoorNames
import Derived.Lib.Index
namespace Go.Proofs.YtmcemaphhlcjfaaDoor
open Go.RowKit

theorem index_word (y r : List UInt8) (hy : y ≠ []) (hyb : ∀ c ∈ y, isB c = false) : ∀ b : List UInt8, (∀ c ∈ b, isB c = true) → Lib.index (b ++ (y ++ r)) y = b.length
  | [], _ => by
    have hp : y.isPrefixOf (y ++ r) = true := List.isPrefixOf_iff_prefix.2 (List.prefix_append y r)
    cases h : y ++ r with
    | nil => simp at h; exact absurd h.1 hy
    | cons c l => rw [h] at hp; rw [List.nil_append]; first | rw [h] | skip
                  rw [Lib.index, if_pos hp]; rfl
  | c :: b, hb => by
    have ih := index_word y r hy hyb b (fun c hc => hb c (by simp [hc]))
    cases y with
    | nil => exact absurd rfl hy
    | cons d y =>
      have hd := hyb d (by simp)
      have hc := hb c (by simp)
      have hne : (d == c) = false := by
        rw [beq_eq_false_iff_ne]; intro e; rw [e, hc] at hd; cases hd
      rw [List.cons_append, Lib.index]
      rw [if_neg (by simp [List.isPrefixOf, hne]), ih]
      rw [if_neg (by rw [beq_iff_eq]; omega)]
      simp
theorem fields_split : ∀ l : List UInt8, (fieldsL l = [] ∧ ∀ c ∈ l, isB c = true) ∨
    ∃ b y r, l = b ++ (y ++ r) ∧ (∀ c ∈ b, isB c = true) ∧ y ≠ [] ∧ (∀ c ∈ y, isB c = false) ∧ (r = [] ∨ ∃ c r', r = c :: r' ∧ isB c = true) ∧ fieldsL l = y :: fieldsL r
  | [] => .inl ⟨rfl, fun c h => by cases h⟩
  | c :: l => by
    cases hc : isB c
    · right
      obtain ⟨y, r, hl, hy, hr⟩ : ∃ y r, c :: l = y ++ r ∧ (∀ d ∈ y, isB d = false) ∧ (y ≠ [] ∧ (r = [] ∨ ∃ d r', r = d :: r' ∧ isB d = true)) := by
        have key : ∀ m : List UInt8, ∃ y r, m = y ++ r ∧ (∀ d ∈ y, isB d = false) ∧ (r = [] ∨ ∃ d r', r = d :: r' ∧ isB d = true) := by
          intro m
          induction m with
          | nil => exact ⟨[], [], rfl, (fun d h => by cases h), Or.inl rfl⟩
          | cons e m ih =>
            cases he : isB e
            · obtain ⟨y, r, h1, h2, h3⟩ := ih
              refine ⟨e :: y, r, by rw [h1]; rfl, fun d hd => ?_, h3⟩
              rcases List.mem_cons.1 hd with rfl | hd
              · exact he
              · exact h2 d hd
            · exact ⟨[], e :: m, rfl, (fun d h => by cases h), Or.inr ⟨e, m, rfl, he⟩⟩
        obtain ⟨y, r, h1, h2, h3⟩ := key l
        refine ⟨c :: y, r, by rw [h1]; rfl, fun d hd => ?_, by simp, h3⟩
        rcases List.mem_cons.1 hd with rfl | hd
        · exact hc
        · exact h2 d hd
      exact ⟨[], y, r, hl, (fun d h => by cases h), hr.1, hy, hr.2, by rw [hl, fields_word y r hr.1 hy hr.2]⟩
    · rcases fields_split l with ⟨h1, h2⟩ | ⟨b, y, r, h1, h2, h3, h4, h5, h6⟩
      · left
        refine ⟨by rw [fields_blank c l hc, h1], fun d hd => ?_⟩
        rcases List.mem_cons.1 hd with rfl | hd
        · exact hc
        · exact h2 d hd
      · right
        refine ⟨c :: b, y, r, by rw [h1]; rfl, fun d hd => ?_, h3, h4, h5, by rw [fields_blank c l hc, h6]⟩
        rcases List.mem_cons.1 hd with rfl | hd
        · exact hc
        · exact h2 d hd
def nbL : List UInt8 → List UInt8
  | [] => []
  | c :: l => if isB c then [] else c :: nbL l
theorem nbL_word : ∀ (y r : List UInt8), (∀ c ∈ y, isB c = false) → (r = [] ∨ ∃ c r', r = c :: r' ∧ isB c = true) → nbL (y ++ r) = y
  | [], r, _, hr => by
    rcases hr with rfl | ⟨c, r', rfl, hc⟩
    · rfl
    · show nbL (c :: r') = []; rw [nbL, if_pos hc]
  | c :: y, r, hy, hr => by
    rw [List.cons_append, nbL, if_neg (by rw [hy c (by simp)]; simp), nbL_word y r (fun d hd => hy d (by simp [hd])) hr]
def colW (y : List UInt8) : Option Nat := if 0 ≤ Lib.indexByte y 58 ∧ Lib.indexByte y 40 < 0 then some (Lib.indexByte y 58).toNat else none
def colF : Nat → List UInt8 → Nat → Int
  | 0, _, _ => -1
  | _ + 1, [], _ => -1
  | f + 1, c :: l, i => if isB c then colF f l (i + 1) else match colW (nbL (c :: l)) with
    | some k => i + k
    | none => colF f ((c :: l).drop (nbL (c :: l)).length) (i + (nbL (c :: l)).length)
def colonB (s : ByteArray) : Int := colF s.size s.data.toList 0
theorem colF_blank : ∀ (b l : List UInt8) (f i : Nat), (∀ c ∈ b, isB c = true) → b.length ≤ f → colF f (b ++ l) i = colF (f - b.length) l (i + b.length)
  | [], l, f, i, _, _ => by simp
  | c :: b, l, f, i, hb, hf => by
    cases f with
    | zero => simp at hf
    | succ f =>
      rw [List.cons_append, colF, if_pos (hb c (by simp)), colF_blank b l f (i + 1) (fun d hd => hb d (by simp [hd])) (by simpa using hf)]
      simp only [List.length_cons]
      rw [show f + 1 - (b.length + 1) = f - b.length by omega, show i + 1 + b.length = i + (b.length + 1) by omega]
theorem colF_word (y r : List UInt8) (f i : Nat) (hy : y ≠ []) (hyb : ∀ c ∈ y, isB c = false) (hr : r = [] ∨ ∃ c r', r = c :: r' ∧ isB c = true) :
    colF (f + 1) (y ++ r) i = match colW y with
      | some k => i + k
      | none => colF f r (i + y.length) := by
  have hn := nbL_word y r hyb hr
  cases y with
  | nil => exact absurd rfl hy
  | cons c y =>
    rw [List.cons_append] at hn ⊢
    rw [colF, if_neg (by rw [hyb c (by simp)]; simp), hn]
    cases colW (c :: y) with
    | some k => rfl
    | none => simp only; rw [← List.cons_append, List.drop_left]
theorem colF_end (f : Nat) (l : List UInt8) (i : Nat) (h : ∀ c ∈ l, isB c = true) (hf : l.length ≤ f) : colF f l i = -1 := by
  have := colF_blank l [] f i h hf
  rw [List.append_nil] at this
  rw [this]; cases f - l.length <;> rfl
theorem colW_some {y : List UInt8} {k : Nat} (h : colW y = some k) : Lib.indexByte y 58 = k ∧ Lib.indexByte y 40 < 0 ∧ k < y.length := by
  unfold colW at h
  split at h
  · rename_i hc
    have h1 := Option.some.inj h
    have h2 := indexByte_lt y 58
    exact ⟨by omega, hc.2, by omega⟩
  · cases h
theorem colW_none {y : List UInt8} (h : colW y = none) : Lib.indexByte y 58 < 0 ∨ 0 ≤ Lib.indexByte y 40 := by
  unfold colW at h
  split at h
  · cases h
  · omega
end Go.Proofs.YtmcemaphhlcjfaaDoor
