/- What texts of brackets within brackets are as tokens, in plain words; no condition. -/
import Derived.Test.YtioddclglemlmaaDoorLexH
namespace Go.Proofs.YtioddclglemlmaaDoor
open Go.RowKit

theorem mk_get_in (L : List UInt8) (k : Nat) (h : k < L.length) : (mk L).get! k = L[k] := by
  rw [← bget _ _ (by rw [mk_size]; exact h)]
  show (mk L).data[k] = _
  simp [mk]
def opens : Nat → List UInt8
  | 0 => []
  | n + 1 => 36 :: 40 :: opens n
theorem opens_len : ∀ n, (opens n).length = 2 * n
  | 0 => rfl
  | n + 1 => by simp only [opens, List.length_cons, opens_len n]; omega
theorem opens_snoc : ∀ n, opens (n + 1) = opens n ++ [36, 40]
  | 0 => rfl
  | n + 1 => by
    show 36 :: 40 :: opens (n + 1) = 36 :: 40 :: opens n ++ [36, 40]
    rw [opens_snoc n]; rfl
theorem opens_get : ∀ n k, k < n → (opens n)[2 * k]? = some 36 ∧ (opens n)[2 * k + 1]? = some 40
  | 0, k, h => by omega
  | n + 1, 0, _ => ⟨rfl, rfl⟩
  | n + 1, k + 1, h => by
    have := opens_get n k (by omega)
    rw [opens, show 2 * (k + 1) = 2 * k + 1 + 1 by omega]
    simpa using this
/-- so many brackets within one another, closed or not -/
def deepL (n : Nat) (b : Bool) : List UInt8 := opens n ++ (if b then List.replicate n 41 else [])
def deepS (n : Nat) (b : Bool) : ByteArray := mk (deepL n b)
theorem deep_size (n : Nat) (b : Bool) : (deepS n b).size = 2 * n + (if b then n else 0) := by
  unfold deepS; rw [mk_size]; unfold deepL
  rw [List.length_append, opens_len]
  cases b <;> simp
theorem get_some {L : List UInt8} {k : Nat} {c : UInt8} (h : L[k]? = some c) : (mk L).get! k = c := by
  obtain ⟨h1, h2⟩ := List.getElem?_eq_some_iff.1 h
  rw [mk_get_in L k h1, h2]
theorem deep_get (n : Nat) (b : Bool) (k : Nat) (hk : k < n) : (deepS n b).get! (2 * k) = 36 ∧ (deepS n b).get! (2 * k + 1) = 40 := by
  obtain ⟨h1, h2⟩ := opens_get n k hk
  constructor
  · apply get_some; unfold deepL; rw [List.getElem?_append_left (by rw [opens_len]; omega)]; exact h1
  · apply get_some; unfold deepL; rw [List.getElem?_append_left (by rw [opens_len]; omega)]; exact h2
theorem deep_end (n k : Nat) (hk : k < n) : (deepS n true).get! (2 * n + k) = 41 := by
  apply get_some; unfold deepL
  rw [List.getElem?_append_right (by rw [opens_len]; omega), opens_len, Nat.add_sub_cancel_left]
  simp [hk]

theorem deep_quo (n : Nat) (b : Bool) (W : Nat → UInt8 → UInt8 → Nat → Except Int Nat) (d : Nat) (hd : d < n) (o : Nat) : quoP (deepS n b) W o 36 true (2 * d + 1) = ent W o 40 41 (2 * d + 2) := by
  have hs := deep_size n b
  have hg := (deep_get n b d hd).2
  unfold quoP dolP
  rw [if_neg (by decide), if_neg (by decide), if_neg (by decide), if_pos rfl, hg, decide_eq_true (by omega)]
  rfl
theorem deep_step (n : Nat) (b : Bool) (f d : Nat) (hd : d < n) : withF (deepS n b) (f + 1) d 40 41 (2 * d) = match ent (withF (deepS n b) f) d 40 41 (2 * d + 2) with
    | .error e => .error e
    | .ok j => withF (deepS n b) f d 40 41 j := by
  have hs := deep_size n b
  have hg := (deep_get n b d hd).1
  rw [withF, if_pos (by omega), hg, if_neg (by decide)]
  have e : stepW (deepS n b) (withF (deepS n b) f) d 40 36 (2 * d + 1) = ent (withF (deepS n b) f) d 40 41 (2 * d + 2) := by
    unfold stepW
    rw [if_neg (by decide), if_neg (by decide)]
    exact deep_quo n b _ d hd d
  rw [e]
  cases ent (withF (deepS n b) f) d 40 41 (2 * d + 2) <;> rfl
theorem deep_with (n : Nat) (h60 : n ≤ 60) : ∀ m d f, d + m = n → 1 ≤ d → (deepS n true).size < f + 2 * d → withF (deepS n true) f d 40 41 (2 * d) = .ok (2 * n + m + 1)
  | 0, d, f, hm, h1, hf => by
    obtain ⟨f, rfl⟩ : ∃ g, f = g + 1 := ⟨f - 1, by have := deep_size n true; simp only [if_true] at this; omega⟩
    have hs := deep_size n true
    rw [if_pos rfl] at hs
    obtain rfl : d = n := by omega
    have hg := deep_end d 0 (by omega)
    rw [withF, if_pos (by omega), show (deepS d true).get! (2 * d) = 41 from hg, if_pos rfl]
  | m + 1, d, f, hm, h1, hf => by
    have hs := deep_size n true
    rw [if_pos rfl] at hs
    obtain ⟨f, rfl⟩ : ∃ g, f = g + 1 := ⟨f - 1, by omega⟩
    have ih := deep_with n h60 m (d + 1) f (by omega) (by omega) (by omega)
    rw [deep_step n true f d (by omega)]
    have e : ent (withF (deepS n true) f) d 40 41 (2 * d + 2) = .ok (2 * n + m + 1) := by
      unfold ent; rw [if_neg (by omega)]; exact ih
    rw [e]
    obtain ⟨f, rfl⟩ : ∃ g, f = g + 1 := ⟨f - 1, by omega⟩
    show withF (deepS n true) (f + 1) d 40 41 (2 * n + m + 1) = _
    rw [withF, if_pos (by omega), show (deepS n true).get! (2 * n + m + 1) = 41 from deep_end n (m + 1) (by omega), if_pos rfl]; rfl
theorem deep_fail (n : Nat) (b : Bool) (hb : 60 < n ∨ b = false) : ∀ m d f, d + m = (if 60 < n then 60 else n) → (deepS n b).size < f + 2 * d → withF (deepS n b) f d 40 41 (2 * d) = .error (if 60 < n then 42 else 30)
  | 0, d, f, hm, hf => by
    have hs := deep_size n b
    by_cases h : 60 < n
    · rw [if_pos h] at hm ⊢
      obtain ⟨f, rfl⟩ : ∃ g, f = g + 1 := ⟨f - 1, by split at hs <;> omega⟩
      rw [deep_step n b f d (by omega)]
      have e : ent (withF (deepS n b) f) d 40 41 (2 * d + 2) = .error 42 := by unfold ent; rw [if_pos (by omega)]
      rw [e]
    · rw [if_neg h] at hm ⊢
      obtain rfl : b = false := hb.resolve_left h
      cases f with
      | zero => rfl
      | succ f => rw [withF, if_neg (by rw [hs]; simp; omega)]
  | m + 1, d, f, hm, hf => by
    have hs := deep_size n b
    have hdn : d < n ∧ d ≠ 60 := by split at hm <;> omega
    obtain ⟨f, rfl⟩ : ∃ g, f = g + 1 := ⟨f - 1, by split at hs <;> omega⟩
    have ih := deep_fail n b hb m (d + 1) f (by omega) (by omega)
    rw [deep_step n b f d hdn.1]
    have e : ent (withF (deepS n b) f) d 40 41 (2 * d + 2) = .error (if 60 < n then 42 else 30) := by
      unfold ent; rw [if_neg hdn.2]; exact ih
    rw [e]
theorem deep_word (n : Nat) (b : Bool) (h1 : 1 ≤ n) (f : Nat) : wordF (deepS n b) (f + 1) 0 = match withF (deepS n b) ((deepS n b).size + 1) 1 40 41 2 with
    | .error e => .error e
    | .ok j => wordF (deepS n b) f j := by
  have hs := deep_size n b
  have hg := (deep_get n b 0 (by omega)).1
  rw [wordF, if_pos ⟨by omega, by rw [show (deepS n b).get! 0 = 36 from hg]; rfl⟩, show (deepS n b).get! 0 = 36 from hg]
  have e := deep_quo n b (withF (deepS n b) ((deepS n b).size + 1)) 0 (by omega) 0
  have e2 : quoP (deepS n b) (withF (deepS n b) ((deepS n b).size + 1)) 0 36 true (0 + 1) = withF (deepS n b) ((deepS n b).size + 1) 1 40 41 2 := e
  rw [e2]
  cases withF (deepS n b) ((deepS n b).size + 1) 1 40 41 2 <;> rfl
theorem deep_lex (n : Nat) (b : Bool) (h1 : 1 ≤ n) (f : Nat) : lexF (deepS n b) (f + 1) 0 [] = wordR (deepS n b) (lexF (deepS n b) f) 0 [] := by
  have hs := deep_size n b
  have hg := (deep_get n b 0 (by omega)).1
  rw [lexF, if_pos (by omega), show (deepS n b).get! 0 = 36 from hg]
  rfl
theorem deep_bad (n : Nat) (b : Bool) (hb : 60 < n ∨ b = false) (h1 : 1 ≤ n) : lexF (deepS n b) ((deepS n b).size + 1) 0 [] = .error (if 60 < n then 42 else 30) := by
  rw [deep_lex n b h1]
  unfold wordR
  have e := deep_fail n b hb ((if 60 < n then 60 else n) - 1) 1 ((deepS n b).size + 1) (by split <;> omega) (by omega)
  rw [deep_word n b h1, show withF (deepS n b) ((deepS n b).size + 1) 1 40 41 2 = _ from e]
theorem sl_all (s : ByteArray) : mk (sl s 0 s.size) = s := by
  unfold sl
  rw [List.take_of_length_le (by rw [Array.length_toList]; exact Nat.le_refl _), List.drop_zero]; rfl
theorem deep_ok (n : Nat) (h1 : 1 ≤ n) (h60 : n ≤ 60) : lexF (deepS n true) ((deepS n true).size + 1) 0 [] = .ok [(1, deepS n true), (4, ⟨#[]⟩)] := by
  have hs := deep_size n true
  rw [if_pos rfl] at hs
  rw [deep_lex n true h1]
  unfold wordR
  have e := deep_with n h60 (n - 1) 1 ((deepS n true).size + 1) (by omega) (Nat.le_refl _) (by omega)
  rw [deep_word n true h1, show withF (deepS n true) ((deepS n true).size + 1) 1 40 41 2 = _ from e]
  have e3 : 2 * n + (n - 1) + 1 = (deepS n true).size := by omega
  simp only [e3]
  have ew : wordF (deepS n true) (deepS n true).size (deepS n true).size = .ok (deepS n true).size := by
    cases hq : (deepS n true).size with
    | zero => rfl
    | succ k => rw [wordF, if_neg (by omega)]
  rw [ew]
  show addT _ _ _ = _
  rw [sl_all]
  unfold addT
  rw [if_neg (by simp)]
  show lexF (deepS n true) (deepS n true).size (deepS n true).size [(1, deepS n true)] = _
  obtain ⟨k, hk⟩ : ∃ k, (deepS n true).size = k + 1 := ⟨(deepS n true).size - 1, by omega⟩
  have e4 : lexF (deepS n true) (k + 1) (deepS n true).size [(1, deepS n true)] = .ok [(1, deepS n true), (4, ⟨#[]⟩)] := by
    rw [lexF, if_neg (Nat.lt_irrefl _)]
    unfold addT
    rw [if_neg (by simp)]; rfl
  rw [← hk] at e4
  exact e4
theorem deep_92 (n : Nat) (b : Bool) : ∀ c ∈ (deepS n b).data.toList, c ≠ 92 := by
  intro c hc
  have hc2 : c ∈ opens n ++ (if b then List.replicate n 41 else []) := hc
  rcases List.mem_append.1 hc2 with h | h
  · have : ∀ n, c ∈ opens n → c = 36 ∨ c = 40 := by
      intro n
      induction n with
      | zero => intro h; cases h
      | succ n ih =>
        intro h
        rcases List.mem_cons.1 h with rfl | h
        · exact .inl rfl
        · rcases List.mem_cons.1 h with rfl | h
          · exact .inr rfl
          · exact ih h
    rcases this n h with rfl | rfl <;> decide
  · cases b
    · cases h
    · have := List.eq_of_mem_replicate h
      rw [this]; decide
end Go.Proofs.YtioddclglemlmaaDoor
