/- The lexer in plain words. A text's tokens are the same where the text stands among others, in plain words. The tokens of texts that are put together, in plain words. The tokens of the texts that the laws of gram put together, in plain words. The tokens of the six compounds around texts, in plain words. A text whose tokens end with what parts commands ends so itself, in plain words. What Parse tells of the two texts that the laws ask first, and of what a list of commands is. The tokens of a text are few and small, in plain words. Conditions: as each part says. -/
import Derived.Test.YtioddclglemlmaaGreatDoorPlA
import Derived.Lib.IndexMore
/- The lexer in plain words; no condition. -/
namespace Go.Proofs.YtioddclglemlmaaGreatDoor
open Go

theorem take_snocP (s : ByteArray) (k : Nat) (h : k < s.size) : s.data.toList.take (k + 1) = s.data.toList.take k ++ [s[k]] := by
  rw [List.take_succ_eq_append_getElem (by simpa using h)]; rfl
theorem get_list (s : ByteArray) (j : Nat) (h : j < s.size) : s.data.toList[j]'(by simpa using h) = s.get! j := by
  cases s with | mk d => simp only [ByteArray.get!]; rw [Array.getElem_toList]; exact (getElem!_pos d j h).symm
theorem bget (s : ByteArray) (j : Nat) (h : j < s.size) : s[j] = s.get! j := by rw [← get_list s j h, Array.getElem_toList]; rfl
def mk (l : List UInt8) : ByteArray := ⟨l.toArray⟩
def sl (s : ByteArray) (a b : Nat) : List UInt8 := (s.data.toList.take b).drop a
theorem sl_nil (s : ByteArray) (a : Nat) : sl s a a = [] := by
  unfold sl; rw [List.drop_eq_nil_of_le]; exact List.length_take_le _ _
theorem sl_snoc (s : ByteArray) (a b : Nat) (h : a ≤ b) (hb : b < s.size) : sl s a (b + 1) = sl s a b ++ [s.get! b] := by
  unfold sl
  rw [take_snocP s b hb, bget s b hb, List.drop_append_of_le_length (by rw [List.length_take, Array.length_toList]; show a ≤ min b s.size; omega)]
theorem sl_app (s : ByteArray) (a b c : Nat) (h1 : a ≤ b) (h2 : b ≤ c) (h3 : b ≤ s.size) : sl s a b ++ sl s b c = sl s a c := by
  unfold sl
  have e : (s.data.toList.take c).take b = s.data.toList.take b := by rw [List.take_take, Nat.min_eq_left h2]
  have hl : b ≤ (s.data.toList.take c).length ∨ c ≤ b := by
    rw [List.length_take, Array.length_toList]
    show b ≤ min c s.size ∨ _
    omega
  rw [← e, ← List.drop_append_of_le_length (by rw [List.length_take, List.length_take, Array.length_toList]; show a ≤ min b (min c s.size); omega), List.take_append_drop]
def singF (s : ByteArray) : Nat → Nat → Except Int Nat
  | 0, _ => .error 30
  | f + 1, i => if i < s.size then (if s.get! i = 39 then .ok (i + 1) else singF s f (i + 1)) else .error 30
def ent (W : Nat → UInt8 → UInt8 → Nat → Except Int Nat) (d : Nat) (c e : UInt8) (j : Nat) : Except Int Nat := if d = 60 then .error 42 else W (d + 1) c e j
def dolP (s : ByteArray) (W : Nat → UInt8 → UInt8 → Nat → Except Int Nat) (d j : Nat) : Except Int Nat :=
  if (decide (j < s.size) && s.get! j == 40) = true then ent W d 40 41 (j + 1)
  else if (decide (j < s.size) && s.get! j == 123) = true then ent W d 123 125 (j + 1)
  else .ok j
def quoP (s : ByteArray) (W : Nat → UInt8 → UInt8 → Nat → Except Int Nat) (d : Nat) (c : UInt8) (sg : Bool) (j : Nat) : Except Int Nat :=
  if c = 92 then .ok (if j < s.size then j + 1 else j)
  else if c = 39 then (if sg then singF s (s.size + 1) j else .ok j)
  else if c = 34 then ent W d 34 34 j
  else if c = 36 then dolP s W d j
  else if c = 96 then ent W d 96 96 j
  else .ok j
def stepW (s : ByteArray) (W : Nat → UInt8 → UInt8 → Nat → Except Int Nat) (d : Nat) (t c : UInt8) (j : Nat) : Except Int Nat :=
  if t = 40 ∧ c = 40 then ent W d 40 41 j else if t = 96 ∧ c ≠ 92 then .ok j else quoP s W d c (t != 34) j
def withF (s : ByteArray) : Nat → Nat → UInt8 → UInt8 → Nat → Except Int Nat
  | 0, _, _, _, _ => .error 30
  | f + 1, d, t, e, i => if i < s.size then (if s.get! i = e then .ok (i + 1) else match stepW s (withF s f) d t (s.get! i) (i + 1) with
    | .error n => .error n
    | .ok j => withF s f d t e j) else .error 30
theorem sing_ge (s : ByteArray) : ∀ f i j, singF s f i = .ok j → i ≤ j ∧ j ≤ s.size
  | 0, _, _, h => by cases h
  | f + 1, i, j, h => by
    rw [singF] at h
    split at h
    · split at h
      · cases h; omega
      · have := sing_ge s f _ _ h; omega
    · cases h
theorem quo_ge (s : ByteArray) (W : Nat → UInt8 → UInt8 → Nat → Except Int Nat) (hW : ∀ d t e i j, W d t e i = .ok j → i ≤ j ∧ j ≤ s.size) (d : Nat) (c : UInt8) (sg : Bool) (i j : Nat) (hi : i ≤ s.size) (h : quoP s W d c sg i = .ok j) : i ≤ j ∧ j ≤ s.size := by
  have he : ∀ c e k, ent W d c e k = .ok j → k ≤ j ∧ j ≤ s.size := fun c e k h => by
    unfold ent at h; split at h
    · cases h
    · exact hW _ _ _ _ _ h
  unfold quoP dolP at h
  split at h
  · cases h; split <;> omega
  · split at h
    · split at h
      · exact sing_ge s _ _ _ h
      · cases h; omega
    · split at h
      · exact he _ _ _ h
      · split at h
        · split at h
          · have := he _ _ _ h; omega
          · split at h
            · have := he _ _ _ h; omega
            · cases h; omega
        · split at h
          · exact he _ _ _ h
          · cases h; omega
theorem step_ge (s : ByteArray) (W : Nat → UInt8 → UInt8 → Nat → Except Int Nat) (hW : ∀ d t e i j, W d t e i = .ok j → i ≤ j ∧ j ≤ s.size) (d : Nat) (t c : UInt8) (i j : Nat) (hi : i ≤ s.size) (h : stepW s W d t c i = .ok j) : i ≤ j ∧ j ≤ s.size := by
  unfold stepW at h
  split at h
  · unfold ent at h; split at h
    · cases h
    · exact hW _ _ _ _ _ h
  · split at h
    · cases h; omega
    · exact quo_ge s W hW _ _ _ _ _ hi h
theorem with_ge (s : ByteArray) : ∀ f d t e i j, withF s f d t e i = .ok j → i ≤ j ∧ j ≤ s.size
  | 0, _, _, _, _, _, h => by cases h
  | f + 1, d, t, e, i, j, h => by
    rw [withF] at h
    split at h
    · rename_i hi
      split at h
      · cases h; omega
      · split at h
        · cases h
        · rename_i k hk
          have h1 := step_ge s _ (with_ge s f) d t _ _ _ (by omega) hk
          have h2 := with_ge s f _ _ _ _ _ h
          omega
    · cases h
def opsB (c : UInt8) : Bool := c == 59 || c == 38 || c == 124 || c == 40 || c == 41 || c == 60 || c == 62
def btw (c : UInt8) : Nat := if c = 32 ∨ c = 9 then 0 else if c = 10 then 1 else if c = 35 then 2 else if opsB c = true then 3 else 4
def comF (s : ByteArray) : Nat → Nat → Nat
  | 0, i => i
  | f + 1, i => if i < s.size ∧ s.get! i ≠ 10 then comF s f (i + 1) else i
theorem com_ge (s : ByteArray) : ∀ f i, i ≤ s.size → i ≤ comF s f i ∧ comF s f i ≤ s.size
  | 0, i, h => ⟨Nat.le_refl _, h⟩
  | f + 1, i, h => by
    rw [comF]; split
    · rename_i hc; have := com_ge s f (i + 1) (by omega); omega
    · omega
/-- the operator at a place: its text, and where it ends -/
def opB (c : UInt8) : Bool := c == 59 || (c == 38 || (c == 124 || c == 62))
def opT (s : ByteArray) (i : Nat) : ByteArray × Nat :=
  if opB (s.get! i) && (decide (i + 1 < s.size) && s.get! (i + 1) == s.get! i) then (⟨#[s.get! i]⟩ ++ ⟨#[s.get! i]⟩, i + 2) else (⟨#[s.get! i]⟩, i + 1)
def stopB (c : UInt8) : Bool := c == 32 || c == 9 || c == 10 || c == 59 || c == 38 || c == 124 || c == 40 || c == 41 || c == 60 || c == 62
def wordF (s : ByteArray) : Nat → Nat → Except Int Nat
  | 0, i => .ok i
  | f + 1, i => if i < s.size ∧ stopB (s.get! i) = false then (match quoP s (withF s (s.size + 1)) 0 (s.get! i) true (i + 1) with
    | .error n => .error n
    | .ok j => wordF s f j) else .ok i
theorem word_ge (s : ByteArray) : ∀ f i j, i ≤ s.size → wordF s f i = .ok j → i ≤ j ∧ j ≤ s.size
  | 0, i, j, hi, h => by cases h; omega
  | f + 1, i, j, hi, h => by
    rw [wordF] at h
    split at h
    · split at h
      · cases h
      · rename_i k hk
        have h1 := quo_ge s _ (with_ge s _) _ _ _ _ _ (by omega) hk
        have h2 := word_ge s f k j h1.2 h
        omega
    · cases h; omega
def addT (k : List (Int × ByteArray) → Except Int (List (Int × ByteArray))) (out : List (Int × ByteArray)) (t : Int × ByteArray) : Except Int (List (Int × ByteArray)) := if out.length = 5000 then .error 2 else k (out ++ [t])
def wordR (s : ByteArray) (k : Nat → List (Int × ByteArray) → Except Int (List (Int × ByteArray))) (i : Nat) (out : List (Int × ByteArray)) : Except Int (List (Int × ByteArray)) := match wordF s (s.size + 1) i with
  | .error n => .error n
  | .ok j => addT (k j) out (1, mk (sl s i j))
def lexF (s : ByteArray) : Nat → Nat → List (Int × ByteArray) → Except Int (List (Int × ByteArray))
  | 0, _, _ => .error 30
  | f + 1, i, out => if i < s.size then (match btw (s.get! i) with
    | 0 => lexF s f (i + 1) out
    | 1 => addT (lexF s f (i + 1)) out (3, ⟨#[10]⟩)
    | 2 => lexF s f (comF s (s.size + 1) i) out
    | 3 => addT (lexF s f (opT s i).2) out (2, (opT s i).1)
    | _ => wordR s (lexF s f) i out) else addT .ok out (4, ⟨#[]⟩)
theorem opT_gt (s : ByteArray) (i : Nat) (h : i < s.size) : i < (opT s i).2 ∧ (opT s i).2 ≤ s.size := by
  unfold opT
  split
  · rename_i hc
    simp only [Bool.and_eq_true, decide_eq_true_eq] at hc
    exact ⟨by show i < i + 2; omega, by show i + 2 ≤ s.size; omega⟩
  · exact ⟨by show i < i + 1; omega, by show i + 1 ≤ s.size; omega⟩
theorem btw_stop {c : UInt8} (h : btw c ≠ 0) (h1 : btw c ≠ 1) (h3 : btw c ≠ 3) (h2 : btw c ≠ 2) : stopB c = false := by
  unfold btw at *
  split at h
  · exact absurd rfl h
  · rename_i k0
    rw [if_neg k0] at h1 h2 h3
    split at h1
    · exact absurd rfl h1
    · rename_i k1
      rw [if_neg k1] at h2 h3
      split at h2
      · exact absurd rfl h2
      · rename_i k2
        rw [if_neg k2] at h3
        split at h3
        · exact absurd rfl h3
        · rename_i k3
          rw [not_or] at k0
          unfold stopB
          unfold opsB at k3
          simp only [Bool.not_eq_true, Bool.or_eq_false_iff, beq_eq_false_iff_ne] at k3 ⊢
          obtain ⟨⟨⟨⟨⟨⟨a, b⟩, c⟩, d⟩, e⟩, f⟩, g⟩ := k3
          exact ⟨⟨⟨⟨⟨⟨⟨⟨⟨k0.1, k0.2⟩, k1⟩, a⟩, b⟩, c⟩, d⟩, e⟩, f⟩, g⟩
end Go.Proofs.YtioddclglemlmaaGreatDoor

/- A text's tokens are the same where the text stands among others, in plain words; no condition. -/
namespace Go.Proofs.YtioddclglemlmaaGreatDoor
open Go

/-- s1 stands in s at o; it has neither a backslash nor a #; a blank or a line's end follows, or nothing -/
structure Mid (s1 s : ByteArray) (o : Nat) : Prop where
  same : ∀ i, i < s1.size → s.get! (o + i) = s1.get! i
  fit : o + s1.size ≤ s.size
  nob : ∀ i, i < s1.size → s1.get! i ≠ 92 ∧ s1.get! i ≠ 35
  stop : o + s1.size = s.size ∨ (o + s1.size < s.size ∧ (s.get! (o + s1.size) = 32 ∨ s.get! (o + s1.size) = 10))
section
variable {s1 s : ByteArray} {o : Nat}
/-- answers that go along -/
def LSim (s1 : ByteArray) (o : Nat) (i : Nat) (r1 r2 : Except Int Nat) : Prop := ∀ j, r1 = .ok j → i ≤ j ∧ j ≤ s1.size ∧ r2 = .ok (o + j)
def WSim (s1 : ByteArray) (o : Nat) (W1 W2 : Nat → UInt8 → UInt8 → Nat → Except Int Nat) : Prop := ∀ d t e i, i ≤ s1.size → LSim s1 o i (W1 d t e i) (W2 d t e (o + i))
theorem LSim.le {i i' : Nat} {r1 r2 : Except Int Nat} (h : LSim s1 o i r1 r2) (hi : i' ≤ i) : LSim s1 o i' r1 r2 := fun j e => ⟨Nat.le_trans hi (h j e).1, (h j e).2⟩
theorem LSim.err {i : Nat} {n : Int} {r2 : Except Int Nat} : LSim s1 o i (.error n) r2 := fun _ e => by cases e
theorem LSim.okk {i : Nat} (h : i ≤ s1.size) : LSim s1 o i (.ok i) (.ok (o + i)) := fun j e => by cases e; exact ⟨Nat.le_refl _, h, rfl⟩
theorem Mid.lt (h : Mid s1 s o) {i : Nat} (hi : i < s1.size) : o + i < s.size := by have := h.fit; omega
theorem Mid.sing (h : Mid s1 s o) : ∀ f1 f2 i, f1 ≤ f2 → i ≤ s1.size → LSim s1 o i (singF s1 f1 i) (singF s f2 (o + i)) := by
  intro f1
  induction f1 with
  | zero => intro f2 i _ _; exact LSim.err
  | succ f ih =>
    intro f2 i hf hi
    obtain ⟨g, rfl⟩ : ∃ g, f2 = g + 1 := ⟨f2 - 1, by omega⟩
    rw [singF, singF]
    by_cases q : i < s1.size
    · rw [if_pos q, if_pos (h.lt q), h.same i q]
      by_cases c : s1.get! i = 39
      · rw [if_pos c, if_pos c]; exact (LSim.okk (i := i + 1) q).le (Nat.le_succ i)
      · rw [if_neg c, if_neg c]; exact (ih g (i + 1) (by omega) q).le (Nat.le_succ i)
    · rw [if_neg q]; exact LSim.err
theorem Mid.ent {W1 W2 : Nat → UInt8 → UInt8 → Nat → Except Int Nat} (hW : WSim s1 o W1 W2) (d : Nat) (c e : UInt8) {i : Nat} (hi : i ≤ s1.size) : LSim s1 o i (ent W1 d c e i) (ent W2 d c e (o + i)) := by
  unfold Go.Proofs.YtioddclglemlmaaGreatDoor.ent
  split
  · exact LSim.err
  · exact hW _ _ _ _ hi
theorem Mid.isc (h : Mid s1 s o) {i : Nat} (hi : i ≤ s1.size) (c : UInt8) (h32 : c ≠ 32) (h10 : c ≠ 10) : (decide (o + i < s.size) && s.get! (o + i) == c) = (decide (i < s1.size) && s1.get! i == c) := by
  rcases Nat.lt_or_ge i s1.size with q | q
  · rw [h.same i q, decide_eq_true q, decide_eq_true (h.lt q)]
  · obtain rfl : i = s1.size := by omega
    rw [decide_eq_false (Nat.lt_irrefl _), Bool.false_and]
    rcases h.stop with e | ⟨e1, e | e⟩
    · rw [decide_eq_false (by omega), Bool.false_and]
    · rw [e, beq_eq_false_iff_ne.2 (Ne.symm h32), Bool.and_false]
    · rw [e, beq_eq_false_iff_ne.2 (Ne.symm h10), Bool.and_false]
theorem Mid.dol (h : Mid s1 s o) {W1 W2 : Nat → UInt8 → UInt8 → Nat → Except Int Nat} (hW : WSim s1 o W1 W2) (d : Nat) {i : Nat} (hi : i ≤ s1.size) : LSim s1 o i (dolP s1 W1 d i) (dolP s W2 d (o + i)) := by
  unfold dolP
  rw [h.isc hi 40 (by decide) (by decide), h.isc hi 123 (by decide) (by decide)]
  by_cases c1 : (decide (i < s1.size) && s1.get! i == 40) = true
  · have hl : i < s1.size := by rw [Bool.and_eq_true, decide_eq_true_eq] at c1; exact c1.1
    rw [if_pos c1, if_pos c1]; exact (Mid.ent hW d 40 41 (i := i + 1) hl).le (Nat.le_succ i)
  rw [if_neg c1, if_neg c1]
  by_cases c2 : (decide (i < s1.size) && s1.get! i == 123) = true
  · have hl : i < s1.size := by rw [Bool.and_eq_true, decide_eq_true_eq] at c2; exact c2.1
    rw [if_pos c2, if_pos c2]; exact (Mid.ent hW d 123 125 (i := i + 1) hl).le (Nat.le_succ i)
  rw [if_neg c2, if_neg c2]
  exact LSim.okk hi
theorem Mid.quo (h : Mid s1 s o) {W1 W2 : Nat → UInt8 → UInt8 → Nat → Except Int Nat} (hW : WSim s1 o W1 W2) (d : Nat) (c : UInt8) (sg : Bool) (hc : c ≠ 92) {i : Nat} (hi : i ≤ s1.size) : LSim s1 o i (quoP s1 W1 d c sg i) (quoP s W2 d c sg (o + i)) := by
  unfold quoP
  rw [if_neg hc, if_neg hc]
  by_cases c1 : c = 39
  · rw [if_pos c1, if_pos c1]
    cases sg
    · exact LSim.okk hi
    · exact h.sing _ _ i (by have := h.fit; omega) hi
  rw [if_neg c1, if_neg c1]
  by_cases c2 : c = 34
  · rw [if_pos c2, if_pos c2]; exact Mid.ent hW d 34 34 hi
  rw [if_neg c2, if_neg c2]
  by_cases c3 : c = 36
  · rw [if_pos c3, if_pos c3]; exact h.dol hW d hi
  rw [if_neg c3, if_neg c3]
  by_cases c4 : c = 96
  · rw [if_pos c4, if_pos c4]; exact Mid.ent hW d 96 96 hi
  rw [if_neg c4, if_neg c4]
  exact LSim.okk hi
theorem Mid.step (h : Mid s1 s o) {W1 W2 : Nat → UInt8 → UInt8 → Nat → Except Int Nat} (hW : WSim s1 o W1 W2) (d : Nat) (t c : UInt8) (hc : c ≠ 92) {i : Nat} (hi : i ≤ s1.size) : LSim s1 o i (stepW s1 W1 d t c i) (stepW s W2 d t c (o + i)) := by
  unfold stepW
  by_cases c1 : t = 40 ∧ c = 40
  · rw [if_pos c1, if_pos c1]; exact Mid.ent hW d 40 41 hi
  rw [if_neg c1, if_neg c1]
  by_cases c2 : t = 96 ∧ c ≠ 92
  · rw [if_pos c2, if_pos c2]; exact LSim.okk hi
  rw [if_neg c2, if_neg c2]
  exact h.quo hW d c _ hc hi
theorem Mid.with_ (h : Mid s1 s o) : ∀ f1 f2, f1 ≤ f2 → WSim s1 o (withF s1 f1) (withF s f2) := by
  intro f1
  induction f1 with
  | zero => intro f2 _ d t e i _; exact LSim.err
  | succ f ih =>
    intro f2 hf d t e i hi
    obtain ⟨g, rfl⟩ : ∃ g, f2 = g + 1 := ⟨f2 - 1, by omega⟩
    rw [withF, withF]
    by_cases q : i < s1.size
    · rw [if_pos q, if_pos (h.lt q), h.same i q]
      by_cases c : s1.get! i = e
      · rw [if_pos c, if_pos c]; exact (LSim.okk (i := i + 1) q).le (Nat.le_succ i)
      · rw [if_neg c, if_neg c]
        have hs := h.step (ih g (by omega)) d t (s1.get! i) (h.nob i q).1 (i := i + 1) q
        intro j hj
        cases hr : stepW s1 (withF s1 f) d t (s1.get! i) (i + 1) with
        | error n => rw [hr] at hj; cases hj
        | ok k =>
          rw [hr] at hj
          obtain ⟨k1, k2, k3⟩ := hs k hr
          obtain ⟨j1, j2, j3⟩ := ih g (by omega) d t e k k2 j hj
          refine ⟨by omega, j2, ?_⟩
          rw [show o + i + 1 = o + (i + 1) by omega, k3]
          exact j3
    · rw [if_neg q]; exact LSim.err
theorem Mid.word (h : Mid s1 s o) : ∀ f1 f2 i, s1.size < f1 + i → s.size < f2 + (o + i) → i ≤ s1.size → LSim s1 o i (wordF s1 f1 i) (wordF s f2 (o + i)) := by
  intro f1
  induction f1 with
  | zero => intro f2 i h1 _ h3; omega
  | succ f ih =>
    intro f2 i h1 h2 hi
    obtain ⟨g, rfl⟩ : ∃ g, f2 = g + 1 := ⟨f2 - 1, by have := h.fit; omega⟩
    rw [wordF, wordF]
    by_cases q : i < s1.size ∧ stopB (s1.get! i) = false
    · rw [if_pos q, if_pos ⟨h.lt q.1, by rw [h.same i q.1]; exact q.2⟩, h.same i q.1]
      have hs := h.quo (h.with_ (s1.size + 1) (s.size + 1) (by have := h.fit; omega)) 0 (s1.get! i) true (h.nob i q.1).1 (i := i + 1) q.1
      intro j hj
      cases hr : quoP s1 (withF s1 (s1.size + 1)) 0 (s1.get! i) true (i + 1) with
      | error n => rw [hr] at hj; cases hj
      | ok k =>
        rw [hr] at hj
        obtain ⟨k1, k2, k3⟩ := hs k hr
        obtain ⟨j1, j2, j3⟩ := ih g k (by omega) (by omega) k2 j hj
        refine ⟨by omega, j2, ?_⟩
        rw [show o + i + 1 = o + (i + 1) by omega, k3]
        exact j3
    · rw [if_neg q]
      have hn : ¬ (o + i < s.size ∧ stopB (s.get! (o + i)) = false) := by
        rintro ⟨e1, e2⟩
        rcases Nat.lt_or_ge i s1.size with r | r
        · exact q ⟨r, by rw [← h.same i r]; exact e2⟩
        · obtain rfl : i = s1.size := by omega
          rcases h.stop with e | ⟨_, e | e⟩
          · omega
          · rw [e] at e2; revert e2; decide
          · rw [e] at e2; revert e2; decide
      rw [if_neg hn]
      exact LSim.okk hi
theorem Mid.sl (h : Mid s1 s o) : ∀ (j i : Nat), i ≤ j → j ≤ s1.size → Go.Proofs.YtioddclglemlmaaGreatDoor.sl s (o + i) (o + j) = Go.Proofs.YtioddclglemlmaaGreatDoor.sl s1 i j := by
  intro j
  induction j with
  | zero =>
    intro i h1 _
    obtain rfl : i = 0 := by omega
    rw [sl_nil, sl_nil]
  | succ j ih =>
    intro i h1 h2
    rcases Nat.lt_or_ge i (j + 1) with q | q
    · rw [show o + (j + 1) = o + j + 1 by omega, sl_snoc s _ _ (by omega) (h.lt (by omega)), sl_snoc s1 _ _ (by omega) (by omega), ih i (by omega) (by omega), h.same j (by omega)]
    · obtain rfl : i = j + 1 := by omega
      rw [sl_nil, sl_nil]
theorem Mid.op (h : Mid s1 s o) {i : Nat} (hi : i < s1.size) (hb : btw (s1.get! i) = 3) : opT s (o + i) = ((opT s1 i).1, o + (opT s1 i).2) ∧ i < (opT s1 i).2 ∧ (opT s1 i).2 ≤ s1.size := by
  have hc : s1.get! i ≠ 32 ∧ s1.get! i ≠ 10 := by
    constructor
    · intro e; rw [e] at hb; revert hb; decide
    · intro e; rw [e] at hb; revert hb; decide
  have e1 := h.isc (i := i + 1) hi (s1.get! i) hc.1 hc.2
  have hg := opT_gt s1 i hi
  refine ⟨?_, hg⟩
  unfold opT
  rw [h.same i hi, show o + i + 1 = o + (i + 1) by omega, e1]
  split
  · rw [show o + i + 2 = o + (i + 2) by omega]
  · rfl
theorem btw_35 {c : UInt8} (h : btw c = 2) : c = 35 := by
  unfold btw at h
  by_cases h1 : c = 32 ∨ c = 9
  · rw [if_pos h1] at h; cases h
  rw [if_neg h1] at h
  by_cases h2 : c = 10
  · rw [if_pos h2] at h; cases h
  rw [if_neg h2] at h
  by_cases h3 : c = 35
  · exact h3
  rw [if_neg h3] at h; split at h <;> cases h
/-- the tokens go along -/
theorem Mid.lex (h : Mid s1 s o) : ∀ f1 f2 i out out2 R, s1.size < f1 + i → s.size < f2 + (o + i) → i ≤ s1.size → lexF s1 f1 i out = .ok R →
    ∃ T, R = out ++ T ++ [(4, ⟨#[]⟩)] ∧ (out2.length + T.length ≤ 4999 → ∃ g, s.size < g + (o + s1.size) ∧ lexF s f2 (o + i) out2 = lexF s g (o + s1.size) (out2 ++ T)) := by
  intro f1
  induction f1 with
  | zero => intro f2 i out out2 R h1 _ h3; omega
  | succ f ih =>
    intro f2 i out out2 R h1 h2 hi hR
    obtain ⟨g, rfl⟩ : ∃ g, f2 = g + 1 := ⟨f2 - 1, by have := h.fit; omega⟩
    rw [lexF] at hR
    by_cases q : i < s1.size
    · rw [if_pos q] at hR
      have hl := h.lt q
      have add : ∀ (t : Int × ByteArray) (k : Nat), i < k → k ≤ s1.size → (lexF s (g + 1) (o + i) out2 = addT (lexF s g (o + k)) out2 t) → addT (lexF s1 f k) out t = .ok R →
          ∃ T, R = out ++ T ++ [(4, ⟨#[]⟩)] ∧ (out2.length + T.length ≤ 4999 → ∃ g', s.size < g' + (o + s1.size) ∧ lexF s (g + 1) (o + i) out2 = lexF s g' (o + s1.size) (out2 ++ T)) := by
        intro t k k1 k2 he hr
        unfold addT at hr he
        split at hr
        · cases hr
        · obtain ⟨T, t1, t2⟩ := ih g k (out ++ [t]) (out2 ++ [t]) R (by omega) (by omega) k2 hr
          refine ⟨t :: T, by rw [t1]; simp, fun hle => ?_⟩
          rw [List.length_cons] at hle
          obtain ⟨g', g1, g2⟩ := t2 (by rw [List.length_append, List.length_singleton]; omega)
          refine ⟨g', g1, ?_⟩
          rw [he, if_neg (by omega), g2, List.append_assoc]; rfl
      have hx : lexF s (g + 1) (o + i) out2 = (match btw (s1.get! i) with
        | 0 => lexF s g (o + i + 1) out2
        | 1 => addT (lexF s g (o + i + 1)) out2 (3, ⟨#[10]⟩)
        | 2 => lexF s g (comF s (s.size + 1) (o + i)) out2
        | 3 => addT (lexF s g (opT s (o + i)).2) out2 (2, (opT s (o + i)).1)
        | _ => wordR s (lexF s g) (o + i) out2) := by rw [lexF, if_pos hl, h.same i q] <;> rfl
      have hb5 : btw (s1.get! i) = 0 ∨ btw (s1.get! i) = 1 ∨ btw (s1.get! i) = 2 ∨ btw (s1.get! i) = 3 ∨ btw (s1.get! i) = 4 := by
        unfold btw; split
        · simp
        · split
          · simp
          · split
            · simp
            · split <;> simp
      rcases hb5 with b | b | b | b | b
      · rw [b] at hR hx
        obtain ⟨T, t1, t2⟩ := ih g (i + 1) out out2 R (by omega) (by omega) q hR
        refine ⟨T, t1, fun hle => ?_⟩
        obtain ⟨g', g1, g2⟩ := t2 hle
        refine ⟨g', g1, ?_⟩
        rw [hx]
        exact g2
      · rw [b] at hR hx
        exact add _ (i + 1) (Nat.lt_succ_self i) q hx hR
      · exact absurd (btw_35 b) (h.nob i q).2
      · rw [b] at hR hx
        obtain ⟨e1, e2, e3⟩ := h.op q b
        refine add (2, (opT s1 i).1) (opT s1 i).2 e2 e3 ?_ hR
        have hx' : lexF s (g + 1) (o + i) out2 = addT (lexF s g (opT s (o + i)).2) out2 (2, (opT s (o + i)).1) := hx
        rw [hx', e1]
      · rw [b] at hR hx
        have hw := h.word (s1.size + 1) (s.size + 1) i (by omega) (by have := h.fit; omega) hi
        have hR' : wordR s1 (lexF s1 f) i out = .ok R := hR
        have hx' : lexF s (g + 1) (o + i) out2 = wordR s (lexF s g) (o + i) out2 := hx
        unfold wordR at hR' hx'
        cases hr : wordF s1 (s1.size + 1) i with
        | error n => rw [hr] at hR'; cases hR'
        | ok k =>
          rw [hr] at hR'
          obtain ⟨k1, k2, k3⟩ := hw k hr
          rw [k3] at hx'
          have hik : i < k := by
            -- a word takes a byte
            have hst : stopB (s1.get! i) = false := btw_stop (by rw [b]; decide) (by rw [b]; decide) (by rw [b]; decide) (by rw [b]; decide)
            have hr2 := hr
            rw [wordF, if_pos ⟨q, hst⟩] at hr2
            have hs := h.quo (h.with_ (s1.size + 1) (s.size + 1) (by have := h.fit; omega)) 0 (s1.get! i) true (h.nob i q).1 (i := i + 1) q
            cases hq : quoP s1 (withF s1 (s1.size + 1)) 0 (s1.get! i) true (i + 1) with
            | error n => rw [hq] at hr2; cases hr2
            | ok k' =>
              rw [hq] at hr2
              obtain ⟨a1, a2, _⟩ := hs k' hq
              have := (h.word s1.size (s.size + 1) k' (by omega) (by have := h.fit; omega) a2 k hr2).1
              omega
          refine add _ k hik k2 ?_ hR'
          rw [hx']
          show addT (lexF s g (o + k)) out2 (1, Go.Proofs.YtioddclglemlmaaGreatDoor.mk (Go.Proofs.YtioddclglemlmaaGreatDoor.sl s (o + i) (o + k))) = _
          rw [h.sl k i k1 k2]
    · obtain rfl : i = s1.size := by omega
      rw [if_neg q] at hR
      unfold addT at hR
      split at hR
      · cases hR
      · cases hR
        exact ⟨[], by simp, fun _ => ⟨g + 1, h2, by simp⟩⟩
end
end Go.Proofs.YtioddclglemlmaaGreatDoor

/- The tokens of texts that are put together, in plain words; no condition. -/
namespace Go.Proofs.YtioddclglemlmaaGreatDoor
open Go

/-- from place i on, with the tokens out, the lexer tells R -/
def Lx (s : ByteArray) (i : Nat) (out : List (Int × ByteArray)) (R : Except Int (List (Int × ByteArray))) : Prop := ∀ f, s.size < f + i → lexF s f i out = R
theorem dcons {s : ByteArray} {i : Nat} {c : UInt8} {L : List UInt8} (h : s.data.toList.drop i = c :: L) : i < s.size ∧ s.get! i = c ∧ s.data.toList.drop (i + 1) = L := by
  have hi : i < s.data.toList.length := by
    rcases Nat.lt_or_ge i s.data.toList.length with q | q
    · exact q
    · rw [List.drop_eq_nil_of_le q] at h; cases h
  have hi2 : i < s.size := by rw [Array.length_toList] at hi; exact hi
  have hd := List.drop_eq_getElem_cons hi
  rw [h] at hd
  injection hd with h1 h2
  exact ⟨hi2, by rw [← get_list s i hi2]; exact h1.symm, h2.symm⟩
theorem dnil {s : ByteArray} {i : Nat} (h : s.data.toList.drop i = []) : s.size ≤ i := by
  have := List.drop_eq_nil_iff.1 h
  rw [Array.length_toList] at this; exact this
theorem dapp {s : ByteArray} {i : Nat} {a b : List UInt8} (h : s.data.toList.drop i = a ++ b) : s.data.toList.drop (i + a.length) = b := by
  rw [← List.drop_drop, h, List.drop_left]
theorem lx_end {s : ByteArray} {i : Nat} {out : List (Int × ByteArray)} (h : s.data.toList.drop i = []) (hi : i ≤ s.size) (ho : out.length ≤ 4999) : Lx s i out (.ok (out ++ [eT])) := by
  intro f hf
  cases f with
  | zero => omega
  | succ f =>
    have := dnil h
    rw [lexF, if_neg (by omega)]
    unfold addT
    rw [if_neg (by omega)]
    rfl
theorem lx_step {s : ByteArray} {i : Nat} {out : List (Int × ByteArray)} {R : Except Int (List (Int × ByteArray))} (hi : i < s.size) (h : ∀ f, s.size < f + (i + 1) → lexF s (f + 1) i out = R) : Lx s i out R := by
  intro f hf
  obtain ⟨g, rfl⟩ : ∃ g, f = g + 1 := ⟨f - 1, by omega⟩
  exact h g (by omega)
theorem lx_sp {s : ByteArray} {i : Nat} {L : List UInt8} {out : List (Int × ByteArray)} {R : Except Int (List (Int × ByteArray))} (h : s.data.toList.drop i = 32 :: L) (k : Lx s (i + 1) out R) : Lx s i out R := by
  obtain ⟨h1, h2, _⟩ := dcons h
  refine lx_step h1 fun f hf => ?_
  rw [lexF, if_pos h1, h2]
  exact k f hf
theorem lx_nl {s : ByteArray} {i : Nat} {L : List UInt8} {out : List (Int × ByteArray)} {R : Except Int (List (Int × ByteArray))} (h : s.data.toList.drop i = 10 :: L) (ho : out.length ≤ 4999) (k : Lx s (i + 1) (out ++ [nT]) R) : Lx s i out R := by
  obtain ⟨h1, h2, _⟩ := dcons h
  refine lx_step h1 fun f hf => ?_
  rw [lexF, if_pos h1, h2]
  show addT (lexF s f (i + 1)) out (3, ⟨#[10]⟩) = R
  unfold addT
  rw [if_neg (by omega)]
  exact k f hf
theorem lx_op {s : ByteArray} {i : Nat} {c : UInt8} {L : List UInt8} {out : List (Int × ByteArray)} {R : Except Int (List (Int × ByteArray))} (h : s.data.toList.drop i = c :: L) (hc : btw c = 3) (hn : opB c = false ∨ L = [] ∨ ∃ d L', L = d :: L' ∧ d ≠ c) (ho : out.length ≤ 4999)
    (k : Lx s (i + 1) (out ++ [(2, ⟨#[c]⟩)]) R) : Lx s i out R := by
  obtain ⟨h1, h2, h3⟩ := dcons h
  have ho2 : opT s i = (⟨#[c]⟩, i + 1) := by
    unfold opT
    rw [h2]
    rw [if_neg]
    intro e
    rw [Bool.and_eq_true, Bool.and_eq_true, decide_eq_true_eq, beq_iff_eq] at e
    obtain ⟨e1, e2, e3⟩ := e
    rcases hn with hn | hn | ⟨d, L', hn, hd⟩
    · rw [hn] at e1; cases e1
    · rw [hn] at h3; have := dnil h3; omega
    · rw [hn] at h3; exact hd ((dcons h3).2.1.symm.trans e3)
  refine lx_step h1 fun f hf => ?_
  rw [lexF, if_pos h1, h2, hc]
  show addT (lexF s f (opT s i).2) out (2, (opT s i).1) = R
  rw [ho2]
  unfold addT
  rw [if_neg (by omega)]
  exact k f hf
theorem lx_dd {s : ByteArray} {i : Nat} {L : List UInt8} {out : List (Int × ByteArray)} {R : Except Int (List (Int × ByteArray))} (h : s.data.toList.drop i = 59 :: 59 :: L) (ho : out.length ≤ 4999)
    (k : Lx s (i + 2) (out ++ [(2, bDD)]) R) : Lx s i out R := by
  obtain ⟨h1, h2, h3⟩ := dcons h
  obtain ⟨h4, h5, _⟩ := dcons h3
  have ho2 : opT s i = (bDD, i + 2) := by
    unfold opT
    rw [h2, h5, if_pos (by rw [decide_eq_true h4]; rfl)]
    rfl
  refine lx_step h1 fun f hf => ?_
  rw [lexF, if_pos h1, h2]
  show addT (lexF s f (opT s i).2) out (2, (opT s i).1) = R
  rw [ho2]
  unfold addT
  rw [if_neg (by omega)]
  exact k f (by omega)
def plainB (c : UInt8) : Bool := btw c == 4 && (c != 92 && (c != 39 && (c != 34 && (c != 36 && c != 96))))
def StopH (L : List UInt8) : Prop := L = [] ∨ ∃ d L', L = d :: L' ∧ stopB d = true
theorem plain_of {c : UInt8} (h : plainB c = true) : btw c = 4 ∧ c ≠ 92 ∧ c ≠ 39 ∧ c ≠ 34 ∧ c ≠ 36 ∧ c ≠ 96 := by
  unfold plainB at h
  simp only [Bool.and_eq_true, beq_iff_eq, bne_iff_ne] at h
  exact h
theorem word_lit {s : ByteArray} : ∀ (w : List UInt8) (f i : Nat) (L : List UInt8), s.data.toList.drop i = w ++ L → (∀ c ∈ w, plainB c = true) → StopH L → s.size < f + i → wordF s f i = .ok (i + w.length)
  | [], f, i, L, h, _, hL, hf => by
    rw [List.nil_append] at h
    cases f with
    | zero => rfl
    | succ f =>
      rw [wordF, if_neg]
      · rfl
      · rintro ⟨e1, e2⟩
        rcases hL with e | ⟨d, L', e, hd⟩
        · rw [e] at h; have := dnil h; omega
        · rw [e] at h; rw [(dcons h).2.1, hd] at e2; cases e2
  | c :: w, f, i, L, h, hw, hL, hf => by
    obtain ⟨h1, h2, h3⟩ := dcons h
    obtain ⟨g, rfl⟩ : ∃ g, f = g + 1 := ⟨f - 1, by omega⟩
    obtain ⟨p0, p1, p2, p3, p4, p5⟩ := plain_of (hw c (List.mem_cons_self ..))
    have hst : stopB c = false := btw_stop (by rw [p0]; decide) (by rw [p0]; decide) (by rw [p0]; decide) (by rw [p0]; decide)
    rw [wordF, if_pos ⟨h1, by rw [h2]; exact hst⟩, h2]
    have hq : quoP s (withF s (s.size + 1)) 0 c true (i + 1) = .ok (i + 1) := by
      unfold quoP; rw [if_neg p1, if_neg p2, if_neg p3, if_neg p4, if_neg p5]
    rw [hq]
    show wordF s g (i + 1) = _
    rw [word_lit w g (i + 1) L h3 (fun x hx => hw x (List.mem_cons_of_mem _ hx)) hL (by omega), List.length_cons]
    congr 1; omega
theorem sl_lit {s : ByteArray} {i : Nat} {w L : List UInt8} (h : s.data.toList.drop i = w ++ L) : sl s i (i + w.length) = w := by
  unfold sl
  rw [List.drop_take, h, show i + w.length - i = w.length by omega, List.take_left]
theorem lx_word {s : ByteArray} {i : Nat} (w : List UInt8) {L : List UInt8} {out : List (Int × ByteArray)} {R : Except Int (List (Int × ByteArray))} (h : s.data.toList.drop i = w ++ L) (hw0 : w ≠ []) (hw : ∀ c ∈ w, plainB c = true) (hL : StopH L) (ho : out.length ≤ 4999)
    (k : Lx s (i + w.length) (out ++ [(1, mk w)]) R) : Lx s i out R := by
  obtain ⟨c, w', rfl⟩ : ∃ c w', w = c :: w' := by
    cases w with
    | nil => exact absurd rfl hw0
    | cons c w' => exact ⟨c, w', rfl⟩
  obtain ⟨h1, h2, _⟩ := dcons h
  have hp := plain_of (hw c (List.mem_cons_self ..))
  refine lx_step h1 fun f hf => ?_
  rw [lexF, if_pos h1, h2, hp.1]
  show wordR s (lexF s f) i out = R
  unfold wordR
  rw [word_lit _ _ i L h hw hL (by omega)]
  show addT (lexF s f (i + (c :: w').length)) out (1, mk (sl s i (i + (c :: w').length))) = R
  rw [sl_lit h]
  unfold addT
  rw [if_neg (by omega)]
  exact k f (by rw [List.length_cons]; omega)
/-- a text whose tokens are known, among others -/
theorem lx_mid {s : ByteArray} {o : Nat} (s1 : ByteArray) {T : List (Int × ByteArray)} {L : List UInt8} {out : List (Int × ByteArray)} {R : Except Int (List (Int × ByteArray))} (h : s.data.toList.drop o = s1.data.toList ++ L) (hL : L = [] ∨ ∃ c L', L = c :: L' ∧ (c = 32 ∨ c = 10))
    (nob : ∀ c ∈ s1.data.toList, c ≠ 92 ∧ c ≠ 35) (hlex : lexF s1 (s1.size + 1) 0 [] = .ok (T ++ [eT])) (hlen : out.length + T.length ≤ 4999) (ho : o ≤ s.size) (k : Lx s (o + s1.size) (out ++ T) R) : Lx s o out R := by
  have hz : s1.data.toList.length = s1.size := Array.length_toList ..
  have hb := dapp h
  rw [hz] at hb
  have hfit : o + s1.size ≤ s.size := by
    have := congrArg List.length h
    rw [List.length_drop, List.length_append, hz, Array.length_toList] at this
    have e : s.data.size = s.size := rfl
    omega
  have M : Mid s1 s o := by
    refine ⟨fun i hi => ?_, hfit, fun i hi => ?_, ?_⟩
    · rw [← get_list s (o + i) (by omega), ← get_list s1 i hi]
      have h1 : (s.data.toList.drop o)[i]? = (s1.data.toList ++ L)[i]? := by rw [h]
      rw [List.getElem?_drop, List.getElem?_append_left (by omega)] at h1
      rw [List.getElem?_eq_getElem (by rw [Array.length_toList]; exact (show o + i < s.size by omega)), List.getElem?_eq_getElem (by omega)] at h1
      exact Option.some.inj h1
    · rw [← get_list s1 i hi]; exact nob _ (List.getElem_mem _)
    · rcases hL with e | ⟨c, L', e, hc⟩
      · rw [e] at hb; have := dnil hb; exact .inl (by omega)
      · rw [e] at hb
        obtain ⟨b1, b2, _⟩ := dcons hb
        exact .inr ⟨b1, by rw [b2]; exact hc⟩
  intro f hf
  obtain ⟨T', t1, t2⟩ := M.lex (s1.size + 1) f 0 [] out _ (by omega) (by omega) (Nat.zero_le _) hlex
  rw [List.nil_append] at t1
  have hT : T = T' := (List.append_inj' t1 rfl).1
  subst hT
  obtain ⟨g, g1, g2⟩ := t2 hlen
  rw [show o + 0 = o from rfl] at g2
  rw [g2]
  exact k g g1
end Go.Proofs.YtioddclglemlmaaGreatDoor

/- The tokens of the texts that the laws of gram put together, in plain words; no condition. -/
namespace Go.Proofs.YtioddclglemlmaaGreatDoor
open Go

def repL (n : Nat) (a : List UInt8) : List UInt8 := (List.replicate n a).flatten
theorem repL_succ (n : Nat) (a : List UInt8) : repL (n + 1) a = a ++ repL n a := by unfold repL; rw [List.replicate_succ, List.flatten_cons]
theorem repL_snoc (n : Nat) (a : List UInt8) : repL n a ++ a = repL (n + 1) a := by
  induction n with
  | zero => simp [repL]
  | succ n ih => rw [repL_succ n, List.append_assoc, ih, ← repL_succ]
/-- the texts of GramDeep -/
def nestRs : Nat → ByteArray
  | 0 => ⟨#[97]⟩
  | n + 1 => (⟨#[40, 32]⟩ ++ nestRs n) ++ ⟨#[32, 41]⟩
def nestBs : Nat → ByteArray
  | 0 => ⟨#[97]⟩
  | n + 1 => (⟨#[123, 32]⟩ ++ nestBs n) ++ ⟨#[59, 32, 125]⟩
theorem nestRs_list : ∀ n, (nestRs n).data.toList = repL n [40, 32] ++ 97 :: repL n [32, 41]
  | 0 => rfl
  | n + 1 => by
    have e : (nestRs (n + 1)).data.toList = [40, 32] ++ (nestRs n).data.toList ++ [32, 41] := by simp [nestRs]
    rw [e, nestRs_list n, repL_succ n [40, 32], ← repL_snoc n [32, 41]]
    simp
theorem nestBs_list : ∀ n, (nestBs n).data.toList = repL n [123, 32] ++ 97 :: repL n [59, 32, 125]
  | 0 => rfl
  | n + 1 => by
    have e : (nestBs (n + 1)).data.toList = [123, 32] ++ (nestBs n).data.toList ++ [59, 32, 125] := by simp [nestBs]
    rw [e, nestBs_list n, repL_succ n [123, 32], ← repL_snoc n [59, 32, 125]]
    simp
theorem lx_openR {s : ByteArray} {R : Except Int (List (Int × ByteArray))} : ∀ (n i : Nat) (out : List (Int × ByteArray)) (L : List UInt8), s.data.toList.drop i = repL n [40, 32] ++ L → out.length + n ≤ 4999 →
    Lx s (i + 2 * n) (out ++ List.replicate n (2, bOpen)) R → Lx s i out R
  | 0, i, out, L, _, _, k => by
    have : out ++ List.replicate 0 ((2 : Int), bOpen) = out := by simp
    rw [this] at k; exact k
  | n + 1, i, out, L, h, ho, k => by
    rw [repL_succ, List.append_assoc] at h
    obtain ⟨_, _, h2⟩ := dcons h
    obtain ⟨_, _, h3⟩ := dcons h2
    refine lx_op h (by decide) (.inl (by decide)) (by omega) (lx_sp h2 (lx_openR n (i + 1 + 1) _ L h3 (by rw [List.length_append, List.length_singleton]; omega) ?_))
    have e : out ++ [((2 : Int), (⟨#[40]⟩ : ByteArray))] ++ List.replicate n (2, bOpen) = out ++ List.replicate (n + 1) (2, bOpen) := by
      rw [List.append_assoc, List.replicate_succ]; rfl
    rw [e, show i + 1 + 1 + 2 * n = i + 2 * (n + 1) by omega]
    exact k
theorem lx_shutR {s : ByteArray} : ∀ (n i : Nat) (out : List (Int × ByteArray)), s.data.toList.drop i = repL n [32, 41] → i ≤ s.size → out.length + n ≤ 4999 → Lx s i out (.ok (out ++ List.replicate n (2, bShut) ++ [eT]))
  | 0, i, out, h, hi, ho => by
    have : out ++ List.replicate 0 ((2 : Int), bShut) = out := by simp
    rw [this]; exact lx_end h hi (by omega)
  | n + 1, i, out, h, hi, ho => by
    rw [repL_succ] at h
    obtain ⟨a1, _, h2⟩ := dcons h
    obtain ⟨b1, _, h3⟩ := dcons h2
    refine lx_sp h (lx_op h2 (by decide) (.inl (by decide)) (by omega) ?_)
    have := lx_shutR n (i + 1 + 1) (out ++ [(2, ⟨#[41]⟩)]) h3 b1 (by rw [List.length_append, List.length_singleton]; omega)
    have e : out ++ [((2 : Int), (⟨#[41]⟩ : ByteArray))] ++ List.replicate n (2, bShut) = out ++ List.replicate (n + 1) (2, bShut) := by
      rw [List.append_assoc, List.replicate_succ]; rfl
    rw [e] at this; exact this
theorem stop_rep (n : Nat) (c : UInt8) (a : List UInt8) (hc : stopB c = true) : StopH (repL n (c :: a)) := by
  cases n with
  | zero => exact .inl rfl
  | succ n => rw [repL_succ]; exact .inr ⟨c, _, rfl, hc⟩
theorem lex_nestR (n : Nat) (h : n ≤ 70) : lexF (nestRs n) ((nestRs n).size + 1) 0 [] = .ok (nestR n) := by
  obtain ⟨s, hs⟩ : ∃ s, nestRs n = s := ⟨_, rfl⟩
  have hl := nestRs_list n
  rw [hs] at hl ⊢
  have h0 : s.data.toList.drop 0 = repL n [40, 32] ++ 97 :: repL n [32, 41] := by rw [List.drop_zero]; exact hl
  have h1 : s.data.toList.drop (0 + 2 * n) = 97 :: repL n [32, 41] := by
    have := dapp h0
    have e : (repL n [40, 32]).length = 2 * n := by unfold repL; simp [List.length_flatten]; omega
    rwa [e] at this
  obtain ⟨a1, _, h2⟩ := dcons h1
  have hw : Lx s 0 [] (.ok (nestR n)) := by
    refine lx_openR n 0 [] _ h0 (by simp; omega) (lx_word [97] h1 (by decide) (by decide) (stop_rep n 32 [41] (by decide)) (by simp; omega) ?_)
    have := lx_shutR n (0 + 2 * n + 1) ([] ++ List.replicate n (2, bOpen) ++ [(1, mk [97])]) h2 a1 (by simp; omega)
    have e : [] ++ List.replicate n ((2 : Int), bOpen) ++ [(1, mk [97])] ++ List.replicate n (2, bShut) ++ [eT] = nestR n := by
      unfold nestR; simp [tA, tE, eT, mk]
    rw [e] at this; exact this
  exact hw _ (by omega)
theorem lx_openB {s : ByteArray} {R : Except Int (List (Int × ByteArray))} : ∀ (n i : Nat) (out : List (Int × ByteArray)) (L : List UInt8), s.data.toList.drop i = repL n [123, 32] ++ L → out.length + n ≤ 4999 →
    Lx s (i + 2 * n) (out ++ List.replicate n (1, bLB)) R → Lx s i out R
  | 0, i, out, L, _, _, k => by
    have : out ++ List.replicate 0 ((1 : Int), bLB) = out := by simp
    rw [this] at k; exact k
  | n + 1, i, out, L, h, ho, k => by
    rw [repL_succ, List.append_assoc] at h
    obtain ⟨_, _, h2⟩ := dcons h
    obtain ⟨_, _, h3⟩ := dcons h2
    refine lx_word [123] h (by decide) (by decide) (.inr ⟨32, _, rfl, by decide⟩) (by omega) (lx_sp h2 (lx_openB n (i + 1 + 1) _ L h3 (by rw [List.length_append, List.length_singleton]; omega) ?_))
    have e : out ++ [((1 : Int), mk [123])] ++ List.replicate n (1, bLB) = out ++ List.replicate (n + 1) (1, bLB) := by
      rw [List.append_assoc, List.replicate_succ]; rfl
    rw [e, show i + 1 + 1 + 2 * n = i + 2 * (n + 1) by omega]
    exact k
theorem lx_shutB {s : ByteArray} : ∀ (n i : Nat) (out : List (Int × ByteArray)), s.data.toList.drop i = repL n [59, 32, 125] → i ≤ s.size → out.length + 2 * n ≤ 4999 → Lx s i out (.ok (out ++ pairs n ++ [eT]))
  | 0, i, out, h, hi, ho => by
    have : out ++ pairs 0 = out := by simp [pairs]
    rw [this]; exact lx_end h hi (by omega)
  | n + 1, i, out, h, hi, ho => by
    rw [repL_succ] at h
    obtain ⟨a1, _, h2⟩ := dcons h
    obtain ⟨b1, _, h3⟩ := dcons h2
    obtain ⟨c1, _, h4⟩ := dcons h3
    refine lx_op h (by decide) (.inr (.inr ⟨32, _, rfl, by decide⟩)) (by omega) (lx_sp h2 (lx_word [125] h3 (by decide) (by decide) (stop_rep n 59 [32, 125] (by decide)) (by rw [List.length_append, List.length_singleton]; omega) ?_))
    have := lx_shutB n (i + 1 + 1 + 1) (out ++ [(2, ⟨#[59]⟩)] ++ [(1, mk [125])]) h4 c1 (by rw [List.length_append, List.length_append, List.length_singleton, List.length_singleton]; omega)
    have e : out ++ [((2 : Int), (⟨#[59]⟩ : ByteArray))] ++ [(1, mk [125])] ++ pairs n = out ++ pairs (n + 1) := by
      rw [List.append_assoc, List.append_assoc]; rfl
    rw [e] at this; exact this
theorem lex_nestB (n : Nat) (h : n ≤ 70) : lexF (nestBs n) ((nestBs n).size + 1) 0 [] = .ok (nestB n) := by
  obtain ⟨s, hs⟩ : ∃ s, nestBs n = s := ⟨_, rfl⟩
  have hl := nestBs_list n
  rw [hs] at hl ⊢
  have h0 : s.data.toList.drop 0 = repL n [123, 32] ++ 97 :: repL n [59, 32, 125] := by rw [List.drop_zero]; exact hl
  have h1 : s.data.toList.drop (0 + 2 * n) = 97 :: repL n [59, 32, 125] := by
    have := dapp h0
    have e : (repL n [123, 32]).length = 2 * n := by unfold repL; simp [List.length_flatten]; omega
    rwa [e] at this
  obtain ⟨a1, _, h2⟩ := dcons h1
  have hw : Lx s 0 [] (.ok (nestB n)) := by
    refine lx_openB n 0 [] _ h0 (by simp; omega) (lx_word [97] h1 (by decide) (by decide) (stop_rep n 59 [32, 125] (by decide)) (by simp; omega) ?_)
    have := lx_shutB n (0 + 2 * n + 1) ([] ++ List.replicate n (1, bLB) ++ [(1, mk [97])]) h2 a1 (by simp; omega)
    have e : [] ++ List.replicate n ((1 : Int), bLB) ++ [(1, mk [97])] ++ pairs n ++ [eT] = nestB n := by
      unfold nestB; simp [tA, tE, eT, mk]
    rw [e] at this; exact this
  exact hw _ (by omega)
/-- a text whose tokens are T -/
def Toks (t : ByteArray) (T : List (Int × ByteArray)) : Prop := lexF t (t.size + 1) 0 [] = .ok (T ++ [eT]) ∧ ∀ c ∈ t.data.toList, c ≠ 92 ∧ c ≠ 35
inductive Tkss : List ByteArray → List (List (Int × ByteArray)) → Prop where
  | nil : Tkss [] []
  | cons {t : ByteArray} {T : List (Int × ByteArray)} {ts : List ByteArray} {Ts : List (List (Int × ByteArray))} : Toks t T → Tkss ts Ts → Tkss (t :: ts) (T :: Ts)
def bytN : List ByteArray → List UInt8
  | [] => []
  | t :: r => t.data.toList ++ 10 :: bytN r
def bytS : List ByteArray → List UInt8
  | [] => []
  | [t] => t.data.toList
  | t :: u :: r => t.data.toList ++ 32 :: 59 :: 32 :: bytS (u :: r)
theorem lx_textN {s : ByteArray} {ts : List ByteArray} {Ts : List (List (Int × ByteArray))} (h : Tkss ts Ts) : ∀ (i : Nat) (out : List (Int × ByteArray)), s.data.toList.drop i = bytN ts → i ≤ s.size → out.length + (flatN Ts).length ≤ 4999 → Lx s i out (.ok (out ++ flatN Ts)) := by
  induction h with
  | nil => intro i out h hi ho; exact lx_end h hi (by omega)
  | @cons t T ts Ts h1 h2 ih =>
    intro i out h hi ho
    have hlen : (flatN (T :: Ts)).length = T.length + (flatN Ts).length + 1 := by simp [flatN]; omega
    have hd := dapp h
    rw [show t.data.toList.length = t.size from Array.length_toList ..] at hd
    obtain ⟨a1, _, h3⟩ := dcons hd
    refine lx_mid t h (.inr ⟨10, _, rfl, .inr rfl⟩) h1.2 h1.1 (by omega) hi (lx_nl hd (by rw [List.length_append]; omega) ?_)
    have := ih (i + t.size + 1) (out ++ T ++ [nT]) h3 a1 (by rw [List.length_append, List.length_append, List.length_singleton]; omega)
    have e : out ++ T ++ [nT] ++ flatN Ts = out ++ flatN (T :: Ts) := by simp [flatN]
    rw [e] at this; exact this
theorem lx_textS {s : ByteArray} {ts : List ByteArray} {Ts : List (List (Int × ByteArray))} (h : Tkss ts Ts) : ∀ (i : Nat) (out : List (Int × ByteArray)), s.data.toList.drop i = bytS ts → i ≤ s.size → out.length + (flatS Ts).length ≤ 4999 → Lx s i out (.ok (out ++ flatS Ts)) := by
  induction h with
  | nil => intro i out h hi ho; exact lx_end h hi (by omega)
  | @cons t T ts Ts h1 h2 ih =>
    intro i out h hi ho
    cases h2 with
    | nil =>
      have hlen : (flatS [T]).length = T.length + 1 := by simp [flatS]
      have h' : s.data.toList.drop i = t.data.toList ++ [] := by rw [h]; simp [bytS]
      have hd := dapp h'
      rw [show t.data.toList.length = t.size from Array.length_toList ..] at hd
      have hz : i + t.size ≤ s.size := by
        have := congrArg List.length h'
        rw [List.length_drop, List.append_nil, Array.length_toList, Array.length_toList] at this
        have e1 : s.data.size = s.size := rfl
        have e2 : t.data.size = t.size := rfl
        omega
      refine lx_mid t h' (.inl rfl) h1.2 h1.1 (by omega) hi ?_
      have := lx_end (out := out ++ T) hd hz (by rw [List.length_append]; omega)
      have e : out ++ T ++ [eT] = out ++ flatS [T] := by simp [flatS]
      rw [e] at this; exact this
    | @cons u U ts Ts h3 h4 =>
      have hlen : (flatS (T :: U :: Ts)).length = T.length + (flatS (U :: Ts)).length + 1 := by simp [flatS]; omega
      have h' : s.data.toList.drop i = t.data.toList ++ 32 :: 59 :: 32 :: bytS (u :: ts) := h
      have hd := dapp h'
      rw [show t.data.toList.length = t.size from Array.length_toList ..] at hd
      obtain ⟨a1, _, d2⟩ := dcons hd
      obtain ⟨b1, _, d3⟩ := dcons d2
      obtain ⟨c1, _, d4⟩ := dcons d3
      refine lx_mid t h' (.inr ⟨32, _, rfl, .inl rfl⟩) h1.2 h1.1 (by omega) hi (lx_sp hd (lx_op d2 (by decide) (.inr (.inr ⟨32, _, rfl, by decide⟩)) (by rw [List.length_append]; omega) (lx_sp d3 ?_)))
      have := ih (i + t.size + 1 + 1 + 1) (out ++ T ++ [(2, ⟨#[59]⟩)]) d4 c1 (by rw [List.length_append, List.length_append, List.length_singleton]; omega)
      have e : out ++ T ++ [((2 : Int), (⟨#[59]⟩ : ByteArray))] ++ flatS (U :: Ts) = out ++ flatS (T :: U :: Ts) := by simp [flatS, sT, bSemi]
      rw [e] at this; exact this
end Go.Proofs.YtioddclglemlmaaGreatDoor

/- The tokens of the six compounds around texts, in plain words; no condition. -/
namespace Go.Proofs.YtioddclglemlmaaGreatDoor
open Go

section
variable {s a b : ByteArray} {T U : List (Int × ByteArray)}
theorem size_le {s : ByteArray} {i : Nat} {c : UInt8} {L : List UInt8} (h : s.data.toList.drop i = c :: L) : i + 1 ≤ s.size := (dcons h).1
/-- the text a behind what was lexed, a line's end behind it -/
theorem lx_body {o : Nat} {L : List UInt8} {out : List (Int × ByteArray)} {R : Except Int (List (Int × ByteArray))} (h : s.data.toList.drop o = a.data.toList ++ 10 :: L) (ha : Toks a T) (hlen : out.length + T.length ≤ 4998) (ho : o ≤ s.size)
    (k : s.data.toList.drop (o + a.size + 1) = L → Lx s (o + a.size + 1) (out ++ T ++ [nT]) R) : Lx s o out R := by
  have hd := dapp h
  rw [show a.data.toList.length = a.size from Array.length_toList ..] at hd
  exact lx_mid a h (.inr ⟨10, _, rfl, .inr rfl⟩) ha.2 ha.1 (by omega) ho (lx_nl hd (by rw [List.length_append]; omega) (k (dcons hd).2.2))
theorem lex_sub (hs : s.data.toList = 40 :: (a.data.toList ++ [10, 41])) (ha : Toks a T) (hT : T.length ≤ 4900) : lexF s (s.size + 1) 0 [] = .ok ((2, bOpen) :: (T ++ [nT, (2, bShut), eT])) := by
  have h0 : s.data.toList.drop 0 = 40 :: (a.data.toList ++ [10, 41]) := by rw [List.drop_zero]; exact hs
  obtain ⟨_, _, h1⟩ := dcons h0
  have hw : Lx s 0 [] (.ok ((2, bOpen) :: (T ++ [nT, (2, bShut), eT]))) := by
    refine lx_op h0 (by decide) (.inl (by decide)) (by simp) (lx_body h1 ha (by simp; omega) (size_le h0) fun h2 => lx_op h2 (by decide) (.inl (by decide)) (by simp; omega) ?_)
    have := lx_end (out := [] ++ [(2, ⟨#[40]⟩)] ++ T ++ [nT] ++ [(2, ⟨#[41]⟩)]) (dcons h2).2.2 (size_le h2) (by simp; omega)
    have e : [] ++ [((2 : Int), (⟨#[40]⟩ : ByteArray))] ++ T ++ [nT] ++ [(2, ⟨#[41]⟩)] ++ [eT] = (2, bOpen) :: (T ++ [nT, (2, bShut), eT]) := by simp [bOpen, bShut]
    rw [e] at this; exact this
  exact hw _ (by omega)
theorem lex_grp (hs : s.data.toList = 123 :: 32 :: (a.data.toList ++ [10, 125])) (ha : Toks a T) (hT : T.length ≤ 4900) : lexF s (s.size + 1) 0 [] = .ok ((1, bLB) :: (T ++ [nT, (1, bRB), eT])) := by
  have h0 : s.data.toList.drop 0 = 123 :: 32 :: (a.data.toList ++ [10, 125]) := by rw [List.drop_zero]; exact hs
  obtain ⟨_, _, h1⟩ := dcons h0
  obtain ⟨_, _, h2⟩ := dcons h1
  have hw : Lx s 0 [] (.ok ((1, bLB) :: (T ++ [nT, (1, bRB), eT]))) := by
    refine lx_word [123] h0 (by decide) (by decide) (.inr ⟨32, _, rfl, by decide⟩) (by simp) (lx_sp h1 (lx_body h2 ha (by simp; omega) (size_le h1) fun h3 => lx_word [125] h3 (by decide) (by decide) (.inl rfl) (by simp; omega) ?_))
    have := lx_end (out := [] ++ [(1, mk [123])] ++ T ++ [nT] ++ [(1, mk [125])]) (dcons h3).2.2 (size_le h3) (by simp; omega)
    have e : [] ++ [((1 : Int), mk [123])] ++ T ++ [nT] ++ [(1, mk [125])] ++ [eT] = (1, bLB) :: (T ++ [nT, (1, bRB), eT]) := by simp [bLB, bRB, mk]
    rw [e] at this; exact this
  exact hw _ (by omega)
theorem lex_if (hs : s.data.toList = 105 :: 102 :: 32 :: (a.data.toList ++ 10 :: 116 :: 104 :: 101 :: 110 :: 32 :: (b.data.toList ++ [10, 102, 105]))) (ha : Toks a T) (hb : Toks b U) (hT : T.length + U.length ≤ 4900) :
    lexF s (s.size + 1) 0 [] = .ok ((1, bIf) :: (T ++ (nT :: (1, bThen) :: (U ++ [nT, (1, bFi), eT])))) := by
  have h0 : s.data.toList.drop 0 = [105, 102] ++ 32 :: (a.data.toList ++ 10 :: 116 :: 104 :: 101 :: 110 :: 32 :: (b.data.toList ++ [10, 102, 105])) := by rw [List.drop_zero]; exact hs
  have h1 := dapp h0
  obtain ⟨_, _, h2⟩ := dcons h1
  have hw : Lx s 0 [] (.ok ((1, bIf) :: (T ++ (nT :: (1, bThen) :: (U ++ [nT, (1, bFi), eT]))))) := by
    refine lx_word [105, 102] h0 (by decide) (by decide) (.inr ⟨32, _, rfl, by decide⟩) (by simp) (lx_sp h1 (lx_body h2 ha (by simp; omega) (size_le h1) fun h3 => ?_))
    have h3' : s.data.toList.drop (0 + [105, 102].length + 1 + a.size + 1) = [116, 104, 101, 110] ++ 32 :: (b.data.toList ++ [10, 102, 105]) := h3
    have h4 := dapp h3'
    obtain ⟨_, _, h5⟩ := dcons h4
    refine lx_word [116, 104, 101, 110] h3' (by decide) (by decide) (.inr ⟨32, _, rfl, by decide⟩) (by simp; omega) (lx_sp h4 (lx_body h5 hb (by simp; omega) (size_le h4) fun h6 => ?_))
    refine lx_word [102, 105] (L := []) h6 (by decide) (by decide) (.inl rfl) (by simp; omega) ?_
    have h7 := dapp (a := [102, 105]) (b := []) h6
    have := lx_end (out := [] ++ [(1, mk [105, 102])] ++ T ++ [nT] ++ [(1, mk [116, 104, 101, 110])] ++ U ++ [nT] ++ [(1, mk [102, 105])]) h7 (by have := size_le (dcons h6).2.2; show _ + 2 ≤ _; omega) (by simp; omega)
    have e : [] ++ [((1 : Int), mk [105, 102])] ++ T ++ [nT] ++ [(1, mk [116, 104, 101, 110])] ++ U ++ [nT] ++ [(1, mk [102, 105])] ++ [eT] = (1, bIf) :: (T ++ (nT :: (1, bThen) :: (U ++ [nT, (1, bFi), eT]))) := by simp [bIf, bThen, bFi, mk]
    rw [e] at this; exact this
  exact hw _ (by omega)
theorem lex_while (hs : s.data.toList = 119 :: 104 :: 105 :: 108 :: 101 :: 32 :: (a.data.toList ++ 10 :: 100 :: 111 :: 32 :: (b.data.toList ++ [10, 100, 111, 110, 101]))) (ha : Toks a T) (hb : Toks b U) (hT : T.length + U.length ≤ 4900) :
    lexF s (s.size + 1) 0 [] = .ok ((1, bWhile) :: (T ++ (nT :: (1, bDo) :: (U ++ [nT, (1, bDone), eT])))) := by
  have h0 : s.data.toList.drop 0 = [119, 104, 105, 108, 101] ++ 32 :: (a.data.toList ++ 10 :: 100 :: 111 :: 32 :: (b.data.toList ++ [10, 100, 111, 110, 101])) := by rw [List.drop_zero]; exact hs
  have h1 := dapp h0
  obtain ⟨_, _, h2⟩ := dcons h1
  have hw : Lx s 0 [] (.ok ((1, bWhile) :: (T ++ (nT :: (1, bDo) :: (U ++ [nT, (1, bDone), eT]))))) := by
    refine lx_word [119, 104, 105, 108, 101] h0 (by decide) (by decide) (.inr ⟨32, _, rfl, by decide⟩) (by simp) (lx_sp h1 (lx_body h2 ha (by simp; omega) (size_le h1) fun h3 => ?_))
    have h3' : s.data.toList.drop (0 + [119, 104, 105, 108, 101].length + 1 + a.size + 1) = [100, 111] ++ 32 :: (b.data.toList ++ [10, 100, 111, 110, 101]) := h3
    have h4 := dapp h3'
    obtain ⟨_, _, h5⟩ := dcons h4
    refine lx_word [100, 111] h3' (by decide) (by decide) (.inr ⟨32, _, rfl, by decide⟩) (by simp; omega) (lx_sp h4 (lx_body h5 hb (by simp; omega) (size_le h4) fun h6 => ?_))
    refine lx_word [100, 111, 110, 101] (L := []) h6 (by decide) (by decide) (.inl rfl) (by simp; omega) ?_
    have h7 := dapp (a := [100, 111, 110, 101]) (b := []) h6
    have := lx_end (out := [] ++ [(1, mk [119, 104, 105, 108, 101])] ++ T ++ [nT] ++ [(1, mk [100, 111])] ++ U ++ [nT] ++ [(1, mk [100, 111, 110, 101])]) h7 (by have := size_le (dcons (dcons (dcons h6).2.2).2.2).2.2; show _ + 4 ≤ _; omega) (by simp; omega)
    have e : [] ++ [((1 : Int), mk [119, 104, 105, 108, 101])] ++ T ++ [nT] ++ [(1, mk [100, 111])] ++ U ++ [nT] ++ [(1, mk [100, 111, 110, 101])] ++ [eT] = (1, bWhile) :: (T ++ (nT :: (1, bDo) :: (U ++ [nT, (1, bDone), eT]))) := by simp [bWhile, bDo, bDone, mk]
    rw [e] at this; exact this
  exact hw _ (by omega)
theorem lex_for (hs : s.data.toList = 102 :: 111 :: 114 :: 32 :: 105 :: 32 :: 105 :: 110 :: 32 :: 49 :: 32 :: 50 :: 59 :: 32 :: 100 :: 111 :: 32 :: (a.data.toList ++ [10, 100, 111, 110, 101])) (ha : Toks a T) (hT : T.length ≤ 4900) :
    lexF s (s.size + 1) 0 [] = .ok (headFor ++ (T ++ [nT, (1, bDone), eT])) := by
  have h0 : s.data.toList.drop 0 = [102, 111, 114] ++ 32 :: 105 :: 32 :: 105 :: 110 :: 32 :: 49 :: 32 :: 50 :: 59 :: 32 :: 100 :: 111 :: 32 :: (a.data.toList ++ [10, 100, 111, 110, 101]) := by rw [List.drop_zero]; exact hs
  have h1 := dapp h0
  have h2 := (dcons h1).2.2
  have h3 := (dcons h2).2.2
  have h4 := (dcons h3).2.2
  have h5 := dapp (a := [105, 110]) (b := 32 :: 49 :: 32 :: 50 :: 59 :: 32 :: 100 :: 111 :: 32 :: (a.data.toList ++ [10, 100, 111, 110, 101])) h4
  have h6 := (dcons h5).2.2
  have h7 := (dcons h6).2.2
  have h8 := (dcons h7).2.2
  have h9 := (dcons h8).2.2
  have h10 := (dcons h9).2.2
  have h11 := (dcons h10).2.2
  have h12 := dapp (a := [100, 111]) (b := 32 :: (a.data.toList ++ [10, 100, 111, 110, 101])) h11
  have h13 := (dcons h12).2.2
  have st32 : ∀ L : List UInt8, StopH (32 :: L) := fun L => .inr ⟨32, L, rfl, by decide⟩
  have hw : Lx s 0 [] (.ok (headFor ++ (T ++ [nT, (1, bDone), eT]))) := by
    refine lx_word [102, 111, 114] h0 (by decide) (by decide) (st32 _) (by simp) (lx_sp h1 ?_)
    refine lx_word [105] h2 (by decide) (by decide) (st32 _) (by simp) (lx_sp h3 ?_)
    refine lx_word [105, 110] h4 (by decide) (by decide) (st32 _) (by simp) (lx_sp h5 ?_)
    refine lx_word [49] h6 (by decide) (by decide) (st32 _) (by simp) (lx_sp h7 ?_)
    refine lx_word [50] h8 (by decide) (by decide) (.inr ⟨59, _, rfl, by decide⟩) (by simp) ?_
    refine lx_op h9 (by decide) (.inr (.inr ⟨32, _, rfl, by decide⟩)) (by simp) (lx_sp h10 ?_)
    refine lx_word [100, 111] h11 (by decide) (by decide) (st32 _) (by simp) (lx_sp h12 (lx_body h13 ha (by simp; omega) (size_le h12) fun h14 => ?_))
    refine lx_word [100, 111, 110, 101] (L := []) h14 (by decide) (by decide) (.inl rfl) (by simp; omega) ?_
    have h15 := dapp (a := [100, 111, 110, 101]) (b := []) h14
    have := lx_end (out := [] ++ [(1, mk [102, 111, 114])] ++ [(1, mk [105])] ++ [(1, mk [105, 110])] ++ [(1, mk [49])] ++ [(1, mk [50])] ++ [(2, ⟨#[59]⟩)] ++ [(1, mk [100, 111])] ++ T ++ [nT] ++ [(1, mk [100, 111, 110, 101])]) h15 (by have := size_le (dcons (dcons (dcons h14).2.2).2.2).2.2; show _ + 4 ≤ _; omega) (by simp; omega)
    have e : [] ++ [((1 : Int), mk [102, 111, 114])] ++ [(1, mk [105])] ++ [(1, mk [105, 110])] ++ [(1, mk [49])] ++ [(1, mk [50])] ++ [(2, ⟨#[59]⟩)] ++ [(1, mk [100, 111])] ++ T ++ [nT] ++ [(1, mk [100, 111, 110, 101])] ++ [eT] = headFor ++ (T ++ [nT, (1, bDone), eT]) := by simp [headFor, bFor, bI, bIn, b1, b2, bSemi, bDo, bDone, mk]
    rw [e] at this; exact this
  exact hw _ (by omega)
theorem lex_case (hs : s.data.toList = 99 :: 97 :: 115 :: 101 :: 32 :: 119 :: 32 :: 105 :: 110 :: 32 :: 112 :: 41 :: 32 :: (a.data.toList ++ [10, 59, 59, 32, 101, 115, 97, 99])) (ha : Toks a T) (hT : T.length ≤ 4900) :
    lexF s (s.size + 1) 0 [] = .ok (headCase ++ (T ++ [nT, (2, bDD), (1, bEsac), eT])) := by
  have h0 : s.data.toList.drop 0 = [99, 97, 115, 101] ++ 32 :: 119 :: 32 :: 105 :: 110 :: 32 :: 112 :: 41 :: 32 :: (a.data.toList ++ [10, 59, 59, 32, 101, 115, 97, 99]) := by rw [List.drop_zero]; exact hs
  have h1 := dapp h0
  have h2 := (dcons h1).2.2
  have h3 := (dcons h2).2.2
  have h4 := (dcons h3).2.2
  have h5 := dapp (a := [105, 110]) (b := 32 :: 112 :: 41 :: 32 :: (a.data.toList ++ [10, 59, 59, 32, 101, 115, 97, 99])) h4
  have h6 := (dcons h5).2.2
  have h7 := (dcons h6).2.2
  have h8 := (dcons h7).2.2
  have h9 := (dcons h8).2.2
  have st32 : ∀ L : List UInt8, StopH (32 :: L) := fun L => .inr ⟨32, L, rfl, by decide⟩
  have hw : Lx s 0 [] (.ok (headCase ++ (T ++ [nT, (2, bDD), (1, bEsac), eT]))) := by
    refine lx_word [99, 97, 115, 101] h0 (by decide) (by decide) (st32 _) (by simp) (lx_sp h1 ?_)
    refine lx_word [119] h2 (by decide) (by decide) (st32 _) (by simp) (lx_sp h3 ?_)
    refine lx_word [105, 110] h4 (by decide) (by decide) (st32 _) (by simp) (lx_sp h5 ?_)
    refine lx_word [112] h6 (by decide) (by decide) (.inr ⟨41, _, rfl, by decide⟩) (by simp) ?_
    refine lx_op h7 (by decide) (.inl (by decide)) (by simp) (lx_sp h8 (lx_body h9 ha (by simp; omega) (size_le h8) fun h10 => ?_))
    have h11 := (dcons (dcons h10).2.2).2.2
    have h12 := (dcons h11).2.2
    refine lx_dd h10 (by simp; omega) (lx_sp h11 ?_)
    refine lx_word [101, 115, 97, 99] (L := []) h12 (by decide) (by decide) (.inl rfl) (by simp; omega) ?_
    have h15 := dapp (a := [101, 115, 97, 99]) (b := []) h12
    have := lx_end (out := [] ++ [(1, mk [99, 97, 115, 101])] ++ [(1, mk [119])] ++ [(1, mk [105, 110])] ++ [(1, mk [112])] ++ [(2, ⟨#[41]⟩)] ++ T ++ [nT] ++ [(2, bDD)] ++ [(1, mk [101, 115, 97, 99])]) h15 (by have := size_le (dcons (dcons (dcons h12).2.2).2.2).2.2; show _ + 4 ≤ _; omega) (by simp; omega)
    have e : [] ++ [((1 : Int), mk [99, 97, 115, 101])] ++ [(1, mk [119])] ++ [(1, mk [105, 110])] ++ [(1, mk [112])] ++ [(2, ⟨#[41]⟩)] ++ T ++ [nT] ++ [(2, bDD)] ++ [(1, mk [101, 115, 97, 99])] ++ [eT] = headCase ++ (T ++ [nT, (2, bDD), (1, bEsac), eT]) := by simp [headCase, bCase, bWw, bIn, bPp, bShut, bEsac, mk]
    rw [e] at this; exact this
  exact hw _ (by omega)
end
end Go.Proofs.YtioddclglemlmaaGreatDoor

/- A text whose tokens end with what parts commands ends so itself, in plain words; no condition. -/
namespace Go.Proofs.YtioddclglemlmaaGreatDoor
open Go

def TailB (L : List UInt8) : Prop := ∀ c ∈ L, c = 32 ∨ c = 9
def EndB (L : List UInt8) : Prop := ∃ p c q, L = p ++ c :: q ∧ (c = 59 ∨ c = 10) ∧ TailB q
theorem EndB.pre {L : List UInt8} (h : EndB L) (a : List UInt8) : EndB (a ++ L) := by
  obtain ⟨p, c, q, h1, h2, h3⟩ := h
  exact ⟨a ++ p, c, q, by rw [h1, List.append_assoc], h2, h3⟩
theorem drop_split (s : ByteArray) {i j : Nat} (h : i ≤ j) : s.data.toList.drop i = (s.data.toList.drop i).take (j - i) ++ s.data.toList.drop j := by
  have := (List.take_append_drop (j - i) (s.data.toList.drop i)).symm
  rw [List.drop_drop, show i + (j - i) = j by omega] at this
  exact this
theorem EndsSep.cons {x : Int × ByteArray} {T : List (Int × ByteArray)} (h : EndsSep (x :: T)) : (T = [] ∧ (x = nT ∨ x = sT)) ∨ EndsSep T := by
  obtain ⟨T', h⟩ := h
  cases T' with
  | nil =>
    left
    rcases h with h | h
    · injection h with h1 h2; exact ⟨h2, .inl h1⟩
    · injection h with h1 h2; exact ⟨h2, .inr h1⟩
  | cons y T' =>
    right
    rcases h with h | h
    · injection h with h1 h2; exact ⟨T', .inl h2⟩
    · injection h with h1 h2; exact ⟨T', .inr h2⟩
theorem btw_0 {c : UInt8} (h : btw c = 0) : c = 32 ∨ c = 9 := by
  unfold btw at h
  by_cases h1 : c = 32 ∨ c = 9
  · exact h1
  rw [if_neg h1] at h
  by_cases h2 : c = 10
  · rw [if_pos h2] at h; cases h
  rw [if_neg h2] at h
  by_cases h3 : c = 35
  · rw [if_pos h3] at h; cases h
  rw [if_neg h3] at h; split at h <;> cases h
theorem btw_1 {c : UInt8} (h : btw c = 1) : c = 10 := by
  unfold btw at h
  by_cases h1 : c = 32 ∨ c = 9
  · rw [if_pos h1] at h; cases h
  rw [if_neg h1] at h
  by_cases h2 : c = 10
  · exact h2
  rw [if_neg h2] at h
  by_cases h3 : c = 35
  · rw [if_pos h3] at h; cases h
  rw [if_neg h3] at h; split at h <;> cases h
theorem btw_five (c : UInt8) : btw c = 0 ∨ btw c = 1 ∨ btw c = 2 ∨ btw c = 3 ∨ btw c = 4 := by
  unfold btw; split
  · simp
  · split
    · simp
    · split
      · simp
      · split <;> simp
theorem lex_tail (s : ByteArray) (nob : ∀ i, i < s.size → s.get! i ≠ 35) : ∀ f i out R, i ≤ s.size → lexF s f i out = .ok R →
    ∃ T, R = out ++ T ++ [eT] ∧ (T = [] → TailB (s.data.toList.drop i)) ∧ (EndsSep T → EndB (s.data.toList.drop i)) ∧ (∀ x ∈ T, x.1 ≠ 4) ∧ T.length + i ≤ s.size := by
  intro f
  induction f with
  | zero => intro i out R _ h; cases h
  | succ f ih =>
    intro i out R hi h
    rw [lexF] at h
    by_cases q : i < s.size
    · rw [if_pos q] at h
      have hil : i < s.data.toList.length := by rw [Array.length_toList]; exact q
      have hd : s.data.toList.drop i = s.get! i :: s.data.toList.drop (i + 1) := by rw [List.drop_eq_getElem_cons hil, get_list s i q]
      have add : ∀ (t : Int × ByteArray) (k : Nat), i < k → k ≤ s.size → t.1 ≠ 4 → (s.data.toList.drop k = s.data.toList.drop k → (t = nT ∨ t = sT) → k = i + 1 ∧ (s.get! i = 59 ∨ s.get! i = 10)) → addT (lexF s f k) out t = .ok R →
          ∃ T, R = out ++ T ++ [eT] ∧ (T = [] → TailB (s.data.toList.drop i)) ∧ (EndsSep T → EndB (s.data.toList.drop i)) ∧ (∀ x ∈ T, x.1 ≠ 4) ∧ T.length + i ≤ s.size := by
        intro t k k1 k2 kt ht hr
        unfold addT at hr
        split at hr
        · cases hr
        · obtain ⟨T, t1, t2, t3, t4, t5⟩ := ih k (out ++ [t]) R k2 hr
          have ht1 : R = out ++ (t :: T) ++ [eT] := by rw [t1]; simp
          refine ⟨t :: T, ht1, fun e => absurd e (List.cons_ne_nil t T), fun e => ?_, fun x hx => ?_, by rw [List.length_cons]; omega⟩
          · rcases EndsSep.cons e with ⟨e1, e2⟩ | e1
            · obtain ⟨a1, a2⟩ := ht rfl e2
              subst a1
              rw [hd]
              exact ⟨[], _, _, rfl, a2, t2 e1⟩
            · rw [drop_split s (Nat.le_of_lt k1)]
              exact (t3 e1).pre _
          · rcases List.mem_cons.1 hx with e | e
            · rw [e]; exact kt
            · exact t4 x e
      rcases btw_five (s.get! i) with b | b | b | b | b
      · rw [b] at h
        obtain ⟨T, t1, t2, t3, t4, t5⟩ := ih (i + 1) out R q h
        refine ⟨T, t1, fun e => ?_, fun e => ?_, t4, by omega⟩
        · rw [hd]
          intro c hc
          rcases List.mem_cons.1 hc with r | r
          · rw [r]; exact btw_0 b
          · exact t2 e c r
        · rw [hd]; exact (t3 e).pre [s.get! i]
      · rw [b] at h
        exact add nT (i + 1) (Nat.lt_succ_self i) q (by decide) (fun _ _ => ⟨rfl, .inr (btw_1 b)⟩) h
      · exact absurd (btw_35 b) (nob i q)
      · rw [b] at h
        have hg := opT_gt s i q
        refine add (2, (opT s i).1) (opT s i).2 hg.1 hg.2 (show (2 : Int) ≠ 4 by decide) (fun _ e => ?_) h
        rcases e with e | e
        · have := congrArg Prod.fst e; simp [nT] at this
        · have e2 : (opT s i).1 = bSemi := congrArg Prod.snd e
          unfold opT at e2 ⊢
          split
          · rename_i hh
            rw [if_pos hh] at e2
            have := congrArg ByteArray.size e2
            rw [ByteArray.size_append] at this
            have h1 : (⟨#[s.get! i]⟩ : ByteArray).size = 1 := rfl
            have h2 : bSemi.size = 1 := rfl
            omega
          · rename_i hh
            rw [if_neg hh] at e2
            refine ⟨rfl, .inl ?_⟩
            have e3 : (⟨#[s.get! i]⟩ : ByteArray) = bSemi := e2
            have h3 : (⟨#[s.get! i]⟩ : ByteArray).data.toList = bSemi.data.toList := by rw [e3]
            have h4 : [s.get! i] = [59] := h3
            injection h4
      · rw [b] at h
        have h' : wordR s (lexF s f) i out = .ok R := h
        unfold wordR at h'
        cases hr : wordF s (s.size + 1) i with
        | error n => rw [hr] at h'; cases h'
        | ok k =>
          rw [hr] at h'
          have hst : stopB (s.get! i) = false := btw_stop (by rw [b]; decide) (by rw [b]; decide) (by rw [b]; decide) (by rw [b]; decide)
          have hik : i < k ∧ k ≤ s.size := by
            have hge := word_ge s (s.size + 1) i k hi hr
            refine ⟨?_, hge.2⟩
            have hr2 := hr
            rw [wordF, if_pos ⟨q, hst⟩] at hr2
            cases hq : quoP s (withF s (s.size + 1)) 0 (s.get! i) true (i + 1) with
            | error n => rw [hq] at hr2; cases hr2
            | ok k' =>
              rw [hq] at hr2
              have a1 := quo_ge s _ (with_ge s _) _ _ _ _ _ q hq
              have a2 := word_ge s s.size k' k a1.2 hr2
              omega
          exact add (1, mk (sl s i k)) k hik.1 hik.2 (show (1 : Int) ≠ 4 by decide) (fun _ e => by rcases e with e | e <;> (have := congrArg Prod.fst e; simp [nT, sT] at this)) h'
    · obtain rfl : i = s.size := by omega
      rw [if_neg q] at h
      unfold addT at h
      split at h
      · cases h
      · cases h
        refine ⟨[], by simp [eT], fun _ => ?_, fun e => ?_, (fun x hx => absurd hx (List.not_mem_nil)), (by rw [List.length_nil]; omega)⟩
        · rw [List.drop_eq_nil_of_le (by rw [Array.length_toList]; exact Nat.le_refl _)]
          intro c hc; cases hc
        · obtain ⟨T', e | e⟩ := e
          · simp at e
          · simp at e
/-- the tokens of a text: none ends it, and what parts commands at the end stands in the text -/
theorem Toks.tail {t : ByteArray} {T : List (Int × ByteArray)} (h : Toks t T) : (∀ x ∈ T, x.1 ≠ 4) ∧ (EndsSep T → EndB t.data.toList) ∧ T.length ≤ t.size := by
  obtain ⟨T', t1, _, t3, t4, t5⟩ := lex_tail t (fun i hi => by rw [← get_list t i hi]; exact (h.2 _ (List.getElem_mem _)).2) (t.size + 1) 0 [] _ (Nat.zero_le _) h.1
  rw [List.nil_append] at t1
  have hT : T = T' := (List.append_inj' t1 rfl).1
  subst hT
  exact ⟨t4, t3, t5⟩
theorem toks_of {t : ByteArray} {L : List (Int × ByteArray)} (h : lexF t (t.size + 1) 0 [] = .ok L) (nob : ∀ c ∈ t.data.toList, c ≠ 92 ∧ c ≠ 35) : ∃ T, L = T ++ [eT] ∧ Toks t T := by
  obtain ⟨T, t1, _⟩ := lex_tail t (fun i hi => by rw [← get_list t i hi]; exact (nob _ (List.getElem_mem _)).2) (t.size + 1) 0 [] _ (Nat.zero_le _) h
  rw [List.nil_append] at t1
  exact ⟨T, t1, by rw [h, t1], nob⟩
/-- what Parse tells of a text -/
def gramP (t : ByteArray) : Except Int CmdT := match lexF t (t.size + 1) 0 [] with
  | .error n => .error n
  | .ok L => match scrP L with
    | .ok c _ => .ok c
    | .err n => .error n
theorem gram_of {t : ByteArray} {L : List (Int × ByteArray)} (h : lexF t (t.size + 1) 0 [] = .ok L) : gramP t = match scrP L with
    | .ok c _ => .ok c
    | .err n => .error n := by unfold gramP; rw [h]
theorem gram_ok {t : ByteArray} {c : CmdT} (h : gramP t = .ok c) (nob : ∀ c ∈ t.data.toList, c ≠ 92 ∧ c ≠ 35) : ∃ T j, Toks t T ∧ scrP (T ++ [eT]) = .ok c j := by
  unfold gramP at h
  cases hl : lexF t (t.size + 1) 0 [] with
  | error n => rw [hl] at h; cases h
  | ok L =>
    obtain ⟨T, t1, t2⟩ := toks_of hl nob
    rw [hl] at h
    have h' : (match scrP L with | .ok c _ => Except.ok c | .err n => .error n) = Except.ok c := h
    cases hs : scrP L with
    | err n => rw [hs] at h'; cases h'
    | ok c' j =>
      rw [hs] at h'
      cases h'
      exact ⟨T, j, t2, by rw [← t1]; exact hs⟩
/-- GramDeep -/
theorem gram_nestR (n : Nat) (h1 : 1 ≤ n) (h70 : n ≤ 70) : (n ≤ 60 → ∃ c, gramP (nestRs n) = .ok c) ∧ (60 < n → gramP (nestRs n) = .error 42) := by
  have h := nestR_scr n h1
  rw [gram_of (lex_nestR n h70)]
  exact ⟨fun hn => by obtain ⟨c, j, e⟩ := h.1 hn; rw [e]; exact ⟨c, rfl⟩, fun hn => by rw [h.2 hn]⟩
theorem gram_nestB (n : Nat) (h1 : 1 ≤ n) (h70 : n ≤ 70) : (n ≤ 60 → ∃ c, gramP (nestBs n) = .ok c) ∧ (60 < n → gramP (nestBs n) = .error 42) := by
  have h := nestB_scr n h1
  rw [gram_of (lex_nestB n h70)]
  exact ⟨fun hn => by obtain ⟨c, j, e⟩ := h.1 hn; rw [e]; exact ⟨c, rfl⟩, fun hn => by rw [h.2 hn]⟩
def OneText (t : ByteArray) (k : CmdT) : Prop := gramP t = .ok (.mk 5 false [] [] [] [k] [] []) ∧ (∀ c ∈ t.data.toList, c ≠ 92 ∧ c ≠ 35) ∧ t.size ≤ 150
inductive OneTexts : List ByteArray → List CmdT → Prop where
  | nil : OneTexts [] []
  | cons {t : ByteArray} {k : CmdT} {ts : List ByteArray} {ks : List CmdT} : OneText t k → OneTexts ts ks → OneTexts (t :: ts) (k :: ks)
theorem one_texts {ts : List ByteArray} {ks : List CmdT} (h : OneTexts ts ks) : ∃ Ts, Tkss ts Ts ∧ Ones Ts ks ∧ (flatN Ts).length ≤ 151 * ts.length + 1 ∧ (flatS Ts).length ≤ 151 * ts.length + 1 ∧ ((∀ t ∈ ts, ¬ EndB t.data.toList) → ∀ T ∈ Ts, ¬ EndsSep T) := by
  induction h with
  | nil => exact ⟨[], .nil, .nil, by simp [flatN, eT], by simp [flatS, eT], fun _ T hT => by cases hT⟩
  | @cons t k ts ks h1 h2 ih =>
    obtain ⟨Ts, i1, i2, i3, i4, i5⟩ := ih
    obtain ⟨T, j, a1, a2⟩ := gram_ok h1.1 h1.2.1
    have ht := a1.tail
    have hz := h1.2.2
    refine ⟨T :: Ts, .cons a1 i1, .cons ⟨ht.1, j, a2⟩ i2, ?_, ?_, fun he T' hT => ?_⟩
    · simp [flatN]; omega
    · cases Ts with
      | nil => simp [flatS]; omega
      | cons U Ts => simp [flatS] at i4 ⊢; omega
    · rcases List.mem_cons.1 hT with e | e
      · rw [e]; exact fun q => he t (List.mem_cons_self ..) (ht.2.1 q)
      · exact i5 (fun u hu => he u (List.mem_cons_of_mem _ hu)) T' e
/-- GramList -/
theorem gram_listN {ts : List ByteArray} {ks : List CmdT} (h : OneTexts ts ks) (hl : ts.length ≤ 15) (s : ByteArray) (hs : s.data.toList = bytN ts) : gramP s = .ok (.mk 5 false [] [] [] ks [] []) := by
  obtain ⟨Ts, i1, i2, i3, i4, i5⟩ := one_texts h
  obtain ⟨j, hj⟩ := listN i2
  have hx := lx_textN (s := s) i1 0 [] (by rw [List.drop_zero]; exact hs) (Nat.zero_le _) (by simp; omega) (s.size + 1) (by omega)
  rw [gram_of hx, List.nil_append, hj]
theorem gram_listS {ts : List ByteArray} {ks : List CmdT} (h : OneTexts ts ks) (hl : ts.length ≤ 15) (he : ∀ t ∈ ts, ¬ EndB t.data.toList) (s : ByteArray) (hs : s.data.toList = bytS ts) : gramP s = .ok (.mk 5 false [] [] [] ks [] []) := by
  obtain ⟨Ts, i1, i2, i3, i4, i5⟩ := one_texts h
  obtain ⟨j, hj⟩ := listS i2 (i5 he)
  have hx := lx_textS (s := s) i1 0 [] (by rw [List.drop_zero]; exact hs) (Nat.zero_le _) (by simp; omega) (s.size + 1) (by omega)
  rw [gram_of hx, List.nil_append, hj]
/-- a list that parses, with one command at least -/
def SomeText (t : ByteArray) (ks : List CmdT) : Prop := gramP t = .ok (.mk 5 false [] [] [] ks [] []) ∧ ks ≠ [] ∧ (∀ c ∈ t.data.toList, c ≠ 92 ∧ c ≠ 35) ∧ t.size ≤ 2000
theorem SomeText.parts {t : ByteArray} {ks : List CmdT} (h : SomeText t ks) : ∃ T, Toks t T ∧ Some_ T ks ∧ T.length ≤ 2000 := by
  obtain ⟨T, j, a1, a2⟩ := gram_ok h.1 h.2.2.1
  have ht := a1.tail
  exact ⟨T, a1, ⟨ht.1, h.2.1, j, a2⟩, Nat.le_trans ht.2.2 h.2.2.2⟩
/-- GramAround: what a compound around is, or too deep -/
def Around (s : ByteArray) (c : CmdT) : Prop := gramP s = .ok (.mk 5 false [] [] [] [c] [] []) ∨ gramP s = .error 42
theorem around_of {s : ByteArray} {L : List (Int × ByteArray)} {c : CmdT} (h : lexF s (s.size + 1) 0 [] = .ok L) (k : (∃ j, scrP L = .ok (.mk 5 false [] [] [] [c] [] []) j) ∨ scrP L = .err 42) : Around s c := by
  unfold Around
  rw [gram_of h]
  rcases k with ⟨j, e⟩ | e
  · left; rw [e]
  · right; rw [e]
section
variable {s a b : ByteArray} {ks ms : List CmdT}
theorem gram_sub (hs : s.data.toList = 40 :: (a.data.toList ++ [10, 41])) (ha : SomeText a ks) : Around s (.mk 11 false [] [] [] [oneT ks] [] []) := by
  obtain ⟨T, t1, t2, t3⟩ := ha.parts
  exact around_of (lex_sub hs t1 (by omega)) (around_sub t2)
theorem gram_grp (hs : s.data.toList = 123 :: 32 :: (a.data.toList ++ [10, 125])) (ha : SomeText a ks) : Around s (.mk 10 false [] [] [] [oneT ks] [] []) := by
  obtain ⟨T, t1, t2, t3⟩ := ha.parts
  exact around_of (lex_grp hs t1 (by omega)) (around_grp t2)
theorem gram_if (hs : s.data.toList = 105 :: 102 :: 32 :: (a.data.toList ++ 10 :: 116 :: 104 :: 101 :: 110 :: 32 :: (b.data.toList ++ [10, 102, 105]))) (ha : SomeText a ks) (hb : SomeText b ms) : Around s (.mk 6 false [] [] [] [oneT ks, oneT ms] [] []) := by
  obtain ⟨T, t1, t2, t3⟩ := ha.parts
  obtain ⟨U, u1, u2, u3⟩ := hb.parts
  exact around_of (lex_if hs t1 u1 (by omega)) (around_if t2 u2)
theorem gram_while (hs : s.data.toList = 119 :: 104 :: 105 :: 108 :: 101 :: 32 :: (a.data.toList ++ 10 :: 100 :: 111 :: 32 :: (b.data.toList ++ [10, 100, 111, 110, 101]))) (ha : SomeText a ks) (hb : SomeText b ms) : Around s (.mk 7 false [] [] [] [oneT ks, oneT ms] [] []) := by
  obtain ⟨T, t1, t2, t3⟩ := ha.parts
  obtain ⟨U, u1, u2, u3⟩ := hb.parts
  exact around_of (lex_while hs t1 u1 (by omega)) (around_while t2 u2)
theorem gram_for (hs : s.data.toList = 102 :: 111 :: 114 :: 32 :: 105 :: 32 :: 105 :: 110 :: 32 :: 49 :: 32 :: 50 :: 59 :: 32 :: 100 :: 111 :: 32 :: (a.data.toList ++ [10, 100, 111, 110, 101])) (ha : SomeText a ks) : Around s (.mk 8 false [] [bI, b1, b2] [] [oneT ks] [] []) := by
  obtain ⟨T, t1, t2, t3⟩ := ha.parts
  exact around_of (lex_for hs t1 (by omega)) (around_for t2)
theorem gram_case (hs : s.data.toList = 99 :: 97 :: 115 :: 101 :: 32 :: 119 :: 32 :: 105 :: 110 :: 32 :: 112 :: 41 :: 32 :: (a.data.toList ++ [10, 59, 59, 32, 101, 115, 97, 99])) (ha : SomeText a ks) : Around s (.mk 9 false [] [bWw] [] [] [[bPp]] [oneT ks]) := by
  obtain ⟨T, t1, t2, t3⟩ := ha.parts
  exact around_of (lex_case hs t1 (by omega)) (around_case t2)
end
end Go.Proofs.YtioddclglemlmaaGreatDoor

/- What Parse tells of the two texts that the laws ask first, and of what a list of commands is; no condition. -/
namespace Go.Proofs.YtioddclglemlmaaGreatDoor
open Go

theorem gram_al1 : gramP ⟨#[97, 61, 49, 32, 98, 32, 99, 32, 62, 100]⟩ = .ok (.mk 5 false [] [] [] [.mk 1 false [⟨#[97, 61, 49]⟩] [⟨#[98]⟩, ⟨#[99]⟩] [(⟨#[62]⟩, ⟨#[100]⟩)] [] [] []] [] []) := by kernel_rfl
theorem gram_al2 : gramP ⟨#[97, 32, 38, 38]⟩ = .error 31 := by kernel_rfl
/-- what Parse tells is a list -/
theorem gram_list {t : ByteArray} {c : CmdT} (h : gramP t = .ok c) : ∃ ks, c = .mk 5 false [] [] [] ks [] [] := by
  unfold gramP at h
  cases hl : lexF t (t.size + 1) 0 [] with
  | error n => rw [hl] at h; cases h
  | ok L =>
    rw [hl] at h
    have h' : (match scrP L with | .ok c _ => Except.ok c | .err n => .error n) = Except.ok c := h
    cases hs : scrP L with
    | err n => rw [hs] at h'; cases h'
    | ok c' j =>
      rw [hs] at h'
      cases h'
      rw [scr_go] at hs
      generalize goP L (cmdF L (L.length + 1) 0) (L.length + 1) (lineP L 0) [] = r at hs
      cases r with
      | err n => cases hs
      | ok ks j2 =>
        have hs' : (if (tk L j2).1 = 4 then PR.ok (CmdT.mk 5 false [] [] [] ks [] []) j2 else .err 31) = .ok c j := hs
        split at hs'
        · cases hs'; exact ⟨ks, rfl⟩
        · cases hs'
end Go.Proofs.YtioddclglemlmaaGreatDoor

/- The tokens of a text are few and small, in plain words; no condition. -/
namespace Go.Proofs.YtioddclglemlmaaGreatDoor
open Go

theorem addT_ok {k : List (Int × ByteArray) → Except Int (List (Int × ByteArray))} {out R : List (Int × ByteArray)} {t : Int × ByteArray} (h : addT k out t = .ok R) : out.length ≠ 5000 ∧ k (out ++ [t]) = .ok R := by
  unfold addT at h
  split at h
  · cases h
  · rename_i h5; exact ⟨h5, h⟩
theorem sl_size (s : ByteArray) (i j : Nat) : (mk (sl s i j)).size ≤ s.size := by
  show (sl s i j).length ≤ s.size
  unfold sl
  simp [List.length_drop, List.length_take]
  have : s.data.size = s.size := rfl
  omega
theorem opT_size (s : ByteArray) (i : Nat) : (opT s i).1.size ≤ 2 := by
  unfold opT
  split
  · rw [ByteArray.size_append]; exact Nat.le_refl _
  · exact Nat.le_succ _
theorem lex_small (s : ByteArray) (hs : s.size ≤ 65536) : ∀ f i out R, lexF s f i out = .ok R → out.length ≤ 5000 → (∀ x ∈ out, x.2.size ≤ 70000) → R.length ≤ 5001 ∧ ∀ x ∈ R, x.2.size ≤ 70000 := by
  intro f
  induction f with
  | zero => intro i out R h; cases h
  | succ f ih =>
    intro i out R h ho hx
    have add : ∀ (t : Int × ByteArray) (k : Nat), t.2.size ≤ 70000 → addT (lexF s f k) out t = .ok R → R.length ≤ 5001 ∧ ∀ x ∈ R, x.2.size ≤ 70000 := fun t k ht h => by
      obtain ⟨h5, h⟩ := addT_ok h
      refine ih k (out ++ [t]) R h (by simp; omega) fun x hm => ?_
      rcases List.mem_append.1 hm with e | e
      · exact hx x e
      · rw [List.mem_singleton.1 e]; exact ht
    rw [lexF] at h
    split at h
    · split at h
      · exact ih _ _ _ h ho hx
      · exact add _ _ (by show (1 : Nat) ≤ _; omega) h
      · exact ih _ _ _ h ho hx
      · exact add _ _ (Nat.le_trans (opT_size s i) (by omega)) h
      · unfold wordR at h
        split at h
        · cases h
        · exact add _ _ (Nat.le_trans (sl_size s _ _) (by omega)) h
    · obtain ⟨h5, h⟩ := addT_ok h
      cases h
      refine ⟨by simp; omega, fun x hm => ?_⟩
      rcases List.mem_append.1 hm with e | e
      · exact hx x e
      · rw [List.mem_singleton.1 e]; show (0 : Nat) ≤ _; omega
/-- the tokens that a parser is given -/
theorem lex_tokens {s : ByteArray} {R : List (Int × ByteArray)} (hs : s.size ≤ 65536) (nob : ∀ c ∈ s.data.toList, c ≠ 92 ∧ c ≠ 35) (h : lexF s (s.size + 1) 0 [] = .ok R) :
    0 < R.length ∧ R.length ≤ 5001 ∧ (∀ j, j + 1 = R.length → (tk R j).1 = 4) ∧ ∀ j, (tk R j).2.size ≤ 70000 := by
  obtain ⟨h1, h2⟩ := lex_small s hs _ _ _ _ h (Nat.zero_le _) (fun x hx => absurd hx List.not_mem_nil)
  obtain ⟨T, rfl, _⟩ := toks_of h nob
  refine ⟨by simp, h1, fun j hj => ?_, fun j => ?_⟩
  · rw [List.length_append, List.length_singleton] at hj
    have : j = T.length := by omega
    subst this
    unfold tk
    rw [List.getD_eq_getElem?_getD, List.getElem?_append_right (Nat.le_refl _)]
    simp [eT]
  · unfold tk
    rw [List.getD_eq_getElem?_getD]
    cases hg : (T ++ [eT])[j]? with
    | none => show (0 : Nat) ≤ _; omega
    | some x => exact h2 x (List.mem_of_getElem? hg)
end Go.Proofs.YtioddclglemlmaaGreatDoor
