/- What a text without quotes is within quotes, and behind a #, as tokens, in plain words; no condition. -/
import Derived.Test.YtioddclglemlmaaDoorLexP
namespace Go.Proofs.YtioddclglemlmaaDoor
open Go.RowKit

/-- a byte that begins nothing -/
def PL (c : UInt8) : Prop := c ≠ 92 ∧ c ≠ 39 ∧ c ≠ 34 ∧ c ≠ 36 ∧ c ≠ 96
theorem quo_plain (s : ByteArray) (W : Nat → UInt8 → UInt8 → Nat → Except Int Nat) (d : Nat) {c : UInt8} (sg : Bool) (j : Nat) (h : PL c) : quoP s W d c sg j = .ok j := by
  unfold quoP
  rw [if_neg h.1, if_neg h.2.1, if_neg h.2.2.1, if_neg h.2.2.2.1, if_neg h.2.2.2.2]
theorem word_go (s : ByteArray) (f i k : Nat) (hi : i < s.size) (h : stopB (s.get! i) = false) (hq : quoP s (withF s (s.size + 1)) 0 (s.get! i) true (i + 1) = .ok k) : wordF s (f + 1) i = wordF s f k := by
  rw [wordF, if_pos ⟨hi, h⟩, hq]
theorem word_stop (s : ByteArray) (f i : Nat) (h : stopB (s.get! i) = true) : wordF s f i = .ok i := by
  cases f with
  | zero => rfl
  | succ f => rw [wordF, if_neg (fun k => by rw [h] at k; cases k.2)]
theorem word_end (s : ByteArray) (f i : Nat) (h : ¬ i < s.size) : wordF s f i = .ok i := by
  cases f with
  | zero => rfl
  | succ f => rw [wordF, if_neg (fun k => h k.1)]
theorem lex_word (s : ByteArray) (f i j : Nat) (out : List (Int × ByteArray)) (hi : i < s.size) (hb : btw (s.get! i) = 4) (hw : wordF s (s.size + 1) i = .ok j) (ho : out.length < 5000) : lexF s (f + 1) i out = lexF s f j (out ++ [(1, mk (sl s i j))]) := by
  rw [lexF, if_pos hi, hb]
  show wordR s (lexF s f) i out = _
  unfold wordR
  rw [hw]
  show addT _ _ _ = _
  unfold addT
  rw [if_neg (by omega)]
theorem lex_blank (s : ByteArray) (f i : Nat) (out : List (Int × ByteArray)) (hi : i < s.size) (hb : btw (s.get! i) = 0) : lexF s (f + 1) i out = lexF s f (i + 1) out := by
  rw [lexF, if_pos hi, hb]; rfl
theorem lex_end (s : ByteArray) (f i : Nat) (out : List (Int × ByteArray)) (hi : ¬ i < s.size) (ho : out.length < 5000) : lexF s (f + 1) i out = .ok (out ++ [(4, ⟨#[]⟩)]) := by
  rw [lexF, if_neg hi]
  unfold addT
  rw [if_neg (by omega)]
theorem lex_com (s : ByteArray) (f i : Nat) (out : List (Int × ByteArray)) (hi : i < s.size) (hb : btw (s.get! i) = 2) : lexF s (f + 1) i out = lexF s f (comF s (s.size + 1) i) out := by
  rw [lexF, if_pos hi, hb]; rfl

theorem plain_word (s : ByteArray) : ∀ f i, (∀ k, i ≤ k → k < s.size → PL (s.get! k)) → ∃ j, wordF s f i = .ok j
  | 0, i, _ => ⟨i, rfl⟩
  | f + 1, i, h => by
    by_cases hi : i < s.size ∧ stopB (s.get! i) = false
    · rw [word_go s f i (i + 1) hi.1 hi.2 (quo_plain s _ 0 true (i + 1) (h i (Nat.le_refl _) hi.1))]
      exact plain_word s f (i + 1) fun k h1 h2 => h k (by omega) h2
    · rw [wordF, if_neg hi]; exact ⟨i, rfl⟩
theorem plain_lex (s : ByteArray) : ∀ f i out, s.size < f + i → i ≤ s.size → (∀ k, i ≤ k → k < s.size → PL (s.get! k)) → out.length + (s.size - i) + 1 < 5000 → ∃ rest, lexF s f i out = .ok (out ++ rest) ∧ rest ≠ []
  | 0, i, out, h1, h2, _, _ => by omega
  | f + 1, i, out, h1, h2, hp, hl => by
    by_cases hi : i < s.size
    · have ho : ¬ out.length = 5000 := by omega
      have one : ∀ (t : Int × ByteArray) (j : Nat), i + 1 ≤ j → j ≤ s.size → ∃ rest, lexF s f j (out ++ [t]) = .ok (out ++ rest) ∧ rest ≠ [] := fun t j a b => by
        obtain ⟨rest, e1, _⟩ := plain_lex s f j (out ++ [t]) (by omega) b (fun k q1 q2 => hp k (by omega) q2) (by simp; omega)
        exact ⟨t :: rest, by rw [e1]; simp, by simp⟩
      have on : ∀ (j : Nat), i + 1 ≤ j → j ≤ s.size → ∃ rest, lexF s f j out = .ok (out ++ rest) ∧ rest ≠ [] := fun j a b => plain_lex s f j out (by omega) b (fun k q1 q2 => hp k (by omega) q2) (by omega)
      rw [lexF, if_pos hi]
      obtain ⟨kk, hkk⟩ : ∃ kk, btw (s.get! i) = kk := ⟨_, rfl⟩
      rw [hkk]
      match kk, hkk with
      | 0, _ => exact on _ (Nat.le_refl _) hi
      | 1, _ =>
        show ∃ rest, addT _ _ _ = _ ∧ _
        unfold addT; rw [if_neg ho]
        exact one _ _ (Nat.le_refl _) hi
      | 2, hkk =>
        have h35 := btw2 hkk
        have hcg := com_ge s (s.size + 1) i h2
        refine on (comF s (s.size + 1) i) ?_ hcg.2
        rw [comF, if_pos ⟨hi, by rw [h35]; decide⟩]
        exact (com_ge s s.size (i + 1) hi).1
      | 3, _ =>
        show ∃ rest, addT _ _ _ = _ ∧ _
        unfold addT; rw [if_neg ho]
        have := opT_gt s i hi
        exact one _ _ (by omega) this.2
      | n + 4, hkk =>
        have hst : stopB (s.get! i) = false := btw_stop (by rw [hkk]; omega) (by rw [hkk]; omega) (by rw [hkk]; omega) (by rw [hkk]; omega)
        have hg := word_go s s.size i (i + 1) hi hst (quo_plain s _ 0 true (i + 1) (hp i (Nat.le_refl _) hi))
        obtain ⟨j, hj⟩ := plain_word s s.size (i + 1) fun k q1 q2 => hp k (by omega) q2
        have hjg := word_ge s _ _ _ hi hj
        show ∃ rest, wordR s (lexF s f) i out = _ ∧ _
        unfold wordR
        rw [hg, hj]
        show ∃ rest, addT _ _ _ = _ ∧ _
        unfold addT; rw [if_neg ho]
        exact one _ _ hjg.1 hjg.2
    · rw [lex_end s f i out hi (by omega)]
      exact ⟨_, rfl, by simp⟩

/-- the text in quotes, as the law asks it -/
def quoL (q : UInt8) (S : List UInt8) : List UInt8 := [120, 32, q] ++ (S ++ [q, 32, 121])
section
variable (q : UInt8) (S : List UInt8)
theorem quo_size : (mk (quoL q S)).size = S.length + 6 := by rw [mk_size]; simp [quoL]
theorem quo_at (k : Nat) (h : k < S.length) : (mk (quoL q S)).get! (3 + k) = S[k] := by
  apply get_some
  unfold quoL
  rw [List.getElem?_append_right (by simp), List.getElem?_append_left (by simp; omega)]
  simp [h]
theorem quo_far (k : Nat) (c : UInt8) (h : ([q, 32, 121] : List UInt8)[k]? = some c) : (mk (quoL q S)).get! (3 + S.length + k) = c := by
  apply get_some
  unfold quoL
  rw [List.getElem?_append_right (by simp; omega), List.getElem?_append_right (by simp; omega)]
  have : 3 + S.length + k - ([120, 32, q] : List UInt8).length - S.length = k := by simp; omega
  rw [this, h]
theorem quo_near (k : Nat) (c : UInt8) (h : ([120, 32, q] : List UInt8)[k]? = some c) : (mk (quoL q S)).get! k = c := by
  apply get_some
  have hk : k < 3 := (List.getElem?_eq_some_iff.1 h).1
  unfold quoL
  rw [List.getElem?_append_left (by simpa using hk), h]
end
theorem sing_run (S : List UInt8) (hS : ∀ c ∈ S, PL c) : ∀ m k f, k + m = S.length → (mk (quoL 39 S)).size < f + (3 + k) → singF (mk (quoL 39 S)) f (3 + k) = .ok (S.length + 4)
  | 0, k, f, hm, hf => by
    have hs := quo_size 39 S
    obtain ⟨f, rfl⟩ : ∃ g, f = g + 1 := ⟨f - 1, by omega⟩
    obtain rfl : k = S.length := by omega
    rw [singF, if_pos (by omega), show (mk (quoL 39 S)).get! (3 + S.length) = 39 from quo_far 39 S 0 39 rfl, if_pos rfl]
    congr 1; omega
  | m + 1, k, f, hm, hf => by
    have hs := quo_size 39 S
    obtain ⟨f, rfl⟩ : ∃ g, f = g + 1 := ⟨f - 1, by omega⟩
    have hk : k < S.length := by omega
    rw [singF, if_pos (by omega), quo_at 39 S k hk, if_neg (hS _ (List.getElem_mem hk)).2.1]
    exact sing_run S hS m (k + 1) f (by omega) (by omega)
theorem with_run (S : List UInt8) (hS : ∀ c ∈ S, PL c) : ∀ m k f, k + m = S.length → (mk (quoL 34 S)).size < f + (3 + k) → withF (mk (quoL 34 S)) f 1 34 34 (3 + k) = .ok (S.length + 4)
  | 0, k, f, hm, hf => by
    have hs := quo_size 34 S
    obtain ⟨f, rfl⟩ : ∃ g, f = g + 1 := ⟨f - 1, by omega⟩
    obtain rfl : k = S.length := by omega
    rw [withF, if_pos (by omega), show (mk (quoL 34 S)).get! (3 + S.length) = 34 from quo_far 34 S 0 34 rfl, if_pos rfl]
    congr 1; omega
  | m + 1, k, f, hm, hf => by
    have hs := quo_size 34 S
    obtain ⟨f, rfl⟩ : ∃ g, f = g + 1 := ⟨f - 1, by omega⟩
    have hk : k < S.length := by omega
    have hp := hS _ (List.getElem_mem hk)
    have e : stepW (mk (quoL 34 S)) (withF (mk (quoL 34 S)) f) 1 34 S[k] (3 + k + 1) = .ok (3 + k + 1) := by
      unfold stepW
      rw [if_neg (fun h => absurd h.1 (by decide)), if_neg (fun h => absurd h.1 (by decide))]
      exact quo_plain _ _ _ _ _ hp
    rw [withF, if_pos (by omega), quo_at 34 S k hk, if_neg hp.2.2.1, e]
    exact with_run S hS m (k + 1) f (by omega) (by omega)
theorem quo_word (q : UInt8) (hq : q = 39 ∨ q = 34) (S : List UInt8) (hS : ∀ c ∈ S, PL c) : quoP (mk (quoL q S)) (withF (mk (quoL q S)) ((mk (quoL q S)).size + 1)) 0 q true 3 = .ok (S.length + 4) := by
  rcases hq with rfl | rfl
  · exact sing_run S hS S.length 0 _ (by omega) (by omega)
  · exact with_run S hS S.length 0 _ (by omega) (by omega)
theorem sl_one (s : ByteArray) (i : Nat) (h : i < s.size) : mk (sl s i (i + 1)) = ⟨#[s.get! i]⟩ := by
  rw [sl_snoc s i i (Nat.le_refl _) h, sl_nil]; rfl
theorem quo_lex (q : UInt8) (hq : q = 39 ∨ q = 34) (S : List UInt8) (hS : ∀ c ∈ S, PL c) :
    lexF (mk (quoL q S)) ((mk (quoL q S)).size + 1) 0 [] = .ok [(1, ⟨#[120]⟩), (1, mk ([q] ++ S ++ [q])), (1, ⟨#[121]⟩), (4, ⟨#[]⟩)] := by
  have hs := quo_size q S
  have hqb : btw q = 4 ∧ stopB q = false := by rcases hq with rfl | rfl <;> decide
  have n0 : (mk (quoL q S)).get! 0 = 120 := quo_near q S 0 120 rfl
  have n1 : (mk (quoL q S)).get! 1 = 32 := quo_near q S 1 32 rfl
  have n2 : (mk (quoL q S)).get! 2 = q := quo_near q S 2 q rfl
  have n4 : (mk (quoL q S)).get! (S.length + 4) = 32 := by rw [show S.length + 4 = 3 + S.length + 1 by omega]; exact quo_far q S 1 32 rfl
  have n5 : (mk (quoL q S)).get! (S.length + 5) = 121 := by rw [show S.length + 5 = 3 + S.length + 2 by omega]; exact quo_far q S 2 121 rfl
  have hw := quo_word q hq S hS
  have w0 : wordF (mk (quoL q S)) ((mk (quoL q S)).size + 1) 0 = .ok 1 := by
    rw [word_go _ _ 0 1 (by omega) (by rw [n0]; decide) (by rw [n0]; exact quo_plain _ _ _ _ _ (by unfold PL; decide))]
    exact word_stop _ _ _ (by rw [n1]; decide)
  have w2 : wordF (mk (quoL q S)) ((mk (quoL q S)).size + 1) 2 = .ok (S.length + 4) := by
    rw [word_go _ _ 2 (S.length + 4) (by omega) (by rw [n2]; exact hqb.2) (by rw [n2]; exact hw)]
    exact word_stop _ _ _ (by rw [n4]; decide)
  have w5 : wordF (mk (quoL q S)) ((mk (quoL q S)).size + 1) (S.length + 5) = .ok (S.length + 6) := by
    rw [word_go _ _ (S.length + 5) (S.length + 6) (by omega) (by rw [n5]; decide) (by rw [n5]; exact quo_plain _ _ _ _ _ (by unfold PL; decide))]
    exact word_end _ _ _ (by omega)
  have t0 : mk (sl (mk (quoL q S)) 0 1) = ⟨#[120]⟩ := by rw [sl_one _ 0 (by omega), n0]
  have t5 : mk (sl (mk (quoL q S)) (S.length + 5) (S.length + 6)) = ⟨#[121]⟩ := by rw [sl_one _ (S.length + 5) (by omega), n5]
  have t2 : mk (sl (mk (quoL q S)) 2 (S.length + 4)) = mk ([q] ++ S ++ [q]) := by
    congr 1
    show ((quoL q S).take (S.length + 4)).drop 2 = _
    unfold quoL
    have e : [120, 32, q] ++ (S ++ [q, 32, 121]) = ([120, 32] ++ ([q] ++ S ++ [q])) ++ [32, 121] := by simp
    rw [e, List.take_left' (by simp)]; rfl
  rw [hs]
  refine (lex_word _ (S.length + 6) 0 1 _ (by omega) (by rw [n0]; decide) w0 (by simp)).trans ?_
  refine (lex_blank _ (S.length + 5) 1 _ (by omega) (by rw [n1]; decide)).trans ?_
  refine (lex_word _ (S.length + 4) 2 (S.length + 4) _ (by omega) (by rw [n2]; exact hqb.1) w2 (by simp)).trans ?_
  refine (lex_blank _ (S.length + 3) (S.length + 4) _ (by omega) (by rw [n4]; decide)).trans ?_
  refine (lex_word _ (S.length + 2) (S.length + 5) (S.length + 6) _ (by omega) (by rw [n5]; decide) w5 (by simp)).trans ?_
  refine (lex_end _ (S.length + 1) (S.length + 6) _ (by omega) (by simp)).trans ?_
  rw [t0, t2, t5]; rfl
/-- the text behind a #, as the law asks it -/
def comL (S : List UInt8) : List UInt8 := [120, 32, 39, 97, 39, 32, 35] ++ S
theorem com_lex (S : List UInt8) (hS : ∀ c ∈ S, PL c) (hl : S.length ≤ 2000) :
    ∃ rest, lexF (mk (comL S)) ((mk (comL S)).size + 1) 0 [] = .ok ([(1, ⟨#[120]⟩), (1, ⟨#[39, 97, 39]⟩)] ++ rest) ∧ rest ≠ [] := by
  have hs : (mk (comL S)).size = S.length + 7 := by rw [mk_size]; simp [comL]
  have near : ∀ k c, ([120, 32, 39, 97, 39, 32, 35] : List UInt8)[k]? = some c → (mk (comL S)).get! k = c := fun k c h => by
    apply get_some
    unfold comL
    rw [List.getElem?_append_left (List.getElem?_eq_some_iff.1 h).1, h]
  have far : ∀ k (h : k < S.length), (mk (comL S)).get! (7 + k) = S[k] := fun k h => by
    apply get_some
    unfold comL
    rw [List.getElem?_append_right (by simp)]
    simp [h]
  have n0 := near 0 120 rfl
  have n1 := near 1 32 rfl
  have n2 := near 2 39 rfl
  have n3 := near 3 97 rfl
  have n4 := near 4 39 rfl
  have n5 := near 5 32 rfl
  have n6 := near 6 35 rfl
  have w0 : wordF (mk (comL S)) ((mk (comL S)).size + 1) 0 = .ok 1 := by
    rw [word_go _ _ 0 1 (by omega) (by rw [n0]; decide) (by rw [n0]; exact quo_plain _ _ _ _ _ (by unfold PL; decide))]
    exact word_stop _ _ _ (by rw [n1]; decide)
  have hsg : ∀ f, singF (mk (comL S)) (f + 2) 3 = .ok 5 := fun f => by
    rw [singF, if_pos (by omega), n3, if_neg (by decide), singF, if_pos (by omega), n4, if_pos rfl]
  have w2 : wordF (mk (comL S)) ((mk (comL S)).size + 1) 2 = .ok 5 := by
    rw [word_go _ _ 2 5 (by omega) (by rw [n2]; decide) (by rw [n2, hs]; exact hsg (S.length + 6))]
    exact word_stop _ _ _ (by rw [n5]; decide)
  have t0 : mk (sl (mk (comL S)) 0 1) = ⟨#[120]⟩ := by rw [sl_one _ 0 (by omega), n0]
  have t2 : mk (sl (mk (comL S)) 2 5) = ⟨#[39, 97, 39]⟩ := rfl
  have hcg := com_ge (mk (comL S)) ((mk (comL S)).size + 1) 6 (by omega)
  have hcg1 : 7 ≤ comF (mk (comL S)) ((mk (comL S)).size + 1) 6 := by
    rw [comF, if_pos ⟨by omega, by rw [n6]; decide⟩]
    exact (com_ge _ _ 7 (by omega)).1
  obtain ⟨rest, e1, e2⟩ := plain_lex (mk (comL S)) (S.length + 3) (comF (mk (comL S)) ((mk (comL S)).size + 1) 6) [(1, ⟨#[120]⟩), (1, ⟨#[39, 97, 39]⟩)] (by omega) hcg.2 (fun k h1 h2 => by
    obtain ⟨j, rfl⟩ : ∃ j, k = 7 + j := ⟨k - 7, by omega⟩
    have hj : j < S.length := by omega
    rw [far j hj]; exact hS _ (List.getElem_mem hj)) (by simp; omega)
  refine ⟨rest, ?_, e2⟩
  rw [← e1, hs]
  refine (lex_word _ (S.length + 7) 0 1 _ (by omega) (by rw [n0]; decide) w0 (by simp)).trans ?_
  refine (lex_blank _ (S.length + 6) 1 _ (by omega) (by rw [n1]; decide)).trans ?_
  refine (lex_word _ (S.length + 5) 2 5 _ (by omega) (by rw [n2]; decide) w2 (by simp)).trans ?_
  refine (lex_blank _ (S.length + 4) 5 _ (by omega) (by rw [n5]; decide)).trans ?_
  refine (lex_com _ (S.length + 3) 6 _ (by omega) (by rw [n6]; decide)).trans ?_
  rw [t0, t2, hs]; rfl
end Go.Proofs.YtioddclglemlmaaDoor
