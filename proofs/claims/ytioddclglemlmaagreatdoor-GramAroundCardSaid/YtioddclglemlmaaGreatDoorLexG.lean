/- The tokens of a text without a backslash, or why it has none; conditions: a text of at most 65,536 bytes, the library's one number in its cell. -/
import Derived.Test.YtioddclglemlmaaGreatDoorLexF
import Derived.Test.YtioddclglemlmaaGreatDoorShelf
namespace Go.Proofs.YtioddclglemlmaaGreatDoor
open Go.RowKit

theorem idx_none : ∀ l : List UInt8, (∀ c ∈ l, c ≠ 92) → Lib.index l [92, 10] = -1
  | [], _ => by decide
  | c :: l, h => by
    have hc := h c (by simp)
    have ih := idx_none l fun x hx => h x (by simp [hx])
    rw [Lib.index]
    rw [if_neg (by simp [List.isPrefixOf, Ne.symm hc]), ih]
    simp
theorem rep_none (l : List UInt8) (h : ∀ c ∈ l, c ≠ 92) : Lib.replaceAll l [92, 10] [] = l := by
  unfold Lib.replaceAll Lib.replace
  rw [if_neg (by decide)]
  cases Lib.replaceNum l [92, 10] (-1) with
  | zero => rfl
  | succ k => rw [Lib.replaceK, idx_none l h]; rfl

def Bad (n : Int) : Prop := n = 30 ∨ n = 42 ∨ n = 2
theorem sing_bad (s : ByteArray) : ∀ f i n, singF s f i = .error n → Bad n
  | 0, _, _, h => by cases h; exact .inl rfl
  | f + 1, i, n, h => by
    rw [singF] at h
    split at h
    · split at h
      · cases h
      · exact sing_bad s f _ _ h
    · cases h; exact .inl rfl
theorem quo_bad (s : ByteArray) (W : Nat → UInt8 → UInt8 → Nat → Except Int Nat) (hW : ∀ d t e i n, W d t e i = .error n → Bad n) (d : Nat) (c : UInt8) (sg : Bool) (i : Nat) (n : Int) (h : quoP s W d c sg i = .error n) : Bad n := by
  have he : ∀ c e k, ent W d c e k = .error n → Bad n := fun c e k h => by
    unfold ent at h; split at h
    · cases h; exact .inr (.inl rfl)
    · exact hW _ _ _ _ _ h
  unfold quoP dolP at h
  split at h
  · cases h
  · split at h
    · split at h
      · exact sing_bad s _ _ _ h
      · cases h
    · split at h
      · exact he _ _ _ h
      · split at h
        · split at h
          · exact he _ _ _ h
          · split at h
            · exact he _ _ _ h
            · cases h
        · split at h
          · exact he _ _ _ h
          · cases h
theorem with_bad (s : ByteArray) : ∀ f d t e i n, withF s f d t e i = .error n → Bad n
  | 0, _, _, _, _, _, h => by cases h; exact .inl rfl
  | f + 1, d, t, e, i, n, h => by
    rw [withF] at h
    split at h
    · split at h
      · cases h
      · split at h
        · rename_i k hk
          cases h
          unfold stepW at hk
          split at hk
          · unfold ent at hk; split at hk
            · cases hk; exact .inr (.inl rfl)
            · exact with_bad s f _ _ _ _ _ hk
          · split at hk
            · cases hk
            · exact quo_bad s _ (with_bad s f) _ _ _ _ _ hk
        · exact with_bad s f _ _ _ _ _ h
    · cases h; exact .inl rfl
theorem word_bad (s : ByteArray) : ∀ f i n, wordF s f i = .error n → Bad n
  | 0, _, _, h => by cases h
  | f + 1, i, n, h => by
    rw [wordF] at h
    split at h
    · split at h
      · rename_i k hk
        cases h
        exact quo_bad s _ (with_bad s _) _ _ _ _ _ hk
      · exact word_bad s f _ _ h
    · cases h
theorem add_bad {k : List (Int × ByteArray) → Except Int (List (Int × ByteArray))} {out : List (Int × ByteArray)} {t : Int × ByteArray} {n : Int} (hk : ∀ o n, k o = .error n → Bad n) (h : addT k out t = .error n) : Bad n := by
  unfold addT at h
  split at h
  · cases h; exact .inr (.inr rfl)
  · exact hk _ _ h
theorem lex_bad (s : ByteArray) : ∀ f i out n, lexF s f i out = .error n → Bad n
  | 0, _, _, _, h => by cases h; exact .inl rfl
  | f + 1, i, out, n, h => by
    have ih := lex_bad s f
    rw [lexF] at h
    split at h
    · split at h
      · exact ih _ _ _ h
      · exact add_bad (fun o n => ih _ o n) h
      · exact ih _ _ _ h
      · exact add_bad (fun o n => ih _ o n) h
      · unfold wordR at h
        split at h
        · rename_i k hk
          cases h
          exact word_bad s _ _ _ hk
        · exact add_bad (fun o n => ih _ o n) h
    · exact add_bad (fun o n h => by cases h) h

set_option maxRecDepth 100000 in
set_option maxHeartbeats 1000000 in
theorem Lex_any (s : ByteArray) (w : World) (hs : s.size ≤ 65536) (h92 : ∀ c ∈ s.data.toList, c ≠ 92) (m : Int) (hm : w.cell? ⟨1, 0, none⟩ = some (.int .i64 m)) :
    Calls Tryz.prog 12 #[.string s] w fun e w' => TkA w.heap.size (lexF s (s.size + 1) 0 []) e w' ∧ Below w.heap.size w w' := by
  obtain ⟨R, hR⟩ : ∃ R, lexF s (s.size + 1) 0 [] = R := ⟨_, rfl⟩
  have hb := fun n => lex_bad s (s.size + 1) 0 [] n
  rw [hR] at hb
  have HT := Lib.hid fun w => tokens_any s w (by omega)
  rw [hR] at HT ⊢
  have HRP : Hid (Calls Tryz.prog 17 #[.string s, .string ⟨#[92, 10]⟩, .string ⟨#[]⟩] w fun e w' => e = .returned (.string s) ∧ Below w.heap.size w w') := by
    have h := Tryz.strings_ReplaceAll s ⟨#[92, 10]⟩ ⟨#[]⟩ m w (by omega) hm (by decide) (by show s.size + _ * 0 ≤ _; omega)
    have e : (⟨(Lib.replaceAll s.data.toList (ByteArray.data ⟨#[92, 10]⟩).toList (ByteArray.data ⟨#[]⟩).toList).toArray⟩ : ByteArray) = s := by
      show mk (Lib.replaceAll s.data.toList [92, 10] []) = s
      rw [rep_none _ h92]; rfl
    rw [e] at h; exact h
  have q : ¬ (65536 : Int) < s.size := by omega
  clear hR hm h92
  go_enter Tryz.func12, Tryz.ntmps12
  go_wp2_with fail
  refine HRP.out.mono ?_
  rintro e w1 ⟨rfl, hb1⟩
  go_wp2_with fail
  refine (HT.out w1).mono ?_
  rintro e w2 ⟨ha, hb2⟩
  have HB := Lib.hid (hb1.trans (hb2.mono hb1.size))
  cases R with
  | error n =>
    obtain rfl : e = _ := ha
    have hn : ¬ n = 0 := by rcases hb n rfl with rfl | rfl | rfl <;> decide
    have hn2 : (n == 0) = false := beq_eq_false_iff_ne.2 hn
    clear hb hb1 hb2
    go_wp2
    go_ret2
    exact ⟨rfl, HB.out⟩
  | ok out =>
    obtain ⟨vt, rfl, ho⟩ := ha
    obtain ⟨At, ct, rfl, _, _⟩ := ho.form
    have HO := Lib.hid (ho.lower hb1.size)
    clear hb hb1 hb2 ho
    go_wp2
    go_ret2
    exact ⟨⟨_, rfl, HO.out⟩, HB.out⟩
end Go.Proofs.YtioddclglemlmaaGreatDoor
