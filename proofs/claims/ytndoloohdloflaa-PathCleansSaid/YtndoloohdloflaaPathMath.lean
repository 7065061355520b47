/- Plain lemmas on paths: cleaning, splitting, joining; no program. -/
import Derived.Test.YtndoloohdloflaaPath
import Derived.Test.YtndoloohdloflaaWord
namespace Go.Proofs.Ytndoloohdloflaa
open Go.RowKit

theorem split_ne (a : List UInt8) : splitSl a ≠ [] := by
  cases a with
  | nil => simp [splitSl]
  | cons c l => rw [splitSl]; split; simp; split <;> simp
theorem split_app (a b : List UInt8) : splitSl (a ++ 47 :: b) = splitSl a ++ splitSl b := by
  induction a with
  | nil => simp [splitSl]
  | cons x a ih =>
    rw [List.cons_append, splitSl, splitSl]
    split
    · rw [ih]; rfl
    · rw [ih]
      cases h : splitSl a with
      | nil => exact absurd h (split_ne a)
      | cons y ys => rfl
theorem split_mem (a : List UInt8) : ∀ p ∈ splitSl a, ∀ c ∈ p, c ≠ 47 := by
  induction a with
  | nil => simp [splitSl]
  | cons x a ih =>
    rw [splitSl]
    split
    · intro p hp
      rcases List.mem_cons.1 hp with rfl | hp
      · simp
      · exact ih p hp
    · rename_i hx
      cases h : splitSl a with
      | nil => exact absurd h (split_ne a)
      | cons y ys =>
        rw [h] at ih
        intro p hp
        rcases List.mem_cons.1 hp with rfl | hp
        · intro c hc
          rcases List.mem_cons.1 hc with rfl | hc
          · exact hx
          · exact ih y (by simp) c hc
        · exact ih p (by simp [hp])

/-- A name that stays: not empty, neither . nor .., without a slash. -/
def Good (x : ByteArray) : Prop := x.data.toList ≠ [] ∧ x.data.toList ≠ [46] ∧ x.data.toList ≠ [46, 46] ∧ ∀ c ∈ x.data.toList, c ≠ 47
def Goods (l : List ByteArray) : Prop := ∀ x ∈ l, Good x
theorem step_good {l : List ByteArray} {x : ByteArray} (h : Good x) : stepN l x = l ++ [x] := by unfold stepN; rw [if_neg (by simp [h.1, h.2.1]), if_neg h.2.2.1]
theorem goods_step {l : List ByteArray} {x : ByteArray} (h : Goods l) (hx : ∀ c ∈ x.data.toList, c ≠ 47) : Goods (stepN l x) := by
  unfold stepN
  split
  · exact h
  · rename_i h1
    split
    · exact fun y hy => h y (List.dropLast_subset l hy)
    · rename_i h2
      intro y hy
      rcases List.mem_append.1 hy with hy | hy
      · exact h y hy
      · obtain rfl := List.mem_singleton.1 hy
        exact ⟨fun e => h1 (.inl e), fun e => h1 (.inr e), h2, hx⟩
theorem goods_fold (ps l : List ByteArray) (h : Goods l) (hp : ∀ x ∈ ps, ∀ c ∈ x.data.toList, c ≠ 47) : Goods (ps.foldl stepN l) := by
  induction ps generalizing l with
  | nil => exact h
  | cons x ps ih => exact ih _ (goods_step h (hp x (by simp))) (fun y hy => hp y (by simp [hy]))
theorem goods_names (s : ByteArray) : Goods (namesB s) := by
  refine goods_fold _ _ (by simp [Goods]) fun x hx => ?_
  obtain ⟨p, hp, rfl⟩ := List.mem_map.1 hx
  exact split_mem _ p hp
theorem fold_goods (ps l : List ByteArray) (h : Goods ps) : ps.foldl stepN l = l ++ ps := by
  induction ps generalizing l with
  | nil => simp
  | cons x ps ih =>
    rw [List.foldl_cons, step_good (h x (by simp)), ih _ (fun y hy => h y (by simp [hy]))]; simp
/-- What a list's joined text is cut into. -/
theorem split_join (l : List ByteArray) (h : ∀ x ∈ l, ∀ c ∈ x.data.toList, c ≠ 47) (hl : l ≠ []) : (splitSl (joinSl l).data.toList).map mk = l := by
  rw [show (joinSl l).data.toList = Lib.join (l.map (·.data.toList)) [47] from rfl]
  induction l with
  | nil => exact absurd rfl hl
  | cons x l ih =>
    cases l with
    | nil => rw [show Lib.join ([x].map (·.data.toList)) [47] = x.data.toList by simp [Lib.join], split_no _ (h x (by simp))]; rfl
    | cons y l =>
      have e : Lib.join ((x :: y :: l).map (·.data.toList)) [47] = x.data.toList ++ 47 :: Lib.join ((y :: l).map (·.data.toList)) [47] := by simp [Lib.join, List.intercalate]
      rw [e, split_at _ _ (h x (by simp)), List.map_cons, ih (fun z hz => h z (by simp [hz])) (by simp)]; rfl
theorem names_join (l : List ByteArray) (h : Goods l) : namesB (joinSl l) = l := by
  by_cases hl : l = []
  · subst hl; decide
  · unfold namesB
    rw [split_join l (fun x hx => (h x hx).2.2.2) hl, fold_goods l [] h]; rfl
theorem clean_join (l : List ByteArray) (h : Goods l) : cleanB (joinSl l) = joinSl l := by unfold cleanB; rw [names_join l h]
theorem clean_clean (s : ByteArray) : cleanB (cleanB s) = cleanB s := clean_join _ (goods_names s)
theorem app_list (a b : ByteArray) : (a ++ b).data.toList = a.data.toList ++ b.data.toList := by simp
def slB : ByteArray := ⟨#[47]⟩
theorem names_app (a b : ByteArray) : namesB (a ++ slB ++ b) = ((splitSl b.data.toList).map mk).foldl stepN (namesB a) := by
  unfold namesB
  rw [show (a ++ slB ++ b).data.toList = a.data.toList ++ 47 :: b.data.toList by simp [slB], split_app, List.map_append, List.foldl_append]
theorem lastB_none (l : List UInt8) (c : UInt8) (h : ∀ x ∈ l, x ≠ c) : lastB c l = -1 := by
  induction l with
  | nil => rfl
  | cons y l ih => rw [lastB, ih (fun x hx => h x (by simp [hx]))]; simp [h y (by simp)]
theorem lastB_app (a b : List UInt8) (c : UInt8) (h : ∀ x ∈ b, x ≠ c) : lastB c (a ++ c :: b) = a.length := by
  induction a with
  | nil => simp [lastB, lastB_none b c h]
  | cons y a ih => rw [List.cons_append, lastB, ih]; simp
def parB (s : ByteArray) : ByteArray := (cleanB s).extract 0 (max 0 (li 47 (cleanB s))).toNat
def lstB (s : ByteArray) : ByteArray := ndB (cleanB s)
def joinB (a b : ByteArray) : ByteArray := cleanB (a ++ slB ++ b)
theorem joinSl_snoc (l : List ByteArray) (x : ByteArray) (hl : l ≠ []) : (joinSl (l ++ [x])).data.toList = (joinSl l).data.toList ++ 47 :: x.data.toList := by
  show Lib.join _ _ = Lib.join _ _ ++ _
  induction l with
  | nil => exact absurd rfl hl
  | cons y l ih =>
    cases l with
    | nil => simp [Lib.join, List.intercalate]
    | cons z l =>
      have e : ∀ r, Lib.join ((y :: z :: r).map (·.data.toList)) [47] = y.data.toList ++ 47 :: Lib.join ((z :: r).map (·.data.toList)) [47] := fun r => by simp [Lib.join, List.intercalate]
      rw [List.cons_append, List.cons_append, e, e, ← List.cons_append, ih (by simp)]; simp
/-- The parent and the last name of a joined list. -/
theorem par_join (l : List ByteArray) (x : ByteArray) (h : Goods (l ++ [x])) : parB (joinSl (l ++ [x])) = joinSl l ∧ lstB (joinSl (l ++ [x])) = x := by
  have hx : ∀ c ∈ x.data.toList, c ≠ 47 := (h x (by simp)).2.2.2
  unfold parB lstB
  rw [clean_join _ h]
  by_cases hl : l = []
  · subst hl
    have e : joinSl ([] ++ [x]) = x := by apply ba_ext; show Lib.join _ _ = _; simp [Lib.join]
    rw [e]
    have e2 : li 47 x = -1 := lastB_none _ _ hx
    rw [e2]
    refine ⟨?_, ?_⟩
    · apply ba_ext; rw [extract_list]; simp; rfl
    · unfold ndB; rw [e2]; apply ba_ext; rw [extract_list, List.take_of_length_le (by simp)]; simp
  · have e := joinSl_snoc l x hl
    have e2 : li 47 (joinSl (l ++ [x])) = (joinSl l).size := by unfold li; rw [e, lastB_app _ _ _ hx]; simp
    refine ⟨?_, ?_⟩
    · rw [e2]; apply ba_ext; rw [extract_list, e]
      rw [show (max 0 ((joinSl l).size : Int)).toNat = (joinSl l).data.toList.length by simp]
      simp
    · unfold ndB; rw [e2]; apply ba_ext; rw [extract_list, List.take_of_length_le (by simp), e]
      rw [show (((joinSl l).size : Int) + 1).toNat = (joinSl l).data.toList.length + 1 by simp]
      rw [show (joinSl l).data.toList ++ 47 :: x.data.toList = ((joinSl l).data.toList ++ [47]) ++ x.data.toList by simp]
      rw [List.drop_left' (by simp)]
theorem join_back (l : List ByteArray) (h : Goods l) : joinB (parB (joinSl l)) (lstB (joinSl l)) = joinSl l := by
  rcases List.eq_nil_or_concat l with rfl | ⟨l, x, rfl⟩
  · decide +kernel
  · rw [List.concat_eq_append] at h ⊢
    obtain ⟨h1, h2⟩ := par_join l x h
    rw [h1, h2]
    unfold joinB cleanB
    rw [names_app, names_join l (fun y hy => h y (by simp [hy])), split_no _ (h x (by simp)).2.2.2]
    simp only [List.map_cons, List.map_nil, List.foldl_cons, List.foldl_nil]
    rw [mk_of, step_good (h x (by simp))]
theorem bs_sf (w : ByteArray) : bsB w ++ sfB w = w := by
  have key : ∃ k, k ≤ w.size ∧ sfB w = w.extract k w.size := by
    unfold sfB
    split
    · exact ⟨w.size, Nat.le_refl _, by apply ba_ext; rw [extract_list]; simp⟩
    · obtain ⟨b1, b2⟩ := li_b 46 (ndB w)
      obtain ⟨c1, c2⟩ := li_b 47 w
      have hs : (ndB w).size = w.size - (li 47 w + 1).toNat := by unfold ndB; rw [ByteArray.size_extract]; omega
      refine ⟨(li 47 w + 1).toNat + (li 46 (ndB w)).toNat, by omega, ?_⟩
      apply ba_ext
      rw [extract_list, extract_list, List.take_of_length_le (by simp), List.take_of_length_le (by simp)]
      rw [show (ndB w).data.toList = w.data.toList.drop (li 47 w + 1).toNat by unfold ndB; rw [extract_list, List.take_of_length_le (by simp)]]
      rw [List.drop_drop]
  obtain ⟨k, hk, e⟩ := key
  have hs : (sfB w).size = w.size - k := by rw [e, ByteArray.size_extract]; omega
  unfold bsB
  rw [hs, e]
  apply ba_ext
  rw [app_list, extract_list, extract_list, show w.size - (w.size - k) = k by omega, List.take_of_length_le (l := w.data.toList) (i := w.size) (by simp), List.drop_zero, List.take_append_drop]
theorem dir_nd (w : ByteArray) (h : ¬ li 47 w < 0) : dirB w ++ ndB w = w ∧ ndB w ≠ w := by
  obtain ⟨c1, c2⟩ := li_b 47 w
  have e1 : (li 47 w + 1).toNat = (li 47 w).toNat + 1 := by omega
  refine ⟨?_, ?_⟩
  · unfold dirB ndB
    rw [if_neg h, e1]
    apply ba_ext
    rw [app_list, extract_list, extract_list, List.take_of_length_le (l := w.data.toList) (i := w.size) (by simp), List.drop_zero, List.take_append_drop]
  · intro e
    have hs : (ndB w).size = w.size - (li 47 w + 1).toNat := by unfold ndB; rw [ByteArray.size_extract]; omega
    rw [e] at hs; omega
theorem nd_none (w : ByteArray) (h : li 47 w < 0) : ndB w = w := by
  obtain ⟨c1, c2⟩ := li_b 47 w
  unfold ndB
  rw [show (li 47 w + 1).toNat = 0 by omega]
  apply ba_ext; rw [extract_list, List.take_of_length_le (by simp)]; rfl
end Go.Proofs.Ytndoloohdloflaa
