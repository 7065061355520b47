/- What Flags tells is parsed as the same options, in plain words; condition: variables that are words of small letters. -/
import Derived.Test.YtmcemaphhlcjfaaDoorOptF
import Derived.Test.YtmcemaphhlcjfaaDoorOptJ
namespace Go.Proofs.YtmcemaphhlcjfaaDoor
open Go.RowKit Go.Maps

theorem getL {s : ByteArray} {i : Nat} {c : UInt8} (h : s.data.toList[i]? = some c) : i < s.size ∧ s.get! i = c := by
  obtain ⟨hi, he⟩ := List.getElem?_eq_some_iff.1 h
  have hi2 : i < s.size := by simpa using hi
  refine ⟨hi2, ?_⟩
  rw [← bget s i hi2, ← he, Array.getElem_toList]; rfl
theorem scan_to (s t : ByteArray) (q : Nat) (hq : q < s.size) (hm : ∀ i, i < q → s.get! i ≠ 36 ∧ ¬ 0 ≤ Lib.indexByte t.data.toList (s.get! i)) (h2 : s.get! q ≠ 36) (h3 : 0 ≤ Lib.indexByte t.data.toList (s.get! q)) : ∀ f i, i ≤ q → q < f + i → scanF s t f i = q := by
  intro f
  induction f with
  | zero => intro i h1 h2; omega
  | succ f ih =>
    intro i hi hf
    rw [scanF, if_pos (by omega)]
    by_cases e : i = q
    · subst e
      rw [if_neg h2, if_pos h3]
    · have := hm i (by omega)
      rw [if_neg this.1, if_neg this.2]
      exact ih (i + 1) (by omega) (by omega)
/-- a word that sets a variable of small letters -/
def VW (w : ByteArray) : Prop := ∃ nm : List UInt8, (∀ c ∈ nm, 97 ≤ c.toNat ∧ c.toNat ≤ 122) ∧ w.data.toList = 118 :: (nm ++ 61 :: nm)
theorem small_ne {c : UInt8} (h : 97 ≤ c.toNat ∧ c.toNat ≤ 122) (d : UInt8) (hd : d.toNat < 97) : c ≠ d := by
  rintro rfl; omega
theorem VW.take {w : ByteArray} (h : VW w) : (takeP w).k = 1 := by
  obtain ⟨nm, hs, hw⟩ := h
  have hq : w.data.toList[nm.length + 1]? = some 61 := by rw [hw]; simp
  have hm : ∀ i, i < nm.length + 1 → ∃ c, w.get! i = c ∧ 97 ≤ c.toNat ∧ c.toNat ≤ 122 := by
    intro i hi
    cases i with
    | zero => exact ⟨118, (getL (by rw [hw]; rfl)).2, by decide⟩
    | succ i =>
      have hi2 : i < nm.length := by omega
      have : w.data.toList[i + 1]? = some nm[i] := by rw [hw, List.getElem?_cons_succ, List.getElem?_append_left hi2, List.getElem?_eq_getElem hi2]
      exact ⟨_, (getL this).2, hs _ (List.getElem_mem hi2)⟩
  obtain ⟨hl, hg⟩ := getL hq
  have hsc : scanI w bEC = ((nm.length + 1 : Nat) : Int) := by
    refine scan_to w bEC _ hl (fun i hi => ?_) (by rw [hg]; decide) (by rw [hg]; exact (ib_ec _).2 (.inl rfl)) _ 0 (Nat.zero_le _) (by omega)
    obtain ⟨c, hc, hc2⟩ := hm i hi
    rw [hc, ib_ec]
    exact ⟨small_ne hc2 36 (by decide), fun h => h.elim (small_ne hc2 61 (by decide)) (small_ne hc2 58 (by decide))⟩
  unfold takeP
  rw [hsc, if_neg (by omega), Int.toNat_natCast, if_pos (by unfold setsB; rw [hg]; rfl)]
  exact asgAt_k _ _
theorem VW.head {w : ByteArray} (h : VW w) : ∃ tl, w.data.toList = 118 :: tl := by obtain ⟨nm, _, hw⟩ := h; exact ⟨_, hw⟩
theorem VW.plain {w : ByteArray} (h : VW w) : w.data.toList ≠ [] ∧ ∀ c ∈ w.data.toList, isB c = false := by
  obtain ⟨nm, hs, hw⟩ := h
  refine ⟨by rw [hw]; simp, fun c hc => ?_⟩
  rw [hw] at hc
  have h2 : ∀ c ∈ nm, isB c = false := fun c hc => by
    have := hs c hc
    unfold isB
    rw [beq_eq_false_iff_ne.2 (small_ne this 32 (by decide)), beq_eq_false_iff_ne.2 (small_ne this 9 (by decide)), beq_eq_false_iff_ne.2 (small_ne this 10 (by decide))]; rfl
  rcases List.mem_cons.1 hc with rfl | hc
  · rfl
  rcases List.mem_append.1 hc with hc | hc
  · exact h2 c hc
  rcases List.mem_cons.1 hc with rfl | hc
  · rfl
  · exact h2 c hc
theorem VW.step {w : ByteArray} (h : VW w) (own : Bool) (l : List ByteArray) (p : Nat) (x : Opx) : wstep own true l w p x = some (true, { x with vs := x.vs ++ [w] }, p) := by
  obtain ⟨tl, ht⟩ := h.head
  unfold wstep
  rw [if_neg (by rw [ht]; intro h; rcases h with h | h <;> cases h), if_neg (fun h => Bool.noConfusion h.1), if_neg (fun h => Bool.noConfusion h.1), if_neg (fun h => Bool.noConfusion h.1), if_pos h.take]
theorem words_var (l : List ByteArray) : ∀ (f p : Nat) (x : Opx), l.length < f + p → (∀ w ∈ l.drop p, VW w) → wordsF false l f p true x = some { x with vs := x.vs ++ l.drop p } := by
  intro f
  induction f with
  | zero =>
    intro p x h _
    rw [List.drop_eq_nil_of_le (by omega), List.append_nil]
    rfl
  | succ f ih =>
    intro p x h hv
    cases hlp : l[p]? with
    | none =>
      have : l.length ≤ p := by
        rcases Nat.lt_or_ge p l.length with q | q
        · rw [List.getElem?_eq_getElem q] at hlp; cases hlp
        · exact q
      rw [wordsF_none hlp, List.drop_eq_nil_of_le this, List.append_nil]
    | some w =>
      obtain ⟨hp, he⟩ := List.getElem?_eq_some_iff.1 hlp
      have hd : l.drop p = w :: l.drop (p + 1) := by rw [List.drop_eq_getElem_cons hp, he]
      rw [hd] at hv
      rw [wordsF_some hlp, (hv w (List.mem_cons_self ..)).step]
      show wordsF false l f (p + 1) true _ = _
      rw [ih (p + 1) _ (by omega) (fun v h => hv v (List.mem_cons_of_mem _ h)), hd]
      simp
theorem l9_all : ∀ c ∈ L9, plN c ≠ 0 ∧ c ≠ 106 ∧ c ≠ 102 ∧ c ≠ 45 ∧ c ≠ 61 ∧ isB c = false := by decide
theorem letF_l9 (W : ByteArray) (l : List ByteArray) : ∀ (f i p : Nat) (x : Opx), W.size < f + i → (∀ c ∈ W.data.toList.drop i, c ∈ L9) →
    ∃ b', letF W l f i p x = some ({ x with bs := b' }, p) ∧ ∀ n, b' n = true ↔ (x.bs n = true ∨ ∃ c ∈ W.data.toList.drop i, plN c = n) := by
  intro f
  induction f with
  | zero =>
    intro i p x h _
    refine ⟨x.bs, rfl, fun n => ?_⟩
    rw [List.drop_eq_nil_of_le (by simp; omega)]
    simp
  | succ f ih =>
    intro i p x h hl
    by_cases hi : i < W.size
    · have hi2 : i < W.data.toList.length := by simpa using hi
      have hd : W.data.toList.drop i = W.data.toList[i] :: W.data.toList.drop (i + 1) := List.drop_eq_getElem_cons hi2
      have hg : W.get! i = W.data.toList[i] := (getL (List.getElem?_eq_getElem hi2)).2
      rw [hd, ← hg] at hl
      have hc := l9_all _ (hl _ (List.mem_cons_self ..))
      obtain ⟨b', h1, h2⟩ := ih (i + 1) p { x with bs := upd x.bs (plN (W.get! i)) } (by omega) (fun c h => hl c (List.mem_cons_of_mem _ h))
      refine ⟨b', ?_, fun n => ?_⟩
      · rw [letF, if_pos hi, if_neg (fun h => h.elim hc.2.1 hc.2.2.1), if_pos hc.1, h1]
      · rw [h2 n, hd, ← hg]
        show (upd x.bs (plN (W.get! i)) n = true ∨ _) ↔ _
        unfold upd
        simp only [Bool.or_eq_true, beq_iff_eq, List.mem_cons, exists_eq_or_imp]
        constructor
        · rintro ((h | h) | h)
          · exact .inr (.inl h.symm)
          · exact .inl h
          · exact .inr (.inr h)
        · rintro (h | h | h)
          · exact .inl (.inr h)
          · exact .inl (.inl h.symm)
          · exact .inr h
    · refine ⟨x.bs, by rw [letF, if_neg hi], fun n => ?_⟩
      rw [List.drop_eq_nil_of_le (by simp; omega)]
      simp
theorem ltr_sub (bs : Nat → Bool) : ∀ c ∈ ltr bs 9, c ∈ L9 := fun c h => List.mem_of_mem_take (List.mem_filter.1 h).1
theorem ltr_bs (bs : Nat → Bool) (n : Nat) (h1 : 1 ≤ n) (h9 : n ≤ 9) : (∃ c ∈ ltr bs 9, plN c = n) ↔ bs n = true := by
  constructor
  · rintro ⟨c, hc, rfl⟩
    exact (List.mem_filter.1 hc).2
  · intro h
    have hx : ∃ c ∈ L9, plN c = n := by
      have : n = 1 ∨ n = 2 ∨ n = 3 ∨ n = 4 ∨ n = 5 ∨ n = 6 ∨ n = 7 ∨ n = 8 ∨ n = 9 := by omega
      rcases this with rfl | rfl | rfl | rfl | rfl | rfl | rfl | rfl | rfl <;> decide
    obtain ⟨c, hc, rfl⟩ := hx
    exact ⟨c, List.mem_filter.2 ⟨by rw [List.take_of_length_le (by simp [L9])]; exact hc, h⟩, rfl⟩
theorem restJ_start : ∀ l : List ByteArray, restJ false l = [] ∨ ∃ c b', restJ false l = c :: b' ∧ isB c = true
  | [] => .inl rfl
  | x :: l => .inr ⟨32, x.data.toList ++ restJ false l, by simp [restJ], rfl⟩
theorem fields_rest : ∀ l : List ByteArray, (∀ w ∈ l, w.data.toList ≠ [] ∧ ∀ c ∈ w.data.toList, isB c = false) → fieldsL (restJ false l) = l.map (·.data.toList)
  | [], _ => rfl
  | x :: l, h => by
    have hx := h x (List.mem_cons_self ..)
    have e : restJ false (x :: l) = 32 :: (x.data.toList ++ restJ false l) := by simp [restJ]
    rw [e, fields_blank 32 _ rfl, fields_word _ _ hx.1 hx.2 (restJ_start l), fields_rest l (fun w hw => h w (List.mem_cons_of_mem _ hw))]
    rfl
theorem fields_join (l : List ByteArray) (h : ∀ w ∈ l, w.data.toList ≠ [] ∧ ∀ c ∈ w.data.toList, isB c = false) : fieldsL (restJ true l) = l.map (·.data.toList) := by
  cases l with
  | nil => rfl
  | cons x l =>
    have hx := h x (List.mem_cons_self ..)
    have e : restJ true (x :: l) = x.data.toList ++ restJ false l := by simp [restJ]
    rw [e, fields_word _ _ hx.1 hx.2 (restJ_start l), fields_rest l (fun w hw => h w (List.mem_cons_of_mem _ hw))]
    rfl
theorem map_mk (l : List ByteArray) : (l.map (·.data.toList)).map mk = l := by
  rw [List.map_map]
  exact List.map_id'' (fun x => ba_ext (by simp [mk])) l
def dd : ByteArray := ⟨#[45, 45]⟩
def preW (bs : Nat → Bool) : List ByteArray := if ltr bs 9 = [] then [] else [mk (ltr bs 9)]
def sufW (vs : List ByteArray) : List ByteArray := if vs.length = 0 then [] else dd :: vs
theorem fields_dd (vs : List ByteArray) (hv : ∀ v ∈ vs, VW v) : fieldsL ([45, 45, 32] ++ restJ true vs) = [45, 45] :: vs.map (·.data.toList) := by
  have e : [45, 45, 32] ++ restJ true vs = [45, 45] ++ (32 :: restJ true vs) := rfl
  rw [e, fields_word [45, 45] _ (by simp) (by decide) (.inr ⟨32, _, rfl, rfl⟩), fields_blank 32 _ rfl, fields_join vs (fun v h => (hv v h).plain)]
theorem words_flags (bs : Nat → Bool) (vs : List ByteArray) (hv : ∀ v ∈ vs, VW v) : wordsB (mk (flagsL bs vs)) = preW bs ++ sufW vs := by
  have hm : (mk (flagsL bs vs)).data.toList = flagsL bs vs := by simp [mk]
  have hj : (joinB vs).data.toList = restJ true vs := by unfold joinB; rw [← restJ_join]; simp [mk]
  have hb : ∀ c ∈ ltr bs 9, isB c = false := fun c h => (l9_all c (ltr_sub bs c h)).2.2.2.2.2
  unfold wordsB preW sufW
  rw [hm]
  unfold flagsL
  rw [hj]
  by_cases h0 : vs.length = 0
  · rw [if_pos h0, if_pos h0, List.append_nil]
    by_cases hl : ltr bs 9 = []
    · rw [hl]; rfl
    · rw [if_neg hl, ← List.append_nil (ltr bs 9), fields_word _ _ hl hb (.inl rfl), List.append_nil]; rfl
  · rw [if_neg h0, if_neg h0]
    by_cases hl : ltr bs 9 = []
    · rw [if_pos hl, if_pos hl, List.nil_append, fields_dd vs hv, List.map_cons, map_mk]; rfl
    · rw [if_neg hl, if_neg hl]
      have e : ltr bs 9 ++ [32] ++ [45, 45, 32] ++ restJ true vs = ltr bs 9 ++ (32 :: ([45, 45, 32] ++ restJ true vs)) := by simp
      rw [e, fields_word _ _ hl hb (.inr ⟨32, _, rfl, rfl⟩), fields_blank 32 _ rfl, fields_dd vs hv, List.map_cons, List.map_cons, map_mk]; rfl
theorem ib_ge (l : List UInt8) (c : UInt8) : -1 ≤ Lib.indexByte l c := by
  induction l with
  | nil => exact Int.le_refl _
  | cons a l ih =>
    rw [Lib.indexByte]
    split
    · decide
    · split <;> omega
theorem ib_no (l : List UInt8) (c : UInt8) (h : c ∉ l) : ¬ 0 ≤ Lib.indexByte l c := by
  induction l with
  | nil => simp [Lib.indexByte]
  | cons a l ih =>
    have h1 : (a == c) = false := beq_eq_false_iff_ne.2 fun e => h (by rw [e]; exact List.mem_cons_self ..)
    have h2 := ih (fun e => h (List.mem_cons_of_mem _ e))
    rw [Lib.indexByte, h1, if_neg (by decide)]
    by_cases h3 : (Lib.indexByte l c == -1) = true
    · rw [if_pos h3]; decide
    · rw [if_neg h3]; have : Lib.indexByte l c ≠ -1 := fun e => h3 (by rw [e]; rfl)
      have := ib_ge l c
      omega
theorem fix_suf (vs : List ByteArray) : fixL (sufW vs) = sufW vs := by
  unfold sufW
  split
  · rfl
  · show dashB dd :: vs = dd :: vs
    rw [show dashB dd = dd from by unfold dashB; rw [if_neg (by intro h; exact h.1 (by decide))]]
theorem dash_l9 (bs : Nat → Bool) (h : ltr bs 9 ≠ []) : (dashB (mk (ltr bs 9))).data.toList = 45 :: ltr bs 9 := by
  have hm : (mk (ltr bs 9)).data.toList = ltr bs 9 := by simp [mk]
  obtain ⟨c, tl, hc⟩ : ∃ c tl, ltr bs 9 = c :: tl := by
    cases hq : ltr bs 9 with
    | nil => exact absurd hq h
    | cons c tl => exact ⟨c, tl, rfl⟩
  have hg := (getL (s := mk (ltr bs 9)) (i := 0) (c := c) (by rw [hm, hc]; rfl)).2
  have hcl := l9_all c (ltr_sub bs c (by rw [hc]; exact List.mem_cons_self ..))
  unfold dashB
  rw [if_pos ⟨by rw [hg]; exact hcl.2.2.2.1, by rw [hm]; exact ib_no _ _ (fun e => (l9_all _ (ltr_sub bs _ e)).2.2.2.2.1 rfl)⟩]
  simp [mk]
/-- what Flags tells is parsed as the same options -/
theorem parse_back (bs : Nat → Bool) (vs : List ByteArray) (hv : ∀ v ∈ vs, VW v) :
    ∃ x, parseF [] (mk (flagsL bs vs)) = some x ∧ x.j = 1 ∧ (∀ n, 1 ≤ n → n ≤ 9 → x.bs n = bs n) ∧ x.nv = false ∧ x.fs = [] ∧ x.gs = [] ∧ x.vs = vs := by
  have hfin : ∀ l b', wordsF false (fixL (wordsB (mk (flagsL bs vs)))) ((fixL (wordsB (mk (flagsL bs vs)))).length + 1) 0 false x0 = some { x0 with bs := b', vs := l } → parseF [] (mk (flagsL bs vs)) = some { x0 with bs := b', vs := l } := by
    intro l b' h
    unfold parseF
    rw [h]
    exact wordsF_none rfl
  rw [words_flags bs vs hv] at hfin
  have suf : ∀ (L : List ByteArray) (f p : Nat) (b' : Nat → Bool), L.drop p = sufW vs → L.length < f + p → wordsF false L f p false { x0 with bs := b' } = some { x0 with bs := b', vs := vs } := by
    intro L f p b' hd hf
    by_cases h0 : vs.length = 0
    · have hvs : vs = [] := List.eq_nil_of_length_eq_zero h0
      subst hvs
      cases f with
      | zero => rfl
      | succ f =>
        rw [wordsF_none]
        · rfl
        · have hl := congrArg List.length hd
          rw [List.length_drop] at hl
          have : (sufW []).length = 0 := rfl
          rw [List.getElem?_eq_none (by omega)]
    · have hs : sufW vs = dd :: vs := by unfold sufW; rw [if_neg h0]
      rw [hs] at hd
      obtain ⟨f, rfl⟩ : ∃ g, f = g + 1 := by
        have hl := congrArg List.length hd
        rw [List.length_drop, List.length_cons] at hl
        exact ⟨f - 1, by omega⟩
      have hlp : L[p]? = some dd := by
        have := congrArg (fun l => l[0]?) hd
        simpa using this
      have hd2 : L.drop (p + 1) = vs := by
        have := congrArg (List.drop 1) hd
        rw [List.drop_drop] at this
        simpa using this
      have hst : wstep false false L dd (p + 1) { x0 with bs := b' } = some (true, { x0 with bs := b' }, p + 1) := by
        unfold wstep
        rw [if_neg (by intro h; rcases h with h | h <;> revert h <;> decide), if_pos ⟨rfl, by decide⟩]
      rw [wordsF_some hlp, hst]
      show wordsF false L f (p + 1) true _ = _
      rw [words_var L f (p + 1) _ (by omega) (by rw [hd2]; exact hv), hd2]
      rfl
  by_cases hl : ltr bs 9 = []
  · have hp : preW bs = [] := by unfold preW; rw [if_pos hl]
    rw [hp, List.nil_append, fix_suf] at hfin
    refine ⟨_, hfin vs (fun _ => false) (suf _ _ 0 _ rfl (by omega)), rfl, fun n h1 h9 => ?_, rfl, rfl, rfl, rfl⟩
    have := ltr_bs bs n h1 h9
    rw [hl] at this
    show false = bs n
    cases hb : bs n with
    | false => rfl
    | true => obtain ⟨c, hc, _⟩ := this.2 hb; cases hc
  · have hp : preW bs = [mk (ltr bs 9)] := by unfold preW; rw [if_neg hl]
    rw [hp] at hfin
    have hfx : fixL ([mk (ltr bs 9)] ++ sufW vs) = dashB (mk (ltr bs 9)) :: sufW vs := rfl
    rw [hfx] at hfin
    have hW := dash_l9 bs hl
    obtain ⟨W, hWW⟩ : ∃ W, dashB (mk (ltr bs 9)) = W := ⟨_, rfl⟩
    rw [hWW] at hW hfin
    obtain ⟨b', hb1, hb2⟩ := letF_l9 W (W :: sufW vs) (W.size + 1) 1 1 x0 (by omega) (by rw [hW]; exact ltr_sub bs)
    refine ⟨_, hfin vs b' ?_, rfl, fun n h1 h9 => ?_, rfl, rfl, rfl, rfl⟩
    · rw [List.length_cons, wordsF_some (w := W) rfl]
      have hst : wstep false false (W :: sufW vs) W (0 + 1) x0 = some (false, { x0 with bs := b' }, 1) := by
        obtain ⟨c, tl, hc⟩ : ∃ c tl, ltr bs 9 = c :: tl := by
          cases hq : ltr bs 9 with
          | nil => exact absurd hq hl
          | cons c tl => exact ⟨c, tl, rfl⟩
        have hcl := l9_all c (ltr_sub bs c (by rw [hc]; exact List.mem_cons_self ..))
        unfold wstep
        rw [if_neg (by rw [hW, hc]; intro h; rcases h with h | h <;> simp at h), if_neg (by rw [hW, hc]; intro h; have := h.2; simp at this; exact hcl.2.2.2.1 this.1),
          if_neg (by rw [hW, hc]; intro h; have := h.2; simp [Lib.hasPrefix, List.isPrefixOf] at this; exact hcl.2.2.2.1 this.symm), if_pos ⟨rfl, (getL (by rw [hW]; rfl)).2⟩, hb1]
        rfl
      rw [hst]
      exact suf _ _ 1 b' rfl (by simp)
    · have h2 := hb2 n
      rw [hW] at h2
      have h3 := ltr_bs bs n h1 h9
      show b' n = bs n
      have h4 : (b' n = true) ↔ (bs n = true) := by
        rw [h2]
        show (false = true ∨ ∃ c ∈ List.drop 1 (45 :: ltr bs 9), plN c = n) ↔ _
        rw [List.drop_one, List.tail_cons, h3]; simp
      cases hb : b' n <;> cases hc : bs n <;> simp_all
end Go.Proofs.YtmcemaphhlcjfaaDoor
