/- The plain law of LinesOn: pieces with a backslash at their ends are one line. -/
import Derived.Test.YtndoloohdloflabDoorAlive
namespace Go.Proofs.YtndoloohdloflabDoor
open Go.RowKit

def baseB (rc : Bool) (w : ByteArray) : ByteArray := if rc then ⟨#[9]⟩ ++ w else ⟨#[32, 32]⟩ ++ w ++ ⟨#[32, 9]⟩
def pieceB (rc : Bool) (w : ByteArray) (more : Bool) : ByteArray := if more then baseB rc w ++ ⟨#[92]⟩ else baseB rc w
def wantB (rc : Bool) (w : ByteArray) : Nat → ByteArray
  | 0 => ⟨#[]⟩
  | k + 1 => (if k = 0 then wantB rc w k else wantB rc w k ++ (if rc then ⟨#[92, 10]⟩ else ⟨#[32]⟩)) ++ w
def txtB (rc : Bool) (w : ByteArray) (k : Nat) (more : Bool) : ByteArray :=
  let b := if rc then wantB rc w k else ⟨#[32, 32]⟩ ++ wantB rc w k ++ ⟨#[32, 9]⟩
  if more then b ++ ⟨#[92]⟩ else b
def linesB (rc : Bool) (w : ByteArray) (n k : Nat) : List ByteArray := (List.range k).map fun i => pieceB rc w (decide (i + 1 < n))
structure Good (w : ByteArray) : Prop where
  ne : w.data.toList ≠ []
  bl : ∀ c ∈ w.data.toList, bl c = false
  ns : ∀ c ∈ w.data.toList, c ≠ 92
  nh : ∀ c ∈ w.data.toList, c ≠ 35

theorem app_list (a b : ByteArray) : (a ++ b).data.toList = a.data.toList ++ b.data.toList := by simp [ByteArray.data_append]
theorem trL_word (w r : List UInt8) (h0 : w ≠ []) (h : ∀ c ∈ w, bl c = false) : trL (w ++ r) = w ++ r := by
  cases w with
  | nil => exact absurd rfl h0
  | cons c l => rw [List.cons_append, trL_cons, if_neg (by rw [h c (by simp)]; simp)]
theorem trR_word (r w : List UInt8) (h0 : w ≠ []) (h : ∀ c ∈ w, bl c = false) : trR (r ++ w) = r ++ w := by
  rcases List.eq_nil_or_concat w with rfl | ⟨l, x, rfl⟩
  · exact absurd rfl h0
  · rw [List.concat_eq_append, ← List.append_assoc, trR_snoc, if_neg (by rw [h x (by simp)]; simp)]
theorem good_ends (w : ByteArray) (rc : Bool) (k : Nat) : ∃ l, (wantB rc w (k + 1)).data.toList = l ++ w.data.toList := by
  rw [wantB, app_list]; exact ⟨_, rfl⟩
theorem sl_word (l w : List UInt8) (h0 : w ≠ []) (h : ∀ c ∈ w, c ≠ 92) : sl (l ++ w ++ [92]) = 1 := by
  rw [sl_snoc, if_pos (by rfl)]
  rcases List.eq_nil_or_concat w with rfl | ⟨m, x, rfl⟩
  · exact absurd rfl h0
  · rw [List.concat_eq_append, ← List.append_assoc, sl_snoc, if_neg (by simpa using h x (by simp))]
theorem sl_piece {w : ByteArray} (hw : Good w) (rc : Bool) : sl (pieceB rc w true).data.toList = 1 := by
  unfold pieceB baseB
  cases rc
  · simp only [if_true, app_list, Bool.false_eq_true, if_false]
    exact sl_word ([32, 32] ++ w.data.toList) [32, 9] (by simp) (by decide)
  · simp only [if_true, app_list]
    exact sl_word [9] w.data.toList hw.ne hw.ns
theorem tp_tab {m : ByteArray} {r : List UInt8} (h : m.data.toList = 9 :: r) : (tp m).data.toList = r := by
  unfold tp Lib.trimPrefix Lib.hasPrefix
  rw [h]
  rfl
theorem hp_tab {m : ByteArray} {r : List UInt8} (h : m.data.toList = 9 :: r) : hp m = true := by
  unfold hp Lib.hasPrefix
  rw [h]
  rfl
theorem hp_blank {m : ByteArray} {r : List UInt8} (h : m.data.toList = 32 :: r) : hp m = false := by
  unfold hp Lib.hasPrefix
  rw [h]
  rfl
theorem trR_tail (l w : List UInt8) (h0 : w ≠ []) (h : ∀ c ∈ w, bl c = false) : trR (l ++ w ++ [32, 9]) = l ++ w := by
  rw [show l ++ w ++ [32, 9] = (l ++ w ++ [32]) ++ [9] by simp, trR_snoc, if_pos (by rfl), trR_snoc, if_pos (by rfl), trR_word _ _ h0 h]
theorem trL_head (w r : List UInt8) (h0 : w ≠ []) (h : ∀ c ∈ w, bl c = false) : trL ([32, 32] ++ (w ++ r)) = w ++ r := by
  rw [show [32, 32] ++ (w ++ r) = 32 :: (32 :: (w ++ r)) from rfl, trL_cons, if_pos (by rfl), trL_cons, if_pos (by rfl), trL_word _ _ h0 h]
theorem wantS (rc : Bool) (w : ByteArray) (k : Nat) : wantB rc w (k + 1 + 1) = wantB rc w (k + 1) ++ (if rc then ⟨#[92, 10]⟩ else ⟨#[32]⟩) ++ w := by
  rw [wantB, if_neg (by omega)]
theorem joinT_piece {w : ByteArray} (hw : Good w) (rc : Bool) (k : Nat) (more : Bool) : joinT rc (txtB rc w (k + 1) true) (pieceB rc w more) = txtB rc w (k + 1 + 1) more := by
  cases rc
  · obtain ⟨l, hl⟩ := good_ends w false k
    apply ba_ext
    have e1 : (txtB false w (k + 1) true).data.toList = [32, 32] ++ (wantB false w (k + 1)).data.toList ++ [32, 9] ++ [92] := by
      simp [txtB]
    have e2 : (pieceB false w more).data.toList = [32, 32] ++ (w.data.toList ++ ([32, 9] ++ if more then [92] else [])) := by
      cases more <;> simp [pieceB, baseB]
    have e3 : ((txtB false w (k + 1) true).extract 0 ((txtB false w (k + 1) true).size - 1)).data.toList = [32, 32] ++ (wantB false w (k + 1)).data.toList ++ [32, 9] := by
      have hsz : (txtB false w (k + 1) true).size = ([32, 32] ++ (wantB false w (k + 1)).data.toList ++ [32, 9] ++ [92]).length := by rw [← e1]; simp
      rw [extract_list, e1, hsz, List.drop_zero]
      rw [List.length_append, List.length_singleton, Nat.add_sub_cancel, List.take_left']
      rfl
    have e4 : trR ([32, 32] ++ (wantB false w (k + 1)).data.toList ++ [32, 9]) = [32, 32] ++ (wantB false w (k + 1)).data.toList := by
      rw [hl, ← List.append_assoc, trR_tail _ _ hw.ne hw.bl]
    unfold joinT
    rw [if_neg (by simp), e3, e4, e2, trL_head _ _ hw.ne hw.bl]
    rw [app_list, app_list]
    show ([32, 32] ++ (wantB false w (k + 1)).data.toList) ++ [32] ++ (w.data.toList ++ ([32, 9] ++ if more then [92] else [])) = _
    cases more <;> simp [txtB, wantS]
  · apply ba_ext
    have e2 : (pieceB true w more).data.toList = 9 :: (w.data.toList ++ if more then [92] else []) := by
      cases more <;> simp [pieceB, baseB]
    unfold joinT
    rw [if_pos rfl, app_list, app_list, tp_tab e2]
    cases more <;> simp [txtB, wantS]
theorem goOn_lines {w : ByteArray} (hw : Good w) (rc : Bool) : ∀ (j i k : Nat), goOn rc (pieceB rc w true) (List.replicate j (pieceB rc w true) ++ [pieceB rc w false]) (txtB rc w (i + 1) true) k = (txtB rc w (i + 1 + j + 1) false, k + j + 1) := by
  intro j
  induction j with
  | zero =>
    intro i k
    rw [List.replicate_zero, List.nil_append, goOn, if_pos (by rw [sl_piece hw]), goOn, joinT_piece hw]
  | succ j ih =>
    intro i k
    rw [List.replicate_succ, List.cons_append, goOn, if_pos (by rw [sl_piece hw]), joinT_piece hw, ih]
    congr 2 <;> omega
theorem linesB_all (rc : Bool) (w : ByteArray) (m : Nat) : linesB rc w (m + 1) (m + 1) = List.replicate m (pieceB rc w true) ++ [pieceB rc w false] := by
  unfold linesB
  rw [List.range_succ, List.map_append]
  congr 1
  · rw [List.eq_replicate_iff]
    refine ⟨by simp, fun b hb => ?_⟩
    obtain ⟨i, hi, rfl⟩ := List.mem_map.1 hb
    have : i < m := List.mem_range.1 hi
    rw [decide_eq_true (by omega)]
  · simp
theorem want_in (w : ByteArray) : ∀ k, ∀ c ∈ (wantB false w k).data.toList, c = 32 ∨ c ∈ w.data.toList := by
  intro k
  induction k with
  | zero => intro c hc; simp [wantB] at hc
  | succ k ih =>
    intro c hc
    rw [wantB, app_list] at hc
    rcases List.mem_append.1 hc with h | h
    · split at h
      · exact ih c h
      · rw [app_list] at h
        rcases List.mem_append.1 h with h | h
        · exact ih c h
        · left; simpa using h
    · exact .inr h
theorem drop_all {p : UInt8 → Bool} : ∀ {l : List UInt8}, l.dropWhile p = [] → ∀ x ∈ l, p x = true
  | [], _, x, hx => by cases hx
  | c :: l, h, x, hx => by
    rw [List.dropWhile_cons] at h
    split at h
    · rcases List.mem_cons.1 hx with rfl | hx
      · assumption
      · exact drop_all h x hx
    · cases h
theorem not_isBl {t : ByteArray} {l w r : List UInt8} (h : t.data.toList = l ++ w ++ r) (h0 : w ≠ []) (hb : ∀ c ∈ w, bl c = false) : isBl t = false := by
  cases hx : isBl t with
  | false => rfl
  | true =>
    exfalso
    have h1 : trL (trR t.data.toList) = [] := List.isEmpty_iff.1 hx
    replace h1 := drop_all h1
    cases w with
    | nil => exact h0 rfl
    | cons c w =>
      have hc : bl c = false := hb c (by simp)
      have hin : c ∈ trR t.data.toList := by
        unfold trR
        rw [List.mem_reverse, h]
        have : (l ++ c :: w ++ r).reverse = (w ++ r).reverse ++ c :: l.reverse := by simp
        rw [this, List.dropWhile_append]
        split
        · rw [List.dropWhile_cons, if_neg (by rw [hc]; simp)]; simp
        · simp
      have := h1 c hin
      rw [hc] at this
      cases this
theorem bare_none {t : ByteArray} (h : ∀ c ∈ t.data.toList, c ≠ 35) : bare t = t := by
  have := bareL_plain t.data.toList [] [] [] h
  unfold bare
  rw [List.append_nil] at this
  rw [this]
  rfl
theorem txt_first {w : ByteArray} (rc : Bool) (more : Bool) : (if rc then tp (pieceB rc w more) else pieceB rc w more) = txtB rc w 1 more := by
  cases rc
  · apply ba_ext; cases more <;> simp [txtB, pieceB, baseB, wantB]
  · have e2 : (pieceB true w more).data.toList = 9 :: (w.data.toList ++ if more then [92] else []) := by
      cases more <;> simp [pieceB, baseB]
    rw [if_pos rfl]
    apply ba_ext
    rw [tp_tab e2]
    cases more <;> simp [txtB, wantB]
theorem hp_piece (rc : Bool) (w : ByteArray) (more : Bool) : hp (pieceB rc w more) = rc := by
  cases rc
  · exact hp_blank (r := 32 :: (w.data.toList ++ ([32, 9] ++ if more then [92] else []))) (by cases more <;> simp [pieceB, baseB])
  · exact hp_tab (r := w.data.toList ++ if more then [92] else []) (by cases more <;> simp [pieceB, baseB])
theorem finishOn {w : ByteArray} (hw : Good w) (rc : Bool) (m : Nat) : finish rc 0 (txtB rc w (m + 1) false, m + 1) = ⟨if rc then 1 else 2, 1, txtB rc w (m + 1) false, m + 1⟩ := by
  obtain ⟨l, hl⟩ := good_ends w rc m
  unfold finish
  cases rc
  · have e1 : (txtB false w (m + 1) false).data.toList = ([32, 32] ++ l) ++ w.data.toList ++ [32, 9] := by simp [txtB, hl]
    have hb : bare (txtB false w (m + 1) false) = txtB false w (m + 1) false := bare_none fun c hc => by
      rw [e1, List.append_assoc [32, 32], ← hl] at hc
      rcases List.mem_append.1 hc with h | h
      · rcases List.mem_append.1 h with h | h
        · have : c = 32 := by simpa using h
          subst this; decide
        · rcases want_in w _ c h with rfl | h
          · decide
          · exact hw.nh c h
      · rcases List.mem_cons.1 h with rfl | h
        · decide
        · have : c = 9 := by simpa using h
          subst this; decide
    rw [if_neg (by simp), hb, not_isBl e1 hw.ne hw.bl]
    rfl
  · have e1 : (txtB true w (m + 1) false).data.toList = l ++ w.data.toList ++ [] := by simp [txtB, hl]
    rw [if_pos rfl, not_isBl e1 hw.ne hw.bl, if_neg (by simp)]
    rfl
theorem nextOn {w : ByteArray} (hw : Good w) (rc : Bool) (m : Nat) : nextF (linesB rc w (m + 1) (m + 1)) 0 = ⟨if rc then 1 else 2, 1, txtB rc w (m + 1) false, m + 1⟩ := by
  rw [linesB_all]
  unfold nextF
  rw [List.drop_zero]
  cases m with
  | zero =>
    simp only [List.replicate_zero, List.nil_append, hp_piece, txt_first, goOn]
    exact finishOn hw rc 0
  | succ j =>
    simp only [List.replicate_succ, List.cons_append, hp_piece, txt_first]
    rw [goOn_lines hw rc j 0 (0 + 1), show 0 + 1 + j + 1 = j + 1 + 1 by omega]
    exact finishOn hw rc (j + 1)
end Go.Proofs.YtndoloohdloflabDoor
