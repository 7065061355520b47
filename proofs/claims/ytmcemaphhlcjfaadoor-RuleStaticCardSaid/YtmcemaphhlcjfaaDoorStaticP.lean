/- The rules that a static pattern's targets make, and those that a pattern among targets makes, in plain words; no condition. -/
import Derived.Test.YtmcemaphhlcjfaaDoorMake
namespace Go.Proofs.YtmcemaphhlcjfaaDoor
open Go.RowKit

/-- a target of the law: x, a stem, .o -/
def tgt (s : ByteArray) : List UInt8 := 120 :: (s.data.toList ++ [46, 111])
def leftL : List ByteArray → List UInt8
  | [] => []
  | s :: l => 32 :: (tgt s ++ leftL l)
def Low (s : ByteArray) : Prop := ∀ c ∈ s.data.toList, 97 ≤ c.toNat ∧ c.toNat ≤ 122
def WTail (t : List UInt8) : Prop := t = [] ∨ ∃ c t', t = c :: t' ∧ isB c = true
theorem low_ne {s : ByteArray} (h : Low s) {c d : UInt8} (hc : c ∈ s.data.toList) (hd : d.toNat < 97) : c ≠ d := by
  intro e; subst e; have := h c hc; omega
theorem tgt_ne {s : ByteArray} (h : Low s) {c d : UInt8} (hc : c ∈ tgt s) (h1 : d ≠ 120) (h2 : d ≠ 46) (h3 : d ≠ 111) (hd : d.toNat < 97) : c ≠ d := by
  unfold tgt at hc
  rcases List.mem_cons.1 hc with rfl | hc
  · exact Ne.symm h1
  · rcases List.mem_append.1 hc with hc | hc
    · exact low_ne h hc hd
    · have : c = 46 ∨ c = 111 := by simpa using hc
      rcases this with rfl | rfl
      · exact Ne.symm h2
      · exact Ne.symm h3
theorem tgt_blank {s : ByteArray} (h : Low s) (c : UInt8) (hc : c ∈ tgt s) : isB c = false := by
  have h1 := tgt_ne h hc (d := 32) (by decide) (by decide) (by decide) (by decide)
  have h2 := tgt_ne h hc (d := 9) (by decide) (by decide) (by decide) (by decide)
  have h3 := tgt_ne h hc (d := 10) (by decide) (by decide) (by decide) (by decide)
  simp [isB, h1, h2, h3]
theorem left_tail (l : List ByteArray) (t : List UInt8) (ht : WTail t) : WTail (leftL l ++ t) := by
  cases l with
  | nil => exact ht
  | cons s l => exact .inr ⟨32, _, rfl, rfl⟩
theorem left_fields : ∀ (l : List ByteArray) (t : List UInt8), (∀ s ∈ l, Low s) → WTail t → fieldsL (leftL l ++ t) = l.map tgt ++ fieldsL t
  | [], t, _, _ => rfl
  | s :: l, t, h, ht => by
    have e : leftL (s :: l) ++ t = 32 :: (tgt s ++ (leftL l ++ t)) := by simp [leftL]
    rw [e, fields_blank 32 _ rfl, fields_word (tgt s) _ (by simp [tgt]) (tgt_blank (h s (by simp))) (left_tail l t ht), left_fields l t (fun s hs => h s (by simp [hs])) ht]
    rfl
theorem ib_none : ∀ (l : List UInt8) (d : UInt8), (∀ c ∈ l, c ≠ d) → Lib.indexByte l d = -1
  | [], d, _ => rfl
  | c :: l, d, h => by
    have ih := ib_none l d fun x hx => h x (by simp [hx])
    have hc := h c (by simp)
    simp only [Lib.indexByte]
    rw [ih]
    simp [hc]
theorem grp_plain (xs : List ByteArray) (h : ∀ x ∈ xs, k40 x < 1) : groupB xs = xs := by
  have key : ∀ (f i : Nat), xs.length < f + i → grpF xs f i = xs.drop i := by
    intro f
    induction f with
    | zero => intro i hi; rw [grpF, List.drop_eq_nil_of_le (by omega)]
    | succ f ih =>
      intro i hi
      rw [grpF]
      by_cases hl : i < xs.length
      · have hx : xAt xs i = xs[i] := xAt_some (List.getElem?_eq_getElem hl)
        rw [if_pos hl, if_pos (.inl (by rw [hx]; exact h _ (List.getElem_mem hl))), ih (i + 1) (by omega), hx]
        exact (List.drop_eq_getElem_cons hl).symm
      · rw [if_neg hl, List.drop_eq_nil_of_le (by omega)]
  exact key (xs.length + 1) 0 (by omega)
theorem name_plain (l : List UInt8) (h : Lib.hasPrefix l [46, 47] = false) (h0 : l ≠ []) : nameB (mk l) = mk l := by
  have e : nmF (mk l).size (mk l).data.toList = l := by
    show nmF l.length l = l
    cases l with
    | nil => exact absurd rfl h0
    | cons c l =>
      show nmF (l.length + 1) (c :: l) = _
      rw [nmF, h]; rfl
  unfold nameB
  rw [e, if_neg h0]
/-- words that are names as they stand -/
def Plain (l : List UInt8) : Prop := Lib.hasPrefix l [46, 47] = false ∧ l ≠ [] ∧ Lib.indexByte l 40 < 1
theorem names_plain (ws : List (List UInt8)) (s : ByteArray) (hs : fieldsL s.data.toList = ws) (h : ∀ w ∈ ws, Plain w) : namesB s = ws.map mk := by
  unfold namesB
  have hw : wordsB s = ws.map mk := by unfold wordsB; rw [hs]
  rw [hw, grp_plain _ (fun x hx => by
    obtain ⟨y, hy, rfl⟩ := List.mem_map.1 hx
    exact (h y hy).2.2)]
  rw [List.map_map]
  refine List.map_congr_left fun y hy => ?_
  exact name_plain y (h y hy).1 (h y hy).2.1
theorem tgt_plain {s : ByteArray} (h : Low s) : Plain (tgt s) := by
  refine ⟨?_, by simp [tgt], ?_⟩
  · unfold tgt; simp [Lib.hasPrefix, List.isPrefixOf]
  · have := ib_none (tgt s) 40 fun c hc => tgt_ne h hc (by decide) (by decide) (by decide) (by decide)
    omega
def yo : List UInt8 := [121, 46, 111]
def po : List UInt8 := [37, 46, 111]
theorem yo_plain : Plain yo := by refine ⟨?_, ?_, ?_⟩ <;> decide
theorem po_plain : Plain po := by refine ⟨?_, ?_, ?_⟩ <;> decide
/-- the left side that the law builds -/
def tailL (o : Bool) : List UInt8 := if o then 32 :: yo else []
theorem tail_t (o : Bool) (t : List UInt8) (ht : WTail t) : WTail (tailL o ++ t) := by
  cases o
  · exact ht
  · exact .inr ⟨32, _, rfl, rfl⟩
theorem left_names (l : List ByteArray) (o : Bool) (t : List UInt8) (ws : List (List UInt8)) (h : ∀ s ∈ l, Low s) (ht : WTail t) (hf : fieldsL t = ws) (hw : ∀ w ∈ ws, Plain w) :
    namesB (mk (leftL l ++ (tailL o ++ t))) = (l.map tgt ++ ((if o then [yo] else []) ++ ws)).map mk := by
  refine names_plain _ _ ?_ ?_
  · show fieldsL (leftL l ++ (tailL o ++ t)) = _
    rw [left_fields l _ h (tail_t o t ht)]
    congr 1
    cases o
    · exact hf
    · show fieldsL (32 :: (yo ++ t)) = [yo] ++ ws
      rw [fields_blank 32 _ rfl, fields_word yo t (by decide) (by decide) ht, hf]; rfl
  · intro w hw2
    rcases List.mem_append.1 hw2 with h1 | h1
    · obtain ⟨s, hs, rfl⟩ := List.mem_map.1 h1
      exact tgt_plain (h s hs)
    · rcases List.mem_append.1 h1 with h1 | h1
      · cases o
        · cases h1
        · have : w = yo := by simpa using h1
          rw [this]; exact yo_plain
      · exact hw w h1
theorem popen_none (l : List UInt8) (h : ∀ c ∈ l, c ≠ 37) : popen (mk l) = false := by
  unfold popen pk
  show (!decide (Lib.indexByte l 37 < 0)) = false
  rw [ib_none l 37 h]; rfl
theorem tgt_popen {s : ByteArray} (h : Low s) : popen (mk (tgt s)) = false :=
  popen_none _ fun c hc => tgt_ne h hc (by decide) (by decide) (by decide) (by decide)

def rsA : ByteArray := ⟨#[120, 37, 46, 111, 58, 32, 37, 46, 99, 32, 37, 46, 104, 32, 124, 32, 100, 47, 37]⟩
def rsP : ByteArray := ⟨#[120, 37, 46, 111]⟩
def rsB : ByteArray := ⟨#[97]⟩
def rsL : ByteArray := ⟨#[37, 46, 111, 32, 37, 46, 112]⟩
def rsC : ByteArray := ⟨#[97, 37]⟩
theorem rsA_colon : colonB rsA = 4 := by kernel_rfl
theorem rsA_ext : rsA.extract 0 4 = rsP := by kernel_rfl
theorem rsP_names : namesB rsP = [rsP] := by kernel_rfl
theorem rsP_open : popen rsP = true := by kernel_rfl
theorem rsP_head : phead rsP = ⟨#[120]⟩ := by kernel_rfl
theorem rsP_tail : ptail rsP = ⟨#[46, 111]⟩ := by kernel_rfl
theorem rsA_P : (halvesL (namesB (rsA.extract 5 rsA.size))).1.length = 2 := by kernel_rfl
theorem rsA_O : (halvesL (namesB (rsA.extract 5 rsA.size))).2.length = 1 := by kernel_rfl
theorem rsB_colon : colonB rsB = -1 := by kernel_rfl
theorem tgt_mok (s : ByteArray) : Mok rsP (mk (tgt s)) = true := by
  unfold Mok
  rw [rsP_head, rsP_tail, rsP_open]
  unfold mok
  rw [if_pos rfl]
  have h1 : (mk (tgt s)).size = s.data.toList.length + 3 := by rw [mk_size]; simp [tgt]
  have h2 : Lib.hasPrefix (mk (tgt s)).data.toList [120] = true := by
    show Lib.hasPrefix (120 :: (s.data.toList ++ [46, 111])) [120] = true
    simp [Lib.hasPrefix, List.isPrefixOf]
  have h3 : Lib.hasSuffix (mk (tgt s)).data.toList [46, 111] = true := by
    show List.isSuffixOf [46, 111] (120 :: (s.data.toList ++ [46, 111])) = true
    rw [List.isSuffixOf_iff_suffix]
    exact ⟨120 :: s.data.toList, by simp⟩
  rw [h1]
  show (!decide (s.data.toList.length + 3 < 1 + 2) && (Lib.hasPrefix (mk (tgt s)).data.toList [120] && Lib.hasSuffix (mk (tgt s)).data.toList [46, 111])) = true
  rw [h2, h3]
  simp
theorem bad_good (l : List ByteArray) (r : List ByteArray) (h : ∀ s ∈ l, Low s) : badT rsP ((l.map tgt).map mk ++ r) = badT rsP r := by
  induction l with
  | nil => rfl
  | cons s l ih =>
    show badT rsP (mk (tgt s) :: ((l.map tgt).map mk ++ r)) = _
    rw [badT, tgt_mok, tgt_popen (h s (by simp))]
    exact ih fun s hs => h s (by simp [hs])
theorem stat_ok (l : List ByteArray) (h : ∀ s ∈ l, Low s) : statN rsP ((l.map tgt).map mk) = 0 := by
  unfold statN
  rw [rsP_names]
  have e : xAt [rsP] 0 = rsP := rfl
  rw [e, rsP_open, if_neg (by simp)]
  have := bad_good l [] h
  rw [List.append_nil] at this
  rw [this]; rfl
theorem stat_bad (l : List ByteArray) (h : ∀ s ∈ l, Low s) : statN rsP ((l.map tgt).map mk ++ [mk yo]) = 55 := by
  unfold statN
  rw [rsP_names]
  have e : xAt [rsP] 0 = rsP := rfl
  rw [e, rsP_open, if_neg (by simp), bad_good l _ h]
  have : badT rsP [mk yo] = some (mk yo) := by kernel_rfl
  rw [this]
/-- the first rule -/
theorem make_first (l : List ByteArray) (h : ∀ s ∈ l, Low s) (hl : l ≠ []) : ∃ T P O L, makeP (mk (leftL l ++ tailL false)) rsA false = ⟨T, P, O, L, false, false, false, rsP, 0⟩ ∧ L.length = l.length ∧ P.length = 2 ∧ O.length = 1 := by
  have hn := left_names l false [] [] h (.inl rfl) rfl (fun w hw => by cases hw)
  have e0 : leftL l ++ (tailL false ++ []) = leftL l ++ tailL false := by rw [List.append_nil]
  rw [e0] at hn
  have hn2 : namesB (mk (leftL l ++ tailL false)) = (l.map tgt).map mk := by rw [hn]; simp
  have hlen : ((l.map tgt).map mk).length ≠ 0 := by
    rw [List.length_map, List.length_map]; exact fun h => hl (List.eq_nil_of_length_eq_zero h)
  have hst : statS rsP = rsP := by
    unfold statS; rw [rsP_names, if_neg (by rw [show xAt [rsP] 0 = rsP from rfl, rsP_open]; simp)]; rfl
  refine ⟨(l.map tgt).map mk, (halvesL (namesB (rsA.extract 5 rsA.size))).1, (halvesL (namesB (rsA.extract 5 rsA.size))).2, (l.map tgt).map mk, ?_, by simp, rsA_P, rsA_O⟩
  unfold makeP
  rw [hn2, if_neg hlen, rsA_colon, if_pos (by decide), show (4 : Int).toNat = 4 from rfl, rsA_ext, stat_ok l h, if_neg (by decide), hst]
theorem make_other (l : List ByteArray) (h : ∀ s ∈ l, Low s) : makeP (mk (leftL l ++ tailL true)) rsA false = errP 55 := by
  have hn := left_names l true [] [] h (.inl rfl) rfl (fun w hw => by cases hw)
  have e0 : leftL l ++ (tailL true ++ []) = leftL l ++ tailL true := by rw [List.append_nil]
  rw [e0] at hn
  have hn2 : namesB (mk (leftL l ++ tailL true)) = (l.map tgt).map mk ++ [mk yo] := by rw [hn]; simp
  unfold makeP
  rw [hn2, if_neg (by simp), rsA_colon, if_pos (by decide), show (4 : Int).toNat = 4 from rfl, rsA_ext, stat_bad l h, if_pos (by decide)]
theorem cnt_none (xs : List ByteArray) (h : ∀ x ∈ xs, popen x = false) : cntP xs = 0 := by
  unfold cntP
  rw [List.countP_eq_zero]
  intro x hx; rw [h x hx]; simp
/-- the second: a pattern among plain targets -/
theorem make_mixed (l : List ByteArray) (o : Bool) (h : ∀ s ∈ l, Low s) (hl : l ≠ []) : makeP (mk (leftL l ++ (tailL o ++ 32 :: po))) rsB false = errP 55 := by
  have hn := left_names l o (32 :: po) [po] h (.inr ⟨32, po, rfl, rfl⟩) (by kernel_rfl) (fun w hw => by
    have : w = po := by simpa using hw
    rw [this]; exact po_plain)
  have hp : popen (mk po) = true := by kernel_rfl
  have hy0 : popen (mk yo) = false := by kernel_rfl
  obtain ⟨A, hA, hA0, hAp⟩ : ∃ A : List ByteArray, namesB (mk (leftL l ++ (tailL o ++ 32 :: po))) = A ++ [mk po] ∧ A ≠ [] ∧ ∀ x ∈ A, popen x = false := by
    refine ⟨(l.map tgt ++ (if o then [yo] else [])).map mk, by rw [hn]; simp, ?_, ?_⟩
    · cases l with
      | nil => exact absurd rfl hl
      | cons s l => simp
    · intro x hx
      obtain ⟨y, hy, rfl⟩ := List.mem_map.1 hx
      rcases List.mem_append.1 hy with h1 | h1
      · obtain ⟨s, hs, rfl⟩ := List.mem_map.1 h1
        exact tgt_popen (h s hs)
      · cases o
        · cases h1
        · have : y = yo := by simpa using h1
          rw [this]; exact hy0
  have hlen : 0 < A.length := List.length_pos_iff.2 hA0
  have hc : cntP (A ++ [mk po]) = 1 := by
    have := cnt_none A hAp
    unfold cntP at this ⊢
    rw [List.countP_append, this]; simp [hp]
  have hi : implN (A ++ [mk po]) = 55 := by
    unfold implN
    rw [hc, if_pos ⟨by decide, by simp; omega⟩]
  unfold makeP
  rw [hA, if_neg (by simp), rsB_colon, if_neg (by decide), hi, if_pos (by decide)]
theorem make_third : ∃ T P O, makeP rsL rsC true = ⟨T, P, O, [], false, true, true, ⟨#[]⟩, 0⟩ := by
  have h1 : (makeP rsL rsC true).L = [] := by kernel_rfl
  have h2 : (makeP rsL rsC true).d = false := by kernel_rfl
  have h3 : (makeP rsL rsC true).p = true := by kernel_rfl
  have h4 : (makeP rsL rsC true).t = true := by kernel_rfl
  have h5 : (makeP rsL rsC true).e = 0 := by kernel_rfl
  have h6 : (makeP rsL rsC true).st = ⟨#[]⟩ := by kernel_rfl
  generalize makeP rsL rsC true = X at *
  obtain ⟨T, P, O, L, d, p, t, st, e⟩ := X
  simp only at h1 h2 h3 h4 h5 h6
  subst h1 h2 h3 h4 h5 h6
  exact ⟨T, P, O, rfl⟩
end Go.Proofs.YtmcemaphhlcjfaaDoor
