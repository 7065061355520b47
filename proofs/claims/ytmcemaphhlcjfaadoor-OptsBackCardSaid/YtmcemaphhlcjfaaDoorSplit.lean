/- What package text's Split answers: the words of a text; condition: a text of at most a thousand million bytes. -/
import Derived.Test.YtmcemaphhlcjfaaDoorOwn
import Derived.RangeFuncNested
import Derived.RangeFuncBound
import Derived.RangeFuncCalls
import Derived.RangeFuncLeaves
import Derived.Shelf.Abstract
import Derived.Shelf.RegionOpen
import Derived.OwnWalkIn
import Derived.TacticsInMore
import Derived.LoopNIn
import Derived.LoopIn
import Derived.RangeFuncBox
import Derived.Maps.AppendAt
import Derived.Maps.OwnIn
namespace Go.Proofs.YtmcemaphhlcjfaaDoor
open Go.RowKit Go.Shelf
attribute [local go_sem] Oper.semAt_some

def mk (l : List UInt8) : ByteArray := ⟨l.toArray⟩
def isB (c : UInt8) : Bool := c == 32 || (c == 9 || c == 10)
def splitP (p : UInt8 → Bool) : List UInt8 → List (List UInt8)
  | [] => [[]]
  | c :: l => if p c then [] :: splitP p l else match splitP p l with
    | [] => [[c]]
    | x :: xs => (c :: x) :: xs
theorem splitP_ne (p : UInt8 → Bool) (a : List UInt8) : splitP p a ≠ [] := by
  cases a with
  | nil => simp [splitP]
  | cons c l => rw [splitP]; split; simp; split <;> simp
def fieldsL (l : List UInt8) : List (List UInt8) := (splitP isB l).filter fun x => !x.isEmpty
theorem fields_blank (c : UInt8) (l : List UInt8) (h : isB c = true) : fieldsL (c :: l) = fieldsL l := by
  unfold fieldsL; rw [splitP, if_pos h]; simp
theorem split_app (p : UInt8 → Bool) (a b : List UInt8) (ha : ∀ c ∈ a, p c = false) : ∃ x xs, splitP p b = x :: xs ∧ splitP p (a ++ b) = (a ++ x) :: xs := by
  induction a with
  | nil =>
    cases h : splitP p b with
    | nil => exact absurd h (splitP_ne p b)
    | cons x xs => exact ⟨x, xs, rfl, h⟩
  | cons c a ih =>
    obtain ⟨x, xs, h1, h2⟩ := ih (fun c hc => ha c (by simp [hc]))
    refine ⟨x, xs, h1, ?_⟩
    rw [List.cons_append, splitP, if_neg (by rw [ha c (by simp)]; simp), h2]; rfl
theorem fields_word (a b : List UInt8) (h0 : a ≠ []) (ha : ∀ c ∈ a, isB c = false) (hb : b = [] ∨ ∃ c b', b = c :: b' ∧ isB c = true) : fieldsL (a ++ b) = a :: fieldsL b := by
  obtain ⟨x, xs, h1, h2⟩ := split_app isB a b ha
  have hx : x = [] := by
    rcases hb with rfl | ⟨c, b', rfl, hc⟩
    · simp [splitP] at h1; exact h1.1
    · rw [splitP, if_pos hc] at h1; injection h1 with h1 _; exact h1.symm
  subst hx
  unfold fieldsL
  rw [h2, h1, List.append_nil, List.filter_cons, List.filter_cons]
  have : a.isEmpty = false := by cases a; exact absurd rfl h0; rfl
  simp [this]
def wordsB (s : ByteArray) : List ByteArray := (fieldsL s.data.toList).map mk

theorem blank_any (c : UInt8) (w : World) : Calls Tryd.prog 93 #[.int .u8 c.toNat] w fun e w' => e = .returned (.bool (isB c)) ∧ w' = w := by
  by_cases h1 : c = 32
  · subst h1
    go_enter Tryd.func93, Tryd.ntmps93
    go_wp2
    go_ret
    exact ⟨rfl, rfl⟩
  by_cases h2 : c = 9
  · subst h2
    go_enter Tryd.func93, Tryd.ntmps93
    go_wp2
    go_ret
    exact ⟨rfl, rfl⟩
  by_cases h3 : c = 10
  · subst h3
    go_enter Tryd.func93, Tryd.ntmps93
    go_wp2
    go_ret
    exact ⟨rfl, rfl⟩
  · have e : Hid (isB c = false) := by
      unfold Hid isB; simp [h1, h2, h3]
    have n1 : ((c.toNat : Int) == 32) = false := by rw [beq_eq_false_iff_ne]; intro h; exact h1 (UInt8.toNat_inj.1 (by show c.toNat = 32; omega))
    have n2 : ((c.toNat : Int) == 9) = false := by rw [beq_eq_false_iff_ne]; intro h; exact h2 (UInt8.toNat_inj.1 (by show c.toNat = 9; omega))
    have n3 : ((c.toNat : Int) == 10) = false := by rw [beq_eq_false_iff_ne]; intro h; exact h3 (UInt8.toNat_inj.1 (by show c.toNat = 10; omega))
    clear h1 h2 h3
    go_enter Tryd.func93, Tryd.ntmps93
    go_wp2
    go_ret
    exact ⟨ret_bool e.out.symm, rfl⟩

def KeepBox (bs : Nat) (s : ByteArray) (W W' : World) : Prop := Boxed W bs 9 (.string s) → Boxed W' bs 9 (.string s)

theorem get_list (s : ByteArray) (j : Nat) (h : j < s.size) : s.data.toList[j]'(by simpa using h) = s.get! j := by
  cases s with | mk d => simp only [ByteArray.get!]; rw [Array.getElem_toList]; exact (getElem!_pos d j h).symm
theorem bget (s : ByteArray) (j : Nat) (h : j < s.size) : s[j] = s.get! j := by rw [← get_list s j h, Array.getElem_toList]; rfl
theorem words_blank (s : ByteArray) (k : Nat) (pre : List ByteArray) (hk : k < s.size) (hb : isB (s.get! k) = true) (h : wordsB s = pre ++ (fieldsL (s.data.toList.drop k)).map mk) : wordsB s = pre ++ (fieldsL (s.data.toList.drop (k + 1))).map mk := by
  rw [h, List.drop_eq_getElem_cons (by simpa using hk), get_list s k hk, fields_blank _ _ hb]
theorem words_word (s : ByteArray) (k j : Nat) (pre : List ByteArray) (hk : k < j) (hj : j ≤ s.size) (hn : ∀ m, k ≤ m → m < j → isB (s.get! m) = false) (he : j < s.size → isB (s.get! j) = true) (h : wordsB s = pre ++ (fieldsL (s.data.toList.drop k)).map mk) :
    wordsB s = (pre ++ [s.extract k j]) ++ (fieldsL (s.data.toList.drop j)).map mk := by
  have e : s.data.toList.drop k = (s.extract k j).data.toList ++ s.data.toList.drop j := by
    rw [extract_list]
    conv => lhs; rw [← List.take_append_drop j s.data.toList]
    rw [List.drop_append_of_le_length (by simp; omega)]
  rw [h, e, fields_word]
  · simp only [List.map_cons, List.append_assoc, List.cons_append, List.nil_append]; rfl
  · intro e2
    have := congrArg List.length e2
    rw [extract_list] at this; simp at this; omega
  · intro c hc
    rw [extract_list] at hc
    obtain ⟨m, hm, rfl⟩ := List.getElem_of_mem hc
    rw [List.getElem_drop, List.getElem_take]
    have hm' : k + m < j := by simp at hm; omega
    rw [get_list s (k + m) (by omega)]
    exact hn _ (by omega) hm'
  · by_cases hjs : j < s.size
    · right
      exact ⟨_, _, List.drop_eq_getElem_cons (by simpa using hjs), by rw [get_list s j hjs]; exact he hjs⟩
    · left; exact List.drop_eq_nil_of_le (by simp; omega)

set_option maxRecDepth 100000 in
set_option maxHeartbeats 1000000 in
theorem words1_in (l bs : Nat) (s : ByteArray) (hs : s.size ≤ 140737488351232) (J Jx : List ByteArray → World → Prop)
    (hY : ∀ pre x W, J pre W → pre.length < s.size + 1 → YieldAt Fence.wide 10 Tryd.prog l #[.string x] W fun e W' =>
      (e = .returned (.bool true) ∧ J (pre ++ [x]) W' ∧ KeepBox bs s W W') ∨ (e = .returned (.bool false) ∧ Jx (pre ++ [x]) W'))
    (W : World) (hb : Boxed W bs 9 (.string s)) (h0 : J [] W) :
    CallsIn Fence.wide 11 Tryd.prog 102 #[.func (.yield l) #[] #[], .pointer (some ⟨bs, 0, none⟩)] W fun e W' => (∃ v, e = .returned v) ∧
      ((∃ ys, ys = wordsB s ∧ J ys W') ∨ (∃ pre, True ∧ Jx pre W')) := by
  refine callsIn_of_wp Tryd.func102 rfl trivial ?_ rfl
  simp only [Tryd.ntmps102, List.size_toArray, List.length_cons, List.length_nil, Nat.reduceAdd, Nat.reduceSub, Array.replicate_succ, Array.replicate_zero, List.push_toArray, List.append_toArray, List.nil_append, List.cons_append]
  gi_wp2
  gi_loopw [3] (fun i wr => ∃ (k : Nat) (pre : List ByteArray), i = .int .i64 k ∧ k ≤ s.size ∧ pre.length ≤ k ∧ Boxed wr bs 9 (.string s) ∧ J pre wr ∧ Hid (wordsB s = pre ++ (fieldsL (s.data.toList.drop k)).map mk))
    (fun i _ => s.size - (intOf i).toNat)
  case atStart => exact ⟨0, [], rfl, Nat.zero_le _, by simp, hb, h0, by simp [Hid, wordsB]⟩
  case round =>
    obtain ⟨k, pre, rfl, hk, hpk, hbx, hJ, hw⟩ := hrel
    have hc := hbx.cell
    by_cases hlt : k < s.size
    · have hB := Lib.hid (blank_any (s[k]))
      cases hq : isB s[k]
      · rw [hq] at hB
        gi_wp2_with (refine ⟨trivial, ?_⟩; gi_at_call 93; refine (callsIn_wide.2 (hB.out _)).mono ?_; rintro e w' ⟨rfl, rfl⟩)
        obtain ⟨wo, rfl⟩ : ∃ wo : World, wo = w' := ⟨_, rfl⟩
        have HQ : Hid (isB (s.get! k) = false) := by unfold Hid; rw [← bget s k hlt]; exact hq
        clear hq hB
        gi_loopw [3] (fun i wi => ∃ j : Nat, i = .int .i64 j ∧ k ≤ j ∧ j ≤ s.size ∧ wi = wo ∧ Hid (∀ m, k ≤ m → m < j → isB (s.get! m) = false)) (fun i _ => s.size - (intOf i).toNat)
        case atStart => exact ⟨k, rfl, Nat.le_refl _, hk, rfl, fun m a b => by omega⟩
        case round =>
          obtain ⟨j, rfl, hkj, hj, rfl, hn⟩ := hrel
          by_cases hjs : j < s.size
          · have hB := Lib.hid (blank_any (s[j]))
            cases hq : isB s[j]
            · rw [hq] at hB
              have HQ2 : Hid (isB (s.get! j) = false) := by unfold Hid; rw [← bget s j hjs]; exact hq
              clear hq
              gi_wp2_with (refine ⟨trivial, ?_⟩; gi_at_call 93; refine (callsIn_wide.2 (hB.out _)).mono ?_; rintro e w' ⟨rfl, rfl⟩)
              exact ⟨⟨j + 1, by go_num, by omega, by omega, by trivial, fun m a b => by by_cases c : m < j; exact hn.out m a c; rw [show m = j by omega]; exact HQ2.out⟩, by simp [intOf]; omega⟩
            · rw [hq] at hB
              have HQ2 : Hid (isB (s.get! j) = true) := by unfold Hid; rw [← bget s j hjs]; exact hq
              clear hq
              have hkj2 : k < j := by
                rcases Nat.lt_or_eq_of_le hkj with h | h
                · exact h
                · have a := HQ.out; have b := HQ2.out; rw [← h] at b; rw [a] at b; cases b
              obtain ⟨fn, tmps, assign, body, hy, hR⟩ := hY pre (s.extract k j) _ hJ (by omega)
              have HW := Lib.hid (words_word s k j pre hkj2 hj hn.out (fun _ => HQ2.out) hw.out)
              gi_wp2_with (refine ⟨trivial, ?_⟩; gi_at_call 93; refine (callsIn_wide.2 (hB.out _)).mono ?_; rintro e w' ⟨rfl, rfl⟩)
              refine hR.mono ?_
              rintro e W3 (⟨rfl, hJ3, hk3⟩ | ⟨rfl, hJx3⟩)
              · have hb3 := hk3 hbx
                gi_wp2
                exact ⟨⟨j, pre ++ [s.extract k j], rfl, hj, by simp; omega, hb3, hJ3, HW.out⟩, by simp [intOf]; omega⟩
              · gi_wp2
                refine bodyPost_ret (results_none rfl _ _ _) rfl ?_
                exact ⟨⟨_, rfl⟩, .inr ⟨_, trivial, hJx3⟩⟩
          · have hkj2 : k < j := by omega
            obtain ⟨fn, tmps, assign, body, hy, hR⟩ := hY pre (s.extract k j) _ hJ (by omega)
            have HW := Lib.hid (words_word s k j pre hkj2 hj hn.out (fun h => absurd h hjs) hw.out)
            gi_wp2
            refine ⟨trivial, ?_⟩
            gi_wp2
            refine hR.mono ?_
            rintro e W3 (⟨rfl, hJ3, hk3⟩ | ⟨rfl, hJx3⟩)
            · have hb3 := hk3 hbx
              gi_wp2
              exact ⟨⟨j, pre ++ [s.extract k j], rfl, hj, by simp; omega, hb3, hJ3, HW.out⟩, by simp [intOf]; omega⟩
            · gi_wp2
              refine bodyPost_ret (results_none rfl _ _ _) rfl ?_
              exact ⟨⟨_, rfl⟩, .inr ⟨_, trivial, hJx3⟩⟩
      · rw [hq] at hB
        gi_wp2_with (refine ⟨trivial, ?_⟩; gi_at_call 93; refine (callsIn_wide.2 (hB.out _)).mono ?_; rintro e w' ⟨rfl, rfl⟩)
        exact ⟨⟨k + 1, pre, by go_num, by omega, by omega, hbx, hJ, words_blank s k pre hlt (by rw [← bget s k hlt]; exact hq) hw.out⟩, by simp [intOf]; omega⟩
    · have HW : Hid (wordsB s = pre) := by
        unfold Hid; rw [hw.out, List.drop_eq_nil_of_le (by simp; omega)]; simp [fieldsL, splitP]
      gi_wp2
      go_end0
      exact ⟨⟨_, rfl⟩, .inl ⟨pre, HW.out.symm, hJ⟩⟩

set_option maxRecDepth 100000 in
theorem words_stops (bs : Nat) (s : ByteArray) (hs : s.size ≤ 140737488351232) (w : World) (hb : Boxed w bs 9 (.string s)) :
    SeqStopsK Fence.wide 11 Tryd.prog 102 #[.pointer (some ⟨bs, 0, none⟩)] (fun x : ByteArray => #[Value.string x]) (KeepBox bs s) (fun ys => ys = wordsB s) (fun _ => True) (s.size + 1) w := fun l J Jx W hW _ _ hY h0 =>
  words1_in l bs s hs J Jx hY W ((hW.block bs hb.lt).trans hb) h0
theorem keepBox_t {bs : Nat} {s : ByteArray} {A B C : World} (h : KeepBox bs s A B) (k : KeepBox bs s B C) : KeepBox bs s A C := fun x => k (h x)
theorem keepBox_b {bs : Nat} {s : ByteArray} (W : World) (l : Nat) (o o' : Obj) (h : W.heap[l]? = some o) (hc : o.isCells = false) : KeepBox bs s W (W.putObj l o') := fun x => by
  have ne : bs ≠ l := fun e => by subst e; rw [show W.heap[bs]? = _ from x] at h; cases h; cases hc
  exact (World.putObj_heap_other ne).trans x

theorem words_any (s : ByteArray) (w : World) : Calls Tryd.prog 83 #[.string s] w fun e w' => e = .returned (.func (.func 102) #[] #[.pointer (some ⟨w.heap.size, 0, none⟩)]) ∧ w' = w.alloc (.cells #[.string s] 9) := by
  go_enter Tryd.func83, Tryd.ntmps83
  go_wp2
  go_ret
  exact ⟨rfl, rfl⟩

theorem wordsB_len (s : ByteArray) : (wordsB s).length ≤ s.size + 1 := by
  have h : ∀ l : List UInt8, (splitP isB l).length ≤ l.length + 1 := by
    intro l
    induction l with
    | nil => simp [splitP]
    | cons c l ih =>
      rw [splitP]; split
      · simp; omega
      · split <;> simp_all; omega
  have h1 := h s.data.toList
  have h2 := List.length_filter_le (fun x : List UInt8 => !x.isEmpty) (splitP isB s.data.toList)
  unfold wordsB fieldsL
  rw [List.length_map]
  simp at h1; have : s.data.size = s.size := rfl; omega

set_option maxRecDepth 100000 in
set_option maxHeartbeats 2000000 in
theorem Split_in (s : ByteArray) (hs : s.size ≤ 1000000000) (w : World) :
    CallsIn Fence.wide 12 Tryd.prog 55 #[.string s] w fun e W' => ∃ v, e = .returned v ∧ W'.ownsRow w.heap.size 9 1 v (wordsB s).length ((wordsB s).map Value.string) ∧ Below w.heap.size w W' := by
  obtain ⟨i0, hi, hz0, hz1, hz2⟩ := info_parts Tryd.info9
  refine callsIn_of_wp_marks Tryd.func55 rfl trivial ?_ rfl
  simp only [Tryd.ntmps55, List.size_toArray, List.length_cons, List.length_nil, Nat.reduceAdd, Nat.reduceSub, Array.replicate_succ, Array.replicate_zero, List.push_toArray, List.append_toArray, List.nil_append, List.cons_append]
  gi_wp2_with (refine ⟨trivial, ?_⟩; gi_at_call 83; refine (callsIn_wide.2 (words_any s _)).mono ?_; rintro e w' ⟨rfl, rfl⟩)
  have bO := Boxed.new w 27 (.slice none 0 0)
  have bS := Boxed.new (w.alloc (.cells #[.slice none 0 0] 27)) 9 (.string s)
  rw [World.size_alloc] at bS
  have hB0 : Below w.heap.size w ((w.alloc (.cells #[.slice none 0 0] 27)).alloc (.cells #[.string s] 9)) := ((Below.refl _ w).alloc (Nat.le_refl _) _).alloc (by simp) _
  refine wpIn_rangeFunc_ownG rfl (by omega) (gf := 102) (lb := #[.pointer (some ⟨w.heap.size + 1, 0, none⟩)]) rfl trivial (enters_of Tryd.func102 (by kernel_rfl) rfl)
    (words_stops (w.heap.size + 1) s (by omega) _ bS) keepBox_t (fun W l o o' _ h hc _ => keepBox_b W l o o' h hc) (Below.refl _ _) (fun _ => rfl)
    (fun pre W => (∃ v, Boxed W w.heap.size 27 v ∧ W.ownsRow w.heap.size 9 1 v pre.length (pre.map Value.string) ∧ v.ownBlock ≠ some (w.heap.size + 1)) ∧ Below w.heap.size w W)
    (fun _ _ _ => False)
    (OwnFrom.and (Own.from (holdsRow_own w.heap.size w.heap.size 27 9 1 (fun pre : List ByteArray => pre.length) (fun pre => pre.map Value.string) (fun _ v => v.ownBlock ≠ some (w.heap.size + 1))) _) (ownFrom_below (Nat.le_refl _) (by simp; omega)))
    (fun _ _ _ _ _ hs _ _ => hs)
    ⟨⟨_, bO.alloc _, World.ownsRow_nil _ _ _ _, by simp [Value.ownBlock]⟩, hB0⟩
    (fun x => { tmps := #[.string s, undef, .slice none 0 0, .pointer (some ⟨w.heap.size, 0, none⟩), .string x, .string s, .func (.func 102) #[] #[.pointer (some ⟨w.heap.size + 1, 0, none⟩)], .string x, undef, undef, undef, undef, undef], defers := [] }) ?assign ?body ?done ?stop
  case assign =>
    intro l x W K hK
    gi_wp2
    exact hK
  case body =>
    rintro l pre x W ⟨⟨v, hv, hrow, hne⟩, hB⟩ hlt
    have hc := hv.cell
    have HNE := Lib.hid hne
    clear hne
    gi_wp2_with (gi_at_builtin; refine wpListIn_append_own_at _ rfl _ _ 27 rfl w.heap.size 9 i0 (.string ⟨#[]⟩) 1 16 Tryd.underlying27 hi hz0 hz1 hz2 rfl (by decide) v pre.length (pre.map Value.string) rfl (hrow.alloc _) ⟨W.heap.size, 0, none⟩ 1 1 [.string x] rfl rfl (cell_one_new _ _ _) (by simp [Value.oneCell']) (by unfold maxLen; omega) (by omega) (by have := hB.size; simp; omega) ?_; intro v' w1 hown' hgrow _ hat; obtain ⟨g', cap', rfl⟩ := ownsRow_succ hown'; have HG := Lib.hid hgrow; have HAT := Lib.hid hat; obtain ⟨hv1, hv2, hr2, hk2, hb2⟩ := hv.appended (by decide) hrow hB.size (Nat.le_refl _) hown' hgrow; have hc1 := hv1.cell; have hf1 := hv1.frozen; clear hgrow hat)
    have hlt1 := hv.lt
    refine ⟨hk2.from _, ?_, ⟨_, hv2, by simpa using hr2, ?_⟩, hB.trans hb2⟩
    · intro hx
      have e1 := Below.heap_setCell w1 ⟨w.heap.size, 0, none⟩ (.slice (some ⟨g', 0, none⟩) (pre.length + 1) cap') (w.heap.size + 1) (by simp)
      exact e1.trans ((HG.out.block _ (by have := hx.lt; simp; omega) (fun e => HNE.out e.symm)).trans ((Below.heap_alloc W _ _ hx.lt).trans hx))
    · rcases HAT.out with h | h
      · rw [h]; exact HNE.out
      · rw [h]; intro e; simp at e; omega
  case done =>
    rintro D ys W hD hys ⟨⟨v, hv, hrow, _⟩, hB⟩ hK
    subst hys
    have hc := hv.cell
    have hB2 := hB.trans (belowK_b (w := w) (Nat.le_refl _) W D _ (.deferred none) (by simp at hD; omega) hK rfl rfl)
    gi_wp2
    refine ⟨by simp, .inl ⟨_, _, rfl, run_takeDeferred hK, ?_⟩⟩
    exact ⟨_, results_tmp rfl _ _ _, v, rfl, ownsRow_putObj hrow _ hK rfl, hB2⟩
  case stop =>
    rintro D c pre W _ _ h _
    exact h.elim

theorem Split_any (s : ByteArray) (hs : s.size ≤ 1000000000) (w : World) :
    Calls Tryd.prog 55 #[.string s] w fun e W' => ∃ v, e = .returned v ∧ OwnG W' w.heap.size 9 1 v (wordsB s).length ((wordsB s).map Value.string) ∧ Below w.heap.size w W' :=
  (callsIn_wide.1 (Split_in s hs w)).mono fun _ _ ⟨v, he, ho, hb⟩ => ⟨v, he, OwnG.of ho, hb⟩
end Go.Proofs.YtmcemaphhlcjfaaDoor
