/- A text's words as files' names, in the program and in the reference; condition: a text of at most a million bytes. -/
import Derived.Test.YtmcemaphhlcjfaaDoorGroupR
import Derived.Test.YtmcemaphhlcjfaaDoorSplitR
namespace Go.Proofs.YtmcemaphhlcjfaaDoor
open Go.RowKit

theorem OwnG.setAt {W : World} {base n c g : Nat} {e : TypeId} {size : Nat} {xs : List Value} (h : OwnG W base e size (.slice (some ⟨g, 0, none⟩) n c) n xs) (i : Nat) (x : Value) :
    OwnG (W.setCell ⟨g, i, none⟩ x) base e size (.slice (some ⟨g, 0, none⟩) n c) n (xs.set i x) := by
  rcases h.2 with ⟨h0, _⟩ | ⟨g', cap, cur, e, hg, hbk, hnc, hcm, hcs, ht⟩
  · cases h0
  · cases e
    refine ⟨by rw [List.length_set]; exact h.1, .inr ⟨g, c, cur.setIfInBounds i x, rfl, hg, heap_setCell_same W g i cur _ x hbk, hnc, hcm, by rw [Array.size_setIfInBounds]; exact hcs, ?_⟩⟩
    rw [Array.toList_setIfInBounds, ← ht, List.take_set]
theorem OwnG.ice {W : World} {base n c g : Nat} {e : TypeId} {size : Nat} {xs : List Value} (h : OwnG W base e size (.slice (some ⟨g, 0, none⟩) n c) n xs) (i : Nat) : W.frozen? ⟨g, i, none⟩ = false := by
  rcases h.2 with ⟨h0, _⟩ | ⟨g', cap, cur, e, hg, hbk, hnc, hcm, hcs, ht⟩
  · cases h0
  · cases e; exact frozen_of_row W _ _ _ _ hbk
theorem OwnG.strsAt {W : World} {base n c : Nat} {A : Option Addr} {xs : List ByteArray} (h : OwnG W base 9 1 (.slice A n c) n (xs.map Value.string)) : StrsAt W A xs := by
  intro j x hj
  have hg := h
  rcases h.2 with ⟨e, h0⟩ | ⟨g, cap, cur, e, hb, _⟩
  · have hl := h.1
    have hlt := (List.getElem?_eq_some_iff.1 hj).1
    simp [h0] at hl
    rw [hl] at hlt; simp at hlt
  · cases e
    exact ⟨g, 0, rfl, by rw [Nat.zero_add]; exact hg.cells j _ (by simp [hj])⟩
theorem splitP_le (p : UInt8 → Bool) : ∀ l : List UInt8, ∀ y ∈ splitP p l, y.length ≤ l.length
  | [], y, h => by simp [splitP] at h; simp [h]
  | c :: l, y, h => by
    have ih := splitP_le p l
    rw [splitP] at h
    split at h
    · rcases List.mem_cons.1 h with rfl | h
      · simp
      · have := ih y h; simp; omega
    · cases hs : splitP p l with
      | nil => exact absurd hs (splitP_ne p l)
      | cons x xs =>
        rw [hs] at h ih
        rcases List.mem_cons.1 h with rfl | h
        · have := ih x (by simp); simp; omega
        · have := ih y (by simp [h]); simp; omega
theorem words_sz (s : ByteArray) : ∀ x ∈ wordsB s, x.size ≤ s.size := by
  intro x hx
  unfold wordsB fieldsL at hx
  obtain ⟨y, hy, rfl⟩ := List.mem_map.1 hx
  have := splitP_le isB s.data.toList y (List.mem_filter.1 hy).1
  rw [Array.length_toList] at this
  exact this
theorem xAt_sz {xs : List ByteArray} {B : Nat} (h : ∀ x ∈ xs, x.size ≤ B) (j : Nat) : (xAt xs j).size ≤ B := by
  unfold xAt
  by_cases hj : j < xs.length
  · rw [List.getD_eq_getElem?_getD, List.getElem?_eq_getElem hj]; exact h _ (List.getElem_mem hj)
  · rw [List.getD_eq_getElem?_getD, List.getElem?_eq_none (by omega)]; exact Nat.zero_le _
theorem mw_sz {xs : List ByteArray} {B : Nat} (h : ∀ x ∈ xs, x.size ≤ B) (k i t n : Nat) : (mw xs k i t n).size ≤ B := by
  have h1 := xAt_sz h n
  unfold mw
  split <;> split <;> simp <;> omega
theorem grp_sz {xs : List ByteArray} {B : Nat} (h : ∀ x ∈ xs, x.size ≤ B) : ∀ f i, ∀ y ∈ grpF xs f i, y.size ≤ 2 * B + 2
  | 0, i, y, hy => by simp [grpF] at hy
  | f + 1, i, y, hy => by
    have h1 := xAt_sz h i
    rw [grpF] at hy
    split at hy
    · split at hy
      · rcases List.mem_cons.1 hy with rfl | hy
        · omega
        · exact grp_sz h f _ y hy
      · split at hy
        · rcases List.mem_cons.1 hy with rfl | hy
          · omega
          · exact grp_sz h f _ y hy
        · rcases List.mem_append.1 hy with hy | hy
          · obtain ⟨e, _, hy⟩ := List.mem_flatMap.1 hy
            unfold memb at hy
            split at hy
            · cases hy
            · obtain rfl := List.mem_singleton.1 hy
              have h2 := mw_sz h (k40 (xAt xs i)).toNat i (seek xs (i + 1)) (i + e)
              simp only [ByteArray.size_append, ByteArray.size_extract]
              have e1 : (⟨#[40]⟩ : ByteArray).size = 1 := rfl
              have e2 : (⟨#[41]⟩ : ByteArray).size = 1 := rfl
              omega
          · exact grp_sz h f _ y hy
    · cases hy
theorem seek_ge (xs : List ByteArray) (j : Nat) : j ≤ seek xs j := by unfold seek; omega
theorem grp_len (xs : List ByteArray) : ∀ f i, i ≤ xs.length + 1 → (grpF xs f i).length + i ≤ xs.length + 1
  | 0, i, h => by simpa [grpF] using h
  | f + 1, i, h => by
    rw [grpF]
    have hs := seek_ge xs (i + 1)
    split
    · rename_i hlt
      have hle : seek xs (i + 1) ≤ xs.length := by
        have : ∀ l : List ByteArray, seekL l ≤ l.length := by
          intro l; induction l with
          | nil => simp [seekL]
          | cons x l ih => rw [seekL]; split <;> simp; omega
        have := this (xs.drop (i + 1))
        unfold seek; simp at this; omega
      split
      · have := grp_len xs f (i + 1) (by omega); simp; omega
      · split
        · have := grp_len xs f (i + 1) (by omega); simp; omega
        · have h1 := grp_len xs f (seek xs (i + 1) + 1) (by omega)
          have h2 := mems_len xs (k40 (xAt xs i)).toNat i (seek xs (i + 1)) (seek xs (i + 1) + 1 - i)
          rw [List.length_append]; omega
    · simp; omega
theorem group_len (xs : List ByteArray) : (groupB xs).length ≤ xs.length + 1 := by have := grp_len xs (xs.length + 1) 0 (by omega); unfold groupB; omega
theorem group_sz {xs : List ByteArray} {B : Nat} (h : ∀ x ∈ xs, x.size ≤ B) : ∀ y ∈ groupB xs, y.size ≤ 2 * B + 2 := grp_sz h _ _
theorem nmF_len : ∀ (f : Nat) (l : List UInt8), (nmF f l).length ≤ l.length
  | 0, l => Nat.le_refl _
  | f + 1, l => by
    rw [nmF]; split
    · have h1 := nmF_len f ((l.drop 2).dropWhile (· == 47))
      have h2 := dropWhile_len (· == 47) (l.drop 2)
      simp at h2; omega
    · exact Nat.le_refl _
theorem name_sz (s : ByteArray) : (nameB s).size ≤ s.size + 1 := by
  unfold nameB
  split
  · show 1 ≤ _; omega
  · have := nmF_len s.size s.data.toList
    rw [mk_size]
    rw [Array.length_toList] at this
    exact Nat.le_succ_of_le this
noncomputable def namesB (s : ByteArray) : List ByteArray := (groupB (wordsB s)).map nameB
theorem names_len (s : ByteArray) : (namesB s).length ≤ s.size + 2 := by
  unfold namesB; rw [List.length_map]; have := group_len (wordsB s); have := wordsB_len s; omega
theorem names_sz (s : ByteArray) : ∀ y ∈ namesB s, y.size ≤ 2 * s.size + 3 := by
  intro y hy
  obtain ⟨z, hz, rfl⟩ := List.mem_map.1 hy
  have h1 := group_sz (words_sz s) z hz
  have h2 := name_sz z
  omega
theorem named_set (ys : List ByteArray) (k : Nat) (y : ByteArray) (h : ys[k]? = some y) :
    (((ys.take k).map nameB ++ ys.drop k).map Value.string).set k (.string (nameB y)) = ((ys.take (k + 1)).map nameB ++ ys.drop (k + 1)).map Value.string := by
  obtain ⟨hk, hy⟩ := List.getElem?_eq_some_iff.1 h
  have e : ys.drop k = y :: ys.drop (k + 1) := by rw [List.drop_eq_getElem_cons hk, hy]
  have e2 : ys.take (k + 1) = ys.take k ++ [y] := by rw [List.take_succ_eq_append_getElem hk, hy]
  rw [e, e2]
  simp only [List.map_append, List.map_cons, List.map_nil, List.append_assoc, List.cons_append, List.nil_append]
  rw [List.set_append_right _ _ (by simp; omega)]
  have : k - (List.map Value.string (List.map nameB (List.take k ys))).length = 0 := by simp; omega
  rw [this]; rfl

set_option maxRecDepth 100000 in
set_option maxHeartbeats 2000000 in
theorem Names_any (s : ByteArray) (hs : s.size ≤ 1000000) (w : World) :
    Calls Tryd.prog 72 #[.string s] w fun e W' => ∃ v, e = .returned v ∧ OwnG W' w.heap.size 9 1 v (namesB s).length ((namesB s).map Value.string) ∧ Below w.heap.size w W' := by
  have HS := Lib.hid fun w => Split_any s (by omega) w
  have hwl := wordsB_len s
  have HG := Lib.hid fun (W : World) A ca (ha : StrsAt W A (wordsB s)) => Group_any W A (wordsB s).length ca (wordsB s) rfl ha (by omega) (fun x hx => Nat.le_trans (words_sz s x hx) (by omega))
  obtain ⟨R, hR⟩ : ∃ R, namesB s = R := ⟨_, rfl⟩
  rw [hR]
  obtain ⟨ys, hys⟩ : ∃ ys, groupB (wordsB s) = ys := ⟨_, rfl⟩
  have HRY : Hid (R = ys.map nameB) := by unfold Hid; rw [← hR, ← hys]; rfl
  have HYZ : Hid (∀ y ∈ ys, y.size ≤ 140737488351232) := fun y hy => by
    have := group_sz (words_sz s) y (by rw [hys]; exact hy); omega
  have hyl : ys.length ≤ 1000010 := by rw [← hys]; have := group_len (wordsB s); omega
  rw [hys] at HG
  obtain ⟨xs, hxs⟩ : ∃ xs, wordsB s = xs := ⟨_, rfl⟩
  rw [hxs] at HS HG
  have hRl : R.length = ys.length := by rw [HRY.out, List.length_map]
  rw [hRl]
  obtain ⟨N, hN⟩ : ∃ N, ys.length = N := ⟨_, rfl⟩
  rw [hN] at HG hyl ⊢
  obtain ⟨M, hM⟩ : ∃ M, xs.length = M := ⟨_, rfl⟩
  rw [hM] at HG HS
  have HN := Lib.hid hN
  clear hR hys hxs hRl hN hM hwl
  go_enter Tryd.func72, Tryd.ntmps72
  go_wp2_with fail
  refine (HS.out _).mono ?_
  rintro e w1 ⟨v1, rfl, ho1, hb1⟩
  obtain ⟨A1, c1, rfl, _, _⟩ := ho1.form
  have HG1 := Lib.hid (HG.out w1 A1 c1 ho1.strsAt)
  have hs1 := hb1.size
  clear ho1
  go_wp2_with fail
  refine HG1.out.mono ?_
  rintro e w2 ⟨v2, rfl, ho2, hb2⟩
  have hB2 : Below w.heap.size w w2 := hb1.trans (hb2.mono hs1)
  have hO2 := ho2.lower hs1
  clear ho2 hb2 hb1 HG1
  obtain ⟨A2, c2, rfl, hnc2, _⟩ := hO2.form
  have HO2 := Lib.hid hO2
  have HB2 := Lib.hid hB2
  clear hO2 hB2
  go_wp2
  go_loopw [4, 5, 11] (fun _ _ iv wi => ∃ k : Nat, iv = .int .i64 k ∧ k ≤ N ∧ OwnG wi w.heap.size 9 1 (.slice A2 N c2) N (((ys.take k).map nameB ++ ys.drop k).map Value.string) ∧ Below w.heap.size w wi) (fun _ _ iv _ => N - (intOf iv).toNat)
  case atStart => exact ⟨0, rfl, Nat.zero_le _, by simpa using HO2.out, HB2.out⟩
  case round =>
    obtain ⟨k, rfl, hk, hown, hbel⟩ := hrel
    by_cases hlt : k < N
    · have hky : k < ys.length := by have := HN.out; omega
      obtain ⟨y, hy1⟩ : ∃ y, ys[k]? = some y := ⟨_, List.getElem?_eq_getElem hky⟩
      have HNm := Lib.hid fun w => Name_any y w (HYZ.out y (List.mem_of_getElem? hy1))
      obtain ⟨g, rfl⟩ : ∃ g, A2 = some ⟨g, 0, none⟩ := by
        rcases hown.2 with ⟨h0, h1⟩ | ⟨g, cap, cur, h0, _⟩
        · omega
        · cases h0; exact ⟨g, rfl⟩
      have hgb := (hown.block_lt g (by simp [Value.ownBlock])).1
      have kx : wr.cell? ⟨g, k, none⟩ = some (.string y) := by
        refine hown.cells k _ ?_
        have e1 : ys.drop k = y :: ys.drop (k + 1) := by
          rw [List.drop_eq_getElem_cons hky]; congr 1
          rw [List.getElem?_eq_getElem hky] at hy1; exact Option.some.inj hy1
        rw [e1, List.map_append, List.getElem?_append_right (by simp; omega)]
        have : k - (List.map Value.string (List.map nameB (List.take k ys))).length = 0 := by simp; omega
        rw [this]; rfl
      have fx := hown.ice k
      have HS2 := Lib.hid (hown.setAt k (.string (nameB y)))
      rw [named_set ys k y hy1] at HS2
      have HBL := Lib.hid (hbel.setCell (p := ⟨g, k, none⟩) hgb (.string (nameB y)))
      have q1 : (k : Int) < N := by omega
      generalize nameB y = ny at *
      clear hy1 hown hky
      go_wp2_with fail
      refine (HNm.out _).mono ?_
      rintro e w' ⟨rfl, hw'⟩
      obtain rfl := hw'
      go_wp2
      exact ⟨⟨k + 1, by go_num, by omega, HS2.out, HBL.out⟩, by simp [intOf]; omega⟩
    · obtain rfl : k = N := by omega
      have hq : ((ys.take k).map nameB ++ ys.drop k) = R := by rw [HRY.out, List.take_of_length_le (by have := HN.out; omega), List.drop_eq_nil_of_le (by have := HN.out; omega), List.append_nil]
      rw [hq] at hown
      clear hq
      go_wp2
      go_ret
      exact ⟨_, rfl, hown, hbel⟩

set_option maxRecDepth 100000 in
set_option maxHeartbeats 2000000 in
theorem NamesR_any (s : ByteArray) (hs : s.size ≤ 1000000) (w : World) :
    Calls Tryd.prog 44 #[.string s] w fun e W' => ∃ v, e = .returned v ∧ OwnG W' w.heap.size 9 1 v (namesB s).length ((namesB s).map Value.string) ∧ Below w.heap.size w W' := by
  have HS := Lib.hid fun w => SplitR_any s (by omega) w
  have hwl := wordsB_len s
  have HG := Lib.hid fun (W : World) A ca (ha : StrsAt W A (wordsB s)) => GroupR_any W A (wordsB s).length ca (wordsB s) rfl ha (by omega) (fun x hx => Nat.le_trans (words_sz s x hx) (by omega))
  obtain ⟨R, hR⟩ : ∃ R, namesB s = R := ⟨_, rfl⟩
  rw [hR]
  obtain ⟨ys, hys⟩ : ∃ ys, groupB (wordsB s) = ys := ⟨_, rfl⟩
  have HRY : Hid (R = ys.map nameB) := by unfold Hid; rw [← hR, ← hys]; rfl
  have HYZ : Hid (∀ y ∈ ys, y.size ≤ 140737488351232) := fun y hy => by
    have := group_sz (words_sz s) y (by rw [hys]; exact hy); omega
  have hyl : ys.length ≤ 1000010 := by rw [← hys]; have := group_len (wordsB s); omega
  rw [hys] at HG
  obtain ⟨xs, hxs⟩ : ∃ xs, wordsB s = xs := ⟨_, rfl⟩
  rw [hxs] at HS HG
  have hRl : R.length = ys.length := by rw [HRY.out, List.length_map]
  rw [hRl]
  obtain ⟨N, hN⟩ : ∃ N, ys.length = N := ⟨_, rfl⟩
  rw [hN] at HG hyl ⊢
  obtain ⟨M, hM⟩ : ∃ M, xs.length = M := ⟨_, rfl⟩
  rw [hM] at HG HS
  have HN := Lib.hid hN
  clear hR hys hxs hRl hN hM hwl
  go_enter Tryd.func44, Tryd.ntmps44
  go_wp2_with fail
  refine (HS.out _).mono ?_
  rintro e w1 ⟨v1, rfl, ho1, hb1⟩
  obtain ⟨A1, c1, rfl, _, _⟩ := ho1.form
  have HG1 := Lib.hid (HG.out w1 A1 c1 ho1.strsAt)
  have hs1 := hb1.size
  clear ho1
  go_wp2_with fail
  refine HG1.out.mono ?_
  rintro e w2 ⟨v2, rfl, ho2, hb2⟩
  have hB2 : Below w.heap.size w w2 := hb1.trans (hb2.mono hs1)
  have hO2 := ho2.lower hs1
  clear ho2 hb2 hb1 HG1
  obtain ⟨A2, c2, rfl, hnc2, _⟩ := hO2.form
  have HO2 := Lib.hid hO2
  have HB2 := Lib.hid hB2
  clear hO2 hB2
  go_wp2
  go_loopw [4] (fun iv wi => ∃ k : Nat, iv = .int .i64 k ∧ k ≤ N ∧ OwnG wi w.heap.size 9 1 (.slice A2 N c2) N (((ys.take k).map nameB ++ ys.drop k).map Value.string) ∧ Below w.heap.size w wi) (fun iv _ => N - (intOf iv).toNat)
  case atStart => exact ⟨0, rfl, Nat.zero_le _, by simpa using HO2.out, HB2.out⟩
  case round =>
    obtain ⟨k, rfl, hk, hown, hbel⟩ := hrel
    by_cases hlt : k < N
    · have hky : k < ys.length := by have := HN.out; omega
      obtain ⟨y, hy1⟩ : ∃ y, ys[k]? = some y := ⟨_, List.getElem?_eq_getElem hky⟩
      have HNm := Lib.hid fun w => NameR_any y w (HYZ.out y (List.mem_of_getElem? hy1))
      obtain ⟨g, rfl⟩ : ∃ g, A2 = some ⟨g, 0, none⟩ := by
        rcases hown.2 with ⟨h0, h1⟩ | ⟨g, cap, cur, h0, _⟩
        · omega
        · cases h0; exact ⟨g, rfl⟩
      have hgb := (hown.block_lt g (by simp [Value.ownBlock])).1
      have kx : wr.cell? ⟨g, k, none⟩ = some (.string y) := by
        refine hown.cells k _ ?_
        have e1 : ys.drop k = y :: ys.drop (k + 1) := by
          rw [List.drop_eq_getElem_cons hky]; congr 1
          rw [List.getElem?_eq_getElem hky] at hy1; exact Option.some.inj hy1
        rw [e1, List.map_append, List.getElem?_append_right (by simp; omega)]
        have : k - (List.map Value.string (List.map nameB (List.take k ys))).length = 0 := by simp; omega
        rw [this]; rfl
      have fx := hown.ice k
      have HS2 := Lib.hid (hown.setAt k (.string (nameB y)))
      rw [named_set ys k y hy1] at HS2
      have HBL := Lib.hid (hbel.setCell (p := ⟨g, k, none⟩) hgb (.string (nameB y)))
      have q1 : (k : Int) < N := by omega
      generalize nameB y = ny at *
      clear hy1 hown hky
      go_wp2_with fail
      refine (HNm.out _).mono ?_
      rintro e w' ⟨rfl, hw'⟩
      obtain rfl := hw'
      go_wp2
      exact ⟨⟨k + 1, by go_num, by omega, HS2.out, HBL.out⟩, by simp [intOf]; omega⟩
    · obtain rfl : k = N := by omega
      have hq : ((ys.take k).map nameB ++ ys.drop k) = R := by rw [HRY.out, List.take_of_length_le (by have := HN.out; omega), List.drop_eq_nil_of_le (by have := HN.out; omega), List.append_nil]
      rw [hq] at hown
      clear hq
      go_wp2
      go_ret
      exact ⟨_, rfl, hown, hbel⟩

end Go.Proofs.YtmcemaphhlcjfaaDoor
