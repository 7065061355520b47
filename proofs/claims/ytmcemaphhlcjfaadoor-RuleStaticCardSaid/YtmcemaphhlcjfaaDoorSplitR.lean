/- the reference's Split: the words of a text; condition: a text of at most 10^9 bytes. -/
import Derived.Test.YtmcemaphhlcjfaaDoorLists
import Derived.Test.YtmcemaphhlcjfaaDoorTrim
namespace Go.Proofs.YtmcemaphhlcjfaaDoor
open Go.RowKit

set_option maxRecDepth 100000 in
set_option maxHeartbeats 2000000 in
theorem SplitR_any (s : ByteArray) (hs : s.size ≤ 1000000000) (w : World) :
    Calls Tryd.prog 79 #[.string s] w fun e W' => ∃ v, e = .returned v ∧ OwnG W' w.heap.size 9 1 v (wordsB s).length ((wordsB s).map Value.string) ∧ Below w.heap.size w W' := by
  obtain ⟨i0, hi, hz0, hz1, hz2⟩ := info_parts Tryd.info9
  go_enter Tryd.func79, Tryd.ntmps79
  go_wp2
  go_loopw [3, 4, 5] (fun v f i wi => ∃ (k : Nat) (pre : List ByteArray) (fr : Int) (st : Nat), i = .int .i64 k ∧ f = .int .i64 fr ∧ k ≤ s.size ∧ pre.length ≤ k ∧ Hid (wi.ownsRow w.heap.size 9 1 v pre.length (pre.map Value.string)) ∧ Below w.heap.size w wi ∧ Hid (wordsB s = pre ++ (fieldsL (s.data.toList.drop st)).map mk) ∧ (fr = -1 ∧ st = k ∨ fr = st ∧ st < k ∧ Hid (∀ m, st ≤ m → m < k → isB (s.get! m) = false))) (fun _ _ i _ => s.size - (intOf i).toNat)
  case atStart => exact ⟨0, [], -1, 0, rfl, rfl, Nat.zero_le _, Nat.le_refl _, World.ownsRow_nil _ _ _ _, Below.refl _ w, by simp [Hid, wordsB], .inl ⟨rfl, rfl⟩⟩
  case round =>
    obtain ⟨k, pre, fr, st, rfl, rfl, hk, hpk, hown, hbel, hw, hst⟩ := hrel
    by_cases hlt : k < s.size
    · have hB := Lib.hid (blankR_any (s[k]))
      cases hq : isB s[k]
      · rw [hq] at hB
        have HQ : Hid (isB (s.get! k) = false) := by unfold Hid; rw [← bget s k hlt]; exact hq
        clear hq
        rcases hst with ⟨rfl, rfl⟩ | ⟨rfl, hs1, hs2⟩
        · go_wp2_with (go_at_call 71; refine (hB.out _).mono ?_; rintro e w' ⟨rfl, rfl⟩)
          exact ⟨⟨st + 1, pre, st, st, by go_num, rfl, by omega, by omega, hown, hbel, hw, .inr ⟨rfl, by omega, fun m h1 h2 => by rw [show m = st by omega]; exact HQ.out⟩⟩, by simp [intOf]; omega⟩
        · go_wp2_with (go_at_call 71; refine (hB.out _).mono ?_; rintro e w' ⟨rfl, rfl⟩)
          exact ⟨⟨k + 1, pre, st, st, by go_num, rfl, by omega, by omega, hown, hbel, hw, .inr ⟨rfl, by omega, fun m h1 h2 => by
            by_cases c : m = k
            · rw [c]; exact HQ.out
            · exact hs2.out m h1 (by omega)⟩⟩, by simp [intOf]; omega⟩
      · rw [hq] at hB
        have HQ : Hid (isB (s.get! k) = true) := by unfold Hid; rw [← bget s k hlt]; exact hq
        clear hq
        rcases hst with ⟨rfl, rfl⟩ | ⟨rfl, hs1, hs2⟩
        · go_wp2_with (go_at_call 71; refine (hB.out _).mono ?_; rintro e w' ⟨rfl, rfl⟩)
          exact ⟨⟨st + 1, pre, -1, st + 1, by go_num, rfl, by omega, by omega, hown, hbel, words_blank s st pre hlt HQ.out hw.out, .inl ⟨rfl, rfl⟩⟩, by simp [intOf]; omega⟩
        · have HW := Lib.hid (words_blank s k _ hlt HQ.out (words_word s st k pre hs1 hk hs2.out (fun _ => HQ.out) hw.out))
          go_wp2_with (first | (go_at_call 71; refine (hB.out _).mono ?_; rintro e wx ⟨rfl, rfl⟩) | (at_builtin; refine wpList_append_own_at _ rfl _ _ 27 rfl w.heap.size 9 i0 (.string ⟨#[]⟩) 1 16 Tryd.underlying27 hi hz0 hz1 hz2 rfl (by decide) u3 pre.length (pre.map Value.string) rfl (hown.out.alloc _) ⟨_, 0, none⟩ 1 1 [.string (s.extract st k)] rfl rfl (cell_one_new _ _ _) (by simp [Value.oneCell']) (by unfold maxLen; omega) (by omega) (by have := hbel.size; simp; omega) ?_; intro v' w1 hown' hgrow _ _))
          have hb1 : Below w.heap.size w w1 := (hbel.alloc hbel.size _).grown hgrow (by have := hbel.size; simp; omega) (fun j hj => (hown.out.lt j hj).1)
          exact ⟨⟨k + 1, pre ++ [s.extract st k], -1, k + 1, by go_num, rfl, by omega, by simp; omega, by simpa [Hid] using hown', hb1, HW.out, .inl ⟨rfl, rfl⟩⟩, by simp [intOf]; omega⟩
    · obtain rfl : k = s.size := by omega
      rcases hst with ⟨rfl, rfl⟩ | ⟨rfl, hs1, hs2⟩
      · have HW : Hid (wordsB s = pre) := by
          unfold Hid; rw [hw.out, List.drop_eq_nil_of_le (by simp)]; simp [fieldsL, splitP]
        go_wp2
        go_ret
        exact ⟨_, rfl, by rw [HW.out]; exact OwnG.of hown.out, hbel⟩
      · have HW : Hid (wordsB s = pre ++ [s.extract st s.size]) := by
          unfold Hid; rw [words_word s st s.size pre hs1 (Nat.le_refl _) hs2.out (fun h => absurd h (Nat.lt_irrefl _)) hw.out, List.drop_eq_nil_of_le (by simp)]; simp [fieldsL, splitP]
        go_wp2_with (at_builtin; refine wpList_append_own_at _ rfl _ _ 27 rfl w.heap.size 9 i0 (.string ⟨#[]⟩) 1 16 Tryd.underlying27 hi hz0 hz1 hz2 rfl (by decide) u3 pre.length (pre.map Value.string) rfl (hown.out.alloc _) ⟨_, 0, none⟩ 1 1 [.string (s.extract st s.size)] rfl rfl (cell_one_new _ _ _) (by simp [Value.oneCell']) (by unfold maxLen; omega) (by omega) (by have := hbel.size; simp; omega) ?_; intro v' w1 hown' hgrow _ _)
        have hb1 : Below w.heap.size w w1 := (hbel.alloc hbel.size _).grown hgrow (by have := hbel.size; simp; omega) (fun j hj => (hown.out.lt j hj).1)
        go_ret
        exact ⟨_, rfl, by rw [HW.out]; exact OwnG.of (by simpa using hown'), hb1⟩
end Go.Proofs.YtmcemaphhlcjfaaDoor
