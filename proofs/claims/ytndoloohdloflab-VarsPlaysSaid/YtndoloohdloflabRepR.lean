/- the reference's Begins, Replace, Find, and text.Find: the same as the program's; conditions: texts of at most 100000 bytes each. -/
import Derived.Test.YtndoloohdloflabRep
namespace Go.Proofs.Ytndoloohdloflab
open Go.RowKit

def begB (s : ByteArray) (at_ : Nat) (t : ByteArray) : Bool := t.data.toList.isPrefixOf (s.data.toList.drop at_)
theorem begB_in (s : ByteArray) (at_ : Nat) (t : ByteArray) (h : at_ + t.size ≤ s.size) : ((s.extract at_ (at_ + t.size)).toList == t.toList) = begB s at_ t := by
  have := Lib.occAt_iff_take s.data.toList t.data.toList at_ (by simpa using h)
  unfold Lib.occAt at this
  unfold begB
  rw [this, ba_toList, ba_toList, extract_list, List.drop_take, show at_ + t.size - at_ = t.data.toList.length by simp]
theorem begB_out (s : ByteArray) (at_ : Nat) (t : ByteArray) (hat : at_ ≤ s.size) (h : s.size < at_ + t.size) : begB s at_ t = false := by
  unfold begB
  rw [Bool.eq_false_iff]
  intro hp
  have := (List.isPrefixOf_iff_prefix.1 hp).length_le
  simp at this
  omega

set_option maxRecDepth 100000 in
theorem Begins_any (s : ByteArray) (k : Nat) (t : ByteArray) (w : World) (hs : s.size ≤ 140737488351232) (ht : t.size ≤ 140737488351232) (hk : k ≤ s.size) :
    Calls Try.prog 53 #[.string s, .int .i64 k, .string t] w fun e w' => e = .returned (.bool (begB s k t)) ∧ w' = w := by
  have w1 : IntKind.i64.wrap ((s.size : Int) - t.size) = s.size - t.size := IntWalk.i64_in _ (by omega)
  have w2 : IntKind.i64.wrap ((k : Int) + t.size) = ((k + t.size : Nat) : Int) := by rw [IntWalk.i64_in _ (by omega)]; omega
  have h0 : (0 : Int) ≤ k := by omega
  by_cases h : k + t.size ≤ s.size
  · have h1 : (k : Int) ≤ s.size - t.size := by omega
    have hb := begB_in s k t h
    generalize begB s k t = B at *
    go_enter Try.func53, Try.ntmps53
    go_wp2
    go_ret
    exact ⟨rfl, rfl⟩
  · have h1 : ¬ (k : Int) ≤ s.size - t.size := by omega
    have hb := begB_out s k t hk (by omega)
    rw [hb]
    go_enter Try.func53, Try.ntmps53
    go_wp2
    go_ret
    exact ⟨rfl, rfl⟩

theorem Find_any (s t : ByteArray) (w : World) (hs : s.size ≤ 100000) (m : Int) (hm : w.cell? ⟨0, 0, none⟩ = some (.int .i64 m)) :
    Calls Try.prog 20 #[.string s, .string t] w fun e w' => e = .returned (.int .i64 (Lib.index s.data.toList t.data.toList)) ∧ w' = w := by
  go_enter Try.func20, Try.ntmps20
  go_wp2_with (go_at_call 49; refine (Try.strings_Index s t m w (by omega) hm).mono ?_; rintro e w1 ⟨rfl, rfl⟩)
  go_ret
  exact ⟨rfl, rfl⟩

theorem index_le (l t : List UInt8) : Lib.index l t ≤ l.length - t.length ∨ Lib.index l t = -1 := by
  induction l with
  | nil => unfold Lib.index; cases t <;> simp
  | cons c r ih =>
    unfold Lib.index
    split
    · rename_i h
      have := (List.isPrefixOf_iff_prefix.1 h).length_le
      left; omega
    · split
      · right; rfl
      · rename_i h; simp at h; left; rcases ih with h2 | h2
        · simp; omega
        · exact absurd h2 h

set_option maxRecDepth 100000 in
set_option maxHeartbeats 1000000 in
theorem FindR_any (s t : ByteArray) (w : World) (hs : s.size ≤ 100000) (ht : t.size ≤ 100000) :
    Calls Try.prog 21 #[.string s, .string t] w fun e w' => e = .returned (.int .i64 (Lib.index s.data.toList t.data.toList)) ∧ w' = w := by
  have w1 : IntKind.i64.wrap ((s.size : Int) - t.size) = s.size - t.size := IntWalk.i64_in _ (by omega)
  go_enter Try.func21, Try.ntmps21
  go_wp2
  go_loop [5] (fun i => ∃ k : Nat, i = .int .i64 k ∧ k ≤ s.size + 1 ∧ Hid (∀ j, j < k → j + t.size ≤ s.size → begB s j t = false)) (fun i => s.size + 2 - (intOf i).toNat)
  case atStart => exact ⟨0, rfl, by omega, fun j hj => absurd hj (Nat.not_lt_zero _)⟩
  case round =>
    obtain ⟨k, rfl, hk, hrel⟩ := hrel
    by_cases h : k + t.size ≤ s.size
    · have h1 : (k : Int) ≤ s.size - t.size := by omega
      have hb := begB_in s k t h
      have w2 : IntKind.i64.wrap ((k : Int) + t.size) = ((k + t.size : Nat) : Int) := by rw [IntWalk.i64_in _ (by omega)]; omega
      cases hq : begB s k t
      · rw [hq] at hb
        have HQ := Lib.hid hq
        clear hq
        go_wp2
        exact ⟨⟨k + 1, by go_num, by omega, fun j hj hj2 => by
          rcases Nat.lt_or_eq_of_le (Nat.le_of_lt_succ hj) with c | c
          · exact hrel.out j c hj2
          · rw [c]; exact HQ.out⟩, by simp [intOf]; omega⟩
      · rw [hq] at hb
        have HQ := Lib.hid hq
        clear hq
        have hfin : (k : Int) = Lib.index s.data.toList t.data.toList := by
          refine (Lib.index_first (i := k) (by simp; omega) HQ.out fun j hj => ?_).symm
          exact hrel.out j hj (by omega)
        have HF := Lib.hid hfin
        clear hfin
        go_wp2
        go_ret
        exact ⟨ret_int HF.out, rfl⟩
    · have h1 : ¬ (k : Int) ≤ s.size - t.size := by omega
      have hfin : (-1 : Int) = Lib.index s.data.toList t.data.toList := by
        refine (Lib.index_none fun j hj => ?_).symm
        by_cases hj2 : j + t.size ≤ s.size
        · exact hrel.out j (by omega) hj2
        · exact begB_out s j t (by simpa using hj) (by omega)
      have HF := Lib.hid hfin
      clear hfin
      go_wp2
      go_ret
      exact ⟨ret_int HF.out, rfl⟩
end Go.Proofs.Ytndoloohdloflab
