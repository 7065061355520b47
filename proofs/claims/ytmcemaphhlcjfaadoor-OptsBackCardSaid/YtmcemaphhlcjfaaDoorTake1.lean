/- Begins, at, sets, Left of the reference: what they answer; conditions: texts that lie in memory. -/
import Derived.Test.YtmcemaphhlcjfaaDoorTakeP
namespace Go.Proofs.YtmcemaphhlcjfaaDoor
open Go.RowKit

theorem bl_eq (c : UInt8) : bl c = isB c := by unfold bl isB; cases c == 32 <;> cases c == 9 <;> cases c == 10 <;> rfl
theorem lft_step (s : ByteArray) (m : Nat) (h : m < s.size) : lftB (s.extract m s.size) = if isB (s.get! m) then lftB (s.extract (m + 1) s.size) else s.extract m s.size := by
  have e : (s.extract m s.size).data.toList = s.get! m :: (s.extract (m + 1) s.size).data.toList := by
    rw [extract_list, extract_list, List.take_of_length_le (by simp), List.drop_eq_getElem_cons (by simpa using h), get_list' s m h, bget s m h]
  unfold lftB
  rw [e, trL_cons, bl_eq]
  split
  · rfl
  · rw [← e]; rfl
theorem lft_end (s : ByteArray) : lftB (s.extract s.size s.size) = s.extract s.size s.size := by
  have e : (s.extract s.size s.size).data.toList = [] := by rw [extract_list]; simp
  unfold lftB
  rw [e]
  exact ba_ext e.symm
theorem ext_self (s : ByteArray) : s.extract 0 s.size = s := ba_ext (by rw [extract_list, List.drop_zero, List.take_of_length_le (by simp)])

set_option maxRecDepth 100000 in
theorem blankR_fn (c : UInt8) (w : World) : Calls Tryd.prog 71 #[.int .u8 c.toNat] w fun e w' => e = .returned (.bool (isB c)) ∧ w' = w := blankR_any c w

set_option maxRecDepth 100000 in
set_option maxHeartbeats 1000000 in
theorem Left_any (s : ByteArray) (w : World) (hs : s.size ≤ 140737488351232) :
    Calls Tryd.prog 41 #[.string s] w fun e w' => e = .returned (.string (lftB s)) ∧ w' = w := by
  obtain ⟨R, hR⟩ : ∃ R, lftB s = R := ⟨_, rfl⟩
  rw [hR]
  have HR : Hid (lftB (s.extract 0 s.size) = R) := by unfold Hid; rw [ext_self]; exact hR
  clear hR
  go_enter Tryd.func41, Tryd.ntmps41
  go_wp2
  go_loopw [3] (fun v wi => ∃ k : Nat, v = .int .i64 k ∧ k ≤ s.size ∧ Hid (lftB (s.extract k s.size) = R) ∧ wi = w) (fun v _ => s.size - (intOf v).toNat)
  case atStart => exact ⟨0, rfl, Nat.zero_le _, HR, rfl⟩
  case round =>
    obtain ⟨k, rfl, hk, hr, rfl⟩ := hrel
    by_cases hlt : k < s.size
    · have q1 : (k : Int) < s.size := by omega
      have hst := lft_step s k hlt
      have hB := Lib.hid (blankR_any (s[k]))
      have hb := bget s k hlt
      rw [← hb] at hst
      cases hq : isB s[k]
      · rw [hq, if_neg (by simp)] at hst
        rw [hq] at hB
        have hE : Hid (s.extract k s.size = R) := by unfold Hid; rw [← hst]; exact hr.out
        clear hst hq hb hr
        go_wp2_with (go_at_call 71; refine (hB.out _).mono ?_; rintro e w' ⟨rfl, rfl⟩)
        go_ret
        exact ⟨ret_str hE.out, rfl⟩
      · rw [hq, if_pos rfl] at hst
        rw [hq] at hB
        have hE : Hid (lftB (s.extract (k + 1) s.size) = R) := by unfold Hid; rw [← hst]; exact hr.out
        clear hst hq hb hr
        go_wp2_with (go_at_call 71; refine (hB.out _).mono ?_; rintro e w' ⟨rfl, rfl⟩)
        exact ⟨⟨k + 1, by go_num, by omega, hE, by trivial⟩, by simp [intOf]; omega⟩
    · obtain rfl : k = s.size := by omega
      have hE : Hid (s.extract s.size s.size = R) := by unfold Hid; rw [← hr.out, lft_end]
      clear hr
      go_wp2
      go_ret
      exact ⟨ret_str (by rw [← hE.out]; simp), rfl⟩

theorem pre_iff' (s t : ByteArray) (k : Nat) (h : k + t.size ≤ s.size) : ((s.extract k (k + t.size)).toList == t.toList) = Lib.hasPrefix (s.data.toList.drop k) t.data.toList := by
  have h1 := pre_iff (s.extract k s.size) t
  have e1 : (s.extract k s.size).data.toList = s.data.toList.drop k := by rw [extract_list, List.take_of_length_le (by simp)]
  have e2 : (s.extract k s.size).extract 0 t.size = s.extract k (k + t.size) := by
    refine ba_ext ?_
    rw [extract_list, extract_list, extract_list, List.take_of_length_le (l := s.data.toList) (by simp), List.drop_zero, List.drop_take]
    congr 1; omega
  rw [e1, e2] at h1
  exact h1
theorem bgn_ext (s t : ByteArray) (k : Nat) (h : k + t.size ≤ s.size) : ((s.extract k (k + t.size)).toList == t.toList) = bgn s k t := pre_iff' s t k h
theorem bgn_past (s t : ByteArray) (k : Nat) (ht : 0 < t.size) (h : ¬ k + t.size ≤ s.size) : bgn s k t = false := by
  cases hb : bgn s k t
  · rfl
  · exact absurd (bgn_lt hb ht) h

set_option maxRecDepth 100000 in
theorem Begins_any (s t : ByteArray) (k : Nat) (w : World) (hs : s.size ≤ 140737488351232) (hk : k ≤ s.size) (ht : 0 < t.size) (ht2 : t.size ≤ 100) :
    Calls Tryd.prog 97 #[.string s, .int .i64 k, .string t] w fun e w' => e = .returned (.bool (bgn s k t)) ∧ w' = w := by
  have w1 : IntKind.i64.wrap ((s.size : Int) - (t.size : Int)) = (s.size : Int) - (t.size : Int) := IntWalk.i64_in _ (by omega)
  have w2 : IntKind.i64.wrap ((k : Int) + (t.size : Int)) = ((k + t.size : Nat) : Int) := by rw [IntWalk.i64_in _ (by omega)]; omega
  by_cases h : k + t.size ≤ s.size
  · have HB := Lib.hid (bgn_ext s t k h)
    have q1 : (k : Int) ≤ (s.size : Int) - (t.size : Int) := by omega
    have q2 : k ≤ k + t.size := by omega
    go_enter Tryd.func97, Tryd.ntmps97
    go_wp2
    go_ret
    exact ⟨ret_bool HB.out, rfl⟩
  · have HB := Lib.hid (bgn_past s t k ht h)
    have q1 : ¬ (k : Int) ≤ (s.size : Int) - (t.size : Int) := by omega
    go_enter Tryd.func97, Tryd.ntmps97
    go_wp2
    go_ret
    exact ⟨ret_bool HB.out.symm, rfl⟩

theorem at_any (s t : ByteArray) (k : Nat) (w : World) (hs : s.size ≤ 140737488351232) (hk : k ≤ s.size) (ht : 0 < t.size) (ht2 : t.size ≤ 100) :
    Calls Tryd.prog 69 #[.string s, .int .i64 k, .string t] w fun e w' => e = .returned (.bool (bgn s k t)) ∧ w' = w := by
  have HB := Lib.hid fun w => Begins_any s t k w hs hk ht ht2
  go_enter Tryd.func69, Tryd.ntmps69
  go_wp2_with (go_at_call 97; refine (HB.out _).mono ?_; rintro e w' ⟨rfl, rfl⟩)
  go_ret
  exact ⟨rfl, rfl⟩

set_option maxRecDepth 100000 in
set_option maxHeartbeats 1000000 in
theorem sets_go (s : ByteArray) (k : Nat) (w : World) (b1 b2 b3 : Bool) (q1 : (k : Int) < s.size) (hk : k < s.size) (h4 : (((s[k]).toNat : Int) == 61) = b3)
    (HB1 : Hid (∀ w, Calls Tryd.prog 69 #[.string s, .int .i64 k, .string ⟨#[58, 61]⟩] w fun e w' => e = .returned (.bool b1) ∧ w' = w))
    (HB2 : Hid (∀ w, Calls Tryd.prog 69 #[.string s, .int .i64 k, .string ⟨#[58, 58, 61]⟩] w fun e w' => e = .returned (.bool b2) ∧ w' = w)) :
    Calls Tryd.prog 39 #[.string s, .int .i64 k] w fun e w' => e = .returned (.bool (b3 || (b1 || b2))) ∧ w' = w := by
  cases b1 <;> cases b2 <;> cases b3
  all_goals
    go_enter Tryd.func39, Tryd.ntmps39
    go_wp2_with fail
    refine (HB1.out _).mono ?_
    rintro e w' ⟨rfl, rfl⟩
    go_wp2_with fail
    refine (HB2.out _).mono ?_
    rintro e w' ⟨rfl, rfl⟩
    go_wp2
    go_ret
    exact ⟨rfl, rfl⟩
theorem u8i_eq (c d : UInt8) : ((c.toNat : Int) == (d.toNat : Int)) = (c == d) := u8_eq c d
theorem sets_any (s : ByteArray) (k : Nat) (w : World) (hs : s.size ≤ 140737488351232) (hk : k < s.size) :
    Calls Tryd.prog 39 #[.string s, .int .i64 k] w fun e w' => e = .returned (.bool (setsB s k)) ∧ w' = w := by
  have e : (((s[k]).toNat : Int) == 61) = (s.get! k == 61) := by
    rw [← bget s k hk]; generalize s[k] = c
    exact u8_eq c 61
  exact sets_go s k w _ _ _ (by omega) hk e (fun w => at_any s bCE k w hs (by omega) (by decide) (by decide)) (fun w => at_any s bCCE k w hs (by omega) (by decide) (by decide))
end Go.Proofs.YtmcemaphhlcjfaaDoor
