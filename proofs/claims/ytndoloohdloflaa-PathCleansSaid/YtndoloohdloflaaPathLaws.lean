/- Package path answers as the document says on one word: the walks of the laws PathWords and PathLaws; no condition. -/
import Derived.Test.YtndoloohdloflaaPathMath
namespace Go.Proofs.Ytndoloohdloflaa
open Go.RowKit

set_option maxHeartbeats 400000 in
theorem Last_walk (s : ByteArray) (w : World) (hs : s.size ≤ 900000) :
    Calls Try.prog 43 #[.string s] w fun e w' => e = .returned (.string (lstB s)) ∧ Below w.heap.size w w' := by
  have HC := Lib.hid (Clean_walk s · hs)
  have hc := cleanB_le s
  unfold lstB ndB
  generalize cleanB s = c at *
  have HI := Lib.hid (slash_any c · (by omega))
  obtain ⟨b1, b2⟩ := li_b 47 c
  generalize li 47 c = i at *
  have w1 : IntKind.i64.wrap (i + 1) = i + 1 := IntWalk.i64_in _ (by omega)
  have h0 : 0 ≤ i + 1 := by omega
  have h1 : i + 1 ≤ c.size := by omega
  go_enter Try.func43, Try.ntmps43
  go_wp2_with (first | (go_at_call 40; refine (HC.out _).mono ?_; rintro e w1 ⟨rfl, HB⟩) | (go_at_call 74; refine (HI.out _).mono ?_; rintro e w1 ⟨rfl, rfl⟩))
  try go_quiet (first | (go_at_call 74; exact Calls.quiet_of_same (HI.out _)))
  try go_wp2
  go_ret
  exact ⟨rfl, HB⟩

set_option maxHeartbeats 400000 in
theorem Parent_walk (s : ByteArray) (w : World) (hs : s.size ≤ 900000) :
    Calls Try.prog 42 #[.string s] w fun e w' => e = .returned (.string (parB s)) ∧ Below w.heap.size w w' := by
  have HC := Lib.hid (Clean_walk s · hs)
  have hc := cleanB_le s
  unfold parB
  generalize cleanB s = c at *
  have HI := Lib.hid (slash_any c · (by omega))
  obtain ⟨b1, b2⟩ := li_b 47 c
  generalize li 47 c = i at *
  have h0 : 0 ≤ max 0 i := by omega
  have h1 : max 0 i ≤ c.size := by omega
  go_enter Try.func42, Try.ntmps42
  go_wp2_with (first | (go_at_call 40; refine (HC.out _).mono ?_; rintro e w1 ⟨rfl, HB⟩) | (go_at_call 74; refine (HI.out _).mono ?_; rintro e w1 ⟨rfl, rfl⟩))
  go_ret
  exact ⟨rfl, HB⟩

set_option maxHeartbeats 400000 in
theorem Join_walk (a b : ByteArray) (w : World) (hs : a.size + b.size ≤ 800000) :
    Calls Try.prog 41 #[.string a, .string b] w fun e w' => e = .returned (.string (joinB a b)) ∧ Below w.heap.size w w' := by
  have hz : (a ++ slB ++ b).size ≤ 900000 := by rw [ByteArray.size_append, ByteArray.size_append, show slB.size = 1 from rfl]; omega
  have HC := Lib.hid (Clean_walk (a ++ slB ++ b) · hz)
  unfold joinB
  clear hz
  go_enter Try.func41, Try.ntmps41
  go_wp2_with fail
  refine (HC.out _).mono ?_
  rintro e w1 ⟨rfl, HB⟩
  go_wp2
  go_ret
  exact ⟨rfl, HB⟩

theorem bs3 {w w1 w2 : World} (h : Below w.heap.size w w1) (k : Below w1.heap.size w1 w2) : Below w.heap.size w w2 := h.trans (k.mono h.size)

set_option maxHeartbeats 400000 in
theorem pathAlive (w : World) : Calls Try.prog 31 #[] w fun e w' => e = .returned (.bool true) ∧ Below w.heap.size w w' := by
  have M1 : Hid (∀ w, Calls Try.prog 40 #[.string ⟨#[46, 47, 97, 47, 47, 98, 47, 46, 46, 47, 99, 47]⟩] w fun e w' => e = .returned (.string ⟨#[97, 47, 99]⟩) ∧ Below w.heap.size w w') := fun w => by
    have h := Clean_walk ⟨#[46, 47, 97, 47, 47, 98, 47, 46, 46, 47, 99, 47]⟩ w (by decide)
    rw [show cleanB ⟨#[46, 47, 97, 47, 47, 98, 47, 46, 46, 47, 99, 47]⟩ = ⟨#[97, 47, 99]⟩ by decide +kernel] at h
    exact h
  have M2 : Hid (∀ w, Calls Try.prog 36 #[.string ⟨#[115, 114, 99, 47, 120, 46, 99]⟩] w fun e w' => e = .returned (.string ⟨#[46, 99]⟩) ∧ w' = w) := fun w => by
    have h := Suffix_any ⟨#[115, 114, 99, 47, 120, 46, 99]⟩ w (by decide)
    rw [show sfB ⟨#[115, 114, 99, 47, 120, 46, 99]⟩ = ⟨#[46, 99]⟩ by decide +kernel] at h
    exact h
  have M3 : Hid (∀ w, Calls Try.prog 38 #[.string ⟨#[115, 114, 99, 47, 120, 46, 99]⟩] w fun e w' => e = .returned (.string ⟨#[115, 114, 99, 47, 120]⟩) ∧ w' = w) := fun w => by
    have h := Base_any ⟨#[115, 114, 99, 47, 120, 46, 99]⟩ w (by decide)
    rw [show bsB ⟨#[115, 114, 99, 47, 120, 46, 99]⟩ = ⟨#[115, 114, 99, 47, 120]⟩ by decide +kernel] at h
    exact h
  have M4 : Hid (∀ w, Calls Try.prog 32 #[.string ⟨#[120]⟩] w fun e w' => e = .returned (.string ⟨#[46, 47]⟩) ∧ w' = w) := fun w => by
    have h := Dir_any ⟨#[120]⟩ w (by decide)
    rw [show dirB ⟨#[120]⟩ = ⟨#[46, 47]⟩ by decide +kernel] at h
    exact h
  have M5 : Hid (∀ w, Calls Try.prog 43 #[.string ⟨#[97, 47, 98]⟩] w fun e w' => e = .returned (.string ⟨#[98]⟩) ∧ Below w.heap.size w w') := fun w => by
    have h := Last_walk ⟨#[97, 47, 98]⟩ w (by decide)
    rw [show lstB ⟨#[97, 47, 98]⟩ = ⟨#[98]⟩ by decide +kernel] at h
    exact h
  go_enter Try.func31, Try.ntmps31
  go_wp2_with fail
  refine (M1.out _).mono ?_
  rintro e w1 ⟨rfl, HB1⟩
  go_wp2_with fail
  refine (M2.out _).mono ?_
  rintro e w2 ⟨rfl, rfl⟩
  go_wp2_with fail
  refine (M3.out _).mono ?_
  rintro e w3 ⟨rfl, rfl⟩
  go_wp2_with fail
  refine (M4.out _).mono ?_
  rintro e w4 ⟨rfl, rfl⟩
  go_wp2_with fail
  refine (M5.out _).mono ?_
  rintro e w5 ⟨rfl, HB2⟩
  go_wp2_with fail
  go_ret
  exact ⟨rfl, bs3 HB1 HB2⟩

set_option maxHeartbeats 1000000 in
theorem pathWords_walk (s : ByteArray) (w : World) (hs : s.size ≤ 140737488351232) :
    Calls Try.prog 6 #[.string s] w fun e w' => e = .returned (.bool true) ∧ Below w.heap.size w w' := by
  have HA := Lib.hid pathAlive
  by_cases c1 : 5000 < s.size
  · have c1' : (5000 : Int) < s.size := by omega
    go_enter Try.func6, Try.ntmps6
    go_wp2_with (first | (go_at_call 31; refine (HA.out _).mono ?_; rintro e w1 ⟨rfl, HB1⟩))
    go_ret
    exact ⟨rfl, HB1⟩
  have c1' : ¬ (5000 : Int) < s.size := by omega
  have H1 := Lib.hid (Dir_any s · hs)
  have H2 := Lib.hid (refDir_any s · hs)
  have H3 := Lib.hid (NotDir_any s · hs)
  have H4 := Lib.hid (refNotDir_any s · hs)
  have H5 := Lib.hid (Suffix_any s · hs)
  have H6 := Lib.hid (refSuffix_any s · hs)
  have H7 := Lib.hid (Base_any s · hs)
  have H8 := Lib.hid (refBase_any s · hs)
  go_enter Try.func6, Try.ntmps6
  go_wp2_with (first
    | (go_at_call 31; refine (HA.out _).mono ?_; rintro e w1 ⟨rfl, HB1⟩)
    | (go_at_call 32; refine (H1.out _).mono ?_; rintro e w' ⟨rfl, rfl⟩)
    | (go_at_call 33; refine (H2.out _).mono ?_; rintro e w' ⟨rfl, rfl⟩)
    | (go_at_call 34; refine (H3.out _).mono ?_; rintro e w' ⟨rfl, rfl⟩)
    | (go_at_call 35; refine (H4.out _).mono ?_; rintro e w' ⟨rfl, rfl⟩)
    | (go_at_call 36; refine (H5.out _).mono ?_; rintro e w' ⟨rfl, rfl⟩)
    | (go_at_call 37; refine (H6.out _).mono ?_; rintro e w' ⟨rfl, rfl⟩)
    | (go_at_call 38; refine (H7.out _).mono ?_; rintro e w' ⟨rfl, rfl⟩)
    | (go_at_call 39; refine (H8.out _).mono ?_; rintro e w' ⟨rfl, rfl⟩))
  go_ret
  exact ⟨rfl, HB1⟩

set_option maxHeartbeats 1000000 in
theorem pathLaws_walk (s : ByteArray) (w : World) (hs : s.size ≤ 140737488351232) :
    Calls Try.prog 7 #[.string s] w fun e w' => e = .returned (.bool true) ∧ Below w.heap.size w w' := by
  have HA := Lib.hid pathAlive
  by_cases c1 : 5000 < s.size
  · have c1' : (5000 : Int) < s.size := by omega
    go_enter Try.func7, Try.ntmps7
    go_wp2_with (first | (go_at_call 31; refine (HA.out _).mono ?_; rintro e w1 ⟨rfl, HB1⟩))
    go_ret
    exact ⟨rfl, HB1⟩
  have c1' : ¬ (5000 : Int) < s.size := by omega
  have z1 := cleanB_le s
  have z2 : (parB (cleanB s)).size ≤ s.size := by have := cleanB_le (cleanB s); unfold parB; rw [ByteArray.size_extract]; omega
  have z3 : (lstB (cleanB s)).size ≤ s.size := by have := cleanB_le (cleanB s); have := ndB_le (cleanB (cleanB s)); unfold lstB; omega
  have k1 := clean_clean s
  have k2 : joinB (parB (cleanB s)) (lstB (cleanB s)) = cleanB s := join_back _ (goods_names s)
  have k3 := bs_sf s
  have H1 := Lib.hid (Clean_walk s · (by omega))
  have H2 := Lib.hid (Clean_walk (cleanB s) · (by omega))
  have H3 := Lib.hid (Parent_walk (cleanB s) · (by omega))
  have H4 := Lib.hid (Last_walk (cleanB s) · (by omega))
  have H5 := Lib.hid (Join_walk (parB (cleanB s)) (lstB (cleanB s)) · (by omega))
  have H6 := Lib.hid (Dir_any s · hs)
  have H7 := Lib.hid (NotDir_any s · hs)
  have H8 := Lib.hid (Base_any s · hs)
  have H9 := Lib.hid (Suffix_any s · hs)
  have n1 := ndB_le s
  have n2 : (bsB s).size ≤ s.size := by unfold bsB; rw [ByteArray.size_extract]; omega
  have n3 := sfB_le s
  have n4 : (dirB s).size ≤ s.size + 2 := by
    unfold dirB; split
    · show 2 ≤ _; omega
    · rw [ByteArray.size_extract]; omega
  have hd : (li 47 s < 0 ∧ ndB s = s) ∨ (dirB s ++ ndB s = s ∧ ndB s ≠ s) := by
    by_cases h : li 47 s < 0
    · exact .inl ⟨h, nd_none s h⟩
    · exact .inr (dir_nd s h)
  rw [k1] at H2; rw [k2] at H5
  generalize parB (cleanB s) = pa at *
  generalize lstB (cleanB s) = la at *
  generalize cleanB s = c at *
  clear k1 k2
  have HK := Lib.hid k3
  clear k3
  rcases hd with ⟨_, he⟩ | ⟨he, hne⟩
  · rw [he] at H7
    have eq0 : ((⟨#[]⟩ : ByteArray) ++ s).toList = s.toList := by rw [ba_toList, ba_toList]; simp
    clear he n1
    generalize bsB s = bs at *
    generalize sfB s = sf at *
    have eq1 : (bs ++ sf).toList = s.toList := by rw [HK.out]
    clear HK
    go_enter Try.func7, Try.ntmps7
    go_wp2_with fail
    refine (HA.out _).mono ?_
    rintro e w1 ⟨rfl, HB1⟩
    go_wp2_with fail
    refine (H1.out _).mono ?_
    rintro e w2 ⟨rfl, HB2⟩
    go_wp2_with fail
    refine (H6.out _).mono ?_
    rintro e w3 ⟨rfl, rfl⟩
    go_wp2_with fail
    refine (H7.out _).mono ?_
    rintro e w3 ⟨rfl, rfl⟩
    go_wp2_with fail
    refine (H2.out _).mono ?_
    rintro e w3 ⟨rfl, HB3⟩
    go_wp2_with fail
    refine (H3.out _).mono ?_
    rintro e w4 ⟨rfl, HB4⟩
    go_wp2_with fail
    refine (H4.out _).mono ?_
    rintro e w5 ⟨rfl, HB5⟩
    go_wp2_with fail
    refine (H5.out _).mono ?_
    rintro e w6 ⟨rfl, HB6⟩
    go_wp2_with fail
    refine (H8.out _).mono ?_
    rintro e w7 ⟨rfl, rfl⟩
    go_wp2_with fail
    refine (H9.out _).mono ?_
    rintro e w7 ⟨rfl, rfl⟩
    go_wp2_with fail
    refine (H7.out _).mono ?_
    rintro e w7 ⟨rfl, rfl⟩
    go_wp2_with fail
    go_ret
    exact ⟨ret_bool (by simp), bs3 (bs3 (bs3 (bs3 (bs3 HB1 HB2) HB3) HB4) HB5) HB6⟩
  · have ne0 : ((ndB s).toList == s.toList) = false := by rw [ba_toList, ba_toList, beq_eq_false_iff_ne]; exact fun e => hne (ba_ext e)
    clear hne
    generalize bsB s = bs at *
    generalize sfB s = sf at *
    generalize dirB s = d at *
    generalize ndB s = n at *
    have eq1 : (bs ++ sf).toList = s.toList := by rw [HK.out]
    have eq2 : (d ++ n).toList = s.toList := by rw [he]
    clear HK he
    go_enter Try.func7, Try.ntmps7
    go_wp2_with fail
    refine (HA.out _).mono ?_
    rintro e w1 ⟨rfl, HB1⟩
    go_wp2_with fail
    refine (H1.out _).mono ?_
    rintro e w2 ⟨rfl, HB2⟩
    go_wp2_with fail
    refine (H6.out _).mono ?_
    rintro e w3 ⟨rfl, rfl⟩
    go_wp2_with fail
    refine (H7.out _).mono ?_
    rintro e w3 ⟨rfl, rfl⟩
    go_wp2_with fail
    refine (H2.out _).mono ?_
    rintro e w3 ⟨rfl, HB3⟩
    go_wp2_with fail
    refine (H3.out _).mono ?_
    rintro e w4 ⟨rfl, HB4⟩
    go_wp2_with fail
    refine (H4.out _).mono ?_
    rintro e w5 ⟨rfl, HB5⟩
    go_wp2_with fail
    refine (H5.out _).mono ?_
    rintro e w6 ⟨rfl, HB6⟩
    go_wp2_with fail
    refine (H8.out _).mono ?_
    rintro e w7 ⟨rfl, rfl⟩
    go_wp2_with fail
    refine (H9.out _).mono ?_
    rintro e w7 ⟨rfl, rfl⟩
    go_wp2_with fail
    refine (H7.out _).mono ?_
    rintro e w7 ⟨rfl, rfl⟩
    go_wp2_with fail
    go_ret
    exact ⟨ret_bool (by simp), bs3 (bs3 (bs3 (bs3 (bs3 HB1 HB2) HB3) HB4) HB5) HB6⟩
end Go.Proofs.Ytndoloohdloflaa
