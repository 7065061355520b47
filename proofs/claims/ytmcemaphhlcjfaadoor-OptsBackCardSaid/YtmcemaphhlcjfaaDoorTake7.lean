/- A line that is none, or an assignment, taken apart in the program; conditions: texts that lie in memory. -/
import Derived.Test.YtmcemaphhlcjfaaDoorTake6
import Derived.Deep.RegionLaw
namespace Go.Proofs.YtmcemaphhlcjfaaDoor
open Go.RowKit

theorem ext_ext (s : ByteArray) (k j : Nat) : (s.extract k s.size).extract j (s.extract k s.size).size = s.extract (k + j) s.size := by
  refine ba_ext ?_
  rw [extract_list, extract_list, extract_list, List.take_of_length_le (l := s.data.toList) (by simp), List.take_of_length_le (by simp), List.drop_drop]
theorem ext_list (s : ByteArray) (k : Nat) : (s.extract k s.size).data.toList = s.data.toList.drop k := by rw [extract_list, List.take_of_length_le (by simp)]
theorem ext_get (s : ByteArray) (k : Nat) (h : k < s.size) (h2 : 0 < (s.extract k s.size).size) : (s.extract k s.size)[0]'h2 = s[k] := by
  have h3 : 0 < (s.extract k s.size).data.toList.length := by simpa using h2
  have e1 := get_list' (s.extract k s.size) 0 h2
  rw [← e1]
  have e2 : (s.extract k s.size).data.toList[0]'h3 = (s.data.toList.drop k)[0]'(by simp; omega) := by congr 1; exact ext_list s k
  rw [e2, List.getElem_drop]
  exact get_list' s k h

set_option maxRecDepth 100000 in
set_option maxHeartbeats 4000000 in
theorem take_none (s : ByteArray) (w : World) (hs : s.size ≤ 140737488351232) (h : scanI s bEC < 0) :
    Calls Tryd.prog 11 #[.string s] w fun e w' => e = .returned (headV (takeP s)) ∧ Below w.heap.size w w' := by
  have HS : Hid (∀ w, Calls Tryd.prog 33 #[.string s, .string ⟨#[61, 58]⟩] w fun e w' => e = .returned (.int .i64 (scanI s bEC)) ∧ w' = w) := fun w => Scan_any s bEC w hs (by decide)
  have e1 : takeP s = ⟨0, s, bE, bE, bE, 0, false, false⟩ := by unfold takeP; rw [if_pos h]
  rw [e1]
  generalize scanI s bEC = k at *
  clear e1
  go_enter Tryd.func11, Tryd.ntmps11
  go_wp2_with fail
  refine (HS.out _).mono ?_
  rintro e w' ⟨rfl, rfl⟩
  go_wp2
  exact fin8w (tm := 2) (by kernel_rfl) rfl (.int .i64 0) (.string s) (.string ⟨#[]⟩) (.string ⟨#[]⟩) (.string ⟨#[]⟩) (.int .i64 0) (.bool false) (.bool false) (World.alloc_heap_new w _) ((Below.refl _ w).alloc (Nat.le_refl _) _) rfl

set_option maxRecDepth 100000 in
set_option maxHeartbeats 4000000 in
theorem take_sets (s : ByteArray) (w : World) (hs : s.size ≤ 140737488351232) (h0 : ¬ scanI s bEC < 0) (h : setsB s (scanI s bEC).toNat = true) :
    Calls Tryd.prog 11 #[.string s] w fun e w' => e = .returned (headV (takeP s)) ∧ Below w.heap.size w w' := by
  have HS : Hid (∀ w, Calls Tryd.prog 33 #[.string s, .string ⟨#[61, 58]⟩] w fun e w' => e = .returned (.int .i64 (scanI s bEC)) ∧ w' = w) := fun w => Scan_any s bEC w hs (by decide)
  have hin := scanI_in s bEC
  obtain ⟨k, hk⟩ : ∃ k : Nat, scanI s bEC = k := ⟨(scanI s bEC).toNat, by omega⟩
  have hks : k < s.size := by omega
  have hlt0 : k ≤ s.size := by omega
  have H3 : Hid (∀ w, Calls Tryd.prog 34 #[.string (s.extract k s.size), .string ⟨#[58, 58, 61]⟩] w fun e w' => e = .returned (.bool (bgn s k bCCE)) ∧ w' = w) := fun w => by
    have h := Tryd.strings_HasPrefix (s.extract k s.size) bCCE w
    rw [ext_list] at h; exact h
  have H2 : Hid (∀ w, Calls Tryd.prog 34 #[.string (s.extract k s.size), .string ⟨#[58, 61]⟩] w fun e w' => e = .returned (.bool (bgn s k bCE)) ∧ w' = w) := fun w => by
    have h := Tryd.strings_HasPrefix (s.extract k s.size) bCE w
    rw [ext_list] at h; exact h
  have hrz : (s.extract k s.size).size = s.size - k := by simp
  have hrp : 0 < (s.extract k s.size).size := by omega
  have hget := ext_get s k hks hrp
  have hex : ∀ j, (s.extract k s.size).extract j (s.extract k s.size).size = s.extract (k + j) s.size := ext_ext s k
  rw [hk] at HS
  have e1 : takeP s = asgAt s k := by unfold takeP; rw [if_neg h0, if_pos h, hk, Int.toNat_natCast]
  rw [hk, Int.toNat_natCast] at h
  rw [e1]
  clear e1 hin h0
  unfold setsB at h
  obtain ⟨rs, hrs⟩ : ∃ rs, s.extract k s.size = rs := ⟨_, rfl⟩
  rw [hrs] at H3 H2 hrz
  have q0 : (0 : Int) < rs.size := by omega
  cases h3 : bgn s k bCCE
  · cases h2 : bgn s k bCE
    · have h61 : s.get! k = 61 := by rw [h3, h2] at h; simpa using h
      have e2 : asgAt s k = asgP (s.extract 0 k) (s.extract (k + 1) s.size) 0 := by unfold asgAt; rw [h61, if_neg (by decide)]
      have hrp' : 0 < rs.size := by omega
      have hx : (rs[0].toNat : Int) = 61 := by subst hrs; rw [hget, bget s k hks, h61]; rfl
      have ej : rs.extract 1 rs.size = s.extract (k + 1) s.size := by rw [← hrs]; exact hex 1
      have HA := Lib.hid fun w => assignment_0 (s.extract 0 k) (s.extract (k + 1) s.size) w (by simp; omega) (by simp; omega)
      rw [← ej] at e2 HA
      have q1 : 1 ≤ rs.size := by omega
      have q2 : (1 : Int) ≤ rs.size := by omega
      rw [e2]
      rw [h3] at H3
      rw [h2] at H2
      clear h h3 h2 h61 e2 ej hget hex hrp hrz
      obtain ⟨X, hX⟩ : ∃ X, asgP (s.extract 0 k) (rs.extract 1 rs.size) 0 = X := ⟨_, rfl⟩
      rw [hX] at HA ⊢
      clear hX
      obtain ⟨xk, xl, xr, xn, xrc, xs, xd, xh⟩ := X
      unfold headV at HA ⊢
      go_enter Tryd.func11, Tryd.ntmps11
      go_wp2_with fail
      refine (HS.out _).mono ?_
      rintro e w' ⟨rfl, rfl⟩
      go_wp2_with fail
      refine (H3.out _).mono ?_
      rintro e w' ⟨rfl, rfl⟩
      go_wp2_with fail
      refine (H2.out _).mono ?_
      rintro e w' ⟨rfl, rfl⟩
      go_wp2
      first | (go_region_law (first
        | (go_simp; go_at_call 35; refine (HA.out _).mono ?_; rintro e w1 ⟨rfl, hb1⟩; have hz : w1.heap[w.heap.size]? = some (.cells #[.int .i64 0, .string ⟨#[]⟩, .string ⟨#[]⟩, .string ⟨#[]⟩, .string ⟨#[]⟩, .int .i64 0, .bool false, .bool false] 24 (0, 0)) := (hb1.block _ (by simp)).trans (World.alloc_heap_new w _); have HB1 := Lib.hid hb1; have hlt : w.heap.size < w1.heap.size := lt_of_block hz; obtain ⟨c0, c1, c2, c3, c4, c5, c6, c7, f0, f1, f2, f3, f4, f5, f6, f7⟩ := row8 hz; have HZ := Lib.hid hz; clear hz hb1)
        | fail)) | fail
      all_goals
        have hB : Below w.heap.size w w1 := (((Below.refl _ w).alloc (Nat.le_refl _) _).drew).trans (HB1.out.mono (by simp))
        go_wp2
        exact fin8w (tm := 2) (by kernel_rfl) rfl _ _ _ _ _ _ _ _ (set8 HZ.out (.int .i64 xk) (.string xl) (.string xr) (.string xn) (.string xrc) (.int .i64 xs) (.bool xd) (.bool xh)) (put8_below hB (Nat.le_refl _) _ _ _ _ _ _ _ _) rfl
    · have h58 : s.get! k = 58 := (bgn_get h2 0 (by decide)).2
      have h4 : k + 2 ≤ s.size := bgn_lt h2 (by decide)
      have e2 : asgAt s k = asgP (s.extract 0 k) (s.extract (k + 2) s.size) 2 := by unfold asgAt; rw [if_pos h58, h3]; rfl
      have ej : rs.extract 2 rs.size = s.extract (k + 2) s.size := by rw [← hrs]; exact hex 2
      have HA := Lib.hid fun w => assignment_2 (s.extract 0 k) (s.extract (k + 2) s.size) w (by simp; omega) (by simp; omega)
      rw [← ej] at e2 HA
      have q1 : 2 ≤ rs.size := by omega
      have q2 : (2 : Int) ≤ rs.size := by omega
      rw [e2]
      rw [h3] at H3
      rw [h2] at H2
      clear h h3 h2 h58 e2 ej hget hex hrp hrz
      obtain ⟨X, hX⟩ : ∃ X, asgP (s.extract 0 k) (rs.extract 2 rs.size) 2 = X := ⟨_, rfl⟩
      rw [hX] at HA ⊢
      clear hX
      obtain ⟨xk, xl, xr, xn, xrc, xs, xd, xh⟩ := X
      unfold headV at HA ⊢
      go_enter Tryd.func11, Tryd.ntmps11
      go_wp2_with fail
      refine (HS.out _).mono ?_
      rintro e w' ⟨rfl, rfl⟩
      go_wp2_with fail
      refine (H3.out _).mono ?_
      rintro e w' ⟨rfl, rfl⟩
      go_wp2_with fail
      refine (H2.out _).mono ?_
      rintro e w' ⟨rfl, rfl⟩
      go_wp2
      first | (go_region_law (first
        | (go_simp; go_at_call 35; refine (HA.out _).mono ?_; rintro e w1 ⟨rfl, hb1⟩; have hz : w1.heap[w.heap.size]? = some (.cells #[.int .i64 0, .string ⟨#[]⟩, .string ⟨#[]⟩, .string ⟨#[]⟩, .string ⟨#[]⟩, .int .i64 0, .bool false, .bool false] 24 (0, 0)) := (hb1.block _ (by simp)).trans (World.alloc_heap_new w _); have HB1 := Lib.hid hb1; have hlt : w.heap.size < w1.heap.size := lt_of_block hz; obtain ⟨c0, c1, c2, c3, c4, c5, c6, c7, f0, f1, f2, f3, f4, f5, f6, f7⟩ := row8 hz; have HZ := Lib.hid hz; clear hz hb1)
        | fail)) | fail
      all_goals
        have hB : Below w.heap.size w w1 := (((Below.refl _ w).alloc (Nat.le_refl _) _).drew).trans (HB1.out.mono (by simp))
        go_wp2
        exact fin8w (tm := 2) (by kernel_rfl) rfl _ _ _ _ _ _ _ _ (set8 HZ.out (.int .i64 xk) (.string xl) (.string xr) (.string xn) (.string xrc) (.int .i64 xs) (.bool xd) (.bool xh)) (put8_below hB (Nat.le_refl _) _ _ _ _ _ _ _ _) rfl
  · have h58 : s.get! k = 58 := (bgn_get h3 0 (by decide)).2
    have h4 : k + 3 ≤ s.size := bgn_lt h3 (by decide)
    have e2 : asgAt s k = asgP (s.extract 0 k) (s.extract (k + 3) s.size) 2 := by unfold asgAt; rw [if_pos h58, h3]; rfl
    have ej : rs.extract 3 rs.size = s.extract (k + 3) s.size := by rw [← hrs]; exact hex 3
    have HA := Lib.hid fun w => assignment_2 (s.extract 0 k) (s.extract (k + 3) s.size) w (by simp; omega) (by simp; omega)
    rw [← ej] at e2 HA
    have q1 : 3 ≤ rs.size := by omega
    have q2 : (3 : Int) ≤ rs.size := by omega
    rw [e2]
    rw [h3] at H3
    clear h h3 h58 e2 ej hget hex hrp hrz
    obtain ⟨X, hX⟩ : ∃ X, asgP (s.extract 0 k) (rs.extract 3 rs.size) 2 = X := ⟨_, rfl⟩
    rw [hX] at HA ⊢
    clear hX
    obtain ⟨xk, xl, xr, xn, xrc, xs, xd, xh⟩ := X
    unfold headV at HA ⊢
    go_enter Tryd.func11, Tryd.ntmps11
    go_wp2_with fail
    refine (HS.out _).mono ?_
    rintro e w' ⟨rfl, rfl⟩
    go_wp2_with fail
    refine (H3.out _).mono ?_
    rintro e w' ⟨rfl, rfl⟩
    go_wp2
    first | (go_region_law (first
      | (go_simp; go_at_call 35; refine (HA.out _).mono ?_; rintro e w1 ⟨rfl, hb1⟩; have hz : w1.heap[w.heap.size]? = some (.cells #[.int .i64 0, .string ⟨#[]⟩, .string ⟨#[]⟩, .string ⟨#[]⟩, .string ⟨#[]⟩, .int .i64 0, .bool false, .bool false] 24 (0, 0)) := (hb1.block _ (by simp)).trans (World.alloc_heap_new w _); have HB1 := Lib.hid hb1; have hlt : w.heap.size < w1.heap.size := lt_of_block hz; obtain ⟨c0, c1, c2, c3, c4, c5, c6, c7, f0, f1, f2, f3, f4, f5, f6, f7⟩ := row8 hz; have HZ := Lib.hid hz; clear hz hb1)
      | fail)) | fail
    all_goals
      have hB : Below w.heap.size w w1 := (((Below.refl _ w).alloc (Nat.le_refl _) _).drew).trans (HB1.out.mono (by simp))
      go_wp2
      exact fin8w (tm := 2) (by kernel_rfl) rfl _ _ _ _ _ _ _ _ (set8 HZ.out (.int .i64 xk) (.string xl) (.string xr) (.string xn) (.string xrc) (.int .i64 xs) (.bool xd) (.bool xh)) (put8_below hB (Nat.le_refl _) _ _ _ _ _ _ _ _) rfl
end Go.Proofs.YtmcemaphhlcjfaaDoor
