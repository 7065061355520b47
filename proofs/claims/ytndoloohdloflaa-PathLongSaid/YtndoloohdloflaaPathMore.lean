/- The walks of the laws PathCleans and PathLong; no condition. -/
import Derived.Test.YtndoloohdloflaaPathValid
namespace Go.Proofs.Ytndoloohdloflaa
open Go.RowKit

set_option maxHeartbeats 2000000 in
theorem pathCleans_walk (p q : ByteArray) (w : World) (hp : p.size ≤ 140737488351232) (hq : q.size ≤ 140737488351232) :
    Calls Try.prog 9 #[.string p, .string q] w fun e w' => e = .returned (.bool true) ∧ Below w.heap.size w w' := by
  have HA := Lib.hid pathAlive
  by_cases c1 : 5000 < p.size
  · have c1' : (5000 : Int) < p.size := by omega
    go_enter Try.func9, Try.ntmps9
    go_wp2_with (first | (go_at_call 31; refine (HA.out _).mono ?_; rintro e w1 ⟨rfl, HB1⟩))
    go_ret
    exact ⟨rfl, HB1⟩
  have c1' : ¬ (5000 : Int) < p.size := by omega
  by_cases c2 : 5000 < q.size
  · have c2' : (5000 : Int) < q.size := by omega
    go_enter Try.func9, Try.ntmps9
    go_wp2_with (first | (go_at_call 31; refine (HA.out _).mono ?_; rintro e w1 ⟨rfl, HB1⟩))
    go_ret
    exact ⟨rfl, HB1⟩
  have c2' : ¬ (5000 : Int) < q.size := by omega
  have hz : (p ++ slB ++ q).size ≤ 20000 := by rw [ByteArray.size_append, ByteArray.size_append, show slB.size = 1 from rfl]; omega
  have H1 := Lib.hid (Clean_walk p · (by omega))
  have H2 := Lib.hid (refClean_walk p · (by omega))
  have H3 := Lib.hid (Valid_walk p · (by omega))
  have H4 := Lib.hid (refValid_walk p · (by omega))
  have H5 := Lib.hid (Parent_walk p · (by omega))
  have H6 := Lib.hid (refParent_walk p · (by omega))
  have H7 := Lib.hid (Last_walk p · (by omega))
  have H8 := Lib.hid (refTail_walk p · (by omega))
  have H9 := Lib.hid (Join_walk p q · (by omega))
  have H10 : Hid (∀ w, Calls Try.prog 45 #[.string (p ++ ⟨#[47]⟩ ++ q)] w fun e w' => e = .returned (.string (joinB p q)) ∧ Below w.heap.size w w') := fun w => refClean_walk (p ++ slB ++ q) w (by omega)
  generalize cleanB p = a1 at *
  generalize validB p = a2 at *
  generalize parB p = a3 at *
  generalize lstB p = a4 at *
  generalize joinB p q = a5 at *
  clear hz
  go_enter Try.func9, Try.ntmps9
  go_wp2_with fail
  refine (HA.out _).mono ?_
  rintro e w1 ⟨rfl, HB1⟩
  go_wp2_with fail
  refine (H1.out _).mono ?_
  rintro e w2 ⟨rfl, HB2⟩
  go_wp2_with fail
  refine (H2.out _).mono ?_
  rintro e w3 ⟨rfl, HB3⟩
  go_wp2_with fail
  refine (H3.out _).mono ?_
  rintro e w4 ⟨rfl, HB4⟩
  go_wp2_with fail
  refine (H4.out _).mono ?_
  rintro e w5 ⟨rfl, HB5⟩
  go_wp2_with fail
  refine (H5.out _).mono ?_
  rintro e w6 ⟨rfl, HB6⟩
  go_wp2_with fail
  refine (H6.out _).mono ?_
  rintro e w7 ⟨rfl, HB7⟩
  go_wp2_with fail
  refine (H7.out _).mono ?_
  rintro e w8 ⟨rfl, HB8⟩
  go_wp2_with fail
  refine (H8.out _).mono ?_
  rintro e w9 ⟨rfl, HB9⟩
  go_wp2_with fail
  refine (H9.out _).mono ?_
  rintro e w10 ⟨rfl, HB10⟩
  go_wp2_with fail
  refine (H10.out _).mono ?_
  rintro e w11 ⟨rfl, HB11⟩
  go_wp2_with fail
  go_ret
  exact ⟨ret_bool (by simp), bs3 (bs3 (bs3 (bs3 (bs3 (bs3 (bs3 (bs3 (bs3 (bs3 HB1 HB2) HB3) HB4) HB5) HB6) HB7) HB8) HB9) HB10) HB11⟩

/-! ### PathLong -/
def aas (n : Nat) : ByteArray := mk (List.replicate n 97)
theorem aas_size (n : Nat) : (aas n).size = n := by simp [aas, mk, ByteArray.size]
theorem aas_succ (n : Nat) : aas n ++ ⟨#[97]⟩ = aas (n + 1) := by
  apply ba_ext; rw [app_list]; show List.replicate n 97 ++ [97] = List.replicate (n + 1) 97; rw [List.replicate_succ']
theorem aas_good (n : Nat) (h : 1 ≤ n) : Good (aas n) := by
  refine ⟨?_, ?_, ?_, ?_⟩
  · intro e; have := congrArg List.length e; simp [aas, mk] at this; omega
  · intro e
    have h2 : (97 : UInt8) ∈ (aas n).data.toList := List.mem_replicate.2 ⟨by omega, rfl⟩
    rw [e] at h2; simp at h2
  · intro e
    have h2 : (97 : UInt8) ∈ (aas n).data.toList := List.mem_replicate.2 ⟨by omega, rfl⟩
    rw [e] at h2; simp at h2
  · intro c hc
    rw [(List.mem_replicate.1 hc).2]; decide
def longP (n k : Nat) : ByteArray := joinSl (List.replicate k (aas n))
theorem longP_one (n : Nat) : longP n 1 = aas n := by apply ba_ext; show Lib.join _ _ = _; simp [Lib.join]
theorem longP_succ (n k : Nat) (hk : 1 ≤ k) : longP n k ++ slB ++ aas n = longP n (k + 1) := by
  apply ba_ext
  unfold longP
  rw [List.replicate_succ', joinSl_snoc _ _ (by intro e; have := congrArg List.length e; simp at this; omega), app_list, app_list]; simp [slB]
theorem longP_size (n k : Nat) : (longP n k).size = k * (n + 1) - 1 := by
  unfold longP; rw [joinSl_size]; simp [tot, aas_size]
theorem longP_goods (n k : Nat) (hn : 1 ≤ n) : Goods (List.replicate k (aas n)) := fun x hx => by rw [(List.mem_replicate.1 hx).2]; exact aas_good n hn
theorem longP_clean (n k : Nat) (hn : 1 ≤ n) : cleanB (longP n k) = longP n k := clean_join _ (longP_goods n k hn)
theorem aas_Z (n : Nat) : hasZ (aas n) = false := by
  unfold hasZ; rw [List.any_eq_false]; intro c hc; rw [(List.mem_replicate.1 hc).2]; decide
theorem longP_valid (n k : Nat) (hn : 1 ≤ n) (hk : 1 ≤ k) : validB (longP n k) = (decide ((n : Int) ≤ 255) && decide (((longP n k).size : Int) ≤ 1000)) := by
  unfold validB
  rw [longP_clean n k hn, decide_eq_true rfl, show hasZ (longP n k) = false by unfold longP; rw [hasZ_join]; simp [aas_Z], show namesB (longP n k) = List.replicate k (aas n) from names_join _ (longP_goods n k hn)]
  rw [show (List.replicate k (aas n)).all short = decide ((n : Int) ≤ 255) by
    rw [Bool.eq_iff_iff, List.all_eq_true, decide_eq_true_eq]
    constructor
    · intro h
      have := h (aas n) (List.mem_replicate.2 ⟨by omega, rfl⟩)
      unfold short at this; rw [decide_eq_true_eq, aas_size] at this; omega
    · intro h x hx
      rw [(List.mem_replicate.1 hx).2]; unfold short; rw [decide_eq_true_eq, aas_size]; omega]
  rw [Bool.true_and, Bool.not_false, Bool.true_and, Bool.and_comm]
  congr 1
  rw [decide_eq_decide]; omega

set_option maxHeartbeats 2000000 in
theorem pathLong_walk (n k : Int) (w : World) (_hn : (Lit.int .i64 n).wf = true) (_hk : (Lit.int .i64 k).wf = true) :
    Calls Try.prog 8 #[.int .i64 n, .int .i64 k] w fun e w' => e = .returned (.bool true) ∧ Below w.heap.size w w' := by
  have HA := Lib.hid pathAlive

  by_cases h : 1 ≤ n ∧ n ≤ 300 ∧ 1 ≤ k ∧ k ≤ 10
  · obtain ⟨h1, h2, h3, h4⟩ := h
    obtain ⟨n, rfl⟩ := Int.eq_ofNat_of_zero_le (show 0 ≤ n by omega)
    obtain ⟨k, rfl⟩ := Int.eq_ofNat_of_zero_le (show 0 ≤ k by omega)
    have g1 : ¬ (n : Int) < 1 := by omega
    have g2 : ¬ (300 : Int) < n := by omega
    have g3 : ¬ (k : Int) < 1 := by omega
    have g4 : ¬ (10 : Int) < k := by omega
    have hm : (k : Nat) * (n + 1) ≤ 10 * 301 := Nat.mul_le_mul (by omega) (by omega)
    have hzs := longP_size n k
    have HV := Lib.hid (Valid_walk (longP n k) · (by omega))
    have HC := Lib.hid (Clean_walk (longP n k) · (by omega))
    rw [longP_valid n k (by omega) (by omega)] at HV
    rw [longP_clean n k (by omega)] at HC
    have hzs2 : (longP n k).size ≤ 3010 := by omega
    clear hzs hm
    go_enter Try.func8, Try.ntmps8
    go_wp2_with fail
    refine (HA.out _).mono ?_
    rintro e w1 ⟨rfl, HB1⟩
    go_wp2_with fail
    go_loop [6, 7] (fun s i => ∃ j : Nat, j ≤ n ∧ i = .int .i64 j ∧ s = .string (aas j)) (fun _ i => n - (intOf i).toNat)
    case atStart => exact ⟨0, Nat.zero_le _, rfl, rfl⟩
    case round =>
      obtain ⟨j, hj, rfl, rfl⟩ := hrel
      have hsz := aas_size j
      have hsc := Lib.hid (aas_succ j)
      by_cases hlt : j < n
      · have hq : (aas j).size ≤ 300 := by omega
        clear hsz
        generalize aas j = s at *
        go_wp2
        exact ⟨⟨j + 1, by omega, by go_num, by rw [hsc.out]⟩, by simp [intOf]; omega⟩
      · obtain rfl : j = n := by omega
        clear hsz hsc
        go_wp2_with fail
        go_loop [8, 9] (fun s i => ∃ m : Nat, 1 ≤ m ∧ m ≤ k ∧ i = .int .i64 m ∧ s = .string (longP j m)) (fun _ i => k - (intOf i).toNat)
        case atStart => exact ⟨1, Nat.le_refl _, by omega, rfl, by rw [longP_one]⟩
        case round =>
          obtain ⟨m, hm1, hm2, rfl, rfl⟩ := hrel
          by_cases hlt2 : m < k
          · have hsc := Lib.hid (longP_succ j m hm1)
            have hs1 := longP_size j m
            have hm3 : m * (j + 1) ≤ 10 * 301 := Nat.mul_le_mul (by omega) (by omega)
            have hq : (longP j m).size ≤ 3010 := by omega
            have hq2 : (aas j).size ≤ 300 := by rw [aas_size]; omega
            unfold slB at hsc
            clear hs1 hm3
            generalize longP j m = s at *
            generalize aas j = a at *
            go_wp2
            exact ⟨⟨m + 1, by omega, by omega, by go_num, by rw [hsc.out]⟩, by simp [intOf]; omega⟩
          · obtain rfl : m = k := by omega
            generalize longP j m = p at *
            go_wp2_with fail
            refine (HV.out _).mono ?_
            rintro e w2 ⟨rfl, HB2⟩
            go_wp2_with (go_at_call 40; refine (HC.out _).mono ?_; rintro e w3 ⟨rfl, HB3⟩)
            all_goals go_ret
            all_goals exact ⟨rfl, by first | exact bs3 (bs3 HB1 HB2) HB3 | exact bs3 HB1 HB2⟩
  · by_cases g1 : n < 1
    · clear h
      go_enter Try.func8, Try.ntmps8
      go_wp2_with (go_at_call 31; refine (HA.out _).mono ?_; rintro e w1 ⟨rfl, HB1⟩)
      go_ret
      exact ⟨rfl, HB1⟩
    by_cases g2 : 300 < n
    · clear h
      go_enter Try.func8, Try.ntmps8
      go_wp2_with (go_at_call 31; refine (HA.out _).mono ?_; rintro e w1 ⟨rfl, HB1⟩)
      go_ret
      exact ⟨rfl, HB1⟩
    by_cases g3 : k < 1
    · clear h
      go_enter Try.func8, Try.ntmps8
      go_wp2_with (go_at_call 31; refine (HA.out _).mono ?_; rintro e w1 ⟨rfl, HB1⟩)
      go_ret
      exact ⟨rfl, HB1⟩
    have g4 : 10 < k := by omega
    clear h
    go_enter Try.func8, Try.ntmps8
    go_wp2_with (go_at_call 31; refine (HA.out _).mono ?_; rintro e w1 ⟨rfl, HB1⟩)
    go_ret
    exact ⟨rfl, HB1⟩
end Go.Proofs.Ytndoloohdloflaa
