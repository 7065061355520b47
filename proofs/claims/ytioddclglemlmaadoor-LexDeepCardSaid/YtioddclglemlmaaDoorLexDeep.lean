/- LexDeep answers true at every number; condition: the library's one number in its cell. -/
import Derived.Test.YtioddclglemlmaaDoorLexP
namespace Go.Proofs.YtioddclglemlmaaDoor
open Go.RowKit

theorem app_list (a b : ByteArray) : (a ++ b).data.toList = a.data.toList ++ b.data.toList := by simp
theorem open_step (k : Nat) : mk (opens k) ++ ⟨#[36, 40]⟩ = mk (opens (k + 1)) := by
  apply ba_ext; rw [app_list, opens_snoc]; rfl
theorem close_step (n k : Nat) : mk (opens n ++ List.replicate k 41) ++ ⟨#[41]⟩ = mk (opens n ++ List.replicate (k + 1) 41) := by
  apply ba_ext; rw [app_list]
  show opens n ++ List.replicate k 41 ++ [41] = opens n ++ List.replicate (k + 1) 41
  rw [List.replicate_succ', List.append_assoc]
theorem mk_opens_size (n k : Nat) : (mk (opens n ++ List.replicate k 41)).size = 2 * n + k := by
  rw [mk_size, List.length_append, opens_len, List.length_replicate]

set_option maxRecDepth 100000 in
set_option maxHeartbeats 2000000 in
theorem LexDeep_law (n : Int) (b : Bool) (w : World) (_ : (Lit.int .i64 n).wf = true) (hw : 0 < w.heap.size) (m : Int) (hm : w.cell? ⟨0, 0, none⟩ = some (.int .i64 m)) :
    Calls Tryd.prog 4 #[.int .i64 n, .bool b] w fun e w' => e = .returned (.bool true) ∧ Below w.heap.size w w' := by
  have HA := Lib.hid (lexAlive w hw m hm)
  by_cases q1 : n < 1
  · go_enter Tryd.func4, Tryd.ntmps4
    go_wp2_with fail
    refine HA.out.mono ?_
    rintro e w1 ⟨rfl, hb1⟩
    go_wp2
    go_ret
    exact ⟨rfl, hb1⟩
  by_cases q2 : 70 < n
  · go_enter Tryd.func4, Tryd.ntmps4
    go_wp2_with fail
    refine HA.out.mono ?_
    rintro e w1 ⟨rfl, hb1⟩
    go_wp2
    go_ret
    exact ⟨rfl, hb1⟩
  obtain ⟨N, rfl⟩ : ∃ N : Nat, n = N := ⟨n.toNat, by omega⟩
  have HM := Lib.hid hm
  clear hm
  go_enter Tryd.func4, Tryd.ntmps4
  go_wp2_with fail
  refine HA.out.mono ?_
  rintro e w1 ⟨rfl, hb1⟩
  have hs1 : w.heap.size ≤ w1.heap.size := hb1.size
  have HM1 := Lib.hid (show w1.cell? ⟨0, 0, none⟩ = some (.int .i64 m) from by rw [hb1.cell (p := ⟨0, 0, none⟩) hw]; exact HM.out)
  have HB1 := Lib.hid hb1
  clear hb1
  go_wp2
  go_loopw [6, 7] (fun sv iv wi => ∃ (k : Nat) (L : ByteArray), iv = .int .i64 k ∧ sv = .string L ∧ k ≤ N ∧ L.size = 2 * k ∧ wi = w1 ∧ Hid (L = mk (opens k))) (fun _ iv _ => N - (intOf iv).toNat)
  case atStart => exact ⟨0, _, rfl, rfl, Nat.zero_le _, rfl, rfl, rfl⟩
  case round =>
    obtain ⟨k, L, rfl, rfl, hk, hL, hwr, hLk⟩ := hrel
    obtain rfl : w1 = wr := hwr.symm
    by_cases hlt : k < N
    · have qk : (k : Int) < N := by omega
      have HL2 := Lib.hid (show L ++ ⟨#[36, 40]⟩ = mk (opens (k + 1)) from by rw [hLk.out]; exact open_step k)
      have hsz : (L ++ ⟨#[36, 40]⟩).size = 2 * (k + 1) := by rw [ByteArray.size_append]; show L.size + 2 = _; omega
      go_wp2
      exact ⟨⟨k + 1, _, by go_num, rfl, by omega, hsz, by trivial, HL2⟩, by simp [intOf]; omega⟩
    · obtain rfl : k = N := by omega
      cases b
      · have hdS : L = deepS k false := by rw [hLk.out]; unfold deepS deepL; simp
        have HC := Lib.hid fun (w : World) h => Lex_any L w (by omega) (by rw [hdS]; exact deep_92 k false) m h
        rw [hdS] at HC
        have HC := Lib.hid fun (w : World) h => (HC.out w h)
        rw [deep_bad k false (.inr rfl) (by omega)] at HC
        rw [← hdS] at HC
        clear hLk hdS
        by_cases h60 : 60 < k
        · have q60 : (60 : Int) < k := by omega
          rw [if_pos h60] at HC
          go_wp2_with fail
          refine (HC.out w1 HM1.out).mono ?_
          rintro e w2 ⟨ha, hb2⟩
          obtain rfl : e = _ := ha
          have HB2 := Lib.hid (HB1.out.trans (hb2.mono hs1))
          clear hb2
          go_wp2_with fail
          refine (num_any 42 _).mono ?_
          rintro e w3 ⟨rfl, hw3⟩
          obtain rfl := hw3.symm
          go_wp2
          go_ret
          exact ⟨rfl, HB2.out⟩
        · have q60 : ¬ (60 : Int) < k := by omega
          rw [if_neg h60] at HC
          go_wp2_with fail
          refine (HC.out w1 HM1.out).mono ?_
          rintro e w2 ⟨ha, hb2⟩
          obtain rfl : e = _ := ha
          have HB2 := Lib.hid (HB1.out.trans (hb2.mono hs1))
          clear hb2
          go_wp2_with fail
          refine (num_any 30 _).mono ?_
          rintro e w3 ⟨rfl, hw3⟩
          obtain rfl := hw3.symm
          go_wp2
          go_ret
          exact ⟨rfl, HB2.out⟩
      · go_wp2
        go_loopw [6, 8] (fun sv iv wi => ∃ (j : Nat) (L2 : ByteArray), iv = .int .i64 j ∧ sv = .string L2 ∧ j ≤ k ∧ L2.size = 2 * k + j ∧ wi = w1 ∧ Hid (L2 = mk (opens k ++ List.replicate j 41))) (fun _ iv _ => k - (intOf iv).toNat)
        case atStart => exact ⟨0, L, rfl, rfl, Nat.zero_le _, hL, rfl, by rw [hLk.out]; unfold Hid; simp⟩
        case round =>
          obtain ⟨j, L2, rfl, rfl, hj, hL2, hwr, hLj⟩ := hrel
          obtain rfl : w1 = wr := hwr.symm
          by_cases hlj : j < k
          · have qj : (j : Int) < k := by omega
            have HL3 := Lib.hid (show L2 ++ ⟨#[41]⟩ = mk (opens k ++ List.replicate (j + 1) 41) from by rw [hLj.out]; exact close_step k j)
            have hsz : (L2 ++ ⟨#[41]⟩).size = 2 * k + (j + 1) := by rw [ByteArray.size_append]; show L2.size + 1 = _; omega
            go_wp2
            exact ⟨⟨j + 1, _, by go_num, rfl, by omega, hsz, by trivial, HL3⟩, by simp [intOf]; omega⟩
          · obtain rfl : j = k := by omega
            have hdS : L2 = deepS j true := by rw [hLj.out]; rfl
            have HC := Lib.hid fun (w : World) h => Lex_any L2 w (by omega) (by rw [hdS]; exact deep_92 j true) m h
            rw [hdS] at HC
            by_cases h60 : 60 < j
            · have q60 : (60 : Int) < j := by omega
              rw [deep_bad j true (.inl h60) (by omega), ← hdS, if_pos h60] at HC
              clear hLj hdS
              go_wp2_with fail
              refine (HC.out w1 HM1.out).mono ?_
              rintro e w2 ⟨ha, hb2⟩
              obtain rfl : e = _ := ha
              have HB2 := Lib.hid (HB1.out.trans (hb2.mono hs1))
              clear hb2
              go_wp2_with fail
              refine (num_any 42 _).mono ?_
              rintro e w3 ⟨rfl, hw3⟩
              obtain rfl := hw3.symm
              go_wp2
              go_ret
              exact ⟨rfl, HB2.out⟩
            · have q60 : ¬ (60 : Int) < j := by omega
              rw [deep_ok j (by omega) (by omega), ← hdS] at HC
              clear hLj hdS
              go_wp2_with fail
              refine (HC.out w1 HM1.out).mono ?_
              rintro e w2 ⟨ha, hb2⟩
              obtain ⟨vt, rfl, ho⟩ := ha
              obtain ⟨g, cap, rfl, hcap, hcl⟩ := tok_at ho (by simp)
              have k1 : w2.cell? ⟨g, 1, none⟩ = some (.string L2) := hcl 1 _ rfl
              have hcap2 : 2 ≤ cap := hcap
              have HB2 := Lib.hid (HB1.out.trans (hb2.mono hs1))
              simp only [List.length_cons, List.length_nil]
              clear hb2 ho hcl hcap
              go_wp2_with fail
              refine (num_any 0 _).mono ?_
              rintro e w3 ⟨rfl, hw3⟩
              obtain rfl := hw3.symm
              go_wp2
              go_ret
              exact ⟨rfl, HB2.out⟩
end Go.Proofs.YtioddclglemlmaaDoor
