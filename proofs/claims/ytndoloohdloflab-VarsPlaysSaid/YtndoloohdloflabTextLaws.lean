/- TextNumbers: what every text is as a number, and that every number's digits are that number again. -/
import Derived.Test.YtndoloohdloflabDecR
import Derived.Test.YtndoloohdloflabRep
namespace Go.Proofs.Ytndoloohdloflab
open Go.RowKit

theorem num_any (x : Int) (w : World) : Calls Try.prog 19 #[.int .i64 x] w fun e w' => e = .returned (.int .i64 x) ∧ w' = w := by
  go_enter Try.func19, Try.ntmps19
  go_wp2
  go_ret
  exact ⟨rfl, rfl⟩

set_option maxRecDepth 100000 in
set_option maxHeartbeats 1000000 in
theorem textAlive_any (w : World) (hw : 0 < w.heap.size) (m : Int) (hm : w.cell? ⟨0, 0, none⟩ = some (.int .i64 m)) : Calls Try.prog 12 #[] w fun e w' => e = .returned (.bool true) ∧ Below w.heap.size w w' := by
  have e1 : repB ⟨#[97, 97, 97]⟩ ⟨#[97, 97]⟩ ⟨#[98]⟩ = some ⟨#[98, 97]⟩ := by decide +kernel
  have e2 : numB ⟨#[48, 48, 55]⟩ = some 7 := by decide +kernel
  have e3 : decB (-5) = ⟨#[45, 53]⟩ := by simp [decB, decL, mk]
  have e4 : (wordsB ⟨#[32, 97, 32, 32, 98, 9, 99]⟩).length = 3 := by decide +kernel
  have H1 := Replace_any ⟨#[97, 97, 97]⟩ ⟨#[97, 97]⟩ ⟨#[98]⟩ w (by decide) (by decide) (by decide) hw m hm
  rw [e1] at H1
  have H2 := fun w => Number13_any ⟨#[48, 48, 55]⟩ w (by decide)
  rw [e2] at H2
  have H3 := fun w => Decimal_any (-5) (by omega) w
  rw [e3] at H3
  have H4 := fun w => Split_any ⟨#[32, 97, 32, 32, 98, 9, 99]⟩ (by decide) w
  rw [e4] at H4
  have E1 := Lib.hid H1
  have E2 := Lib.hid H2
  have E3 := Lib.hid H3
  have E4 := Lib.hid H4
  clear H1 H2 H3 H4 e1 e2 e3 e4
  go_enter Try.func12, Try.ntmps12
  go_wp2_with fail
  refine E1.out.mono ?_
  rintro e w1 ⟨rfl, hb1⟩
  unfold repV
  go_wp2_with fail
  refine (E2.out _).mono ?_
  rintro e w2 ⟨rfl, rfl⟩
  unfold numV
  go_wp2_with fail
  refine (num_any _ _).mono ?_
  rintro e w3 ⟨rfl, rfl⟩
  go_wp2_with fail
  refine (E3.out _).mono ?_
  rintro e w4 ⟨rfl, hb4⟩
  go_wp2_with fail
  refine (E4.out _).mono ?_
  rintro e w5 ⟨v, rfl, hv, hb5⟩
  obtain ⟨A, c, rfl, _, _⟩ := hv.form
  go_wp2
  go_ret
  exact ⟨rfl, (hb1.trans (hb4.mono hb1.size)).trans (hb5.mono (by have := hb1.size; have := hb4.size; omega))⟩

theorem foldN_app (a b : List UInt8) : ∀ n, foldN (a ++ b) n = (foldN a n).bind fun x => foldN b x := by
  induction a with
  | nil => intro n; rfl
  | cons c r ih =>
    intro n
    simp only [List.cons_append, foldN]
    split
    · exact ih _
    · rfl
theorem foldN_dec (u : Nat) : foldN (decL u) 0 = some (u : Int) := by
  induction u using Nat.strongRecOn with
  | ind u ih =>
    have hd : ∀ r, r < 10 → ((UInt8.ofNat (48 + r)).toNat : Int) = 48 + r := by
      intro r hr; rw [UInt8.toNat_ofNat']; omega
    rw [decL]
    split
    · rename_i h
      simp only [foldN]
      rw [hd u h, if_pos (by omega)]
      congr 1; omega
    · rename_i h
      rw [foldN_app, ih (u / 10) (by omega)]
      simp only [Option.bind_some, foldN]
      rw [hd (u % 10) (by omega), if_pos (by omega)]
      congr 1; omega
theorem decL_lo : ∀ k u, u < 10 ^ (k + 1) → (decL u).length ≤ k + 1 := by
  intro k
  induction k with
  | zero => intro u h; rw [decL, if_pos (by simpa using h)]; simp
  | succ k ih =>
    intro u h
    rw [decL]
    split
    · simp
    · have := ih (u / 10) (by rw [Nat.pow_succ] at h; omega)
      simp; omega
theorem decL_hi : ∀ k u, 10 ^ k ≤ u → k + 1 ≤ (decL u).length := by
  intro k
  induction k with
  | zero => intro u h; rw [decL]; split <;> simp
  | succ k ih =>
    intro u h
    have hp : 10 ≤ 10 ^ (k + 1) := by rw [Nat.pow_succ]; have := Nat.pow_pos (n := k) (show 0 < 10 by decide); omega
    rw [decL, if_neg (by omega)]
    have := ih (u / 10) (by rw [Nat.pow_succ] at h; omega)
    simp; omega
theorem decL_pos (u : Nat) : 1 ≤ (decL u).length := by rw [decL]; split <;> simp
theorem mk_size (l : List UInt8) : (mk l).size = l.length := by simp [mk, ByteArray.size]
theorem num_dec (n : Int) : numB (decB n) = if 0 ≤ n ∧ n < 1000000000 then some n else none := by
  unfold numB decB
  by_cases h0 : n < 0
  · rw [if_pos h0, if_neg (show ¬ (0 ≤ n ∧ n < 1000000000) by omega)]
    split
    · rfl
    · simp [mk, foldN]
  · rw [if_neg h0, mk_size]
    have hp := decL_pos n.natAbs
    by_cases h1 : n < 1000000000
    · have := decL_lo 8 n.natAbs (by omega)
      rw [if_neg (by omega), if_pos (by omega)]
      show foldN (mk _).data.toList 0 = _
      have e := foldN_dec n.natAbs
      simp only [mk]
      rw [e]; congr 1; omega
    · have := decL_hi 9 n.natAbs (by omega)
      rw [if_pos (by omega), if_neg (by omega)]
theorem decB_size (n : Int) (hn : -9223372036854775808 ≤ n ∧ n ≤ 9223372036854775807) : (decB n).size ≤ 20 := by
  unfold decB
  have := decL_20 n.natAbs (by omega)
  split <;> rw [mk_size]
  · simp; exact this
  · omega

set_option maxRecDepth 100000 in
set_option maxHeartbeats 1000000 in
theorem TextNumbers_walk (s : ByteArray) (n : Int) (w : World) (hs : s.size ≤ 140737488351232) (hn : (Lit.int .i64 n).wf = true) (hw : 0 < w.heap.size) (m : Int) (hm : w.cell? ⟨0, 0, none⟩ = some (.int .i64 m)) :
    Calls Try.prog 3 #[.string s, .int .i64 n] w fun e w' => e = .returned (.bool true) ∧ Below w.heap.size w w' := by
  have hnn : -9223372036854775808 ≤ n ∧ n ≤ 9223372036854775807 := by have h := hn; simp [Lit.wf, IntKind.min, IntKind.max] at h; exact ⟨of_decide_eq_true h.1, of_decide_eq_true h.2⟩
  have HL := Lib.hid (textAlive_any w hw m hm)
  by_cases hb : (20000 : Int) < s.size
  · go_enter Try.func3, Try.ntmps3
    go_wp2_with (go_at_call 12; refine (HL.out).mono ?_; rintro e w1 ⟨rfl, HB⟩)
    go_ret
    exact ⟨rfl, HB⟩
  · have h2 := num_dec n
    have E1 := Lib.hid fun w => Number13_any s w hs
    have E2 := Lib.hid fun w => Number14_any s w hs
    have E3 := Lib.hid fun w => Decimal_any n hnn w
    have E4 := Lib.hid fun w => DecR_any n hnn w
    have E5 := Lib.hid fun w => Number13_any (decB n) w (by have := decB_size n hnn; omega)
    rw [h2] at E5
    generalize decB n = D at *
    clear h2
    by_cases hr : 0 ≤ n ∧ n < 1000000000
    · rw [if_pos hr] at E5
      obtain ⟨r1, r2⟩ := hr
      cases hq : numB s <;> rw [hq] at E1 E2 <;> unfold numV at E1 E2 E5
      all_goals
        go_enter Try.func3, Try.ntmps3
        go_wp2_with fail
        refine HL.out.mono ?_
        rintro e w1 ⟨rfl, hb1⟩
        go_wp2_with fail
        refine (E1.out _).mono ?_
        rintro e w2 ⟨rfl, rfl⟩
        go_wp2_with fail
        refine (E2.out _).mono ?_
        rintro e w3 ⟨rfl, rfl⟩
        go_wp2_with fail
        refine (E3.out _).mono ?_
        rintro e w4 ⟨rfl, hb4⟩
        go_wp2_with fail
        refine (E5.out _).mono ?_
        rintro e w5 ⟨rfl, rfl⟩
        go_wp2_with fail
        refine (E4.out _).mono ?_
        rintro e w6 ⟨rfl, rfl⟩
        go_wp2
        go_ret
        exact ⟨rfl, hb1.trans (hb4.mono hb1.size)⟩
    · rw [if_neg hr] at E5
      cases hq : numB s <;> rw [hq] at E1 E2 <;> unfold numV at E1 E2 E5
      all_goals
        go_enter Try.func3, Try.ntmps3
        go_wp2_with fail
        refine HL.out.mono ?_
        rintro e w1 ⟨rfl, hb1⟩
        go_wp2_with fail
        refine (E1.out _).mono ?_
        rintro e w2 ⟨rfl, rfl⟩
        go_wp2_with fail
        refine (E2.out _).mono ?_
        rintro e w3 ⟨rfl, rfl⟩
        go_wp2_with fail
        refine (E3.out _).mono ?_
        rintro e w4 ⟨rfl, hb4⟩
        go_wp2_with fail
        refine (E5.out _).mono ?_
        rintro e w5 ⟨rfl, rfl⟩
        go_wp2_with fail
        refine (E4.out _).mono ?_
        rintro e w6 ⟨rfl, rfl⟩
        go_wp2 <;> first | (go_ret; exact ⟨rfl, hb1.trans (hb4.mono hb1.size)⟩) | (go_ret; exact ⟨ret_bool (by simp; omega), hb1.trans (hb4.mono hb1.size)⟩) | (exfalso; omega)
end Go.Proofs.Ytndoloohdloflab
