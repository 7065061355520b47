/- Ported for the variables: directories and names of words, the place of a byte, and that the document's fixed answers hold; conditions: texts that lie in memory. -/
import Derived.Test.YtndoloohdloflabVars
namespace Go.Proofs.Ytndoloohdloflab
open Go.RowKit Go.Maps

/-- the last place of c, -1 if none -/
def lastB (c : UInt8) : List UInt8 → Int
  | [] => -1
  | x :: l => if 0 ≤ lastB c l then lastB c l + 1 else if x = c then 0 else -1

theorem lastB_snoc (c : UInt8) (l : List UInt8) (x : UInt8) : lastB c (l ++ [x]) = if x = c then (l.length : Int) else lastB c l := by
  induction l with
  | nil => simp [lastB]
  | cons y l ih =>
    simp only [List.cons_append, lastB, ih]
    by_cases h : x = c
    · simp [h]
    · simp [h]

theorem slash_step (s : ByteArray) (k : Nat) (h1 : 1 ≤ (k : Int)) (hk : k ≤ s.size) (hlt : k - 1 < s.size) (hb : ((s[k - 1].toNat : Int) == 47) = false) (h : lastB 47 (s.data.toList.take k) = lastB 47 s.data.toList) :
    lastB 47 (s.data.toList.take (k - 1)) = lastB 47 s.data.toList := by
  obtain ⟨j, rfl⟩ : ∃ j, k = j + 1 := ⟨k - 1, by omega⟩
  rw [take_snoc s j (by omega), lastB_snoc] at h
  rw [if_neg] at h
  · simpa using h
  · intro e
    simp only [Nat.add_sub_cancel] at hb
    rw [e] at hb
    exact absurd hb (by decide)
theorem slash_found (s : ByteArray) (k : Nat) (h1 : 1 ≤ (k : Int)) (hk : k ≤ s.size) (hlt : k - 1 < s.size) (hb : ((s[k - 1].toNat : Int) == 47) = true) (h : lastB 47 (s.data.toList.take k) = lastB 47 s.data.toList) :
    (k : Int) - 1 = lastB 47 s.data.toList := by
  obtain ⟨j, rfl⟩ : ∃ j, k = j + 1 := ⟨k - 1, by omega⟩
  rw [take_snoc s j (by omega), lastB_snoc] at h
  rw [if_pos] at h
  · rw [← h]; simp; omega
  · simp only [Nat.add_sub_cancel] at hb
    have hb' : (s[j].toNat : Int) = 47 := by simpa using hb
    exact UInt8.toNat_inj.1 (by show _ = 47; omega)

set_option maxHeartbeats 400000 in
theorem slash_walk (s : ByteArray) (w : World) (hs : s.size ≤ 140737488351232) :
    Calls Try.prog 84 #[.string s] w fun e w' => e = .returned (.int .i64 (lastB 47 s.data.toList)) ∧ w' = w := by
  go_enter Try.func84, Try.ntmps84
  go_wp2
  go_step3
  go_wp2
  go_step3
  go_wp2
  go_loop [3, 4] (fun t i => ∃ k : Nat, k ≤ s.size ∧ i = .int .i64 ((k : Int) - 1) ∧ t = .int .i64 (-1) ∧ Hid (lastB 47 (s.data.toList.take k) = lastB 47 s.data.toList)) (fun _ i => (intOf i + 1).toNat)
  case atStart => exact ⟨s.size, Nat.le_refl _, by simp, rfl, by unfold Hid; rw [List.take_of_length_le (by simp)]⟩
  case round =>
    obtain ⟨k, hk, rfl, rfl, hrel⟩ := hrel
    go_wp2
    · have h1 : 1 ≤ (k : Int) := by assumption
      have hb := ‹((s[k - 1].toNat : Int) == 47) = _›
      rw [Exit.noGoto_ret]
      go_ret
      exact ⟨ret_int (slash_found s k h1 hk (by omega) hb hrel.out), rfl⟩
    · have h1 : 1 ≤ (k : Int) := by assumption
      have hb := ‹((s[k - 1].toNat : Int) == 47) = _›
      exact ⟨⟨k - 1, by omega, by rw [show (((k - 1 : Nat) : Int)) = (k : Int) - 1 from by omega], rfl, slash_step s k h1 hk (by omega) hb hrel.out⟩, by simp [intOf]; omega⟩
    · have h1 : (k : Int) < 1 := by assumption
      go_ret
      refine ⟨ret_int ?_, rfl⟩
      rw [← hrel.out, show k = 0 from by omega]; rfl

theorem lastB_lo (c : UInt8) (l : List UInt8) : -1 ≤ lastB c l := by
  induction l with
  | nil => simp [lastB]
  | cons x l ih => rw [lastB]; split; omega; split <;> omega
theorem lastB_hi (c : UInt8) (l : List UInt8) : lastB c l < l.length := by
  induction l with
  | nil => simp [lastB]
  | cons x l ih => rw [lastB, List.length_cons]; split; omega; split <;> omega
def li (c : UInt8) (s : ByteArray) : Int := lastB c s.data.toList
theorem li_b (c : UInt8) (s : ByteArray) : -1 ≤ li c s ∧ li c s < s.size := ⟨lastB_lo _ _, by have := lastB_hi c s.data.toList; simp at this; exact this⟩
def dirB (w : ByteArray) : ByteArray := if li 47 w < 0 then ⟨#[46, 47]⟩ else w.extract 0 ((li 47 w).toNat + 1)
def ndB (w : ByteArray) : ByteArray := w.extract (li 47 w + 1).toNat w.size
def sfB (w : ByteArray) : ByteArray := if li 46 (ndB w) < 0 then ⟨#[]⟩ else (ndB w).extract (li 46 (ndB w)).toNat (ndB w).size
def bsB (w : ByteArray) : ByteArray := w.extract 0 (w.size - (sfB w).size)
theorem ndB_le (w : ByteArray) : (ndB w).size ≤ w.size := by unfold ndB; rw [ByteArray.size_extract]; omega
theorem sfB_le (w : ByteArray) : (sfB w).size ≤ w.size := by
  have := ndB_le w
  unfold sfB; split
  · exact Nat.zero_le _
  · rw [ByteArray.size_extract]; omega

set_option maxHeartbeats 400000 in
theorem refLast_any (s : ByteArray) (c : Int) (u : UInt8) (hc : (u.toNat : Int) = c) (w : World) (hs : s.size ≤ 140737488351232) :
    Calls Try.prog 85 #[.string s, .int .u8 c] w fun e w' => e = .returned (.int .i64 (li u s)) ∧ w' = w := by
  have HC := Lib.hid hc; clear hc
  go_enter Try.func85, Try.ntmps85
  go_wp2
  go_loop [5] (fun i => ∃ k : Nat, k ≤ s.size ∧ i = .int .i64 ((k : Int) - 1) ∧ Hid (lastB u (s.data.toList.take k) = li u s)) (fun i => (intOf i + 1).toNat)
  case atStart => exact ⟨s.size, Nat.le_refl _, by simp, by unfold Hid li; rw [List.take_of_length_le (by simp)]⟩
  case round =>
    obtain ⟨k, hk, rfl, hr⟩ := hrel
    cases k with
    | zero =>
      have h0 : ¬ (0 : Int) ≤ ((0 : Nat) : Int) - 1 := by omega
      go_wp2
      go_ret
      exact ⟨ret_int (by rw [← hr.out]; rfl), rfl⟩
    | succ k =>
      have hlt : k < s.size := by omega
      have e1 : ((k + 1 : Nat) : Int) - 1 = k := by omega
      have hsn : Hid (lastB u (s.data.toList.take (k + 1)) = if s[k] = u then (k : Int) else lastB u (s.data.toList.take k)) := by
        unfold Hid; rw [take_snoc s k hlt, lastB_snoc]; simp [Nat.min_eq_left (Nat.le_of_lt hlt)]
      rw [e1]
      clear e1
      by_cases hu : s[k] = u
      · have hb : ((s[k].toNat : Int) == c) = true := by rw [hu, HC.out]; simp
        have hf : Hid ((k : Int) = li u s) := by unfold Hid; rw [← hr.out, hsn.out, if_pos hu]
        clear hu hr hsn
        go_wp2
        go_ret
        exact ⟨ret_int hf.out, rfl⟩
      · have hb : ((s[k].toNat : Int) == c) = false := by
          rw [← HC.out]; simp only [beq_eq_false_iff_ne, ne_eq, Int.natCast_inj]; exact fun e => hu (UInt8.toNat_inj.1 e)
        have hf : Hid (lastB u (s.data.toList.take k) = li u s) := by unfold Hid; rw [← hr.out, hsn.out, if_neg hu]
        clear hu hr hsn
        go_wp2
        exact ⟨⟨k, by omega, rfl, hf⟩, by simp [intOf]⟩

theorem slash_any (s : ByteArray) (w : World) (hs : s.size ≤ 140737488351232) :
    Calls Try.prog 84 #[.string s] w fun e w' => e = .returned (.int .i64 (li 47 s)) ∧ w' = w := slash_walk s w hs

set_option maxHeartbeats 400000 in
theorem Dir_any (s : ByteArray) (w : World) (hs : s.size ≤ 140737488351232) :
    Calls Try.prog 65 #[.string s] w fun e w' => e = .returned (.string (dirB s)) ∧ w' = w := by
  have HI : Hid (∀ w, Calls Try.prog 84 #[.string s] w fun e w' => e = .returned (.int .i64 (li 47 s)) ∧ w' = w) := fun w => slash_any s w hs
  obtain ⟨b1, b2⟩ := li_b 47 s
  unfold dirB
  generalize li 47 s = i at *
  by_cases h : i < 0
  · rw [if_pos h]
    go_enter Try.func65, Try.ntmps65
    go_wp2_with (go_at_call 84; refine (HI.out _).mono ?_; rintro e w' ⟨rfl, rfl⟩)
    go_ret
    exact ⟨rfl, rfl⟩
  · rw [if_neg h]
    have w1 : IntKind.i64.wrap (i + 1) = i + 1 := IntWalk.i64_in _ (by omega)
    have h0 : 0 ≤ i + 1 := by omega
    have h1 : i + 1 ≤ s.size := by omega
    have w2 : (i + 1).toNat = i.toNat + 1 := by omega
    go_enter Try.func65, Try.ntmps65
    go_wp2_with (go_at_call 84; refine (HI.out _).mono ?_; rintro e w' ⟨rfl, rfl⟩)
    go_ret
    exact ⟨rfl, rfl⟩

set_option maxHeartbeats 400000 in
theorem refDir_any (s : ByteArray) (w : World) (hs : s.size ≤ 140737488351232) :
    Calls Try.prog 68 #[.string s] w fun e w' => e = .returned (.string (dirB s)) ∧ w' = w := by
  have HI : Hid (∀ w, Calls Try.prog 85 #[.string s, .int .u8 47] w fun e w' => e = .returned (.int .i64 (li 47 s)) ∧ w' = w) := fun w => refLast_any s 47 47 rfl w hs
  obtain ⟨b1, b2⟩ := li_b 47 s
  unfold dirB
  generalize li 47 s = i at *
  by_cases h : i < 0
  · rw [if_pos h]
    go_enter Try.func68, Try.ntmps68
    go_wp2_with (go_at_call 85; refine (HI.out _).mono ?_; rintro e w' ⟨rfl, rfl⟩)
    go_ret
    exact ⟨rfl, rfl⟩
  · rw [if_neg h]
    have w1 : IntKind.i64.wrap (i + 1) = i + 1 := IntWalk.i64_in _ (by omega)
    have h0 : 0 ≤ i + 1 := by omega
    have h1 : i + 1 ≤ s.size := by omega
    have w2 : (i + 1).toNat = i.toNat + 1 := by omega
    go_enter Try.func68, Try.ntmps68
    go_wp2_with (go_at_call 85; refine (HI.out _).mono ?_; rintro e w' ⟨rfl, rfl⟩)
    go_ret
    exact ⟨rfl, rfl⟩

set_option maxHeartbeats 400000 in
theorem NotDir_any (s : ByteArray) (w : World) (hs : s.size ≤ 140737488351232) :
    Calls Try.prog 64 #[.string s] w fun e w' => e = .returned (.string (ndB s)) ∧ w' = w := by
  have HI : Hid (∀ w, Calls Try.prog 84 #[.string s] w fun e w' => e = .returned (.int .i64 (li 47 s)) ∧ w' = w) := fun w => slash_any s w hs
  obtain ⟨b1, b2⟩ := li_b 47 s
  unfold ndB
  generalize li 47 s = i at *
  have w1 : IntKind.i64.wrap (i + 1) = i + 1 := IntWalk.i64_in _ (by omega)
  have h0 : 0 ≤ i + 1 := by omega
  have h1 : i + 1 ≤ s.size := by omega
  go_enter Try.func64, Try.ntmps64
  go_wp2_with (go_at_call 84; refine (HI.out _).mono ?_; rintro e w' ⟨rfl, rfl⟩)
  try go_quiet (first | (go_at_call 84; exact Calls.quiet_of_same (HI.out _)))
  try go_wp2
  go_ret
  exact ⟨rfl, rfl⟩

set_option maxHeartbeats 400000 in
theorem refNotDir_any (s : ByteArray) (w : World) (hs : s.size ≤ 140737488351232) :
    Calls Try.prog 67 #[.string s] w fun e w' => e = .returned (.string (ndB s)) ∧ w' = w := by
  have HI : Hid (∀ w, Calls Try.prog 85 #[.string s, .int .u8 47] w fun e w' => e = .returned (.int .i64 (li 47 s)) ∧ w' = w) := fun w => refLast_any s 47 47 rfl w hs
  obtain ⟨b1, b2⟩ := li_b 47 s
  unfold ndB
  generalize li 47 s = i at *
  have w1 : IntKind.i64.wrap (i + 1) = i + 1 := IntWalk.i64_in _ (by omega)
  have h0 : 0 ≤ i + 1 := by omega
  have h1 : i + 1 ≤ s.size := by omega
  go_enter Try.func67, Try.ntmps67
  go_wp2_with (go_at_call 85; refine (HI.out _).mono ?_; rintro e w' ⟨rfl, rfl⟩)
  try go_quiet (first | (go_at_call 85; exact Calls.quiet_of_same (HI.out _)))
  try go_wp2
  go_ret
  exact ⟨rfl, rfl⟩

set_option maxHeartbeats 400000 in
theorem refIndex_any (s : ByteArray) (c : Int) (u : UInt8) (hc : (u.toNat : Int) = c) (w : World) (hs : s.size ≤ 140737488351232) :
    Calls Try.prog 66 #[.string s, .int .u8 c] w fun e w' => e = .returned (.int .i64 (Lib.indexByte s.data.toList u)) ∧ w' = w := by
  have HC := Lib.hid hc; clear hc
  go_enter Try.func66, Try.ntmps66
  go_wp2
  go_loop [5] (fun i => ∃ k : Nat, k ≤ s.size ∧ i = .int .i64 k ∧ IdxAt s.data.toList u k) (fun i => s.size - (intOf i).toNat)
  case atStart => exact ⟨0, Nat.zero_le _, rfl, IdxAt.start _ _⟩
  case round =>
    obtain ⟨k, hk, rfl, hr⟩ := hrel
    by_cases hlt : k < s.size
    · have hl : k < s.data.toList.length := by simpa using hlt
      by_cases hu : s[k] = u
      · have hb : ((s[k].toNat : Int) == c) = true := by rw [hu, HC.out]; simp
        have hf := Lib.hid (hr.found hl (by rw [Array.getElem_toList]; exact hu))
        clear hu hr
        go_wp2
        go_ret
        exact ⟨ret_int hf.out.symm, rfl⟩
      · have hb : ((s[k].toNat : Int) == c) = false := by
          rw [← HC.out]; simp only [beq_eq_false_iff_ne, ne_eq, Int.natCast_inj]; exact fun e => hu (UInt8.toNat_inj.1 e)
        have hn := hr.step hl (by rw [Array.getElem_toList]; exact hu)
        clear hu hr
        go_wp2
        exact ⟨⟨k + 1, by omega, by go_num, hn⟩, by simp [intOf]; omega⟩
    · have hf := Lib.hid (hr.none (by simpa using Nat.le_of_not_lt hlt))
      clear hr
      go_wp2
      go_ret
      exact ⟨ret_int hf.out.symm, rfl⟩


set_option maxRecDepth 100000 in
theorem varsAlive_any (w : World) : Calls Try.prog 36 #[] w fun e w' => e = .returned (.bool true) ∧ Below w.heap.size w w' := by
  have e1 : mayV [] ⟨#[97]⟩ 3 = true := by decide
  have e2 : setV [] ⟨#[97]⟩ ⟨#[49]⟩ 1 3 = [⟨⟨#[97]⟩, ⟨#[49]⟩, 1, 3, 0⟩] := by rfl
  have e3 : appV [⟨⟨#[97]⟩, ⟨#[49]⟩, 1, 3, 0⟩] ⟨#[97]⟩ ⟨#[50]⟩ 3 = (true, [⟨⟨#[97]⟩, ⟨#[49, 32, 50]⟩, 1, 3, 0⟩]) := by rfl
  have e4 : mayV [⟨⟨#[97]⟩, ⟨#[49, 32, 50]⟩, 1, 3, 0⟩] ⟨#[97]⟩ 2 = false := by decide
  have e5 : setV [⟨⟨#[97]⟩, ⟨#[49, 32, 50]⟩, 1, 3, 0⟩] ⟨#[97]⟩ ⟨#[51]⟩ 1 2 = [⟨⟨#[97]⟩, ⟨#[49, 32, 50]⟩, 1, 3, 0⟩] := by rfl
  have e6 : getV [⟨⟨#[97]⟩, ⟨#[49, 32, 50]⟩, 1, 3, 0⟩] ⟨#[97]⟩ = some ⟨⟨#[97]⟩, ⟨#[49, 32, 50]⟩, 1, 3, 0⟩ := by rfl
  go_enter Try.func36, Try.ntmps36
  go_wp2_with fail
  refine (New_any _).mono ?_
  rintro e w1 ⟨p, m, rfl, S1, g1, hp, hm⟩
  have E1 := Lib.hid e1
  have E2 := Lib.hid e2
  have E3 := Lib.hid e3
  have E4 := Lib.hid e4
  have E5 := Lib.hid e5
  have E6 := Lib.hid e6
  clear e1 e2 e3 e4 e5 e6
  go_wp2_with fail
  refine (Set_any w1 p m [] ⟨#[97]⟩ ⟨#[49]⟩ (by decide) 1 3 S1).mono ?_
  rw [E1.out, E2.out]
  rintro e w2 ⟨rfl, S2, g2⟩
  go_wp2_with fail
  refine (Append_any w2 p m _ ⟨#[97]⟩ ⟨#[50]⟩ (by decide) (by decide) (by intro x hx; cases hx; decide) 3 S2).mono ?_
  rw [E3.out]
  rintro e w3 ⟨rfl, S3, g3⟩
  go_wp2_with fail
  refine (Set_any w3 p m _ ⟨#[97]⟩ ⟨#[51]⟩ (by decide) 1 2 S3).mono ?_
  rw [E4.out, E5.out]
  rintro e w4 ⟨rfl, S4, g4⟩
  go_wp2_with fail
  refine (Get_any w4 p m _ ⟨#[97]⟩ (by decide) S4).mono ?_
  rw [E6.out]
  rintro e w5 ⟨rfl, g5⟩
  have gg := ((((g1.but (some m)).trans g2).trans g3).trans g4).trans (g5.but (some m))
  unfold Vr.val
  go_wp2
  go_ret
  refine ⟨rfl, ?_⟩
  have hb := (Below.refl w.heap.size w).grown gg (Nat.le_refl _) (by rintro k hk; cases hk; exact hm)
  repeat (first | exact hb | refine Below.alloc ?_ (by have := hb.size; simp; omega) _)

end Go.Proofs.Ytndoloohdloflab
