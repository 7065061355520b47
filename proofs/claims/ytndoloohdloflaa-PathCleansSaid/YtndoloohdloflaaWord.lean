/- What package path's functions on one word answer, and the reference's: the same; conditions: texts of at most 2^47 - 4096 bytes. -/
import Derived.Test.YtndoloohdloflaaBase
namespace Go.Proofs.Ytndoloohdloflaa
open Go.RowKit

/-- the last place of c, -1 if none -/
def lastB (c : UInt8) : List UInt8 → Int
  | [] => -1
  | x :: l => if 0 ≤ lastB c l then lastB c l + 1 else if x = c then 0 else -1

theorem lastB_snoc (c : UInt8) (l : List UInt8) (x : UInt8) : lastB c (l ++ [x]) = if x = c then (l.length : Int) else lastB c l := by
  induction l with
  | nil => simp [lastB]
  | cons y l ih =>
    simp only [List.cons_append, lastB, ih]
    by_cases h : x = c
    · simp [h]
    · simp [h]

theorem slash_step (s : ByteArray) (k : Nat) (h1 : 1 ≤ (k : Int)) (hk : k ≤ s.size) (hlt : k - 1 < s.size) (hb : ((s[k - 1].toNat : Int) == 47) = false) (h : lastB 47 (s.data.toList.take k) = lastB 47 s.data.toList) :
    lastB 47 (s.data.toList.take (k - 1)) = lastB 47 s.data.toList := by
  obtain ⟨j, rfl⟩ : ∃ j, k = j + 1 := ⟨k - 1, by omega⟩
  rw [take_snoc s j (by omega), lastB_snoc] at h
  rw [if_neg] at h
  · simpa using h
  · intro e
    simp only [Nat.add_sub_cancel] at hb
    rw [e] at hb
    exact absurd hb (by decide)
theorem slash_found (s : ByteArray) (k : Nat) (h1 : 1 ≤ (k : Int)) (hk : k ≤ s.size) (hlt : k - 1 < s.size) (hb : ((s[k - 1].toNat : Int) == 47) = true) (h : lastB 47 (s.data.toList.take k) = lastB 47 s.data.toList) :
    (k : Int) - 1 = lastB 47 s.data.toList := by
  obtain ⟨j, rfl⟩ : ∃ j, k = j + 1 := ⟨k - 1, by omega⟩
  rw [take_snoc s j (by omega), lastB_snoc] at h
  rw [if_pos] at h
  · rw [← h]; simp; omega
  · simp only [Nat.add_sub_cancel] at hb
    have hb' : (s[j].toNat : Int) = 47 := by simpa using hb
    exact UInt8.toNat_inj.1 (by show _ = 47; omega)

set_option maxHeartbeats 400000 in
theorem slash_walk (s : ByteArray) (w : World) (hs : s.size ≤ 140737488351232) :
    Calls Try.prog 74 #[.string s] w fun e w' => e = .returned (.int .i64 (lastB 47 s.data.toList)) ∧ w' = w := by
  go_enter Try.func74, Try.ntmps74
  go_wp2
  go_step3
  go_wp2
  go_step3
  go_wp2
  go_loop [3, 4] (fun t i => ∃ k : Nat, k ≤ s.size ∧ i = .int .i64 ((k : Int) - 1) ∧ t = .int .i64 (-1) ∧ Hid (lastB 47 (s.data.toList.take k) = lastB 47 s.data.toList)) (fun _ i => (intOf i + 1).toNat)
  case atStart => exact ⟨s.size, Nat.le_refl _, by simp, rfl, by unfold Hid; rw [List.take_of_length_le (by simp)]⟩
  case round =>
    obtain ⟨k, hk, rfl, rfl, hrel⟩ := hrel
    go_wp2
    · have h1 : 1 ≤ (k : Int) := by assumption
      have hb := ‹((s[k - 1].toNat : Int) == 47) = _›
      rw [Exit.noGoto_ret]
      go_ret
      exact ⟨ret_int (slash_found s k h1 hk (by omega) hb hrel.out), rfl⟩
    · have h1 : 1 ≤ (k : Int) := by assumption
      have hb := ‹((s[k - 1].toNat : Int) == 47) = _›
      exact ⟨⟨k - 1, by omega, by rw [show (((k - 1 : Nat) : Int)) = (k : Int) - 1 from by omega], rfl, slash_step s k h1 hk (by omega) hb hrel.out⟩, by simp [intOf]; omega⟩
    · have h1 : (k : Int) < 1 := by assumption
      go_ret
      refine ⟨ret_int ?_, rfl⟩
      rw [← hrel.out, show k = 0 from by omega]; rfl

theorem lastB_lo (c : UInt8) (l : List UInt8) : -1 ≤ lastB c l := by
  induction l with
  | nil => simp [lastB]
  | cons x l ih => rw [lastB]; split; omega; split <;> omega
theorem lastB_hi (c : UInt8) (l : List UInt8) : lastB c l < l.length := by
  induction l with
  | nil => simp [lastB]
  | cons x l ih => rw [lastB, List.length_cons]; split; omega; split <;> omega
def li (c : UInt8) (s : ByteArray) : Int := lastB c s.data.toList
theorem li_b (c : UInt8) (s : ByteArray) : -1 ≤ li c s ∧ li c s < s.size := ⟨lastB_lo _ _, by have := lastB_hi c s.data.toList; simp at this; exact this⟩
theorem lib_last (s : ByteArray) (c : Int) (u : UInt8) (hc : (u.toNat : Int) = c) : Lib.lastIndexByte s c = li u s := by
  have h : ∀ k, k ≤ s.size → Lib.lastIdx s c k = lastB u (s.data.toList.take k) := by
    intro k
    induction k with
    | zero => intro _; simp [Lib.lastIdx, lastB]
    | succ k ih =>
      intro hk
      rw [take_snoc s k (by omega), lastB_snoc, ← ih (by omega), Lib.lastIdx]
      have e : s.data[k]! = s[k] := getElem!_pos s.data k hk
      rw [e]
      by_cases hx : s[k] = u
      · rw [if_pos hx, if_pos (by rw [hx, hc])]
        simp; omega
      · rw [if_neg hx, if_neg]
        intro h2; exact hx (UInt8.toNat_inj.1 (by omega))
  unfold Lib.lastIndexByte li
  rw [h s.size (Nat.le_refl _), List.take_of_length_le (by simp)]

def dirB (w : ByteArray) : ByteArray := if li 47 w < 0 then ⟨#[46, 47]⟩ else w.extract 0 ((li 47 w).toNat + 1)
def ndB (w : ByteArray) : ByteArray := w.extract (li 47 w + 1).toNat w.size
def sfB (w : ByteArray) : ByteArray := if li 46 (ndB w) < 0 then ⟨#[]⟩ else (ndB w).extract (li 46 (ndB w)).toNat (ndB w).size
def bsB (w : ByteArray) : ByteArray := w.extract 0 (w.size - (sfB w).size)
theorem ndB_le (w : ByteArray) : (ndB w).size ≤ w.size := by unfold ndB; rw [ByteArray.size_extract]; omega
theorem sfB_le (w : ByteArray) : (sfB w).size ≤ w.size := by
  have := ndB_le w
  unfold sfB; split
  · exact Nat.zero_le _
  · rw [ByteArray.size_extract]; omega

set_option maxHeartbeats 400000 in
theorem refLast_any (s : ByteArray) (c : Int) (u : UInt8) (hc : (u.toNat : Int) = c) (w : World) (hs : s.size ≤ 140737488351232) :
    Calls Try.prog 75 #[.string s, .int .u8 c] w fun e w' => e = .returned (.int .i64 (li u s)) ∧ w' = w := by
  have HC := Lib.hid hc; clear hc
  go_enter Try.func75, Try.ntmps75
  go_wp2
  go_loop [5] (fun i => ∃ k : Nat, k ≤ s.size ∧ i = .int .i64 ((k : Int) - 1) ∧ Hid (lastB u (s.data.toList.take k) = li u s)) (fun i => (intOf i + 1).toNat)
  case atStart => exact ⟨s.size, Nat.le_refl _, by simp, by unfold Hid li; rw [List.take_of_length_le (by simp)]⟩
  case round =>
    obtain ⟨k, hk, rfl, hr⟩ := hrel
    cases k with
    | zero =>
      have h0 : ¬ (0 : Int) ≤ ((0 : Nat) : Int) - 1 := by omega
      go_wp2
      go_ret
      exact ⟨ret_int (by rw [← hr.out]; rfl), rfl⟩
    | succ k =>
      have hlt : k < s.size := by omega
      have e1 : ((k + 1 : Nat) : Int) - 1 = k := by omega
      have hsn : Hid (lastB u (s.data.toList.take (k + 1)) = if s[k] = u then (k : Int) else lastB u (s.data.toList.take k)) := by
        unfold Hid; rw [take_snoc s k hlt, lastB_snoc]; simp [Nat.min_eq_left (Nat.le_of_lt hlt)]
      rw [e1]
      clear e1
      by_cases hu : s[k] = u
      · have hb : ((s[k].toNat : Int) == c) = true := by rw [hu, HC.out]; simp
        have hf : Hid ((k : Int) = li u s) := by unfold Hid; rw [← hr.out, hsn.out, if_pos hu]
        clear hu hr hsn
        go_wp2
        go_ret
        exact ⟨ret_int hf.out, rfl⟩
      · have hb : ((s[k].toNat : Int) == c) = false := by
          rw [← HC.out]; simp only [beq_eq_false_iff_ne, ne_eq, Int.natCast_inj]; exact fun e => hu (UInt8.toNat_inj.1 e)
        have hf : Hid (lastB u (s.data.toList.take k) = li u s) := by unfold Hid; rw [← hr.out, hsn.out, if_neg hu]
        clear hu hr hsn
        go_wp2
        exact ⟨⟨k, by omega, rfl, hf⟩, by simp [intOf]⟩

theorem slash_any (s : ByteArray) (w : World) (hs : s.size ≤ 140737488351232) :
    Calls Try.prog 74 #[.string s] w fun e w' => e = .returned (.int .i64 (li 47 s)) ∧ w' = w := slash_walk s w hs

set_option maxHeartbeats 400000 in
theorem Dir_any (s : ByteArray) (w : World) (hs : s.size ≤ 140737488351232) :
    Calls Try.prog 32 #[.string s] w fun e w' => e = .returned (.string (dirB s)) ∧ w' = w := by
  have HI : Hid (∀ w, Calls Try.prog 74 #[.string s] w fun e w' => e = .returned (.int .i64 (li 47 s)) ∧ w' = w) := fun w => slash_any s w hs
  obtain ⟨b1, b2⟩ := li_b 47 s
  unfold dirB
  generalize li 47 s = i at *
  by_cases h : i < 0
  · rw [if_pos h]
    go_enter Try.func32, Try.ntmps32
    go_wp2_with (go_at_call 74; refine (HI.out _).mono ?_; rintro e w' ⟨rfl, rfl⟩)
    go_ret
    exact ⟨rfl, rfl⟩
  · rw [if_neg h]
    have w1 : IntKind.i64.wrap (i + 1) = i + 1 := IntWalk.i64_in _ (by omega)
    have h0 : 0 ≤ i + 1 := by omega
    have h1 : i + 1 ≤ s.size := by omega
    have w2 : (i + 1).toNat = i.toNat + 1 := by omega
    go_enter Try.func32, Try.ntmps32
    go_wp2_with (go_at_call 74; refine (HI.out _).mono ?_; rintro e w' ⟨rfl, rfl⟩)
    go_ret
    exact ⟨rfl, rfl⟩

set_option maxHeartbeats 400000 in
theorem refDir_any (s : ByteArray) (w : World) (hs : s.size ≤ 140737488351232) :
    Calls Try.prog 33 #[.string s] w fun e w' => e = .returned (.string (dirB s)) ∧ w' = w := by
  have HI : Hid (∀ w, Calls Try.prog 75 #[.string s, .int .u8 47] w fun e w' => e = .returned (.int .i64 (li 47 s)) ∧ w' = w) := fun w => refLast_any s 47 47 rfl w hs
  obtain ⟨b1, b2⟩ := li_b 47 s
  unfold dirB
  generalize li 47 s = i at *
  by_cases h : i < 0
  · rw [if_pos h]
    go_enter Try.func33, Try.ntmps33
    go_wp2_with (go_at_call 75; refine (HI.out _).mono ?_; rintro e w' ⟨rfl, rfl⟩)
    go_ret
    exact ⟨rfl, rfl⟩
  · rw [if_neg h]
    have w1 : IntKind.i64.wrap (i + 1) = i + 1 := IntWalk.i64_in _ (by omega)
    have h0 : 0 ≤ i + 1 := by omega
    have h1 : i + 1 ≤ s.size := by omega
    have w2 : (i + 1).toNat = i.toNat + 1 := by omega
    go_enter Try.func33, Try.ntmps33
    go_wp2_with (go_at_call 75; refine (HI.out _).mono ?_; rintro e w' ⟨rfl, rfl⟩)
    go_ret
    exact ⟨rfl, rfl⟩

set_option maxHeartbeats 400000 in
theorem NotDir_any (s : ByteArray) (w : World) (hs : s.size ≤ 140737488351232) :
    Calls Try.prog 34 #[.string s] w fun e w' => e = .returned (.string (ndB s)) ∧ w' = w := by
  have HI : Hid (∀ w, Calls Try.prog 74 #[.string s] w fun e w' => e = .returned (.int .i64 (li 47 s)) ∧ w' = w) := fun w => slash_any s w hs
  obtain ⟨b1, b2⟩ := li_b 47 s
  unfold ndB
  generalize li 47 s = i at *
  have w1 : IntKind.i64.wrap (i + 1) = i + 1 := IntWalk.i64_in _ (by omega)
  have h0 : 0 ≤ i + 1 := by omega
  have h1 : i + 1 ≤ s.size := by omega
  go_enter Try.func34, Try.ntmps34
  go_wp2_with (go_at_call 74; refine (HI.out _).mono ?_; rintro e w' ⟨rfl, rfl⟩)
  try go_quiet (first | (go_at_call 74; exact Calls.quiet_of_same (HI.out _)))
  try go_wp2
  go_ret
  exact ⟨rfl, rfl⟩

set_option maxHeartbeats 400000 in
theorem refNotDir_any (s : ByteArray) (w : World) (hs : s.size ≤ 140737488351232) :
    Calls Try.prog 35 #[.string s] w fun e w' => e = .returned (.string (ndB s)) ∧ w' = w := by
  have HI : Hid (∀ w, Calls Try.prog 75 #[.string s, .int .u8 47] w fun e w' => e = .returned (.int .i64 (li 47 s)) ∧ w' = w) := fun w => refLast_any s 47 47 rfl w hs
  obtain ⟨b1, b2⟩ := li_b 47 s
  unfold ndB
  generalize li 47 s = i at *
  have w1 : IntKind.i64.wrap (i + 1) = i + 1 := IntWalk.i64_in _ (by omega)
  have h0 : 0 ≤ i + 1 := by omega
  have h1 : i + 1 ≤ s.size := by omega
  go_enter Try.func35, Try.ntmps35
  go_wp2_with (go_at_call 75; refine (HI.out _).mono ?_; rintro e w' ⟨rfl, rfl⟩)
  try go_quiet (first | (go_at_call 75; exact Calls.quiet_of_same (HI.out _)))
  try go_wp2
  go_ret
  exact ⟨rfl, rfl⟩

set_option maxHeartbeats 400000 in
theorem Suffix_any (s : ByteArray) (w : World) (hs : s.size ≤ 140737488351232) :
    Calls Try.prog 36 #[.string s] w fun e w' => e = .returned (.string (sfB s)) ∧ w' = w := by
  have HN := Lib.hid (NotDir_any s · hs)
  have hn := ndB_le s
  unfold sfB
  generalize ndB s = n at *
  have HI : Hid (∀ w, Calls Try.prog 76 #[.string n, .int .u8 46] w fun e w' => e = .returned (.int .i64 (li 46 n)) ∧ w' = w) := fun w => by rw [← lib_last _ 46 46 rfl]; exact Try.strings_LastIndexByte n 46 (by omega) w
  obtain ⟨b1, b2⟩ := li_b 46 n
  generalize li 46 n = i at *
  by_cases h : i < 0
  · rw [if_pos h]
    go_enter Try.func36, Try.ntmps36
    go_wp2_with (first | (go_at_call 34; refine (HN.out _).mono ?_; rintro e w' ⟨rfl, rfl⟩) | (go_at_call 76; refine (HI.out _).mono ?_; rintro e w' ⟨rfl, rfl⟩))
    go_ret
    exact ⟨rfl, rfl⟩
  · rw [if_neg h]
    have h1 : 0 ≤ i := by omega
    have h2 : i ≤ n.size := by omega
    go_enter Try.func36, Try.ntmps36
    go_wp2_with (first | (go_at_call 34; refine (HN.out _).mono ?_; rintro e w' ⟨rfl, rfl⟩) | (go_at_call 76; refine (HI.out _).mono ?_; rintro e w' ⟨rfl, rfl⟩))
    go_ret
    exact ⟨rfl, rfl⟩

set_option maxHeartbeats 400000 in
theorem refSuffix_any (s : ByteArray) (w : World) (hs : s.size ≤ 140737488351232) :
    Calls Try.prog 37 #[.string s] w fun e w' => e = .returned (.string (sfB s)) ∧ w' = w := by
  have HN := Lib.hid (refNotDir_any s · hs)
  have hn := ndB_le s
  unfold sfB
  generalize ndB s = n at *
  have HI : Hid (∀ w, Calls Try.prog 75 #[.string n, .int .u8 46] w fun e w' => e = .returned (.int .i64 (li 46 n)) ∧ w' = w) := fun w => refLast_any n 46 46 rfl w (by omega)
  obtain ⟨b1, b2⟩ := li_b 46 n
  generalize li 46 n = i at *
  by_cases h : i < 0
  · rw [if_pos h]
    go_enter Try.func37, Try.ntmps37
    go_wp2_with (first | (go_at_call 35; refine (HN.out _).mono ?_; rintro e w' ⟨rfl, rfl⟩) | (go_at_call 75; refine (HI.out _).mono ?_; rintro e w' ⟨rfl, rfl⟩))
    go_ret
    exact ⟨rfl, rfl⟩
  · rw [if_neg h]
    have h1 : 0 ≤ i := by omega
    have h2 : i ≤ n.size := by omega
    go_enter Try.func37, Try.ntmps37
    go_wp2_with (first | (go_at_call 35; refine (HN.out _).mono ?_; rintro e w' ⟨rfl, rfl⟩) | (go_at_call 75; refine (HI.out _).mono ?_; rintro e w' ⟨rfl, rfl⟩))
    go_ret
    exact ⟨rfl, rfl⟩

set_option maxHeartbeats 400000 in
theorem Base_any (s : ByteArray) (w : World) (hs : s.size ≤ 140737488351232) :
    Calls Try.prog 38 #[.string s] w fun e w' => e = .returned (.string (bsB s)) ∧ w' = w := by
  have HN := Lib.hid (Suffix_any s · hs)
  have hn := sfB_le s
  unfold bsB
  generalize sfB s = n at *
  have h1 : (0 : Int) ≤ (s.size : Int) - n.size := by omega
  have h2 : (s.size : Int) - n.size ≤ s.size := by omega
  have h3 : ((s.size : Int) - n.size).toNat = s.size - n.size := by omega
  go_enter Try.func38, Try.ntmps38
  go_wp2_with (first | (go_at_call 36; refine (HN.out _).mono ?_; rintro e w' ⟨rfl, rfl⟩))
  go_ret
  exact ⟨rfl, rfl⟩

set_option maxHeartbeats 400000 in
theorem refBase_any (s : ByteArray) (w : World) (hs : s.size ≤ 140737488351232) :
    Calls Try.prog 39 #[.string s] w fun e w' => e = .returned (.string (bsB s)) ∧ w' = w := by
  have HN := Lib.hid (refSuffix_any s · hs)
  have hn := sfB_le s
  unfold bsB
  generalize sfB s = n at *
  have h1 : (0 : Int) ≤ (s.size : Int) - n.size := by omega
  have h2 : (s.size : Int) - n.size ≤ s.size := by omega
  have h3 : ((s.size : Int) - n.size).toNat = s.size - n.size := by omega
  go_enter Try.func39, Try.ntmps39
  go_wp2_with (first | (go_at_call 37; refine (HN.out _).mono ?_; rintro e w' ⟨rfl, rfl⟩))
  go_ret
  exact ⟨rfl, rfl⟩
end Go.Proofs.Ytndoloohdloflaa
