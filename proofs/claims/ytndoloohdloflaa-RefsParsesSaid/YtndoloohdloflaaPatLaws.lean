/- Package pat answers as the document says, on one pattern and one word: the walks of the laws PatMatches and PatBack; no condition. -/
import Derived.Test.YtndoloohdloflaaPatRef
namespace Go.Proofs.Ytndoloohdloflaa
open Go.RowKit

theorem lst_ext {a b : ByteArray} (h : a.data.toList = b.data.toList) : a = b := ba_ext h

set_option maxHeartbeats 400000 in
theorem patAlive (w : World) : Calls Try.prog 16 #[] w fun e w' => e = .returned (.bool true) ∧ Below w.heap.size w w' := by
  have M1 : Hid (∀ w, Calls Try.prog 18 #[.string ⟨#[37, 46, 99]⟩, .string ⟨#[120, 46, 99]⟩] w fun e w' => e = .returned (.tuple #[.string ⟨#[120]⟩, .bool true]) ∧ Below w.heap.size w w') := fun w => by
    have h := Match_any ⟨#[37, 46, 99]⟩ ⟨#[120, 46, 99]⟩ w (by decide) (by decide)
    rw [show Mstem ⟨#[37, 46, 99]⟩ ⟨#[120, 46, 99]⟩ = ⟨#[120]⟩ by decide +kernel, show Mok ⟨#[37, 46, 99]⟩ ⟨#[120, 46, 99]⟩ = true by decide +kernel] at h
    exact h
  have M2 : Hid (∀ w, Calls Try.prog 18 #[.string ⟨#[97, 37, 97]⟩, .string ⟨#[97]⟩] w fun e w' => e = .returned (.tuple #[.string ⟨#[]⟩, .bool false]) ∧ Below w.heap.size w w') := fun w => by
    have h := Match_any ⟨#[97, 37, 97]⟩ ⟨#[97]⟩ w (by decide) (by decide)
    rw [show Mstem ⟨#[97, 37, 97]⟩ ⟨#[97]⟩ = ⟨#[]⟩ by decide +kernel, show Mok ⟨#[97, 37, 97]⟩ ⟨#[97]⟩ = false by decide +kernel] at h
    exact h
  have M3 : Hid (∀ w, Calls Try.prog 20 #[.string ⟨#[37, 46, 99]⟩, .string ⟨#[37, 46, 111]⟩, .string ⟨#[97, 46, 99]⟩] w fun e w' => e = .returned (.string ⟨#[97, 46, 111]⟩) ∧ Below w.heap.size w w') := fun w => by
    have h := Subst_any ⟨#[37, 46, 99]⟩ ⟨#[37, 46, 111]⟩ ⟨#[97, 46, 99]⟩ w (by decide) (by decide) (by decide)
    rw [show SubstS ⟨#[37, 46, 99]⟩ ⟨#[37, 46, 111]⟩ ⟨#[97, 46, 99]⟩ = ⟨#[97, 46, 111]⟩ by decide +kernel] at h
    exact h
  go_enter Try.func16, Try.ntmps16
  go_wp2_with fail
  refine (M1.out _).mono ?_
  rintro e w1 ⟨rfl, HB1⟩
  go_wp2_with fail
  refine (M2.out _).mono ?_
  rintro e w2 ⟨rfl, HB2⟩
  go_wp2_with fail
  refine (M3.out _).mono ?_
  rintro e w3 ⟨rfl, HB3⟩
  go_wp2_with fail
  go_ret
  exact ⟨rfl, (HB1.trans (HB2.mono HB1.size)).trans (HB3.mono (Nat.le_trans HB1.size HB2.size))⟩

theorem b3 {w w1 w2 : World} (h : Below w.heap.size w w1) (k : Below w1.heap.size w1 w2) : Below w.heap.size w w2 := h.trans (k.mono h.size)

set_option maxHeartbeats 1000000 in
theorem patMatches_walk (p q s : ByteArray) (w : World) (hp : p.size ≤ 140737488351232) (hq : q.size ≤ 140737488351232) (hs : s.size ≤ 140737488351232) :
    Calls Try.prog 4 #[.string p, .string q, .string s] w fun e w' => e = .returned (.bool true) ∧ Below w.heap.size w w' := by
  have HA := Lib.hid patAlive
  have HM := Lib.hid (Match_any p s · hp hs)
  have HR := Lib.hid (refMatch_any p s · hp hs)
  have HH := Lib.hid (Has_any p)
  have HI : Hid (∀ w, Calls Try.prog 17 #[.string p, .int .u8 37] w fun e w' => e = .returned (.int .i64 (pk p)) ∧ w' = w) := fun w => refIndex_any p 37 37 rfl w hp
  have HP := Lib.hid (Put_any p s · hp hs)
  have HP2 := Lib.hid (refPut_any p s · hp hs)
  have HS := Lib.hid (Subst_any p q s · hp hq hs)
  have HS2 := Lib.hid (refSubst_any p q s · hp hq hs)
  have ho : popen p = decide (0 ≤ pk p) := by unfold popen; by_cases h : pk p < 0 <;> simp [h] <;> omega
  rw [ho] at HH
  clear ho
  by_cases c1 : 5000 < p.size
  · have c1' : (5000 : Int) < p.size := by omega
    go_enter Try.func4, Try.ntmps4
    go_wp2_with (first | (go_at_call 16; refine (HA.out _).mono ?_; rintro e w1 ⟨rfl, HB1⟩))
    go_ret
    exact ⟨rfl, HB1⟩
  have c1' : ¬ (5000 : Int) < p.size := by omega
  by_cases c2 : 5000 < q.size
  · have c2' : (5000 : Int) < q.size := by omega
    go_enter Try.func4, Try.ntmps4
    go_wp2_with (first | (go_at_call 16; refine (HA.out _).mono ?_; rintro e w1 ⟨rfl, HB1⟩))
    go_ret
    exact ⟨rfl, HB1⟩
  have c2' : ¬ (5000 : Int) < q.size := by omega
  by_cases c3 : 5000 < s.size
  · have c3' : (5000 : Int) < s.size := by omega
    go_enter Try.func4, Try.ntmps4
    go_wp2_with (first | (go_at_call 16; refine (HA.out _).mono ?_; rintro e w1 ⟨rfl, HB1⟩))
    go_ret
    exact ⟨rfl, HB1⟩
  have c3' : ¬ (5000 : Int) < s.size := by omega
  go_enter Try.func4, Try.ntmps4
  go_wp2_with (first
    | (go_at_call 16; refine (HA.out _).mono ?_; rintro e w1 ⟨rfl, HB1⟩)
    | (go_at_call 18; refine (HM.out _).mono ?_; rintro e w2 ⟨rfl, HB2⟩)
    | (go_at_call 21; refine (HR.out _).mono ?_; rintro e w' ⟨rfl, rfl⟩)
    | (go_at_call 22; refine (HH.out _).mono ?_; rintro e w' ⟨rfl, rfl⟩)
    | (go_at_call 17; refine (HI.out _).mono ?_; rintro e w' ⟨rfl, rfl⟩)
    | (go_at_call 19; refine (HP.out _).mono ?_; rintro e w3 ⟨rfl, HB3⟩)
    | (go_at_call 23; refine (HP2.out _).mono ?_; rintro e w4 ⟨rfl, HB4⟩)
    | (go_at_call 20; refine (HS.out _).mono ?_; rintro e w5 ⟨rfl, HB5⟩)
    | (go_at_call 24; refine (HS2.out _).mono ?_; rintro e w6 ⟨rfl, HB6⟩))
  go_ret
  exact ⟨rfl, b3 (b3 (b3 (b3 (b3 HB1 HB2) HB3) HB4) HB5) HB6⟩

theorem idx_app (a b : List UInt8) (u : UInt8) (h : Lib.indexByte a u < 0) : Lib.indexByte (a ++ u :: b) u = a.length := by
  induction a with
  | nil => simp [Lib.indexByte]
  | cons x a ih =>
    have g := Lib.indexByte_ge a u
    simp only [Lib.indexByte] at h
    simp only [List.cons_append, Lib.indexByte, List.length_cons]
    by_cases hx : (x == u) = true
    · rw [if_pos hx] at h; omega
    · rw [if_neg hx] at h ⊢
      by_cases hz : Lib.indexByte a u = -1
      · rw [ih (by omega)]
        rw [if_neg (by simp only [beq_iff_eq]; omega)]; omega
      · rw [if_neg (by simpa using hz)] at h; omega

section
variable (a b : ByteArray)
def pct : ByteArray := ⟨#[37]⟩
theorem pk_mk (h : pk a < 0) : pk (a ++ pct ++ b) = a.size := by
  unfold pk at *
  rw [show (a ++ pct ++ b).data.toList = a.data.toList ++ 37 :: b.data.toList by simp [pct]]
  rw [idx_app _ _ _ h]; simp
theorem phead_mk (h : pk a < 0) : phead (a ++ pct ++ b) = a := by
  unfold phead; rw [pk_mk a b h, if_neg (by omega)]
  apply ba_ext; rw [extract_list]; simp [pct]
theorem ptail_mk (h : pk a < 0) : ptail (a ++ pct ++ b) = b := by
  unfold ptail; rw [pk_mk a b h, if_neg (by omega)]
  apply ba_ext; rw [extract_list, List.take_of_length_le (by simp; omega)]
  rw [show (a ++ pct ++ b).data.toList = (a.data.toList ++ [37]) ++ b.data.toList by simp [pct]]
  rw [List.drop_append_of_le_length (by simp)]; simp
theorem popen_mk (h : pk a < 0) : popen (a ++ pct ++ b) = true := by
  unfold popen; rw [pk_mk a b h]; simp
theorem ok_mk (a b s : ByteArray) : mok a b true (a ++ s ++ b) = true := by
  have h1 : Lib.hasPrefix (a ++ s ++ b).data.toList a.data.toList = true := by
    rw [Lib.hasPrefix, List.isPrefixOf_iff_prefix]; exact ⟨s.data.toList ++ b.data.toList, by simp⟩
  have h2 : Lib.hasSuffix (a ++ s ++ b).data.toList b.data.toList = true := by
    rw [Lib.hasSuffix, List.isSuffixOf_iff_suffix]; exact ⟨a.data.toList ++ s.data.toList, by simp⟩
  unfold mok
  rw [h1, h2]; simp only [if_true, Bool.and_self, Bool.and_true, Bool.not_eq_true', decide_eq_false_iff_not, ByteArray.size_append]; omega
theorem stem_mk (a b s : ByteArray) : mstem a b true (a ++ s ++ b) = s := by
  unfold mstem; rw [ok_mk]
  apply ba_ext
  simp only [Bool.and_self, if_true]
  rw [extract_list]
  rw [show (a ++ s ++ b).data.toList = a.data.toList ++ (s.data.toList ++ b.data.toList) by simp]
  rw [show (a ++ s ++ b).size - b.size = a.data.toList.length + s.data.toList.length by simp]
  rw [List.take_length_add_append, List.take_left', List.drop_left']
  · simp
  · rfl
end
def xpct : ByteArray := ⟨#[120, 37]⟩
theorem xpct_head : phead xpct = ⟨#[120]⟩ := by decide +kernel
theorem xpct_tail : ptail xpct = ⟨#[]⟩ := by decide +kernel
theorem xpct_open : popen xpct = true := by decide +kernel
theorem put_x (s : ByteArray) : PutS xpct s = ⟨#[120]⟩ ++ s ++ ⟨#[]⟩ := by unfold PutS; rw [xpct_open, xpct_head, xpct_tail]; rfl
theorem back (a b s : ByteArray) (h : pk a < 0) :
    PutS (a ++ pct ++ b) s = a ++ s ++ b ∧ Mok (a ++ pct ++ b) (a ++ s ++ b) = true ∧ Mstem (a ++ pct ++ b) (a ++ s ++ b) = s ∧
    SubstS (a ++ pct ++ b) xpct (a ++ s ++ b) = ⟨#[120]⟩ ++ s ++ ⟨#[]⟩ ∧ SubstS xpct (a ++ pct ++ b) (⟨#[120]⟩ ++ s ++ ⟨#[]⟩) = a ++ s ++ b := by
  have o1 : Mok (a ++ pct ++ b) (a ++ s ++ b) = true := by unfold Mok; rw [phead_mk a b h, ptail_mk a b h, popen_mk a b h]; exact ok_mk a b s
  have o2 : Mstem (a ++ pct ++ b) (a ++ s ++ b) = s := by unfold Mstem; rw [phead_mk a b h, ptail_mk a b h, popen_mk a b h]; exact stem_mk a b s
  have o3 : PutS (a ++ pct ++ b) s = a ++ s ++ b := by unfold PutS; rw [phead_mk a b h, ptail_mk a b h, popen_mk a b h]; rfl
  have o4 : Mok xpct (⟨#[120]⟩ ++ s ++ ⟨#[]⟩) = true := by unfold Mok; rw [xpct_open, xpct_head, xpct_tail]; exact ok_mk _ _ s
  have o5 : Mstem xpct (⟨#[120]⟩ ++ s ++ ⟨#[]⟩) = s := by unfold Mstem; rw [xpct_open, xpct_head, xpct_tail]; exact stem_mk _ _ s
  refine ⟨o3, o1, o2, ?_, ?_⟩
  · unfold SubstS; rw [o1, popen_mk a b h, o2, put_x]; rfl
  · unfold SubstS; rw [o4, xpct_open, o5, o3]; rfl

set_option maxHeartbeats 1000000 in
theorem patBack_walk (a b s : ByteArray) (w : World) (ha : a.size ≤ 140737488351232) (hb : b.size ≤ 140737488351232) (hs : s.size ≤ 140737488351232) :
    Calls Try.prog 3 #[.string a, .string b, .string s] w fun e w' => e = .returned (.bool true) ∧ Below w.heap.size w w' := by
  have HA := Lib.hid patAlive
  have HI : Hid (∀ w, Calls Try.prog 17 #[.string a, .int .u8 37] w fun e w' => e = .returned (.int .i64 (pk a)) ∧ w' = w) := fun w => refIndex_any a 37 37 rfl w ha
  by_cases c1 : 5000 < a.size + b.size + s.size
  · have c1' : (5000 : Int) < (a.size : Int) + (b.size : Int) + (s.size : Int) := by omega
    go_enter Try.func3, Try.ntmps3
    go_wp2_with (first | (go_at_call 16; refine (HA.out _).mono ?_; rintro e w1 ⟨rfl, HB1⟩))
    go_ret
    exact ⟨rfl, HB1⟩
  have c1' : ¬ (5000 : Int) < (a.size : Int) + (b.size : Int) + (s.size : Int) := by omega
  by_cases c2 : pk a < 0
  · obtain ⟨k1, k2, k3, k4, k5⟩ := back a b s c2
    have s1 : (a ++ pct ++ b).size ≤ 6000 := by rw [ByteArray.size_append, ByteArray.size_append, show pct.size = 1 from rfl]; omega
    have s2 : (a ++ s ++ b).size ≤ 6000 := by simp; omega
    have s3 : ((⟨#[120]⟩ : ByteArray) ++ s ++ ⟨#[]⟩).size ≤ 6000 := by simp [ByteArray.size_append]; show 1 + s.size + 0 ≤ 6000; omega
    have H1 := Lib.hid (Put_any (a ++ pct ++ b) s · (by omega) hs)
    have H2 := Lib.hid (Match_any (a ++ pct ++ b) (a ++ s ++ b) · (by omega) (by omega))
    have H3 := Lib.hid (Subst_any (a ++ pct ++ b) xpct (a ++ s ++ b) · (by omega) (by decide) (by omega))
    have H4 := Lib.hid (Subst_any xpct (a ++ pct ++ b) (⟨#[120]⟩ ++ s ++ ⟨#[]⟩) · (by decide) (by omega) (by omega))
    rw [k1] at H1; rw [k2, k3] at H2; rw [k4] at H3; rw [k5] at H4
    clear k1 k2 k3 k4 k5 s1 s2 s3
    generalize pk a = i at *
    go_enter Try.func3, Try.ntmps3
    go_wp2_with fail
    refine (HA.out _).mono ?_
    rintro e w1 ⟨rfl, HB1⟩
    go_wp2_with fail
    refine (HI.out _).mono ?_
    rintro e w' ⟨rfl, rfl⟩
    go_wp2_with fail
    refine (H1.out _).mono ?_
    rintro e w2 ⟨rfl, HB2⟩
    go_wp2_with fail
    refine (H2.out _).mono ?_
    rintro e w3 ⟨rfl, HB3⟩
    go_wp2_with fail
    refine (H3.out _).mono ?_
    rintro e w4 ⟨rfl, HB4⟩
    go_wp2_with fail
    refine (H4.out _).mono ?_
    rintro e w5 ⟨rfl, HB5⟩
    go_wp2_with fail
    go_ret
    exact ⟨rfl, b3 (b3 (b3 (b3 HB1 HB2) HB3) HB4) HB5⟩
  · generalize pk a = i at *
    go_enter Try.func3, Try.ntmps3
    go_wp2_with (first | (go_at_call 16; refine (HA.out _).mono ?_; rintro e w1 ⟨rfl, HB1⟩) | (go_at_call 17; refine (HI.out _).mono ?_; rintro e w' ⟨rfl, rfl⟩))
    go_ret
    exact ⟨rfl, HB1⟩
end Go.Proofs.Ytndoloohdloflaa
