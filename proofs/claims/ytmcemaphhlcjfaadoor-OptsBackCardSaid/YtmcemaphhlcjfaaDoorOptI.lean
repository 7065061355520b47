/- What Parse tells of the words that the laws of opts ask, in plain words; no condition. -/
import Derived.Test.YtmcemaphhlcjfaaDoorOptG
import Derived.Test.YtmcemaphhlcjfaaDoorOptD
namespace Go.Proofs.YtmcemaphhlcjfaaDoor
open Go.RowKit Go.Maps

theorem al_one : parseF [⟨#[45, 107, 106]⟩, ⟨#[51]⟩, ⟨#[97]⟩, ⟨#[88, 61, 49]⟩, ⟨#[45, 45, 115, 105, 108, 101, 110, 116]⟩, ⟨#[98]⟩] bE = some { x0 with j := 3, bs := upd (upd x0.bs 1) 5, gs := [nameB ⟨#[97]⟩, nameB ⟨#[98]⟩], vs := [⟨#[88, 61, 49]⟩] } := by kernel_rfl
theorem al_two : parseF [⟨#[45, 106, 48]⟩] bE = none := by kernel_rfl
theorem al_flags : mk (flagsL (upd (upd x0.bs 1) 5) [⟨#[88, 61, 49]⟩]) = ⟨#[107, 115, 32, 45, 45, 32, 88, 61, 49]⟩ := by kernel_rfl
theorem lg_j : parseF [⟨#[45, 106]⟩] bE = none := by kernel_rfl
def lngT : List ByteArray := [⟨#[107, 101, 101, 112, 45, 103, 111, 105, 110, 103]⟩, ⟨#[100, 114, 121, 45, 114, 117, 110]⟩, ⟨#[106, 117, 115, 116, 45, 112, 114, 105, 110, 116]⟩, ⟨#[116, 111, 117, 99, 104]⟩, ⟨#[113, 117, 101, 115, 116, 105, 111, 110]⟩, ⟨#[115, 105, 108, 101, 110, 116]⟩, ⟨#[113, 117, 105, 101, 116]⟩, ⟨#[105, 103, 110, 111, 114, 101, 45, 101, 114, 114, 111, 114, 115]⟩, ⟨#[101, 110, 118, 105, 114, 111, 110, 109, 101, 110, 116, 45, 111, 118, 101, 114, 114, 105, 100, 101, 115]⟩, ⟨#[110, 111, 45, 98, 117, 105, 108, 116, 105, 110, 45, 114, 117, 108, 101, 115]⟩, ⟨#[97, 108, 119, 97, 121, 115, 45, 109, 97, 107, 101]⟩]
def shtT : List ByteArray := [⟨#[107]⟩, ⟨#[110]⟩, ⟨#[110]⟩, ⟨#[116]⟩, ⟨#[113]⟩, ⟨#[115]⟩, ⟨#[115]⟩, ⟨#[105]⟩, ⟨#[101]⟩, ⟨#[114]⟩, ⟨#[66]⟩]
def LgF (k : Nat) (lw sw : ByteArray) (n : Nat) : Prop := lngT[k]? = some lw ∧ shtT[k]? = some sw ∧ lw.size ≤ 30 ∧ sw.size = 1 ∧ parseF [⟨#[45, 45]⟩ ++ lw] bE = some { x0 with bs := upd x0.bs n } ∧ parseF [⟨#[45]⟩ ++ sw] bE = some { x0 with bs := upd x0.bs n } ∧ parseF [⟨#[45, 45]⟩ ++ lw ++ ⟨#[61, 120]⟩] bE = none
theorem lg_0 : LgF 0 ⟨#[107, 101, 101, 112, 45, 103, 111, 105, 110, 103]⟩ ⟨#[107]⟩ 1 := ⟨by rfl, by rfl, by decide, by rfl, by kernel_rfl, by kernel_rfl, by kernel_rfl⟩
theorem lg_1 : LgF 1 ⟨#[100, 114, 121, 45, 114, 117, 110]⟩ ⟨#[110]⟩ 2 := ⟨by rfl, by rfl, by decide, by rfl, by kernel_rfl, by kernel_rfl, by kernel_rfl⟩
theorem lg_2 : LgF 2 ⟨#[106, 117, 115, 116, 45, 112, 114, 105, 110, 116]⟩ ⟨#[110]⟩ 2 := ⟨by rfl, by rfl, by decide, by rfl, by kernel_rfl, by kernel_rfl, by kernel_rfl⟩
theorem lg_3 : LgF 3 ⟨#[116, 111, 117, 99, 104]⟩ ⟨#[116]⟩ 3 := ⟨by rfl, by rfl, by decide, by rfl, by kernel_rfl, by kernel_rfl, by kernel_rfl⟩
theorem lg_4 : LgF 4 ⟨#[113, 117, 101, 115, 116, 105, 111, 110]⟩ ⟨#[113]⟩ 4 := ⟨by rfl, by rfl, by decide, by rfl, by kernel_rfl, by kernel_rfl, by kernel_rfl⟩
theorem lg_5 : LgF 5 ⟨#[115, 105, 108, 101, 110, 116]⟩ ⟨#[115]⟩ 5 := ⟨by rfl, by rfl, by decide, by rfl, by kernel_rfl, by kernel_rfl, by kernel_rfl⟩
theorem lg_6 : LgF 6 ⟨#[113, 117, 105, 101, 116]⟩ ⟨#[115]⟩ 5 := ⟨by rfl, by rfl, by decide, by rfl, by kernel_rfl, by kernel_rfl, by kernel_rfl⟩
theorem lg_7 : LgF 7 ⟨#[105, 103, 110, 111, 114, 101, 45, 101, 114, 114, 111, 114, 115]⟩ ⟨#[105]⟩ 6 := ⟨by rfl, by rfl, by decide, by rfl, by kernel_rfl, by kernel_rfl, by kernel_rfl⟩
theorem lg_8 : LgF 8 ⟨#[101, 110, 118, 105, 114, 111, 110, 109, 101, 110, 116, 45, 111, 118, 101, 114, 114, 105, 100, 101, 115]⟩ ⟨#[101]⟩ 7 := ⟨by rfl, by rfl, by decide, by rfl, by kernel_rfl, by kernel_rfl, by kernel_rfl⟩
theorem lg_9 : LgF 9 ⟨#[110, 111, 45, 98, 117, 105, 108, 116, 105, 110, 45, 114, 117, 108, 101, 115]⟩ ⟨#[114]⟩ 8 := ⟨by rfl, by rfl, by decide, by rfl, by kernel_rfl, by kernel_rfl, by kernel_rfl⟩
theorem lg_10 : LgF 10 ⟨#[97, 108, 119, 97, 121, 115, 45, 109, 97, 107, 101]⟩ ⟨#[66]⟩ 9 := ⟨by rfl, by rfl, by decide, by rfl, by kernel_rfl, by kernel_rfl, by kernel_rfl⟩
theorem lg_all (k : Nat) (h : k < 11) : ∃ lw sw n, LgF k lw sw n := by
  have : k = 0 ∨ k = 1 ∨ k = 2 ∨ k = 3 ∨ k = 4 ∨ k = 5 ∨ k = 6 ∨ k = 7 ∨ k = 8 ∨ k = 9 ∨ k = 10 := by omega
  rcases this with rfl | rfl | rfl | rfl | rfl | rfl | rfl | rfl | rfl | rfl | rfl
  · exact ⟨_, _, _, lg_0⟩
  · exact ⟨_, _, _, lg_1⟩
  · exact ⟨_, _, _, lg_2⟩
  · exact ⟨_, _, _, lg_3⟩
  · exact ⟨_, _, _, lg_4⟩
  · exact ⟨_, _, _, lg_5⟩
  · exact ⟨_, _, _, lg_6⟩
  · exact ⟨_, _, _, lg_7⟩
  · exact ⟨_, _, _, lg_8⟩
  · exact ⟨_, _, _, lg_9⟩
  · exact ⟨_, _, _, lg_10⟩
def JbF (n : Int) : Prop := (decB n).size ≤ 3 ∧ ((1 ≤ n ∧ n ≤ 16 ∧ parseF [⟨#[45, 45, 106, 111, 98, 115, 61]⟩ ++ decB n] bE = some { x0 with j := n } ∧ parseF [⟨#[45, 107, 106]⟩ ++ decB n ++ ⟨#[]⟩, ⟨#[45, 102]⟩, ⟨#[109]⟩, ⟨#[45, 102, 110]⟩] bE = some { x0 with j := n, bs := upd x0.bs 1, fs := [⟨#[109]⟩, ⟨#[110]⟩] }) ∨
  ((n < 1 ∨ 16 < n) ∧ parseF [⟨#[45, 45, 106, 111, 98, 115, 61]⟩ ++ decB n] bE = none ∧ parseF [⟨#[45, 107, 106]⟩ ++ decB n ++ ⟨#[]⟩, ⟨#[45, 102]⟩, ⟨#[109]⟩, ⟨#[45, 102, 110]⟩] bE = none))
theorem db_m5 : decB (-5) = ⟨#[45, 53]⟩ := by simp [decB, decL, mk]
theorem jb_m5 : JbF (-5) := by unfold JbF; rw [db_m5]; exact ⟨by decide, .inr ⟨by decide, by kernel_rfl, by kernel_rfl⟩⟩
theorem db_m4 : decB (-4) = ⟨#[45, 52]⟩ := by simp [decB, decL, mk]
theorem jb_m4 : JbF (-4) := by unfold JbF; rw [db_m4]; exact ⟨by decide, .inr ⟨by decide, by kernel_rfl, by kernel_rfl⟩⟩
theorem db_m3 : decB (-3) = ⟨#[45, 51]⟩ := by simp [decB, decL, mk]
theorem jb_m3 : JbF (-3) := by unfold JbF; rw [db_m3]; exact ⟨by decide, .inr ⟨by decide, by kernel_rfl, by kernel_rfl⟩⟩
theorem db_m2 : decB (-2) = ⟨#[45, 50]⟩ := by simp [decB, decL, mk]
theorem jb_m2 : JbF (-2) := by unfold JbF; rw [db_m2]; exact ⟨by decide, .inr ⟨by decide, by kernel_rfl, by kernel_rfl⟩⟩
theorem db_m1 : decB (-1) = ⟨#[45, 49]⟩ := by simp [decB, decL, mk]
theorem jb_m1 : JbF (-1) := by unfold JbF; rw [db_m1]; exact ⟨by decide, .inr ⟨by decide, by kernel_rfl, by kernel_rfl⟩⟩
theorem db_0 : decB 0 = ⟨#[48]⟩ := by simp [decB, decL, mk]
theorem jb_0 : JbF 0 := by unfold JbF; rw [db_0]; exact ⟨by decide, .inr ⟨by decide, by kernel_rfl, by kernel_rfl⟩⟩
theorem db_1 : decB 1 = ⟨#[49]⟩ := by simp [decB, decL, mk]
theorem jb_1 : JbF 1 := by unfold JbF; rw [db_1]; exact ⟨by decide, .inl ⟨by decide, by decide, by kernel_rfl, by kernel_rfl⟩⟩
theorem db_2 : decB 2 = ⟨#[50]⟩ := by simp [decB, decL, mk]
theorem jb_2 : JbF 2 := by unfold JbF; rw [db_2]; exact ⟨by decide, .inl ⟨by decide, by decide, by kernel_rfl, by kernel_rfl⟩⟩
theorem db_3 : decB 3 = ⟨#[51]⟩ := by simp [decB, decL, mk]
theorem jb_3 : JbF 3 := by unfold JbF; rw [db_3]; exact ⟨by decide, .inl ⟨by decide, by decide, by kernel_rfl, by kernel_rfl⟩⟩
theorem db_4 : decB 4 = ⟨#[52]⟩ := by simp [decB, decL, mk]
theorem jb_4 : JbF 4 := by unfold JbF; rw [db_4]; exact ⟨by decide, .inl ⟨by decide, by decide, by kernel_rfl, by kernel_rfl⟩⟩
theorem db_5 : decB 5 = ⟨#[53]⟩ := by simp [decB, decL, mk]
theorem jb_5 : JbF 5 := by unfold JbF; rw [db_5]; exact ⟨by decide, .inl ⟨by decide, by decide, by kernel_rfl, by kernel_rfl⟩⟩
theorem db_6 : decB 6 = ⟨#[54]⟩ := by simp [decB, decL, mk]
theorem jb_6 : JbF 6 := by unfold JbF; rw [db_6]; exact ⟨by decide, .inl ⟨by decide, by decide, by kernel_rfl, by kernel_rfl⟩⟩
theorem db_7 : decB 7 = ⟨#[55]⟩ := by simp [decB, decL, mk]
theorem jb_7 : JbF 7 := by unfold JbF; rw [db_7]; exact ⟨by decide, .inl ⟨by decide, by decide, by kernel_rfl, by kernel_rfl⟩⟩
theorem db_8 : decB 8 = ⟨#[56]⟩ := by simp [decB, decL, mk]
theorem jb_8 : JbF 8 := by unfold JbF; rw [db_8]; exact ⟨by decide, .inl ⟨by decide, by decide, by kernel_rfl, by kernel_rfl⟩⟩
theorem db_9 : decB 9 = ⟨#[57]⟩ := by simp [decB, decL, mk]
theorem jb_9 : JbF 9 := by unfold JbF; rw [db_9]; exact ⟨by decide, .inl ⟨by decide, by decide, by kernel_rfl, by kernel_rfl⟩⟩
theorem db_10 : decB 10 = ⟨#[49, 48]⟩ := by simp [decB, decL, mk]
theorem jb_10 : JbF 10 := by unfold JbF; rw [db_10]; exact ⟨by decide, .inl ⟨by decide, by decide, by kernel_rfl, by kernel_rfl⟩⟩
theorem db_11 : decB 11 = ⟨#[49, 49]⟩ := by simp [decB, decL, mk]
theorem jb_11 : JbF 11 := by unfold JbF; rw [db_11]; exact ⟨by decide, .inl ⟨by decide, by decide, by kernel_rfl, by kernel_rfl⟩⟩
theorem db_12 : decB 12 = ⟨#[49, 50]⟩ := by simp [decB, decL, mk]
theorem jb_12 : JbF 12 := by unfold JbF; rw [db_12]; exact ⟨by decide, .inl ⟨by decide, by decide, by kernel_rfl, by kernel_rfl⟩⟩
theorem db_13 : decB 13 = ⟨#[49, 51]⟩ := by simp [decB, decL, mk]
theorem jb_13 : JbF 13 := by unfold JbF; rw [db_13]; exact ⟨by decide, .inl ⟨by decide, by decide, by kernel_rfl, by kernel_rfl⟩⟩
theorem db_14 : decB 14 = ⟨#[49, 52]⟩ := by simp [decB, decL, mk]
theorem jb_14 : JbF 14 := by unfold JbF; rw [db_14]; exact ⟨by decide, .inl ⟨by decide, by decide, by kernel_rfl, by kernel_rfl⟩⟩
theorem db_15 : decB 15 = ⟨#[49, 53]⟩ := by simp [decB, decL, mk]
theorem jb_15 : JbF 15 := by unfold JbF; rw [db_15]; exact ⟨by decide, .inl ⟨by decide, by decide, by kernel_rfl, by kernel_rfl⟩⟩
theorem db_16 : decB 16 = ⟨#[49, 54]⟩ := by simp [decB, decL, mk]
theorem jb_16 : JbF 16 := by unfold JbF; rw [db_16]; exact ⟨by decide, .inl ⟨by decide, by decide, by kernel_rfl, by kernel_rfl⟩⟩
theorem db_17 : decB 17 = ⟨#[49, 55]⟩ := by simp [decB, decL, mk]
theorem jb_17 : JbF 17 := by unfold JbF; rw [db_17]; exact ⟨by decide, .inr ⟨by decide, by kernel_rfl, by kernel_rfl⟩⟩
theorem db_18 : decB 18 = ⟨#[49, 56]⟩ := by simp [decB, decL, mk]
theorem jb_18 : JbF 18 := by unfold JbF; rw [db_18]; exact ⟨by decide, .inr ⟨by decide, by kernel_rfl, by kernel_rfl⟩⟩
theorem db_19 : decB 19 = ⟨#[49, 57]⟩ := by simp [decB, decL, mk]
theorem jb_19 : JbF 19 := by unfold JbF; rw [db_19]; exact ⟨by decide, .inr ⟨by decide, by kernel_rfl, by kernel_rfl⟩⟩
theorem db_20 : decB 20 = ⟨#[50, 48]⟩ := by simp [decB, decL, mk]
theorem jb_20 : JbF 20 := by unfold JbF; rw [db_20]; exact ⟨by decide, .inr ⟨by decide, by kernel_rfl, by kernel_rfl⟩⟩
theorem db_21 : decB 21 = ⟨#[50, 49]⟩ := by simp [decB, decL, mk]
theorem jb_21 : JbF 21 := by unfold JbF; rw [db_21]; exact ⟨by decide, .inr ⟨by decide, by kernel_rfl, by kernel_rfl⟩⟩
theorem db_22 : decB 22 = ⟨#[50, 50]⟩ := by simp [decB, decL, mk]
theorem jb_22 : JbF 22 := by unfold JbF; rw [db_22]; exact ⟨by decide, .inr ⟨by decide, by kernel_rfl, by kernel_rfl⟩⟩
theorem db_23 : decB 23 = ⟨#[50, 51]⟩ := by simp [decB, decL, mk]
theorem jb_23 : JbF 23 := by unfold JbF; rw [db_23]; exact ⟨by decide, .inr ⟨by decide, by kernel_rfl, by kernel_rfl⟩⟩
theorem db_24 : decB 24 = ⟨#[50, 52]⟩ := by simp [decB, decL, mk]
theorem jb_24 : JbF 24 := by unfold JbF; rw [db_24]; exact ⟨by decide, .inr ⟨by decide, by kernel_rfl, by kernel_rfl⟩⟩
theorem db_25 : decB 25 = ⟨#[50, 53]⟩ := by simp [decB, decL, mk]
theorem jb_25 : JbF 25 := by unfold JbF; rw [db_25]; exact ⟨by decide, .inr ⟨by decide, by kernel_rfl, by kernel_rfl⟩⟩
theorem db_26 : decB 26 = ⟨#[50, 54]⟩ := by simp [decB, decL, mk]
theorem jb_26 : JbF 26 := by unfold JbF; rw [db_26]; exact ⟨by decide, .inr ⟨by decide, by kernel_rfl, by kernel_rfl⟩⟩
theorem db_27 : decB 27 = ⟨#[50, 55]⟩ := by simp [decB, decL, mk]
theorem jb_27 : JbF 27 := by unfold JbF; rw [db_27]; exact ⟨by decide, .inr ⟨by decide, by kernel_rfl, by kernel_rfl⟩⟩
theorem db_28 : decB 28 = ⟨#[50, 56]⟩ := by simp [decB, decL, mk]
theorem jb_28 : JbF 28 := by unfold JbF; rw [db_28]; exact ⟨by decide, .inr ⟨by decide, by kernel_rfl, by kernel_rfl⟩⟩
theorem db_29 : decB 29 = ⟨#[50, 57]⟩ := by simp [decB, decL, mk]
theorem jb_29 : JbF 29 := by unfold JbF; rw [db_29]; exact ⟨by decide, .inr ⟨by decide, by kernel_rfl, by kernel_rfl⟩⟩
theorem db_30 : decB 30 = ⟨#[51, 48]⟩ := by simp [decB, decL, mk]
theorem jb_30 : JbF 30 := by unfold JbF; rw [db_30]; exact ⟨by decide, .inr ⟨by decide, by kernel_rfl, by kernel_rfl⟩⟩
theorem jb_all (n : Int) (h1 : -5 ≤ n) (h2 : n ≤ 30) : JbF n := by
  have : n = -5 ∨ n = -4 ∨ n = -3 ∨ n = -2 ∨ n = -1 ∨ n = 0 ∨ n = 1 ∨ n = 2 ∨ n = 3 ∨ n = 4 ∨ n = 5 ∨ n = 6 ∨ n = 7 ∨ n = 8 ∨ n = 9 ∨ n = 10 ∨ n = 11 ∨ n = 12 ∨ n = 13 ∨ n = 14 ∨ n = 15 ∨ n = 16 ∨ n = 17 ∨ n = 18 ∨ n = 19 ∨ n = 20 ∨ n = 21 ∨ n = 22 ∨ n = 23 ∨ n = 24 ∨ n = 25 ∨ n = 26 ∨ n = 27 ∨ n = 28 ∨ n = 29 ∨ n = 30 := by omega
  rcases this with rfl | rfl | rfl | rfl | rfl | rfl | rfl | rfl | rfl | rfl | rfl | rfl | rfl | rfl | rfl | rfl | rfl | rfl | rfl | rfl | rfl | rfl | rfl | rfl | rfl | rfl | rfl | rfl | rfl | rfl | rfl | rfl | rfl | rfl | rfl | rfl
  · exact jb_m5
  · exact jb_m4
  · exact jb_m3
  · exact jb_m2
  · exact jb_m1
  · exact jb_0
  · exact jb_1
  · exact jb_2
  · exact jb_3
  · exact jb_4
  · exact jb_5
  · exact jb_6
  · exact jb_7
  · exact jb_8
  · exact jb_9
  · exact jb_10
  · exact jb_11
  · exact jb_12
  · exact jb_13
  · exact jb_14
  · exact jb_15
  · exact jb_16
  · exact jb_17
  · exact jb_18
  · exact jb_19
  · exact jb_20
  · exact jb_21
  · exact jb_22
  · exact jb_23
  · exact jb_24
  · exact jb_25
  · exact jb_26
  · exact jb_27
  · exact jb_28
  · exact jb_29
  · exact jb_30
end Go.Proofs.YtmcemaphhlcjfaaDoor
