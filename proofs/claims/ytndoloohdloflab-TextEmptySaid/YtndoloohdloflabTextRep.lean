/- TextReplaces and TextEmpty: what every replacement tells. -/
import Derived.Test.YtndoloohdloflabTextLaws
import Derived.Test.YtndoloohdloflabRepR2
namespace Go.Proofs.Ytndoloohdloflab
open Go.RowKit

set_option maxRecDepth 100000 in
set_option maxHeartbeats 2000000 in
theorem TextReplaces_walk (s fr to_ : ByteArray) (w : World) (hs : s.size ≤ 140737488351232) (hf : fr.size ≤ 140737488351232) (ht : to_.size ≤ 140737488351232) (hw : 0 < w.heap.size) (m : Int) (hm : w.cell? ⟨0, 0, none⟩ = some (.int .i64 m)) :
    Calls Try.prog 4 #[.string s, .string fr, .string to_] w fun e w' => e = .returned (.bool true) ∧ Below w.heap.size w w' := by
  have HL := Lib.hid (textAlive_any w hw m hm)
  by_cases hb : (70000 : Int) < s.size ∨ (70000 : Int) < fr.size ∨ (70000 : Int) < to_.size ∨ ((300 : Int) < s.size ∧ (300 : Int) < to_.size)
  · go_enter Try.func4, Try.ntmps4
    go_wp2_with (first | (go_at_call 12; refine (HL.out).mono ?_; rintro e w1 ⟨rfl, HB⟩) | (go_at_call 17; exfalso; omega))
    all_goals (go_ret; exact ⟨rfl, HB⟩)
  · have q1 : ¬ (70000 : Int) < s.size := by omega
    have q2 : ¬ (70000 : Int) < fr.size := by omega
    have q3 : ¬ (70000 : Int) < to_.size := by omega
    have E1 := Lib.hid fun w h1 h2 => Replace_any s fr to_ w (by omega) (by omega) (by omega) h1 m h2
    have E2 := Lib.hid fun w => ReplaceR_any s fr to_ w (by omega) (by omega) (by omega)
    have E3 := Lib.hid fun w h2 => Find_any s fr w (by omega) m h2
    have E4 := Lib.hid fun w => FindR_any s fr w (by omega) (by omega)
    generalize Lib.index s.data.toList fr.data.toList = ix at *
    by_cases q4 : (300 : Int) < s.size
    · have q5 : ¬ (300 : Int) < to_.size := by omega
      clear hb
      cases hq : repB s fr to_ <;> rw [hq] at E1 E2 <;> unfold repV at E1 <;> unfold repRV at E2
      all_goals
        go_enter Try.func4, Try.ntmps4
        go_wp2_with fail
        refine HL.out.mono ?_
        rintro e w1 ⟨rfl, hb1⟩
        have hp1 : 0 < w1.heap.size := Nat.lt_of_lt_of_le hw hb1.size
        have hm1 : w1.cell? ⟨0, 0, none⟩ = some (.int .i64 m) := by rw [hb1.cell (p := ⟨0, 0, none⟩) hw]; exact hm
        go_wp2_with fail
        refine (E1.out w1 hp1 hm1).mono ?_
        rintro e w2 ⟨rfl, hb2⟩
        have hm2 : w2.cell? ⟨0, 0, none⟩ = some (.int .i64 m) := by rw [hb2.cell (p := ⟨0, 0, none⟩) hp1]; exact hm1
        go_wp2_with fail
        refine (E2.out w2).mono ?_
        rintro e w3 ⟨rfl, hb3⟩
        have hm3 : w3.cell? ⟨0, 0, none⟩ = some (.int .i64 m) := by rw [hb3.cell (p := ⟨0, 0, none⟩) (Nat.lt_of_lt_of_le hp1 hb2.size)]; exact hm2
        have hbb := (hb1.trans (hb2.mono hb1.size)).trans (hb3.mono (Nat.le_trans hb1.size hb2.size))
        go_wp2_with (first | (go_at_call 19; refine (num_any _ _).mono ?_; rintro e wz ⟨rfl, rfl⟩) | (go_at_call 20; refine (E3.out _ hm3).mono ?_; rintro e wz ⟨rfl, rfl⟩) | (go_at_call 21; refine (E4.out _).mono ?_; rintro e wz ⟨rfl, rfl⟩))
        go_ret
        exact ⟨rfl, hbb⟩
    · clear hb
      cases hq : repB s fr to_ <;> rw [hq] at E1 E2 <;> unfold repV at E1 <;> unfold repRV at E2
      all_goals
        go_enter Try.func4, Try.ntmps4
        go_wp2_with fail
        refine HL.out.mono ?_
        rintro e w1 ⟨rfl, hb1⟩
        have hp1 : 0 < w1.heap.size := Nat.lt_of_lt_of_le hw hb1.size
        have hm1 : w1.cell? ⟨0, 0, none⟩ = some (.int .i64 m) := by rw [hb1.cell (p := ⟨0, 0, none⟩) hw]; exact hm
        go_wp2_with fail
        refine (E1.out w1 hp1 hm1).mono ?_
        rintro e w2 ⟨rfl, hb2⟩
        have hm2 : w2.cell? ⟨0, 0, none⟩ = some (.int .i64 m) := by rw [hb2.cell (p := ⟨0, 0, none⟩) hp1]; exact hm1
        go_wp2_with fail
        refine (E2.out w2).mono ?_
        rintro e w3 ⟨rfl, hb3⟩
        have hm3 : w3.cell? ⟨0, 0, none⟩ = some (.int .i64 m) := by rw [hb3.cell (p := ⟨0, 0, none⟩) (Nat.lt_of_lt_of_le hp1 hb2.size)]; exact hm2
        have hbb := (hb1.trans (hb2.mono hb1.size)).trans (hb3.mono (Nat.le_trans hb1.size hb2.size))
        go_wp2_with (first | (go_at_call 19; refine (num_any _ _).mono ?_; rintro e wz ⟨rfl, rfl⟩) | (go_at_call 20; refine (E3.out _ hm3).mono ?_; rintro e wz ⟨rfl, rfl⟩) | (go_at_call 21; refine (E4.out _).mono ?_; rintro e wz ⟨rfl, rfl⟩))
        go_ret
        exact ⟨rfl, hbb⟩
end Go.Proofs.Ytndoloohdloflab
