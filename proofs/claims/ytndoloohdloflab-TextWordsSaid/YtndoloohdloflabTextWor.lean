/- TextWords: every text is cut into its words, and trimmed, as the document says. -/
import Derived.Test.YtndoloohdloflabSplitR
import Derived.Test.YtndoloohdloflabTextLaws
namespace Go.Proofs.Ytndoloohdloflab
open Go.RowKit

set_option maxRecDepth 100000 in
set_option maxHeartbeats 2000000 in
theorem TextWords_walk (s o : ByteArray) (w : World) (hs : s.size ≤ 140737488351232) (ho : o.size ≤ 140737488351232) (hw : 0 < w.heap.size) (m : Int) (hm : w.cell? ⟨0, 0, none⟩ = some (.int .i64 m)) :
    Calls Try.prog 6 #[.string s, .string o] w fun e w' => e = .returned (.bool true) ∧ Below w.heap.size w w' := by
  have HL := Lib.hid (textAlive_any w hw m hm)
  by_cases hb : (20000 : Int) < s.size ∨ (20000 : Int) < o.size
  · go_enter Try.func6, Try.ntmps6
    go_wp2_with (first | (go_at_call 12; refine (HL.out).mono ?_; rintro e w1 ⟨rfl, HB⟩) | (go_at_call 22; exfalso; omega))
    all_goals (go_ret; exact ⟨rfl, HB⟩)
  · have q1 : ¬ (20000 : Int) < s.size := by omega
    have q2 : ¬ (20000 : Int) < o.size := by omega
    have E1 := Lib.hid fun w => Split_any s (by omega) w
    have E2 := Lib.hid fun w => Split_any o (by omega) w
    have E3 := Lib.hid fun w => SplitR_any s (by omega) w
    have E4 := Lib.hid fun w => Trim26_any s w hs
    have E5 := Lib.hid fun w => Trim27_any s w hs
    have l1 := wordsB_len s
    have l2 := wordsB_len o
    generalize trimB s = T at *
    generalize wordsB s = W1 at *
    generalize wordsB o = W2 at *
    clear hb
    go_enter Try.func6, Try.ntmps6
    go_wp2_with fail
    refine HL.out.mono ?_
    rintro e w1 ⟨rfl, hb1⟩
    go_wp2_with fail
    refine (E1.out w1).mono ?_
    rintro e w2 ⟨v2, rfl, hv2, hb2⟩
    go_wp2_with fail
    refine (E2.out w2).mono ?_
    rintro e w3 ⟨v3, rfl, hv3, hb3⟩
    go_wp2_with fail
    refine (Wipe_any w3 w2.heap.size _ v3 _ hv3 (by omega)).mono ?_
    rintro e w4 ⟨rfl, hb4⟩
    have hb34 := hb3.trans hb4
    go_wp2_with fail
    refine (E3.out w4).mono ?_
    rintro e w5 ⟨v5, rfl, hv5, hb5⟩
    have hb35 := hb34.trans (hb5.mono hb34.size)
    have hv2' := hv2.below hb35
    obtain ⟨A2, c2, rfl, _, _⟩ := hv2'.form
    obtain ⟨A5, c5, rfl, _, _⟩ := hv5.form
    have HS := Lib.hid (Same_any w5 A2 A5 c2 c5 W1 W1 hv2'.strsAt hv5.strsAt (by omega))
    rw [sameL_self] at HS
    go_wp2_with fail
    refine HS.out.mono ?_
    rintro e w6 ⟨rfl, hb6⟩
    go_wp2_with fail
    refine (E4.out w6).mono ?_
    rintro e w7 ⟨rfl, rfl⟩
    go_wp2_with fail
    refine (E5.out w7).mono ?_
    rintro e w8 ⟨rfl, rfl⟩
    go_wp2
    go_ret
    have z2 := hb2.size
    have z1 := hb1.size
    have z35 := hb35.size
    exact ⟨rfl, ((hb1.trans (hb2.mono z1)).trans (hb35.mono (by omega))).trans (hb6.mono (by omega))⟩
end Go.Proofs.Ytndoloohdloflab
