/- RuleTakes answers true at every text; conditions: a text that lies in memory, the library's one number in its cell. -/
import Derived.Test.YtmcemaphhlcjfaaDoorRAlive
namespace Go.Proofs.YtmcemaphhlcjfaaDoor
open Go.RowKit

set_option maxRecDepth 100000 in
set_option maxHeartbeats 4000000 in
theorem RuleTakes_law (s : ByteArray) (w : World) (hs : s.size ≤ 140737488351232) (hw : 1 < w.heap.size) (m : Int) (hm : w.cell? ⟨1, 0, none⟩ = some (.int .i64 m)) :
    Calls Tryd.prog 3 #[.string s] w fun e w' => e = .returned (.bool true) ∧ Below w.heap.size w w' := by
  have HA := Lib.hid (ruleAlive w hw m hm)
  have HT := Lib.hid fun w => Take_any s w hs
  have HR := Lib.hid fun w => takeR_any s w hs
  obtain ⟨X, hX⟩ : ∃ X, takeP s = X := ⟨_, rfl⟩
  rw [hX] at HT HR
  clear hX
  obtain ⟨xk, xl, xr, xn, xrc, xs, xd, xh⟩ := X
  unfold headV at HT HR
  by_cases hz : 10000 < s.size
  · have q : (10000 : Int) < s.size := by omega
    go_enter Tryd.func3, Tryd.ntmps3
    go_wp2_with fail
    refine HA.out.mono ?_
    rintro e w1 ⟨rfl, hb1⟩
    go_wp2
    go_ret
    exact ⟨rfl, hb1⟩
  · have q : ¬ (10000 : Int) < s.size := by omega
    go_enter Tryd.func3, Tryd.ntmps3
    go_wp2_with fail
    refine HA.out.mono ?_
    rintro e w1 ⟨rfl, hb1⟩
    go_wp2_with fail
    refine (HT.out _).mono ?_
    rintro e w2 ⟨rfl, hb2⟩
    have hb3 := hb1.trans (hb2.mono hb1.size)
    go_wp2_with fail
    refine (HR.out _).mono ?_
    rintro e w4 ⟨rfl, hb4⟩
    have hb5 := hb3.trans (hb4.mono hb3.size)
    go_wp2
    go_ret
    exact ⟨rfl, hb5⟩
end Go.Proofs.YtmcemaphhlcjfaaDoor
