/- What a lexer's panic becomes; no condition. -/
import Derived.Test.YtioddclglemlmaaGreatDoorLexD
import Derived.Recover
import Derived.Defers
namespace Go.Proofs.YtioddclglemlmaaGreatDoor
open Go.RowKit

theorem run_assert_stop (v : Value) (w : World) : (Instr.typeAssert (.iface 101 v) 20 101 true).run Tryz.prog w = .ok (.tuple #[v, .bool true]) w := by
  simp [Instr.typeAssert, run_underlying Tryz.underlying101, go_sem, Result.andThen]
theorem caught_panicking (p : Addr) (x n : Int) (older : List PanicEntry) (w : World) (hp : p.block < w.heap.size) (hc : w.cell? p = some (.int .i64 x)) (hz : w.frozen? p = false) :
    CallsD Tryz.prog 24 #[.pointer (some p)] (.panicking ({ v := .iface 101 (.agg #[.int .i64 n]), recovered := false } :: older)) w fun e u' w' =>
      e = .returned (.tuple #[]) ∧ u' = .panicking ({ v := .iface 101 (.agg #[.int .i64 n]), recovered := true } :: older) ∧ w' = (w.alloc (.cells #[.int .i64 n] 101)).setCell p (.int .i64 n) := by
  have hz2 : ∀ o, (w.alloc o).frozen? p = false := fun o => (((Below.refl w.heap.size w).alloc (Nat.le_refl _) o).frozen hp).trans hz
  have hc2 : ∀ o, (w.alloc o).cell? p = some (.int .i64 x) := fun o => (((Below.refl w.heap.size w).alloc (Nat.le_refl _) o).cell hp).trans hc
  have HTA := fun w => run_assert_stop (.agg #[.int .i64 n]) w
  refine callsD_of_wpS Tryz.func24 rfl fun c₀ cs hu => ?_
  apply wpS_seq
  apply wpS_region
  simp [wpOpsS, go_sem, recoverD, hu, Tryz.ntmps24, Exit.thenS]
  refine wpS_of_wp ?_
  rw [show (#[Value.pointer (some p)] ++ ((Array.replicate 19 undef).setIfInBounds 4 (.iface 101 (.agg #[.int .i64 n]))).setIfInBounds 1 (.iface 101 (.agg #[.int .i64 n])) : Array Value) = #[.pointer (some p), undef, .iface 101 (.agg #[.int .i64 n]), undef, undef, .iface 101 (.agg #[.int .i64 n]), undef, undef, undef, undef, undef, undef, undef, undef, undef, undef, undef, undef, undef, undef] from by kernel_rfl]
  go_wp2
  simp_all [bodyPostS, results, Tryz.results24]

theorem caught_idle (p : Addr) (w : World) :
    CallsD Tryz.prog 24 #[.pointer (some p)] .returning w fun e u' w' => e = .returned (.tuple #[]) ∧ u' = .returning ∧ w' = w := by
  refine callsD_of_wpS Tryz.func24 rfl fun c₀ cs hu => ?_
  apply wpS_seq
  apply wpS_region
  simp [wpOpsS, go_sem, recoverD, hu, Tryz.ntmps24, Exit.thenS]
  refine wpS_of_wp ?_
  rw [show (#[Value.pointer (some p)] ++ ((Array.replicate 19 undef).setIfInBounds 4 Value.nilIface).setIfInBounds 1 Value.nilIface : Array Value) = #[.pointer (some p), undef, .nilIface, undef, undef, .nilIface, undef, undef, undef, undef, undef, undef, undef, undef, undef, undef, undef, undef, undef, undef] from by kernel_rfl]
  go_wp2
  cases c₀
  simp_all [bodyPostS, results, Tryz.results24]
end Go.Proofs.YtioddclglemlmaaGreatDoor
