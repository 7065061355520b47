/- The functions' table read at a place, the names told, and the bounds of a name, in package refs; no condition. -/
import Derived.Test.YtndoloohdloflaaRefs6
namespace Go.Proofs.Ytndoloohdloflaa
open Go.RowKit

def fAt (k : Nat) : ByteArray × Int × Int := (funL ++ [((⟨#[]⟩ : ByteArray), 0, 0)]).getD k (⟨#[]⟩, 0, 0)
theorem idx_any (k : Nat) (h : k < 35) (w : World) : (Instr.index 81 (.agg funA) (.int .i64 k)).run Try.prog w = .ok (.agg #[.string (fAt k).1, .int .i64 (fAt k).2.1, .int .i64 (fAt k).2.2]) w := by
  obtain rfl | rfl | rfl | rfl | rfl | rfl | rfl | rfl | rfl | rfl | rfl | rfl | rfl | rfl | rfl | rfl | rfl | rfl | rfl | rfl | rfl | rfl | rfl | rfl | rfl | rfl | rfl | rfl | rfl | rfl | rfl | rfl | rfl | rfl | rfl : k = 0 ∨ k = 1 ∨ k = 2 ∨ k = 3 ∨ k = 4 ∨ k = 5 ∨ k = 6 ∨ k = 7 ∨ k = 8 ∨ k = 9 ∨ k = 10 ∨ k = 11 ∨ k = 12 ∨ k = 13 ∨ k = 14 ∨ k = 15 ∨ k = 16 ∨ k = 17 ∨ k = 18 ∨ k = 19 ∨ k = 20 ∨ k = 21 ∨ k = 22 ∨ k = 23 ∨ k = 24 ∨ k = 25 ∨ k = 26 ∨ k = 27 ∨ k = 28 ∨ k = 29 ∨ k = 30 ∨ k = 31 ∨ k = 32 ∨ k = 33 ∨ k = 34 := by omega
  all_goals kernel_rfl
theorem fAt_cells (k : Nat) (h : k < 34) (W : World) (g : Nat) (hb : W.heap[g]? = some (.cells funB 86 (0, 0))) : W.cell? ⟨g, 3 * k, none⟩ = some (.string (fAt k).1) ∧ W.cell? ⟨g, 3 * k + 1, none⟩ = some (.int .i64 (fAt k).2.1) ∧ W.cell? ⟨g, 3 * k + 2, none⟩ = some (.int .i64 (fAt k).2.2) := by
  have e : ∀ j, W.cell? ⟨g, j, none⟩ = funB[j]? := fun j => cell_of_row W g j funB 86 (0, 0) hb
  rw [e, e, e]
  obtain rfl | rfl | rfl | rfl | rfl | rfl | rfl | rfl | rfl | rfl | rfl | rfl | rfl | rfl | rfl | rfl | rfl | rfl | rfl | rfl | rfl | rfl | rfl | rfl | rfl | rfl | rfl | rfl | rfl | rfl | rfl | rfl | rfl | rfl : k = 0 ∨ k = 1 ∨ k = 2 ∨ k = 3 ∨ k = 4 ∨ k = 5 ∨ k = 6 ∨ k = 7 ∨ k = 8 ∨ k = 9 ∨ k = 10 ∨ k = 11 ∨ k = 12 ∨ k = 13 ∨ k = 14 ∨ k = 15 ∨ k = 16 ∨ k = 17 ∨ k = 18 ∨ k = 19 ∨ k = 20 ∨ k = 21 ∨ k = 22 ∨ k = 23 ∨ k = 24 ∨ k = 25 ∨ k = 26 ∨ k = 27 ∨ k = 28 ∨ k = 29 ∨ k = 30 ∨ k = 31 ∨ k = 32 ∨ k = 33 := by omega
  all_goals exact ⟨by kernel_rfl, by kernel_rfl, by kernel_rfl⟩
end Go.Proofs.Ytndoloohdloflaa
