/- LinesOn answers true, in the row's words; condition: a word that lies in memory. -/
import Derived.Test.YtndoloohdloflabDoorOn
namespace Go.Proofs.YtndoloohdloflabDoor
open Go.RowKit

theorem LinesOn_law (n : Int) (word : ByteArray) (rc : Bool) (w : World) (hn : (Lit.int .i64 n).wf = true) (hs : word.size ≤ 140737488351232) (_ : 0 < w.heap.size) (m : Int) (_ : w.cell? ⟨0, 0, none⟩ = some (.int .i64 m)) :
    Calls Tryd.prog 3 #[.int .i64 n, .string word, .bool rc] w fun e w' => e = .returned (.bool true) ∧ Below w.heap.size w w' := by
  have h : -9223372036854775808 ≤ n ∧ n ≤ 9223372036854775807 := by simpa [Lit.wf, IntKind.min, IntKind.max, IntKind.signed, IntKind.bits] using hn
  exact LinesOn_walk n word rc w hs h.1 h.2
end Go.Proofs.YtndoloohdloflabDoor
