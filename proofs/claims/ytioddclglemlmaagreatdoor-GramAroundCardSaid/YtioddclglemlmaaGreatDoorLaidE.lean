/- The world in which the listed variables stand, the one that holds a type too; no condition. -/
import Derived.Test.YtioddclglemlmaaGreatDoorRows
import Derived.Test.YtioddclglemlmaaGreatDoorGramPe
import Derived.LaidMore
import Derived.Lay
import Derived.LaidHandle
import Derived.LaidLaws
namespace Go.Proofs.YtioddclglemlmaaGreatDoor
open Go.ChangeShapes Go.WideShapes Go.RowKit

def plainE : List (String × DataW Unit) := [("unicode/utf8.acceptRanges", Rows.laid_unicode_utf8_acceptRanges), ("unicode/utf8.first", Rows.laid_unicode_utf8_first)]
def laidE : List (String × DataW Unit) := [("unicode/utf8.acceptRanges", Rows.laid_unicode_utf8_acceptRanges), ("errors.errorType", Rows.laid_errors_errorType), ("unicode/utf8.first", Rows.laid_unicode_utf8_first)]
noncomputable def worldE (os : Os) : World := (World.laidAll Tryz.prog os plainE).setCell ⟨0, 0, none⟩ ErrT
theorem setCell_os (w : World) (a : Addr) (v : Value) : (w.setCell a v).os = w.os := rfl
theorem worldE_os (os : Os) : (worldE os).os = os := (setCell_os (World.laidAll Tryz.prog os plainE) ⟨0, 0, none⟩ ErrT).trans (World.laidAll_os Tryz.prog os plainE)
theorem errT_et : Tryz.prog.globalNamed "errors.errorType" = some 0 := by kernel_rfl
theorem errT_rt : (Tryz.prog.cutTypes.find? (·.1 == "internal/reflectlite.rtype")).map (·.2) = some 87 := by kernel_rfl
theorem errT_size : Tryz.prog.types.size = 170 := by kernel_rfl
theorem errT_one : ((List.range 170).filter fun t => Tryz.prog.rowNamed t [101, 114, 114, 111, 114]) = [45] := by kernel_rfl
theorem errT_of_laid {W : World} (h : laidMetH Tryz.prog laidE W) : W.cell? ⟨0, 0, none⟩ = some ErrT := by
  have h' : laidMet Tryz.prog plainE W ∧ handlesMet Tryz.prog [("errors.errorType", Rows.laid_errors_errorType)] W := h
  obtain ⟨name, u, ty, e1, e2, e3, e4, e5⟩ := h'.2 _ (List.mem_singleton.2 rfl)
  have en : name = [101, 114, 114, 111, 114] := (Option.some.inj e1).symm
  subst en
  obtain rfl := Option.some.inj (errT_rt.symm.trans e2)
  have hm : ty ∈ (List.range 170).filter fun t => Tryz.prog.rowNamed t [101, 114, 114, 111, 114] := List.mem_filter.2 ⟨List.mem_range.2 (by rw [← errT_size]; exact e3), e4⟩
  rw [errT_one] at hm
  obtain rfl := List.mem_singleton.1 hm
  have hh : typeHandle Tryz.prog 45 = .pointer (some ⟨4, 45, none⟩) := by kernel_rfl
  rw [hh] at e5
  simpa [ErrT] using World.var?_cell errT_et e5 0
theorem worldE_shaped (os : Os) (args : Array Value) : ((worldE os).forCall (fun _ _ => 0) ⟨#[], args, []⟩).Shaped Tryz.prog := World.shaped_of_ZipB (by kernel_rfl) (by kernel_rfl)
theorem worldE_met (os : Os) (args : Array Value) : laidMetH Tryz.prog laidE ((worldE os).forCall (fun _ _ => 0) ⟨#[], args, []⟩).memory := by
  refine laidMetH_of_parts ?_ (by kernel_rfl)
  exact laidMet_of_run' (l := plainE) 8 (by kernel_rfl) (by kernel_rfl)
end Go.Proofs.YtioddclglemlmaaGreatDoor
