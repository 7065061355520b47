/-
  DERIVED. GIVEN WITH THE SEED: THE CARDS: each row of YtioddclglemlmaaGreatDoorRows.lean that lists a variable, with what it lists TIED to the program's text (the seventh form; the later family's looks); each row that meets fmt, with fmt's text TOLD by the authors' own Lean function (tested against real Go, not proved from fmt's source: count such statements apart). THE CARD IS WHAT COUNTS. Prove the row's statement (the work); the ties are given (YtioddclglemlmaaGreatDoorTie.lean); close each card by the builder's one call (the guide's Derived/Test/ToyasCard.lean, 'card_holds'). Laid BY PROGRAM, IN A SANDBOX (cutbox-door.mjs). By AI agents, Wed Nov 11 2026. No macro, syntax, notation, axiom, sorry.
-/
import Derived.Test.YtioddclglemlmaaGreatDoorRows
import GoSem.ClaimSeven
namespace Go.Proofs.YtioddclglemlmaaGreatDoor
namespace Rows

/-- THE TIED CARD OF 'anvillaw9.GramList'. -/
def gramListCard : Claim7 := { stood := { row := gramListRow, standIns := [], harness := (true, "eaac4fde2b0fd3e2e1262e3c811decdba1f56f8f8d9a749f583500a17ad29a85"), looks := true }, kinds := [], alts := [], laidByText := true, laidKinds := [.data, .handle, .pinned], laidTests := true, laidLooks := .later }
def GramListCardSaid : Prop := Claim7.holds Tryz.pinned (.plain (OpenSpec.ofChange gramListSpec)) gramListCard

/-- THE TIED CARD OF 'anvillaw9.GramAround'. -/
def gramAroundCard : Claim7 := { stood := { row := gramAroundRow, standIns := [], harness := (true, "eaac4fde2b0fd3e2e1262e3c811decdba1f56f8f8d9a749f583500a17ad29a85"), looks := true }, kinds := [], alts := [], laidByText := true, laidKinds := [.data, .handle, .pinned], laidTests := true, laidLooks := .later }
def GramAroundCardSaid : Prop := Claim7.holds Tryz.pinned (.plain (OpenSpec.ofChange gramAroundSpec)) gramAroundCard

/-- THE TIED CARD OF 'anvillaw9.GramDeep'. -/
def gramDeepCard : Claim7 := { stood := { row := gramDeepRow, standIns := [], harness := (true, "eaac4fde2b0fd3e2e1262e3c811decdba1f56f8f8d9a749f583500a17ad29a85"), looks := true }, kinds := [], alts := [], laidByText := true, laidKinds := [.data, .handle, .pinned], laidTests := true, laidLooks := .later }
def GramDeepCardSaid : Prop := Claim7.holds Tryz.pinned (.plain (OpenSpec.ofChange gramDeepSpec)) gramDeepCard

/-- THE SECOND FORM's CARD OF 'anvillaw9.GramList'. -/
def gramListUptoCard : Claim7 := { stood := { row := gramListUptoRow, standIns := [], harness := (true, "eaac4fde2b0fd3e2e1262e3c811decdba1f56f8f8d9a749f583500a17ad29a85"), looks := true }, kinds := [], alts := [], laidByText := true, laidKinds := [.data, .handle, .pinned], laidTests := true, laidLooks := .later }
def GramListUptoCardSaid : Prop := Claim7.holds Tryz.pinned (.plain (OpenSpec.upto gramListSpec)) gramListUptoCard

/-- THE SECOND FORM's CARD OF 'anvillaw9.GramAround'. -/
def gramAroundUptoCard : Claim7 := { stood := { row := gramAroundUptoRow, standIns := [], harness := (true, "eaac4fde2b0fd3e2e1262e3c811decdba1f56f8f8d9a749f583500a17ad29a85"), looks := true }, kinds := [], alts := [], laidByText := true, laidKinds := [.data, .handle, .pinned], laidTests := true, laidLooks := .later }
def GramAroundUptoCardSaid : Prop := Claim7.holds Tryz.pinned (.plain (OpenSpec.upto gramAroundSpec)) gramAroundUptoCard

/-- THE SECOND FORM's CARD OF 'anvillaw9.GramDeep'. -/
def gramDeepUptoCard : Claim7 := { stood := { row := gramDeepUptoRow, standIns := [], harness := (true, "eaac4fde2b0fd3e2e1262e3c811decdba1f56f8f8d9a749f583500a17ad29a85"), looks := true }, kinds := [], alts := [], laidByText := true, laidKinds := [.data, .handle, .pinned], laidTests := true, laidLooks := .later }
def GramDeepUptoCardSaid : Prop := Claim7.holds Tryz.pinned (.plain (OpenSpec.upto gramDeepSpec)) gramDeepUptoCard
end Rows
end Go.Proofs.YtioddclglemlmaaGreatDoor
