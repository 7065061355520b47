/-
  DERIVED. GIVEN WITH THE SEED: THE CARDS: each row of YtndoloohdloflabDoorRows.lean that lists a variable, with what it lists TIED to the program's text (the seventh form; the later family's looks); each row that meets fmt, with fmt's text TOLD by the authors' own Lean function (tested against real Go, not proved from fmt's source: count such statements apart). THE CARD IS WHAT COUNTS. Prove the row's statement (the work); the ties are given (YtndoloohdloflabDoorTie.lean); close each card by the builder's one call (the guide's Derived/Test/ToyasCard.lean, 'card_holds'). Laid BY PROGRAM, IN A SANDBOX (cutbox-door.mjs). By AI agents, Wed Nov 11 2026. No macro, syntax, notation, axiom, sorry.
-/
import Derived.Test.YtndoloohdloflabDoorRows
import GoSem.ClaimSeven
namespace Go.Proofs.YtndoloohdloflabDoor
namespace Rows

/-- THE TIED CARD OF 'anvillaw13.LinesOn'. -/
def linesOnCard : Claim7 := { stood := { row := linesOnRow, standIns := [], harness := (true, "b0b8b59b136578265baea7c000db858449c432e02a1e688fb988b9c883c6e626"), looks := false }, kinds := [], alts := [], laidByText := true, laidKinds := [.data, .pinned], laidTests := true, laidLooks := .later }
def LinesOnCardSaid : Prop := Claim7.holds Tryd.pinned (.plain (OpenSpec.ofChange linesOnSpec)) linesOnCard

/-- THE TIED CARD OF 'anvillaw13.LinesSplit'. -/
def linesSplitCard : Claim7 := { stood := { row := linesSplitRow, standIns := [], harness := (true, "b0b8b59b136578265baea7c000db858449c432e02a1e688fb988b9c883c6e626"), looks := false }, kinds := [], alts := [], laidByText := true, laidKinds := [.data, .pinned], laidTests := true, laidLooks := .later }
def LinesSplitCardSaid : Prop := Claim7.holds Tryd.pinned (.plain (OpenSpec.ofChange linesSplitSpec)) linesSplitCard

/-- THE TIED CARD OF 'anvillaw13.LinesWhole'. -/
def linesWholeCard : Claim7 := { stood := { row := linesWholeRow, standIns := [], harness := (true, "b0b8b59b136578265baea7c000db858449c432e02a1e688fb988b9c883c6e626"), looks := false }, kinds := [], alts := [], laidByText := true, laidKinds := [.data, .pinned], laidTests := true, laidLooks := .later }
def LinesWholeCardSaid : Prop := Claim7.holds Tryd.pinned (.plain (OpenSpec.ofChange linesWholeSpec)) linesWholeCard

/-- THE SECOND FORM's CARD OF 'anvillaw13.LinesOn'. -/
def linesOnUptoCard : Claim7 := { stood := { row := linesOnUptoRow, standIns := [], harness := (true, "b0b8b59b136578265baea7c000db858449c432e02a1e688fb988b9c883c6e626"), looks := false }, kinds := [], alts := [], laidByText := true, laidKinds := [.data, .pinned], laidTests := true, laidLooks := .later }
def LinesOnUptoCardSaid : Prop := Claim7.holds Tryd.pinned (.plain (OpenSpec.upto linesOnSpec)) linesOnUptoCard

/-- THE SECOND FORM's CARD OF 'anvillaw13.LinesSplit'. -/
def linesSplitUptoCard : Claim7 := { stood := { row := linesSplitUptoRow, standIns := [], harness := (true, "b0b8b59b136578265baea7c000db858449c432e02a1e688fb988b9c883c6e626"), looks := false }, kinds := [], alts := [], laidByText := true, laidKinds := [.data, .pinned], laidTests := true, laidLooks := .later }
def LinesSplitUptoCardSaid : Prop := Claim7.holds Tryd.pinned (.plain (OpenSpec.upto linesSplitSpec)) linesSplitUptoCard

/-- THE SECOND FORM's CARD OF 'anvillaw13.LinesWhole'. -/
def linesWholeUptoCard : Claim7 := { stood := { row := linesWholeUptoRow, standIns := [], harness := (true, "b0b8b59b136578265baea7c000db858449c432e02a1e688fb988b9c883c6e626"), looks := false }, kinds := [], alts := [], laidByText := true, laidKinds := [.data, .pinned], laidTests := true, laidLooks := .later }
def LinesWholeUptoCardSaid : Prop := Claim7.holds Tryd.pinned (.plain (OpenSpec.upto linesWholeSpec)) linesWholeUptoCard
end Rows
end Go.Proofs.YtndoloohdloflabDoor
