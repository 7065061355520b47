/-
  DERIVED. GIVEN WITH THE SEED: THE CARDS: each row of YtioddclglemlmaaDoorRows.lean that lists a variable, with what it lists TIED to the program's text (the seventh form; the later family's looks); each row that meets fmt, with fmt's text TOLD by the authors' own Lean function (tested against real Go, not proved from fmt's source: count such statements apart). THE CARD IS WHAT COUNTS. Prove the row's statement (the work); the ties are given (YtioddclglemlmaaDoorTie.lean); close each card by the builder's one call (the guide's Derived/Test/ToyasCard.lean, 'card_holds'). Laid BY PROGRAM, IN A SANDBOX (cutbox-door.mjs). By AI agents, Wed Nov 11 2026. No macro, syntax, notation, axiom, sorry.
-/
import Derived.Test.YtioddclglemlmaaDoorRows
import GoSem.ClaimSeven
namespace Go.Proofs.YtioddclglemlmaaDoor
namespace Rows

/-- THE TIED CARD OF 'anvillaw8.LexQuotes'. -/
def lexQuotesCard : Claim7 := { stood := { row := lexQuotesRow, standIns := [], harness := (true, "91fdd8473a3cc063e2889940580aa239397940f3c1a9fd1500d6dc6673f151d0"), looks := true }, kinds := [], alts := [], laidByText := true, laidKinds := [.data, .pinned], laidTests := true, laidLooks := .later }
def LexQuotesCardSaid : Prop := Claim7.holds Tryd.pinned (.plain (OpenSpec.ofChange lexQuotesSpec)) lexQuotesCard

/-- THE TIED CARD OF 'anvillaw8.LexDeep'. -/
def lexDeepCard : Claim7 := { stood := { row := lexDeepRow, standIns := [], harness := (true, "91fdd8473a3cc063e2889940580aa239397940f3c1a9fd1500d6dc6673f151d0"), looks := true }, kinds := [], alts := [], laidByText := true, laidKinds := [.data, .pinned], laidTests := true, laidLooks := .later }
def LexDeepCardSaid : Prop := Claim7.holds Tryd.pinned (.plain (OpenSpec.ofChange lexDeepSpec)) lexDeepCard

/-- THE SECOND FORM's CARD OF 'anvillaw8.LexQuotes'. -/
def lexQuotesUptoCard : Claim7 := { stood := { row := lexQuotesUptoRow, standIns := [], harness := (true, "91fdd8473a3cc063e2889940580aa239397940f3c1a9fd1500d6dc6673f151d0"), looks := true }, kinds := [], alts := [], laidByText := true, laidKinds := [.data, .pinned], laidTests := true, laidLooks := .later }
def LexQuotesUptoCardSaid : Prop := Claim7.holds Tryd.pinned (.plain (OpenSpec.upto lexQuotesSpec)) lexQuotesUptoCard

/-- THE SECOND FORM's CARD OF 'anvillaw8.LexDeep'. -/
def lexDeepUptoCard : Claim7 := { stood := { row := lexDeepUptoRow, standIns := [], harness := (true, "91fdd8473a3cc063e2889940580aa239397940f3c1a9fd1500d6dc6673f151d0"), looks := true }, kinds := [], alts := [], laidByText := true, laidKinds := [.data, .pinned], laidTests := true, laidLooks := .later }
def LexDeepUptoCardSaid : Prop := Claim7.holds Tryd.pinned (.plain (OpenSpec.upto lexDeepSpec)) lexDeepUptoCard
end Rows
end Go.Proofs.YtioddclglemlmaaDoor
