/-
  DERIVED. GIVEN WITH THE SEED: THE CARDS: each row of YtmcemaphhlcjfaaDoorRows.lean that lists a variable, with what it lists TIED to the program's text (the seventh form; the later family's looks); each row that meets fmt, with fmt's text TOLD by the authors' own Lean function (tested against real Go, not proved from fmt's source: count such statements apart). THE CARD IS WHAT COUNTS. Prove the row's statement (the work); the ties are given (YtmcemaphhlcjfaaDoorTie.lean); close each card by the builder's one call (the guide's Derived/Test/ToyasCard.lean, 'card_holds'). Laid BY PROGRAM, IN A SANDBOX (cutbox-door.mjs). By AI agents, Wed Nov 11 2026. No macro, syntax, notation, axiom, sorry.
-/
import Derived.Test.YtmcemaphhlcjfaaDoorRows
import GoSem.ClaimSeven
namespace Go.Proofs.YtmcemaphhlcjfaaDoor
namespace Rows

/-- THE TIED CARD OF 'anvillaw17.RuleTakes'. -/
def ruleTakesCard : Claim7 := { stood := { row := ruleTakesRow, standIns := [], harness := (true, "98d42701965f3c0976b333d74e95b71d4efcb2fc7cb43ac8b51630ca0c9aa357"), looks := true }, kinds := [], alts := [], laidByText := true, laidKinds := [.data, .pinned], laidTests := true, laidLooks := .later }
def RuleTakesCardSaid : Prop := Claim7.holds Tryd.pinned (.plain (OpenSpec.ofChange ruleTakesSpec)) ruleTakesCard

/-- THE TIED CARD OF 'anvillaw17.RuleMakes'. -/
def ruleMakesCard : Claim7 := { stood := { row := ruleMakesRow, standIns := [], harness := (true, "98d42701965f3c0976b333d74e95b71d4efcb2fc7cb43ac8b51630ca0c9aa357"), looks := true }, kinds := [], alts := [], laidByText := true, laidKinds := [.data, .pinned], laidTests := true, laidLooks := .later }
def RuleMakesCardSaid : Prop := Claim7.holds Tryd.pinned (.plain (OpenSpec.ofChange ruleMakesSpec)) ruleMakesCard

/-- THE TIED CARD OF 'anvillaw17.RuleGroups'. -/
def ruleGroupsCard : Claim7 := { stood := { row := ruleGroupsRow, standIns := [], harness := (true, "98d42701965f3c0976b333d74e95b71d4efcb2fc7cb43ac8b51630ca0c9aa357"), looks := true }, kinds := [], alts := [], laidByText := true, laidKinds := [.data, .pinned], laidTests := true, laidLooks := .later }
def RuleGroupsCardSaid : Prop := Claim7.holds Tryd.pinned (.plain (OpenSpec.ofChange ruleGroupsSpec)) ruleGroupsCard

/-- THE TIED CARD OF 'anvillaw17.RuleSets'. -/
def ruleSetsCard : Claim7 := { stood := { row := ruleSetsRow, standIns := [], harness := (true, "98d42701965f3c0976b333d74e95b71d4efcb2fc7cb43ac8b51630ca0c9aa357"), looks := true }, kinds := [], alts := [], laidByText := true, laidKinds := [.data, .pinned], laidTests := true, laidLooks := .later }
def RuleSetsCardSaid : Prop := Claim7.holds Tryd.pinned (.plain (OpenSpec.ofChange ruleSetsSpec)) ruleSetsCard

/-- THE TIED CARD OF 'anvillaw17.RuleStatic'. -/
def ruleStaticCard : Claim7 := { stood := { row := ruleStaticRow, standIns := [], harness := (true, "98d42701965f3c0976b333d74e95b71d4efcb2fc7cb43ac8b51630ca0c9aa357"), looks := true }, kinds := [], alts := [], laidByText := true, laidKinds := [.data, .pinned], laidTests := true, laidLooks := .later }
def RuleStaticCardSaid : Prop := Claim7.holds Tryd.pinned (.plain (OpenSpec.ofChange ruleStaticSpec)) ruleStaticCard

/-- THE TIED CARD OF 'anvillaw24.OptsBack'. -/
def optsBackCard : Claim7 := { stood := { row := optsBackRow, standIns := [], harness := (true, "98d42701965f3c0976b333d74e95b71d4efcb2fc7cb43ac8b51630ca0c9aa357"), looks := true }, kinds := [], alts := [], laidByText := true, laidKinds := [.data, .handle, .pinned], laidTests := true, laidLooks := .later }
def OptsBackCardSaid : Prop := Claim7.holds Tryd.pinned (.plain (OpenSpec.ofChange optsBackSpec)) optsBackCard

/-- THE TIED CARD OF 'anvillaw24.OptsLong'. -/
def optsLongCard : Claim7 := { stood := { row := optsLongRow, standIns := [], harness := (true, "98d42701965f3c0976b333d74e95b71d4efcb2fc7cb43ac8b51630ca0c9aa357"), looks := true }, kinds := [], alts := [], laidByText := true, laidKinds := [.data, .handle, .pinned], laidTests := true, laidLooks := .later }
def OptsLongCardSaid : Prop := Claim7.holds Tryd.pinned (.plain (OpenSpec.ofChange optsLongSpec)) optsLongCard

/-- THE SECOND FORM's CARD OF 'anvillaw17.RuleTakes'. -/
def ruleTakesUptoCard : Claim7 := { stood := { row := ruleTakesUptoRow, standIns := [], harness := (true, "98d42701965f3c0976b333d74e95b71d4efcb2fc7cb43ac8b51630ca0c9aa357"), looks := true }, kinds := [], alts := [], laidByText := true, laidKinds := [.data, .pinned], laidTests := true, laidLooks := .later }
def RuleTakesUptoCardSaid : Prop := Claim7.holds Tryd.pinned (.plain (OpenSpec.upto ruleTakesSpec)) ruleTakesUptoCard

/-- THE SECOND FORM's CARD OF 'anvillaw17.RuleMakes'. -/
def ruleMakesUptoCard : Claim7 := { stood := { row := ruleMakesUptoRow, standIns := [], harness := (true, "98d42701965f3c0976b333d74e95b71d4efcb2fc7cb43ac8b51630ca0c9aa357"), looks := true }, kinds := [], alts := [], laidByText := true, laidKinds := [.data, .pinned], laidTests := true, laidLooks := .later }
def RuleMakesUptoCardSaid : Prop := Claim7.holds Tryd.pinned (.plain (OpenSpec.upto ruleMakesSpec)) ruleMakesUptoCard

/-- THE SECOND FORM's CARD OF 'anvillaw17.RuleGroups'. -/
def ruleGroupsUptoCard : Claim7 := { stood := { row := ruleGroupsUptoRow, standIns := [], harness := (true, "98d42701965f3c0976b333d74e95b71d4efcb2fc7cb43ac8b51630ca0c9aa357"), looks := true }, kinds := [], alts := [], laidByText := true, laidKinds := [.data, .pinned], laidTests := true, laidLooks := .later }
def RuleGroupsUptoCardSaid : Prop := Claim7.holds Tryd.pinned (.plain (OpenSpec.upto ruleGroupsSpec)) ruleGroupsUptoCard

/-- THE SECOND FORM's CARD OF 'anvillaw17.RuleSets'. -/
def ruleSetsUptoCard : Claim7 := { stood := { row := ruleSetsUptoRow, standIns := [], harness := (true, "98d42701965f3c0976b333d74e95b71d4efcb2fc7cb43ac8b51630ca0c9aa357"), looks := true }, kinds := [], alts := [], laidByText := true, laidKinds := [.data, .pinned], laidTests := true, laidLooks := .later }
def RuleSetsUptoCardSaid : Prop := Claim7.holds Tryd.pinned (.plain (OpenSpec.upto ruleSetsSpec)) ruleSetsUptoCard

/-- THE SECOND FORM's CARD OF 'anvillaw17.RuleStatic'. -/
def ruleStaticUptoCard : Claim7 := { stood := { row := ruleStaticUptoRow, standIns := [], harness := (true, "98d42701965f3c0976b333d74e95b71d4efcb2fc7cb43ac8b51630ca0c9aa357"), looks := true }, kinds := [], alts := [], laidByText := true, laidKinds := [.data, .pinned], laidTests := true, laidLooks := .later }
def RuleStaticUptoCardSaid : Prop := Claim7.holds Tryd.pinned (.plain (OpenSpec.upto ruleStaticSpec)) ruleStaticUptoCard

/-- THE SECOND FORM's CARD OF 'anvillaw24.OptsBack'. -/
def optsBackUptoCard : Claim7 := { stood := { row := optsBackUptoRow, standIns := [], harness := (true, "98d42701965f3c0976b333d74e95b71d4efcb2fc7cb43ac8b51630ca0c9aa357"), looks := true }, kinds := [], alts := [], laidByText := true, laidKinds := [.data, .handle, .pinned], laidTests := true, laidLooks := .later }
def OptsBackUptoCardSaid : Prop := Claim7.holds Tryd.pinned (.plain (OpenSpec.upto optsBackSpec)) optsBackUptoCard

/-- THE SECOND FORM's CARD OF 'anvillaw24.OptsLong'. -/
def optsLongUptoCard : Claim7 := { stood := { row := optsLongUptoRow, standIns := [], harness := (true, "98d42701965f3c0976b333d74e95b71d4efcb2fc7cb43ac8b51630ca0c9aa357"), looks := true }, kinds := [], alts := [], laidByText := true, laidKinds := [.data, .handle, .pinned], laidTests := true, laidLooks := .later }
def OptsLongUptoCardSaid : Prop := Claim7.holds Tryd.pinned (.plain (OpenSpec.upto optsLongSpec)) optsLongUptoCard
end Rows
end Go.Proofs.YtmcemaphhlcjfaaDoor
