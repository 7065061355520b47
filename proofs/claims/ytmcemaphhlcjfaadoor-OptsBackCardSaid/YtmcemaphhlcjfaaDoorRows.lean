/-
  NARROWER THAN 'FOR EVERY INPUT', by the rows' own cells (each row's printed sentence says how): RuleTakes: laid · RuleMakes: laid · RuleGroups: laid · RuleSets: laid · RuleStatic: laid · OptsBack: laid · OptsLong: laid.
  DERIVED. THE GIVEN ROWS OF THIS SEAT. 7 by the template 'for every input the law returns true; each argument reads behind the call as it read before'; 0 by the template 'total and deterministic' (their statements: YtmcemaphhlcjfaaDoorTotals.lean).
  GIVEN WITH THE SEED: the statements are not yours to turn. If you find one false, say at which input.
  Laid BY PROGRAM, IN A SANDBOX (cutbox-rows.mjs): the forced cells as the released guide's own fill.sh prints them over the translation 266815906679c8ca… (all of the seat's roots in one cut). By AI agents, Wed Nov 11 2026. No macro, syntax, notation, axiom, sorry.
-/
import Derived.Test.YtmcemaphhlcjfaaDoorChecked
import GoSem.PinnedTables
import GoSem.Claim
import GoSem.ClaimJoined
import GoSem.ClaimMapViews
import Derived.JoinedTies
import Derived.KernelRfl
namespace Go.Proofs.YtmcemaphhlcjfaaDoor
/- THE CELL 'sum', in the pinned program and in every row, IS THE sha256 OF THE DUMP (.gsa) THAT YtmcemaphhlcjfaaDoorProg.lean LOADS. Nothing in Lean hashes anything: it is a label: what it is worth is what the hold of that sum in a sandbox is worth. -/
noncomputable def Tryd.pinned : Pinned := { name := "ytmcemaphhlcjfaadoor", sum := "266815906679c8ca40149e41d9fb3de4784486ec0e3ddac34411d6e4b2e88d61", checked := Tryd.checked }
namespace Rows
def none {H : Type} : Left H := { results := [], args := [] }

/- WHAT THE LISTED PACKAGE-LEVEL VARIABLES READ AS WHEN THE CALL BEGINS. Each datum BY PROGRAM (the guide's laid-datum.mjs) off the statement by which the dump's own 'gosem.cut.vars' lays the variable. In a bare row this is a premise. The card (YtmcemaphhlcjfaaDoorCards.lean) ties it to the program's text. -/
def laid_unicode_utf8_acceptRanges {H : Type} : DataW H := .agg [.agg [.lit (.int .u8 128), .lit (.int .u8 191)], .agg [.lit (.int .u8 160), .lit (.int .u8 191)], .agg [.lit (.int .u8 128), .lit (.int .u8 159)], .agg [.lit (.int .u8 144), .lit (.int .u8 191)], .agg [.lit (.int .u8 128), .lit (.int .u8 143)], .agg [.lit (.int .u8 0), .lit (.int .u8 0)], .agg [.lit (.int .u8 0), .lit (.int .u8 0)], .agg [.lit (.int .u8 0), .lit (.int .u8 0)], .agg [.lit (.int .u8 0), .lit (.int .u8 0)], .agg [.lit (.int .u8 0), .lit (.int .u8 0)], .agg [.lit (.int .u8 0), .lit (.int .u8 0)], .agg [.lit (.int .u8 0), .lit (.int .u8 0)], .agg [.lit (.int .u8 0), .lit (.int .u8 0)], .agg [.lit (.int .u8 0), .lit (.int .u8 0)], .agg [.lit (.int .u8 0), .lit (.int .u8 0)], .agg [.lit (.int .u8 0), .lit (.int .u8 0)]]
/-- One of Go's own tables, pinned by name: the form's constant. -/
def laid_unicode_utf8_first : DataW Unit := Go.Pinned.utf8First
def laid_errors_errorType {H : Type} : DataW H := .iface "internal/reflectlite.rtype" (.agg [.ptr (.lit (.string [101, 114, 114, 111, 114]))])

/-- 'anvillaw17.RuleTakes': WHATEVER THE INPUT: true; the input reads as it did. -/
def ruleTakesSpec : ChangeSpec := { name := "ruleTakes", fn := fun _ => fun
  | [d] => { results := [.lit (.bool true)], args := [d] }
  | _ => none }
def ruleTakesRow : OpenClaim := { program := "ytmcemaphhlcjfaadoor", sum := "266815906679c8ca40149e41d9fb3de4784486ec0e3ddac34411d6e4b2e88d61", func := "anvil/anvillaw17.RuleTakes", spec := "ruleTakes", inPlace := ["internal/bytealg.IndexByteString", "internal/bytealg.IndexString", "internal/reflectlite.TypeOf"], unfollowed := true, recurses := true, named := ["unicode/utf8.first", "unicode/utf8.acceptRanges", "internal/bytealg.MaxLen"], apart := false, laid := [("unicode/utf8.acceptRanges", laid_unicode_utf8_acceptRanges), ("unicode/utf8.first", laid_unicode_utf8_first)] }
def RuleTakesSaid : Prop := ruleTakesRow.holds Tryd.pinned (OpenSpec.ofChange ruleTakesSpec)

/-- ITS FALSE NEIGHBOUR: 'it returns false'. Refute it at one input. -/
def ruleTakesWrong : ChangeSpec := { name := "ruleTakes", fn := fun _ => fun
  | [d] => { results := [.lit (.bool false)], args := [d] }
  | _ => none }
def RuleTakesWrongFalsely : Prop := ruleTakesRow.holds Tryd.pinned (OpenSpec.ofChange ruleTakesWrong)

/-- 'anvillaw17.RuleMakes': WHATEVER THE INPUT: true; the input reads as it did. -/
def ruleMakesSpec : ChangeSpec := { name := "ruleMakes", fn := fun _ => fun
  | [d1, d2, d3] => { results := [.lit (.bool true)], args := [d1, d2, d3] }
  | _ => none }
def ruleMakesRow : OpenClaim := { program := "ytmcemaphhlcjfaadoor", sum := "266815906679c8ca40149e41d9fb3de4784486ec0e3ddac34411d6e4b2e88d61", func := "anvil/anvillaw17.RuleMakes", spec := "ruleMakes", inPlace := ["internal/bytealg.IndexByteString", "internal/bytealg.IndexString", "internal/reflectlite.TypeOf"], unfollowed := true, recurses := true, named := ["unicode/utf8.first", "unicode/utf8.acceptRanges", "internal/bytealg.MaxLen"], apart := false, laid := [("unicode/utf8.acceptRanges", laid_unicode_utf8_acceptRanges), ("unicode/utf8.first", laid_unicode_utf8_first)] }
def RuleMakesSaid : Prop := ruleMakesRow.holds Tryd.pinned (OpenSpec.ofChange ruleMakesSpec)

/-- ITS FALSE NEIGHBOUR: 'it returns false'. Refute it at one input. -/
def ruleMakesWrong : ChangeSpec := { name := "ruleMakes", fn := fun _ => fun
  | [d1, d2, d3] => { results := [.lit (.bool false)], args := [d1, d2, d3] }
  | _ => none }
def RuleMakesWrongFalsely : Prop := ruleMakesRow.holds Tryd.pinned (OpenSpec.ofChange ruleMakesWrong)

/-- 'anvillaw17.RuleGroups': WHATEVER THE INPUT: true; the input reads as it did. -/
def ruleGroupsSpec : ChangeSpec := { name := "ruleGroups", fn := fun _ => fun
  | [d] => { results := [.lit (.bool true)], args := [d] }
  | _ => none }
def ruleGroupsRow : OpenClaim := { program := "ytmcemaphhlcjfaadoor", sum := "266815906679c8ca40149e41d9fb3de4784486ec0e3ddac34411d6e4b2e88d61", func := "anvil/anvillaw17.RuleGroups", spec := "ruleGroups", inPlace := ["internal/bytealg.IndexByteString", "internal/bytealg.IndexString", "internal/reflectlite.TypeOf"], unfollowed := true, recurses := true, named := ["unicode/utf8.first", "unicode/utf8.acceptRanges", "internal/bytealg.MaxLen"], apart := false, laid := [("unicode/utf8.acceptRanges", laid_unicode_utf8_acceptRanges), ("unicode/utf8.first", laid_unicode_utf8_first)] }
def RuleGroupsSaid : Prop := ruleGroupsRow.holds Tryd.pinned (OpenSpec.ofChange ruleGroupsSpec)

/-- ITS FALSE NEIGHBOUR: 'it returns false'. Refute it at one input. -/
def ruleGroupsWrong : ChangeSpec := { name := "ruleGroups", fn := fun _ => fun
  | [d] => { results := [.lit (.bool false)], args := [d] }
  | _ => none }
def RuleGroupsWrongFalsely : Prop := ruleGroupsRow.holds Tryd.pinned (OpenSpec.ofChange ruleGroupsWrong)

/-- 'anvillaw17.RuleSets': WHATEVER THE INPUT: true; the input reads as it did. -/
def ruleSetsSpec : ChangeSpec := { name := "ruleSets", fn := fun _ => fun
  | [d1, d2, d3] => { results := [.lit (.bool true)], args := [d1, d2, d3] }
  | _ => none }
def ruleSetsRow : OpenClaim := { program := "ytmcemaphhlcjfaadoor", sum := "266815906679c8ca40149e41d9fb3de4784486ec0e3ddac34411d6e4b2e88d61", func := "anvil/anvillaw17.RuleSets", spec := "ruleSets", inPlace := ["internal/bytealg.IndexByteString", "internal/bytealg.IndexString", "internal/reflectlite.TypeOf"], unfollowed := true, recurses := true, named := ["unicode/utf8.first", "unicode/utf8.acceptRanges", "internal/bytealg.MaxLen"], apart := false, laid := [("unicode/utf8.acceptRanges", laid_unicode_utf8_acceptRanges), ("unicode/utf8.first", laid_unicode_utf8_first)] }
def RuleSetsSaid : Prop := ruleSetsRow.holds Tryd.pinned (OpenSpec.ofChange ruleSetsSpec)

/-- ITS FALSE NEIGHBOUR: 'it returns false'. Refute it at one input. -/
def ruleSetsWrong : ChangeSpec := { name := "ruleSets", fn := fun _ => fun
  | [d1, d2, d3] => { results := [.lit (.bool false)], args := [d1, d2, d3] }
  | _ => none }
def RuleSetsWrongFalsely : Prop := ruleSetsRow.holds Tryd.pinned (OpenSpec.ofChange ruleSetsWrong)

/-- 'anvillaw17.RuleStatic': WHATEVER THE INPUT: true; the input reads as it did. -/
def ruleStaticSpec : ChangeSpec := { name := "ruleStatic", fn := fun _ => fun
  | [d1, d2] => { results := [.lit (.bool true)], args := [d1, d2] }
  | _ => none }
def ruleStaticRow : OpenClaim := { program := "ytmcemaphhlcjfaadoor", sum := "266815906679c8ca40149e41d9fb3de4784486ec0e3ddac34411d6e4b2e88d61", func := "anvil/anvillaw17.RuleStatic", spec := "ruleStatic", inPlace := ["internal/bytealg.IndexByteString", "internal/bytealg.IndexString", "internal/reflectlite.TypeOf"], unfollowed := true, recurses := true, named := ["unicode/utf8.first", "unicode/utf8.acceptRanges", "internal/bytealg.MaxLen"], apart := false, laid := [("unicode/utf8.acceptRanges", laid_unicode_utf8_acceptRanges), ("unicode/utf8.first", laid_unicode_utf8_first)] }
def RuleStaticSaid : Prop := ruleStaticRow.holds Tryd.pinned (OpenSpec.ofChange ruleStaticSpec)

/-- ITS FALSE NEIGHBOUR: 'it returns false'. Refute it at one input. -/
def ruleStaticWrong : ChangeSpec := { name := "ruleStatic", fn := fun _ => fun
  | [d1, d2] => { results := [.lit (.bool false)], args := [d1, d2] }
  | _ => none }
def RuleStaticWrongFalsely : Prop := ruleStaticRow.holds Tryd.pinned (OpenSpec.ofChange ruleStaticWrong)

/-- 'anvillaw24.OptsBack': WHATEVER THE INPUT: true; the input reads as it did. -/
def optsBackSpec : ChangeSpec := { name := "optsBack", fn := fun _ => fun
  | [d1, d2] => { results := [.lit (.bool true)], args := [d1, d2] }
  | _ => none }
def optsBackRow : OpenClaim := { program := "ytmcemaphhlcjfaadoor", sum := "266815906679c8ca40149e41d9fb3de4784486ec0e3ddac34411d6e4b2e88d61", func := "anvil/anvillaw24.OptsBack", spec := "optsBack", inPlace := ["internal/bytealg.IndexByteString", "internal/bytealg.IndexString", "internal/reflectlite.ValueOf", "(internal/reflectlite.Value).Type", "(internal/reflectlite.Value).IsNil", "internal/reflectlite.TypeOf", "(internal/reflectlite.Value).Elem", "(internal/reflectlite.Value).Set", "internal/abi.NoEscape", "internal/bytealg.MakeNoZero"], unfollowed := true, recurses := true, named := ["internal/bytealg.MaxLen", "unicode/utf8.first", "unicode/utf8.acceptRanges", "errors.errorType"], apart := false, laid := [("unicode/utf8.acceptRanges", laid_unicode_utf8_acceptRanges), ("errors.errorType", laid_errors_errorType), ("unicode/utf8.first", laid_unicode_utf8_first)] }
def OptsBackSaid : Prop := optsBackRow.holds Tryd.pinned (OpenSpec.ofChange optsBackSpec)

/-- ITS FALSE NEIGHBOUR: 'it returns false'. Refute it at one input. -/
def optsBackWrong : ChangeSpec := { name := "optsBack", fn := fun _ => fun
  | [d1, d2] => { results := [.lit (.bool false)], args := [d1, d2] }
  | _ => none }
def OptsBackWrongFalsely : Prop := optsBackRow.holds Tryd.pinned (OpenSpec.ofChange optsBackWrong)

/-- 'anvillaw24.OptsLong': WHATEVER THE INPUT: true; the input reads as it did. -/
def optsLongSpec : ChangeSpec := { name := "optsLong", fn := fun _ => fun
  | [d1, d2] => { results := [.lit (.bool true)], args := [d1, d2] }
  | _ => none }
def optsLongRow : OpenClaim := { program := "ytmcemaphhlcjfaadoor", sum := "266815906679c8ca40149e41d9fb3de4784486ec0e3ddac34411d6e4b2e88d61", func := "anvil/anvillaw24.OptsLong", spec := "optsLong", inPlace := ["internal/bytealg.IndexByteString", "internal/bytealg.IndexString", "internal/reflectlite.ValueOf", "(internal/reflectlite.Value).Type", "(internal/reflectlite.Value).IsNil", "internal/reflectlite.TypeOf", "(internal/reflectlite.Value).Elem", "(internal/reflectlite.Value).Set", "internal/abi.NoEscape", "internal/bytealg.MakeNoZero"], unfollowed := true, recurses := true, named := ["internal/bytealg.MaxLen", "unicode/utf8.first", "unicode/utf8.acceptRanges", "errors.errorType"], apart := false, laid := [("unicode/utf8.acceptRanges", laid_unicode_utf8_acceptRanges), ("errors.errorType", laid_errors_errorType), ("unicode/utf8.first", laid_unicode_utf8_first)] }
def OptsLongSaid : Prop := optsLongRow.holds Tryd.pinned (OpenSpec.ofChange optsLongSpec)

/-- ITS FALSE NEIGHBOUR: 'it returns false'. Refute it at one input. -/
def optsLongWrong : ChangeSpec := { name := "optsLong", fn := fun _ => fun
  | [d1, d2] => { results := [.lit (.bool false)], args := [d1, d2] }
  | _ => none }
def OptsLongWrongFalsely : Prop := optsLongRow.holds Tryd.pinned (OpenSpec.ofChange optsLongWrong)

/- THE SECOND FORM. 'bulk': how many values and letters a reading holds, each counted each time it is reached (what is shared counts as often as it is met; a slice's spare places count too). A statement '..UptoSaid' is the law's where the arguments, and the package variables that the reading takes, are together of bulk at most 1048576: NARROWER than '..Said'. Prove '..Said' where nothing that the law and all that it calls make is longer than what came in: it says more and counts as full. Else prove '..UptoSaid'. A law counts once. -/
mutual
def uptoBulk {H : Type} : DataW H → Nat
  | .lit (.string bytes) => bytes.length + 1
  | .lit _ => 1
  | .nil => 1
  | .ptr d => uptoBulk d + 1
  | .slice elems spare => uptoBulkAll elems + uptoBulkAll spare + 1
  | .agg parts => uptoBulkAll parts + 1
  | .iface _ d => uptoBulk d + 1
  | .map entries => uptoBulkEntries entries + 1
  | .held _ => 1
def uptoBulkAll {H : Type} : List (DataW H) → Nat
  | [] => 0
  | d :: r => uptoBulk d + uptoBulkAll r
def uptoBulkEntries {H : Type} : List (Lit × DataW H) → Nat
  | [] => 0
  | x :: r => uptoBulkEntry x + uptoBulkEntries r
def uptoBulkEntry {H : Type} : Lit × DataW H → Nat
  | (.string bytes, d) => bytes.length + uptoBulk d + 1
  | (_, d) => uptoBulk d + 1
 end
def uptoSmall : (H : Type) → List (DataW H) → Bool := fun _ ds => decide (uptoBulkAll ds ≤ 1048576)
def OpenSpec.upto (s : _root_.Go.ChangeSpec) : _root_.Go.OpenSpec := { _root_.Go.OpenSpec.ofChange s with cond := some uptoSmall }

/-- 'anvillaw17.RuleTakes', WHERE WHAT IT READS IS OF BULK AT MOST 1048576: true; the input reads as it did. -/
def ruleTakesUptoRow : OpenClaim := { program := "ytmcemaphhlcjfaadoor", sum := "266815906679c8ca40149e41d9fb3de4784486ec0e3ddac34411d6e4b2e88d61", func := "anvil/anvillaw17.RuleTakes", spec := "ruleTakes", inPlace := ["internal/bytealg.IndexByteString", "internal/bytealg.IndexString", "internal/reflectlite.TypeOf"], unfollowed := true, recurses := true, named := ["unicode/utf8.first", "unicode/utf8.acceptRanges", "internal/bytealg.MaxLen"], apart := false, laid := [("unicode/utf8.acceptRanges", laid_unicode_utf8_acceptRanges), ("unicode/utf8.first", laid_unicode_utf8_first)], narrowed := true }
def RuleTakesUptoSaid : Prop := ruleTakesUptoRow.holds Tryd.pinned (OpenSpec.upto ruleTakesSpec)

/-- 'anvillaw17.RuleMakes', WHERE WHAT IT READS IS OF BULK AT MOST 1048576: true; the input reads as it did. -/
def ruleMakesUptoRow : OpenClaim := { program := "ytmcemaphhlcjfaadoor", sum := "266815906679c8ca40149e41d9fb3de4784486ec0e3ddac34411d6e4b2e88d61", func := "anvil/anvillaw17.RuleMakes", spec := "ruleMakes", inPlace := ["internal/bytealg.IndexByteString", "internal/bytealg.IndexString", "internal/reflectlite.TypeOf"], unfollowed := true, recurses := true, named := ["unicode/utf8.first", "unicode/utf8.acceptRanges", "internal/bytealg.MaxLen"], apart := false, laid := [("unicode/utf8.acceptRanges", laid_unicode_utf8_acceptRanges), ("unicode/utf8.first", laid_unicode_utf8_first)], narrowed := true }
def RuleMakesUptoSaid : Prop := ruleMakesUptoRow.holds Tryd.pinned (OpenSpec.upto ruleMakesSpec)

/-- 'anvillaw17.RuleGroups', WHERE WHAT IT READS IS OF BULK AT MOST 1048576: true; the input reads as it did. -/
def ruleGroupsUptoRow : OpenClaim := { program := "ytmcemaphhlcjfaadoor", sum := "266815906679c8ca40149e41d9fb3de4784486ec0e3ddac34411d6e4b2e88d61", func := "anvil/anvillaw17.RuleGroups", spec := "ruleGroups", inPlace := ["internal/bytealg.IndexByteString", "internal/bytealg.IndexString", "internal/reflectlite.TypeOf"], unfollowed := true, recurses := true, named := ["unicode/utf8.first", "unicode/utf8.acceptRanges", "internal/bytealg.MaxLen"], apart := false, laid := [("unicode/utf8.acceptRanges", laid_unicode_utf8_acceptRanges), ("unicode/utf8.first", laid_unicode_utf8_first)], narrowed := true }
def RuleGroupsUptoSaid : Prop := ruleGroupsUptoRow.holds Tryd.pinned (OpenSpec.upto ruleGroupsSpec)

/-- 'anvillaw17.RuleSets', WHERE WHAT IT READS IS OF BULK AT MOST 1048576: true; the input reads as it did. -/
def ruleSetsUptoRow : OpenClaim := { program := "ytmcemaphhlcjfaadoor", sum := "266815906679c8ca40149e41d9fb3de4784486ec0e3ddac34411d6e4b2e88d61", func := "anvil/anvillaw17.RuleSets", spec := "ruleSets", inPlace := ["internal/bytealg.IndexByteString", "internal/bytealg.IndexString", "internal/reflectlite.TypeOf"], unfollowed := true, recurses := true, named := ["unicode/utf8.first", "unicode/utf8.acceptRanges", "internal/bytealg.MaxLen"], apart := false, laid := [("unicode/utf8.acceptRanges", laid_unicode_utf8_acceptRanges), ("unicode/utf8.first", laid_unicode_utf8_first)], narrowed := true }
def RuleSetsUptoSaid : Prop := ruleSetsUptoRow.holds Tryd.pinned (OpenSpec.upto ruleSetsSpec)

/-- 'anvillaw17.RuleStatic', WHERE WHAT IT READS IS OF BULK AT MOST 1048576: true; the input reads as it did. -/
def ruleStaticUptoRow : OpenClaim := { program := "ytmcemaphhlcjfaadoor", sum := "266815906679c8ca40149e41d9fb3de4784486ec0e3ddac34411d6e4b2e88d61", func := "anvil/anvillaw17.RuleStatic", spec := "ruleStatic", inPlace := ["internal/bytealg.IndexByteString", "internal/bytealg.IndexString", "internal/reflectlite.TypeOf"], unfollowed := true, recurses := true, named := ["unicode/utf8.first", "unicode/utf8.acceptRanges", "internal/bytealg.MaxLen"], apart := false, laid := [("unicode/utf8.acceptRanges", laid_unicode_utf8_acceptRanges), ("unicode/utf8.first", laid_unicode_utf8_first)], narrowed := true }
def RuleStaticUptoSaid : Prop := ruleStaticUptoRow.holds Tryd.pinned (OpenSpec.upto ruleStaticSpec)

/-- 'anvillaw24.OptsBack', WHERE WHAT IT READS IS OF BULK AT MOST 1048576: true; the input reads as it did. -/
def optsBackUptoRow : OpenClaim := { program := "ytmcemaphhlcjfaadoor", sum := "266815906679c8ca40149e41d9fb3de4784486ec0e3ddac34411d6e4b2e88d61", func := "anvil/anvillaw24.OptsBack", spec := "optsBack", inPlace := ["internal/bytealg.IndexByteString", "internal/bytealg.IndexString", "internal/reflectlite.ValueOf", "(internal/reflectlite.Value).Type", "(internal/reflectlite.Value).IsNil", "internal/reflectlite.TypeOf", "(internal/reflectlite.Value).Elem", "(internal/reflectlite.Value).Set", "internal/abi.NoEscape", "internal/bytealg.MakeNoZero"], unfollowed := true, recurses := true, named := ["internal/bytealg.MaxLen", "unicode/utf8.first", "unicode/utf8.acceptRanges", "errors.errorType"], apart := false, laid := [("unicode/utf8.acceptRanges", laid_unicode_utf8_acceptRanges), ("errors.errorType", laid_errors_errorType), ("unicode/utf8.first", laid_unicode_utf8_first)], narrowed := true }
def OptsBackUptoSaid : Prop := optsBackUptoRow.holds Tryd.pinned (OpenSpec.upto optsBackSpec)

/-- 'anvillaw24.OptsLong', WHERE WHAT IT READS IS OF BULK AT MOST 1048576: true; the input reads as it did. -/
def optsLongUptoRow : OpenClaim := { program := "ytmcemaphhlcjfaadoor", sum := "266815906679c8ca40149e41d9fb3de4784486ec0e3ddac34411d6e4b2e88d61", func := "anvil/anvillaw24.OptsLong", spec := "optsLong", inPlace := ["internal/bytealg.IndexByteString", "internal/bytealg.IndexString", "internal/reflectlite.ValueOf", "(internal/reflectlite.Value).Type", "(internal/reflectlite.Value).IsNil", "internal/reflectlite.TypeOf", "(internal/reflectlite.Value).Elem", "(internal/reflectlite.Value).Set", "internal/abi.NoEscape", "internal/bytealg.MakeNoZero"], unfollowed := true, recurses := true, named := ["internal/bytealg.MaxLen", "unicode/utf8.first", "unicode/utf8.acceptRanges", "errors.errorType"], apart := false, laid := [("unicode/utf8.acceptRanges", laid_unicode_utf8_acceptRanges), ("errors.errorType", laid_errors_errorType), ("unicode/utf8.first", laid_unicode_utf8_first)], narrowed := true }
def OptsLongUptoSaid : Prop := optsLongUptoRow.holds Tryd.pinned (OpenSpec.upto optsLongSpec)

end Rows
end Go.Proofs.YtmcemaphhlcjfaaDoor
