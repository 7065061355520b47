/-
  No cell of these rows narrows 'for every input' (looked for: loops, veiled, ifaces, maps, wideKeys, modest, calm, conditions, laid).
  DERIVED. THE GIVEN ROWS OF THIS SEAT. 13 by the template 'for every input the law returns true; each argument reads behind the call as it read before'; 0 by the template 'total and deterministic' (their statements: YtndoloohdloflaaTotals.lean).
  GIVEN WITH THE SEED: the statements are not yours to turn. If you find one false, say at which input.
  Laid BY PROGRAM, IN A SANDBOX (cutbox-rows.mjs): the forced cells as the released guide's own fill.sh prints them over the translation 5a6dc4345a737d6f… (all of the seat's roots in one cut). By AI agents, Wed Nov 11 2026. No macro, syntax, notation, axiom, sorry.
-/
import Derived.Test.YtndoloohdloflaaChecked
import GoSem.Claim
import GoSem.ClaimJoined
import GoSem.ClaimMapViews
import Derived.JoinedTies
import Derived.KernelRfl
namespace Go.Proofs.Ytndoloohdloflaa
/- THE CELL 'sum', in the pinned program and in every row, IS THE sha256 OF THE DUMP (.gsa) THAT YtndoloohdloflaaProg.lean LOADS. Nothing in Lean hashes anything: it is a label: what it is worth is what the hold of that sum in a sandbox is worth. -/
noncomputable def Try.pinned : Pinned := { name := "ytndoloohdloflaa", sum := "5a6dc4345a737d6f23f357d853b9128c5654980a072893157b3c041c7562c2b1", checked := Try.checked }
namespace Rows
def none {H : Type} : Left H := { results := [], args := [] }

/-- 'anvillaw3.PatBack': WHATEVER THE INPUT: true; the input reads as it did. -/
def patBackSpec : ChangeSpec := { name := "patBack", fn := fun _ => fun
  | [d1, d2, d3] => { results := [.lit (.bool true)], args := [d1, d2, d3] }
  | _ => none }
def patBackRow : OpenClaim := { program := "ytndoloohdloflaa", sum := "5a6dc4345a737d6f23f357d853b9128c5654980a072893157b3c041c7562c2b1", func := "anvil/anvillaw3.PatBack", spec := "patBack", inPlace := ["internal/bytealg.IndexByteString"], apart := false }
def PatBackSaid : Prop := patBackRow.holds Try.pinned (OpenSpec.ofChange patBackSpec)

/-- ITS FALSE NEIGHBOUR: 'it returns false'. Refute it at one input. -/
def patBackWrong : ChangeSpec := { name := "patBack", fn := fun _ => fun
  | [d1, d2, d3] => { results := [.lit (.bool false)], args := [d1, d2, d3] }
  | _ => none }
def PatBackWrongFalsely : Prop := patBackRow.holds Try.pinned (OpenSpec.ofChange patBackWrong)

/-- 'anvillaw3.PatMatches': WHATEVER THE INPUT: true; the input reads as it did. -/
def patMatchesSpec : ChangeSpec := { name := "patMatches", fn := fun _ => fun
  | [d1, d2, d3] => { results := [.lit (.bool true)], args := [d1, d2, d3] }
  | _ => none }
def patMatchesRow : OpenClaim := { program := "ytndoloohdloflaa", sum := "5a6dc4345a737d6f23f357d853b9128c5654980a072893157b3c041c7562c2b1", func := "anvil/anvillaw3.PatMatches", spec := "patMatches", inPlace := ["internal/bytealg.IndexByteString"], apart := false }
def PatMatchesSaid : Prop := patMatchesRow.holds Try.pinned (OpenSpec.ofChange patMatchesSpec)

/-- ITS FALSE NEIGHBOUR: 'it returns false'. Refute it at one input. -/
def patMatchesWrong : ChangeSpec := { name := "patMatches", fn := fun _ => fun
  | [d1, d2, d3] => { results := [.lit (.bool false)], args := [d1, d2, d3] }
  | _ => none }
def PatMatchesWrongFalsely : Prop := patMatchesRow.holds Try.pinned (OpenSpec.ofChange patMatchesWrong)

/-- 'anvillaw3.PatFilters': WHATEVER THE INPUT: true; the input reads as it did. -/
def patFiltersSpec : ChangeSpec := { name := "patFilters", fn := fun _ => fun
  | [d1, d2] => { results := [.lit (.bool true)], args := [d1, d2] }
  | _ => none }
def patFiltersRow : OpenClaim := { program := "ytndoloohdloflaa", sum := "5a6dc4345a737d6f23f357d853b9128c5654980a072893157b3c041c7562c2b1", func := "anvil/anvillaw3.PatFilters", spec := "patFilters", inPlace := ["internal/bytealg.IndexByteString"], unfollowed := true, recurses := true, apart := false }
def PatFiltersSaid : Prop := patFiltersRow.holds Try.pinned (OpenSpec.ofChange patFiltersSpec)

/-- ITS FALSE NEIGHBOUR: 'it returns false'. Refute it at one input. -/
def patFiltersWrong : ChangeSpec := { name := "patFilters", fn := fun _ => fun
  | [d1, d2] => { results := [.lit (.bool false)], args := [d1, d2] }
  | _ => none }
def PatFiltersWrongFalsely : Prop := patFiltersRow.holds Try.pinned (OpenSpec.ofChange patFiltersWrong)

/-- 'anvillaw2.PathWords': WHATEVER THE INPUT: true; the input reads as it did. -/
def pathWordsSpec : ChangeSpec := { name := "pathWords", fn := fun _ => fun
  | [d] => { results := [.lit (.bool true)], args := [d] }
  | _ => none }
def pathWordsRow : OpenClaim := { program := "ytndoloohdloflaa", sum := "5a6dc4345a737d6f23f357d853b9128c5654980a072893157b3c041c7562c2b1", func := "anvil/anvillaw2.PathWords", spec := "pathWords", inPlace := ["internal/abi.NoEscape", "internal/bytealg.MakeNoZero"], unfollowed := true, recurses := true, apart := false }
def PathWordsSaid : Prop := pathWordsRow.holds Try.pinned (OpenSpec.ofChange pathWordsSpec)

/-- ITS FALSE NEIGHBOUR: 'it returns false'. Refute it at one input. -/
def pathWordsWrong : ChangeSpec := { name := "pathWords", fn := fun _ => fun
  | [d] => { results := [.lit (.bool false)], args := [d] }
  | _ => none }
def PathWordsWrongFalsely : Prop := pathWordsRow.holds Try.pinned (OpenSpec.ofChange pathWordsWrong)

/-- 'anvillaw2.PathLaws': WHATEVER THE INPUT: true; the input reads as it did. -/
def pathLawsSpec : ChangeSpec := { name := "pathLaws", fn := fun _ => fun
  | [d] => { results := [.lit (.bool true)], args := [d] }
  | _ => none }
def pathLawsRow : OpenClaim := { program := "ytndoloohdloflaa", sum := "5a6dc4345a737d6f23f357d853b9128c5654980a072893157b3c041c7562c2b1", func := "anvil/anvillaw2.PathLaws", spec := "pathLaws", inPlace := ["internal/abi.NoEscape", "internal/bytealg.MakeNoZero"], unfollowed := true, recurses := true, apart := false }
def PathLawsSaid : Prop := pathLawsRow.holds Try.pinned (OpenSpec.ofChange pathLawsSpec)

/-- ITS FALSE NEIGHBOUR: 'it returns false'. Refute it at one input. -/
def pathLawsWrong : ChangeSpec := { name := "pathLaws", fn := fun _ => fun
  | [d] => { results := [.lit (.bool false)], args := [d] }
  | _ => none }
def PathLawsWrongFalsely : Prop := pathLawsRow.holds Try.pinned (OpenSpec.ofChange pathLawsWrong)

/-- 'anvillaw2.PathLong': WHATEVER THE INPUT: true; the input reads as it did. -/
def pathLongSpec : ChangeSpec := { name := "pathLong", fn := fun _ => fun
  | [d1, d2] => { results := [.lit (.bool true)], args := [d1, d2] }
  | _ => none }
def pathLongRow : OpenClaim := { program := "ytndoloohdloflaa", sum := "5a6dc4345a737d6f23f357d853b9128c5654980a072893157b3c041c7562c2b1", func := "anvil/anvillaw2.PathLong", spec := "pathLong", inPlace := ["internal/abi.NoEscape", "internal/bytealg.MakeNoZero", "internal/bytealg.IndexByteString", "internal/bytealg.IndexString"], unfollowed := true, recurses := true, named := ["internal/bytealg.MaxLen"], apart := false }
def PathLongSaid : Prop := pathLongRow.holds Try.pinned (OpenSpec.ofChange pathLongSpec)

/-- ITS FALSE NEIGHBOUR: 'it returns false'. Refute it at one input. -/
def pathLongWrong : ChangeSpec := { name := "pathLong", fn := fun _ => fun
  | [d1, d2] => { results := [.lit (.bool false)], args := [d1, d2] }
  | _ => none }
def PathLongWrongFalsely : Prop := pathLongRow.holds Try.pinned (OpenSpec.ofChange pathLongWrong)

/-- 'anvillaw2.PathCleans': WHATEVER THE INPUT: true; the input reads as it did. -/
def pathCleansSpec : ChangeSpec := { name := "pathCleans", fn := fun _ => fun
  | [d1, d2] => { results := [.lit (.bool true)], args := [d1, d2] }
  | _ => none }
def pathCleansRow : OpenClaim := { program := "ytndoloohdloflaa", sum := "5a6dc4345a737d6f23f357d853b9128c5654980a072893157b3c041c7562c2b1", func := "anvil/anvillaw2.PathCleans", spec := "pathCleans", inPlace := ["internal/abi.NoEscape", "internal/bytealg.MakeNoZero", "internal/bytealg.IndexByteString", "internal/bytealg.IndexString"], unfollowed := true, recurses := true, named := ["internal/bytealg.MaxLen"], apart := false }
def PathCleansSaid : Prop := pathCleansRow.holds Try.pinned (OpenSpec.ofChange pathCleansSpec)

/-- ITS FALSE NEIGHBOUR: 'it returns false'. Refute it at one input. -/
def pathCleansWrong : ChangeSpec := { name := "pathCleans", fn := fun _ => fun
  | [d1, d2] => { results := [.lit (.bool false)], args := [d1, d2] }
  | _ => none }
def PathCleansWrongFalsely : Prop := pathCleansRow.holds Try.pinned (OpenSpec.ofChange pathCleansWrong)

/-- 'anvillaw15.RefsParses': WHATEVER THE INPUT: true; the input reads as it did. -/
def refsParsesSpec : ChangeSpec := { name := "refsParses", fn := fun _ => fun
  | [d1, d2] => { results := [.lit (.bool true)], args := [d1, d2] }
  | _ => none }
def refsParsesRow : OpenClaim := { program := "ytndoloohdloflaa", sum := "5a6dc4345a737d6f23f357d853b9128c5654980a072893157b3c041c7562c2b1", func := "anvil/anvillaw15.RefsParses", spec := "refsParses", inPlace := ["internal/bytealg.IndexByteString"], unfollowed := true, recurses := true, apart := false }
def RefsParsesSaid : Prop := refsParsesRow.holds Try.pinned (OpenSpec.ofChange refsParsesSpec)

/-- ITS FALSE NEIGHBOUR: 'it returns false'. Refute it at one input. -/
def refsParsesWrong : ChangeSpec := { name := "refsParses", fn := fun _ => fun
  | [d1, d2] => { results := [.lit (.bool false)], args := [d1, d2] }
  | _ => none }
def RefsParsesWrongFalsely : Prop := refsParsesRow.holds Try.pinned (OpenSpec.ofChange refsParsesWrong)

/-- 'anvillaw15.RefsScans': WHATEVER THE INPUT: true; the input reads as it did. -/
def refsScansSpec : ChangeSpec := { name := "refsScans", fn := fun _ => fun
  | [d1, d2] => { results := [.lit (.bool true)], args := [d1, d2] }
  | _ => none }
def refsScansRow : OpenClaim := { program := "ytndoloohdloflaa", sum := "5a6dc4345a737d6f23f357d853b9128c5654980a072893157b3c041c7562c2b1", func := "anvil/anvillaw15.RefsScans", spec := "refsScans", inPlace := ["internal/bytealg.IndexByteString"], unfollowed := true, recurses := true, apart := false }
def RefsScansSaid : Prop := refsScansRow.holds Try.pinned (OpenSpec.ofChange refsScansSpec)

/-- ITS FALSE NEIGHBOUR: 'it returns false'. Refute it at one input. -/
def refsScansWrong : ChangeSpec := { name := "refsScans", fn := fun _ => fun
  | [d1, d2] => { results := [.lit (.bool false)], args := [d1, d2] }
  | _ => none }
def RefsScansWrongFalsely : Prop := refsScansRow.holds Try.pinned (OpenSpec.ofChange refsScansWrong)

/-- 'anvillaw15.RefsPlain': WHATEVER THE INPUT: true; the input reads as it did. -/
def refsPlainSpec : ChangeSpec := { name := "refsPlain", fn := fun _ => fun
  | [d1, d2, d3] => { results := [.lit (.bool true)], args := [d1, d2, d3] }
  | _ => none }
def refsPlainRow : OpenClaim := { program := "ytndoloohdloflaa", sum := "5a6dc4345a737d6f23f357d853b9128c5654980a072893157b3c041c7562c2b1", func := "anvil/anvillaw15.RefsPlain", spec := "refsPlain", inPlace := ["internal/bytealg.IndexByteString"], unfollowed := true, recurses := true, apart := false }
def RefsPlainSaid : Prop := refsPlainRow.holds Try.pinned (OpenSpec.ofChange refsPlainSpec)

/-- ITS FALSE NEIGHBOUR: 'it returns false'. Refute it at one input. -/
def refsPlainWrong : ChangeSpec := { name := "refsPlain", fn := fun _ => fun
  | [d1, d2, d3] => { results := [.lit (.bool false)], args := [d1, d2, d3] }
  | _ => none }
def RefsPlainWrongFalsely : Prop := refsPlainRow.holds Try.pinned (OpenSpec.ofChange refsPlainWrong)

/-- 'anvillaw15.RefsNames': WHATEVER THE INPUT: true; the input reads as it did. -/
def refsNamesSpec : ChangeSpec := { name := "refsNames", fn := fun _ => fun
  | [d1, d2] => { results := [.lit (.bool true)], args := [d1, d2] }
  | _ => none }
def refsNamesRow : OpenClaim := { program := "ytndoloohdloflaa", sum := "5a6dc4345a737d6f23f357d853b9128c5654980a072893157b3c041c7562c2b1", func := "anvil/anvillaw15.RefsNames", spec := "refsNames", inPlace := ["internal/bytealg.IndexByteString"], unfollowed := true, recurses := true, apart := false }
def RefsNamesSaid : Prop := refsNamesRow.holds Try.pinned (OpenSpec.ofChange refsNamesSpec)

/-- ITS FALSE NEIGHBOUR: 'it returns false'. Refute it at one input. -/
def refsNamesWrong : ChangeSpec := { name := "refsNames", fn := fun _ => fun
  | [d1, d2] => { results := [.lit (.bool false)], args := [d1, d2] }
  | _ => none }
def RefsNamesWrongFalsely : Prop := refsNamesRow.holds Try.pinned (OpenSpec.ofChange refsNamesWrong)

/-- 'anviltop.TopNames': WHATEVER THE INPUT: true; the input reads as it did. -/
def topNamesSpec : ChangeSpec := { name := "topNames", fn := fun _ => fun
  | [] => { results := [.lit (.bool true)], args := [] }
  | _ => none }
def topNamesRow : OpenClaim := { program := "ytndoloohdloflaa", sum := "5a6dc4345a737d6f23f357d853b9128c5654980a072893157b3c041c7562c2b1", func := "anvil/anviltop.TopNames", spec := "topNames", apart := false }
def TopNamesSaid : Prop := topNamesRow.holds Try.pinned (OpenSpec.ofChange topNamesSpec)

/-- ITS FALSE NEIGHBOUR: 'it returns false'. Refute it at one input. -/
def topNamesWrong : ChangeSpec := { name := "topNames", fn := fun _ => fun
  | [] => { results := [.lit (.bool false)], args := [] }
  | _ => none }
def TopNamesWrongFalsely : Prop := topNamesRow.holds Try.pinned (OpenSpec.ofChange topNamesWrong)

/-- 'anvillaw14.VarsOrigins': WHATEVER THE INPUT: true; the input reads as it did. -/
def varsOriginsSpec : ChangeSpec := { name := "varsOrigins", fn := fun _ => fun
  | [d1, d2, d3] => { results := [.lit (.bool true)], args := [d1, d2, d3] }
  | _ => none }
def varsOriginsRow : OpenClaim := { program := "ytndoloohdloflaa", sum := "5a6dc4345a737d6f23f357d853b9128c5654980a072893157b3c041c7562c2b1", func := "anvil/anvillaw14.VarsOrigins", spec := "varsOrigins", apart := false }
def VarsOriginsSaid : Prop := varsOriginsRow.holds Try.pinned (OpenSpec.ofChange varsOriginsSpec)

/-- ITS FALSE NEIGHBOUR: 'it returns false'. Refute it at one input. -/
def varsOriginsWrong : ChangeSpec := { name := "varsOrigins", fn := fun _ => fun
  | [d1, d2, d3] => { results := [.lit (.bool false)], args := [d1, d2, d3] }
  | _ => none }
def VarsOriginsWrongFalsely : Prop := varsOriginsRow.holds Try.pinned (OpenSpec.ofChange varsOriginsWrong)

/- THE SECOND FORM. 'bulk': how many values and letters a reading holds, each counted each time it is reached (what is shared counts as often as it is met; a slice's spare places count too). A statement '..UptoSaid' is the law's where the arguments, and the package variables that the reading takes, are together of bulk at most 1048576: NARROWER than '..Said'. Prove '..Said' where nothing that the law and all that it calls make is longer than what came in: it says more and counts as full. Else prove '..UptoSaid'. A law counts once. -/
mutual
def uptoBulk {H : Type} : DataW H → Nat
  | .lit (.string bytes) => bytes.length + 1
  | .lit _ => 1
  | .nil => 1
  | .ptr d => uptoBulk d + 1
  | .slice elems spare => uptoBulkAll elems + uptoBulkAll spare + 1
  | .agg parts => uptoBulkAll parts + 1
  | .iface _ d => uptoBulk d + 1
  | .map entries => uptoBulkEntries entries + 1
  | .held _ => 1
def uptoBulkAll {H : Type} : List (DataW H) → Nat
  | [] => 0
  | d :: r => uptoBulk d + uptoBulkAll r
def uptoBulkEntries {H : Type} : List (Lit × DataW H) → Nat
  | [] => 0
  | x :: r => uptoBulkEntry x + uptoBulkEntries r
def uptoBulkEntry {H : Type} : Lit × DataW H → Nat
  | (.string bytes, d) => bytes.length + uptoBulk d + 1
  | (_, d) => uptoBulk d + 1
 end
def uptoSmall : (H : Type) → List (DataW H) → Bool := fun _ ds => decide (uptoBulkAll ds ≤ 1048576)
def OpenSpec.upto (s : _root_.Go.ChangeSpec) : _root_.Go.OpenSpec := { _root_.Go.OpenSpec.ofChange s with cond := some uptoSmall }

/-- 'anvillaw3.PatBack', WHERE WHAT IT READS IS OF BULK AT MOST 1048576: true; the input reads as it did. -/
def patBackUptoRow : OpenClaim := { program := "ytndoloohdloflaa", sum := "5a6dc4345a737d6f23f357d853b9128c5654980a072893157b3c041c7562c2b1", func := "anvil/anvillaw3.PatBack", spec := "patBack", inPlace := ["internal/bytealg.IndexByteString"], apart := false, narrowed := true }
def PatBackUptoSaid : Prop := patBackUptoRow.holds Try.pinned (OpenSpec.upto patBackSpec)

/-- 'anvillaw3.PatMatches', WHERE WHAT IT READS IS OF BULK AT MOST 1048576: true; the input reads as it did. -/
def patMatchesUptoRow : OpenClaim := { program := "ytndoloohdloflaa", sum := "5a6dc4345a737d6f23f357d853b9128c5654980a072893157b3c041c7562c2b1", func := "anvil/anvillaw3.PatMatches", spec := "patMatches", inPlace := ["internal/bytealg.IndexByteString"], apart := false, narrowed := true }
def PatMatchesUptoSaid : Prop := patMatchesUptoRow.holds Try.pinned (OpenSpec.upto patMatchesSpec)

/-- 'anvillaw3.PatFilters', WHERE WHAT IT READS IS OF BULK AT MOST 1048576: true; the input reads as it did. -/
def patFiltersUptoRow : OpenClaim := { program := "ytndoloohdloflaa", sum := "5a6dc4345a737d6f23f357d853b9128c5654980a072893157b3c041c7562c2b1", func := "anvil/anvillaw3.PatFilters", spec := "patFilters", inPlace := ["internal/bytealg.IndexByteString"], unfollowed := true, recurses := true, apart := false, narrowed := true }
def PatFiltersUptoSaid : Prop := patFiltersUptoRow.holds Try.pinned (OpenSpec.upto patFiltersSpec)

/-- 'anvillaw2.PathWords', WHERE WHAT IT READS IS OF BULK AT MOST 1048576: true; the input reads as it did. -/
def pathWordsUptoRow : OpenClaim := { program := "ytndoloohdloflaa", sum := "5a6dc4345a737d6f23f357d853b9128c5654980a072893157b3c041c7562c2b1", func := "anvil/anvillaw2.PathWords", spec := "pathWords", inPlace := ["internal/abi.NoEscape", "internal/bytealg.MakeNoZero"], unfollowed := true, recurses := true, apart := false, narrowed := true }
def PathWordsUptoSaid : Prop := pathWordsUptoRow.holds Try.pinned (OpenSpec.upto pathWordsSpec)

/-- 'anvillaw2.PathLaws', WHERE WHAT IT READS IS OF BULK AT MOST 1048576: true; the input reads as it did. -/
def pathLawsUptoRow : OpenClaim := { program := "ytndoloohdloflaa", sum := "5a6dc4345a737d6f23f357d853b9128c5654980a072893157b3c041c7562c2b1", func := "anvil/anvillaw2.PathLaws", spec := "pathLaws", inPlace := ["internal/abi.NoEscape", "internal/bytealg.MakeNoZero"], unfollowed := true, recurses := true, apart := false, narrowed := true }
def PathLawsUptoSaid : Prop := pathLawsUptoRow.holds Try.pinned (OpenSpec.upto pathLawsSpec)

/-- 'anvillaw2.PathLong', WHERE WHAT IT READS IS OF BULK AT MOST 1048576: true; the input reads as it did. -/
def pathLongUptoRow : OpenClaim := { program := "ytndoloohdloflaa", sum := "5a6dc4345a737d6f23f357d853b9128c5654980a072893157b3c041c7562c2b1", func := "anvil/anvillaw2.PathLong", spec := "pathLong", inPlace := ["internal/abi.NoEscape", "internal/bytealg.MakeNoZero", "internal/bytealg.IndexByteString", "internal/bytealg.IndexString"], unfollowed := true, recurses := true, named := ["internal/bytealg.MaxLen"], apart := false, narrowed := true }
def PathLongUptoSaid : Prop := pathLongUptoRow.holds Try.pinned (OpenSpec.upto pathLongSpec)

/-- 'anvillaw2.PathCleans', WHERE WHAT IT READS IS OF BULK AT MOST 1048576: true; the input reads as it did. -/
def pathCleansUptoRow : OpenClaim := { program := "ytndoloohdloflaa", sum := "5a6dc4345a737d6f23f357d853b9128c5654980a072893157b3c041c7562c2b1", func := "anvil/anvillaw2.PathCleans", spec := "pathCleans", inPlace := ["internal/abi.NoEscape", "internal/bytealg.MakeNoZero", "internal/bytealg.IndexByteString", "internal/bytealg.IndexString"], unfollowed := true, recurses := true, named := ["internal/bytealg.MaxLen"], apart := false, narrowed := true }
def PathCleansUptoSaid : Prop := pathCleansUptoRow.holds Try.pinned (OpenSpec.upto pathCleansSpec)

/-- 'anvillaw15.RefsParses', WHERE WHAT IT READS IS OF BULK AT MOST 1048576: true; the input reads as it did. -/
def refsParsesUptoRow : OpenClaim := { program := "ytndoloohdloflaa", sum := "5a6dc4345a737d6f23f357d853b9128c5654980a072893157b3c041c7562c2b1", func := "anvil/anvillaw15.RefsParses", spec := "refsParses", inPlace := ["internal/bytealg.IndexByteString"], unfollowed := true, recurses := true, apart := false, narrowed := true }
def RefsParsesUptoSaid : Prop := refsParsesUptoRow.holds Try.pinned (OpenSpec.upto refsParsesSpec)

/-- 'anvillaw15.RefsScans', WHERE WHAT IT READS IS OF BULK AT MOST 1048576: true; the input reads as it did. -/
def refsScansUptoRow : OpenClaim := { program := "ytndoloohdloflaa", sum := "5a6dc4345a737d6f23f357d853b9128c5654980a072893157b3c041c7562c2b1", func := "anvil/anvillaw15.RefsScans", spec := "refsScans", inPlace := ["internal/bytealg.IndexByteString"], unfollowed := true, recurses := true, apart := false, narrowed := true }
def RefsScansUptoSaid : Prop := refsScansUptoRow.holds Try.pinned (OpenSpec.upto refsScansSpec)

/-- 'anvillaw15.RefsPlain', WHERE WHAT IT READS IS OF BULK AT MOST 1048576: true; the input reads as it did. -/
def refsPlainUptoRow : OpenClaim := { program := "ytndoloohdloflaa", sum := "5a6dc4345a737d6f23f357d853b9128c5654980a072893157b3c041c7562c2b1", func := "anvil/anvillaw15.RefsPlain", spec := "refsPlain", inPlace := ["internal/bytealg.IndexByteString"], unfollowed := true, recurses := true, apart := false, narrowed := true }
def RefsPlainUptoSaid : Prop := refsPlainUptoRow.holds Try.pinned (OpenSpec.upto refsPlainSpec)

/-- 'anvillaw15.RefsNames', WHERE WHAT IT READS IS OF BULK AT MOST 1048576: true; the input reads as it did. -/
def refsNamesUptoRow : OpenClaim := { program := "ytndoloohdloflaa", sum := "5a6dc4345a737d6f23f357d853b9128c5654980a072893157b3c041c7562c2b1", func := "anvil/anvillaw15.RefsNames", spec := "refsNames", inPlace := ["internal/bytealg.IndexByteString"], unfollowed := true, recurses := true, apart := false, narrowed := true }
def RefsNamesUptoSaid : Prop := refsNamesUptoRow.holds Try.pinned (OpenSpec.upto refsNamesSpec)

/-- 'anviltop.TopNames', WHERE WHAT IT READS IS OF BULK AT MOST 1048576: true; the input reads as it did. -/
def topNamesUptoRow : OpenClaim := { program := "ytndoloohdloflaa", sum := "5a6dc4345a737d6f23f357d853b9128c5654980a072893157b3c041c7562c2b1", func := "anvil/anviltop.TopNames", spec := "topNames", apart := false, narrowed := true }
def TopNamesUptoSaid : Prop := topNamesUptoRow.holds Try.pinned (OpenSpec.upto topNamesSpec)

/-- 'anvillaw14.VarsOrigins', WHERE WHAT IT READS IS OF BULK AT MOST 1048576: true; the input reads as it did. -/
def varsOriginsUptoRow : OpenClaim := { program := "ytndoloohdloflaa", sum := "5a6dc4345a737d6f23f357d853b9128c5654980a072893157b3c041c7562c2b1", func := "anvil/anvillaw14.VarsOrigins", spec := "varsOrigins", apart := false, narrowed := true }
def VarsOriginsUptoSaid : Prop := varsOriginsUptoRow.holds Try.pinned (OpenSpec.upto varsOriginsSpec)

end Rows
end Go.Proofs.Ytndoloohdloflaa
