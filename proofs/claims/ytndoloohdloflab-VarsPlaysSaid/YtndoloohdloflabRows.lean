/-
  No cell of these rows narrows 'for every input' (looked for: loops, veiled, ifaces, maps, wideKeys, modest, calm, conditions, laid).
  DERIVED. THE GIVEN ROWS OF THIS SEAT. 9 by the template 'for every input the law returns true; each argument reads behind the call as it read before'; 0 by the template 'total and deterministic' (their statements: YtndoloohdloflabTotals.lean).
  GIVEN WITH THE SEED: the statements are not yours to turn. If you find one false, say at which input.
  Laid BY PROGRAM, IN A SANDBOX (cutbox-rows.mjs): the forced cells as the released guide's own fill.sh prints them over the translation 59aa17b80838f423… (all of the seat's roots in one cut). By AI agents, Wed Nov 11 2026. No macro, syntax, notation, axiom, sorry.
-/
import Derived.Test.YtndoloohdloflabChecked
import GoSem.Claim
import GoSem.ClaimJoined
import GoSem.ClaimMapViews
import Derived.JoinedTies
import Derived.KernelRfl
namespace Go.Proofs.Ytndoloohdloflab
/- THE CELL 'sum', in the pinned program and in every row, IS THE sha256 OF THE DUMP (.gsa) THAT YtndoloohdloflabProg.lean LOADS. Nothing in Lean hashes anything: it is a label: what it is worth is what the hold of that sum in a sandbox is worth. -/
noncomputable def Try.pinned : Pinned := { name := "ytndoloohdloflab", sum := "59aa17b80838f423bc5a95c516211b0b8e2e3486c9007022221925433a72a404", checked := Try.checked }
namespace Rows
def none {H : Type} : Left H := { results := [], args := [] }

/-- 'anvillaw1.TextNumbers': WHATEVER THE INPUT: true; the input reads as it did. -/
def textNumbersSpec : ChangeSpec := { name := "textNumbers", fn := fun _ => fun
  | [d1, d2] => { results := [.lit (.bool true)], args := [d1, d2] }
  | _ => none }
def textNumbersRow : OpenClaim := { program := "ytndoloohdloflab", sum := "59aa17b80838f423bc5a95c516211b0b8e2e3486c9007022221925433a72a404", func := "anvil/anvillaw1.TextNumbers", spec := "textNumbers", inPlace := ["internal/bytealg.IndexByteString", "internal/bytealg.IndexString", "internal/abi.NoEscape"], unfollowed := true, recurses := true, named := ["internal/bytealg.MaxLen"], apart := false }
def TextNumbersSaid : Prop := textNumbersRow.holds Try.pinned (OpenSpec.ofChange textNumbersSpec)

/-- ITS FALSE NEIGHBOUR: 'it returns false'. Refute it at one input. -/
def textNumbersWrong : ChangeSpec := { name := "textNumbers", fn := fun _ => fun
  | [d1, d2] => { results := [.lit (.bool false)], args := [d1, d2] }
  | _ => none }
def TextNumbersWrongFalsely : Prop := textNumbersRow.holds Try.pinned (OpenSpec.ofChange textNumbersWrong)

/-- 'anvillaw1.TextReplaces': WHATEVER THE INPUT: true; the input reads as it did. -/
def textReplacesSpec : ChangeSpec := { name := "textReplaces", fn := fun _ => fun
  | [d1, d2, d3] => { results := [.lit (.bool true)], args := [d1, d2, d3] }
  | _ => none }
def textReplacesRow : OpenClaim := { program := "ytndoloohdloflab", sum := "59aa17b80838f423bc5a95c516211b0b8e2e3486c9007022221925433a72a404", func := "anvil/anvillaw1.TextReplaces", spec := "textReplaces", inPlace := ["internal/bytealg.IndexByteString", "internal/bytealg.IndexString", "internal/abi.NoEscape"], unfollowed := true, recurses := true, named := ["internal/bytealg.MaxLen"], apart := false }
def TextReplacesSaid : Prop := textReplacesRow.holds Try.pinned (OpenSpec.ofChange textReplacesSpec)

/-- ITS FALSE NEIGHBOUR: 'it returns false'. Refute it at one input. -/
def textReplacesWrong : ChangeSpec := { name := "textReplaces", fn := fun _ => fun
  | [d1, d2, d3] => { results := [.lit (.bool false)], args := [d1, d2, d3] }
  | _ => none }
def TextReplacesWrongFalsely : Prop := textReplacesRow.holds Try.pinned (OpenSpec.ofChange textReplacesWrong)

/-- 'anvillaw1.TextEmpty': WHATEVER THE INPUT: true; the input reads as it did. -/
def textEmptySpec : ChangeSpec := { name := "textEmpty", fn := fun _ => fun
  | [d1, d2] => { results := [.lit (.bool true)], args := [d1, d2] }
  | _ => none }
def textEmptyRow : OpenClaim := { program := "ytndoloohdloflab", sum := "59aa17b80838f423bc5a95c516211b0b8e2e3486c9007022221925433a72a404", func := "anvil/anvillaw1.TextEmpty", spec := "textEmpty", inPlace := ["internal/bytealg.IndexByteString", "internal/bytealg.IndexString", "internal/abi.NoEscape"], unfollowed := true, recurses := true, named := ["internal/bytealg.MaxLen"], apart := false }
def TextEmptySaid : Prop := textEmptyRow.holds Try.pinned (OpenSpec.ofChange textEmptySpec)

/-- ITS FALSE NEIGHBOUR: 'it returns false'. Refute it at one input. -/
def textEmptyWrong : ChangeSpec := { name := "textEmpty", fn := fun _ => fun
  | [d1, d2] => { results := [.lit (.bool false)], args := [d1, d2] }
  | _ => none }
def TextEmptyWrongFalsely : Prop := textEmptyRow.holds Try.pinned (OpenSpec.ofChange textEmptyWrong)

/-- 'anvillaw1.TextWords': WHATEVER THE INPUT: true; the input reads as it did. -/
def textWordsSpec : ChangeSpec := { name := "textWords", fn := fun _ => fun
  | [d1, d2] => { results := [.lit (.bool true)], args := [d1, d2] }
  | _ => none }
def textWordsRow : OpenClaim := { program := "ytndoloohdloflab", sum := "59aa17b80838f423bc5a95c516211b0b8e2e3486c9007022221925433a72a404", func := "anvil/anvillaw1.TextWords", spec := "textWords", inPlace := ["internal/bytealg.IndexByteString", "internal/bytealg.IndexString", "internal/abi.NoEscape"], unfollowed := true, recurses := true, named := ["internal/bytealg.MaxLen"], apart := false }
def TextWordsSaid : Prop := textWordsRow.holds Try.pinned (OpenSpec.ofChange textWordsSpec)

/-- ITS FALSE NEIGHBOUR: 'it returns false'. Refute it at one input. -/
def textWordsWrong : ChangeSpec := { name := "textWords", fn := fun _ => fun
  | [d1, d2] => { results := [.lit (.bool false)], args := [d1, d2] }
  | _ => none }
def TextWordsWrongFalsely : Prop := textWordsRow.holds Try.pinned (OpenSpec.ofChange textWordsWrong)

/-- 'anvillaw1.TextJoins': WHATEVER THE INPUT: true; the input reads as it did. -/
def textJoinsSpec : ChangeSpec := { name := "textJoins", fn := fun _ => fun
  | [d] => { results := [.lit (.bool true)], args := [d] }
  | _ => none }
def textJoinsRow : OpenClaim := { program := "ytndoloohdloflab", sum := "59aa17b80838f423bc5a95c516211b0b8e2e3486c9007022221925433a72a404", func := "anvil/anvillaw1.TextJoins", spec := "textJoins", inPlace := ["internal/bytealg.IndexByteString", "internal/bytealg.IndexString", "internal/abi.NoEscape", "internal/bytealg.MakeNoZero"], unfollowed := true, recurses := true, named := ["internal/bytealg.MaxLen"], apart := false }
def TextJoinsSaid : Prop := textJoinsRow.holds Try.pinned (OpenSpec.ofChange textJoinsSpec)

/-- ITS FALSE NEIGHBOUR: 'it returns false'. Refute it at one input. -/
def textJoinsWrong : ChangeSpec := { name := "textJoins", fn := fun _ => fun
  | [d] => { results := [.lit (.bool false)], args := [d] }
  | _ => none }
def TextJoinsWrongFalsely : Prop := textJoinsRow.holds Try.pinned (OpenSpec.ofChange textJoinsWrong)

/-- 'anvillaw1.TextSorts': WHATEVER THE INPUT: true; the input reads as it did. -/
def textSortsSpec : ChangeSpec := { name := "textSorts", fn := fun _ => fun
  | [d] => { results := [.lit (.bool true)], args := [d] }
  | _ => none }
def textSortsRow : OpenClaim := { program := "ytndoloohdloflab", sum := "59aa17b80838f423bc5a95c516211b0b8e2e3486c9007022221925433a72a404", func := "anvil/anvillaw1.TextSorts", spec := "textSorts", inPlace := ["internal/bytealg.IndexByteString", "internal/bytealg.IndexString", "internal/abi.NoEscape"], unfollowed := true, recurses := true, named := ["internal/bytealg.MaxLen"], apart := false }
def TextSortsSaid : Prop := textSortsRow.holds Try.pinned (OpenSpec.ofChange textSortsSpec)

/-- ITS FALSE NEIGHBOUR: 'it returns false'. Refute it at one input. -/
def textSortsWrong : ChangeSpec := { name := "textSorts", fn := fun _ => fun
  | [d] => { results := [.lit (.bool false)], args := [d] }
  | _ => none }
def TextSortsWrongFalsely : Prop := textSortsRow.holds Try.pinned (OpenSpec.ofChange textSortsWrong)

/-- 'anvillaw14.VarsSpecial': WHATEVER THE INPUT: true; the input reads as it did. -/
def varsSpecialSpec : ChangeSpec := { name := "varsSpecial", fn := fun _ => fun
  | [d1, d2, d3] => { results := [.lit (.bool true)], args := [d1, d2, d3] }
  | _ => none }
def varsSpecialRow : OpenClaim := { program := "ytndoloohdloflab", sum := "59aa17b80838f423bc5a95c516211b0b8e2e3486c9007022221925433a72a404", func := "anvil/anvillaw14.VarsSpecial", spec := "varsSpecial", inPlace := ["internal/bytealg.IndexByteString", "internal/abi.NoEscape", "internal/bytealg.MakeNoZero"], unfollowed := true, recurses := true, apart := false }
def VarsSpecialSaid : Prop := varsSpecialRow.holds Try.pinned (OpenSpec.ofChange varsSpecialSpec)

/-- ITS FALSE NEIGHBOUR: 'it returns false'. Refute it at one input. -/
def varsSpecialWrong : ChangeSpec := { name := "varsSpecial", fn := fun _ => fun
  | [d1, d2, d3] => { results := [.lit (.bool false)], args := [d1, d2, d3] }
  | _ => none }
def VarsSpecialWrongFalsely : Prop := varsSpecialRow.holds Try.pinned (OpenSpec.ofChange varsSpecialWrong)

/-- 'anvillaw14.VarsMany': WHATEVER THE INPUT: true; the input reads as it did. -/
def varsManySpec : ChangeSpec := { name := "varsMany", fn := fun _ => fun
  | [d] => { results := [.lit (.bool true)], args := [d] }
  | _ => none }
def varsManyRow : OpenClaim := { program := "ytndoloohdloflab", sum := "59aa17b80838f423bc5a95c516211b0b8e2e3486c9007022221925433a72a404", func := "anvil/anvillaw14.VarsMany", spec := "varsMany", inPlace := ["internal/bytealg.abigen_runtime_cmpstring"], unfollowed := true, recurses := true, apart := false }
def VarsManySaid : Prop := varsManyRow.holds Try.pinned (OpenSpec.ofChange varsManySpec)

/-- ITS FALSE NEIGHBOUR: 'it returns false'. Refute it at one input. -/
def varsManyWrong : ChangeSpec := { name := "varsMany", fn := fun _ => fun
  | [d] => { results := [.lit (.bool false)], args := [d] }
  | _ => none }
def VarsManyWrongFalsely : Prop := varsManyRow.holds Try.pinned (OpenSpec.ofChange varsManyWrong)

/-- 'anvillaw14.VarsPlays': WHATEVER THE INPUT: true; the input reads as it did. -/
def varsPlaysSpec : ChangeSpec := { name := "varsPlays", fn := fun _ => fun
  | [d] => { results := [.lit (.bool true)], args := [d] }
  | _ => none }
def varsPlaysRow : OpenClaim := { program := "ytndoloohdloflab", sum := "59aa17b80838f423bc5a95c516211b0b8e2e3486c9007022221925433a72a404", func := "anvil/anvillaw14.VarsPlays", spec := "varsPlays", inPlace := ["internal/bytealg.abigen_runtime_cmpstring"], unfollowed := true, recurses := true, apart := false }
def VarsPlaysSaid : Prop := varsPlaysRow.holds Try.pinned (OpenSpec.ofChange varsPlaysSpec)

/-- ITS FALSE NEIGHBOUR: 'it returns false'. Refute it at one input. -/
def varsPlaysWrong : ChangeSpec := { name := "varsPlays", fn := fun _ => fun
  | [d] => { results := [.lit (.bool false)], args := [d] }
  | _ => none }
def VarsPlaysWrongFalsely : Prop := varsPlaysRow.holds Try.pinned (OpenSpec.ofChange varsPlaysWrong)

/- THE SECOND FORM. 'bulk': how many values and letters a reading holds, each counted each time it is reached (what is shared counts as often as it is met; a slice's spare places count too). A statement '..UptoSaid' is the law's where the arguments, and the package variables that the reading takes, are together of bulk at most 1048576: NARROWER than '..Said'. Prove '..Said' where nothing that the law and all that it calls make is longer than what came in: it says more and counts as full. Else prove '..UptoSaid'. A law counts once. -/
mutual
def uptoBulk {H : Type} : DataW H → Nat
  | .lit (.string bytes) => bytes.length + 1
  | .lit _ => 1
  | .nil => 1
  | .ptr d => uptoBulk d + 1
  | .slice elems spare => uptoBulkAll elems + uptoBulkAll spare + 1
  | .agg parts => uptoBulkAll parts + 1
  | .iface _ d => uptoBulk d + 1
  | .map entries => uptoBulkEntries entries + 1
  | .held _ => 1
def uptoBulkAll {H : Type} : List (DataW H) → Nat
  | [] => 0
  | d :: r => uptoBulk d + uptoBulkAll r
def uptoBulkEntries {H : Type} : List (Lit × DataW H) → Nat
  | [] => 0
  | x :: r => uptoBulkEntry x + uptoBulkEntries r
def uptoBulkEntry {H : Type} : Lit × DataW H → Nat
  | (.string bytes, d) => bytes.length + uptoBulk d + 1
  | (_, d) => uptoBulk d + 1
 end
def uptoSmall : (H : Type) → List (DataW H) → Bool := fun _ ds => decide (uptoBulkAll ds ≤ 1048576)
def OpenSpec.upto (s : _root_.Go.ChangeSpec) : _root_.Go.OpenSpec := { _root_.Go.OpenSpec.ofChange s with cond := some uptoSmall }

/-- 'anvillaw1.TextNumbers', WHERE WHAT IT READS IS OF BULK AT MOST 1048576: true; the input reads as it did. -/
def textNumbersUptoRow : OpenClaim := { program := "ytndoloohdloflab", sum := "59aa17b80838f423bc5a95c516211b0b8e2e3486c9007022221925433a72a404", func := "anvil/anvillaw1.TextNumbers", spec := "textNumbers", inPlace := ["internal/bytealg.IndexByteString", "internal/bytealg.IndexString", "internal/abi.NoEscape"], unfollowed := true, recurses := true, named := ["internal/bytealg.MaxLen"], apart := false, narrowed := true }
def TextNumbersUptoSaid : Prop := textNumbersUptoRow.holds Try.pinned (OpenSpec.upto textNumbersSpec)

/-- 'anvillaw1.TextReplaces', WHERE WHAT IT READS IS OF BULK AT MOST 1048576: true; the input reads as it did. -/
def textReplacesUptoRow : OpenClaim := { program := "ytndoloohdloflab", sum := "59aa17b80838f423bc5a95c516211b0b8e2e3486c9007022221925433a72a404", func := "anvil/anvillaw1.TextReplaces", spec := "textReplaces", inPlace := ["internal/bytealg.IndexByteString", "internal/bytealg.IndexString", "internal/abi.NoEscape"], unfollowed := true, recurses := true, named := ["internal/bytealg.MaxLen"], apart := false, narrowed := true }
def TextReplacesUptoSaid : Prop := textReplacesUptoRow.holds Try.pinned (OpenSpec.upto textReplacesSpec)

/-- 'anvillaw1.TextEmpty', WHERE WHAT IT READS IS OF BULK AT MOST 1048576: true; the input reads as it did. -/
def textEmptyUptoRow : OpenClaim := { program := "ytndoloohdloflab", sum := "59aa17b80838f423bc5a95c516211b0b8e2e3486c9007022221925433a72a404", func := "anvil/anvillaw1.TextEmpty", spec := "textEmpty", inPlace := ["internal/bytealg.IndexByteString", "internal/bytealg.IndexString", "internal/abi.NoEscape"], unfollowed := true, recurses := true, named := ["internal/bytealg.MaxLen"], apart := false, narrowed := true }
def TextEmptyUptoSaid : Prop := textEmptyUptoRow.holds Try.pinned (OpenSpec.upto textEmptySpec)

/-- 'anvillaw1.TextWords', WHERE WHAT IT READS IS OF BULK AT MOST 1048576: true; the input reads as it did. -/
def textWordsUptoRow : OpenClaim := { program := "ytndoloohdloflab", sum := "59aa17b80838f423bc5a95c516211b0b8e2e3486c9007022221925433a72a404", func := "anvil/anvillaw1.TextWords", spec := "textWords", inPlace := ["internal/bytealg.IndexByteString", "internal/bytealg.IndexString", "internal/abi.NoEscape"], unfollowed := true, recurses := true, named := ["internal/bytealg.MaxLen"], apart := false, narrowed := true }
def TextWordsUptoSaid : Prop := textWordsUptoRow.holds Try.pinned (OpenSpec.upto textWordsSpec)

/-- 'anvillaw1.TextJoins', WHERE WHAT IT READS IS OF BULK AT MOST 1048576: true; the input reads as it did. -/
def textJoinsUptoRow : OpenClaim := { program := "ytndoloohdloflab", sum := "59aa17b80838f423bc5a95c516211b0b8e2e3486c9007022221925433a72a404", func := "anvil/anvillaw1.TextJoins", spec := "textJoins", inPlace := ["internal/bytealg.IndexByteString", "internal/bytealg.IndexString", "internal/abi.NoEscape", "internal/bytealg.MakeNoZero"], unfollowed := true, recurses := true, named := ["internal/bytealg.MaxLen"], apart := false, narrowed := true }
def TextJoinsUptoSaid : Prop := textJoinsUptoRow.holds Try.pinned (OpenSpec.upto textJoinsSpec)

/-- 'anvillaw1.TextSorts', WHERE WHAT IT READS IS OF BULK AT MOST 1048576: true; the input reads as it did. -/
def textSortsUptoRow : OpenClaim := { program := "ytndoloohdloflab", sum := "59aa17b80838f423bc5a95c516211b0b8e2e3486c9007022221925433a72a404", func := "anvil/anvillaw1.TextSorts", spec := "textSorts", inPlace := ["internal/bytealg.IndexByteString", "internal/bytealg.IndexString", "internal/abi.NoEscape"], unfollowed := true, recurses := true, named := ["internal/bytealg.MaxLen"], apart := false, narrowed := true }
def TextSortsUptoSaid : Prop := textSortsUptoRow.holds Try.pinned (OpenSpec.upto textSortsSpec)

/-- 'anvillaw14.VarsSpecial', WHERE WHAT IT READS IS OF BULK AT MOST 1048576: true; the input reads as it did. -/
def varsSpecialUptoRow : OpenClaim := { program := "ytndoloohdloflab", sum := "59aa17b80838f423bc5a95c516211b0b8e2e3486c9007022221925433a72a404", func := "anvil/anvillaw14.VarsSpecial", spec := "varsSpecial", inPlace := ["internal/bytealg.IndexByteString", "internal/abi.NoEscape", "internal/bytealg.MakeNoZero"], unfollowed := true, recurses := true, apart := false, narrowed := true }
def VarsSpecialUptoSaid : Prop := varsSpecialUptoRow.holds Try.pinned (OpenSpec.upto varsSpecialSpec)

/-- 'anvillaw14.VarsMany', WHERE WHAT IT READS IS OF BULK AT MOST 1048576: true; the input reads as it did. -/
def varsManyUptoRow : OpenClaim := { program := "ytndoloohdloflab", sum := "59aa17b80838f423bc5a95c516211b0b8e2e3486c9007022221925433a72a404", func := "anvil/anvillaw14.VarsMany", spec := "varsMany", inPlace := ["internal/bytealg.abigen_runtime_cmpstring"], unfollowed := true, recurses := true, apart := false, narrowed := true }
def VarsManyUptoSaid : Prop := varsManyUptoRow.holds Try.pinned (OpenSpec.upto varsManySpec)

/-- 'anvillaw14.VarsPlays', WHERE WHAT IT READS IS OF BULK AT MOST 1048576: true; the input reads as it did. -/
def varsPlaysUptoRow : OpenClaim := { program := "ytndoloohdloflab", sum := "59aa17b80838f423bc5a95c516211b0b8e2e3486c9007022221925433a72a404", func := "anvil/anvillaw14.VarsPlays", spec := "varsPlays", inPlace := ["internal/bytealg.abigen_runtime_cmpstring"], unfollowed := true, recurses := true, apart := false, narrowed := true }
def VarsPlaysUptoSaid : Prop := varsPlaysUptoRow.holds Try.pinned (OpenSpec.upto varsPlaysSpec)

end Rows
end Go.Proofs.Ytndoloohdloflab
