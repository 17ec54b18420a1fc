/-
  No cell of these rows narrows 'for every input' (looked for: loops, veiled, ifaces, maps, wideKeys, modest, calm, conditions, laid).
  DERIVED. THE GIVEN ROWS OF THIS SEAT. 8 by the template 'for every input the law returns true; each argument reads behind the call as it read before'; 0 by the template 'total and deterministic' (their statements: YtddfciphdbdemaaTotals.lean).
  GIVEN WITH THE SEED: the statements are not yours to turn. If you find one false, say at which input.
  Laid BY PROGRAM, IN A SANDBOX (cutbox-rows.mjs): the forced cells as the released guide's own fill.sh prints them over the translation 96593be4e19bfff0… (all of the seat's roots in one cut). By AI agents, Wed Nov 11 2026. No macro, syntax, notation, axiom, sorry.
-/
import Derived.Test.YtddfciphdbdemaaChecked
import GoSem.Claim
import GoSem.ClaimJoined
import GoSem.ClaimMapViews
import Derived.JoinedTies
import Derived.KernelRfl
namespace Go.Proofs.Ytddfciphdbdemaa
/- THE CELL 'sum', in the pinned program and in every row, IS THE sha256 OF THE DUMP (.gsa) THAT YtddfciphdbdemaaProg.lean LOADS. Nothing in Lean hashes anything: it is a label: what it is worth is what the hold of that sum in a sandbox is worth. -/
noncomputable def Try.pinned : Pinned := { name := "ytddfciphdbdemaa", sum := "96593be4e19bfff0e1548f4be42428d477fd890053c944dd05ec6e57fa52e83e", checked := Try.checked }
namespace Rows
def none {H : Type} : Left H := { results := [], args := [] }

/-- 'strandlinelaw07.IndexAdds': WHATEVER THE INPUT: true; the input reads as it did. -/
def indexAddsSpec : ChangeSpec := { name := "indexAdds", fn := fun _ => fun
  | [d1, d2] => { results := [.lit (.bool true)], args := [d1, d2] }
  | _ => none }
def indexAddsRow : OpenClaim := { program := "ytddfciphdbdemaa", sum := "96593be4e19bfff0e1548f4be42428d477fd890053c944dd05ec6e57fa52e83e", func := "strandline/strandlinelaw07.IndexAdds", spec := "indexAdds", inPlace := ["internal/abi.NoEscape"], apart := false }
def IndexAddsSaid : Prop := indexAddsRow.holds Try.pinned (OpenSpec.ofChange indexAddsSpec)

/-- ITS FALSE NEIGHBOUR: 'it returns false'. Refute it at one input. -/
def indexAddsWrong : ChangeSpec := { name := "indexAdds", fn := fun _ => fun
  | [d1, d2] => { results := [.lit (.bool false)], args := [d1, d2] }
  | _ => none }
def IndexAddsWrongFalsely : Prop := indexAddsRow.holds Try.pinned (OpenSpec.ofChange indexAddsWrong)

/-- 'strandlinelaw07.IndexSelects': WHATEVER THE INPUT: true; the input reads as it did. -/
def indexSelectsSpec : ChangeSpec := { name := "indexSelects", fn := fun _ => fun
  | [d1, d2] => { results := [.lit (.bool true)], args := [d1, d2] }
  | _ => none }
def indexSelectsRow : OpenClaim := { program := "ytddfciphdbdemaa", sum := "96593be4e19bfff0e1548f4be42428d477fd890053c944dd05ec6e57fa52e83e", func := "strandline/strandlinelaw07.IndexSelects", spec := "indexSelects", inPlace := ["internal/abi.NoEscape"], unfollowed := true, recurses := true, apart := false }
def IndexSelectsSaid : Prop := indexSelectsRow.holds Try.pinned (OpenSpec.ofChange indexSelectsSpec)

/-- ITS FALSE NEIGHBOUR: 'it returns false'. Refute it at one input. -/
def indexSelectsWrong : ChangeSpec := { name := "indexSelects", fn := fun _ => fun
  | [d1, d2] => { results := [.lit (.bool false)], args := [d1, d2] }
  | _ => none }
def IndexSelectsWrongFalsely : Prop := indexSelectsRow.holds Try.pinned (OpenSpec.ofChange indexSelectsWrong)

/-- 'strandlinelaw07.IndexParts': WHATEVER THE INPUT: true; the input reads as it did. -/
def indexPartsSpec : ChangeSpec := { name := "indexParts", fn := fun _ => fun
  | [d1, d2, d3] => { results := [.lit (.bool true)], args := [d1, d2, d3] }
  | _ => none }
def indexPartsRow : OpenClaim := { program := "ytddfciphdbdemaa", sum := "96593be4e19bfff0e1548f4be42428d477fd890053c944dd05ec6e57fa52e83e", func := "strandline/strandlinelaw07.IndexParts", spec := "indexParts", inPlace := ["internal/abi.NoEscape"], unfollowed := true, recurses := true, apart := false }
def IndexPartsSaid : Prop := indexPartsRow.holds Try.pinned (OpenSpec.ofChange indexPartsSpec)

/-- ITS FALSE NEIGHBOUR: 'it returns false'. Refute it at one input. -/
def indexPartsWrong : ChangeSpec := { name := "indexParts", fn := fun _ => fun
  | [d1, d2, d3] => { results := [.lit (.bool false)], args := [d1, d2, d3] }
  | _ => none }
def IndexPartsWrongFalsely : Prop := indexPartsRow.holds Try.pinned (OpenSpec.ofChange indexPartsWrong)

/-- 'strandlinelaw07.IndexBoth': WHATEVER THE INPUT: true; the input reads as it did. -/
def indexBothSpec : ChangeSpec := { name := "indexBoth", fn := fun _ => fun
  | [d1, d2, d3] => { results := [.lit (.bool true)], args := [d1, d2, d3] }
  | _ => none }
def indexBothRow : OpenClaim := { program := "ytddfciphdbdemaa", sum := "96593be4e19bfff0e1548f4be42428d477fd890053c944dd05ec6e57fa52e83e", func := "strandline/strandlinelaw07.IndexBoth", spec := "indexBoth", inPlace := ["internal/abi.NoEscape"], unfollowed := true, recurses := true, apart := false }
def IndexBothSaid : Prop := indexBothRow.holds Try.pinned (OpenSpec.ofChange indexBothSpec)

/-- ITS FALSE NEIGHBOUR: 'it returns false'. Refute it at one input. -/
def indexBothWrong : ChangeSpec := { name := "indexBoth", fn := fun _ => fun
  | [d1, d2, d3] => { results := [.lit (.bool false)], args := [d1, d2, d3] }
  | _ => none }
def IndexBothWrongFalsely : Prop := indexBothRow.holds Try.pinned (OpenSpec.ofChange indexBothWrong)

/-- 'strandlinelaw07.IndexTwice': WHATEVER THE INPUT: true; the input reads as it did. -/
def indexTwiceSpec : ChangeSpec := { name := "indexTwice", fn := fun _ => fun
  | [d1, d2] => { results := [.lit (.bool true)], args := [d1, d2] }
  | _ => none }
def indexTwiceRow : OpenClaim := { program := "ytddfciphdbdemaa", sum := "96593be4e19bfff0e1548f4be42428d477fd890053c944dd05ec6e57fa52e83e", func := "strandline/strandlinelaw07.IndexTwice", spec := "indexTwice", inPlace := ["internal/abi.NoEscape", "internal/bytealg.MakeNoZero"], unfollowed := true, recurses := true, apart := false }
def IndexTwiceSaid : Prop := indexTwiceRow.holds Try.pinned (OpenSpec.ofChange indexTwiceSpec)

/-- ITS FALSE NEIGHBOUR: 'it returns false'. Refute it at one input. -/
def indexTwiceWrong : ChangeSpec := { name := "indexTwice", fn := fun _ => fun
  | [d1, d2] => { results := [.lit (.bool false)], args := [d1, d2] }
  | _ => none }
def IndexTwiceWrongFalsely : Prop := indexTwiceRow.holds Try.pinned (OpenSpec.ofChange indexTwiceWrong)

/-- 'strandlinelaw07.IndexBack': WHATEVER THE INPUT: true; the input reads as it did. -/
def indexBackSpec : ChangeSpec := { name := "indexBack", fn := fun _ => fun
  | [d1, d2] => { results := [.lit (.bool true)], args := [d1, d2] }
  | _ => none }
def indexBackRow : OpenClaim := { program := "ytddfciphdbdemaa", sum := "96593be4e19bfff0e1548f4be42428d477fd890053c944dd05ec6e57fa52e83e", func := "strandline/strandlinelaw07.IndexBack", spec := "indexBack", inPlace := ["internal/abi.NoEscape", "internal/bytealg.MakeNoZero", "internal/bytealg.IndexByteString", "internal/bytealg.IndexString"], named := ["internal/bytealg.MaxLen"], apart := false }
def IndexBackSaid : Prop := indexBackRow.holds Try.pinned (OpenSpec.ofChange indexBackSpec)

/-- ITS FALSE NEIGHBOUR: 'it returns false'. Refute it at one input. -/
def indexBackWrong : ChangeSpec := { name := "indexBack", fn := fun _ => fun
  | [d1, d2] => { results := [.lit (.bool false)], args := [d1, d2] }
  | _ => none }
def IndexBackWrongFalsely : Prop := indexBackRow.holds Try.pinned (OpenSpec.ofChange indexBackWrong)

/-- 'strandlinelaw07.IndexDecodes': WHATEVER THE INPUT: true; the input reads as it did. -/
def indexDecodesSpec : ChangeSpec := { name := "indexDecodes", fn := fun _ => fun
  | [d] => { results := [.lit (.bool true)], args := [d] }
  | _ => none }
def indexDecodesRow : OpenClaim := { program := "ytddfciphdbdemaa", sum := "96593be4e19bfff0e1548f4be42428d477fd890053c944dd05ec6e57fa52e83e", func := "strandline/strandlinelaw07.IndexDecodes", spec := "indexDecodes", inPlace := ["internal/bytealg.IndexByteString", "internal/bytealg.IndexString", "internal/abi.NoEscape", "internal/bytealg.MakeNoZero"], named := ["internal/bytealg.MaxLen"], apart := false }
def IndexDecodesSaid : Prop := indexDecodesRow.holds Try.pinned (OpenSpec.ofChange indexDecodesSpec)

/-- ITS FALSE NEIGHBOUR: 'it returns false'. Refute it at one input. -/
def indexDecodesWrong : ChangeSpec := { name := "indexDecodes", fn := fun _ => fun
  | [d] => { results := [.lit (.bool false)], args := [d] }
  | _ => none }
def IndexDecodesWrongFalsely : Prop := indexDecodesRow.holds Try.pinned (OpenSpec.ofChange indexDecodesWrong)

/-- 'strandlinelaw07.IndexNames': WHATEVER THE INPUT: true; the input reads as it did. -/
def indexNamesSpec : ChangeSpec := { name := "indexNames", fn := fun _ => fun
  | [d1, d2] => { results := [.lit (.bool true)], args := [d1, d2] }
  | _ => none }
def indexNamesRow : OpenClaim := { program := "ytddfciphdbdemaa", sum := "96593be4e19bfff0e1548f4be42428d477fd890053c944dd05ec6e57fa52e83e", func := "strandline/strandlinelaw07.IndexNames", spec := "indexNames", inPlace := ["internal/abi.NoEscape"], unfollowed := true, recurses := true, apart := false }
def IndexNamesSaid : Prop := indexNamesRow.holds Try.pinned (OpenSpec.ofChange indexNamesSpec)

/-- ITS FALSE NEIGHBOUR: 'it returns false'. Refute it at one input. -/
def indexNamesWrong : ChangeSpec := { name := "indexNames", fn := fun _ => fun
  | [d1, d2] => { results := [.lit (.bool false)], args := [d1, d2] }
  | _ => none }
def IndexNamesWrongFalsely : Prop := indexNamesRow.holds Try.pinned (OpenSpec.ofChange indexNamesWrong)

/- THE SECOND FORM. 'bulk': how many values and letters a reading holds, each counted each time it is reached (what is shared counts as often as it is met; a slice's spare places count too). A statement '..UptoSaid' is the law's where the arguments, and the package variables that the reading takes, are together of bulk at most 1048576: NARROWER than '..Said'. Prove '..Said' where nothing that the law and all that it calls make is longer than what came in: it says more and counts as full. Else prove '..UptoSaid'. A law counts once. -/
mutual
def uptoBulk {H : Type} : DataW H → Nat
  | .lit (.string bytes) => bytes.length + 1
  | .lit _ => 1
  | .nil => 1
  | .ptr d => uptoBulk d + 1
  | .slice elems spare => uptoBulkAll elems + uptoBulkAll spare + 1
  | .agg parts => uptoBulkAll parts + 1
  | .iface _ d => uptoBulk d + 1
  | .map entries => uptoBulkEntries entries + 1
  | .held _ => 1
def uptoBulkAll {H : Type} : List (DataW H) → Nat
  | [] => 0
  | d :: r => uptoBulk d + uptoBulkAll r
def uptoBulkEntries {H : Type} : List (Lit × DataW H) → Nat
  | [] => 0
  | x :: r => uptoBulkEntry x + uptoBulkEntries r
def uptoBulkEntry {H : Type} : Lit × DataW H → Nat
  | (.string bytes, d) => bytes.length + uptoBulk d + 1
  | (_, d) => uptoBulk d + 1
 end
def uptoSmall : (H : Type) → List (DataW H) → Bool := fun _ ds => decide (uptoBulkAll ds ≤ 1048576)
def OpenSpec.upto (s : _root_.Go.ChangeSpec) : _root_.Go.OpenSpec := { _root_.Go.OpenSpec.ofChange s with cond := some uptoSmall }

/-- 'strandlinelaw07.IndexAdds', WHERE WHAT IT READS IS OF BULK AT MOST 1048576: true; the input reads as it did. -/
def indexAddsUptoRow : OpenClaim := { program := "ytddfciphdbdemaa", sum := "96593be4e19bfff0e1548f4be42428d477fd890053c944dd05ec6e57fa52e83e", func := "strandline/strandlinelaw07.IndexAdds", spec := "indexAdds", inPlace := ["internal/abi.NoEscape"], apart := false, narrowed := true }
def IndexAddsUptoSaid : Prop := indexAddsUptoRow.holds Try.pinned (OpenSpec.upto indexAddsSpec)

/-- 'strandlinelaw07.IndexSelects', WHERE WHAT IT READS IS OF BULK AT MOST 1048576: true; the input reads as it did. -/
def indexSelectsUptoRow : OpenClaim := { program := "ytddfciphdbdemaa", sum := "96593be4e19bfff0e1548f4be42428d477fd890053c944dd05ec6e57fa52e83e", func := "strandline/strandlinelaw07.IndexSelects", spec := "indexSelects", inPlace := ["internal/abi.NoEscape"], unfollowed := true, recurses := true, apart := false, narrowed := true }
def IndexSelectsUptoSaid : Prop := indexSelectsUptoRow.holds Try.pinned (OpenSpec.upto indexSelectsSpec)

/-- 'strandlinelaw07.IndexParts', WHERE WHAT IT READS IS OF BULK AT MOST 1048576: true; the input reads as it did. -/
def indexPartsUptoRow : OpenClaim := { program := "ytddfciphdbdemaa", sum := "96593be4e19bfff0e1548f4be42428d477fd890053c944dd05ec6e57fa52e83e", func := "strandline/strandlinelaw07.IndexParts", spec := "indexParts", inPlace := ["internal/abi.NoEscape"], unfollowed := true, recurses := true, apart := false, narrowed := true }
def IndexPartsUptoSaid : Prop := indexPartsUptoRow.holds Try.pinned (OpenSpec.upto indexPartsSpec)

/-- 'strandlinelaw07.IndexBoth', WHERE WHAT IT READS IS OF BULK AT MOST 1048576: true; the input reads as it did. -/
def indexBothUptoRow : OpenClaim := { program := "ytddfciphdbdemaa", sum := "96593be4e19bfff0e1548f4be42428d477fd890053c944dd05ec6e57fa52e83e", func := "strandline/strandlinelaw07.IndexBoth", spec := "indexBoth", inPlace := ["internal/abi.NoEscape"], unfollowed := true, recurses := true, apart := false, narrowed := true }
def IndexBothUptoSaid : Prop := indexBothUptoRow.holds Try.pinned (OpenSpec.upto indexBothSpec)

/-- 'strandlinelaw07.IndexTwice', WHERE WHAT IT READS IS OF BULK AT MOST 1048576: true; the input reads as it did. -/
def indexTwiceUptoRow : OpenClaim := { program := "ytddfciphdbdemaa", sum := "96593be4e19bfff0e1548f4be42428d477fd890053c944dd05ec6e57fa52e83e", func := "strandline/strandlinelaw07.IndexTwice", spec := "indexTwice", inPlace := ["internal/abi.NoEscape", "internal/bytealg.MakeNoZero"], unfollowed := true, recurses := true, apart := false, narrowed := true }
def IndexTwiceUptoSaid : Prop := indexTwiceUptoRow.holds Try.pinned (OpenSpec.upto indexTwiceSpec)

/-- 'strandlinelaw07.IndexBack', WHERE WHAT IT READS IS OF BULK AT MOST 1048576: true; the input reads as it did. -/
def indexBackUptoRow : OpenClaim := { program := "ytddfciphdbdemaa", sum := "96593be4e19bfff0e1548f4be42428d477fd890053c944dd05ec6e57fa52e83e", func := "strandline/strandlinelaw07.IndexBack", spec := "indexBack", inPlace := ["internal/abi.NoEscape", "internal/bytealg.MakeNoZero", "internal/bytealg.IndexByteString", "internal/bytealg.IndexString"], named := ["internal/bytealg.MaxLen"], apart := false, narrowed := true }
def IndexBackUptoSaid : Prop := indexBackUptoRow.holds Try.pinned (OpenSpec.upto indexBackSpec)

/-- 'strandlinelaw07.IndexDecodes', WHERE WHAT IT READS IS OF BULK AT MOST 1048576: true; the input reads as it did. -/
def indexDecodesUptoRow : OpenClaim := { program := "ytddfciphdbdemaa", sum := "96593be4e19bfff0e1548f4be42428d477fd890053c944dd05ec6e57fa52e83e", func := "strandline/strandlinelaw07.IndexDecodes", spec := "indexDecodes", inPlace := ["internal/bytealg.IndexByteString", "internal/bytealg.IndexString", "internal/abi.NoEscape", "internal/bytealg.MakeNoZero"], named := ["internal/bytealg.MaxLen"], apart := false, narrowed := true }
def IndexDecodesUptoSaid : Prop := indexDecodesUptoRow.holds Try.pinned (OpenSpec.upto indexDecodesSpec)

/-- 'strandlinelaw07.IndexNames', WHERE WHAT IT READS IS OF BULK AT MOST 1048576: true; the input reads as it did. -/
def indexNamesUptoRow : OpenClaim := { program := "ytddfciphdbdemaa", sum := "96593be4e19bfff0e1548f4be42428d477fd890053c944dd05ec6e57fa52e83e", func := "strandline/strandlinelaw07.IndexNames", spec := "indexNames", inPlace := ["internal/abi.NoEscape"], unfollowed := true, recurses := true, apart := false, narrowed := true }
def IndexNamesUptoSaid : Prop := indexNamesUptoRow.holds Try.pinned (OpenSpec.upto indexNamesSpec)

end Rows
end Go.Proofs.Ytddfciphdbdemaa
