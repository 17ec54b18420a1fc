/-
  No cell of these rows narrows 'for every input' (looked for: loops, veiled, ifaces, maps, wideKeys, modest, calm, conditions, laid).
  DERIVED. THE GIVEN ROWS OF THIS SEAT. 6 by the template 'for every input the law returns true; each argument reads behind the call as it read before'; 0 by the template 'total and deterministic' (their statements: YtgjbljhocedpfaaTotals.lean).
  GIVEN WITH THE SEED: the statements are not yours to turn. If you find one false, say at which input.
  Laid BY PROGRAM, IN A SANDBOX (cutbox-rows.mjs): the forced cells as the released guide's own fill.sh prints them over the translation 9f5de6191ef0d546… (all of the seat's roots in one cut). By AI agents, Wed Nov 11 2026. No macro, syntax, notation, axiom, sorry.
-/
import Derived.Test.YtgjbljhocedpfaaChecked
import GoSem.Claim
import GoSem.ClaimJoined
import GoSem.ClaimMapViews
import Derived.JoinedTies
import Derived.KernelRfl
namespace Go.Proofs.Ytgjbljhocedpfaa
/- THE CELL 'sum', in the pinned program and in every row, IS THE sha256 OF THE DUMP (.gsa) THAT YtgjbljhocedpfaaProg.lean LOADS. Nothing in Lean hashes anything: it is a label: what it is worth is what the hold of that sum in a sandbox is worth. -/
noncomputable def Try.pinned : Pinned := { name := "ytgjbljhocedpfaa", sum := "9f5de6191ef0d546f43de79fc35b75f356b1a2812823263ea218686fcac87cdb", checked := Try.checked }
namespace Rows
def none {H : Type} : Left H := { results := [], args := [] }

/-- 'strandlinelaw10.FilesOwn': WHATEVER THE INPUT: true; the input reads as it did. -/
def filesOwnSpec : ChangeSpec := { name := "filesOwn", fn := fun _ => fun
  | [d1, d2] => { results := [.lit (.bool true)], args := [d1, d2] }
  | _ => none }
def filesOwnRow : OpenClaim := { program := "ytgjbljhocedpfaa", sum := "9f5de6191ef0d546f43de79fc35b75f356b1a2812823263ea218686fcac87cdb", func := "strandline/strandlinelaw10.FilesOwn", spec := "filesOwn", inPlace := ["maps.clone"], unfollowed := true, recurses := true, apart := false }
def FilesOwnSaid : Prop := filesOwnRow.holds Try.pinned (OpenSpec.ofChange filesOwnSpec)

/-- ITS FALSE NEIGHBOUR: 'it returns false'. Refute it at one input. -/
def filesOwnWrong : ChangeSpec := { name := "filesOwn", fn := fun _ => fun
  | [d1, d2] => { results := [.lit (.bool false)], args := [d1, d2] }
  | _ => none }
def FilesOwnWrongFalsely : Prop := filesOwnRow.holds Try.pinned (OpenSpec.ofChange filesOwnWrong)

/-- 'strandlinelaw10.FilesMoved': WHATEVER THE INPUT: true; the input reads as it did. -/
def filesMovedSpec : ChangeSpec := { name := "filesMoved", fn := fun _ => fun
  | [d1, d2, d3] => { results := [.lit (.bool true)], args := [d1, d2, d3] }
  | _ => none }
def filesMovedRow : OpenClaim := { program := "ytgjbljhocedpfaa", sum := "9f5de6191ef0d546f43de79fc35b75f356b1a2812823263ea218686fcac87cdb", func := "strandline/strandlinelaw10.FilesMoved", spec := "filesMoved", inPlace := ["maps.clone"], unfollowed := true, recurses := true, apart := false }
def FilesMovedSaid : Prop := filesMovedRow.holds Try.pinned (OpenSpec.ofChange filesMovedSpec)

/-- ITS FALSE NEIGHBOUR: 'it returns false'. Refute it at one input. -/
def filesMovedWrong : ChangeSpec := { name := "filesMoved", fn := fun _ => fun
  | [d1, d2, d3] => { results := [.lit (.bool false)], args := [d1, d2, d3] }
  | _ => none }
def FilesMovedWrongFalsely : Prop := filesMovedRow.holds Try.pinned (OpenSpec.ofChange filesMovedWrong)

/-- 'strandlinelaw10.FilesKeeps': WHATEVER THE INPUT: true; the input reads as it did. -/
def filesKeepsSpec : ChangeSpec := { name := "filesKeeps", fn := fun _ => fun
  | [d1, d2, d3] => { results := [.lit (.bool true)], args := [d1, d2, d3] }
  | _ => none }
def filesKeepsRow : OpenClaim := { program := "ytgjbljhocedpfaa", sum := "9f5de6191ef0d546f43de79fc35b75f356b1a2812823263ea218686fcac87cdb", func := "strandline/strandlinelaw10.FilesKeeps", spec := "filesKeeps", inPlace := ["maps.clone"], unfollowed := true, recurses := true, apart := false }
def FilesKeepsSaid : Prop := filesKeepsRow.holds Try.pinned (OpenSpec.ofChange filesKeepsSpec)

/-- ITS FALSE NEIGHBOUR: 'it returns false'. Refute it at one input. -/
def filesKeepsWrong : ChangeSpec := { name := "filesKeeps", fn := fun _ => fun
  | [d1, d2, d3] => { results := [.lit (.bool false)], args := [d1, d2, d3] }
  | _ => none }
def FilesKeepsWrongFalsely : Prop := filesKeepsRow.holds Try.pinned (OpenSpec.ofChange filesKeepsWrong)

/-- 'strandlinelaw10.FilesGens': WHATEVER THE INPUT: true; the input reads as it did. -/
def filesGensSpec : ChangeSpec := { name := "filesGens", fn := fun _ => fun
  | [d1, d2] => { results := [.lit (.bool true)], args := [d1, d2] }
  | _ => none }
def filesGensRow : OpenClaim := { program := "ytgjbljhocedpfaa", sum := "9f5de6191ef0d546f43de79fc35b75f356b1a2812823263ea218686fcac87cdb", func := "strandline/strandlinelaw10.FilesGens", spec := "filesGens", inPlace := ["maps.clone"], unfollowed := true, recurses := true, apart := false }
def FilesGensSaid : Prop := filesGensRow.holds Try.pinned (OpenSpec.ofChange filesGensSpec)

/-- ITS FALSE NEIGHBOUR: 'it returns false'. Refute it at one input. -/
def filesGensWrong : ChangeSpec := { name := "filesGens", fn := fun _ => fun
  | [d1, d2] => { results := [.lit (.bool false)], args := [d1, d2] }
  | _ => none }
def FilesGensWrongFalsely : Prop := filesGensRow.holds Try.pinned (OpenSpec.ofChange filesGensWrong)

/-- 'strandlinelaw10.FilesCuts': WHATEVER THE INPUT: true; the input reads as it did. -/
def filesCutsSpec : ChangeSpec := { name := "filesCuts", fn := fun _ => fun
  | [d1, d2, d3, d4, d5] => { results := [.lit (.bool true)], args := [d1, d2, d3, d4, d5] }
  | _ => none }
def filesCutsRow : OpenClaim := { program := "ytgjbljhocedpfaa", sum := "9f5de6191ef0d546f43de79fc35b75f356b1a2812823263ea218686fcac87cdb", func := "strandline/strandlinelaw10.FilesCuts", spec := "filesCuts", inPlace := ["maps.clone"], unfollowed := true, recurses := true, apart := false }
def FilesCutsSaid : Prop := filesCutsRow.holds Try.pinned (OpenSpec.ofChange filesCutsSpec)

/-- ITS FALSE NEIGHBOUR: 'it returns false'. Refute it at one input. -/
def filesCutsWrong : ChangeSpec := { name := "filesCuts", fn := fun _ => fun
  | [d1, d2, d3, d4, d5] => { results := [.lit (.bool false)], args := [d1, d2, d3, d4, d5] }
  | _ => none }
def FilesCutsWrongFalsely : Prop := filesCutsRow.holds Try.pinned (OpenSpec.ofChange filesCutsWrong)

/-- 'strandlinelaw10.FilesRoom': WHATEVER THE INPUT: true; the input reads as it did. -/
def filesRoomSpec : ChangeSpec := { name := "filesRoom", fn := fun _ => fun
  | [d1, d2] => { results := [.lit (.bool true)], args := [d1, d2] }
  | _ => none }
def filesRoomRow : OpenClaim := { program := "ytgjbljhocedpfaa", sum := "9f5de6191ef0d546f43de79fc35b75f356b1a2812823263ea218686fcac87cdb", func := "strandline/strandlinelaw10.FilesRoom", spec := "filesRoom", inPlace := ["maps.clone"], unfollowed := true, recurses := true, apart := false }
def FilesRoomSaid : Prop := filesRoomRow.holds Try.pinned (OpenSpec.ofChange filesRoomSpec)

/-- ITS FALSE NEIGHBOUR: 'it returns false'. Refute it at one input. -/
def filesRoomWrong : ChangeSpec := { name := "filesRoom", fn := fun _ => fun
  | [d1, d2] => { results := [.lit (.bool false)], args := [d1, d2] }
  | _ => none }
def FilesRoomWrongFalsely : Prop := filesRoomRow.holds Try.pinned (OpenSpec.ofChange filesRoomWrong)

/- THE SECOND FORM. 'bulk': how many values and letters a reading holds, each counted each time it is reached (what is shared counts as often as it is met; a slice's spare places count too). A statement '..UptoSaid' is the law's where the arguments, and the package variables that the reading takes, are together of bulk at most 1048576: NARROWER than '..Said'. Prove '..Said' where nothing that the law and all that it calls make is longer than what came in: it says more and counts as full. Else prove '..UptoSaid'. A law counts once. -/
mutual
def uptoBulk {H : Type} : DataW H → Nat
  | .lit (.string bytes) => bytes.length + 1
  | .lit _ => 1
  | .nil => 1
  | .ptr d => uptoBulk d + 1
  | .slice elems spare => uptoBulkAll elems + uptoBulkAll spare + 1
  | .agg parts => uptoBulkAll parts + 1
  | .iface _ d => uptoBulk d + 1
  | .map entries => uptoBulkEntries entries + 1
  | .held _ => 1
def uptoBulkAll {H : Type} : List (DataW H) → Nat
  | [] => 0
  | d :: r => uptoBulk d + uptoBulkAll r
def uptoBulkEntries {H : Type} : List (Lit × DataW H) → Nat
  | [] => 0
  | x :: r => uptoBulkEntry x + uptoBulkEntries r
def uptoBulkEntry {H : Type} : Lit × DataW H → Nat
  | (.string bytes, d) => bytes.length + uptoBulk d + 1
  | (_, d) => uptoBulk d + 1
 end
def uptoSmall : (H : Type) → List (DataW H) → Bool := fun _ ds => decide (uptoBulkAll ds ≤ 1048576)
def OpenSpec.upto (s : _root_.Go.ChangeSpec) : _root_.Go.OpenSpec := { _root_.Go.OpenSpec.ofChange s with cond := some uptoSmall }

/-- 'strandlinelaw10.FilesOwn', WHERE WHAT IT READS IS OF BULK AT MOST 1048576: true; the input reads as it did. -/
def filesOwnUptoRow : OpenClaim := { program := "ytgjbljhocedpfaa", sum := "9f5de6191ef0d546f43de79fc35b75f356b1a2812823263ea218686fcac87cdb", func := "strandline/strandlinelaw10.FilesOwn", spec := "filesOwn", inPlace := ["maps.clone"], unfollowed := true, recurses := true, apart := false, narrowed := true }
def FilesOwnUptoSaid : Prop := filesOwnUptoRow.holds Try.pinned (OpenSpec.upto filesOwnSpec)

/-- 'strandlinelaw10.FilesMoved', WHERE WHAT IT READS IS OF BULK AT MOST 1048576: true; the input reads as it did. -/
def filesMovedUptoRow : OpenClaim := { program := "ytgjbljhocedpfaa", sum := "9f5de6191ef0d546f43de79fc35b75f356b1a2812823263ea218686fcac87cdb", func := "strandline/strandlinelaw10.FilesMoved", spec := "filesMoved", inPlace := ["maps.clone"], unfollowed := true, recurses := true, apart := false, narrowed := true }
def FilesMovedUptoSaid : Prop := filesMovedUptoRow.holds Try.pinned (OpenSpec.upto filesMovedSpec)

/-- 'strandlinelaw10.FilesKeeps', WHERE WHAT IT READS IS OF BULK AT MOST 1048576: true; the input reads as it did. -/
def filesKeepsUptoRow : OpenClaim := { program := "ytgjbljhocedpfaa", sum := "9f5de6191ef0d546f43de79fc35b75f356b1a2812823263ea218686fcac87cdb", func := "strandline/strandlinelaw10.FilesKeeps", spec := "filesKeeps", inPlace := ["maps.clone"], unfollowed := true, recurses := true, apart := false, narrowed := true }
def FilesKeepsUptoSaid : Prop := filesKeepsUptoRow.holds Try.pinned (OpenSpec.upto filesKeepsSpec)

/-- 'strandlinelaw10.FilesGens', WHERE WHAT IT READS IS OF BULK AT MOST 1048576: true; the input reads as it did. -/
def filesGensUptoRow : OpenClaim := { program := "ytgjbljhocedpfaa", sum := "9f5de6191ef0d546f43de79fc35b75f356b1a2812823263ea218686fcac87cdb", func := "strandline/strandlinelaw10.FilesGens", spec := "filesGens", inPlace := ["maps.clone"], unfollowed := true, recurses := true, apart := false, narrowed := true }
def FilesGensUptoSaid : Prop := filesGensUptoRow.holds Try.pinned (OpenSpec.upto filesGensSpec)

/-- 'strandlinelaw10.FilesCuts', WHERE WHAT IT READS IS OF BULK AT MOST 1048576: true; the input reads as it did. -/
def filesCutsUptoRow : OpenClaim := { program := "ytgjbljhocedpfaa", sum := "9f5de6191ef0d546f43de79fc35b75f356b1a2812823263ea218686fcac87cdb", func := "strandline/strandlinelaw10.FilesCuts", spec := "filesCuts", inPlace := ["maps.clone"], unfollowed := true, recurses := true, apart := false, narrowed := true }
def FilesCutsUptoSaid : Prop := filesCutsUptoRow.holds Try.pinned (OpenSpec.upto filesCutsSpec)

/-- 'strandlinelaw10.FilesRoom', WHERE WHAT IT READS IS OF BULK AT MOST 1048576: true; the input reads as it did. -/
def filesRoomUptoRow : OpenClaim := { program := "ytgjbljhocedpfaa", sum := "9f5de6191ef0d546f43de79fc35b75f356b1a2812823263ea218686fcac87cdb", func := "strandline/strandlinelaw10.FilesRoom", spec := "filesRoom", inPlace := ["maps.clone"], unfollowed := true, recurses := true, apart := false, narrowed := true }
def FilesRoomUptoSaid : Prop := filesRoomUptoRow.holds Try.pinned (OpenSpec.upto filesRoomSpec)

end Rows
end Go.Proofs.Ytgjbljhocedpfaa
