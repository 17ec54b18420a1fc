/-
  No cell of these rows narrows 'for every input' (looked for: loops, veiled, ifaces, maps, wideKeys, modest, calm, conditions, laid).
  DERIVED. THE GIVEN ROWS OF THIS SEAT. 4 by the template 'for every input the law returns true; each argument reads behind the call as it read before'; 0 by the template 'total and deterministic' (their statements: YtjclcccjdnllgaaGreatTotals.lean).
  GIVEN WITH THE SEED: the statements are not yours to turn. If you find one false, say at which input.
  Laid BY PROGRAM, IN A SANDBOX (cutbox-rows.mjs): the forced cells as the released guide's own fill.sh prints them over the translation 0174f3944508a2cb… (all of the seat's roots in one cut). By AI agents, Wed Nov 11 2026. No macro, syntax, notation, axiom, sorry.
-/
import Derived.Test.YtjclcccjdnllgaaGreatChecked
import GoSem.Claim
import GoSem.ClaimJoined
import GoSem.ClaimMapViews
import Derived.JoinedTies
import Derived.KernelRfl
namespace Go.Proofs.YtjclcccjdnllgaaGreat
/- THE CELL 'sum', in the pinned program and in every row, IS THE sha256 OF THE DUMP (.gsa) THAT YtjclcccjdnllgaaGreatProg.lean LOADS. Nothing in Lean hashes anything: it is a label: what it is worth is what the hold of that sum in a sandbox is worth. -/
noncomputable def Tryz.pinned : Pinned := { name := "ytjclcccjdnllgaagreat", sum := "0174f3944508a2cb3c0a57d1af45e84bfb1379c738f4303ad88c6fb51cacc872", checked := Tryz.checked }
namespace Rows
def none {H : Type} : Left H := { results := [], args := [] }

/-- 'strandlinelaw19.ConvertUnits': WHATEVER THE INPUT: true; the input reads as it did. -/
def convertUnitsSpec : ChangeSpec := { name := "convertUnits", fn := fun _ => fun
  | [d] => { results := [.lit (.bool true)], args := [d] }
  | _ => none }
def convertUnitsRow : OpenClaim := { program := "ytjclcccjdnllgaagreat", sum := "0174f3944508a2cb3c0a57d1af45e84bfb1379c738f4303ad88c6fb51cacc872", func := "strandline/strandlinelaw19.ConvertUnits", spec := "convertUnits", inPlace := ["internal/abi.NoEscape"], unfollowed := true, recurses := true, apart := false }
def ConvertUnitsSaid : Prop := convertUnitsRow.holds Tryz.pinned (OpenSpec.ofChange convertUnitsSpec)

/-- ITS FALSE NEIGHBOUR: 'it returns false'. Refute it at one input. -/
def convertUnitsWrong : ChangeSpec := { name := "convertUnits", fn := fun _ => fun
  | [d] => { results := [.lit (.bool false)], args := [d] }
  | _ => none }
def ConvertUnitsWrongFalsely : Prop := convertUnitsRow.holds Tryz.pinned (OpenSpec.ofChange convertUnitsWrong)

/-- 'strandlinelaw19.ConvertReads': WHATEVER THE INPUT: true; the input reads as it did. -/
def convertReadsSpec : ChangeSpec := { name := "convertReads", fn := fun _ => fun
  | [d1, d2, d3] => { results := [.lit (.bool true)], args := [d1, d2, d3] }
  | _ => none }
def convertReadsRow : OpenClaim := { program := "ytjclcccjdnllgaagreat", sum := "0174f3944508a2cb3c0a57d1af45e84bfb1379c738f4303ad88c6fb51cacc872", func := "strandline/strandlinelaw19.ConvertReads", spec := "convertReads", inPlace := ["internal/abi.NoEscape"], unfollowed := true, recurses := true, apart := false }
def ConvertReadsSaid : Prop := convertReadsRow.holds Tryz.pinned (OpenSpec.ofChange convertReadsSpec)

/-- ITS FALSE NEIGHBOUR: 'it returns false'. Refute it at one input. -/
def convertReadsWrong : ChangeSpec := { name := "convertReads", fn := fun _ => fun
  | [d1, d2, d3] => { results := [.lit (.bool false)], args := [d1, d2, d3] }
  | _ => none }
def ConvertReadsWrongFalsely : Prop := convertReadsRow.holds Tryz.pinned (OpenSpec.ofChange convertReadsWrong)

/-- 'strandlinelaw19.ConvertSteps': WHATEVER THE INPUT: true; the input reads as it did. -/
def convertStepsSpec : ChangeSpec := { name := "convertSteps", fn := fun _ => fun
  | [d1, d2, d3] => { results := [.lit (.bool true)], args := [d1, d2, d3] }
  | _ => none }
def convertStepsRow : OpenClaim := { program := "ytjclcccjdnllgaagreat", sum := "0174f3944508a2cb3c0a57d1af45e84bfb1379c738f4303ad88c6fb51cacc872", func := "strandline/strandlinelaw19.ConvertSteps", spec := "convertSteps", inPlace := ["internal/abi.NoEscape"], unfollowed := true, recurses := true, apart := false }
def ConvertStepsSaid : Prop := convertStepsRow.holds Tryz.pinned (OpenSpec.ofChange convertStepsSpec)

/-- ITS FALSE NEIGHBOUR: 'it returns false'. Refute it at one input. -/
def convertStepsWrong : ChangeSpec := { name := "convertSteps", fn := fun _ => fun
  | [d1, d2, d3] => { results := [.lit (.bool false)], args := [d1, d2, d3] }
  | _ => none }
def ConvertStepsWrongFalsely : Prop := convertStepsRow.holds Tryz.pinned (OpenSpec.ofChange convertStepsWrong)

/-- 'strandlinelaw19.ConvertTurns': WHATEVER THE INPUT: true; the input reads as it did. -/
def convertTurnsSpec : ChangeSpec := { name := "convertTurns", fn := fun _ => fun
  | [d1, d2] => { results := [.lit (.bool true)], args := [d1, d2] }
  | _ => none }
def convertTurnsRow : OpenClaim := { program := "ytjclcccjdnllgaagreat", sum := "0174f3944508a2cb3c0a57d1af45e84bfb1379c738f4303ad88c6fb51cacc872", func := "strandline/strandlinelaw19.ConvertTurns", spec := "convertTurns", inPlace := ["internal/abi.NoEscape"], unfollowed := true, recurses := true, apart := false }
def ConvertTurnsSaid : Prop := convertTurnsRow.holds Tryz.pinned (OpenSpec.ofChange convertTurnsSpec)

/-- ITS FALSE NEIGHBOUR: 'it returns false'. Refute it at one input. -/
def convertTurnsWrong : ChangeSpec := { name := "convertTurns", fn := fun _ => fun
  | [d1, d2] => { results := [.lit (.bool false)], args := [d1, d2] }
  | _ => none }
def ConvertTurnsWrongFalsely : Prop := convertTurnsRow.holds Tryz.pinned (OpenSpec.ofChange convertTurnsWrong)

/- THE SECOND FORM. 'bulk': how many values and letters a reading holds, each counted each time it is reached (what is shared counts as often as it is met; a slice's spare places count too). A statement '..UptoSaid' is the law's where the arguments, and the package variables that the reading takes, are together of bulk at most 1048576: NARROWER than '..Said'. Prove '..Said' where nothing that the law and all that it calls make is longer than what came in: it says more and counts as full. Else prove '..UptoSaid'. A law counts once. -/
mutual
def uptoBulk {H : Type} : DataW H → Nat
  | .lit (.string bytes) => bytes.length + 1
  | .lit _ => 1
  | .nil => 1
  | .ptr d => uptoBulk d + 1
  | .slice elems spare => uptoBulkAll elems + uptoBulkAll spare + 1
  | .agg parts => uptoBulkAll parts + 1
  | .iface _ d => uptoBulk d + 1
  | .map entries => uptoBulkEntries entries + 1
  | .held _ => 1
def uptoBulkAll {H : Type} : List (DataW H) → Nat
  | [] => 0
  | d :: r => uptoBulk d + uptoBulkAll r
def uptoBulkEntries {H : Type} : List (Lit × DataW H) → Nat
  | [] => 0
  | x :: r => uptoBulkEntry x + uptoBulkEntries r
def uptoBulkEntry {H : Type} : Lit × DataW H → Nat
  | (.string bytes, d) => bytes.length + uptoBulk d + 1
  | (_, d) => uptoBulk d + 1
 end
def uptoSmall : (H : Type) → List (DataW H) → Bool := fun _ ds => decide (uptoBulkAll ds ≤ 1048576)
def OpenSpec.upto (s : _root_.Go.ChangeSpec) : _root_.Go.OpenSpec := { _root_.Go.OpenSpec.ofChange s with cond := some uptoSmall }

/-- 'strandlinelaw19.ConvertUnits', WHERE WHAT IT READS IS OF BULK AT MOST 1048576: true; the input reads as it did. -/
def convertUnitsUptoRow : OpenClaim := { program := "ytjclcccjdnllgaagreat", sum := "0174f3944508a2cb3c0a57d1af45e84bfb1379c738f4303ad88c6fb51cacc872", func := "strandline/strandlinelaw19.ConvertUnits", spec := "convertUnits", inPlace := ["internal/abi.NoEscape"], unfollowed := true, recurses := true, apart := false, narrowed := true }
def ConvertUnitsUptoSaid : Prop := convertUnitsUptoRow.holds Tryz.pinned (OpenSpec.upto convertUnitsSpec)

/-- 'strandlinelaw19.ConvertReads', WHERE WHAT IT READS IS OF BULK AT MOST 1048576: true; the input reads as it did. -/
def convertReadsUptoRow : OpenClaim := { program := "ytjclcccjdnllgaagreat", sum := "0174f3944508a2cb3c0a57d1af45e84bfb1379c738f4303ad88c6fb51cacc872", func := "strandline/strandlinelaw19.ConvertReads", spec := "convertReads", inPlace := ["internal/abi.NoEscape"], unfollowed := true, recurses := true, apart := false, narrowed := true }
def ConvertReadsUptoSaid : Prop := convertReadsUptoRow.holds Tryz.pinned (OpenSpec.upto convertReadsSpec)

/-- 'strandlinelaw19.ConvertSteps', WHERE WHAT IT READS IS OF BULK AT MOST 1048576: true; the input reads as it did. -/
def convertStepsUptoRow : OpenClaim := { program := "ytjclcccjdnllgaagreat", sum := "0174f3944508a2cb3c0a57d1af45e84bfb1379c738f4303ad88c6fb51cacc872", func := "strandline/strandlinelaw19.ConvertSteps", spec := "convertSteps", inPlace := ["internal/abi.NoEscape"], unfollowed := true, recurses := true, apart := false, narrowed := true }
def ConvertStepsUptoSaid : Prop := convertStepsUptoRow.holds Tryz.pinned (OpenSpec.upto convertStepsSpec)

/-- 'strandlinelaw19.ConvertTurns', WHERE WHAT IT READS IS OF BULK AT MOST 1048576: true; the input reads as it did. -/
def convertTurnsUptoRow : OpenClaim := { program := "ytjclcccjdnllgaagreat", sum := "0174f3944508a2cb3c0a57d1af45e84bfb1379c738f4303ad88c6fb51cacc872", func := "strandline/strandlinelaw19.ConvertTurns", spec := "convertTurns", inPlace := ["internal/abi.NoEscape"], unfollowed := true, recurses := true, apart := false, narrowed := true }
def ConvertTurnsUptoSaid : Prop := convertTurnsUptoRow.holds Tryz.pinned (OpenSpec.upto convertTurnsSpec)

end Rows
end Go.Proofs.YtjclcccjdnllgaaGreat
