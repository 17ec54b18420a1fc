/-
  NARROWER THAN 'FOR EVERY INPUT', by the rows' own cells (each row's printed sentence says how): WalJoined: laid · WalReplays: laid · WalKeeps: laid.
  DERIVED. THE GIVEN ROWS OF THIS SEAT. 3 by the template 'for every input the law returns true; each argument reads behind the call as it read before'; 0 by the template 'total and deterministic' (their statements: YtijedkfekmopnaaGreatDoorTotals.lean).
  GIVEN WITH THE SEED: the statements are not yours to turn. If you find one false, say at which input.
  Laid BY PROGRAM, IN A SANDBOX (cutbox-rows.mjs): the forced cells as the released guide's own fill.sh prints them over the translation c347e7704ca746e0… (all of the seat's roots in one cut). By AI agents, Wed Nov 11 2026. No macro, syntax, notation, axiom, sorry.
-/
import Derived.Test.YtijedkfekmopnaaGreatDoorChecked
import GoSem.Claim
import GoSem.ClaimJoined
import GoSem.ClaimMapViews
import Derived.JoinedTies
import Derived.KernelRfl
namespace Go.Proofs.YtijedkfekmopnaaGreatDoor
/- THE CELL 'sum', in the pinned program and in every row, IS THE sha256 OF THE DUMP (.gsa) THAT YtijedkfekmopnaaGreatDoorProg.lean LOADS. Nothing in Lean hashes anything: it is a label: what it is worth is what the hold of that sum in a sandbox is worth. -/
noncomputable def Tryz.pinned : Pinned := { name := "ytijedkfekmopnaagreatdoor", sum := "c347e7704ca746e0f3cdce0583f4d551f35194337e1e192e864f10bd585fba66", checked := Tryz.checked }
namespace Rows
def none {H : Type} : Left H := { results := [], args := [] }

/- WHAT THE LISTED PACKAGE-LEVEL VARIABLES READ AS WHEN THE CALL BEGINS. Each datum BY PROGRAM (the guide's laid-datum.mjs) off the statement by which the dump's own 'gosem.cut.vars' lays the variable. In a bare row this is a premise. The card (YtijedkfekmopnaaGreatDoorCards.lean) ties it to the program's text. -/
def laid_strandline_frame_steps {H : Type} : DataW H := .agg [.lit (.int .u16 0), .lit (.int .u16 4129), .lit (.int .u16 8258), .lit (.int .u16 12387), .lit (.int .u16 16516), .lit (.int .u16 20645), .lit (.int .u16 24774), .lit (.int .u16 28903), .lit (.int .u16 33032), .lit (.int .u16 37161), .lit (.int .u16 41290), .lit (.int .u16 45419), .lit (.int .u16 49548), .lit (.int .u16 53677), .lit (.int .u16 57806), .lit (.int .u16 61935)]

/-- 'strandlinelaw11.WalJoined': WHATEVER THE INPUT: true; the input reads as it did. -/
def walJoinedSpec : ChangeSpec := { name := "walJoined", fn := fun _ => fun
  | [d1, d2] => { results := [.lit (.bool true)], args := [d1, d2] }
  | _ => none }
def walJoinedRow : OpenClaim := { program := "ytijedkfekmopnaagreatdoor", sum := "c347e7704ca746e0f3cdce0583f4d551f35194337e1e192e864f10bd585fba66", func := "strandline/strandlinelaw11.WalJoined", spec := "walJoined", inPlace := ["internal/abi.NoEscape", "internal/bytealg.MakeNoZero", "internal/bytealg.IndexByteString", "internal/bytealg.IndexString", "maps.clone"], unfollowed := true, recurses := true, named := ["internal/bytealg.MaxLen", "strandline/frame.steps"], apart := false, laid := [("strandline/frame.steps", laid_strandline_frame_steps)] }
def WalJoinedSaid : Prop := walJoinedRow.holds Tryz.pinned (OpenSpec.ofChange walJoinedSpec)

/-- ITS FALSE NEIGHBOUR: 'it returns false'. Refute it at one input. -/
def walJoinedWrong : ChangeSpec := { name := "walJoined", fn := fun _ => fun
  | [d1, d2] => { results := [.lit (.bool false)], args := [d1, d2] }
  | _ => none }
def WalJoinedWrongFalsely : Prop := walJoinedRow.holds Tryz.pinned (OpenSpec.ofChange walJoinedWrong)

/-- 'strandlinelaw11.WalReplays': WHATEVER THE INPUT: true; the input reads as it did. -/
def walReplaysSpec : ChangeSpec := { name := "walReplays", fn := fun _ => fun
  | [d] => { results := [.lit (.bool true)], args := [d] }
  | _ => none }
def walReplaysRow : OpenClaim := { program := "ytijedkfekmopnaagreatdoor", sum := "c347e7704ca746e0f3cdce0583f4d551f35194337e1e192e864f10bd585fba66", func := "strandline/strandlinelaw11.WalReplays", spec := "walReplays", inPlace := ["maps.clone", "internal/abi.NoEscape", "internal/bytealg.MakeNoZero", "internal/bytealg.IndexByteString", "internal/bytealg.IndexString"], unfollowed := true, recurses := true, named := ["strandline/frame.steps", "internal/bytealg.MaxLen"], apart := false, laid := [("strandline/frame.steps", laid_strandline_frame_steps)] }
def WalReplaysSaid : Prop := walReplaysRow.holds Tryz.pinned (OpenSpec.ofChange walReplaysSpec)

/-- ITS FALSE NEIGHBOUR: 'it returns false'. Refute it at one input. -/
def walReplaysWrong : ChangeSpec := { name := "walReplays", fn := fun _ => fun
  | [d] => { results := [.lit (.bool false)], args := [d] }
  | _ => none }
def WalReplaysWrongFalsely : Prop := walReplaysRow.holds Tryz.pinned (OpenSpec.ofChange walReplaysWrong)

/-- 'strandlinelaw11.WalKeeps': WHATEVER THE INPUT: true; the input reads as it did. -/
def walKeepsSpec : ChangeSpec := { name := "walKeeps", fn := fun _ => fun
  | [d1, d2, d3] => { results := [.lit (.bool true)], args := [d1, d2, d3] }
  | _ => none }
def walKeepsRow : OpenClaim := { program := "ytijedkfekmopnaagreatdoor", sum := "c347e7704ca746e0f3cdce0583f4d551f35194337e1e192e864f10bd585fba66", func := "strandline/strandlinelaw11.WalKeeps", spec := "walKeeps", inPlace := ["internal/abi.NoEscape", "internal/bytealg.MakeNoZero", "internal/bytealg.IndexByteString", "internal/bytealg.IndexString", "maps.clone"], unfollowed := true, recurses := true, named := ["internal/bytealg.MaxLen", "strandline/frame.steps"], apart := false, laid := [("strandline/frame.steps", laid_strandline_frame_steps)] }
def WalKeepsSaid : Prop := walKeepsRow.holds Tryz.pinned (OpenSpec.ofChange walKeepsSpec)

/-- ITS FALSE NEIGHBOUR: 'it returns false'. Refute it at one input. -/
def walKeepsWrong : ChangeSpec := { name := "walKeeps", fn := fun _ => fun
  | [d1, d2, d3] => { results := [.lit (.bool false)], args := [d1, d2, d3] }
  | _ => none }
def WalKeepsWrongFalsely : Prop := walKeepsRow.holds Tryz.pinned (OpenSpec.ofChange walKeepsWrong)

/- THE SECOND FORM. 'bulk': how many values and letters a reading holds, each counted each time it is reached (what is shared counts as often as it is met; a slice's spare places count too). A statement '..UptoSaid' is the law's where the arguments, and the package variables that the reading takes, are together of bulk at most 1048576: NARROWER than '..Said'. Prove '..Said' where nothing that the law and all that it calls make is longer than what came in: it says more and counts as full. Else prove '..UptoSaid'. A law counts once. -/
mutual
def uptoBulk {H : Type} : DataW H → Nat
  | .lit (.string bytes) => bytes.length + 1
  | .lit _ => 1
  | .nil => 1
  | .ptr d => uptoBulk d + 1
  | .slice elems spare => uptoBulkAll elems + uptoBulkAll spare + 1
  | .agg parts => uptoBulkAll parts + 1
  | .iface _ d => uptoBulk d + 1
  | .map entries => uptoBulkEntries entries + 1
  | .held _ => 1
def uptoBulkAll {H : Type} : List (DataW H) → Nat
  | [] => 0
  | d :: r => uptoBulk d + uptoBulkAll r
def uptoBulkEntries {H : Type} : List (Lit × DataW H) → Nat
  | [] => 0
  | x :: r => uptoBulkEntry x + uptoBulkEntries r
def uptoBulkEntry {H : Type} : Lit × DataW H → Nat
  | (.string bytes, d) => bytes.length + uptoBulk d + 1
  | (_, d) => uptoBulk d + 1
 end
def uptoSmall : (H : Type) → List (DataW H) → Bool := fun _ ds => decide (uptoBulkAll ds ≤ 1048576)
def OpenSpec.upto (s : _root_.Go.ChangeSpec) : _root_.Go.OpenSpec := { _root_.Go.OpenSpec.ofChange s with cond := some uptoSmall }

/-- 'strandlinelaw11.WalJoined', WHERE WHAT IT READS IS OF BULK AT MOST 1048576: true; the input reads as it did. -/
def walJoinedUptoRow : OpenClaim := { program := "ytijedkfekmopnaagreatdoor", sum := "c347e7704ca746e0f3cdce0583f4d551f35194337e1e192e864f10bd585fba66", func := "strandline/strandlinelaw11.WalJoined", spec := "walJoined", inPlace := ["internal/abi.NoEscape", "internal/bytealg.MakeNoZero", "internal/bytealg.IndexByteString", "internal/bytealg.IndexString", "maps.clone"], unfollowed := true, recurses := true, named := ["internal/bytealg.MaxLen", "strandline/frame.steps"], apart := false, laid := [("strandline/frame.steps", laid_strandline_frame_steps)], narrowed := true }
def WalJoinedUptoSaid : Prop := walJoinedUptoRow.holds Tryz.pinned (OpenSpec.upto walJoinedSpec)

/-- 'strandlinelaw11.WalReplays', WHERE WHAT IT READS IS OF BULK AT MOST 1048576: true; the input reads as it did. -/
def walReplaysUptoRow : OpenClaim := { program := "ytijedkfekmopnaagreatdoor", sum := "c347e7704ca746e0f3cdce0583f4d551f35194337e1e192e864f10bd585fba66", func := "strandline/strandlinelaw11.WalReplays", spec := "walReplays", inPlace := ["maps.clone", "internal/abi.NoEscape", "internal/bytealg.MakeNoZero", "internal/bytealg.IndexByteString", "internal/bytealg.IndexString"], unfollowed := true, recurses := true, named := ["strandline/frame.steps", "internal/bytealg.MaxLen"], apart := false, laid := [("strandline/frame.steps", laid_strandline_frame_steps)], narrowed := true }
def WalReplaysUptoSaid : Prop := walReplaysUptoRow.holds Tryz.pinned (OpenSpec.upto walReplaysSpec)

/-- 'strandlinelaw11.WalKeeps', WHERE WHAT IT READS IS OF BULK AT MOST 1048576: true; the input reads as it did. -/
def walKeepsUptoRow : OpenClaim := { program := "ytijedkfekmopnaagreatdoor", sum := "c347e7704ca746e0f3cdce0583f4d551f35194337e1e192e864f10bd585fba66", func := "strandline/strandlinelaw11.WalKeeps", spec := "walKeeps", inPlace := ["internal/abi.NoEscape", "internal/bytealg.MakeNoZero", "internal/bytealg.IndexByteString", "internal/bytealg.IndexString", "maps.clone"], unfollowed := true, recurses := true, named := ["internal/bytealg.MaxLen", "strandline/frame.steps"], apart := false, laid := [("strandline/frame.steps", laid_strandline_frame_steps)], narrowed := true }
def WalKeepsUptoSaid : Prop := walKeepsUptoRow.holds Tryz.pinned (OpenSpec.upto walKeepsSpec)

end Rows
end Go.Proofs.YtijedkfekmopnaaGreatDoor
