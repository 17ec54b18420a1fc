/-
  No cell of these rows narrows 'for every input' (looked for: loops, veiled, ifaces, maps, wideKeys, modest, calm, conditions, laid).
  DERIVED. THE GIVEN ROWS OF THIS SEAT. 4 by the template 'for every input the law returns true; each argument reads behind the call as it read before'; 0 by the template 'total and deterministic' (their statements: YtnkkjfgelgdgcaaTotals.lean).
  GIVEN WITH THE SEED: the statements are not yours to turn. If you find one false, say at which input.
  Laid BY PROGRAM, IN A SANDBOX (cutbox-rows.mjs): the forced cells as the released guide's own fill.sh prints them over the translation 9b773332c2ea44ef… (all of the seat's roots in one cut). By AI agents, Wed Nov 11 2026. No macro, syntax, notation, axiom, sorry.
-/
import Derived.Test.YtnkkjfgelgdgcaaChecked
import GoSem.Claim
import GoSem.ClaimJoined
import GoSem.ClaimMapViews
import Derived.JoinedTies
import Derived.KernelRfl
namespace Go.Proofs.Ytnkkjfgelgdgcaa
/- THE CELL 'sum', in the pinned program and in every row, IS THE sha256 OF THE DUMP (.gsa) THAT YtnkkjfgelgdgcaaProg.lean LOADS. Nothing in Lean hashes anything: it is a label: what it is worth is what the hold of that sum in a sandbox is worth. -/
noncomputable def Try.pinned : Pinned := { name := "ytnkkjfgelgdgcaa", sum := "9b773332c2ea44ef5aae90791d157c0b2930588c21904cab6927847236deebed", checked := Try.checked }
namespace Rows
def none {H : Type} : Left H := { results := [], args := [] }

/-- 'strandlinelaw18.PolicyApart': WHATEVER THE INPUT: true; the input reads as it did. -/
def policyApartSpec : ChangeSpec := { name := "policyApart", fn := fun _ => fun
  | [d1, d2, d3, d4, d5] => { results := [.lit (.bool true)], args := [d1, d2, d3, d4, d5] }
  | _ => none }
def policyApartRow : OpenClaim := { program := "ytnkkjfgelgdgcaa", sum := "9b773332c2ea44ef5aae90791d157c0b2930588c21904cab6927847236deebed", func := "strandline/strandlinelaw18.PolicyApart", spec := "policyApart", apart := false }
def PolicyApartSaid : Prop := policyApartRow.holds Try.pinned (OpenSpec.ofChange policyApartSpec)

/-- ITS FALSE NEIGHBOUR: 'it returns false'. Refute it at one input. -/
def policyApartWrong : ChangeSpec := { name := "policyApart", fn := fun _ => fun
  | [d1, d2, d3, d4, d5] => { results := [.lit (.bool false)], args := [d1, d2, d3, d4, d5] }
  | _ => none }
def PolicyApartWrongFalsely : Prop := policyApartRow.holds Try.pinned (OpenSpec.ofChange policyApartWrong)

/-- 'strandlinelaw18.PolicyRests': WHATEVER THE INPUT: true; the input reads as it did. -/
def policyRestsSpec : ChangeSpec := { name := "policyRests", fn := fun _ => fun
  | [d1, d2, d3] => { results := [.lit (.bool true)], args := [d1, d2, d3] }
  | _ => none }
def policyRestsRow : OpenClaim := { program := "ytnkkjfgelgdgcaa", sum := "9b773332c2ea44ef5aae90791d157c0b2930588c21904cab6927847236deebed", func := "strandline/strandlinelaw18.PolicyRests", spec := "policyRests", apart := false }
def PolicyRestsSaid : Prop := policyRestsRow.holds Try.pinned (OpenSpec.ofChange policyRestsSpec)

/-- ITS FALSE NEIGHBOUR: 'it returns false'. Refute it at one input. -/
def policyRestsWrong : ChangeSpec := { name := "policyRests", fn := fun _ => fun
  | [d1, d2, d3] => { results := [.lit (.bool false)], args := [d1, d2, d3] }
  | _ => none }
def PolicyRestsWrongFalsely : Prop := policyRestsRow.holds Try.pinned (OpenSpec.ofChange policyRestsWrong)

/-- 'strandlinelaw18.PolicyHalves': WHATEVER THE INPUT: true; the input reads as it did. -/
def policyHalvesSpec : ChangeSpec := { name := "policyHalves", fn := fun _ => fun
  | [d1, d2] => { results := [.lit (.bool true)], args := [d1, d2] }
  | _ => none }
def policyHalvesRow : OpenClaim := { program := "ytnkkjfgelgdgcaa", sum := "9b773332c2ea44ef5aae90791d157c0b2930588c21904cab6927847236deebed", func := "strandline/strandlinelaw18.PolicyHalves", spec := "policyHalves", apart := false }
def PolicyHalvesSaid : Prop := policyHalvesRow.holds Try.pinned (OpenSpec.ofChange policyHalvesSpec)

/-- ITS FALSE NEIGHBOUR: 'it returns false'. Refute it at one input. -/
def policyHalvesWrong : ChangeSpec := { name := "policyHalves", fn := fun _ => fun
  | [d1, d2] => { results := [.lit (.bool false)], args := [d1, d2] }
  | _ => none }
def PolicyHalvesWrongFalsely : Prop := policyHalvesRow.holds Try.pinned (OpenSpec.ofChange policyHalvesWrong)

/-- 'strandlinelaw18.PolicyScript': WHATEVER THE INPUT: true; the input reads as it did. -/
def policyScriptSpec : ChangeSpec := { name := "policyScript", fn := fun _ => fun
  | [d1, d2, d3] => { results := [.lit (.bool true)], args := [d1, d2, d3] }
  | _ => none }
def policyScriptRow : OpenClaim := { program := "ytnkkjfgelgdgcaa", sum := "9b773332c2ea44ef5aae90791d157c0b2930588c21904cab6927847236deebed", func := "strandline/strandlinelaw18.PolicyScript", spec := "policyScript", apart := false }
def PolicyScriptSaid : Prop := policyScriptRow.holds Try.pinned (OpenSpec.ofChange policyScriptSpec)

/-- ITS FALSE NEIGHBOUR: 'it returns false'. Refute it at one input. -/
def policyScriptWrong : ChangeSpec := { name := "policyScript", fn := fun _ => fun
  | [d1, d2, d3] => { results := [.lit (.bool false)], args := [d1, d2, d3] }
  | _ => none }
def PolicyScriptWrongFalsely : Prop := policyScriptRow.holds Try.pinned (OpenSpec.ofChange policyScriptWrong)

/- THE SECOND FORM. 'bulk': how many values and letters a reading holds, each counted each time it is reached (what is shared counts as often as it is met; a slice's spare places count too). A statement '..UptoSaid' is the law's where the arguments, and the package variables that the reading takes, are together of bulk at most 1048576: NARROWER than '..Said'. Prove '..Said' where nothing that the law and all that it calls make is longer than what came in: it says more and counts as full. Else prove '..UptoSaid'. A law counts once. -/
mutual
def uptoBulk {H : Type} : DataW H → Nat
  | .lit (.string bytes) => bytes.length + 1
  | .lit _ => 1
  | .nil => 1
  | .ptr d => uptoBulk d + 1
  | .slice elems spare => uptoBulkAll elems + uptoBulkAll spare + 1
  | .agg parts => uptoBulkAll parts + 1
  | .iface _ d => uptoBulk d + 1
  | .map entries => uptoBulkEntries entries + 1
  | .held _ => 1
def uptoBulkAll {H : Type} : List (DataW H) → Nat
  | [] => 0
  | d :: r => uptoBulk d + uptoBulkAll r
def uptoBulkEntries {H : Type} : List (Lit × DataW H) → Nat
  | [] => 0
  | x :: r => uptoBulkEntry x + uptoBulkEntries r
def uptoBulkEntry {H : Type} : Lit × DataW H → Nat
  | (.string bytes, d) => bytes.length + uptoBulk d + 1
  | (_, d) => uptoBulk d + 1
 end
def uptoSmall : (H : Type) → List (DataW H) → Bool := fun _ ds => decide (uptoBulkAll ds ≤ 1048576)
def OpenSpec.upto (s : _root_.Go.ChangeSpec) : _root_.Go.OpenSpec := { _root_.Go.OpenSpec.ofChange s with cond := some uptoSmall }

/-- 'strandlinelaw18.PolicyApart', WHERE WHAT IT READS IS OF BULK AT MOST 1048576: true; the input reads as it did. -/
def policyApartUptoRow : OpenClaim := { program := "ytnkkjfgelgdgcaa", sum := "9b773332c2ea44ef5aae90791d157c0b2930588c21904cab6927847236deebed", func := "strandline/strandlinelaw18.PolicyApart", spec := "policyApart", apart := false, narrowed := true }
def PolicyApartUptoSaid : Prop := policyApartUptoRow.holds Try.pinned (OpenSpec.upto policyApartSpec)

/-- 'strandlinelaw18.PolicyRests', WHERE WHAT IT READS IS OF BULK AT MOST 1048576: true; the input reads as it did. -/
def policyRestsUptoRow : OpenClaim := { program := "ytnkkjfgelgdgcaa", sum := "9b773332c2ea44ef5aae90791d157c0b2930588c21904cab6927847236deebed", func := "strandline/strandlinelaw18.PolicyRests", spec := "policyRests", apart := false, narrowed := true }
def PolicyRestsUptoSaid : Prop := policyRestsUptoRow.holds Try.pinned (OpenSpec.upto policyRestsSpec)

/-- 'strandlinelaw18.PolicyHalves', WHERE WHAT IT READS IS OF BULK AT MOST 1048576: true; the input reads as it did. -/
def policyHalvesUptoRow : OpenClaim := { program := "ytnkkjfgelgdgcaa", sum := "9b773332c2ea44ef5aae90791d157c0b2930588c21904cab6927847236deebed", func := "strandline/strandlinelaw18.PolicyHalves", spec := "policyHalves", apart := false, narrowed := true }
def PolicyHalvesUptoSaid : Prop := policyHalvesUptoRow.holds Try.pinned (OpenSpec.upto policyHalvesSpec)

/-- 'strandlinelaw18.PolicyScript', WHERE WHAT IT READS IS OF BULK AT MOST 1048576: true; the input reads as it did. -/
def policyScriptUptoRow : OpenClaim := { program := "ytnkkjfgelgdgcaa", sum := "9b773332c2ea44ef5aae90791d157c0b2930588c21904cab6927847236deebed", func := "strandline/strandlinelaw18.PolicyScript", spec := "policyScript", apart := false, narrowed := true }
def PolicyScriptUptoSaid : Prop := policyScriptUptoRow.holds Try.pinned (OpenSpec.upto policyScriptSpec)

end Rows
end Go.Proofs.Ytnkkjfgelgdgcaa
