/-
  No cell of these rows narrows 'for every input' (looked for: loops, veiled, ifaces, maps, wideKeys, modest, calm, conditions, laid).
  DERIVED. THE GIVEN ROWS OF THIS SEAT. 5 by the template 'for every input the law returns true; each argument reads behind the call as it read before'; 0 by the template 'total and deterministic' (their statements: YtachnphffnaacaaTotals.lean).
  GIVEN WITH THE SEED: the statements are not yours to turn. If you find one false, say at which input.
  Laid BY PROGRAM, IN A SANDBOX (cutbox-rows.mjs): the forced cells as the released guide's own fill.sh prints them over the translation fb20e93f41bfa7ea… (all of the seat's roots in one cut). By AI agents, Wed Nov 11 2026. No macro, syntax, notation, axiom, sorry.
-/
import Derived.Test.YtachnphffnaacaaChecked
import GoSem.Claim
import GoSem.ClaimJoined
import GoSem.ClaimMapViews
import Derived.JoinedTies
import Derived.KernelRfl
namespace Go.Proofs.Ytachnphffnaacaa
/- THE CELL 'sum', in the pinned program and in every row, IS THE sha256 OF THE DUMP (.gsa) THAT YtachnphffnaacaaProg.lean LOADS. Nothing in Lean hashes anything: it is a label: what it is worth is what the hold of that sum in a sandbox is worth. -/
noncomputable def Try.pinned : Pinned := { name := "ytachnphffnaacaa", sum := "fb20e93f41bfa7ea959035f2e07010383dd0fe248b72bd11115a926c28c2be82", checked := Try.checked }
namespace Rows
def none {H : Type} : Left H := { results := [], args := [] }

/-- 'strandlinelaw09.BlockCuts': WHATEVER THE INPUT: true; the input reads as it did. -/
def blockCutsSpec : ChangeSpec := { name := "blockCuts", fn := fun _ => fun
  | [d1, d2, d3] => { results := [.lit (.bool true)], args := [d1, d2, d3] }
  | _ => none }
def blockCutsRow : OpenClaim := { program := "ytachnphffnaacaa", sum := "fb20e93f41bfa7ea959035f2e07010383dd0fe248b72bd11115a926c28c2be82", func := "strandline/strandlinelaw09.BlockCuts", spec := "blockCuts", unfollowed := true, recurses := true, apart := false }
def BlockCutsSaid : Prop := blockCutsRow.holds Try.pinned (OpenSpec.ofChange blockCutsSpec)

/-- ITS FALSE NEIGHBOUR: 'it returns false'. Refute it at one input. -/
def blockCutsWrong : ChangeSpec := { name := "blockCuts", fn := fun _ => fun
  | [d1, d2, d3] => { results := [.lit (.bool false)], args := [d1, d2, d3] }
  | _ => none }
def BlockCutsWrongFalsely : Prop := blockCutsRow.holds Try.pinned (OpenSpec.ofChange blockCutsWrong)

/-- 'strandlinelaw09.BlockLasts': WHATEVER THE INPUT: true; the input reads as it did. -/
def blockLastsSpec : ChangeSpec := { name := "blockLasts", fn := fun _ => fun
  | [d1, d2, d3] => { results := [.lit (.bool true)], args := [d1, d2, d3] }
  | _ => none }
def blockLastsRow : OpenClaim := { program := "ytachnphffnaacaa", sum := "fb20e93f41bfa7ea959035f2e07010383dd0fe248b72bd11115a926c28c2be82", func := "strandline/strandlinelaw09.BlockLasts", spec := "blockLasts", unfollowed := true, recurses := true, apart := false }
def BlockLastsSaid : Prop := blockLastsRow.holds Try.pinned (OpenSpec.ofChange blockLastsSpec)

/-- ITS FALSE NEIGHBOUR: 'it returns false'. Refute it at one input. -/
def blockLastsWrong : ChangeSpec := { name := "blockLasts", fn := fun _ => fun
  | [d1, d2, d3] => { results := [.lit (.bool false)], args := [d1, d2, d3] }
  | _ => none }
def BlockLastsWrongFalsely : Prop := blockLastsRow.holds Try.pinned (OpenSpec.ofChange blockLastsWrong)

/-- 'strandlinelaw09.BlockOne': WHATEVER THE INPUT: true; the input reads as it did. -/
def blockOneSpec : ChangeSpec := { name := "blockOne", fn := fun _ => fun
  | [d1, d2] => { results := [.lit (.bool true)], args := [d1, d2] }
  | _ => none }
def blockOneRow : OpenClaim := { program := "ytachnphffnaacaa", sum := "fb20e93f41bfa7ea959035f2e07010383dd0fe248b72bd11115a926c28c2be82", func := "strandline/strandlinelaw09.BlockOne", spec := "blockOne", unfollowed := true, recurses := true, apart := false }
def BlockOneSaid : Prop := blockOneRow.holds Try.pinned (OpenSpec.ofChange blockOneSpec)

/-- ITS FALSE NEIGHBOUR: 'it returns false'. Refute it at one input. -/
def blockOneWrong : ChangeSpec := { name := "blockOne", fn := fun _ => fun
  | [d1, d2] => { results := [.lit (.bool false)], args := [d1, d2] }
  | _ => none }
def BlockOneWrongFalsely : Prop := blockOneRow.holds Try.pinned (OpenSpec.ofChange blockOneWrong)

/-- 'strandlinelaw09.BlockApart': WHATEVER THE INPUT: true; the input reads as it did. -/
def blockApartSpec : ChangeSpec := { name := "blockApart", fn := fun _ => fun
  | [d1, d2] => { results := [.lit (.bool true)], args := [d1, d2] }
  | _ => none }
def blockApartRow : OpenClaim := { program := "ytachnphffnaacaa", sum := "fb20e93f41bfa7ea959035f2e07010383dd0fe248b72bd11115a926c28c2be82", func := "strandline/strandlinelaw09.BlockApart", spec := "blockApart", unfollowed := true, recurses := true, apart := false }
def BlockApartSaid : Prop := blockApartRow.holds Try.pinned (OpenSpec.ofChange blockApartSpec)

/-- ITS FALSE NEIGHBOUR: 'it returns false'. Refute it at one input. -/
def blockApartWrong : ChangeSpec := { name := "blockApart", fn := fun _ => fun
  | [d1, d2] => { results := [.lit (.bool false)], args := [d1, d2] }
  | _ => none }
def BlockApartWrongFalsely : Prop := blockApartRow.holds Try.pinned (OpenSpec.ofChange blockApartWrong)

/-- 'strandlinelaw09.BlockScript': WHATEVER THE INPUT: true; the input reads as it did. -/
def blockScriptSpec : ChangeSpec := { name := "blockScript", fn := fun _ => fun
  | [d1, d2] => { results := [.lit (.bool true)], args := [d1, d2] }
  | _ => none }
def blockScriptRow : OpenClaim := { program := "ytachnphffnaacaa", sum := "fb20e93f41bfa7ea959035f2e07010383dd0fe248b72bd11115a926c28c2be82", func := "strandline/strandlinelaw09.BlockScript", spec := "blockScript", unfollowed := true, recurses := true, apart := false }
def BlockScriptSaid : Prop := blockScriptRow.holds Try.pinned (OpenSpec.ofChange blockScriptSpec)

/-- ITS FALSE NEIGHBOUR: 'it returns false'. Refute it at one input. -/
def blockScriptWrong : ChangeSpec := { name := "blockScript", fn := fun _ => fun
  | [d1, d2] => { results := [.lit (.bool false)], args := [d1, d2] }
  | _ => none }
def BlockScriptWrongFalsely : Prop := blockScriptRow.holds Try.pinned (OpenSpec.ofChange blockScriptWrong)

/- THE SECOND FORM. 'bulk': how many values and letters a reading holds, each counted each time it is reached (what is shared counts as often as it is met; a slice's spare places count too). A statement '..UptoSaid' is the law's where the arguments, and the package variables that the reading takes, are together of bulk at most 1048576: NARROWER than '..Said'. Prove '..Said' where nothing that the law and all that it calls make is longer than what came in: it says more and counts as full. Else prove '..UptoSaid'. A law counts once. -/
mutual
def uptoBulk {H : Type} : DataW H → Nat
  | .lit (.string bytes) => bytes.length + 1
  | .lit _ => 1
  | .nil => 1
  | .ptr d => uptoBulk d + 1
  | .slice elems spare => uptoBulkAll elems + uptoBulkAll spare + 1
  | .agg parts => uptoBulkAll parts + 1
  | .iface _ d => uptoBulk d + 1
  | .map entries => uptoBulkEntries entries + 1
  | .held _ => 1
def uptoBulkAll {H : Type} : List (DataW H) → Nat
  | [] => 0
  | d :: r => uptoBulk d + uptoBulkAll r
def uptoBulkEntries {H : Type} : List (Lit × DataW H) → Nat
  | [] => 0
  | x :: r => uptoBulkEntry x + uptoBulkEntries r
def uptoBulkEntry {H : Type} : Lit × DataW H → Nat
  | (.string bytes, d) => bytes.length + uptoBulk d + 1
  | (_, d) => uptoBulk d + 1
 end
def uptoSmall : (H : Type) → List (DataW H) → Bool := fun _ ds => decide (uptoBulkAll ds ≤ 1048576)
def OpenSpec.upto (s : _root_.Go.ChangeSpec) : _root_.Go.OpenSpec := { _root_.Go.OpenSpec.ofChange s with cond := some uptoSmall }

/-- 'strandlinelaw09.BlockCuts', WHERE WHAT IT READS IS OF BULK AT MOST 1048576: true; the input reads as it did. -/
def blockCutsUptoRow : OpenClaim := { program := "ytachnphffnaacaa", sum := "fb20e93f41bfa7ea959035f2e07010383dd0fe248b72bd11115a926c28c2be82", func := "strandline/strandlinelaw09.BlockCuts", spec := "blockCuts", unfollowed := true, recurses := true, apart := false, narrowed := true }
def BlockCutsUptoSaid : Prop := blockCutsUptoRow.holds Try.pinned (OpenSpec.upto blockCutsSpec)

/-- 'strandlinelaw09.BlockLasts', WHERE WHAT IT READS IS OF BULK AT MOST 1048576: true; the input reads as it did. -/
def blockLastsUptoRow : OpenClaim := { program := "ytachnphffnaacaa", sum := "fb20e93f41bfa7ea959035f2e07010383dd0fe248b72bd11115a926c28c2be82", func := "strandline/strandlinelaw09.BlockLasts", spec := "blockLasts", unfollowed := true, recurses := true, apart := false, narrowed := true }
def BlockLastsUptoSaid : Prop := blockLastsUptoRow.holds Try.pinned (OpenSpec.upto blockLastsSpec)

/-- 'strandlinelaw09.BlockOne', WHERE WHAT IT READS IS OF BULK AT MOST 1048576: true; the input reads as it did. -/
def blockOneUptoRow : OpenClaim := { program := "ytachnphffnaacaa", sum := "fb20e93f41bfa7ea959035f2e07010383dd0fe248b72bd11115a926c28c2be82", func := "strandline/strandlinelaw09.BlockOne", spec := "blockOne", unfollowed := true, recurses := true, apart := false, narrowed := true }
def BlockOneUptoSaid : Prop := blockOneUptoRow.holds Try.pinned (OpenSpec.upto blockOneSpec)

/-- 'strandlinelaw09.BlockApart', WHERE WHAT IT READS IS OF BULK AT MOST 1048576: true; the input reads as it did. -/
def blockApartUptoRow : OpenClaim := { program := "ytachnphffnaacaa", sum := "fb20e93f41bfa7ea959035f2e07010383dd0fe248b72bd11115a926c28c2be82", func := "strandline/strandlinelaw09.BlockApart", spec := "blockApart", unfollowed := true, recurses := true, apart := false, narrowed := true }
def BlockApartUptoSaid : Prop := blockApartUptoRow.holds Try.pinned (OpenSpec.upto blockApartSpec)

/-- 'strandlinelaw09.BlockScript', WHERE WHAT IT READS IS OF BULK AT MOST 1048576: true; the input reads as it did. -/
def blockScriptUptoRow : OpenClaim := { program := "ytachnphffnaacaa", sum := "fb20e93f41bfa7ea959035f2e07010383dd0fe248b72bd11115a926c28c2be82", func := "strandline/strandlinelaw09.BlockScript", spec := "blockScript", unfollowed := true, recurses := true, apart := false, narrowed := true }
def BlockScriptUptoSaid : Prop := blockScriptUptoRow.holds Try.pinned (OpenSpec.upto blockScriptSpec)

end Rows
end Go.Proofs.Ytachnphffnaacaa
