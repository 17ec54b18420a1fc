/-
  No cell of these rows narrows 'for every input' (looked for: loops, veiled, ifaces, maps, wideKeys, modest, calm, conditions, laid).
  DERIVED. THE GIVEN ROWS OF THIS SEAT. 6 by the template 'for every input the law returns true; each argument reads behind the call as it read before'; 0 by the template 'total and deterministic' (their statements: YtmclknfhehoadaaTotals.lean).
  GIVEN WITH THE SEED: the statements are not yours to turn. If you find one false, say at which input.
  Laid BY PROGRAM, IN A SANDBOX (cutbox-rows.mjs): the forced cells as the released guide's own fill.sh prints them over the translation 127324a0f1b4cfaa… (all of the seat's roots in one cut). By AI agents, Wed Nov 11 2026. No macro, syntax, notation, axiom, sorry.
-/
import Derived.Test.YtmclknfhehoadaaChecked
import GoSem.Claim
import GoSem.ClaimJoined
import GoSem.ClaimMapViews
import Derived.JoinedTies
import Derived.KernelRfl
namespace Go.Proofs.Ytmclknfhehoadaa
/- THE CELL 'sum', in the pinned program and in every row, IS THE sha256 OF THE DUMP (.gsa) THAT YtmclknfhehoadaaProg.lean LOADS. Nothing in Lean hashes anything: it is a label: what it is worth is what the hold of that sum in a sandbox is worth. -/
noncomputable def Try.pinned : Pinned := { name := "ytmclknfhehoadaa", sum := "127324a0f1b4cfaa20bf3ae1f3668ffda5ea022dd7098b593eccd7536829156a", checked := Try.checked }
namespace Rows
def none {H : Type} : Left H := { results := [], args := [] }

/-- 'strandlinelaw12.CoverNorms': WHATEVER THE INPUT: true; the input reads as it did. -/
def coverNormsSpec : ChangeSpec := { name := "coverNorms", fn := fun _ => fun
  | [d1, d2, d3] => { results := [.lit (.bool true)], args := [d1, d2, d3] }
  | _ => none }
def coverNormsRow : OpenClaim := { program := "ytmclknfhehoadaa", sum := "127324a0f1b4cfaa20bf3ae1f3668ffda5ea022dd7098b593eccd7536829156a", func := "strandline/strandlinelaw12.CoverNorms", spec := "coverNorms", unfollowed := true, recurses := true, apart := false }
def CoverNormsSaid : Prop := coverNormsRow.holds Try.pinned (OpenSpec.ofChange coverNormsSpec)

/-- ITS FALSE NEIGHBOUR: 'it returns false'. Refute it at one input. -/
def coverNormsWrong : ChangeSpec := { name := "coverNorms", fn := fun _ => fun
  | [d1, d2, d3] => { results := [.lit (.bool false)], args := [d1, d2, d3] }
  | _ => none }
def CoverNormsWrongFalsely : Prop := coverNormsRow.holds Try.pinned (OpenSpec.ofChange coverNormsWrong)

/-- 'strandlinelaw12.CoverTurned': WHATEVER THE INPUT: true; the input reads as it did. -/
def coverTurnedSpec : ChangeSpec := { name := "coverTurned", fn := fun _ => fun
  | [d1, d2] => { results := [.lit (.bool true)], args := [d1, d2] }
  | _ => none }
def coverTurnedRow : OpenClaim := { program := "ytmclknfhehoadaa", sum := "127324a0f1b4cfaa20bf3ae1f3668ffda5ea022dd7098b593eccd7536829156a", func := "strandline/strandlinelaw12.CoverTurned", spec := "coverTurned", unfollowed := true, recurses := true, apart := false }
def CoverTurnedSaid : Prop := coverTurnedRow.holds Try.pinned (OpenSpec.ofChange coverTurnedSpec)

/-- ITS FALSE NEIGHBOUR: 'it returns false'. Refute it at one input. -/
def coverTurnedWrong : ChangeSpec := { name := "coverTurned", fn := fun _ => fun
  | [d1, d2] => { results := [.lit (.bool false)], args := [d1, d2] }
  | _ => none }
def CoverTurnedWrongFalsely : Prop := coverTurnedRow.holds Try.pinned (OpenSpec.ofChange coverTurnedWrong)

/-- 'strandlinelaw12.CoverParts': WHATEVER THE INPUT: true; the input reads as it did. -/
def coverPartsSpec : ChangeSpec := { name := "coverParts", fn := fun _ => fun
  | [d1, d2, d3, d4] => { results := [.lit (.bool true)], args := [d1, d2, d3, d4] }
  | _ => none }
def coverPartsRow : OpenClaim := { program := "ytmclknfhehoadaa", sum := "127324a0f1b4cfaa20bf3ae1f3668ffda5ea022dd7098b593eccd7536829156a", func := "strandline/strandlinelaw12.CoverParts", spec := "coverParts", unfollowed := true, recurses := true, apart := false }
def CoverPartsSaid : Prop := coverPartsRow.holds Try.pinned (OpenSpec.ofChange coverPartsSpec)

/-- ITS FALSE NEIGHBOUR: 'it returns false'. Refute it at one input. -/
def coverPartsWrong : ChangeSpec := { name := "coverParts", fn := fun _ => fun
  | [d1, d2, d3, d4] => { results := [.lit (.bool false)], args := [d1, d2, d3, d4] }
  | _ => none }
def CoverPartsWrongFalsely : Prop := coverPartsRow.holds Try.pinned (OpenSpec.ofChange coverPartsWrong)

/-- 'strandlinelaw12.CoverLeft': WHATEVER THE INPUT: true; the input reads as it did. -/
def coverLeftSpec : ChangeSpec := { name := "coverLeft", fn := fun _ => fun
  | [d1, d2, d3] => { results := [.lit (.bool true)], args := [d1, d2, d3] }
  | _ => none }
def coverLeftRow : OpenClaim := { program := "ytmclknfhehoadaa", sum := "127324a0f1b4cfaa20bf3ae1f3668ffda5ea022dd7098b593eccd7536829156a", func := "strandline/strandlinelaw12.CoverLeft", spec := "coverLeft", unfollowed := true, recurses := true, apart := false }
def CoverLeftSaid : Prop := coverLeftRow.holds Try.pinned (OpenSpec.ofChange coverLeftSpec)

/-- ITS FALSE NEIGHBOUR: 'it returns false'. Refute it at one input. -/
def coverLeftWrong : ChangeSpec := { name := "coverLeft", fn := fun _ => fun
  | [d1, d2, d3] => { results := [.lit (.bool false)], args := [d1, d2, d3] }
  | _ => none }
def CoverLeftWrongFalsely : Prop := coverLeftRow.holds Try.pinned (OpenSpec.ofChange coverLeftWrong)

/-- 'strandlinelaw12.CoverTwice': WHATEVER THE INPUT: true; the input reads as it did. -/
def coverTwiceSpec : ChangeSpec := { name := "coverTwice", fn := fun _ => fun
  | [d1, d2, d3, d4] => { results := [.lit (.bool true)], args := [d1, d2, d3, d4] }
  | _ => none }
def coverTwiceRow : OpenClaim := { program := "ytmclknfhehoadaa", sum := "127324a0f1b4cfaa20bf3ae1f3668ffda5ea022dd7098b593eccd7536829156a", func := "strandline/strandlinelaw12.CoverTwice", spec := "coverTwice", unfollowed := true, recurses := true, apart := false }
def CoverTwiceSaid : Prop := coverTwiceRow.holds Try.pinned (OpenSpec.ofChange coverTwiceSpec)

/-- ITS FALSE NEIGHBOUR: 'it returns false'. Refute it at one input. -/
def coverTwiceWrong : ChangeSpec := { name := "coverTwice", fn := fun _ => fun
  | [d1, d2, d3, d4] => { results := [.lit (.bool false)], args := [d1, d2, d3, d4] }
  | _ => none }
def CoverTwiceWrongFalsely : Prop := coverTwiceRow.holds Try.pinned (OpenSpec.ofChange coverTwiceWrong)

/-- 'strandlinelaw12.CoverOthers': WHATEVER THE INPUT: true; the input reads as it did. -/
def coverOthersSpec : ChangeSpec := { name := "coverOthers", fn := fun _ => fun
  | [d1, d2, d3, d4] => { results := [.lit (.bool true)], args := [d1, d2, d3, d4] }
  | _ => none }
def coverOthersRow : OpenClaim := { program := "ytmclknfhehoadaa", sum := "127324a0f1b4cfaa20bf3ae1f3668ffda5ea022dd7098b593eccd7536829156a", func := "strandline/strandlinelaw12.CoverOthers", spec := "coverOthers", unfollowed := true, recurses := true, apart := false }
def CoverOthersSaid : Prop := coverOthersRow.holds Try.pinned (OpenSpec.ofChange coverOthersSpec)

/-- ITS FALSE NEIGHBOUR: 'it returns false'. Refute it at one input. -/
def coverOthersWrong : ChangeSpec := { name := "coverOthers", fn := fun _ => fun
  | [d1, d2, d3, d4] => { results := [.lit (.bool false)], args := [d1, d2, d3, d4] }
  | _ => none }
def CoverOthersWrongFalsely : Prop := coverOthersRow.holds Try.pinned (OpenSpec.ofChange coverOthersWrong)

/- THE SECOND FORM. 'bulk': how many values and letters a reading holds, each counted each time it is reached (what is shared counts as often as it is met; a slice's spare places count too). A statement '..UptoSaid' is the law's where the arguments, and the package variables that the reading takes, are together of bulk at most 1048576: NARROWER than '..Said'. Prove '..Said' where nothing that the law and all that it calls make is longer than what came in: it says more and counts as full. Else prove '..UptoSaid'. A law counts once. -/
mutual
def uptoBulk {H : Type} : DataW H → Nat
  | .lit (.string bytes) => bytes.length + 1
  | .lit _ => 1
  | .nil => 1
  | .ptr d => uptoBulk d + 1
  | .slice elems spare => uptoBulkAll elems + uptoBulkAll spare + 1
  | .agg parts => uptoBulkAll parts + 1
  | .iface _ d => uptoBulk d + 1
  | .map entries => uptoBulkEntries entries + 1
  | .held _ => 1
def uptoBulkAll {H : Type} : List (DataW H) → Nat
  | [] => 0
  | d :: r => uptoBulk d + uptoBulkAll r
def uptoBulkEntries {H : Type} : List (Lit × DataW H) → Nat
  | [] => 0
  | x :: r => uptoBulkEntry x + uptoBulkEntries r
def uptoBulkEntry {H : Type} : Lit × DataW H → Nat
  | (.string bytes, d) => bytes.length + uptoBulk d + 1
  | (_, d) => uptoBulk d + 1
 end
def uptoSmall : (H : Type) → List (DataW H) → Bool := fun _ ds => decide (uptoBulkAll ds ≤ 1048576)
def OpenSpec.upto (s : _root_.Go.ChangeSpec) : _root_.Go.OpenSpec := { _root_.Go.OpenSpec.ofChange s with cond := some uptoSmall }

/-- 'strandlinelaw12.CoverNorms', WHERE WHAT IT READS IS OF BULK AT MOST 1048576: true; the input reads as it did. -/
def coverNormsUptoRow : OpenClaim := { program := "ytmclknfhehoadaa", sum := "127324a0f1b4cfaa20bf3ae1f3668ffda5ea022dd7098b593eccd7536829156a", func := "strandline/strandlinelaw12.CoverNorms", spec := "coverNorms", unfollowed := true, recurses := true, apart := false, narrowed := true }
def CoverNormsUptoSaid : Prop := coverNormsUptoRow.holds Try.pinned (OpenSpec.upto coverNormsSpec)

/-- 'strandlinelaw12.CoverTurned', WHERE WHAT IT READS IS OF BULK AT MOST 1048576: true; the input reads as it did. -/
def coverTurnedUptoRow : OpenClaim := { program := "ytmclknfhehoadaa", sum := "127324a0f1b4cfaa20bf3ae1f3668ffda5ea022dd7098b593eccd7536829156a", func := "strandline/strandlinelaw12.CoverTurned", spec := "coverTurned", unfollowed := true, recurses := true, apart := false, narrowed := true }
def CoverTurnedUptoSaid : Prop := coverTurnedUptoRow.holds Try.pinned (OpenSpec.upto coverTurnedSpec)

/-- 'strandlinelaw12.CoverParts', WHERE WHAT IT READS IS OF BULK AT MOST 1048576: true; the input reads as it did. -/
def coverPartsUptoRow : OpenClaim := { program := "ytmclknfhehoadaa", sum := "127324a0f1b4cfaa20bf3ae1f3668ffda5ea022dd7098b593eccd7536829156a", func := "strandline/strandlinelaw12.CoverParts", spec := "coverParts", unfollowed := true, recurses := true, apart := false, narrowed := true }
def CoverPartsUptoSaid : Prop := coverPartsUptoRow.holds Try.pinned (OpenSpec.upto coverPartsSpec)

/-- 'strandlinelaw12.CoverLeft', WHERE WHAT IT READS IS OF BULK AT MOST 1048576: true; the input reads as it did. -/
def coverLeftUptoRow : OpenClaim := { program := "ytmclknfhehoadaa", sum := "127324a0f1b4cfaa20bf3ae1f3668ffda5ea022dd7098b593eccd7536829156a", func := "strandline/strandlinelaw12.CoverLeft", spec := "coverLeft", unfollowed := true, recurses := true, apart := false, narrowed := true }
def CoverLeftUptoSaid : Prop := coverLeftUptoRow.holds Try.pinned (OpenSpec.upto coverLeftSpec)

/-- 'strandlinelaw12.CoverTwice', WHERE WHAT IT READS IS OF BULK AT MOST 1048576: true; the input reads as it did. -/
def coverTwiceUptoRow : OpenClaim := { program := "ytmclknfhehoadaa", sum := "127324a0f1b4cfaa20bf3ae1f3668ffda5ea022dd7098b593eccd7536829156a", func := "strandline/strandlinelaw12.CoverTwice", spec := "coverTwice", unfollowed := true, recurses := true, apart := false, narrowed := true }
def CoverTwiceUptoSaid : Prop := coverTwiceUptoRow.holds Try.pinned (OpenSpec.upto coverTwiceSpec)

/-- 'strandlinelaw12.CoverOthers', WHERE WHAT IT READS IS OF BULK AT MOST 1048576: true; the input reads as it did. -/
def coverOthersUptoRow : OpenClaim := { program := "ytmclknfhehoadaa", sum := "127324a0f1b4cfaa20bf3ae1f3668ffda5ea022dd7098b593eccd7536829156a", func := "strandline/strandlinelaw12.CoverOthers", spec := "coverOthers", unfollowed := true, recurses := true, apart := false, narrowed := true }
def CoverOthersUptoSaid : Prop := coverOthersUptoRow.holds Try.pinned (OpenSpec.upto coverOthersSpec)

end Rows
end Go.Proofs.Ytmclknfhehoadaa
