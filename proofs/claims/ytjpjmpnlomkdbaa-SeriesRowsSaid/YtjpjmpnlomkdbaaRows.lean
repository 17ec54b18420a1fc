/-
  No cell of these rows narrows 'for every input' (looked for: loops, veiled, ifaces, maps, wideKeys, modest, calm, conditions, laid).
  DERIVED. THE GIVEN ROWS OF THIS SEAT. 6 by the template 'for every input the law returns true; each argument reads behind the call as it read before'; 0 by the template 'total and deterministic' (their statements: YtjpjmpnlomkdbaaTotals.lean).
  GIVEN WITH THE SEED: the statements are not yours to turn. If you find one false, say at which input.
  Laid BY PROGRAM, IN A SANDBOX (cutbox-rows.mjs): the forced cells as the released guide's own fill.sh prints them over the translation c37fbe5a1ac4c3b8… (all of the seat's roots in one cut). By AI agents, Wed Nov 11 2026. No macro, syntax, notation, axiom, sorry.
-/
import Derived.Test.YtjpjmpnlomkdbaaChecked
import GoSem.Claim
import GoSem.ClaimJoined
import GoSem.ClaimMapViews
import Derived.JoinedTies
import Derived.KernelRfl
namespace Go.Proofs.Ytjpjmpnlomkdbaa
/- THE CELL 'sum', in the pinned program and in every row, IS THE sha256 OF THE DUMP (.gsa) THAT YtjpjmpnlomkdbaaProg.lean LOADS. Nothing in Lean hashes anything: it is a label: what it is worth is what the hold of that sum in a sandbox is worth. -/
noncomputable def Try.pinned : Pinned := { name := "ytjpjmpnlomkdbaa", sum := "c37fbe5a1ac4c3b8bd2dc79a6b3fb104cc115f0750aec95f6e8fa40ad33a8f1a", checked := Try.checked }
namespace Rows
def none {H : Type} : Left H := { results := [], args := [] }

/-- 'strandlinelaw13.SeriesWins': WHATEVER THE INPUT: true; the input reads as it did. -/
def seriesWinsSpec : ChangeSpec := { name := "seriesWins", fn := fun _ => fun
  | [d1, d2] => { results := [.lit (.bool true)], args := [d1, d2] }
  | _ => none }
def seriesWinsRow : OpenClaim := { program := "ytjpjmpnlomkdbaa", sum := "c37fbe5a1ac4c3b8bd2dc79a6b3fb104cc115f0750aec95f6e8fa40ad33a8f1a", func := "strandline/strandlinelaw13.SeriesWins", spec := "seriesWins", unfollowed := true, recurses := true, apart := false }
def SeriesWinsSaid : Prop := seriesWinsRow.holds Try.pinned (OpenSpec.ofChange seriesWinsSpec)

/-- ITS FALSE NEIGHBOUR: 'it returns false'. Refute it at one input. -/
def seriesWinsWrong : ChangeSpec := { name := "seriesWins", fn := fun _ => fun
  | [d1, d2] => { results := [.lit (.bool false)], args := [d1, d2] }
  | _ => none }
def SeriesWinsWrongFalsely : Prop := seriesWinsRow.holds Try.pinned (OpenSpec.ofChange seriesWinsWrong)

/-- 'strandlinelaw13.SeriesCut': WHATEVER THE INPUT: true; the input reads as it did. -/
def seriesCutSpec : ChangeSpec := { name := "seriesCut", fn := fun _ => fun
  | [d1, d2, d3, d4] => { results := [.lit (.bool true)], args := [d1, d2, d3, d4] }
  | _ => none }
def seriesCutRow : OpenClaim := { program := "ytjpjmpnlomkdbaa", sum := "c37fbe5a1ac4c3b8bd2dc79a6b3fb104cc115f0750aec95f6e8fa40ad33a8f1a", func := "strandline/strandlinelaw13.SeriesCut", spec := "seriesCut", unfollowed := true, recurses := true, apart := false }
def SeriesCutSaid : Prop := seriesCutRow.holds Try.pinned (OpenSpec.ofChange seriesCutSpec)

/-- ITS FALSE NEIGHBOUR: 'it returns false'. Refute it at one input. -/
def seriesCutWrong : ChangeSpec := { name := "seriesCut", fn := fun _ => fun
  | [d1, d2, d3, d4] => { results := [.lit (.bool false)], args := [d1, d2, d3, d4] }
  | _ => none }
def SeriesCutWrongFalsely : Prop := seriesCutRow.holds Try.pinned (OpenSpec.ofChange seriesCutWrong)

/-- 'strandlinelaw13.SeriesMerges': WHATEVER THE INPUT: true; the input reads as it did. -/
def seriesMergesSpec : ChangeSpec := { name := "seriesMerges", fn := fun _ => fun
  | [d1, d2, d3] => { results := [.lit (.bool true)], args := [d1, d2, d3] }
  | _ => none }
def seriesMergesRow : OpenClaim := { program := "ytjpjmpnlomkdbaa", sum := "c37fbe5a1ac4c3b8bd2dc79a6b3fb104cc115f0750aec95f6e8fa40ad33a8f1a", func := "strandline/strandlinelaw13.SeriesMerges", spec := "seriesMerges", unfollowed := true, recurses := true, apart := false }
def SeriesMergesSaid : Prop := seriesMergesRow.holds Try.pinned (OpenSpec.ofChange seriesMergesSpec)

/-- ITS FALSE NEIGHBOUR: 'it returns false'. Refute it at one input. -/
def seriesMergesWrong : ChangeSpec := { name := "seriesMerges", fn := fun _ => fun
  | [d1, d2, d3] => { results := [.lit (.bool false)], args := [d1, d2, d3] }
  | _ => none }
def SeriesMergesWrongFalsely : Prop := seriesMergesRow.holds Try.pinned (OpenSpec.ofChange seriesMergesWrong)

/-- 'strandlinelaw13.SeriesPuts': WHATEVER THE INPUT: true; the input reads as it did. -/
def seriesPutsSpec : ChangeSpec := { name := "seriesPuts", fn := fun _ => fun
  | [d1, d2, d3] => { results := [.lit (.bool true)], args := [d1, d2, d3] }
  | _ => none }
def seriesPutsRow : OpenClaim := { program := "ytjpjmpnlomkdbaa", sum := "c37fbe5a1ac4c3b8bd2dc79a6b3fb104cc115f0750aec95f6e8fa40ad33a8f1a", func := "strandline/strandlinelaw13.SeriesPuts", spec := "seriesPuts", unfollowed := true, recurses := true, apart := false }
def SeriesPutsSaid : Prop := seriesPutsRow.holds Try.pinned (OpenSpec.ofChange seriesPutsSpec)

/-- ITS FALSE NEIGHBOUR: 'it returns false'. Refute it at one input. -/
def seriesPutsWrong : ChangeSpec := { name := "seriesPuts", fn := fun _ => fun
  | [d1, d2, d3] => { results := [.lit (.bool false)], args := [d1, d2, d3] }
  | _ => none }
def SeriesPutsWrongFalsely : Prop := seriesPutsRow.holds Try.pinned (OpenSpec.ofChange seriesPutsWrong)

/-- 'strandlinelaw13.SeriesSets': WHATEVER THE INPUT: true; the input reads as it did. -/
def seriesSetsSpec : ChangeSpec := { name := "seriesSets", fn := fun _ => fun
  | [d1, d2] => { results := [.lit (.bool true)], args := [d1, d2] }
  | _ => none }
def seriesSetsRow : OpenClaim := { program := "ytjpjmpnlomkdbaa", sum := "c37fbe5a1ac4c3b8bd2dc79a6b3fb104cc115f0750aec95f6e8fa40ad33a8f1a", func := "strandline/strandlinelaw13.SeriesSets", spec := "seriesSets", unfollowed := true, recurses := true, apart := false }
def SeriesSetsSaid : Prop := seriesSetsRow.holds Try.pinned (OpenSpec.ofChange seriesSetsSpec)

/-- ITS FALSE NEIGHBOUR: 'it returns false'. Refute it at one input. -/
def seriesSetsWrong : ChangeSpec := { name := "seriesSets", fn := fun _ => fun
  | [d1, d2] => { results := [.lit (.bool false)], args := [d1, d2] }
  | _ => none }
def SeriesSetsWrongFalsely : Prop := seriesSetsRow.holds Try.pinned (OpenSpec.ofChange seriesSetsWrong)

/-- 'strandlinelaw13.SeriesRows': WHATEVER THE INPUT: true; the input reads as it did. -/
def seriesRowsSpec : ChangeSpec := { name := "seriesRows", fn := fun _ => fun
  | [d] => { results := [.lit (.bool true)], args := [d] }
  | _ => none }
def seriesRowsRow : OpenClaim := { program := "ytjpjmpnlomkdbaa", sum := "c37fbe5a1ac4c3b8bd2dc79a6b3fb104cc115f0750aec95f6e8fa40ad33a8f1a", func := "strandline/strandlinelaw13.SeriesRows", spec := "seriesRows", unfollowed := true, recurses := true, apart := false }
def SeriesRowsSaid : Prop := seriesRowsRow.holds Try.pinned (OpenSpec.ofChange seriesRowsSpec)

/-- ITS FALSE NEIGHBOUR: 'it returns false'. Refute it at one input. -/
def seriesRowsWrong : ChangeSpec := { name := "seriesRows", fn := fun _ => fun
  | [d] => { results := [.lit (.bool false)], args := [d] }
  | _ => none }
def SeriesRowsWrongFalsely : Prop := seriesRowsRow.holds Try.pinned (OpenSpec.ofChange seriesRowsWrong)

/- THE SECOND FORM. 'bulk': how many values and letters a reading holds, each counted each time it is reached (what is shared counts as often as it is met; a slice's spare places count too). A statement '..UptoSaid' is the law's where the arguments, and the package variables that the reading takes, are together of bulk at most 1048576: NARROWER than '..Said'. Prove '..Said' where nothing that the law and all that it calls make is longer than what came in: it says more and counts as full. Else prove '..UptoSaid'. A law counts once. -/
mutual
def uptoBulk {H : Type} : DataW H → Nat
  | .lit (.string bytes) => bytes.length + 1
  | .lit _ => 1
  | .nil => 1
  | .ptr d => uptoBulk d + 1
  | .slice elems spare => uptoBulkAll elems + uptoBulkAll spare + 1
  | .agg parts => uptoBulkAll parts + 1
  | .iface _ d => uptoBulk d + 1
  | .map entries => uptoBulkEntries entries + 1
  | .held _ => 1
def uptoBulkAll {H : Type} : List (DataW H) → Nat
  | [] => 0
  | d :: r => uptoBulk d + uptoBulkAll r
def uptoBulkEntries {H : Type} : List (Lit × DataW H) → Nat
  | [] => 0
  | x :: r => uptoBulkEntry x + uptoBulkEntries r
def uptoBulkEntry {H : Type} : Lit × DataW H → Nat
  | (.string bytes, d) => bytes.length + uptoBulk d + 1
  | (_, d) => uptoBulk d + 1
 end
def uptoSmall : (H : Type) → List (DataW H) → Bool := fun _ ds => decide (uptoBulkAll ds ≤ 1048576)
def OpenSpec.upto (s : _root_.Go.ChangeSpec) : _root_.Go.OpenSpec := { _root_.Go.OpenSpec.ofChange s with cond := some uptoSmall }

/-- 'strandlinelaw13.SeriesWins', WHERE WHAT IT READS IS OF BULK AT MOST 1048576: true; the input reads as it did. -/
def seriesWinsUptoRow : OpenClaim := { program := "ytjpjmpnlomkdbaa", sum := "c37fbe5a1ac4c3b8bd2dc79a6b3fb104cc115f0750aec95f6e8fa40ad33a8f1a", func := "strandline/strandlinelaw13.SeriesWins", spec := "seriesWins", unfollowed := true, recurses := true, apart := false, narrowed := true }
def SeriesWinsUptoSaid : Prop := seriesWinsUptoRow.holds Try.pinned (OpenSpec.upto seriesWinsSpec)

/-- 'strandlinelaw13.SeriesCut', WHERE WHAT IT READS IS OF BULK AT MOST 1048576: true; the input reads as it did. -/
def seriesCutUptoRow : OpenClaim := { program := "ytjpjmpnlomkdbaa", sum := "c37fbe5a1ac4c3b8bd2dc79a6b3fb104cc115f0750aec95f6e8fa40ad33a8f1a", func := "strandline/strandlinelaw13.SeriesCut", spec := "seriesCut", unfollowed := true, recurses := true, apart := false, narrowed := true }
def SeriesCutUptoSaid : Prop := seriesCutUptoRow.holds Try.pinned (OpenSpec.upto seriesCutSpec)

/-- 'strandlinelaw13.SeriesMerges', WHERE WHAT IT READS IS OF BULK AT MOST 1048576: true; the input reads as it did. -/
def seriesMergesUptoRow : OpenClaim := { program := "ytjpjmpnlomkdbaa", sum := "c37fbe5a1ac4c3b8bd2dc79a6b3fb104cc115f0750aec95f6e8fa40ad33a8f1a", func := "strandline/strandlinelaw13.SeriesMerges", spec := "seriesMerges", unfollowed := true, recurses := true, apart := false, narrowed := true }
def SeriesMergesUptoSaid : Prop := seriesMergesUptoRow.holds Try.pinned (OpenSpec.upto seriesMergesSpec)

/-- 'strandlinelaw13.SeriesPuts', WHERE WHAT IT READS IS OF BULK AT MOST 1048576: true; the input reads as it did. -/
def seriesPutsUptoRow : OpenClaim := { program := "ytjpjmpnlomkdbaa", sum := "c37fbe5a1ac4c3b8bd2dc79a6b3fb104cc115f0750aec95f6e8fa40ad33a8f1a", func := "strandline/strandlinelaw13.SeriesPuts", spec := "seriesPuts", unfollowed := true, recurses := true, apart := false, narrowed := true }
def SeriesPutsUptoSaid : Prop := seriesPutsUptoRow.holds Try.pinned (OpenSpec.upto seriesPutsSpec)

/-- 'strandlinelaw13.SeriesSets', WHERE WHAT IT READS IS OF BULK AT MOST 1048576: true; the input reads as it did. -/
def seriesSetsUptoRow : OpenClaim := { program := "ytjpjmpnlomkdbaa", sum := "c37fbe5a1ac4c3b8bd2dc79a6b3fb104cc115f0750aec95f6e8fa40ad33a8f1a", func := "strandline/strandlinelaw13.SeriesSets", spec := "seriesSets", unfollowed := true, recurses := true, apart := false, narrowed := true }
def SeriesSetsUptoSaid : Prop := seriesSetsUptoRow.holds Try.pinned (OpenSpec.upto seriesSetsSpec)

/-- 'strandlinelaw13.SeriesRows', WHERE WHAT IT READS IS OF BULK AT MOST 1048576: true; the input reads as it did. -/
def seriesRowsUptoRow : OpenClaim := { program := "ytjpjmpnlomkdbaa", sum := "c37fbe5a1ac4c3b8bd2dc79a6b3fb104cc115f0750aec95f6e8fa40ad33a8f1a", func := "strandline/strandlinelaw13.SeriesRows", spec := "seriesRows", unfollowed := true, recurses := true, apart := false, narrowed := true }
def SeriesRowsUptoSaid : Prop := seriesRowsUptoRow.holds Try.pinned (OpenSpec.upto seriesRowsSpec)

end Rows
end Go.Proofs.Ytjpjmpnlomkdbaa
