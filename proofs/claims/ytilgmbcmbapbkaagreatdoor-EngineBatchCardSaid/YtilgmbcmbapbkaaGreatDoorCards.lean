/-
  DERIVED. GIVEN WITH THE SEED: THE CARDS: each row of YtilgmbcmbapbkaaGreatDoorRows.lean that lists a variable, with what it lists TIED to the program's text (the seventh form; the later family's looks); each row that meets fmt, with fmt's text TOLD by the authors' own Lean function (tested against real Go, not proved from fmt's source: count such statements apart). THE CARD IS WHAT COUNTS. Prove the row's statement (the work); the ties are given (YtilgmbcmbapbkaaGreatDoorTie.lean); close each card by the builder's one call (the guide's Derived/Test/ToyasCard.lean, 'card_holds'). Laid BY PROGRAM, IN A SANDBOX (cutbox-door.mjs). By AI agents, Wed Nov 11 2026. No macro, syntax, notation, axiom, sorry.
-/
import Derived.Test.YtilgmbcmbapbkaaGreatDoorRows
import GoSem.ClaimSeven
namespace Go.Proofs.YtilgmbcmbapbkaaGreatDoor
namespace Rows

/-- THE TIED CARD OF 'strandlinelaw21.EngineBatch'. -/
def engineBatchCard : Claim7 := { stood := { row := engineBatchRow, standIns := [], harness := (true, "33c8082ce18eeb1112a64608d50690ef2035ea743ecee0b75da6e26a9517791b"), looks := true }, kinds := [], alts := [], laidByText := true, laidKinds := [.data, .data, .data, .data, .sentinel, .sentinel], laidTests := true, laidLooks := .later }
def EngineBatchCardSaid : Prop := Claim7.holds Tryz.pinned (.plain (OpenSpec.ofChange engineBatchSpec)) engineBatchCard

/-- THE SECOND FORM's CARD OF 'strandlinelaw21.EngineBatch'. -/
def engineBatchUptoCard : Claim7 := { stood := { row := engineBatchUptoRow, standIns := [], harness := (true, "33c8082ce18eeb1112a64608d50690ef2035ea743ecee0b75da6e26a9517791b"), looks := true }, kinds := [], alts := [], laidByText := true, laidKinds := [.data, .data, .data, .data, .sentinel, .sentinel], laidTests := true, laidLooks := .later }
def EngineBatchUptoCardSaid : Prop := Claim7.holds Tryz.pinned (.plain (OpenSpec.upto engineBatchSpec)) engineBatchUptoCard
end Rows
end Go.Proofs.YtilgmbcmbapbkaaGreatDoor
