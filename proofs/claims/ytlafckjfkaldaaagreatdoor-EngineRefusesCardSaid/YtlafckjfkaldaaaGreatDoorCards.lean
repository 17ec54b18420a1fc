/-
  DERIVED. GIVEN WITH THE SEED: THE CARDS: each row of YtlafckjfkaldaaaGreatDoorRows.lean that lists a variable, with what it lists TIED to the program's text (the seventh form; the later family's looks); each row that meets fmt, with fmt's text TOLD by the authors' own Lean function (tested against real Go, not proved from fmt's source: count such statements apart). THE CARD IS WHAT COUNTS. Prove the row's statement (the work); the ties are given (YtlafckjfkaldaaaGreatDoorTie.lean); close each card by the builder's one call (the guide's Derived/Test/ToyasCard.lean, 'card_holds'). Laid BY PROGRAM, IN A SANDBOX (cutbox-door.mjs). By AI agents, Wed Nov 11 2026. No macro, syntax, notation, axiom, sorry.
-/
import Derived.Test.YtlafckjfkaldaaaGreatDoorRows
import GoSem.ClaimSeven
namespace Go.Proofs.YtlafckjfkaldaaaGreatDoor
namespace Rows

/-- THE TIED CARD OF 'strandlinelaw21.EngineRefuses'. -/
def engineRefusesCard : Claim7 := { stood := { row := engineRefusesRow, standIns := [], harness := (true, "02aa1560f81004a2edffad43ace013bd66dba9eae39370d7843386a624589140"), looks := true }, kinds := [], alts := [], laidByText := true, laidKinds := [.data, .data, .data, .data, .sentinel, .sentinel], laidTests := true, laidLooks := .later }
def EngineRefusesCardSaid : Prop := Claim7.holds Tryz.pinned (.plain (OpenSpec.ofChange engineRefusesSpec)) engineRefusesCard

/-- THE SECOND FORM's CARD OF 'strandlinelaw21.EngineRefuses'. -/
def engineRefusesUptoCard : Claim7 := { stood := { row := engineRefusesUptoRow, standIns := [], harness := (true, "02aa1560f81004a2edffad43ace013bd66dba9eae39370d7843386a624589140"), looks := true }, kinds := [], alts := [], laidByText := true, laidKinds := [.data, .data, .data, .data, .sentinel, .sentinel], laidTests := true, laidLooks := .later }
def EngineRefusesUptoCardSaid : Prop := Claim7.holds Tryz.pinned (.plain (OpenSpec.upto engineRefusesSpec)) engineRefusesUptoCard
end Rows
end Go.Proofs.YtlafckjfkaldaaaGreatDoor
