/-
  DERIVED. GIVEN WITH THE SEED: THE CARDS: each row of YtgalnkecefpaoaaGreatDoorRows.lean that lists a variable, with what it lists TIED to the program's text (the seventh form; the later family's looks); each row that meets fmt, with fmt's text TOLD by the authors' own Lean function (tested against real Go, not proved from fmt's source: count such statements apart). THE CARD IS WHAT COUNTS. Prove the row's statement (the work); the ties are given (YtgalnkecefpaoaaGreatDoorTie.lean); close each card by the builder's one call (the guide's Derived/Test/ToyasCard.lean, 'card_holds'). Laid BY PROGRAM, IN A SANDBOX (cutbox-door.mjs). By AI agents, Wed Nov 11 2026. No macro, syntax, notation, axiom, sorry.
-/
import Derived.Test.YtgalnkecefpaoaaGreatDoorRows
import GoSem.ClaimSeven
namespace Go.Proofs.YtgalnkecefpaoaaGreatDoor
namespace Rows

/-- THE TIED CARD OF 'strandlinetop.TopSays'. -/
def topSaysCard : Claim7 := { stood := { row := topSaysRow, standIns := [], harness := (true, "6b58fc86f621ba990a478d6b6c0fa740d67558de129f33c99b011d67773e3b20"), looks := true }, kinds := [], alts := [], laidByText := true, laidKinds := [.data, .data, .data, .data, .sentinel, .sentinel], laidTests := true, laidLooks := .later }
def TopSaysCardSaid : Prop := Claim7.holds Tryz.pinned (.plain (OpenSpec.ofChange topSaysSpec)) topSaysCard

/-- THE SECOND FORM's CARD OF 'strandlinetop.TopSays'. -/
def topSaysUptoCard : Claim7 := { stood := { row := topSaysUptoRow, standIns := [], harness := (true, "6b58fc86f621ba990a478d6b6c0fa740d67558de129f33c99b011d67773e3b20"), looks := true }, kinds := [], alts := [], laidByText := true, laidKinds := [.data, .data, .data, .data, .sentinel, .sentinel], laidTests := true, laidLooks := .later }
def TopSaysUptoCardSaid : Prop := Claim7.holds Tryz.pinned (.plain (OpenSpec.upto topSaysSpec)) topSaysUptoCard
end Rows
end Go.Proofs.YtgalnkecefpaoaaGreatDoor
