/-
  DERIVED. GIVEN WITH THE SEED: THE CARDS: each row of YtijedkfekmopnaaGreatDoorRows.lean that lists a variable, with what it lists TIED to the program's text (the seventh form; the later family's looks); each row that meets fmt, with fmt's text TOLD by the authors' own Lean function (tested against real Go, not proved from fmt's source: count such statements apart). THE CARD IS WHAT COUNTS. Prove the row's statement (the work); the ties are given (YtijedkfekmopnaaGreatDoorTie.lean); close each card by the builder's one call (the guide's Derived/Test/ToyasCard.lean, 'card_holds'). Laid BY PROGRAM, IN A SANDBOX (cutbox-door.mjs). By AI agents, Wed Nov 11 2026. No macro, syntax, notation, axiom, sorry.
-/
import Derived.Test.YtijedkfekmopnaaGreatDoorRows
import GoSem.ClaimSeven
namespace Go.Proofs.YtijedkfekmopnaaGreatDoor
namespace Rows

/-- THE TIED CARD OF 'strandlinelaw11.WalJoined'. -/
def walJoinedCard : Claim7 := { stood := { row := walJoinedRow, standIns := [], harness := (true, "177e2cee9f2c286a742e9dd9f4d174e6c35763a722addbc0972f815f587eb9cf"), looks := true }, kinds := [], alts := [], laidByText := true, laidKinds := [.data], laidTests := true, laidLooks := .later }
def WalJoinedCardSaid : Prop := Claim7.holds Tryz.pinned (.plain (OpenSpec.ofChange walJoinedSpec)) walJoinedCard

/-- THE TIED CARD OF 'strandlinelaw11.WalReplays'. -/
def walReplaysCard : Claim7 := { stood := { row := walReplaysRow, standIns := [], harness := (true, "177e2cee9f2c286a742e9dd9f4d174e6c35763a722addbc0972f815f587eb9cf"), looks := true }, kinds := [], alts := [], laidByText := true, laidKinds := [.data], laidTests := true, laidLooks := .later }
def WalReplaysCardSaid : Prop := Claim7.holds Tryz.pinned (.plain (OpenSpec.ofChange walReplaysSpec)) walReplaysCard

/-- THE TIED CARD OF 'strandlinelaw11.WalKeeps'. -/
def walKeepsCard : Claim7 := { stood := { row := walKeepsRow, standIns := [], harness := (true, "177e2cee9f2c286a742e9dd9f4d174e6c35763a722addbc0972f815f587eb9cf"), looks := true }, kinds := [], alts := [], laidByText := true, laidKinds := [.data], laidTests := true, laidLooks := .later }
def WalKeepsCardSaid : Prop := Claim7.holds Tryz.pinned (.plain (OpenSpec.ofChange walKeepsSpec)) walKeepsCard

/-- THE SECOND FORM's CARD OF 'strandlinelaw11.WalJoined'. -/
def walJoinedUptoCard : Claim7 := { stood := { row := walJoinedUptoRow, standIns := [], harness := (true, "177e2cee9f2c286a742e9dd9f4d174e6c35763a722addbc0972f815f587eb9cf"), looks := true }, kinds := [], alts := [], laidByText := true, laidKinds := [.data], laidTests := true, laidLooks := .later }
def WalJoinedUptoCardSaid : Prop := Claim7.holds Tryz.pinned (.plain (OpenSpec.upto walJoinedSpec)) walJoinedUptoCard

/-- THE SECOND FORM's CARD OF 'strandlinelaw11.WalReplays'. -/
def walReplaysUptoCard : Claim7 := { stood := { row := walReplaysUptoRow, standIns := [], harness := (true, "177e2cee9f2c286a742e9dd9f4d174e6c35763a722addbc0972f815f587eb9cf"), looks := true }, kinds := [], alts := [], laidByText := true, laidKinds := [.data], laidTests := true, laidLooks := .later }
def WalReplaysUptoCardSaid : Prop := Claim7.holds Tryz.pinned (.plain (OpenSpec.upto walReplaysSpec)) walReplaysUptoCard

/-- THE SECOND FORM's CARD OF 'strandlinelaw11.WalKeeps'. -/
def walKeepsUptoCard : Claim7 := { stood := { row := walKeepsUptoRow, standIns := [], harness := (true, "177e2cee9f2c286a742e9dd9f4d174e6c35763a722addbc0972f815f587eb9cf"), looks := true }, kinds := [], alts := [], laidByText := true, laidKinds := [.data], laidTests := true, laidLooks := .later }
def WalKeepsUptoCardSaid : Prop := Claim7.holds Tryz.pinned (.plain (OpenSpec.upto walKeepsSpec)) walKeepsUptoCard
end Rows
end Go.Proofs.YtijedkfekmopnaaGreatDoor
