/- WalKeeps (law 11): for every input the law returns true, and its arguments read as before. The laid table is tied to the program's text by the card. -/
import Derived.Test.YtijedkfekmopnaaGreatDoorSRb
import Derived.Test.YtijedkfekmopnaaGreatDoorCards
import Derived.SevenTiedAt
set_option linter.unusedVariables false
open Go Go.GV
namespace Go.Proofs.YtijedkfekmopnaaGreatDoor
open Go.ChangeShapes Go.WideShapes Go.ChangeAt Go.RowKit
namespace SaidWalKeeps
theorem fn (X : Type) : ∀ ds : List (DataW X), ds.length = ([5, 50, 5] : List TypeId).length → Rows.walKeepsSpec.fn X ds = { results := [.lit (.bool true)], args := ds } := fun ds h => by
  match ds, h with
  | [d1, d2, d3], _ => rfl
set_option maxRecDepth 100000 in
theorem lifted (os : Os) (started : os.Started) (X : Type) (enc : TypeId × Value → X) :
    ReturnsInHanded {} Tryz.checked os 5 .any (fun w args => (Rows.walKeepsSpec.pre enc Tryz.prog Tryz.f5 [] false w args ∧ laidMetH Tryz.prog laids w) ∧ sizedMet enc Tryz.prog Tryz.f5 (OpenSpec.ofChange Rows.walKeepsSpec) false w args)
      (Rows.walKeepsSpec.post enc Tryz.prog Tryz.f5 false true false false) := by
  refine returnsInHanded_of_change_and (C := Tryz.checked) (X := fun w _ => laidMetH Tryz.prog laids w) (fun _ _ _ hh h => h.of_heap hh) own started (by kernel_rfl) Tryz.func5
    (ChangeSpec.witness_shaped (enc := enc) (C := Tryz.checked) (os := os) (X := fun w _ => laidMetH Tryz.prog laids w) false (World.doorLaid Tryz.prog 400 os) #[.int .u8 0, .slice none 0 0, .int .u8 0] 8 rfl (World.shaped_of_RefB (by kernel_rfl) (by kernel_rfl)) (by kernel_rfl) (by kernel_rfl) (by kernel_rfl) (door_met os _)) ?_
  intro W base args ds gs before hval hW _ _ hL _
  exact law_saidH (tb := 4) Tryz.params5 rfl (fn X) (by kernel_rfl) Tryz.underlying4 (by kernel_rfl) laidO W base args ds gs before (fun h => keepsWalk h (tab_of hL)) hval hW
theorem over : Rows.WalKeepsSaid :=
  OpenClaim.holds_of_wide 5 Tryz.f5 rfl rfl rfl rfl rfl rfl rfl ⟨rfl, rfl, rfl, rfl, rfl⟩ rfl rfl rfl rfl rfl (by kernel_rfl) Tryz.func5 (by kernel_rfl)
    (of_decide_eq_true (by kernel_rfl)) (by unfold Func.isWrapper; first | (rw [if_pos (by decide +kernel)]; kernel_rfl) | (rw [if_neg (by decide +kernel)]; exact ⟨rfl, rfl⟩))
    (fun os started X enc _ => lifted os started X enc)
end SaidWalKeeps
theorem walKeepsProved : Rows.WalKeepsCardSaid :=
  Claim7.holds_tied_plain_at .later [] [.data] true (true, "177e2cee9f2c286a742e9dd9f4d174e6c35763a722addbc0972f815f587eb9cf") true
    SaidWalKeeps.over (fun _ h => by cases h) (by kernel_rfl) (fun _ h => by cases h) walKeeps_row_tie rfl ⟨rfl, rfl⟩ (by kernel_rfl) rfl
    (fun f fn hf hfn => by
      obtain rfl : f = 5 := Option.some.inj ((show Tryz.prog.funcNamed "strandline/strandlinelaw11.WalKeeps" = some 5 by kernel_rfl).symm.trans hf) |>.symm
      obtain rfl : fn = Tryz.f5 := (Option.some.inj (Tryz.func5.symm.trans hfn)).symm
      exact ⟨by kernel_rfl, fun j t ht => by
        rw [Tryz.params5] at ht
        have hm : t ∈ [5, 50, 5] := by simpa using Array.mem_of_getElem? ht
        have hall : ([5, 50, 5].all fun u => !Tryz.prog.wantsStandIn u) = true := by kernel_rfl
        exact (show Tryz.prog.wantsStandIn t = false by simpa using List.all_eq_true.1 hall t hm)⟩)
    (by kernel_rfl)
end Go.Proofs.YtijedkfekmopnaaGreatDoor
