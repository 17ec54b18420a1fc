/- WalEncodes (law 11): for every input the law returns true, and its arguments read as before. No condition. -/
import Derived.Test.YtijedkfekmopnaaS11
set_option linter.unusedVariables false
open Go Go.GV
namespace Go.Proofs.Ytijedkfekmopnaa
open Go.ChangeShapes Go.WideShapes Go.ChangeAt Go.RowKit

namespace SaidWalEncodes
theorem fn (X : Type) : ∀ ds : List (DataW X), ds.length = ([26] : List TypeId).length → Rows.walEncodesSpec.fn X ds = { results := [.lit (.bool true)], args := ds } := fun ds h => by
  match ds, h with
  | [d1], _ => rfl
set_option maxRecDepth 100000 in
theorem lifted (os : Os) (started : os.Started) (X : Type) (enc : TypeId × Value → X) :
    ReturnsInHanded {} Try.checked os 3 .any (Rows.walEncodesSpec.pre6 enc Try.prog Try.f3 Rows.walEncodesRow.domain false) (Rows.walEncodesSpec.post enc Try.prog Try.f3 false true false false) := by
  refine returnsInHanded_of_change (C := Try.checked) own started (by kernel_rfl) Try.func3
    (ChangeSpec.witness6 (enc := enc) (C := Try.checked) false ⟨#[], #[.agg ⟨[.int .i64 0, .slice none 0 0, .slice none 0 0, .slice none 0 0, .int .i64 0]⟩], []⟩ 8 (by kernel_rfl) (by kernel_rfl) (by kernel_rfl) (by kernel_rfl)) ?_
  intro W base args ds gs before hval hW _ _
  exact law_said (tb := 4) Try.params3 rfl (fn X) (by kernel_rfl) Try.underlying4 (by kernel_rfl) laid encodesWalk W base args ds gs before hval hW
theorem over : Rows.walEncodesRow.holds Try.pinned (OpenSpec.ofChange Rows.walEncodesSpec) :=
  OpenClaim.holds_of_wide 3 Try.f3 rfl rfl rfl rfl rfl rfl rfl ⟨rfl, rfl, rfl, rfl, rfl⟩ rfl rfl rfl rfl rfl (by kernel_rfl) Try.func3 (by kernel_rfl)
    (of_decide_eq_true (by kernel_rfl)) (by unfold Func.isWrapper; first | (rw [if_pos (by decide +kernel)]; kernel_rfl) | (rw [if_neg (by decide +kernel)]; exact ⟨rfl, rfl⟩))
    (fun os started X enc _ => lifted os started X enc)
end SaidWalEncodes
theorem walEncodesProved : Rows.WalEncodesSaid := SaidWalEncodes.over

end Go.Proofs.Ytijedkfekmopnaa
