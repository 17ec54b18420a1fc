/- ConvertSteps (law 19): for every input the law returns true, and its arguments read as before. No condition. -/
import Derived.Test.YtjclcccjdnllgaaGreatC19d
set_option linter.unusedVariables false
open Go Go.GV
namespace Go.Proofs.YtjclcccjdnllgaaGreat
open Go.ChangeShapes Go.WideShapes Go.ChangeAt Go.RowKit

namespace SaidConvertSteps
theorem fn (X : Type) : ∀ ds : List (DataW X), ds.length = ([3, 9, 5] : List TypeId).length → Rows.convertStepsSpec.fn X ds = { results := [.lit (.bool true)], args := ds } := fun ds h => by
  match ds, h with
  | [d1, d2, d3], _ => rfl
set_option maxRecDepth 100000 in
theorem lifted (os : Os) (started : os.Started) (X : Type) (enc : TypeId × Value → X) :
    ReturnsInHanded {} Tryz.checked os 5 .any (Rows.convertStepsSpec.pre6 enc Tryz.prog Tryz.f5 Rows.convertStepsRow.domain false) (Rows.convertStepsSpec.post enc Tryz.prog Tryz.f5 false true false false) := by
  refine returnsInHanded_of_change (C := Tryz.checked) own started (by kernel_rfl) Tryz.func5
    (ChangeSpec.witness6 (enc := enc) (C := Tryz.checked) false ⟨#[], #[.int .i64 0, .string ⟨#[]⟩, .int .u8 0], []⟩ 8 (by kernel_rfl) (by kernel_rfl) (by kernel_rfl) (by kernel_rfl)) ?_
  intro W base args ds gs before hval hW _ _
  exact law_said (tb := 4) Tryz.params5 rfl (fn X) (by kernel_rfl) Tryz.underlying4 (by kernel_rfl) laid stepsWalk W base args ds gs before hval hW
theorem over : Rows.convertStepsRow.holds Tryz.pinned (OpenSpec.ofChange Rows.convertStepsSpec) :=
  OpenClaim.holds_of_wide 5 Tryz.f5 rfl rfl rfl rfl rfl rfl rfl ⟨rfl, rfl, rfl, rfl, rfl⟩ rfl rfl rfl rfl rfl (by kernel_rfl) Tryz.func5 (by kernel_rfl)
    (of_decide_eq_true (by kernel_rfl)) (by unfold Func.isWrapper; first | (rw [if_pos (by decide +kernel)]; kernel_rfl) | (rw [if_neg (by decide +kernel)]; exact ⟨rfl, rfl⟩))
    (fun os started X enc _ => lifted os started X enc)
end SaidConvertSteps
theorem convertStepsProved : Rows.ConvertStepsSaid := SaidConvertSteps.over

end Go.Proofs.YtjclcccjdnllgaaGreat
