/- ConvertTurns (law 19): for every input the law returns true, and its arguments read as before. No condition. -/
import Derived.Test.YtjclcccjdnllgaaGreatC19d
set_option linter.unusedVariables false
open Go Go.GV
namespace Go.Proofs.YtjclcccjdnllgaaGreat
open Go.ChangeShapes Go.WideShapes Go.ChangeAt Go.RowKit

namespace SaidConvertTurns
theorem fn (X : Type) : ∀ ds : List (DataW X), ds.length = ([22, 4] : List TypeId).length → Rows.convertTurnsSpec.fn X ds = { results := [.lit (.bool true)], args := ds } := fun ds h => by
  match ds, h with
  | [d1, d2], _ => rfl
set_option maxRecDepth 100000 in
theorem lifted (os : Os) (started : os.Started) (X : Type) (enc : TypeId × Value → X) :
    ReturnsInHanded {} Tryz.checked os 6 .any (Rows.convertTurnsSpec.pre6 enc Tryz.prog Tryz.f6 Rows.convertTurnsRow.domain false) (Rows.convertTurnsSpec.post enc Tryz.prog Tryz.f6 false true false false) := by
  refine returnsInHanded_of_change (C := Tryz.checked) own started (by kernel_rfl) Tryz.func6
    (ChangeSpec.witness6 (enc := enc) (C := Tryz.checked) false ⟨#[], #[.slice none 0 0, .bool false], []⟩ 8 (by kernel_rfl) (by kernel_rfl) (by kernel_rfl) (by kernel_rfl)) ?_
  intro W base args ds gs before hval hW _ _
  exact law_said (tb := 4) Tryz.params6 rfl (fn X) (by kernel_rfl) Tryz.underlying4 (by kernel_rfl) laid turnsWalk W base args ds gs before hval hW
theorem over : Rows.convertTurnsRow.holds Tryz.pinned (OpenSpec.ofChange Rows.convertTurnsSpec) :=
  OpenClaim.holds_of_wide 6 Tryz.f6 rfl rfl rfl rfl rfl rfl rfl ⟨rfl, rfl, rfl, rfl, rfl⟩ rfl rfl rfl rfl rfl (by kernel_rfl) Tryz.func6 (by kernel_rfl)
    (of_decide_eq_true (by kernel_rfl)) (by unfold Func.isWrapper; first | (rw [if_pos (by decide +kernel)]; kernel_rfl) | (rw [if_neg (by decide +kernel)]; exact ⟨rfl, rfl⟩))
    (fun os started X enc _ => lifted os started X enc)
end SaidConvertTurns
theorem convertTurnsProved : Rows.ConvertTurnsSaid := SaidConvertTurns.over

end Go.Proofs.YtjclcccjdnllgaaGreat
