/- IndexDecodes (law 07): for every input the law returns true, and its arguments read as before. No condition. -/
import Derived.Test.YtddfciphdbdemaaS07d
set_option linter.unusedVariables false
open Go Go.GV
namespace Go.Proofs.Ytddfciphdbdemaa
open Go.ChangeShapes Go.WideShapes Go.ChangeAt Go.RowKit

namespace SaidIndexDecodes
theorem fn (X : Type) : ∀ ds : List (DataW X), ds.length = ([9] : List TypeId).length → Rows.indexDecodesSpec.fn X ds = { results := [.lit (.bool true)], args := ds } := fun ds h => by
  match ds, h with
  | [d1], _ => rfl
set_option maxRecDepth 100000 in
theorem lifted (os : Os) (started : os.Started) (X : Type) (enc : TypeId × Value → X) :
    ReturnsInHanded {} Try.checked os 9 .any (Rows.indexDecodesSpec.pre6 enc Try.prog Try.f9 Rows.indexDecodesRow.domain false) (Rows.indexDecodesSpec.post enc Try.prog Try.f9 false true false false) := by
  refine returnsInHanded_of_change (C := Try.checked) own started (by kernel_rfl) Try.func9
    (ChangeSpec.witness6 (enc := enc) (C := Try.checked) false ⟨#[], #[.string ⟨#[]⟩], []⟩ 8 (by kernel_rfl) (by kernel_rfl) (by kernel_rfl) (by kernel_rfl)) ?_
  intro W base args ds gs before hval hW _ _
  exact law_said (tb := 4) Try.params9 rfl (fn X) (by kernel_rfl) Try.underlying4 (by kernel_rfl) laid decodesWalk W base args ds gs before hval hW
theorem over : Rows.indexDecodesRow.holds Try.pinned (OpenSpec.ofChange Rows.indexDecodesSpec) :=
  OpenClaim.holds_of_wide 9 Try.f9 rfl rfl rfl rfl rfl rfl rfl ⟨rfl, rfl, rfl, rfl, rfl⟩ rfl rfl rfl rfl rfl (by kernel_rfl) Try.func9 (by kernel_rfl)
    (of_decide_eq_true (by kernel_rfl)) (by unfold Func.isWrapper; first | (rw [if_pos (by decide +kernel)]; kernel_rfl) | (rw [if_neg (by decide +kernel)]; exact ⟨rfl, rfl⟩))
    (fun os started X enc _ => lifted os started X enc)
end SaidIndexDecodes
theorem indexDecodesProved : Rows.IndexDecodesSaid := SaidIndexDecodes.over

end Go.Proofs.Ytddfciphdbdemaa
