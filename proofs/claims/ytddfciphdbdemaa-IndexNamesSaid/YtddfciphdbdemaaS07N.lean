/- IndexNames (law 07): for every input the law returns true, and its arguments read as before. No condition. -/
import Derived.Test.YtddfciphdbdemaaS07e
set_option linter.unusedVariables false
open Go Go.GV
namespace Go.Proofs.Ytddfciphdbdemaa
open Go.ChangeShapes Go.WideShapes Go.ChangeAt Go.RowKit

namespace SaidIndexNames
theorem fn (X : Type) : ∀ ds : List (DataW X), ds.length = ([22,9] : List TypeId).length → Rows.indexNamesSpec.fn X ds = { results := [.lit (.bool true)], args := ds } := fun ds h => by
  match ds, h with
  | [d1, d2], _ => rfl
set_option maxRecDepth 100000 in
theorem lifted (os : Os) (started : os.Started) (X : Type) (enc : TypeId × Value → X) :
    ReturnsInHanded {} Try.checked os 10 .any (Rows.indexNamesSpec.pre6 enc Try.prog Try.f10 Rows.indexNamesRow.domain false) (Rows.indexNamesSpec.post enc Try.prog Try.f10 false true false false) := by
  refine returnsInHanded_of_change (C := Try.checked) own started (by kernel_rfl) Try.func10
    (ChangeSpec.witness6 (enc := enc) (C := Try.checked) false ⟨#[], #[.slice none 0 0, .string ⟨#[]⟩], []⟩ 8 (by kernel_rfl) (by kernel_rfl) (by kernel_rfl) (by kernel_rfl)) ?_
  intro W base args ds gs before hval hW _ _
  exact law_said (tb := 4) Try.params10 rfl (fn X) (by kernel_rfl) Try.underlying4 (by kernel_rfl) laid namesWalk W base args ds gs before hval hW
theorem over : Rows.indexNamesRow.holds Try.pinned (OpenSpec.ofChange Rows.indexNamesSpec) :=
  OpenClaim.holds_of_wide 10 Try.f10 rfl rfl rfl rfl rfl rfl rfl ⟨rfl, rfl, rfl, rfl, rfl⟩ rfl rfl rfl rfl rfl (by kernel_rfl) Try.func10 (by kernel_rfl)
    (of_decide_eq_true (by kernel_rfl)) (by unfold Func.isWrapper; first | (rw [if_pos (by decide +kernel)]; kernel_rfl) | (rw [if_neg (by decide +kernel)]; exact ⟨rfl, rfl⟩))
    (fun os started X enc _ => lifted os started X enc)
end SaidIndexNames
theorem indexNamesProved : Rows.IndexNamesSaid := SaidIndexNames.over

end Go.Proofs.Ytddfciphdbdemaa
