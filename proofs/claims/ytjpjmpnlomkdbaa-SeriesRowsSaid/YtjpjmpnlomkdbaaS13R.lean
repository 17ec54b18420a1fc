/- SeriesRows (law 13): for every input the law returns true, and its arguments read as before. No condition. -/
import Derived.Test.YtjpjmpnlomkdbaaS13b
set_option linter.unusedVariables false
open Go Go.GV
namespace Go.Proofs.Ytjpjmpnlomkdbaa
open Go.ChangeShapes Go.WideShapes Go.ChangeAt Go.RowKit

namespace SaidSeriesRows
theorem fn (X : Type) : ∀ ds : List (DataW X), ds.length = ([34] : List TypeId).length → Rows.seriesRowsSpec.fn X ds = { results := [.lit (.bool true)], args := ds } := fun ds h => by
  match ds, h with
  | [d1], _ => rfl
set_option maxRecDepth 100000 in
theorem lifted (os : Os) (started : os.Started) (X : Type) (enc : TypeId × Value → X) :
    ReturnsInHanded {} Try.checked os 8 .any (Rows.seriesRowsSpec.pre6 enc Try.prog Try.f8 Rows.seriesRowsRow.domain false) (Rows.seriesRowsSpec.post enc Try.prog Try.f8 false true false false) := by
  refine returnsInHanded_of_change (C := Try.checked) own started (by kernel_rfl) Try.func8
    (ChangeSpec.witness6 (enc := enc) (C := Try.checked) false ⟨#[], #[.slice none 0 0], []⟩ 8 (by kernel_rfl) (by kernel_rfl) (by kernel_rfl) (by kernel_rfl)) ?_
  intro W base args ds gs before hval hW _ _
  exact law_said (tb := 4) Try.params8 rfl (fn X) (by kernel_rfl) Try.underlying4 (by kernel_rfl) laid rowsWalk W base args ds gs before hval hW
theorem over : Rows.seriesRowsRow.holds Try.pinned (OpenSpec.ofChange Rows.seriesRowsSpec) :=
  OpenClaim.holds_of_wide 8 Try.f8 rfl rfl rfl rfl rfl rfl rfl ⟨rfl, rfl, rfl, rfl, rfl⟩ rfl rfl rfl rfl rfl (by kernel_rfl) Try.func8 (by kernel_rfl)
    (of_decide_eq_true (by kernel_rfl)) (by unfold Func.isWrapper; first | (rw [if_pos (by decide +kernel)]; kernel_rfl) | (rw [if_neg (by decide +kernel)]; exact ⟨rfl, rfl⟩))
    (fun os started X enc _ => lifted os started X enc)
end SaidSeriesRows
theorem seriesRowsProved : Rows.SeriesRowsSaid := SaidSeriesRows.over

end Go.Proofs.Ytjpjmpnlomkdbaa
