/- FilesCuts (law 10): for every input the law returns true, and its arguments read as before. No condition. -/
import Derived.Test.YtgjbljhocedpfaaL10k
set_option linter.unusedVariables false
open Go Go.GV
namespace Go.Proofs.Ytgjbljhocedpfaa
open Go.ChangeShapes Go.WideShapes Go.ChangeAt Go.RowKit

namespace SaidFilesCuts
theorem fn (X : Type) : ∀ ds : List (DataW X), ds.length = ([5, 22, 22, 3, 31] : List TypeId).length → Rows.filesCutsSpec.fn X ds = { results := [.lit (.bool true)], args := ds } := fun ds h => by
  match ds, h with
  | [d1, d2, d3, d4, d5], _ => rfl
set_option maxRecDepth 100000 in
theorem lifted (os : Os) (started : os.Started) (X : Type) (enc : TypeId × Value → X) :
    ReturnsInHanded {} Try.checked os 7 .any (Rows.filesCutsSpec.pre6 enc Try.prog Try.f7 Rows.filesCutsRow.domain false) (Rows.filesCutsSpec.post enc Try.prog Try.f7 false true false false) := by
  refine returnsInHanded_of_change (C := Try.checked) own started (by kernel_rfl) Try.func7
    (ChangeSpec.witness6 (enc := enc) (C := Try.checked) false ⟨#[], #[.int .u8 0, .slice none 0 0, .slice none 0 0, .int .i64 0, .int .u64 0], []⟩ 8 (by kernel_rfl) (by kernel_rfl) (by kernel_rfl) (by kernel_rfl)) ?_
  intro W base args ds gs before hval hW _ _
  exact law_said (tb := 4) Try.params7 rfl (fn X) (by kernel_rfl) Try.underlying4 (by kernel_rfl) laid cutsWalk W base args ds gs before hval hW
theorem over : Rows.filesCutsRow.holds Try.pinned (OpenSpec.ofChange Rows.filesCutsSpec) :=
  OpenClaim.holds_of_wide 7 Try.f7 rfl rfl rfl rfl rfl rfl rfl ⟨rfl, rfl, rfl, rfl, rfl⟩ rfl rfl rfl rfl rfl (by kernel_rfl) Try.func7 (by kernel_rfl)
    (of_decide_eq_true (by kernel_rfl)) (by unfold Func.isWrapper; first | (rw [if_pos (by decide +kernel)]; kernel_rfl) | (rw [if_neg (by decide +kernel)]; exact ⟨rfl, rfl⟩))
    (fun os started X enc _ => lifted os started X enc)
end SaidFilesCuts
theorem filesCutsProved : Rows.FilesCutsSaid := SaidFilesCuts.over

end Go.Proofs.Ytgjbljhocedpfaa
