/- A part of a proof: see the last text of this claim. -/
import Derived.Test.YtddfciphdbdemaaS07
import Derived.Test.YtddfciphdbdemaaR07c
set_option linter.unusedVariables false
open Go Go.GV
namespace Go.Proofs.Ytddfciphdbdemaa
open Go.ChangeShapes Go.WideShapes Go.ChangeAt Go.RowKit
theorem namesWalk (H : Heap) (vs : List Value) (h : OkArgs Try.prog H [22, 9] vs) : CallH Try.prog 10 ⟨vs⟩ H fun v H' => v = .bool true ∧ Fr [] H H' := by
  obtain ⟨v0, _, rfl, h0, v1, _, rfl, h1, rfl⟩ := h
  obtain ⟨a, n, c, hs, L, rfl, hsl, hL⟩ := lists_in h0
  obtain ⟨s, rfl, _⟩ := h1.str Try.underlying9
  exact NamesL_ok hsl hL
end Go.Proofs.Ytddfciphdbdemaa
