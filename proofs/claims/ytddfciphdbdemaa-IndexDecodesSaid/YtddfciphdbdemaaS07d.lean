/- A part of a proof: see the last text of this claim. -/
import Derived.Test.YtddfciphdbdemaaS07
import Derived.Test.YtddfciphdbdemaaQ07g
set_option linter.unusedVariables false
open Go Go.GV
namespace Go.Proofs.Ytddfciphdbdemaa
open Go.ChangeShapes Go.WideShapes Go.ChangeAt Go.RowKit
theorem backWalk (H : Heap) (vs : List Value) (h : OkArgs Try.prog H [22, 22] vs) : CallH Try.prog 8 ⟨vs⟩ H fun v H' => v = .bool true ∧ Fr [] H H' := by
  obtain ⟨v0, _, rfl, h0, v1, _, rfl, h1, rfl⟩ := h
  obtain ⟨a, n, c, hs, L, rfl, hsl, hL⟩ := lists_in h0
  obtain ⟨a1, n1, c1, gs, N, rfl, hsl1, hN⟩ := lists_in h1
  exact Back_ok hsl hL hsl1 hN
theorem decodesWalk (H : Heap) (vs : List Value) (h : OkArgs Try.prog H [9] vs) : CallH Try.prog 9 ⟨vs⟩ H fun v H' => v = .bool true ∧ Fr [] H H' := by
  obtain ⟨v0, _, rfl, h0, rfl⟩ := h
  obtain ⟨s, rfl, _⟩ := h0.str Try.underlying9
  exact Decodes_ok
end Go.Proofs.Ytddfciphdbdemaa
