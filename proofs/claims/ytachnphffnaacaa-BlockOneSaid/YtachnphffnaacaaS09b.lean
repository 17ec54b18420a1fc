/- A part of a proof: see the last text of this claim. -/
import Derived.Test.YtachnphffnaacaaS09
import Derived.Test.YtachnphffnaacaaQ09e
set_option linter.unusedVariables false
open Go Go.GV
namespace Go.Proofs.Ytachnphffnaacaa
open Go.ChangeShapes Go.WideShapes Go.ChangeAt Go.RowKit
theorem oneWalk (H : Heap) (vs : List Value) (h : OkArgs Try.prog H [33, 22] vs) : CallH Try.prog 5 ⟨vs⟩ H fun v H' => v = .bool true ∧ Fr [] H H' := by
  obtain ⟨v0, _, rfl, h0, v1, _, rfl, h1, rfl⟩ := h
  obtain ⟨a, n, c, xs, rfl, hs⟩ := steps_in h0
  obtain ⟨z, rfl, hz⟩ := h1.int Try.underlying22
  exact One_ok hs (wf_u64 hz)
end Go.Proofs.Ytachnphffnaacaa
