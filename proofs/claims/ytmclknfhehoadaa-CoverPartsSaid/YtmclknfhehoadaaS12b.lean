/- A part of a proof: see the last text of this claim. -/
import Derived.Test.YtmclknfhehoadaaS12
import Derived.Test.YtmclknfhehoadaaQ12b
set_option linter.unusedVariables false
open Go Go.GV
namespace Go.Proofs.Ytmclknfhehoadaa
open Go.ChangeShapes Go.WideShapes Go.ChangeAt Go.RowKit
theorem partsWalk (H : Heap) (vs : List Value) (h : OkArgs Try.prog H [22, 26, 3, 3] vs) : CallH Try.prog 5 ⟨vs⟩ H fun v H' => v = .bool true ∧ Fr [] H H' := by
  obtain ⟨v0, _, rfl, h0, v1, _, rfl, h1, v2, _, rfl, h2, v3, _, rfl, h3, rfl⟩ := h
  obtain ⟨a, n, c, xs, rfl, hs, hI⟩ := tombs_in h0
  obtain ⟨cs, m, rfl, hc⟩ := h1.struct Try.underlying26
  obtain ⟨hl, hf⟩ := hc.struct Try.underlying26
  have hl : cs.length = 2 := hl.trans (by kernel_rfl)
  obtain ⟨c0, c1, rfl⟩ := two_of hl
  obtain ⟨_, h0⟩ := hf 0 _ rfl
  obtain ⟨_, h1⟩ := hf 1 _ rfl
  obtain ⟨x0, e0, _⟩ := OkC.int Try.underlying3 h0
  obtain ⟨x1, e1, _⟩ := OkC.int Try.underlying3 h1
  have hc : Try.prog.cellsOf 3 = 1 := by kernel_rfl
  simp [hc] at e0 e1
  subst e0 e1
  obtain ⟨x, rfl, _⟩ := h2.int Try.underlying3
  obtain ⟨y, rfl, _⟩ := h3.int Try.underlying3
  exact Parts_ok hs hI
end Go.Proofs.Ytmclknfhehoadaa
