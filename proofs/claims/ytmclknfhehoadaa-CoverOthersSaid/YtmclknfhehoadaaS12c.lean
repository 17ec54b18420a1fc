/- A part of a proof: see the last text of this claim. -/
import Derived.Test.YtmclknfhehoadaaS12
import Derived.Test.YtmclknfhehoadaaQ12c
set_option linter.unusedVariables false
open Go Go.GV
namespace Go.Proofs.Ytmclknfhehoadaa
open Go.ChangeShapes Go.WideShapes Go.ChangeAt Go.RowKit
/-- Samples that came in. -/
theorem smps_in {H : Heap} {v : Value} (h : OkA Try.prog H 33 v) : ∃ a n c xs, v = .slice a n c ∧ Sl encS H a n c xs := by
  obtain ⟨a, n, c, xs, rfl, hs, _, _⟩ := h.sl (E := encS) (G := fun _ => True) Try.underlying33 (by kernel_rfl) fun m r hr hl => by
    obtain ⟨_, hf⟩ := hr.struct Try.underlying36
    obtain ⟨c0, c1, rfl⟩ := two_of hl
    obtain ⟨_, h0⟩ := hf 0 _ rfl
    obtain ⟨_, h1⟩ := hf 1 _ rfl
    obtain ⟨x0, e0, _⟩ := OkC.int Try.underlying3 h0
    obtain ⟨x1, e1, _⟩ := OkC.int Try.underlying3 h1
    have hc : Try.prog.cellsOf 3 = 1 := by kernel_rfl
    simp [hc] at e0 e1
    exact ⟨(x0, x1), by rw [e0, e1]; rfl, trivial⟩
  exact ⟨a, n, c, xs, rfl, hs⟩
theorem leftWalk (H : Heap) (vs : List Value) (h : OkArgs Try.prog H [22, 3, 33] vs) : CallH Try.prog 6 ⟨vs⟩ H fun v H' => v = .bool true ∧ Fr [] H H' := by
  obtain ⟨v0, _, rfl, h0, v1, _, rfl, h1, v2, _, rfl, h2, rfl⟩ := h
  obtain ⟨a, n, c, xs, rfl, hs, _⟩ := tombs_in h0
  obtain ⟨x, rfl, _⟩ := h1.int Try.underlying3
  obtain ⟨a2, n2, c2, ys, rfl, hs2⟩ := smps_in h2
  exact LeftLaw_ok hs hs2
theorem twiceWalk (H : Heap) (vs : List Value) (h : OkArgs Try.prog H [22, 22, 3, 33] vs) : CallH Try.prog 7 ⟨vs⟩ H fun v H' => v = .bool true ∧ Fr [] H H' := by
  obtain ⟨v0, _, rfl, h0, v1, _, rfl, h1, v2, _, rfl, h2, v3, _, rfl, h3, rfl⟩ := h
  obtain ⟨a, n, c, xs, rfl, hs, _⟩ := tombs_in h0
  obtain ⟨a1, n1, c1, xs1, rfl, hs1, _⟩ := tombs_in h1
  obtain ⟨x, rfl, _⟩ := h2.int Try.underlying3
  obtain ⟨a2, n2, c2, ys, rfl, hs2⟩ := smps_in h3
  exact TwiceLaw_ok hs hs1 hs2
theorem othersWalk (H : Heap) (vs : List Value) (h : OkArgs Try.prog H [22, 3, 3, 33] vs) : CallH Try.prog 8 ⟨vs⟩ H fun v H' => v = .bool true ∧ Fr [] H H' := by
  obtain ⟨v0, _, rfl, h0, v1, _, rfl, h1, v2, _, rfl, h2, v3, _, rfl, h3, rfl⟩ := h
  obtain ⟨a, n, c, xs, rfl, hs, _⟩ := tombs_in h0
  obtain ⟨x, rfl, _⟩ := h1.int Try.underlying3
  obtain ⟨y, rfl, _⟩ := h2.int Try.underlying3
  obtain ⟨a2, n2, c2, ys, rfl, hs2⟩ := smps_in h3
  exact OthersLaw_ok hs hs2
end Go.Proofs.Ytmclknfhehoadaa
