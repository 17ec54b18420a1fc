/- A part of a proof: see the last text of this claim. -/
import Derived.Test.YtjpjmpnlomkdbaaGvOpen
import Derived.Test.YtjpjmpnlomkdbaaQ13
set_option linter.unusedVariables false
open Go Go.GV
namespace Go.Proofs.Ytjpjmpnlomkdbaa
open Go.ChangeShapes Go.WideShapes Go.ChangeAt Go.RowKit
theorem own : ownKnob Try.prog.godebug = none := by kernel_rfl
theorem laid : laidOutB Try.prog = true := by kernel_rfl

/-- Samples that came in. -/
theorem smps_in {H : Heap} {v : Value} (h : OkA Try.prog H 22 v) : ∃ a n c xs, v = .slice a n c ∧ Sl encS H a n c xs := by
  obtain ⟨a, n, c, xs, rfl, hs, _, _⟩ := h.sl (E := encS) (G := fun _ => True) Try.underlying22 (by kernel_rfl) fun m r hr hl => by
    obtain ⟨_, hf⟩ := hr.struct Try.underlying26
    obtain ⟨c0, c1, rfl⟩ := two_of hl
    obtain ⟨_, h0⟩ := hf 0 _ rfl
    obtain ⟨_, h1⟩ := hf 1 _ rfl
    obtain ⟨x0, e0, _⟩ := OkC.int Try.underlying3 h0
    obtain ⟨x1, e1, _⟩ := OkC.int Try.underlying3 h1
    have hc : Try.prog.cellsOf 3 = 1 := by kernel_rfl
    simp [hc] at e0 e1
    exact ⟨(x0, x1), by rw [e0, e1]; rfl, trivial⟩
  exact ⟨a, n, c, xs, rfl, hs⟩

theorem winsWalk (H : Heap) (vs : List Value) (h : OkArgs Try.prog H [22, 22] vs) : CallH Try.prog 3 ⟨vs⟩ H fun v H' => v = .bool true ∧ Fr [] H H' := by
  obtain ⟨v0, _, rfl, h0, v1, _, rfl, h1, rfl⟩ := h
  obtain ⟨a, n, c, xs, rfl, hs⟩ := smps_in h0
  obtain ⟨a1, n1, c1, xs1, rfl, hs1⟩ := smps_in h1
  exact Wins_ok hs hs1
theorem cutWalk (H : Heap) (vs : List Value) (h : OkArgs Try.prog H [22, 3, 3, 3] vs) : CallH Try.prog 4 ⟨vs⟩ H fun v H' => v = .bool true ∧ Fr [] H H' := by
  obtain ⟨v0, _, rfl, h0, v1, _, rfl, h1, v2, _, rfl, h2, v3, _, rfl, h3, rfl⟩ := h
  obtain ⟨a, n, c, xs, rfl, hs⟩ := smps_in h0
  obtain ⟨x, rfl, _⟩ := h1.int Try.underlying3
  obtain ⟨y, rfl, _⟩ := h2.int Try.underlying3
  obtain ⟨z, rfl, _⟩ := h3.int Try.underlying3
  exact Cut_ok hs
theorem mergesWalk (H : Heap) (vs : List Value) (h : OkArgs Try.prog H [22, 22, 31] vs) : CallH Try.prog 5 ⟨vs⟩ H fun v H' => v = .bool true ∧ Fr [] H H' := by
  obtain ⟨v0, _, rfl, h0, v1, _, rfl, h1, v2, _, rfl, h2, rfl⟩ := h
  obtain ⟨a, n, c, xs, rfl, hs⟩ := smps_in h0
  obtain ⟨a1, n1, c1, xs1, rfl, hs1⟩ := smps_in h1
  obtain ⟨cs, m, rfl, hc⟩ := h2.struct Try.underlying31
  obtain ⟨hl, hf⟩ := hc.struct Try.underlying31
  have hl : cs.length = 2 := hl.trans (by kernel_rfl)
  obtain ⟨c0, c1, rfl⟩ := two_of hl
  obtain ⟨_, h0⟩ := hf 0 _ rfl
  obtain ⟨_, h1⟩ := hf 1 _ rfl
  obtain ⟨x0, e0, _⟩ := OkC.int Try.underlying3 h0
  obtain ⟨x1, e1, _⟩ := OkC.int Try.underlying3 h1
  have hc : Try.prog.cellsOf 3 = 1 := by kernel_rfl
  simp [hc] at e0 e1
  subst e0 e1
  exact Merges_ok hs hs1
end Go.Proofs.Ytjpjmpnlomkdbaa
