/- A part of a proof: see the last text of this claim. -/
import Derived.Test.YtmclknfhehoadaaGvOpen
import Derived.Test.YtmclknfhehoadaaQ12
set_option linter.unusedVariables false
open Go Go.GV
namespace Go.Proofs.Ytmclknfhehoadaa
open Go.ChangeShapes Go.WideShapes Go.ChangeAt Go.RowKit
theorem own : ownKnob Try.prog.godebug = none := by kernel_rfl
theorem laid : laidOutB Try.prog = true := by kernel_rfl

/-- Tombs that came in. -/
theorem tombs_in {H : Heap} {v : Value} (h : OkA Try.prog H 22 v) : ∃ a n c xs, v = .slice a n c ∧ Sl encT H a n c xs ∧ ∀ x ∈ xs, I64 x.2.1 ∧ I64 x.2.2 := by
  obtain ⟨a, n, c, xs, rfl, hs, _, hg⟩ := h.sl (E := encT) (G := fun x => I64 x.2.1 ∧ I64 x.2.2) Try.underlying22 (by kernel_rfl) fun m r hr hl => by
    obtain ⟨_, hf⟩ := hr.struct Try.underlying28
    obtain ⟨c0, c1, c2, rfl⟩ := three_of hl
    obtain ⟨_, h0⟩ := hf 0 _ rfl
    obtain ⟨_, h1⟩ := hf 1 _ rfl
    obtain ⟨x0, e0, _⟩ := OkC.int Try.underlying3 h0
    obtain ⟨_, hf1⟩ := h1.struct Try.underlying26
    obtain ⟨_, h2⟩ := hf1 0 _ rfl
    obtain ⟨_, h3⟩ := hf1 1 _ rfl
    obtain ⟨x1, e1, w1⟩ := OkC.int Try.underlying3 h2
    obtain ⟨x2, e2, w2⟩ := OkC.int Try.underlying3 h3
    have hc : Try.prog.cellsOf 3 = 1 := by kernel_rfl
    have hc2 : Try.prog.cellsOf 26 = 2 := by kernel_rfl
    simp [hc] at e0
    simp [hc, hc2] at e1 e2
    exact ⟨(x0, x1, x2), by rw [e0, e1, e2]; rfl, wf_i64 w1, wf_i64 w2⟩
  exact ⟨a, n, c, xs, rfl, hs, hg⟩
theorem wf_u8 {x : Int} (h : (Lit.int .u8 x).wf = true) : 0 ≤ x ∧ x ≤ 255 := by
  simp only [Lit.wf, Bool.and_eq_true, decide_eq_true_eq] at h
  exact h
theorem normsWalk (H : Heap) (vs : List Value) (h : OkArgs Try.prog H [22, 3, 3] vs) : CallH Try.prog 3 ⟨vs⟩ H fun v H' => v = .bool true ∧ Fr [] H H' := by
  obtain ⟨v0, _, rfl, h0, v1, _, rfl, h1, v2, _, rfl, h2, rfl⟩ := h
  obtain ⟨a, n, c, xs, rfl, hs, _⟩ := tombs_in h0
  obtain ⟨x, rfl, _⟩ := h1.int Try.underlying3
  obtain ⟨y, rfl, _⟩ := h2.int Try.underlying3
  exact Norms_ok hs
theorem turnedWalk (H : Heap) (vs : List Value) (h : OkArgs Try.prog H [22, 5] vs) : CallH Try.prog 4 ⟨vs⟩ H fun v H' => v = .bool true ∧ Fr [] H H' := by
  obtain ⟨v0, _, rfl, h0, v1, _, rfl, h1, rfl⟩ := h
  obtain ⟨a, n, c, xs, rfl, hs, _⟩ := tombs_in h0
  obtain ⟨x, rfl, hx⟩ := h1.int Try.underlying5
  exact Turned_ok hs (wf_u8 hx)
end Go.Proofs.Ytmclknfhehoadaa
