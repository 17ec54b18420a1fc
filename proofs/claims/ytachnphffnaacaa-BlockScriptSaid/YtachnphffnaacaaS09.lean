/- A part of a proof: see the last text of this claim. -/
import Derived.Test.YtachnphffnaacaaGvOpen
import Derived.Test.YtachnphffnaacaaQ09c
set_option linter.unusedVariables false
open Go Go.GV
namespace Go.Proofs.Ytachnphffnaacaa
open Go.ChangeShapes Go.WideShapes Go.ChangeAt Go.RowKit
theorem own : ownKnob Try.prog.godebug = none := by kernel_rfl
theorem laid : laidOutB Try.prog = true := by kernel_rfl

/-- Steps that came in. -/
theorem steps_in {H : Heap} {v : Value} (h : OkA Try.prog H 33 v) : ∃ a n c xs, v = .slice a n c ∧ Sl encStep H a n c xs := by
  obtain ⟨a, n, c, xs, rfl, hs, _, _⟩ := h.sl (E := encStep) (G := fun _ => True) Try.underlying33 (by kernel_rfl) fun m r hr hl => by
    obtain ⟨_, hf⟩ := hr.struct Try.underlying36
    obtain ⟨c0, c1, c2, c3, rfl⟩ := four_of hl
    obtain ⟨_, h0⟩ := hf 0 _ rfl
    obtain ⟨_, h1⟩ := hf 1 _ rfl
    obtain ⟨_, h2⟩ := hf 2 _ rfl
    obtain ⟨_, h3⟩ := hf 3 _ rfl
    obtain ⟨x0, e0, _⟩ := OkC.int Try.underlying3 h0
    obtain ⟨x1, e1, _⟩ := OkC.int Try.underlying3 h1
    obtain ⟨x2, e2, _⟩ := OkC.str Try.underlying9 h2
    obtain ⟨x3, e3, _⟩ := OkC.int Try.underlying22 h3
    have hc : Try.prog.cellsOf 3 = 1 := by kernel_rfl
    have hc9 : Try.prog.cellsOf 9 = 1 := by kernel_rfl
    have hc22 : Try.prog.cellsOf 22 = 1 := by kernel_rfl
    simp [hc] at e0 e1
    simp [hc9] at e2
    simp [hc22] at e3
    exact ⟨(x0, x1, x2, x3), by rw [e0, e1, e2, e3]; rfl, trivial⟩
  exact ⟨a, n, c, xs, rfl, hs⟩
theorem wf_u8 {x : Int} (h : (Lit.int .u8 x).wf = true) : 0 ≤ x ∧ x ≤ 255 := by
  simp only [Lit.wf, Bool.and_eq_true, decide_eq_true_eq] at h
  exact h
theorem wf_u64 {x : Int} (h : (Lit.int .u64 x).wf = true) : 0 ≤ x ∧ x < 18446744073709551616 := by
  simp only [Lit.wf, Bool.and_eq_true, decide_eq_true_eq] at h
  have : x ≤ 18446744073709551615 := h.2
  exact ⟨h.1, by omega⟩
theorem cutsWalk (H : Heap) (vs : List Value) (h : OkArgs Try.prog H [5, 5, 22] vs) : CallH Try.prog 3 ⟨vs⟩ H fun v H' => v = .bool true ∧ Fr [] H H' := by
  obtain ⟨v0, _, rfl, h0, v1, _, rfl, h1, v2, _, rfl, h2, rfl⟩ := h
  obtain ⟨x, rfl, hx⟩ := h0.int Try.underlying5
  obtain ⟨y, rfl, hy⟩ := h1.int Try.underlying5
  obtain ⟨z, rfl, hz⟩ := h2.int Try.underlying22
  exact Cuts_ok (wf_u8 hx) (wf_u8 hy) (wf_u64 hz)
theorem lastsWalk (H : Heap) (vs : List Value) (h : OkArgs Try.prog H [33, 33, 22] vs) : CallH Try.prog 4 ⟨vs⟩ H fun v H' => v = .bool true ∧ Fr [] H H' := by
  obtain ⟨v0, _, rfl, h0, v1, _, rfl, h1, v2, _, rfl, h2, rfl⟩ := h
  obtain ⟨a, n, c, xs, rfl, hs⟩ := steps_in h0
  obtain ⟨a1, n1, c1, xs1, rfl, hs1⟩ := steps_in h1
  obtain ⟨z, rfl, hz⟩ := h2.int Try.underlying22
  exact Lasts_ok hs hs1 (wf_u64 hz)
theorem apartWalk (H : Heap) (vs : List Value) (h : OkArgs Try.prog H [33, 5] vs) : CallH Try.prog 6 ⟨vs⟩ H fun v H' => v = .bool true ∧ Fr [] H H' := by
  obtain ⟨v0, _, rfl, h0, v1, _, rfl, h1, rfl⟩ := h
  obtain ⟨a, n, c, xs, rfl, hs⟩ := steps_in h0
  obtain ⟨x, rfl, hx⟩ := h1.int Try.underlying5
  exact Apart_ok hs (wf_u8 hx)
end Go.Proofs.Ytachnphffnaacaa
