/- A part of a proof: see the last text of this claim. -/
import Derived.Test.YtnkkjfgelgdgcaaGvOpen
import Derived.Test.YtnkkjfgelgdgcaaL18
set_option linter.unusedVariables false
open Go Go.GV
namespace Go.Proofs.Ytnkkjfgelgdgcaa
open Go.ChangeShapes Go.WideShapes Go.ChangeAt Go.RowKit
theorem own : ownKnob Try.prog.godebug = none := by kernel_rfl
theorem laid : laidOutB Try.prog = true := by kernel_rfl

/-- Steps that came in. -/
theorem steps_in {H : Heap} {v : Value} (h : OkA Try.prog H 22 v) : ∃ a n c xs, v = .slice a n c ∧ Sl encStep H a n c xs := by
  obtain ⟨a, n, c, xs, rfl, hs, _, _⟩ := h.sl (E := encStep) (G := fun _ => True) Try.underlying22 (by kernel_rfl) fun m r hr hl => by
    obtain ⟨_, hf⟩ := hr.struct Try.underlying28
    match r, hl with
    | [c0, c1, c2, c3], _ =>
      obtain ⟨_, h0⟩ := hf 0 _ rfl
      obtain ⟨_, h1⟩ := hf 1 _ rfl
      obtain ⟨_, h2⟩ := hf 2 _ rfl
      obtain ⟨_, h3⟩ := hf 3 _ rfl
      obtain ⟨x0, e0, _⟩ := OkC.int Try.underlying3 h0
      obtain ⟨x1, e1, _⟩ := OkC.int Try.underlying3 h1
      obtain ⟨x2, e2, _⟩ := OkC.int Try.underlying3 h2
      obtain ⟨x3, e3, _⟩ := OkC.int Try.underlying3 h3
      have hc : Try.prog.cellsOf 3 = 1 := by kernel_rfl
      simp [hc] at e0 e1 e2 e3
      exact ⟨(x0, x1, x2, x3), by rw [e0, e1, e2, e3]; rfl, trivial⟩
  exact ⟨a, n, c, xs, rfl, hs⟩

theorem restsWalk (H : Heap) (vs : List Value) (h : OkArgs Try.prog H [22, 3, 4] vs) : CallH Try.prog 4 ⟨vs⟩ H fun v H' => v = .bool true ∧ Fr [] H H' := by
  obtain ⟨v0, _, rfl, h0, v1, _, rfl, h1, v2, _, rfl, h2, rfl⟩ := h
  obtain ⟨a, n, c, xs, rfl, hs⟩ := steps_in h0
  obtain ⟨day, rfl, _⟩ := h1.int Try.underlying3
  obtain ⟨k, rfl⟩ := h2.bool Try.underlying4
  exact Rests_ok hs

theorem halvesWalk (H : Heap) (vs : List Value) (h : OkArgs Try.prog H [22, 3] vs) : CallH Try.prog 5 ⟨vs⟩ H fun v H' => v = .bool true ∧ Fr [] H H' := by
  obtain ⟨v0, _, rfl, h0, v1, _, rfl, h1, rfl⟩ := h
  obtain ⟨a, n, c, xs, rfl, hs⟩ := steps_in h0
  obtain ⟨day, rfl, _⟩ := h1.int Try.underlying3
  exact Halves_ok hs
theorem wf_u16 {x : Int} (h : (Lit.int .u16 x).wf = true) : 0 ≤ x ∧ x ≤ 65535 := by
  simp only [Lit.wf, Bool.and_eq_true, decide_eq_true_eq] at h
  exact h
theorem apartWalk (H : Heap) (vs : List Value) (h : OkArgs Try.prog H [22, 3, 23, 23, 4] vs) : CallH Try.prog 3 ⟨vs⟩ H fun v H' => v = .bool true ∧ Fr [] H H' := by
  obtain ⟨v0, _, rfl, h0, v1, _, rfl, h1, v2, _, rfl, h2, v3, _, rfl, h3, v4, _, rfl, h4, rfl⟩ := h
  obtain ⟨a, n, c, xs, rfl, hs⟩ := steps_in h0
  obtain ⟨day, rfl, _⟩ := h1.int Try.underlying3
  obtain ⟨x, rfl, hx⟩ := h2.int Try.underlying23
  obtain ⟨y, rfl, hy⟩ := h3.int Try.underlying23
  obtain ⟨k, rfl⟩ := h4.bool Try.underlying4
  exact Apart_ok hs (wf_u16 hx) (wf_u16 hy)

theorem ints_in {H : Heap} {v : Value} (h : OkA Try.prog H 39 v) : ∃ a n c xs, v = .slice a n c ∧ Sl encInt H a n c xs := by
  obtain ⟨a, n, c, xs, rfl, hs, _, _⟩ := h.sl (E := encInt) (G := fun _ => True) Try.underlying39 (by kernel_rfl) fun m r hr hl => by
    obtain ⟨x, rfl, _⟩ := OkC.int Try.underlying3 hr
    exact ⟨x, rfl, trivial⟩
  exact ⟨a, n, c, xs, rfl, hs⟩
theorem scriptWalk (H : Heap) (vs : List Value) (h : OkArgs Try.prog H [22, 39, 39] vs) : CallH Try.prog 6 ⟨vs⟩ H fun v H' => v = .bool true ∧ Fr [] H H' := by
  obtain ⟨v0, _, rfl, h0, v1, _, rfl, h1, v2, _, rfl, h2, rfl⟩ := h
  obtain ⟨a, n, c, xs, rfl, hs⟩ := steps_in h0
  obtain ⟨a1, n1, c1, xs1, rfl, hs1⟩ := ints_in h1
  obtain ⟨a2, n2, c2, xs2, rfl, hs2⟩ := ints_in h2
  exact Script_ok hs hs1 hs2
end Go.Proofs.Ytnkkjfgelgdgcaa
