/- A part of a proof: see the last text of this claim. -/
import Derived.Test.YtachnphffnaacaaS09
import Derived.Test.YtachnphffnaacaaR09c
set_option linter.unusedVariables false
open Go Go.GV
namespace Go.Proofs.Ytachnphffnaacaa
open Go.ChangeShapes Go.WideShapes Go.ChangeAt Go.RowKit
/-- Steps that came in, and what their numbers are. -/
theorem steps_fine {H : Heap} {v : Value} (h : OkA Try.prog H 33 v) : ∃ a n c xs, v = .slice a n c ∧ Sl encStep H a n c xs ∧ ∀ x ∈ xs, fine9 x := by
  obtain ⟨a, n, c, xs, rfl, hs, _, hg⟩ := h.sl (E := encStep) (G := fine9) Try.underlying33 (by kernel_rfl) fun m r hr hl => by
    obtain ⟨_, hf⟩ := hr.struct Try.underlying36
    obtain ⟨c0, c1, c2, c3, rfl⟩ := four_of hl
    obtain ⟨_, h0⟩ := hf 0 _ rfl
    obtain ⟨_, h1⟩ := hf 1 _ rfl
    obtain ⟨_, h2⟩ := hf 2 _ rfl
    obtain ⟨_, h3⟩ := hf 3 _ rfl
    obtain ⟨x0, e0, _⟩ := OkC.int Try.underlying3 h0
    obtain ⟨x1, e1, w1⟩ := OkC.int Try.underlying3 h1
    obtain ⟨x2, e2, _⟩ := OkC.str Try.underlying9 h2
    obtain ⟨x3, e3, w3⟩ := OkC.int Try.underlying22 h3
    have hc : Try.prog.cellsOf 3 = 1 := by kernel_rfl
    have hc9 : Try.prog.cellsOf 9 = 1 := by kernel_rfl
    have hc22 : Try.prog.cellsOf 22 = 1 := by kernel_rfl
    simp [hc] at e0 e1
    simp [hc9] at e2
    simp [hc22] at e3
    exact ⟨(x0, x1, x2, x3), by rw [e0, e1, e2, e3]; rfl, wf_i64 w1, wf_u64 w3⟩
  exact ⟨a, n, c, xs, rfl, hs, hg⟩
theorem scriptWalk (H : Heap) (vs : List Value) (h : OkArgs Try.prog H [3, 33] vs) : CallH Try.prog 7 ⟨vs⟩ H fun v H' => v = .bool true ∧ Fr [] H H' := by
  obtain ⟨v0, _, rfl, h0, v1, _, rfl, h1, rfl⟩ := h
  obtain ⟨x, rfl, _⟩ := h0.int Try.underlying3
  obtain ⟨a, n, c, xs, rfl, hs, hg⟩ := steps_fine h1
  exact Script_ok hs hg
end Go.Proofs.Ytachnphffnaacaa
