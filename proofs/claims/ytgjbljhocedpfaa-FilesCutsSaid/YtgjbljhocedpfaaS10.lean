/- A part of a proof: see the last text of this claim. -/
import Derived.Test.YtgjbljhocedpfaaGvOpen
import Derived.Test.YtgjbljhocedpfaaQ10d
set_option linter.unusedVariables false
open Go Go.GV
namespace Go.Proofs.Ytgjbljhocedpfaa
open Go.ChangeShapes Go.WideShapes Go.ChangeAt Go.RowKit
theorem own : ownKnob Try.prog.godebug = none := by kernel_rfl
theorem laid : laidOutB Try.prog = true := by kernel_rfl
theorem five_of {α : Type} {l : List α} (h : l.length = 5) : ∃ a b c d e, l = [a, b, c, d, e] := by
  match l, h with
  | [a, b, c, d, e], _ => exact ⟨a, b, c, d, e, rfl⟩
theorem wf_u64 {x : Int} (h : (Lit.int .u64 x).wf = true) : 0 ≤ x ∧ x < 18446744073709551616 := by
  simp only [Lit.wf, Bool.and_eq_true, decide_eq_true_eq] at h
  have : x ≤ 18446744073709551615 := h.2
  exact ⟨h.1, by omega⟩
theorem wf_i64 {x : Int} (h : (Lit.int .i64 x).wf = true) : I64 x := by
  simp only [Lit.wf, Bool.and_eq_true, decide_eq_true_eq] at h
  exact h
/-- What a step's fields are. -/
def Fine (o : Step10) : Prop := I64 o.2.1 ∧ 0 ≤ o.2.2.2.2 ∧ o.2.2.2.2 < 18446744073709551616
/-- Steps that came in. -/
theorem steps_in {H : Heap} {v : Value} (h : OkA Try.prog H 22 v) : ∃ a n c xs, v = .slice a n c ∧ Sl encStep H a n c xs ∧ ∀ o ∈ xs, Fine o := by
  obtain ⟨a, n, c, xs, rfl, hs, _, hg⟩ := h.sl (E := encStep) (G := Fine) Try.underlying22 (by kernel_rfl) fun m r hr hl => by
    obtain ⟨_, hf⟩ := hr.struct Try.underlying33
    obtain ⟨c0, c1, c2, c3, c4, rfl⟩ := five_of hl
    obtain ⟨_, h0⟩ := hf 0 _ rfl
    obtain ⟨_, h1⟩ := hf 1 _ rfl
    obtain ⟨_, h2⟩ := hf 2 _ rfl
    obtain ⟨_, h3⟩ := hf 3 _ rfl
    obtain ⟨_, h4⟩ := hf 4 _ rfl
    obtain ⟨x0, e0, _⟩ := OkC.int Try.underlying3 h0
    obtain ⟨x1, e1, g1⟩ := OkC.int Try.underlying3 h1
    obtain ⟨x2, e2, _⟩ := OkC.str Try.underlying9 h2
    obtain ⟨x3, e3, _⟩ := OkC.str Try.underlying9 h3
    obtain ⟨x4, e4, g4⟩ := OkC.int Try.underlying31 h4
    have hc : Try.prog.cellsOf 3 = 1 := by kernel_rfl
    have hc9 : Try.prog.cellsOf 9 = 1 := by kernel_rfl
    have hc31 : Try.prog.cellsOf 31 = 1 := by kernel_rfl
    simp [hc] at e0 e1
    simp [hc9] at e2 e3
    simp [hc31] at e4
    exact ⟨(x0, x1, x2, x3, x4), by rw [e0, e1, e2, e3, e4]; rfl, wf_i64 g1, wf_u64 g4⟩
  exact ⟨a, n, c, xs, rfl, hs, hg⟩
theorem ownWalk (H : Heap) (vs : List Value) (h : OkArgs Try.prog H [22, 9] vs) : CallH Try.prog 3 ⟨vs⟩ H fun v H' => v = .bool true ∧ Fr [] H H' := by
  obtain ⟨v0, _, rfl, h0, v1, _, rfl, h1, rfl⟩ := h
  obtain ⟨a, n, c, xs, rfl, hs, _⟩ := steps_in h0
  obtain ⟨x, rfl, hx⟩ := h1.str Try.underlying9
  exact Own_ok hs
theorem movedWalk (H : Heap) (vs : List Value) (h : OkArgs Try.prog H [22, 9, 9] vs) : CallH Try.prog 4 ⟨vs⟩ H fun v H' => v = .bool true ∧ Fr [] H H' := by
  obtain ⟨v0, _, rfl, h0, v1, _, rfl, h1, v2, _, rfl, h2, rfl⟩ := h
  obtain ⟨a, n, c, xs, rfl, hs, _⟩ := steps_in h0
  obtain ⟨x, rfl, hx⟩ := h1.str Try.underlying9
  obtain ⟨y, rfl, hy⟩ := h2.str Try.underlying9
  exact Moved_ok hs
theorem gensWalk (H : Heap) (vs : List Value) (h : OkArgs Try.prog H [5, 22] vs) : CallH Try.prog 6 ⟨vs⟩ H fun v H' => v = .bool true ∧ Fr [] H H' := by
  obtain ⟨v0, _, rfl, h0, v1, _, rfl, h1, rfl⟩ := h
  obtain ⟨x, rfl, hx⟩ := h0.int Try.underlying5
  obtain ⟨a, n, c, xs, rfl, hs, _⟩ := steps_in h1
  exact Gens_ok hs
theorem roomWalk (H : Heap) (vs : List Value) (h : OkArgs Try.prog H [5, 22] vs) : CallH Try.prog 8 ⟨vs⟩ H fun v H' => v = .bool true ∧ Fr [] H H' := by
  obtain ⟨v0, _, rfl, h0, v1, _, rfl, h1, rfl⟩ := h
  obtain ⟨x, rfl, hx⟩ := h0.int Try.underlying5
  obtain ⟨a, n, c, xs, rfl, hs, _⟩ := steps_in h1
  exact Room_ok hs
end Go.Proofs.Ytgjbljhocedpfaa
