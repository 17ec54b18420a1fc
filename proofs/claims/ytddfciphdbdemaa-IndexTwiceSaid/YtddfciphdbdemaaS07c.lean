/- A part of a proof: see the last text of this claim. -/
import Derived.Test.YtddfciphdbdemaaS07
import Derived.Test.YtddfciphdbdemaaQ07e
set_option linter.unusedVariables false
open Go Go.GV
namespace Go.Proofs.Ytddfciphdbdemaa
open Go.ChangeShapes Go.WideShapes Go.ChangeAt Go.RowKit
theorem wf_u8 {x : Int} (h : (Lit.int .u8 x).wf = true) : 0 ≤ x ∧ x < 256 := by
  simp only [Lit.wf, Bool.and_eq_true, decide_eq_true_eq] at h
  have : x ≤ 255 := h.2
  exact ⟨h.1, by omega⟩
theorem twiceWalk (H : Heap) (vs : List Value) (h : OkArgs Try.prog H [22, 5] vs) : CallH Try.prog 7 ⟨vs⟩ H fun v H' => v = .bool true ∧ Fr [] H H' := by
  obtain ⟨v0, _, rfl, h0, v1, _, rfl, h1, rfl⟩ := h
  obtain ⟨a, n, c, hs, L, rfl, hsl, hL⟩ := lists_in h0
  obtain ⟨z, rfl, hz⟩ := h1.int Try.underlying5
  exact Twice_ok hsl hL (wf_u8 hz).1 (wf_u8 hz).2
end Go.Proofs.Ytddfciphdbdemaa
