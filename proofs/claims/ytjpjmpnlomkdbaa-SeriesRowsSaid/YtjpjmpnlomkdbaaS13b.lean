/- A part of a proof: see the last text of this claim. -/
import Derived.Test.YtjpjmpnlomkdbaaGvOpen
import Derived.Test.YtjpjmpnlomkdbaaQ13c
set_option linter.unusedVariables false
open Go Go.GV
namespace Go.Proofs.Ytjpjmpnlomkdbaa
open Go.ChangeShapes Go.WideShapes Go.ChangeAt Go.RowKit
theorem own : ownKnob Try.prog.godebug = none := by kernel_rfl
theorem laid : laidOutB Try.prog = true := by kernel_rfl

theorem row_el {H : Heap} {m : Nat} {r : List Value} (hr : OkC Try.prog H m 45 r) (hl : r.length = encRw.sz) : ∃ x : Rw, encRw.cells x = r ∧ True := by
  obtain ⟨_, hf⟩ := hr.struct Try.underlying45
  obtain ⟨c0, c1, c2, rfl⟩ := three_of hl
  obtain ⟨_, h0⟩ := hf 0 _ rfl
  obtain ⟨_, h1⟩ := hf 1 _ rfl
  obtain ⟨_, h2⟩ := hf 2 _ rfl
  obtain ⟨x0, e0, _⟩ := OkC.int Try.underlying3 h0
  obtain ⟨x1, e1, _⟩ := OkC.int Try.underlying3 h1
  obtain ⟨x2, e2, _⟩ := OkC.int Try.underlying3 h2
  have hc : Try.prog.cellsOf 3 = 1 := by kernel_rfl
  simp [hc] at e0 e1 e2
  exact ⟨(x0, x1, x2), by rw [e0, e1, e2]; rfl, trivial⟩
/-- Rows that came in. -/
theorem rows_in {H : Heap} {v : Value} (h : OkA Try.prog H 34 v) : ∃ a n c xs, v = .slice a n c ∧ Sl encRw H a n c xs := by
  obtain ⟨a, n, c, xs, rfl, hs, _, _⟩ := h.sl (E := encRw) (G := fun _ => True) Try.underlying34 (by kernel_rfl) fun m r hr hl => row_el hr hl
  exact ⟨a, n, c, xs, rfl, hs⟩
theorem wf_u8 {x : Int} (h : (Lit.int .u8 x).wf = true) : 0 ≤ x ∧ x ≤ 255 := by
  simp [Lit.wf] at h
  have h1 : IntKind.u8.min = 0 := by decide
  have h2 : IntKind.u8.max = 255 := by decide
  omega
theorem putsWalk (H : Heap) (vs : List Value) (h : OkArgs Try.prog H [34, 34, 5] vs) : CallH Try.prog 6 ⟨vs⟩ H fun v H' => v = .bool true ∧ Fr [] H H' := by
  obtain ⟨v0, _, rfl, h0, v1, _, rfl, h1, v2, _, rfl, h2, rfl⟩ := h
  obtain ⟨a, n, c, xs, rfl, hs⟩ := rows_in h0
  obtain ⟨a1, n1, c1, xs1, rfl, hs1⟩ := rows_in h1
  obtain ⟨x, rfl, hx⟩ := h2.int Try.underlying5
  obtain ⟨g1, g2⟩ := wf_u8 hx
  exact Puts_ok hs hs1 g1 g2
theorem setsWalk (H : Heap) (vs : List Value) (h : OkArgs Try.prog H [34, 45] vs) : CallH Try.prog 7 ⟨vs⟩ H fun v H' => v = .bool true ∧ Fr [] H H' := by
  obtain ⟨v0, _, rfl, h0, v1, _, rfl, h1, rfl⟩ := h
  obtain ⟨a, n, c, xs, rfl, hs⟩ := rows_in h0
  obtain ⟨cs, k, rfl, hc⟩ := h1.struct Try.underlying45
  have h45 : Try.prog.cellsOf 45 = encRw.sz := by kernel_rfl
  obtain ⟨x, rfl, _⟩ := row_el hc ((hc.struct Try.underlying45).1.trans h45)
  exact Sets_ok hs
theorem rowsWalk (H : Heap) (vs : List Value) (h : OkArgs Try.prog H [34] vs) : CallH Try.prog 8 ⟨vs⟩ H fun v H' => v = .bool true ∧ Fr [] H H' := by
  obtain ⟨v0, _, rfl, h0, rfl⟩ := h
  obtain ⟨a, n, c, xs, rfl, hs⟩ := rows_in h0
  exact RowsL_ok hs
end Go.Proofs.Ytjpjmpnlomkdbaa
