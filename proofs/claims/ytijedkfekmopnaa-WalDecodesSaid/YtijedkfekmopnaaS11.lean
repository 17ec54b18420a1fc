/- A part of a proof: see the last text of this claim. -/
import Derived.Test.YtijedkfekmopnaaGvOpen
import Derived.Test.YtijedkfekmopnaaQ11
set_option linter.unusedVariables false
open Go Go.GV
namespace Go.Proofs.Ytijedkfekmopnaa
open Go.ChangeShapes Go.WideShapes Go.ChangeAt Go.RowKit
theorem own : ownKnob Try.prog.godebug = none := by kernel_rfl
theorem laid : laidOutB Try.prog = true := by kernel_rfl

theorem lbl_el {H : Heap} {m : Nat} {r : List Value} (hr : OkC Try.prog H m 44 r) (hl : r.length = encL.sz) : ∃ x : Lbl, encL.cells x = r ∧ True := by
  obtain ⟨_, hf⟩ := hr.struct Try.underlying44
  obtain ⟨c0, c1, rfl⟩ := two_of hl
  obtain ⟨_, h0⟩ := hf 0 _ rfl
  obtain ⟨_, h1⟩ := hf 1 _ rfl
  obtain ⟨x0, e0, _⟩ := OkC.str Try.underlying9 h0
  obtain ⟨x1, e1, _⟩ := OkC.str Try.underlying9 h1
  have hc : Try.prog.cellsOf 9 = 1 := by kernel_rfl
  simp [hc] at e0 e1
  exact ⟨(x0, x1), by rw [e0, e1]; rfl, trivial⟩
theorem row_el {H : Heap} {m : Nat} {r : List Value} (hr : OkC Try.prog H m 58 r) (hl : r.length = enc3.sz) : ∃ x : Row, enc3.cells x = r ∧ I64 x.2.2 := by
  obtain ⟨_, hf⟩ := hr.struct Try.underlying58
  obtain ⟨c0, c1, c2, rfl⟩ := three_of hl
  obtain ⟨_, h0⟩ := hf 0 _ rfl
  obtain ⟨_, h1⟩ := hf 1 _ rfl
  obtain ⟨_, h2⟩ := hf 2 _ rfl
  obtain ⟨x0, e0, _⟩ := OkC.int Try.underlying3 h0
  obtain ⟨x1, e1, _⟩ := OkC.int Try.underlying3 h1
  obtain ⟨x2, e2, w2⟩ := OkC.int Try.underlying3 h2
  have hc : Try.prog.cellsOf 3 = 1 := by kernel_rfl
  simp [hc] at e0 e1 e2
  exact ⟨(x0, x1, x2), by rw [e0, e1, e2]; rfl, wf_i64 w2⟩
theorem tomb_el {H : Heap} {m : Nat} {r : List Value} (hr : OkC Try.prog H m 62 r) (hl : r.length = enc3.sz) : ∃ x : Row, enc3.cells x = r ∧ True := by
  obtain ⟨_, hf⟩ := hr.struct Try.underlying62
  obtain ⟨c0, c1, c2, rfl⟩ := three_of hl
  obtain ⟨_, h0⟩ := hf 0 _ rfl
  obtain ⟨_, h1⟩ := hf 1 _ rfl
  obtain ⟨_, hf'⟩ := h1.struct Try.underlying60
  obtain ⟨_, h1⟩ := hf' 0 _ rfl
  obtain ⟨_, h2⟩ := hf' 1 _ rfl
  obtain ⟨x0, e0, _⟩ := OkC.int Try.underlying3 h0
  obtain ⟨x1, e1, _⟩ := OkC.int Try.underlying3 h1
  obtain ⟨x2, e2, _⟩ := OkC.int Try.underlying3 h2
  have hc : Try.prog.cellsOf 3 = 1 := by kernel_rfl
  have hc2 : Try.prog.cellsOf 60 = 2 := by kernel_rfl
  simp [hc, hc2] at e0 e1 e2
  exact ⟨(x0, x1, x2), by rw [e0, e1, e2]; rfl, trivial⟩
set_option maxRecDepth 100000 in
/-- A record that came in. -/
theorem rec_in {H : Heap} {k : Nat} {r : List Value} (hr : OkC Try.prog H k 26 r) (hl : r.length = 5) : ∃ (m : Rm) (x : Rc), rC m = r ∧ RcH H m x ∧ TypR x := by
  obtain ⟨_, hf⟩ := hr.struct Try.underlying26
  obtain ⟨c0, r', rfl⟩ : ∃ c0 r', r = c0 :: r' := by cases r with | nil => simp at hl | cons a b => exact ⟨a, b, rfl⟩
  obtain ⟨c1, c2, c3, c4, rfl⟩ := four_of (show r'.length = 4 by simp at hl; exact hl)
  obtain ⟨_, h0⟩ := hf 0 _ rfl
  obtain ⟨_, h1⟩ := hf 1 _ rfl
  obtain ⟨_, h2⟩ := hf 2 _ rfl
  obtain ⟨_, h3⟩ := hf 3 _ rfl
  obtain ⟨_, h4⟩ := hf 4 _ rfl
  obtain ⟨x0, e0, _⟩ := OkC.int Try.underlying3 h0
  obtain ⟨x4, e4, _⟩ := OkC.int Try.underlying3 h4
  obtain ⟨a1, n1, d1, L, e1, hL, _, _⟩ := h1.sl (E := encL) (G := fun _ => True) Try.underlying22 (by kernel_rfl) fun m r hr hl => lbl_el hr hl
  obtain ⟨a2, n2, d2, R, e2, hR, _, hg⟩ := h2.sl (E := enc3) (G := fun x => I64 x.2.2) Try.underlying23 (by kernel_rfl) fun m r hr hl => row_el hr hl
  obtain ⟨a3, n3, d3, T, e3, hT, _, _⟩ := h3.sl (E := enc3) (G := fun _ => True) Try.underlying24 (by kernel_rfl) fun m r hr hl => tomb_el hr hl
  have hc3 : Try.prog.cellsOf 3 = 1 := by kernel_rfl
  have hc22 : Try.prog.cellsOf 22 = 1 := by kernel_rfl
  have hc23 : Try.prog.cellsOf 23 = 1 := by kernel_rfl
  have hc24 : Try.prog.cellsOf 24 = 1 := by kernel_rfl
  simp [hc3] at e0 e4
  simp [hc22] at e1
  simp [hc23] at e2
  simp [hc24] at e3
  refine ⟨(x0, (a1, n1, d1), (a2, n2, d2), (a3, n3, d3), x4), ⟨x0, L, R, T, x4⟩, by rw [e0, e1, e2, e3, e4]; rfl, ⟨rfl, hL, hR, hT, rfl⟩, fun x hx => hg x hx⟩
theorem encodesWalk (H : Heap) (vs : List Value) (h : OkArgs Try.prog H [26] vs) : CallH Try.prog 3 ⟨vs⟩ H fun v H' => v = .bool true ∧ Fr [] H H' := by
  obtain ⟨v0, _, rfl, h0, rfl⟩ := h
  obtain ⟨cs, n, rfl, hc⟩ := h0.struct Try.underlying26
  have h26 : Try.prog.cellsOf 26 = 5 := by kernel_rfl
  have hlen : cs.length = 5 := (hc.struct Try.underlying26).1.trans h26
  obtain ⟨m, x, rfl, hR, hT⟩ := rec_in hc hlen
  exact Encodes_ok hR hT
theorem decodesWalk (H : Heap) (vs : List Value) (h : OkArgs Try.prog H [9] vs) : CallH Try.prog 4 ⟨vs⟩ H fun v H' => v = .bool true ∧ Fr [] H H' := by
  obtain ⟨v0, _, rfl, h0, rfl⟩ := h
  obtain ⟨s, rfl, _⟩ := h0.str Try.underlying9
  exact Decodes_ok
end Go.Proofs.Ytijedkfekmopnaa
