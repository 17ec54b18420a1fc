/- A part of a proof: see the last text of this claim. -/
import Derived.Test.YtddfciphdbdemaaS07
import Derived.Test.YtddfciphdbdemaaQ07d
set_option linter.unusedVariables false
open Go Go.GV
namespace Go.Proofs.Ytddfciphdbdemaa
open Go.ChangeShapes Go.WideShapes Go.ChangeAt Go.RowKit
theorem str_el {H : Heap} {m : Nat} {r : List Value} (hr : OkC Try.prog H m 9 r) : ∃ x : ByteArray, encStr.cells x = r ∧ True := by
  obtain ⟨x0, e0, _⟩ := OkC.str Try.underlying9 hr
  exact ⟨x0, e0.symm, trivial⟩
theorem ms_of {H : Heap} : ∀ {xs : List Mat}, (∀ x ∈ xs, ∃ S, Sl encStr H x.2.2.2.1 x.2.2.2.2.1 x.2.2.2.2.2 S) → ∃ ms, MsS H xs ms
  | [], _ => ⟨[], rfl, fun i h l e => by simp at e⟩
  | x :: xs, hh => by
    obtain ⟨S, hS⟩ := hh x (by simp)
    obtain ⟨ms, hm⟩ := ms_of (xs := xs) fun y hy => hh y (by simp [hy])
    refine ⟨(x.1, x.2.1, x.2.2.1, S) :: ms, by simp [hm.1], fun i y m hy hm' => ?_⟩
    cases i with
    | zero => simp at hy hm'; subst hy hm'; exact ⟨rfl, rfl, rfl, hS⟩
    | succ i => simp at hy hm'; exact hm.2 i y m hy hm'
set_option maxRecDepth 100000 in
/-- Matchers that came in. -/
theorem ms_in {H : Heap} {v : Value} (h : OkA Try.prog H 38 v) : ∃ a n c xs ms, v = .slice a n c ∧ Sl encM H a n c xs ∧ MsS H xs ms := by
  obtain ⟨a, n, c, xs, rfl, hsl, _, hg⟩ := h.sl (E := encM) (G := fun x => ∃ S, Sl encStr H x.2.2.2.1 x.2.2.2.2.1 x.2.2.2.2.2 S) Try.underlying38 (by kernel_rfl) fun m r hr hl => by
    obtain ⟨_, hf⟩ := hr.struct Try.underlying47
    obtain ⟨c0, c1, c2, c3, rfl⟩ := four_of hl
    obtain ⟨_, h0⟩ := hf 0 _ rfl
    obtain ⟨_, h1⟩ := hf 1 _ rfl
    obtain ⟨_, h2⟩ := hf 2 _ rfl
    obtain ⟨_, h3⟩ := hf 3 _ rfl
    obtain ⟨x0, e0, _⟩ := OkC.int Try.underlying3 h0
    obtain ⟨x1, e1, _⟩ := OkC.str Try.underlying9 h1
    obtain ⟨x2, e2, _⟩ := OkC.str Try.underlying9 h2
    obtain ⟨a, n, c, S, e3, hS, _, _⟩ := h3.sl (E := encStr) (G := fun _ => True) Try.underlying45 (by kernel_rfl) fun m r hr hl => str_el hr
    have hc3 : Try.prog.cellsOf 3 = 1 := by kernel_rfl
    have hc9 : Try.prog.cellsOf 9 = 1 := by kernel_rfl
    have hc45 : Try.prog.cellsOf 45 = 1 := by kernel_rfl
    simp [hc3] at e0
    simp [hc9] at e1 e2
    simp [hc45] at e3
    exact ⟨(x0, x1, x2, (a, n, c)), by rw [e0, e1, e2, e3]; rfl, S, hS⟩
  obtain ⟨ms, hm⟩ := ms_of hg
  exact ⟨a, n, c, xs, ms, rfl, hsl, hm⟩
theorem selectsWalk (H : Heap) (vs : List Value) (h : OkArgs Try.prog H [22, 38] vs) : CallH Try.prog 4 ⟨vs⟩ H fun v H' => v = .bool true ∧ Fr [] H H' := by
  obtain ⟨v0, _, rfl, h0, v1, _, rfl, h1, rfl⟩ := h
  obtain ⟨a, n, c, hs, L, rfl, hsl, hL⟩ := lists_in h0
  obtain ⟨a1, n1, c1, xs, ms, rfl, hx, hm⟩ := ms_in h1
  exact Selects_ok hsl hL hx hm
theorem partsWalk (H : Heap) (vs : List Value) (h : OkArgs Try.prog H [22, 9, 9] vs) : CallH Try.prog 5 ⟨vs⟩ H fun v H' => v = .bool true ∧ Fr [] H H' := by
  obtain ⟨v0, _, rfl, h0, v1, _, rfl, h1, v2, _, rfl, h2, rfl⟩ := h
  obtain ⟨a, n, c, hs, L, rfl, hsl, hL⟩ := lists_in h0
  obtain ⟨s, rfl, _⟩ := h1.str Try.underlying9
  obtain ⟨t, rfl, _⟩ := h2.str Try.underlying9
  exact Parts_ok hsl hL
theorem bothWalk (H : Heap) (vs : List Value) (h : OkArgs Try.prog H [22, 38, 38] vs) : CallH Try.prog 6 ⟨vs⟩ H fun v H' => v = .bool true ∧ Fr [] H H' := by
  obtain ⟨v0, _, rfl, h0, v1, _, rfl, h1, v2, _, rfl, h2, rfl⟩ := h
  obtain ⟨a, n, c, hs, L, rfl, hsl, hL⟩ := lists_in h0
  obtain ⟨a1, n1, c1, xs, ms, rfl, hx, hm⟩ := ms_in h1
  obtain ⟨a2, n2, c2, ys, ns, rfl, hy, hn⟩ := ms_in h2
  exact Both_ok hsl hL hx hm hy hn
end Go.Proofs.Ytddfciphdbdemaa
