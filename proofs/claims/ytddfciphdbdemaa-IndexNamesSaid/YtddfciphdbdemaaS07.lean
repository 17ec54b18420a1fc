/- A part of a proof: see the last text of this claim. -/
import Derived.Test.YtddfciphdbdemaaGvOpen
import Derived.Test.YtddfciphdbdemaaQ07
set_option linter.unusedVariables false
open Go Go.GV
namespace Go.Proofs.Ytddfciphdbdemaa
open Go.ChangeShapes Go.WideShapes Go.ChangeAt Go.RowKit
theorem own : ownKnob Try.prog.godebug = none := by kernel_rfl
theorem laid : laidOutB Try.prog = true := by kernel_rfl

theorem lbl_el {H : Heap} {m : Nat} {r : List Value} (hr : OkC Try.prog H m 64 r) (hl : r.length = encL.sz) : ∃ x : Lbl, encL.cells x = r ∧ True := by
  obtain ⟨_, hf⟩ := hr.struct Try.underlying64
  obtain ⟨c0, c1, rfl⟩ := two_of hl
  obtain ⟨_, h0⟩ := hf 0 _ rfl
  obtain ⟨_, h1⟩ := hf 1 _ rfl
  obtain ⟨x0, e0, _⟩ := OkC.str Try.underlying9 h0
  obtain ⟨x1, e1, _⟩ := OkC.str Try.underlying9 h1
  have hc : Try.prog.cellsOf 9 = 1 := by kernel_rfl
  simp [hc] at e0 e1
  exact ⟨(x0, x1), by rw [e0, e1]; rfl, trivial⟩
/-- Labels that came in. -/
theorem lbls_in {H : Heap} {v : Value} (h : OkA Try.prog H 23 v) : ∃ a n c xs, v = .slice a n c ∧ Sl encL H a n c xs := by
  obtain ⟨a, n, c, xs, rfl, hs, _, _⟩ := h.sl (E := encL) (G := fun _ => True) Try.underlying23 (by kernel_rfl) fun m r hr hl => lbl_el hr hl
  exact ⟨a, n, c, xs, rfl, hs⟩
theorem lls_of {H : Heap} : ∀ {hs : List Hd}, (∀ h ∈ hs, ∃ l, Sl encL H h.1 h.2.1 h.2.2 l) → ∃ L, LLs H hs L
  | [], _ => ⟨[], rfl, fun i h l e => by simp at e⟩
  | h :: hs, hh => by
    obtain ⟨l, hl⟩ := hh h (by simp)
    obtain ⟨L, hL⟩ := lls_of (hs := hs) fun x hx => hh x (by simp [hx])
    refine ⟨l :: L, by simp [hL.1], fun i x m hx hm => ?_⟩
    cases i with
    | zero => simp at hx hm; subst hx hm; exact hl
    | succ i => simp at hx hm; exact hL.2 i x m hx hm
/-- Lists of labels that came in. -/
theorem lists_in {H : Heap} {v : Value} (h : OkA Try.prog H 22 v) : ∃ a n c hs L, v = .slice a n c ∧ Sl encH H a n c hs ∧ LLs H hs L := by
  obtain ⟨a, n, c, hs, rfl, hsl, _, hg⟩ := h.sl (E := encH) (G := fun h => ∃ l, Sl encL H h.1 h.2.1 h.2.2 l) Try.underlying22 (by kernel_rfl) fun m r hr hl => by
    obtain ⟨a, n, c, xs, rfl, hs, _, _⟩ := hr.sl (E := encL) (G := fun _ => True) Try.underlying23 (by kernel_rfl) fun m r hr hl => lbl_el hr hl
    exact ⟨(a, n, c), rfl, xs, hs⟩
  obtain ⟨L, hL⟩ := lls_of hg
  exact ⟨a, n, c, hs, L, rfl, hsl, hL⟩
theorem addsWalk (H : Heap) (vs : List Value) (h : OkArgs Try.prog H [22, 23] vs) : CallH Try.prog 3 ⟨vs⟩ H fun v H' => v = .bool true ∧ Fr [] H H' := by
  obtain ⟨v0, _, rfl, h0, v1, _, rfl, h1, rfl⟩ := h
  obtain ⟨a, n, c, hs, L, rfl, hsl, hL⟩ := lists_in h0
  obtain ⟨a1, n1, c1, xs, rfl, hx⟩ := lbls_in h1
  exact Adds_ok hsl hL hx
end Go.Proofs.Ytddfciphdbdemaa
