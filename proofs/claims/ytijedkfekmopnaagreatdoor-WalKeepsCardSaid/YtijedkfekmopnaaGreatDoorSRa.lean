/- A part of a proof: see the last text of this claim. -/
import Derived.Test.YtijedkfekmopnaaGreatDoorSR
import Derived.Test.YtijedkfekmopnaaGreatDoorQ11b
set_option linter.unusedVariables false
open Go Go.GV
namespace Go.Proofs.YtijedkfekmopnaaGreatDoor
open Go.ChangeShapes Go.WideShapes Go.ChangeAt Go.RowKit
theorem lbl_el {H : Heap} {m : Nat} {r : List Value} (hr : OkC Tryz.prog H m 55 r) (hl : r.length = encL.sz) : ∃ x : Lbl, encL.cells x = r ∧ True := by
  obtain ⟨_, hf⟩ := hr.struct Tryz.underlying55
  obtain ⟨c0, c1, rfl⟩ := two_of hl
  obtain ⟨_, h0⟩ := hf 0 _ rfl
  obtain ⟨_, h1⟩ := hf 1 _ rfl
  obtain ⟨x0, e0, _⟩ := OkC.str Tryz.underlying9 h0
  obtain ⟨x1, e1, _⟩ := OkC.str Tryz.underlying9 h1
  have hc : Tryz.prog.cellsOf 9 = 1 := by kernel_rfl
  simp [hc] at e0 e1
  exact ⟨(x0, x1), by rw [e0, e1]; rfl, trivial⟩
theorem row_el {H : Heap} {m : Nat} {r : List Value} (hr : OkC Tryz.prog H m 111 r) (hl : r.length = enc3.sz) : ∃ x : Row, enc3.cells x = r ∧ I64 x.2.2 := by
  obtain ⟨_, hf⟩ := hr.struct Tryz.underlying111
  obtain ⟨c0, c1, c2, rfl⟩ := three_of hl
  obtain ⟨_, h0⟩ := hf 0 _ rfl
  obtain ⟨_, h1⟩ := hf 1 _ rfl
  obtain ⟨_, h2⟩ := hf 2 _ rfl
  obtain ⟨x0, e0, _⟩ := OkC.int Tryz.underlying3 h0
  obtain ⟨x1, e1, _⟩ := OkC.int Tryz.underlying3 h1
  obtain ⟨x2, e2, w2⟩ := OkC.int Tryz.underlying3 h2
  have hc : Tryz.prog.cellsOf 3 = 1 := by kernel_rfl
  simp [hc] at e0 e1 e2
  exact ⟨(x0, x1, x2), by rw [e0, e1, e2]; rfl, wf_i64 w2⟩
theorem tomb_el {H : Heap} {m : Nat} {r : List Value} (hr : OkC Tryz.prog H m 115 r) (hl : r.length = enc3.sz) : ∃ x : Row, enc3.cells x = r ∧ True := by
  obtain ⟨_, hf⟩ := hr.struct Tryz.underlying115
  obtain ⟨c0, c1, c2, rfl⟩ := three_of hl
  obtain ⟨_, h0⟩ := hf 0 _ rfl
  obtain ⟨_, h1⟩ := hf 1 _ rfl
  obtain ⟨_, hf'⟩ := h1.struct Tryz.underlying113
  obtain ⟨_, h1⟩ := hf' 0 _ rfl
  obtain ⟨_, h2⟩ := hf' 1 _ rfl
  obtain ⟨x0, e0, _⟩ := OkC.int Tryz.underlying3 h0
  obtain ⟨x1, e1, _⟩ := OkC.int Tryz.underlying3 h1
  obtain ⟨x2, e2, _⟩ := OkC.int Tryz.underlying3 h2
  have hc : Tryz.prog.cellsOf 3 = 1 := by kernel_rfl
  have hc2 : Tryz.prog.cellsOf 113 = 2 := by kernel_rfl
  simp [hc, hc2] at e0 e1 e2
  exact ⟨(x0, x1, x2), by rw [e0, e1, e2]; rfl, trivial⟩
set_option maxRecDepth 100000 in
theorem rec_in {H : Heap} {k : Nat} {r : List Value} (hr : OkC Tryz.prog H k 39 r) (hl : r.length = 5) : ∃ (m : Rm) (x : Rc), rC m = r ∧ RcH H m x ∧ TypR x := by
  obtain ⟨_, hf⟩ := hr.struct Tryz.underlying39
  obtain ⟨c0, r', rfl⟩ : ∃ c0 r', r = c0 :: r' := by cases r with | nil => simp at hl | cons a b => exact ⟨a, b, rfl⟩
  obtain ⟨c1, c2, c3, c4, rfl⟩ := four_of (show r'.length = 4 by simp at hl; exact hl)
  obtain ⟨_, h0⟩ := hf 0 _ rfl
  obtain ⟨_, h1⟩ := hf 1 _ rfl
  obtain ⟨_, h2⟩ := hf 2 _ rfl
  obtain ⟨_, h3⟩ := hf 3 _ rfl
  obtain ⟨_, h4⟩ := hf 4 _ rfl
  obtain ⟨x0, e0, _⟩ := OkC.int Tryz.underlying3 h0
  obtain ⟨x4, e4, _⟩ := OkC.int Tryz.underlying3 h4
  obtain ⟨a1, n1, d1, L, e1, hL, _, _⟩ := h1.sl (E := encL) (G := fun _ => True) Tryz.underlying35 (by kernel_rfl) fun m r hr hl => lbl_el hr hl
  obtain ⟨a2, n2, d2, R, e2, hR, _, hg⟩ := h2.sl (E := enc3) (G := fun x => I64 x.2.2) Tryz.underlying36 (by kernel_rfl) fun m r hr hl => row_el hr hl
  obtain ⟨a3, n3, d3, T, e3, hT, _, _⟩ := h3.sl (E := enc3) (G := fun _ => True) Tryz.underlying37 (by kernel_rfl) fun m r hr hl => tomb_el hr hl
  have hc3 : Tryz.prog.cellsOf 3 = 1 := by kernel_rfl
  have hc22 : Tryz.prog.cellsOf 35 = 1 := by kernel_rfl
  have hc23 : Tryz.prog.cellsOf 36 = 1 := by kernel_rfl
  have hc24 : Tryz.prog.cellsOf 37 = 1 := by kernel_rfl
  simp [hc3] at e0 e4
  simp [hc22] at e1
  simp [hc23] at e2
  simp [hc24] at e3
  refine ⟨(x0, (a1, n1, d1), (a2, n2, d2), (a3, n3, d3), x4), ⟨x0, L, R, T, x4⟩, by rw [e0, e1, e2, e3, e4]; rfl, ⟨rfl, hL, hR, hT, rfl⟩, fun x hx => hg x hx⟩
def RecIn (H : Heap) (m : Rm) : Prop := ∃ x : Rc, RcH H m x ∧ TypR x
theorem recs_in {H : Heap} : ∀ {ms : List Rm}, (∀ m ∈ ms, RecIn H m) → ∃ rs, RcsH H ms rs ∧ ∀ r ∈ rs, TypR r
  | [], _ => ⟨[], ⟨rfl, fun i m r h => by simp at h⟩, by simp⟩
  | m :: ms, h => by
    obtain ⟨x, hx, ht⟩ := h m (by simp)
    obtain ⟨rs, h1, h2⟩ := recs_in (ms := ms) fun y hy => h y (by simp [hy])
    refine ⟨x :: rs, ⟨by simp [h1.1], fun i m' r' hm hr => ?_⟩, fun r hr => (List.mem_cons.1 hr).elim (fun e => by rw [e]; exact ht) (h2 r)⟩
    cases i with
    | zero =>
      simp only [List.getElem?_cons_zero, Option.some.injEq] at hm hr
      subst hm; subst hr
      exact hx
    | succ i =>
      simp only [List.getElem?_cons_succ] at hm hr
      exact h1.2 i m' r' hm hr
theorem rec39 {H : Heap} : ∀ (k : Nat) (r : List Value), OkC Tryz.prog H k 39 r → r.length = encR5.sz → ∃ m, encR5.cells m = r ∧ RecIn H m := fun k r hr hl => by
  obtain ⟨m, x, e, h1, h2⟩ := rec_in hr hl
  exact ⟨m, e, x, h1, h2⟩
theorem wf_u8 {x : Int} (h : (Lit.int .u8 x).wf = true) : 0 ≤ x ∧ x ≤ 255 := by
  simp only [Lit.wf, Bool.and_eq_true, decide_eq_true_eq] at h
  exact h
end Go.Proofs.YtijedkfekmopnaaGreatDoor
