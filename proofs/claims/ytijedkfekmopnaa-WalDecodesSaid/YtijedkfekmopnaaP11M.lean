/- A part of a proof: see the last text of this claim. -/
import Derived.Test.YtijedkfekmopnaaP11L
set_option linter.unusedVariables false
set_option maxRecDepth 100000
open Go Go.GV
namespace Go.Proofs

theorem flat1 {s : ByteArray} {a q : Nat} {x : Int} (h : RdG s a true (fun L : List Int => L.flatMap uL) (fun L => L.length = 1 ∧ ∀ y ∈ L, GT40 y) [x] q true) : RdG s a true uL GT40 x q true := by
  refine ⟨h.1, fun ho => ⟨rfl, by simpa using (h.2.1 rfl).2⟩, fun _ y t hy e => ?_⟩
  obtain ⟨_, h1, h2⟩ := h.2.2 rfl [y] t ⟨rfl, by simpa using hy⟩ (by simpa using e)
  exact ⟨rfl, by simpa using h1, h2⟩
theorem flat2 {s : ByteArray} {a q : Nat} {x1 x2 : Int} (h : RdG s a true (fun L : List Int => L.flatMap uL) (fun L => L.length = 2 ∧ ∀ y ∈ L, GT40 y) [x1, x2] q true) : RdG s a true (fun z : Int × Int => uL z.1 ++ uL z.2) (fun z => GT40 z.1 ∧ GT40 z.2) (x1, x2) q true := by
  refine ⟨h.1, fun ho => ⟨rfl, by simpa using (h.2.1 rfl).2⟩, fun _ y t hy e => ?_⟩
  obtain ⟨_, h1, h2⟩ := h.2.2 rfl [y.1, y.2] t ⟨rfl, fun z hz => by simp at hz; rcases hz with rfl | rfl; exact hy.1; exact hy.2⟩ (by simpa using e)
  simp only [List.cons.injEq, and_true] at h1
  exact ⟨rfl, Prod.ext h1.1 h1.2, h2⟩
theorem flat3 {s : ByteArray} {a q : Nat} {x1 x2 x3 : Int} (h : RdG s a true (fun L : List Int => L.flatMap uL) (fun L => L.length = 3 ∧ ∀ y ∈ L, GT40 y) [x1, x2, x3] q true) : RdG s a true tombL (fun z => GT40 z.1 ∧ GT40 z.2.1 ∧ GT40 z.2.2) (x1, x2, x3) q true := by
  refine ⟨h.1, fun ho => ⟨rfl, by simpa [tombL] using (h.2.1 rfl).2⟩, fun _ y t hy e => ?_⟩
  obtain ⟨_, h1, h2⟩ := h.2.2 rfl [y.1, y.2.1, y.2.2] t ⟨rfl, fun z hz => by simp at hz; rcases hz with rfl | rfl | rfl; exact hy.1; exact hy.2.1; exact hy.2.2⟩ (by simpa [tombL] using e)
  simp only [List.cons.injEq, and_true] at h1
  exact ⟨rfl, Prod.ext h1.1 (Prod.ext h1.2.1 h1.2.2), h2⟩
theorem GU.rdi {s : ByteArray} {a w : Nat} {n e : Int} (h : GU ((bl s).drop a) a w n e) (ha : a ≤ s.size) (hw : w < 18446744073709551616) :
    (e ≠ 0 → ∀ y t, I64 y → (bl s).drop a ≠ intL y ++ t) ∧ (e = 0 → ∃ p : Nat, n = p ∧ p ≤ s.size ∧ RdG s a true intL I64 (unfoldN w) p true) := by
  refine ⟨fun hn y t hy ey => ?_, fun he => ?_⟩
  · exact hn (h.of (n := foldN y) (foldN_lt hy) ey).2.2
  · obtain ⟨p, w', ew, rfl, h1, h2, h3, h4⟩ := h.yes (most := 0) (by omega) ha he
    have ew : w = w' := by omega
    subst ew
    have h5 : (bl s).drop a = intL (unfoldN w) ++ (bl s).drop p := by unfold intL; rw [fold_unfold]; exact h4
    refine ⟨p, rfl, h2, h2, fun _ => ⟨rfl, h5⟩, fun _ y t hy ey => ?_⟩
    rw [h5] at ey
    obtain ⟨e1, e2⟩ := intL_eq ey
    exact ⟨rfl, e1.symm, e2.symm⟩
/-- What has been read so far of a record, but for its own. -/
def HeadR (s : ByteArray) (k : Int) (p : Nat) : Prop := p ≤ s.size ∧ ∀ y, GoodR y → bl s = encR y → y.k = k ∧ (bl s).drop p = bodyR y
theorem headR_of {s : ByteArray} {k : Int} {p : Nat} (h : RdG s 0 true uL GT40 k p true) : HeadR s k p := ⟨h.1, fun y hy e => by
  unfold encR at e
  obtain ⟨_, h1, h2⟩ := h.2.2 rfl y.k _ ⟨hy.fine.k.1, by have := hy.fine.k.2; omega⟩ (by simpa using e)
  exact ⟨h1, h2.symm⟩⟩
theorem sole0 {y : Rc} (hF : FineP y) (h : y.k = 0) : y = ⟨0, y.l, [], [], 0⟩ := by
  have f1 : y.rows = [] := Classical.byContradiction fun h => by have := hF.rows h; omega
  have f2 : y.at' = 0 := Classical.byContradiction fun h => by have := hF.at0 h; omega
  have f3 : y.tombs = [] := Classical.byContradiction fun h => by have := hF.tombs h; omega
  cases y; simp_all
theorem sole1 {y : Rc} (hF : FineP y) (h : y.k = 1) : y = ⟨1, [], y.rows, [], 0⟩ := by
  have f1 : y.l = [] := Classical.byContradiction fun h => by have := hF.l h; omega
  have f2 : y.at' = 0 := Classical.byContradiction fun h => by have := hF.at0 h; omega
  have f3 : y.tombs = [] := Classical.byContradiction fun h => by have := hF.tombs h; omega
  cases y; simp_all
theorem sole2 {y : Rc} (hF : FineP y) (h : y.k = 2) : y = ⟨2, [], [], y.tombs, 0⟩ := by
  have f1 : y.l = [] := Classical.byContradiction fun h => by have := hF.l h; omega
  have f2 : y.at' = 0 := Classical.byContradiction fun h => by have := hF.at0 h; omega
  have f3 : y.rows = [] := Classical.byContradiction fun h => by have := hF.rows h; omega
  cases y; simp_all
theorem sole3 {y : Rc} (hF : FineP y) (h : y.k = 3) : y = ⟨3, [], [], [], y.at'⟩ := by
  have f1 : y.l = [] := Classical.byContradiction fun h => by have := hF.l h; omega
  have f2 : y.tombs = [] := Classical.byContradiction fun h => by have := hF.tombs h; omega
  have f3 : y.rows = [] := Classical.byContradiction fun h => by have := hF.rows h; omega
  cases y; simp_all
def listOf (y : Rc) : List Row := if y.k = 1 then y.rows else y.tombs
def formOf (k : Int) (x : Row) : List UInt8 := if k = 1 then rowL x else tombL x
def goodOf (k : Int) (x : Row) : Prop := if k = 1 then rowP4 x else (GT40 x.1 ∧ GT40 x.2.1 ∧ GT40 x.2.2)
def recOf (k : Int) (M : List Row) : Rc := if k = 1 then ⟨k, [], M, [], 0⟩ else ⟨k, [], [], M, 0⟩
def memOf (k : Int) (h : Hd) : Rm := if k = 1 then (k, (none, 0, 0), h, (none, 0, 0), 0) else (k, (none, 0, 0), (none, 0, 0), h, 0)
/-- A list of rows, or of tombs, so far. -/
def LstR (s : ByteArray) (k : Int) (N q : Nat) (M : List Row) : Prop :=
  q ≤ s.size ∧ ∀ y, GoodR y → bl s = encR y → (k = 1 ∨ k = 2) ∧ N ≤ 5000 ∧ (listOf y).length = N ∧ y = recOf k (listOf y) ∧ (∀ x ∈ listOf y, goodOf k x) ∧ ∃ R, listOf y = M ++ R ∧ (bl s).drop q = R.flatMap (formOf k)
theorem LstR.start {s : ByteArray} {k : Int} {p q N : Nat} (hk : k ≠ 0 ∧ k ≠ 3) (h : HeadR s k p) (h' : RdG s p true uL GT40 (N : Int) q true) : LstR s k N q [] := by
  refine ⟨h'.1, fun y hy e => ?_⟩
  obtain ⟨h1, h2⟩ := h.2 y hy e
  have hF := hy.fine
  have hkk := hF.k
  rcases (by omega : k = 1 ∨ k = 2) with rfl | rfl
  · have es := sole1 hF h1
    have eb : bodyR y = uintL y.rows.length ++ y.rows.flatMap rowL := by unfold bodyR; rw [if_neg (by omega), if_pos h1]
    rw [eb] at h2
    obtain ⟨_, h3, h4⟩ := h'.2.2 rfl (y.rows.length : Int) _ ⟨by omega, by have := hF.nr; omega⟩ (by simpa [uL] using h2)
    have el : listOf y = y.rows := by unfold listOf; rw [if_pos h1]
    have hn := hF.nr
    rw [el]
    refine ⟨.inl rfl, by omega, by omega, by rw [show recOf 1 y.rows = ⟨1, [], y.rows, [], 0⟩ from if_pos rfl]; exact es, fun x hx => ?_, y.rows, rfl, ?_⟩
    · show rowP4 x
      exact ⟨(hF.row x hx).1, ⟨(hF.row x hx).2.1, by have := (hF.row x hx).2.2; omega⟩, hy.typ x hx⟩
    · rw [← h4]; rfl
  · have es := sole2 hF h1
    have eb : bodyR y = uintL y.tombs.length ++ y.tombs.flatMap tombL := by unfold bodyR; rw [if_neg (by omega), if_neg (by omega), if_pos h1]
    rw [eb] at h2
    obtain ⟨_, h3, h4⟩ := h'.2.2 rfl (y.tombs.length : Int) _ ⟨by omega, by have := hF.nt; omega⟩ (by simpa [uL] using h2)
    have el : listOf y = y.tombs := by unfold listOf; rw [if_neg (by omega)]
    have hn := hF.nt
    rw [el]
    refine ⟨.inr rfl, by omega, by omega, by rw [show recOf 2 y.tombs = ⟨2, [], [], y.tombs, 0⟩ from if_neg (by decide)]; exact es, fun x hx => ?_, y.tombs, rfl, ?_⟩
    · show GT40 x.1 ∧ GT40 x.2.1 ∧ GT40 x.2.2
      have := hF.tomb x hx
      exact ⟨⟨this.1.1, by have := this.1.2; omega⟩, ⟨this.2.1, by have := this.2; omega⟩, by have := this.2; omega, by have := this.2; omega⟩
    · rw [← h4]; rfl
theorem LstR.step {s : ByteArray} {k : Int} {N q q' : Nat} {M : List Row} {x : Row} (h : LstR s k N q M) (hM : M.length < N) (h' : RdG s q true (formOf k) (goodOf k) x q' true) : LstR s k N q' (M ++ [x]) := by
  refine ⟨h'.1, fun y hy e => ?_⟩
  obtain ⟨h1, h2, h3, h4, h5, R, h6, h7⟩ := h.2 y hy e
  refine ⟨h1, h2, h3, h4, h5, ?_⟩
  cases R with
  | nil => rw [h6] at h3; simp at h3; omega
  | cons z R =>
    rw [List.flatMap_cons] at h7
    obtain ⟨_, h8, h9⟩ := h'.2.2 rfl z _ (h5 z (by rw [h6]; simp)) h7
    exact ⟨R, by rw [h6, h8]; simp, h9.symm⟩
theorem LstR.bad {s : ByteArray} {k : Int} {N q : Nat} {M : List Row} (h : LstR s k N q M) (hM : M.length < N) (h' : ∀ x t, goodOf k x → (bl s).drop q ≠ formOf k x ++ t) : ∀ y, GoodR y → bl s ≠ encR y := fun y hy e => by
  obtain ⟨h1, h2, h3, h4, h5, R, h6, h7⟩ := h.2 y hy e
  cases R with
  | nil => rw [h6] at h3; simp at h3; omega
  | cons z R =>
    rw [List.flatMap_cons] at h7
    exact h' z _ (h5 z (by rw [h6]; simp)) h7
theorem LstR.done {s : ByteArray} {k : Int} {N q : Nat} {M : List Row} (h : LstR s k N q M) (hM : N ≤ M.length ∨ 5000 < M.length) : CmpR s (recOf k M) true := fun y hy e => by
  obtain ⟨h1, h2, h3, h4, h5, R, h6, h7⟩ := h.2 y hy e
  have : R = [] := List.eq_nil_of_length_eq_zero (by rw [h6, List.length_append] at h3; omega)
  subst this
  rw [List.append_nil] at h6
  exact ⟨rfl, by rw [h4, h6]⟩
end Go.Proofs
