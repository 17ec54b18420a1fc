/- A part of a proof: see the last text of this claim. -/
import Derived.Test.YtddfciphdbdemaaL07e
import Derived.Test.YtddfciphdbdemaaSortS
set_option linter.unusedVariables false
set_option maxRecDepth 100000
open Go Go.GV
namespace Go.Proofs

/-! texts that rise -/
def RiS (l : List ByteArray) : Prop := l.Pairwise fun x y => ltS x y = true
def SetS (xs : List ByteArray) (p : ByteArray → Prop) : Prop := RiS xs ∧ ∀ z, z ∈ xs ↔ p z
theorem RiS.eq : ∀ {a b : List ByteArray}, RiS a → RiS b → (∀ z, z ∈ a ↔ z ∈ b) → a = b
  | [], [], _, _, _ => rfl
  | [], y :: b, _, _, h => by have := (h y).2 (by simp); cases this
  | x :: a, [], _, _, h => by have := (h x).1 (by simp); cases this
  | x :: a, y :: b, ha, hb, h => by
    have ha' := List.pairwise_cons.1 ha
    have hb' := List.pairwise_cons.1 hb
    have e : x = y := by
      have h1 := (h x).1 (by simp)
      have h2 := (h y).2 (by simp)
      rcases List.mem_cons.1 h1 with h1 | h1
      · exact h1
      · rcases List.mem_cons.1 h2 with h2 | h2
        · exact h2.symm
        · have := ltS_trans (ha'.1 y h2) (hb'.1 x h1)
          rw [ltS_irrefl] at this; cases this
    subst e
    have no : ∀ {l : List ByteArray}, (∀ z ∈ l, ltS x z = true) → x ∉ l := fun hl hm => by
      have := hl x hm
      rw [ltS_irrefl] at this; cases this
    rw [RiS.eq ha'.2 hb'.2 fun z => ?_]
    have := h z
    simp only [List.mem_cons] at this
    constructor
    · intro hz
      rcases this.1 (.inr hz) with e | e
      · subst e; exact absurd hz (no ha'.1)
      · exact e
    · intro hz
      rcases this.2 (.inr hz) with e | e
      · subst e; exact absurd hz (no hb'.1)
      · exact e
theorem SetS.eq {xs ys : List ByteArray} {p : ByteArray → Prop} (h : SetS xs p) (h' : SetS ys p) : xs = ys := h.1.eq h'.1 fun z => (h.2 z).trans (h'.2 z).symm
theorem SetS.iff {xs : List ByteArray} {p q : ByteArray → Prop} (h : SetS xs p) (hq : ∀ z, p z ↔ q z) : SetS xs q := ⟨h.1, fun z => (h.2 z).trans (hq z)⟩
theorem lt_iff : ∀ x y : List UInt8, x < y ↔ Op.bytesLess x y = true
  | [], [] => by simp [Op.bytesLess]
  | [], _ :: _ => by simp [Op.bytesLess]
  | _ :: _, [] => by simp [Op.bytesLess]
  | a :: x, b :: y => by rw [bytesLess_cons, List.cons_lt_cons_iff, lt_iff x y]
theorem le_iff (x y : List UInt8) : x ≤ y ↔ Op.bytesLess y x = false := by
  show ¬ y < x ↔ _
  rw [lt_iff]; simp
/-- Texts, each once, sorted: they rise. -/
theorem sorted_rise {xs ys : List ByteArray} (hn : xs.Nodup) (h : ys.map bl = (xs.map bl).mergeSort (fun x y => decide (x ≤ y))) : RiS ys ∧ ∀ z, z ∈ ys ↔ z ∈ xs := by
  have hp := List.mergeSort_perm (xs.map bl) (fun x y => decide (x ≤ y))
  have hs := List.pairwise_mergeSort (le := fun x y : List UInt8 => decide (x ≤ y)) (fun a b c h1 h2 => by
      simp only [decide_eq_true_eq, le_iff] at *
      cases h : Op.bytesLess c a with
      | false => rfl
      | true =>
        cases h3 : Op.bytesLess a b with
        | true => have := bytesLess_trans h h3; rw [this] at h2; cases h2
        | false =>
          have := bytesLess_tri _ _ h3 h1
          subst this
          rw [h] at h2; cases h2) (fun a b => by
      simp only [Bool.or_eq_true, decide_eq_true_eq, le_iff]
      cases h : Op.bytesLess b a with
      | false => exact .inl rfl
      | true =>
        right
        cases h' : Op.bytesLess a b with
        | false => rfl
        | true => have := bytesLess_trans h h'; rw [bytesLess_irrefl] at this; cases this) (xs.map bl)
  rw [← h] at hp hs
  have hm : ∀ z, z ∈ ys ↔ z ∈ xs := fun z => by
    have e : bl z ∈ ys.map bl ↔ bl z ∈ xs.map bl := hp.mem_iff
    have inj : ∀ l : List ByteArray, bl z ∈ l.map bl ↔ z ∈ l := fun l => by
      rw [List.mem_map]
      exact ⟨fun ⟨w, hw, e⟩ => bl_inj e ▸ hw, fun h => ⟨z, h, rfl⟩⟩
    rwa [inj, inj] at e
  have hnd : ys.Nodup := by
    have h1 : (xs.map bl).Nodup := by
      unfold List.Nodup at *
      rw [List.pairwise_map]
      exact hn.imp fun h e => h (bl_inj e)
    have h2 := hp.nodup_iff.2 h1
    unfold List.Nodup at *
    rw [List.pairwise_map] at h2
    exact h2.imp fun h e => h (by rw [e])
  refine ⟨?_, hm⟩
  rw [List.pairwise_map] at hs
  unfold RiS
  unfold List.Nodup at hnd
  refine (hs.and hnd).imp fun {x y} h => ?_
  obtain ⟨h1, h2⟩ := h
  simp only [decide_eq_true_eq, le_iff] at h1
  cases h3 : ltS x y with
  | true => rfl
  | false => exact absurd (ltS_tri h3 h1) h2
theorem RiS.snoc {l : List ByteArray} {x : ByteArray} (h : RiS l) (hx : ∀ z ∈ l, ltS z x = true) : RiS (l ++ [x]) := by
  unfold RiS
  rw [List.pairwise_append]
  exact ⟨h, by simp, fun a ha b hb => by simp at hb; subst hb; exact hx a ha⟩
theorem ris_lt {l : List ByteArray} (h : RiS l) {i j : Nat} {x y : ByteArray} (hij : i < j) (hx : l[i]? = some x) (hy : l[j]? = some y) : ltS x y = true := by
  obtain ⟨hi, rfl⟩ := List.getElem?_eq_some_iff.1 hx
  obtain ⟨hj, rfl⟩ := List.getElem?_eq_some_iff.1 hy
  exact (List.pairwise_iff_getElem.1 h) i j hi hj hij
theorem RiS.nodup {l : List ByteArray} (h : RiS l) : l.Nodup := by
  unfold List.Nodup
  exact h.imp fun h e => by rw [e, ltS_irrefl] at h; cases h

/-- Which names there are. -/
def nameP (L : List Lbls) (s : ByteArray) : Prop := ∃ l ∈ L, ∃ v, (s, v) ∈ l
/-- Which values. -/
def valP (L : List Lbls) (nm s : ByteArray) : Prop := ∃ l ∈ L, (nm, s) ∈ l
theorem ids_val (L : List Lbls) (nm v : ByteArray) : idsL L nm v ≠ [] ↔ valP L nm v := by
  have h := (idsL_set L nm v).2
  constructor
  · intro hne
    obtain ⟨z, hz⟩ := List.exists_mem_of_ne_nil _ hne
    obtain ⟨k, l, e, hk1, hm⟩ := (h z).1 hz
    exact ⟨l, List.mem_of_getElem? hk1, hm⟩
  · rintro ⟨l, hl, hm⟩ e
    obtain ⟨k, hk⟩ := List.mem_iff_getElem?.1 hl
    have := (h k).2 ⟨k, l, rfl, hk, hm⟩
    rw [e] at this; cases this
end Go.Proofs
