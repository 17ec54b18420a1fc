/- Lists of samples that are sorted stably: plain lists alone. -/
import Derived.Test.YtjpjmpnlomkdbaaL13
namespace Go.Proofs
set_option linter.unusedVariables false
/-- Sorted by time, some alike. -/
def Srt (l : List Smp) : Prop := l.Pairwise fun x y => x.1 ≤ y.1
/-- The same samples of each time, in their order. -/
def Stb (l m : List Smp) : Prop := ∀ t, l.filter (fun x => decide (x.1 = t)) = m.filter (fun x => decide (x.1 = t))
theorem Stb.refl (l : List Smp) : Stb l l := fun _ => rfl
theorem Stb.symm {l m : List Smp} (h : Stb l m) : Stb m l := fun t => (h t).symm
theorem Stb.trans {l m k : List Smp} (h : Stb l m) (h' : Stb m k) : Stb l k := fun t => (h t).trans (h' t)
theorem Stb.app {l m l' m' : List Smp} (h : Stb l m) (h' : Stb l' m') : Stb (l ++ l') (m ++ m') := fun t => by rw [List.filter_append, List.filter_append, h t, h' t]
theorem Stb.mem {l m : List Smp} (h : Stb l m) {x : Smp} : x ∈ l ↔ x ∈ m := by
  have e := h x.1
  constructor
  · intro hx
    have : x ∈ l.filter (fun y => decide (y.1 = x.1)) := List.mem_filter.2 ⟨hx, by simp⟩
    rw [e] at this; exact (List.mem_filter.1 this).1
  · intro hx
    have : x ∈ m.filter (fun y => decide (y.1 = x.1)) := List.mem_filter.2 ⟨hx, by simp⟩
    rw [← e] at this; exact (List.mem_filter.1 this).1
/-- What is below all of it goes ahead of it. -/
theorem Stb.swap {A B : List Smp} (h : ∀ x ∈ A, ∀ y ∈ B, y.1 < x.1) : Stb (A ++ B) (B ++ A) := fun t => by
  rw [List.filter_append, List.filter_append]
  by_cases hA : A.filter (fun x => decide (x.1 = t)) = []
  · rw [hA]; simp
  · by_cases hB : B.filter (fun x => decide (x.1 = t)) = []
    · rw [hB]; simp
    · obtain ⟨x, hx⟩ := List.exists_mem_of_ne_nil _ hA
      obtain ⟨y, hy⟩ := List.exists_mem_of_ne_nil _ hB
      have h1 := List.mem_filter.1 hx
      have h2 := List.mem_filter.1 hy
      have := h x h1.1 y h2.1
      have e1 := of_decide_eq_true h1.2
      have e2 := of_decide_eq_true h2.2
      omega
theorem Stb.swap1 {A : List Smp} {y : Smp} (h : ∀ x ∈ A, y.1 < x.1) : Stb (A ++ [y]) (y :: A) := Stb.swap (B := [y]) fun x hx z hz => by simp at hz; subst hz; exact h x hx
theorem Stb.front {B : List Smp} {x : Smp} (h : ∀ y ∈ B, y.1 < x.1) : Stb (x :: B) (B ++ [x]) := Stb.swap (A := [x]) fun z hz y hy => by simp at hz; subst hz; exact h y hy
theorem Stb.length {l m : List Smp} (h : Stb l m) : l.length = m.length := by
  induction l generalizing m with
  | nil =>
    cases m with
    | nil => rfl
    | cons y m => have := (h.mem (x := y)).2 (by simp); simp at this
  | cons x l ih =>
    have hx := (h.mem (x := x)).1 (by simp)
    -- the first one of its time
    have : ∃ u v, m = u ++ x :: v ∧ ∀ y ∈ u, y.1 ≠ x.1 := by
      have e := h x.1
      rw [List.filter_cons, if_pos (by simp)] at e
      clear ih h hx
      induction m with
      | nil => simp at e
      | cons z m ihm =>
        rw [List.filter_cons] at e
        split at e
        · rename_i hz
          simp only [List.cons.injEq] at e
          exact ⟨[], m, by rw [e.1]; rfl, by simp⟩
        · rename_i hz
          obtain ⟨u, v, rfl, hu⟩ := ihm e
          refine ⟨z :: u, v, rfl, fun y hy => ?_⟩
          rcases List.mem_cons.1 hy with rfl | hy
          · simpa using hz
          · exact hu y hy
    obtain ⟨u, v, rfl, hu⟩ := this
    have h' : Stb l (u ++ v) := fun t => by
      have e := h t
      rw [List.filter_cons, List.filter_append, List.filter_cons] at e
      rw [List.filter_append]
      by_cases ht : x.1 = t
      · subst ht
        rw [if_pos (by simp), if_pos (by simp)] at e
        have : u.filter (fun y => decide (y.1 = x.1)) = [] := List.filter_eq_nil_iff.2 fun y hy => by simpa using hu y hy
        rw [this] at e ⊢
        simpa using e
      · rw [if_neg (by simpa using ht), if_neg (by simpa using ht)] at e
        exact e
    have := ih h'
    simp at this ⊢; omega
theorem srt_app {A B : List Smp} (hA : Srt A) (hB : Srt B) (h : ∀ x ∈ A, ∀ y ∈ B, x.1 ≤ y.1) : Srt (A ++ B) := List.pairwise_append.2 ⟨hA, hB, h⟩
theorem Srt.left {A B : List Smp} (h : Srt (A ++ B)) : Srt A := (List.pairwise_append.1 h).1
theorem Srt.right {A B : List Smp} (h : Srt (A ++ B)) : Srt B := (List.pairwise_append.1 h).2.1
theorem Srt.across {A B : List Smp} (h : Srt (A ++ B)) : ∀ x ∈ A, ∀ y ∈ B, x.1 ≤ y.1 := (List.pairwise_append.1 h).2.2
theorem Srt.le {l : List Smp} (h : Srt l) {i j : Nat} {x y : Smp} (hij : i ≤ j) (hx : l[i]? = some x) (hy : l[j]? = some y) : x.1 ≤ y.1 := by
  rcases Nat.lt_or_ge i j with h1 | h1
  · obtain ⟨hi, rfl⟩ := List.getElem?_eq_some_iff.1 hx
    obtain ⟨hj, rfl⟩ := List.getElem?_eq_some_iff.1 hy
    exact List.pairwise_iff_getElem.1 h i j hi hj h1
  · have : i = j := by omega
    subst this
    rw [hx] at hy; cases hy; exact Int.le_refl _
/-- The last of one, and the first of another, say it of all. -/
theorem ends_le {A B : List Smp} (hA : Srt A) (hB : Srt B) (h : ∀ x y, A.getLast? = some x → B.head? = some y → x.1 ≤ y.1) : ∀ x ∈ A, ∀ y ∈ B, x.1 ≤ y.1 := fun x hx y hy => by
  have hA0 : A ≠ [] := by intro e; subst e; cases hx
  have hB0 : B ≠ [] := by intro e; subst e; cases hy
  obtain ⟨i, hi⟩ := List.getElem?_of_mem hx
  obtain ⟨j, hj⟩ := List.getElem?_of_mem hy
  have hiA := (List.getElem?_eq_some_iff.1 hi).1
  have h1 : x.1 ≤ (A.getLast hA0).1 := hA.le (i := i) (j := A.length - 1) (by omega) hi (by rw [← List.getLast?_eq_getElem?]; exact List.getLast?_eq_some_getLast hA0)
  obtain ⟨b, B', rfl⟩ := List.exists_cons_of_ne_nil hB0
  have h2 : b.1 ≤ y.1 := hB.le (i := 0) (j := j) (Nat.zero_le _) rfl hj
  have := h _ b (List.getLast?_eq_some_getLast hA0) rfl
  omega
theorem ends_lt {A B : List Smp} (hA : Srt A) (hB : Srt B) (h : ∀ x y, A.head? = some x → B.getLast? = some y → y.1 < x.1) : ∀ x ∈ A, ∀ y ∈ B, y.1 < x.1 := fun x hx y hy => by
  have hA0 : A ≠ [] := by intro e; subst e; cases hx
  have hB0 : B ≠ [] := by intro e; subst e; cases hy
  obtain ⟨i, hi⟩ := List.getElem?_of_mem hx
  obtain ⟨j, hj⟩ := List.getElem?_of_mem hy
  have hjB := (List.getElem?_eq_some_iff.1 hj).1
  have h1 : y.1 ≤ (B.getLast hB0).1 := hB.le (i := j) (j := B.length - 1) (by omega) hj (by rw [← List.getLast?_eq_getElem?]; exact List.getLast?_eq_some_getLast hB0)
  obtain ⟨a, A', rfl⟩ := List.exists_cons_of_ne_nil hA0
  have h2 : a.1 ≤ x.1 := hA.le (i := 0) (j := i) (Nat.zero_le _) rfl hi
  have := h a _ rfl (List.getLast?_eq_some_getLast hB0)
  omega

/-! a part of a list -/
/-- From a to b stands this. -/
def Seg (l : List Smp) (a b : Nat) (s : List Smp) : Prop := ∃ P Q, l = P ++ s ++ Q ∧ P.length = a ∧ a + s.length = b
/-- That part alone has turned: it is sorted now, stably. -/
def Srtd (l m : List Smp) (a b : Nat) : Prop := ∃ P s s' Q, l = P ++ s ++ Q ∧ m = P ++ s' ++ Q ∧ P.length = a ∧ a + s.length = b ∧ Srt s' ∧ Stb s s'
theorem Srtd.len {l m : List Smp} {a b : Nat} (h : Srtd l m a b) : m.length = l.length := by
  obtain ⟨P, s, s', Q, rfl, rfl, _, _, _, h⟩ := h
  have := h.length
  simp only [List.length_append]; omega
theorem seg_get {P s Q : List Smp} {k : Nat} (h : P.length ≤ k) (h2 : k < P.length + s.length) : (P ++ s ++ Q)[k]? = s[k - P.length]? := by
  rw [List.append_assoc, List.getElem?_append_right h, List.getElem?_append_left (by omega)]
theorem split_at {l : List Smp} {a b : Nat} (hab : a ≤ b) (hb : b ≤ l.length) : ∃ P s Q, l = P ++ s ++ Q ∧ P.length = a ∧ a + s.length = b := ⟨l.take a, (l.take b).drop a, l.drop b, by
  have : l.take a = (l.take b).take a := by rw [List.take_take, Nat.min_eq_left hab]
  rw [this, List.take_append_drop, List.take_append_drop], by simp; omega, by simp; omega⟩
end Go.Proofs
