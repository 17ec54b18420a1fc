/- A part of a proof: see the last text of this claim. -/
import Derived.Test.YtgjbljhocedpfaaP10
set_option linter.unusedVariables false
set_option maxRecDepth 20000
open Go Go.GV
namespace Go.Proofs

/-- The sectors that have something waiting, ascending. -/
def wsN (m : Dk) (n : Nat) : List Nat := (List.range n).filter fun i : Nat => decide (m.wait (i : Int) ≠ [])
def wsL (m : Dk) : List Nat := wsN m 512
def rank (m : Dk) (i : Nat) : Nat := ((List.range i).filter fun i : Nat => decide (m.wait (i : Int) ≠ [])).length
/-- What a sector has behind a settling. -/
def setl (pk : Nat → Nat → Nat) (m : Dk) (i : Nat) : ByteArray :=
  if m.wait (i : Int) = [] then m.is i else
    let k := pk (rank m i) (m.wait (i : Int)).length
    if 0 < k then ((m.wait (i : Int))[k - 1]?).getD (m.is i) else m.is i
def settleM (pk : Nat → Nat → Nat) (m : Dk) : Dk := { m with is := setl pk m, wait := fun _ => [] }
/-- Amid it. -/
def midM (pk : Nat → Nat → Nat) (m : Dk) (j : Nat) : Dk := { m with is := fun i => if i ∈ (wsL m).take j then setl pk m i else m.is i }

theorem filter_get {p : Nat → Bool} : ∀ (n j i : Nat), ((List.range n).filter p)[j]? = some i → i < n ∧ p i = true ∧ j = ((List.range i).filter p).length
  | 0, j, i, h => by simp at h
  | n + 1, j, i, h => by
    rw [List.range_succ, List.filter_append] at h
    by_cases hj : j < ((List.range n).filter p).length
    · rw [List.getElem?_append_left hj] at h
      obtain ⟨h1, h2, h3⟩ := filter_get n j i h
      exact ⟨by omega, h2, h3⟩
    · rw [List.getElem?_append_right (by omega)] at h
      by_cases hp : p n = true
      · rw [List.filter_cons, if_pos hp] at h
        have : j - ((List.range n).filter p).length = 0 := by
          have := (List.getElem?_eq_some_iff.1 h).1
          simp at this
          omega
        rw [this] at h
        simp at h
        subst h
        exact ⟨by omega, hp, by omega⟩
      · rw [List.filter_cons, if_neg hp] at h
        simp at h
theorem wsN_get {m : Dk} {n j i : Nat} (h : (wsN m n)[j]? = some i) : i < n ∧ m.wait (i : Int) ≠ [] ∧ rank m i = j := by
  obtain ⟨h1, h2, h3⟩ := filter_get n j i h
  exact ⟨h1, by simpa using h2, h3.symm⟩
theorem wsN_mem {m : Dk} {n i : Nat} : i ∈ wsN m n ↔ i < n ∧ m.wait (i : Int) ≠ [] := by
  unfold wsN
  rw [List.mem_filter, List.mem_range]
  simp
theorem wsN_len (m : Dk) (n : Nat) : (wsN m n).length ≤ n := by
  have := List.length_filter_le (fun i : Nat => decide (m.wait (i : Int) ≠ [])) (List.range n)
  rw [List.length_range] at this
  exact this
theorem wsN_asc (m : Dk) (n : Nat) : (wsN m n).Pairwise (· < ·) := List.Pairwise.filter _ List.pairwise_lt_range
theorem wsL_get {m : Dk} {j i : Nat} (h : (wsL m)[j]? = some i) : i < 512 ∧ m.wait (i : Int) ≠ [] ∧ rank m i = j := wsN_get h
theorem wsL_mem {m : Dk} {i : Nat} : i ∈ wsL m ↔ i < 512 ∧ m.wait (i : Int) ≠ [] := wsN_mem
theorem wsL_len (m : Dk) : (wsL m).length ≤ 512 := wsN_len m 512

/-- Lists that rise and have the same in them are one. -/
theorem asc_unique : ∀ {l k : List Int}, l.Pairwise (· < ·) → k.Pairwise (· < ·) → (∀ x, x ∈ l ↔ x ∈ k) → l = k
  | [], [], _, _, _ => rfl
  | [], y :: k, _, _, h => absurd ((h y).2 (by simp)) (by simp)
  | x :: l, [], _, _, h => absurd ((h x).1 (by simp)) (by simp)
  | x :: l, y :: k, hl, hk, h => by
    have hl' := List.pairwise_cons.1 hl
    have hk' := List.pairwise_cons.1 hk
    have e : x = y := by
      have h1 := (h x).1 (by simp)
      have h2 := (h y).2 (by simp)
      rcases List.mem_cons.1 h1 with h1 | h1
      · exact h1
      · rcases List.mem_cons.1 h2 with h2 | h2
        · exact h2.symm
        · have := hk'.1 x h1; have := hl'.1 y h2; omega
    subst e
    congr 1
    refine asc_unique hl'.2 hk'.2 fun z => ⟨fun hz => ?_, fun hz => ?_⟩
    · rcases List.mem_cons.1 ((h z).1 (by simp [hz])) with rfl | h1
      · have := hl'.1 z hz; omega
      · exact h1
    · rcases List.mem_cons.1 ((h z).2 (by simp [hz])) with rfl | h1
      · have := hk'.1 z hz; omega
      · exact h1
theorem sort_asc {l : List Int} (h : l.Nodup) : (l.mergeSort fun x y => decide (x ≤ y)).Pairwise (· < ·) := by
  have h1 := List.pairwise_mergeSort (le := fun x y : Int => decide (x ≤ y)) (by intro a b c; simp; omega) (by intro a b; simp; omega) l
  have h2 : (l.mergeSort fun x y => decide (x ≤ y)).Nodup := (List.mergeSort_perm l _).nodup_iff.2 h
  refine (h1.and h2).imp fun {a b} h => ?_
  have := h.1
  have := h.2
  simp at *
  omega
theorem sorted_wsN {m : Dk} {n : Nat} {l : List Int} (hn : l.Nodup) (hm : ∀ k : Int, k ∈ l ↔ 0 ≤ k ∧ k < n ∧ m.wait k ≠ []) : (l.mergeSort fun x y => decide (x ≤ y)) = (wsN m n).map fun i : Nat => (i : Int) := by
  refine asc_unique (sort_asc hn) ?_ fun x => ?_
  · refine List.pairwise_map.2 ((wsN_asc m n).imp fun {a b} h => ?_)
    omega
  · rw [(List.mergeSort_perm l _).mem_iff, hm, List.mem_map]
    constructor
    · rintro ⟨h1, h2, h3⟩
      refine ⟨x.toNat, wsN_mem.2 ⟨by omega, ?_⟩, by omega⟩
      rwa [show ((x.toNat : Nat) : Int) = x by omega]
    · rintro ⟨i, hi, rfl⟩
      have := wsN_mem.1 hi
      exact ⟨by omega, by omega, this.2⟩
theorem sorted_ws {m : Dk} {l : List Int} (hn : l.Nodup) (hm : ∀ k : Int, k ∈ l ↔ 0 ≤ k ∧ k < 512 ∧ m.wait k ≠ []) : (l.mergeSort fun x y => decide (x ≤ y)) = (wsL m).map fun i : Nat => (i : Int) := sorted_wsN (n := 512) hn hm

theorem midM_zero (pk : Nat → Nat → Nat) (m : Dk) : midM pk m 0 = m := by simp [midM]
theorem midM_all {pk : Nat → Nat → Nat} {m : Dk} {i : Nat} (h : i < 512) : (midM pk m (wsL m).length).is i = setl pk m i := by
  simp only [midM, List.take_length]
  split
  · rfl
  · rename_i hn
    have : m.wait (i : Int) = [] := by
      refine Classical.byContradiction fun h2 => hn (wsL_mem.2 ⟨h, h2⟩)
    rw [setl, if_pos this]
theorem midM_succ {pk : Nat → Nat → Nat} {m : Dk} {j i : Nat} (h : (wsL m)[j]? = some i) (k : Nat) : (midM pk m (j + 1)).is k = if k = i then setl pk m i else (midM pk m j).is k := by
  simp only [midM]
  rw [List.take_add_one, h]
  simp only [Option.toList_some, List.mem_append, List.mem_singleton]
  by_cases hk : k = i
  · subst hk; simp
  · simp [hk]
end Go.Proofs
