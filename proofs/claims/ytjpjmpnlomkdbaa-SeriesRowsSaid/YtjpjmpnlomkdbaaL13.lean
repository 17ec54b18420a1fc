/- A part of a proof: see the last text of this claim. -/
import Derived.Test.YtjpjmpnlomkdbaaGvLib
set_option linter.unusedVariables false
namespace Go.Proofs

abbrev Smp := Int × Int
/-- Merged by time; of two of a time the second list's. -/
def mrg : List Smp → List Smp → List Smp
  | [], b => b
  | x :: a, [] => x :: a
  | x :: a, y :: b => if x.1 < y.1 then x :: mrg a (y :: b) else if x.1 = y.1 then y :: mrg a b else y :: mrg (x :: a) b
termination_by a b => a.length + b.length

theorem mrg_nil (b : List Smp) : mrg [] b = b := by unfold mrg; rfl
theorem mrg_nil' : ∀ a : List Smp, mrg a [] = a
  | [] => mrg_nil _
  | x :: a => by unfold mrg; rfl
theorem mrg_cons (x y : Smp) (a b : List Smp) : mrg (x :: a) (y :: b) = if x.1 < y.1 then x :: mrg a (y :: b) else if x.1 = y.1 then y :: mrg a b else y :: mrg (x :: a) b := by
  rw [mrg]

/-- Samples that rise. -/
def Ris (l : List Smp) : Prop := l.Pairwise fun x y => x.1 < y.1
instance (l : List Smp) : Decidable (Ris l) := by unfold Ris; infer_instance
theorem Ris.nil : Ris [] := List.Pairwise.nil
theorem ris_cons {x : Smp} {l : List Smp} : Ris (x :: l) ↔ (∀ y ∈ l, x.1 < y.1) ∧ Ris l := List.pairwise_cons
/-- Neighbours suffice. -/
theorem ris_of_next : ∀ {l : List Smp}, (∀ (i : Nat) x y, l[i]? = some x → l[i + 1]? = some y → x.1 < y.1) → Ris l
  | [], _ => Ris.nil
  | [x], _ => by simp [Ris]
  | x :: y :: l, h => by
    have ih : Ris (y :: l) := ris_of_next fun i a b ha hb => h (i + 1) a b ha hb
    have hxy : x.1 < y.1 := h 0 x y rfl rfl
    refine ris_cons.2 ⟨fun z hz => ?_, ih⟩
    rcases List.mem_cons.1 hz with rfl | hz
    · exact hxy
    · exact Int.lt_trans hxy ((ris_cons.1 ih).1 z hz)
theorem ris_next {l : List Smp} (h : Ris l) {i : Nat} {x y : Smp} (hx : l[i]? = some x) (hy : l[i + 1]? = some y) : x.1 < y.1 := by
  obtain ⟨h1, rfl⟩ := List.getElem?_eq_some_iff.1 hx
  obtain ⟨h2, rfl⟩ := List.getElem?_eq_some_iff.1 hy
  exact List.pairwise_iff_getElem.1 h i (i + 1) h1 h2 (Nat.lt_succ_self _)
theorem ris_snoc {l : List Smp} {x : Smp} (h : Ris l) (hx : ∀ y, l.getLast? = some y → y.1 < x.1) : Ris (l ++ [x]) := by
  refine List.pairwise_append.2 ⟨h, by simp, fun a ha b hb => ?_⟩
  simp only [List.mem_singleton] at hb
  subst hb
  cases hl : l.getLast? with
  | none => simp at hl; subst hl; cases ha
  | some y =>
    have hy := hx y hl
    obtain ⟨m, rfl⟩ : ∃ m, l = m ++ [y] := by
      rw [List.getLast?_eq_some_iff] at hl
      exact hl
    rcases List.mem_append.1 ha with ha | ha
    · exact Int.lt_trans ((List.pairwise_append.1 h).2.2 a ha y (by simp)) hy
    · simp at ha; subst ha; exact hy

theorem mem_mrg {z : Smp} : ∀ a b : List Smp, z ∈ mrg a b → z ∈ a ∨ z ∈ b
  | [], b, h => by rw [mrg_nil] at h; exact .inr h
  | x :: a, [], h => by rw [mrg_nil'] at h; exact .inl h
  | x :: a, y :: b, h => by
    rw [mrg_cons] at h
    split at h
    · rcases List.mem_cons.1 h with rfl | h
      · exact .inl (by simp)
      · rcases mem_mrg a (y :: b) h with h | h
        · exact .inl (by simp [h])
        · exact .inr h
    · split at h
      · rcases List.mem_cons.1 h with rfl | h
        · exact .inr (by simp)
        · rcases mem_mrg a b h with h | h
          · exact .inl (by simp [h])
          · exact .inr (by simp [h])
      · rcases List.mem_cons.1 h with rfl | h
        · exact .inr (by simp)
        · rcases mem_mrg (x :: a) b h with h | h
          · exact .inl h
          · exact .inr (by simp [h])
termination_by a b => a.length + b.length
theorem ris_mrg : ∀ a b : List Smp, Ris a → Ris b → Ris (mrg a b)
  | [], b, _, hb => by rw [mrg_nil]; exact hb
  | x :: a, [], ha, _ => by rw [mrg_nil']; exact ha
  | x :: a, y :: b, ha, hb => by
    have ha' := ris_cons.1 ha
    have hb' := ris_cons.1 hb
    rw [mrg_cons]
    split
    · rename_i h
      refine ris_cons.2 ⟨fun z hz => ?_, ris_mrg a (y :: b) ha'.2 hb⟩
      rcases mem_mrg _ _ hz with hz | hz
      · exact ha'.1 z hz
      · rcases List.mem_cons.1 hz with rfl | hz
        · exact h
        · exact Int.lt_trans h (hb'.1 z hz)
    · split
      · rename_i h1 h
        refine ris_cons.2 ⟨fun z hz => ?_, ris_mrg a b ha'.2 hb'.2⟩
        rcases mem_mrg _ _ hz with hz | hz
        · have := ha'.1 z hz; omega
        · exact hb'.1 z hz
      · rename_i h1 h2
        refine ris_cons.2 ⟨fun z hz => ?_, ris_mrg (x :: a) b ha hb'.2⟩
        rcases mem_mrg _ _ hz with hz | hz
        · rcases List.mem_cons.1 hz with rfl | hz
          · omega
          · have := ha'.1 z hz; omega
        · exact hb'.1 z hz
termination_by a b => a.length + b.length
theorem len_mrg : ∀ a b : List Smp, (mrg a b).length ≤ a.length + b.length
  | [], b => by rw [mrg_nil]; simp
  | x :: a, [] => by rw [mrg_nil']; simp
  | x :: a, y :: b => by
    rw [mrg_cons]
    split
    · have := len_mrg a (y :: b); simp at this ⊢; omega
    · split
      · have := len_mrg a b; simp at this ⊢; omega
      · have := len_mrg (x :: a) b; simp at this ⊢; omega
termination_by a b => a.length + b.length
theorem mrg_self : ∀ a : List Smp, mrg a a = a
  | [] => mrg_nil _
  | x :: a => by rw [mrg_cons, if_neg (Int.lt_irrefl _), if_pos rfl, mrg_self a]

/-- One behind the other: one merged at a time. -/
theorem mrg_one {x : Smp} {b : List Smp} (hx : ∀ y ∈ b, x.1 < y.1) : ∀ l : List Smp, mrg (mrg l [x]) b = mrg l (x :: b)
  | [] => by
    rw [mrg_nil, mrg_nil]
    cases b with
    | nil => exact mrg_nil' _
    | cons y b => rw [mrg_cons, if_pos (hx y (by simp)), mrg_nil]
  | z :: l => by
    rw [mrg_cons, mrg_cons z x l b]
    split
    · rename_i h
      rw [← mrg_one hx l]
      cases b with
      | nil => rw [mrg_nil', mrg_nil']
      | cons y b => rw [mrg_cons, if_pos (by have := hx y (by simp); omega)]
    · split
      · rw [mrg_nil']
        cases b with
        | nil => rw [mrg_nil', mrg_nil']
        | cons y b => rw [mrg_cons, if_pos (hx y (by simp))]
      · rw [mrg_nil']
        cases b with
        | nil => rw [mrg_nil', mrg_nil']
        | cons y b => rw [mrg_cons, if_pos (hx y (by simp))]
theorem mrg_fold : ∀ (b a : List Smp), Ris b → b.foldl (fun l x => mrg l [x]) a = mrg a b
  | [], a, _ => by rw [mrg_nil']; rfl
  | x :: b, a, h => by
    have h' := ris_cons.1 h
    rw [List.foldl_cons, mrg_fold b _ h'.2, mrg_one h'.1]

/-- The reference's way to set one. -/
def setS (l : List Smp) (x : Smp) : List Smp := match l with
  | [] => [x]
  | y :: l => if x.1 ≤ y.1 then x :: (y :: l).filter (fun z => decide (z.1 ≠ x.1)) else y :: setS l x
theorem filter_all {l : List Smp} {p : Smp → Bool} (h : ∀ y ∈ l, p y = true) : l.filter p = l := List.filter_eq_self.2 h
theorem setS_eq {x : Smp} : ∀ {l : List Smp}, Ris l → setS l x = mrg l [x]
  | [], _ => by rw [mrg_nil]; rfl
  | y :: l, h => by
    have h' := ris_cons.1 h
    rw [setS, mrg_cons]
    by_cases h1 : y.1 < x.1
    · rw [if_neg (by omega), if_pos h1, setS_eq h'.2]
    · rw [if_pos (by omega), if_neg h1, mrg_nil', mrg_nil', List.filter_cons]
      have hf : l.filter (fun z => decide (z.1 ≠ x.1)) = l := filter_all fun z hz => by have := h'.1 z hz; simp; omega
      rw [hf]
      by_cases h2 : y.1 = x.1
      · rw [if_neg (by simpa using h2), if_pos h2]
      · rw [if_pos (by simpa using h2), if_neg h2]

theorem filter_split : ∀ {l : List Smp} (p : Smp → Bool), Ris l → mrg (l.filter p) (l.filter fun x => !p x) = l
  | [], p, _ => by simp [mrg_nil]
  | x :: l, p, h => by
    have h' := ris_cons.1 h
    have ih := filter_split p h'.2
    rw [List.filter_cons, List.filter_cons]
    cases hp : p x with
    | true =>
      simp only [if_true, Bool.not_true, if_neg (show ¬ false = true by decide)]
      generalize hq : l.filter (fun x => !p x) = q at ih ⊢
      cases q with
      | nil => rw [mrg_nil'] at ih ⊢; rw [ih]
      | cons y q =>
        have hy : y ∈ l := (List.mem_filter.1 (show y ∈ l.filter (fun x => !p x) by rw [hq]; simp)).1
        rw [mrg_cons, if_pos (h'.1 y hy), ih]
    | false =>
      simp only [Bool.not_false, if_true, if_neg (show ¬ false = true by decide)]
      generalize hq : l.filter p = q at ih ⊢
      cases q with
      | nil => rw [mrg_nil] at ih ⊢; rw [ih]
      | cons y q =>
        have hy : y ∈ l := (List.mem_filter.1 (show y ∈ l.filter p by rw [hq]; simp)).1
        have := h'.1 y hy
        rw [mrg_cons, if_neg (by omega), if_neg (by omega), ih]
theorem len_split (p : Smp → Bool) (l : List Smp) : (l.filter p).length + (l.filter fun x => !p x).length = l.length := by
  induction l with
  | nil => rfl
  | cons x l ih =>
    rw [List.filter_cons, List.filter_cons]
    cases p x <;> simp <;> omega

def inR (f t : Int) (x : Smp) : Bool := decide (f ≤ x.1) && decide (x.1 < t)
theorem cut_parts {lo mid hi : Int} (h1 : lo ≤ mid) (h2 : mid ≤ hi) : ∀ {l : List Smp}, Ris l → l.filter (inR lo mid) ++ l.filter (inR mid hi) = l.filter (inR lo hi)
  | [], _ => rfl
  | x :: l, h => by
    have h' := ris_cons.1 h
    have ih := cut_parts h1 h2 h'.2
    rw [List.filter_cons, List.filter_cons, List.filter_cons]
    by_cases a : x.1 < mid
    · have e2 : inR mid hi x = false := by simp [inR]; omega
      have e3 : inR lo mid x = inR lo hi x := by simp [inR, a]; omega
      rw [e2, e3]
      cases inR lo hi x <;> simp [ih]
    · have e1 : inR lo mid x = false := by simp [inR]; omega
      have e3 : inR lo hi x = inR mid hi x := by
        have e5 : decide (lo ≤ x.1) = true := decide_eq_true (by omega)
        have e6 : decide (mid ≤ x.1) = true := decide_eq_true (by omega)
        unfold inR; rw [e5, e6]
      have e4 : l.filter (inR lo mid) = [] := List.filter_eq_nil_iff.2 fun y hy => by have := h'.1 y hy; simp [inR]; omega
      rw [e4] at ih
      rw [e1, e3, e4, ← ih]
      simp
theorem out_parts {lo mid hi : Int} (h1 : lo ≤ mid) (h2 : mid ≤ hi) (l : List Smp) : (l.filter fun x => !inR lo mid x).filter (fun x => !inR mid hi x) = l.filter fun x => !inR lo hi x := by
  rw [List.filter_filter]
  refine List.filter_congr fun x _ => ?_
  unfold inR
  by_cases a : lo ≤ x.1 <;> by_cases b : mid ≤ x.1 <;> by_cases c : x.1 < mid <;> by_cases d : x.1 < hi <;> simp [a, b, c, d] <;> omega

end Go.Proofs
namespace Go.Proofs
theorem ris_take {l : List Smp} (h : Ris l) (k : Nat) : Ris (l.take k) := List.Pairwise.sublist (List.take_sublist _ _) h
theorem fold_set : ∀ (b a : List Smp), Ris a → Ris b → b.foldl setS a = mrg a b
  | [], a, _, _ => by rw [mrg_nil']; rfl
  | x :: b, a, ha, hb => by
    have h' := ris_cons.1 hb
    rw [List.foldl_cons, setS_eq ha, fold_set b _ (ris_mrg _ _ ha (by simp [Ris])) h'.2, mrg_one h'.1]
theorem ris_filter {l : List Smp} (p : Smp → Bool) (h : Ris l) : Ris (l.filter p) := List.Pairwise.sublist List.filter_sublist h
theorem setS_ge {x y : Smp} (h : x.1 ≤ y.1) (l : List Smp) : setS (y :: l) x = x :: (y :: l).filter (fun z => decide (z.1 ≠ x.1)) := by rw [setS, if_pos h]
theorem setS_lt {x y : Smp} (h : y.1 < x.1) (l : List Smp) : setS (y :: l) x = y :: setS l x := by rw [setS, if_neg (by omega)]
theorem smp_eq (x y : Smp) : (x.1 == y.1 && (x.2 == y.2 && true)) = decide (x = y) := by
  rcases x with ⟨a, b⟩; rcases y with ⟨c, d⟩
  by_cases h1 : a = c <;> by_cases h2 : b = d <;> simp [h1, h2]
end Go.Proofs
