/- A part of a proof: see the last text of this claim. -/
import Derived.Test.YtmclknfhehoadaaGvCore
set_option linter.unusedVariables false
namespace Go.Proofs

abbrev Tmb := Int × Int × Int
/-- A point that a list of tombs covers. -/
def cov (l : List Tmb) (i t : Int) : Prop := ∃ x ∈ l, x.1 = i ∧ x.2.1 ≤ t ∧ t < x.2.2
def full (x : Tmb) : Prop := x.2.1 < x.2.2
def gap (a b : Tmb) : Prop := a.1 < b.1 ∨ a.1 = b.1 ∧ a.2.2 < b.2.1
def ord (a b : Tmb) : Prop := a.1 < b.1 ∨ a.1 = b.1 ∧ a.2.1 ≤ b.2.1
def Nrm (l : List Tmb) : Prop := l.Pairwise gap ∧ ∀ x ∈ l, full x

theorem cov_nil (i t : Int) : ¬ cov [] i t := by rintro ⟨x, hx, _⟩; cases hx
theorem cov_cons {x : Tmb} {l : List Tmb} {i t : Int} : cov (x :: l) i t ↔ (x.1 = i ∧ x.2.1 ≤ t ∧ t < x.2.2) ∨ cov l i t := by
  constructor
  · rintro ⟨y, hy, h⟩
    rcases List.mem_cons.1 hy with rfl | hy
    · exact .inl h
    · exact .inr ⟨y, hy, h⟩
  · rintro (h | ⟨y, hy, h⟩)
    · exact ⟨x, by simp, h⟩
    · exact ⟨y, by simp [hy], h⟩
theorem cov_append {l k : List Tmb} {i t : Int} : cov (l ++ k) i t ↔ cov l i t ∨ cov k i t := by
  constructor
  · rintro ⟨y, hy, h⟩
    rcases List.mem_append.1 hy with hy | hy
    · exact .inl ⟨y, hy, h⟩
    · exact .inr ⟨y, hy, h⟩
  · rintro (⟨y, hy, h⟩ | ⟨y, hy, h⟩)
    · exact ⟨y, by simp [hy], h⟩
    · exact ⟨y, by simp [hy], h⟩
theorem cov_perm {l k : List Tmb} (h : l.Perm k) {i t : Int} : cov l i t ↔ cov k i t := by
  constructor
  · rintro ⟨y, hy, h2⟩; exact ⟨y, h.mem_iff.1 hy, h2⟩
  · rintro ⟨y, hy, h2⟩; exact ⟨y, h.mem_iff.2 hy, h2⟩
theorem cov_full {l : List Tmb} {i t : Int} : cov (l.filter fun x => !decide (x.2.1 ≥ x.2.2)) i t ↔ cov l i t := by
  constructor
  · rintro ⟨y, hy, h2⟩; exact ⟨y, (List.mem_filter.1 hy).1, h2⟩
  · rintro ⟨y, hy, h2⟩; exact ⟨y, List.mem_filter.2 ⟨hy, by simp; omega⟩, h2⟩

/-- Behind a normal list's first all are later. -/
theorem nrm_later {x : Tmb} {l : List Tmb} (h : Nrm (x :: l)) {i t : Int} (hc : cov l i t) : x.1 < i ∨ x.1 = i ∧ x.2.2 < t := by
  obtain ⟨y, hy, h1, h2, h3⟩ := hc
  have := (List.pairwise_cons.1 h.1).1 y hy
  unfold gap at this
  omega
theorem nrm_tail {x : Tmb} {l : List Tmb} (h : Nrm (x :: l)) : Nrm l := ⟨(List.pairwise_cons.1 h.1).2, fun y hy => h.2 y (by simp [hy])⟩
/-- Of normal lists that cover the same there is one. -/
theorem nrm_unique : ∀ {l k : List Tmb}, Nrm l → Nrm k → (∀ i t, cov l i t ↔ cov k i t) → l = k
  | [], [], _, _, _ => rfl
  | [], y :: k, _, hk, h => by
    have := hk.2 y (by simp)
    unfold full at this
    exact absurd ((h y.1 y.2.1).2 (cov_cons.2 (.inl ⟨rfl, by omega, this⟩))) (cov_nil _ _)
  | x :: l, [], hl, _, h => by
    have := hl.2 x (by simp)
    unfold full at this
    exact absurd ((h x.1 x.2.1).1 (cov_cons.2 (.inl ⟨rfl, by omega, this⟩))) (cov_nil _ _)
  | x :: l, y :: k, hl, hk, h => by
    have fx := hl.2 x (by simp)
    have fy := hk.2 y (by simp)
    unfold full at fx fy
    have h1 : (y.1 = x.1 ∧ y.2.1 ≤ x.2.1 ∧ x.2.1 < y.2.2) ∨ (y.1 < x.1 ∨ y.1 = x.1 ∧ y.2.2 < x.2.1) := by
      rcases cov_cons.1 ((h x.1 x.2.1).1 (cov_cons.2 (.inl ⟨rfl, by omega, fx⟩))) with h | h
      · exact .inl h
      · exact .inr (nrm_later hk h)
    have h2 : (x.1 = y.1 ∧ x.2.1 ≤ y.2.1 ∧ y.2.1 < x.2.2) ∨ (x.1 < y.1 ∨ x.1 = y.1 ∧ x.2.2 < y.2.1) := by
      rcases cov_cons.1 ((h y.1 y.2.1).2 (cov_cons.2 (.inl ⟨rfl, by omega, fy⟩))) with h | h
      · exact .inl h
      · exact .inr (nrm_later hl h)
    have e1 : x.1 = y.1 := by omega
    have e2 : x.2.1 = y.2.1 := by omega
    have e3 : x.2.2 = y.2.2 := by
      rcases Int.lt_trichotomy x.2.2 y.2.2 with h3 | h3 | h3
      · exfalso
        rcases cov_cons.1 ((h x.1 x.2.2).2 (cov_cons.2 (.inl ⟨by omega, by omega, h3⟩))) with h4 | h4
        · omega
        · have := nrm_later hl h4; omega
      · exact h3
      · exfalso
        rcases cov_cons.1 ((h y.1 y.2.2).1 (cov_cons.2 (.inl ⟨by omega, by omega, h3⟩))) with h4 | h4
        · omega
        · have := nrm_later hk h4; omega
    have e : x = y := Prod.ext e1 (Prod.ext e2 e3)
    subst e
    congr 1
    refine nrm_unique (nrm_tail hl) (nrm_tail hk) fun i t => ⟨fun hc => ?_, fun hc => ?_⟩
    · rcases cov_cons.1 ((h i t).1 (cov_cons.2 (.inr hc))) with h4 | h4
      · have := nrm_later hl hc; omega
      · exact h4
    · rcases cov_cons.1 ((h i t).2 (cov_cons.2 (.inr hc))) with h4 | h4
      · have := nrm_later hk hc; omega
      · exact h4

/-- One more behind others. -/
def addT (out : List Tmb) (x : Tmb) : List Tmb := match out.getLast? with
  | none => [x]
  | some l => if l.1 = x.1 ∧ x.2.1 ≤ l.2.2 then out.dropLast ++ [(l.1, l.2.1, max l.2.2 x.2.2)] else out ++ [x]
theorem addT_ok {out : List Tmb} {x : Tmb} (hn : Nrm out) (ho : ∀ a ∈ out, ord a x) (hx : full x) : Nrm (addT out x) ∧ (∀ i t, cov (addT out x) i t ↔ cov out i t ∨ (x.1 = i ∧ x.2.1 ≤ t ∧ t < x.2.2)) ∧ (∀ y, ord x y → ∀ a ∈ addT out x, ord a y) := by
  unfold addT
  cases hl : out.getLast? with
  | none =>
    have : out = [] := by simpa using hl
    subst this
    refine ⟨⟨by simp, by simpa using hx⟩, fun i t => ?_, by simp⟩
    simp only [cov_cons]
    constructor
    · rintro (h | h)
      · exact .inr h
      · exact absurd h (cov_nil _ _)
    · rintro (h | h)
      · exact absurd h (cov_nil _ _)
      · exact .inl h
  | some l =>
    obtain ⟨m, rfl⟩ := List.getLast?_eq_some_iff.1 hl
    have hlm : l ∈ m ++ [l] := by simp
    have hlx := ho l hlm
    have fl := hn.2 l hlm
    have hpw := List.pairwise_append.1 hn.1
    unfold full at fl hx
    unfold ord at hlx
    simp only
    split
    · rename_i hc
      rw [List.dropLast_concat]
      refine ⟨⟨List.pairwise_append.2 ⟨hpw.1, by simp, fun a ha b hb => ?_⟩, fun y hy => ?_⟩, fun i t => ?_, fun y hy a ha => ?_⟩
      · simp only [List.mem_singleton] at hb
        subst hb
        have := hpw.2.2 a ha l (by simp)
        unfold gap at *
        exact this
      · rcases List.mem_append.1 hy with hy | hy
        · exact hn.2 y (by simp [hy])
        · simp at hy; subst hy; unfold full; simp only; omega
      · simp only [cov_append, cov_cons]
        have : ¬ cov [] i t := cov_nil _ _
        simp only [this, or_false]
        by_cases hm : cov m i t
        · simp [hm]
        · simp only [hm, false_or]
          omega
      · rcases List.mem_append.1 ha with ha | ha
        · have h1 := ho a (by simp [ha])
          unfold ord at *
          omega
        · simp at ha; subst ha
          unfold ord at *
          simp only
          omega
    · rename_i hc
      have hgl : gap l x := by unfold gap; omega
      refine ⟨⟨List.pairwise_append.2 ⟨hn.1, by simp, fun a ha b hb => ?_⟩, fun y hy => ?_⟩, fun i t => ?_, fun y hy a ha => ?_⟩
      · simp only [List.mem_singleton] at hb
        subst hb
        rcases List.mem_append.1 ha with ha | ha
        · have h1 := hpw.2.2 a ha l (by simp)
          unfold gap at *
          omega
        · simp at ha; subst ha; exact hgl
      · rcases List.mem_append.1 hy with hy | hy
        · exact hn.2 y hy
        · simp at hy; subst hy; exact hx
      · rw [cov_append, cov_cons]
        have : ¬ cov [] i t := cov_nil _ _
        simp [this]
      · rcases List.mem_append.1 ha with ha | ha
        · have h1 := ho a ha
          unfold ord at *
          omega
        · simp at ha; subst ha; exact hy
/-- Tombs that are sorted come to a normal list that covers the same. -/
theorem fold_ok : ∀ (s out : List Tmb), s.Pairwise ord → (∀ x ∈ s, full x) → Nrm out → (∀ a ∈ out, ∀ x ∈ s, ord a x) → Nrm (s.foldl addT out) ∧ ∀ i t, cov (s.foldl addT out) i t ↔ cov out i t ∨ cov s i t
  | [], out, _, _, hn, _ => ⟨hn, fun i t => by have := cov_nil i t; simp [this]⟩
  | x :: s, out, hp, hf, hn, ho => by
    have hp' := List.pairwise_cons.1 hp
    obtain ⟨h1, h2, h3⟩ := addT_ok hn (fun a ha => ho a ha x (by simp)) (hf x (by simp))
    obtain ⟨h4, h5⟩ := fold_ok s (addT out x) hp'.2 (fun y hy => hf y (by simp [hy])) h1 fun a ha y hy => h3 y (hp'.1 y hy) a ha
    refine ⟨h4, fun i t => ?_⟩
    rw [List.foldl_cons, h5, h2, cov_cons]
    constructor
    · rintro ((h | h) | h)
      · exact .inl h
      · exact .inr (.inl h)
      · exact .inr (.inr h)
    · rintro (h | h | h)
      · exact .inl (.inl h)
      · exact .inl (.inr h)
      · exact .inr h
/-- The normal list of tombs: it is normal, and covers what they cover. -/
def IsN (l n : List Tmb) : Prop := Nrm n ∧ ∀ i t, cov n i t ↔ cov l i t
theorem isN_unique {l k n m : List Tmb} (h : IsN l n) (h2 : IsN k m) (h3 : ∀ i t, cov l i t ↔ cov k i t) : n = m := nrm_unique h.1 h2.1 fun i t => by rw [h.2, h2.2, h3]
theorem isN_sorted {l s : List Tmb} (hp : s.Perm (l.filter fun x => !decide (x.2.1 ≥ x.2.2))) (ho : s.Pairwise ord) : IsN l (s.foldl addT []) := by
  have hf : ∀ x ∈ s, full x := fun x hx => by
    have := (List.mem_filter.1 (hp.mem_iff.1 hx)).2
    unfold full
    simp at this
    exact this
  obtain ⟨h1, h2⟩ := fold_ok s [] ho hf ⟨List.Pairwise.nil, by simp⟩ (by simp)
  refine ⟨h1, fun i t => ?_⟩
  rw [h2, cov_perm hp, cov_full]
  have := cov_nil i t
  simp [this]
theorem tmb_eq (x y : Tmb) : (x.1 == y.1 && (x.2.1 == y.2.1 && (x.2.2 == y.2.2 && true))) = decide (x = y) := by
  rcases x with ⟨a, b, c⟩; rcases y with ⟨d, e, f⟩
  by_cases h1 : a = d <;> by_cases h2 : b = e <;> by_cases h3 : c = f <;> simp [h1, h2, h3]
end Go.Proofs
