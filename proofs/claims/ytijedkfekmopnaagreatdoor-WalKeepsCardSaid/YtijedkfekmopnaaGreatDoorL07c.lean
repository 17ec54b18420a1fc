/- A part of a proof: see the last text of this claim. -/
import Derived.Test.YtijedkfekmopnaaGreatDoorL07b
set_option linter.unusedVariables false
set_option maxRecDepth 100000
open Go Go.GV
namespace Go.Proofs

def quoteB (b : UInt8) : List UInt8 := if b = 34 then [92, 34] else if b = 92 then [92, 92] else if b = 10 then [92, 110] else [b]
def bodyL (v : List UInt8) : List UInt8 := v.flatMap quoteB
def quoteL (v : List UInt8) : List UInt8 := 34 :: bodyL v ++ [34]
theorem bodyL_cons (b : UInt8) (v : List UInt8) : bodyL (b :: v) = quoteB b ++ bodyL v := by simp [bodyL]
theorem bodyL_app (u v : List UInt8) : bodyL (u ++ v) = bodyL u ++ bodyL v := by simp [bodyL]
theorem quoteB_cases (b : UInt8) : (quoteB b = [b] ∧ b ≠ 34 ∧ b ≠ 92 ∧ b ≠ 10) ∨ (b = 34 ∧ quoteB b = [92, 34]) ∨ (b = 92 ∧ quoteB b = [92, 92]) ∨ (b = 10 ∧ quoteB b = [92, 110]) := by
  unfold quoteB
  by_cases h1 : b = 34
  · subst h1; simp
  by_cases h2 : b = 92
  · subst h2; simp
  by_cases h3 : b = 10
  · subst h3; simp
  · simp [h1, h2, h3]
theorem body_inj : ∀ {u v r s : List UInt8}, bodyL u ++ 34 :: r = bodyL v ++ 34 :: s → u = v ∧ r = s
  | [], [], r, s, h => by simpa [bodyL] using h
  | [], b :: v, r, s, h => by
    rw [bodyL_cons] at h
    rcases quoteB_cases b with ⟨e, h1, h2, h3⟩ | ⟨h1, e⟩ | ⟨h1, e⟩ | ⟨h1, e⟩
    · rw [e] at h; simp [bodyL] at h; exact absurd h.1.symm h1
    all_goals (rw [e] at h; simp [bodyL] at h)
  | a :: u, [], r, s, h => by
    rw [bodyL_cons] at h
    rcases quoteB_cases a with ⟨e, h1, h2, h3⟩ | ⟨h1, e⟩ | ⟨h1, e⟩ | ⟨h1, e⟩
    · rw [e] at h; simp [bodyL] at h; exact absurd h.1 h1
    all_goals (rw [e] at h; simp [bodyL] at h)
  | a :: u, b :: v, r, s, h => by
    rw [bodyL_cons, bodyL_cons, List.append_assoc, List.append_assoc] at h
    rcases quoteB_cases a with ⟨e, h1, h2, h3⟩ | ⟨h1, e⟩ | ⟨h1, e⟩ | ⟨h1, e⟩ <;> rcases quoteB_cases b with ⟨e', h1', h2', h3'⟩ | ⟨h1', e'⟩ | ⟨h1', e'⟩ | ⟨h1', e'⟩ <;> rw [e, e'] at h <;>
      simp only [List.cons_append, List.nil_append, List.cons.injEq] at h
    · obtain ⟨h4, h5⟩ := h
      obtain ⟨h6, h7⟩ := body_inj h5
      exact ⟨by rw [h4, h6], h7⟩
    · exact absurd h.1 h2
    · exact absurd h.1 h2
    · exact absurd h.1 h2
    · exact absurd h.1.symm h2'
    · obtain ⟨h6, h7⟩ := body_inj h.2.2
      exact ⟨by rw [h1, h1', h6], h7⟩
    · have := h.2.1; simp at this
    · have := h.2.1; simp at this
    · exact absurd h.1.symm h2'
    · have := h.2.1; simp at this
    · obtain ⟨h6, h7⟩ := body_inj h.2.2
      exact ⟨by rw [h1, h1', h6], h7⟩
    · have := h.2.1; simp at this
    · exact absurd h.1.symm h2'
    · have := h.2.1; simp at this
    · have := h.2.1; simp at this
    · obtain ⟨h6, h7⟩ := body_inj h.2.2
      exact ⟨by rw [h1, h1', h6], h7⟩
theorem quote_inj {u v r s : List UInt8} (h : quoteL u ++ r = quoteL v ++ s) : u = v ∧ r = s := by
  unfold quoteL at h
  simp only [List.cons_append, List.cons.injEq, true_and, List.append_assoc, List.singleton_append, List.nil_append] at h
  exact body_inj h

def lblL (x : Lbl) : List UInt8 := bl x.1 ++ 61 :: quoteL (bl x.2)
def restL : List Lbl → List UInt8
  | [] => [125]
  | x :: l => 44 :: lblL x ++ restL l
def printL : List Lbl → List UInt8
  | [] => [123, 125]
  | x :: l => 123 :: lblL x ++ restL l
theorem name_noeq {s : ByteArray} (h : NameP s) : ∀ b ∈ bl s, b ≠ 61 := by
  intro b hb e
  subst e
  obtain ⟨i, hi, he⟩ := List.getElem_of_mem hb
  have h1 : s[i]? = some 61 := by rw [bl_get]; rw [List.getElem?_eq_getElem hi, he]
  have h2 := h.2.2.2 i (by rwa [bl_len] at hi)
  rw [atB_of h1] at h2
  unfold nchN at h2
  have : (61 : UInt8).toNat = 61 := rfl
  omega
theorem cut_first {a : UInt8} : ∀ {u v r s : List UInt8}, (∀ b ∈ u, b ≠ a) → (∀ b ∈ v, b ≠ a) → u ++ a :: r = v ++ a :: s → u = v ∧ r = s
  | [], [], _, _, _, _, h => by simpa using h
  | [], b :: v, _, _, _, hv, h => by
    simp only [List.nil_append, List.cons_append, List.cons.injEq] at h
    exact absurd h.1.symm (hv b (by simp))
  | b :: u, [], _, _, hu, _, h => by
    simp only [List.nil_append, List.cons_append, List.cons.injEq] at h
    exact absurd h.1 (hu b (by simp))
  | b :: u, c :: v, _, _, hu, hv, h => by
    simp only [List.cons_append, List.cons.injEq] at h
    obtain ⟨e1, e2⟩ := cut_first (fun x hx => hu x (by simp [hx])) (fun x hx => hv x (by simp [hx])) h.2
    exact ⟨by rw [h.1, e1], e2⟩
theorem lbl_inj {x y : Lbl} {r s : List UInt8} (hx : ∀ b ∈ bl x.1, b ≠ 61) (hy : ∀ b ∈ bl y.1, b ≠ 61) (h : lblL x ++ r = lblL y ++ s) : x = y ∧ r = s := by
  unfold lblL at h
  simp only [List.append_assoc, List.cons_append] at h
  obtain ⟨e1, h⟩ := cut_first hx hy h
  obtain ⟨e2, h⟩ := quote_inj h
  exact ⟨Prod.ext (bl_inj e1) (bl_inj e2), h⟩
theorem rest_inj : ∀ {l m : List Lbl}, (∀ x ∈ l, LblP x) → (∀ x ∈ m, LblP x) → restL l = restL m → l = m
  | [], [], _, _, _ => rfl
  | [], _ :: _, _, _, h => by simp [restL] at h
  | _ :: _, [], _, _, h => by simp [restL] at h
  | x :: l, y :: m, hl, hm, h => by
    simp only [restL, List.cons_append, List.cons.injEq, true_and] at h
    obtain ⟨e1, h⟩ := lbl_inj (name_noeq (hl x (by simp)).1) (name_noeq (hm y (by simp)).1) h
    rw [e1, rest_inj (fun z hz => hl z (by simp [hz])) (fun z hz => hm z (by simp [hz])) h]
theorem print_inj {l m : List Lbl} (hl : ∀ x ∈ l, LblP x) (hm : ∀ x ∈ m, LblP x) (h : printL l = printL m) : l = m := by
  have lead : ∀ x : Lbl, LblP x → ∃ b t, lblL x = b :: t ∧ b ≠ 125 := by
    intro x hx
    have hn := hx.1
    have : ∃ b t, bl x.1 = b :: t := by
      cases hb : bl x.1 with
      | nil => have := bl_len x.1; rw [hb] at this; have := hn.1; simp at *; omega
      | cons b t => exact ⟨b, t, rfl⟩
    obtain ⟨b, t, e⟩ := this
    refine ⟨b, t ++ 61 :: quoteL (bl x.2), by unfold lblL; rw [e]; rfl, ?_⟩
    intro eb
    subst eb
    have h1 : x.1[0]? = some 125 := by rw [bl_get, e]; rfl
    have h2 := hn.2.2.1
    rw [atB_of h1] at h2
    unfold lowN at h2
    have : (125 : UInt8).toNat = 125 := rfl
    omega
  match l, m, h with
  | [], [], _ => rfl
  | [], y :: m, h =>
    obtain ⟨b, t, e, hb⟩ := lead y (hm y (by simp))
    simp only [printL, e, List.cons_append, List.cons.injEq, true_and] at h
    exact absurd h.1.symm hb
  | x :: l, [], h =>
    obtain ⟨b, t, e, hb⟩ := lead x (hl x (by simp))
    simp only [printL, e, List.cons_append, List.cons.injEq, true_and] at h
    exact absurd h.1 hb
  | x :: l, y :: m, h =>
    simp only [printL, List.cons_append, List.cons.injEq, true_and] at h
    obtain ⟨e1, h⟩ := lbl_inj (name_noeq (hl x (by simp)).1) (name_noeq (hm y (by simp)).1) h
    rw [e1, rest_inj (fun z hz => hl z (by simp [hz])) (fun z hz => hm z (by simp [hz])) h]
end Go.Proofs
