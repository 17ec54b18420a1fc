/- A part of a proof: see the last text of this claim. -/
import Derived.Test.YtddfciphdbdemaaP07y
import Derived.Test.YtddfciphdbdemaaP07q
set_option linter.unusedVariables false
set_option maxRecDepth 100000
open Go Go.GV
namespace Go.Proofs

/-- No index's text. -/
def NoI (s : ByteArray) : Prop := ∀ L, WfI L → bl s ≠ encI L
/-- So far an index is read. -/
def DecI (s : ByteArray) (N p : Nat) (M : List Lbls) : Prop :=
  N < 18446744073709551616 ∧ p ≤ s.size ∧ bl s = uintL N ++ M.flatMap txL ++ (bl s).drop p ∧ M.length ≤ N ∧ ∀ L, WfI L → bl s = encI L → L.length = N ∧ ∃ R, L = M ++ R ∧ (bl s).drop p = R.flatMap txL
theorem DecI.start {s : ByteArray} {v n e : Int} (h : GU ((bl s).drop 0) 0 v n e) : (e ≠ 0 ∧ NoI s) ∨ (e = 0 ∧ ∃ N p : Nat, v = N ∧ n = p ∧ DecI s N p []) := by
  rw [List.drop_zero] at h
  have no : NoU (bl s) → NoI s := fun h L hL e => h L.length (by have := hL.len; omega) _ e
  rcases h with ⟨N, rfl, h1, h2, h3, rfl, rfl⟩ | ⟨_, _, rfl, h1⟩ | ⟨_, _, rfl, _, h1⟩
  · refine .inr ⟨rfl, N, _, rfl, rfl, h1, ?_, ?_, Nat.zero_le _, fun L hL e => ?_⟩
    · rw [← bl_len]; omega
    · rw [Nat.zero_add]; simpa using h2
    · obtain ⟨e1, e2⟩ := uint_eq (h2.symm.trans e)
      exact ⟨e1.symm, L, rfl, by rw [Nat.zero_add]; exact e2⟩
  · exact .inl ⟨by omega, no h1.no⟩
  · exact .inl ⟨by omega, no h1⟩
theorem DecI.done {s : ByteArray} {N p : Nat} {M : List Lbls} (h : DecI s N p M) (hN : M.length = N) (hp : p = s.size) : bl s = encI M := by
  obtain ⟨_, _, h3, _⟩ := h
  rw [List.drop_of_length_le (by rw [bl_len]; omega)] at h3
  rw [h3]; unfold encI; rw [hN]; simp
theorem DecI.odd {s : ByteArray} {N p : Nat} {M : List Lbls} (h : DecI s N p M) (hN : M.length = N) (hp : p ≠ s.size) : NoI s := fun L hL e => by
  obtain ⟨_, h2, _, _, h5⟩ := h
  obtain ⟨e1, R, rfl, e2⟩ := h5 L hL e
  have : R = [] := List.eq_nil_of_length_eq_zero (by rw [List.length_append] at e1; omega)
  subst this
  have := congrArg List.length e2
  rw [List.length_drop, bl_len] at this
  simp at this; omega
theorem DecI.large {s : ByteArray} {N p : Nat} {M : List Lbls} (h : DecI s N p M) (hN : 200 < N) : NoI s := fun L hL e => by
  obtain ⟨_, _, _, _, h5⟩ := h
  have := (h5 L hL e).1
  have := hL.len
  omega
theorem DecI.step {s : ByteArray} {N p : Nat} {M : List Lbls} (h : DecI s N p M) (hN : M.length < N) (hs : s.size ≤ 100000000000) {t : ByteArray} {n e : Int} (hg : GT ((bl s).drop p) p t n e) :
    (e ≠ 0 ∧ NoI s) ∨ (e = 0 ∧ ∃ p' : Nat, n = p' ∧ p < p' ∧ p' ≤ s.size ∧ t.size ≤ s.size ∧ ((∀ l, ChkP l → bl t ≠ printL l) → NoI s) ∧ ∀ l, ChkP l → bl t = printL l → ((¬ (l ∉ M ∧ M.length < 200)) → NoI s) ∧ DecI s N p' (M ++ [l])) := by
  obtain ⟨h1, h2, h3, h4, h5⟩ := h
  have hd : ∀ L, WfI L → bl s = encI L → ∃ l R, L = M ++ l :: R ∧ (bl s).drop p = textL (pS l) ++ R.flatMap txL ∧ ChkP l ∧ (pS l).size ≤ 700 ∧ l ∉ M ∧ M.length < 200 := fun L hL e => by
    obtain ⟨e1, R, rfl, e2⟩ := h5 L hL e
    cases R with
    | nil => rw [List.append_nil] at e1; omega
    | cons l R =>
      have hC := hL.chk l (by simp)
      refine ⟨l, R, rfl, by rw [e2]; rfl, hC, ?_, ?_, ?_⟩
      · have := printL_len hC
        rw [← bl_len, bl_pS]; exact this
      · intro hm
        have := hL.nodup
        rw [List.nodup_append] at this
        exact this.2.2 l hm l (by simp) rfl
      · have := hL.len
        simp at this; omega
  by_cases he : e = 0
  · refine .inr ⟨he, ?_⟩
    obtain ⟨g1, g2, rfl⟩ : (bl s).drop p = textL t ++ ((bl s).drop p).drop (textL t).length ∧ (textL t).length ≤ ((bl s).drop p).length ∧ n = ((p + (textL t).length : Nat) : Int) := by
      rcases hg with ⟨a, b, c, _⟩ | ⟨_, _, c, _⟩ | ⟨_, _, c, _⟩
      · exact ⟨a, b, c⟩
      · omega
      · omega
    have g3 := size64 g2
    rw [List.length_drop, bl_len] at g2 g3
    have g4 := uintL_pos t.size
    have g5 : 1 ≤ (textL t).length := by unfold textL; rw [List.length_append]; omega
    refine ⟨_, rfl, by omega, by omega, by omega, fun hno L hL e => ?_, fun l hl el => ⟨fun hno L hL e => ?_, h1, by omega, ?_, by simp; omega, fun L hL e => ?_⟩⟩
    · obtain ⟨l, R, _, e2, e3, e4, _⟩ := hd L hL e
      obtain ⟨e5, _, _⟩ := hg.of (by omega) e2
      exact hno l e3 (by rw [e5, bl_pS])
    · obtain ⟨l', R, _, e2, e3, e4, e6, e7⟩ := hd L hL e
      obtain ⟨e5, _, _⟩ := hg.of (by omega) e2
      rw [e5, bl_pS] at el
      have := print_inj e3.2.1 hl.2.1 el
      subst this
      exact hno ⟨e6, e7⟩
    · have ep : pS l = t := by apply bl_inj; rw [bl_pS, el]
      rw [List.flatMap_append]
      simp only [List.flatMap_cons, List.flatMap_nil, List.append_nil]
      rw [show txL l = textL t by unfold txL; rw [ep], ← List.append_assoc, List.append_assoc, ← List.drop_drop, ← g1]
      exact h3
    · obtain ⟨l', R, rfl, e2, e3, e4, e6, e7⟩ := hd L hL e
      obtain ⟨e5, _, _⟩ := hg.of (by omega) e2
      rw [e5, bl_pS] at el
      have := print_inj e3.2.1 hl.2.1 el
      subst this
      refine ⟨(h5 _ hL e).1, R, by simp, ?_⟩
      rw [← List.drop_drop, e5, e2, List.drop_left]
  · refine .inl ⟨he, fun L hL e' => ?_⟩
    obtain ⟨l, R, _, e2, e3, e4, _⟩ := hd L hL e'
    exact he (hg.of (by omega) e2).2.2
theorem addL_yes {M : List Lbls} {l : Lbls} (hl : ChkP l) (h : l ∉ M ∧ M.length < 200) : addL M l = M ++ [l] ∧ addI M l = M.length ∧ addE M l = 0 := by
  have hp : posL M l = none := posL_none.2 h.1
  refine ⟨if_pos ⟨hl, h.1, h.2⟩, ?_, ?_⟩
  · unfold addI; rw [if_pos hl, hp]; simp only; rw [if_pos h.2]
  · unfold addE; rw [if_pos hl, hp]; simp only; rw [if_pos h.2]
theorem addL_not {M : List Lbls} {l : Lbls} (hl : ChkP l) (hM : M.length < 200 ∨ True) (h : addE M l = 0) (h2 : addI M l = M.length) : l ∉ M ∧ M.length < 200 := by
  unfold addE at h
  unfold addI at h2
  rw [if_pos hl] at h h2
  cases hp : posL M l with
  | none =>
    rw [hp] at h
    simp only at h
    refine ⟨posL_none.1 hp, ?_⟩
    by_cases h3 : M.length < 200
    · exact h3
    · rw [if_neg h3] at h; omega
  | some i =>
    rw [hp] at h2
    have := (List.getElem?_eq_some_iff.1 (posL_some hp)).1
    simp only at h2; omega
end Go.Proofs
