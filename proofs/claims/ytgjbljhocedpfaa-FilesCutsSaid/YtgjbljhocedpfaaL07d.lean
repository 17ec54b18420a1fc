/- A part of a proof: see the last text of this claim. -/
import Derived.Test.YtgjbljhocedpfaaL07c
set_option linter.unusedVariables false
set_option maxRecDepth 100000
open Go Go.GV
namespace Go.Proofs

abbrev Lbls := List Lbl
open Classical in
/-- Who has a label. -/
noncomputable def idsL (L : List Lbls) (nm v : ByteArray) : List Int := (L.zipIdx.filter fun p => decide ((nm, v) ∈ p.1)).map fun p => (p.2 : Int)
theorem idsL_nil (nm v : ByteArray) : idsL [] nm v = [] := rfl
open Classical in
theorem idsL_snoc (L : List Lbls) (l : Lbls) (nm v : ByteArray) : idsL (L ++ [l]) nm v = idsL L nm v ++ if (nm, v) ∈ l then [(L.length : Int)] else [] := by
  unfold idsL
  rw [List.zipIdx_append, List.filter_append, List.map_append]
  congr 1
  simp only [List.zipIdx_cons, List.zipIdx_nil, Nat.zero_add]
  by_cases h : (nm, v) ∈ l
  · simp [h]
  · simp [h]
/-- Whose key a text is. -/
def fidx (L : List Lbls) (s : ByteArray) : Option Nat := L.findIdx? fun l => decide (keyL l = bl s)
structure WfI (L : List Lbls) : Prop where
  nodup : L.Nodup
  chk : ∀ l ∈ L, ChkP l
  len : L.length ≤ 200
theorem fidx_key {L : List Lbls} (hw : WfI L) {l : Lbls} (hl : ChkP l) : fidx L ⟨(keyL l).toArray⟩ = L.findIdx? (fun m => decide (m = l)) := by
  unfold fidx
  have : ∀ (M : List Lbls), (∀ m ∈ M, ChkP m) → M.findIdx? (fun m => decide (keyL m = bl ⟨(keyL l).toArray⟩)) = M.findIdx? (fun m => decide (m = l)) := by
    intro M
    induction M with
    | nil => intro _; rfl
    | cons m M ih =>
      intro hM
      have e : decide (keyL m = bl ⟨(keyL l).toArray⟩) = decide (m = l) := by
        have hm := hM m (by simp)
        refine decide_eq_decide.2 ⟨fun h => keyL_inj hm.2.1 hl.2.1 (by simpa [bl] using h), fun h => by subst h; simp [bl]⟩
      rw [List.findIdx?_cons, List.findIdx?_cons, e, ih fun x hx => hM x (by simp [hx])]
  exact this L hw.chk
noncomputable def posL (L : List Lbls) (l : Lbls) : Option Nat := L.findIdx? (fun m => decide (m = l))
noncomputable def posI (L : List Lbls) (l : Lbls) : Int := match posL L l with | some i => i | none => -1
theorem posL_some {L : List Lbls} {l : Lbls} {i : Nat} (h : posL L l = some i) : L[i]? = some l := by
  unfold posL at h
  rw [List.findIdx?_eq_some_iff_getElem] at h
  obtain ⟨hi, h1, _⟩ := h
  rw [List.getElem?_eq_getElem hi]
  simpa using h1
theorem posL_none {L : List Lbls} {l : Lbls} : posL L l = none ↔ l ∉ L := by
  unfold posL
  rw [List.findIdx?_eq_none_iff]
  simp only [decide_eq_false_iff_not]
  exact ⟨fun h hm => h l hm rfl, fun h x hx e => h (e ▸ hx)⟩
theorem posL_get {L : List Lbls} (hn : L.Nodup) {l : Lbls} {i : Nat} (h : L[i]? = some l) : posL L l = some i := by
  cases hp : posL L l with
  | none => rw [posL_none] at hp; exact absurd (List.mem_of_getElem? h) hp
  | some j =>
    have := posL_some hp
    obtain ⟨hi, e1⟩ := List.getElem?_eq_some_iff.1 h
    obtain ⟨hj, e2⟩ := List.getElem?_eq_some_iff.1 this
    rw [(List.getElem_inj hn).1 (e2.trans e1.symm)]
theorem fidx_snoc {L : List Lbls} {l : Lbls} (s : ByteArray) (hno : fidx L ⟨(keyL l).toArray⟩ = none) : fidx (L ++ [l]) s = if s = ⟨(keyL l).toArray⟩ then some L.length else fidx L s := by
  by_cases h : s = ⟨(keyL l).toArray⟩
  · rw [if_pos h]
    subst h
    unfold fidx at hno ⊢
    rw [List.findIdx?_append, hno]
    simp [bl, List.findIdx?_cons]
  · rw [if_neg h]
    unfold fidx
    rw [List.findIdx?_append]
    have : decide (keyL l = bl s) = false := by
      refine decide_eq_false fun e => h ?_
      apply bl_inj
      rw [← e]
    simp only [List.findIdx?_cons, this, List.findIdx?_nil]
    cases List.findIdx? (fun l => decide (keyL l = bl s)) L <;> rfl

open Classical in
/-- What an index is behind an Add. -/
noncomputable def addL (L : List Lbls) (l : Lbls) : List Lbls := if ChkP l ∧ l ∉ L ∧ L.length < 200 then L ++ [l] else L
open Classical in
noncomputable def addI (L : List Lbls) (l : Lbls) : Int := if ChkP l then (match posL L l with | some i => i | none => if L.length < 200 then L.length else 0) else 0
open Classical in
noncomputable def addE (L : List Lbls) (l : Lbls) : Int := if ChkP l then (match posL L l with | some _ => 0 | none => if L.length < 200 then 0 else 2) else 40
theorem addL_wf {L : List Lbls} (hw : WfI L) (l : Lbls) : WfI (addL L l) := by
  unfold addL
  split
  · rename_i h
    refine ⟨?_, ?_, by simp; omega⟩
    · rw [List.nodup_append]
      exact ⟨hw.nodup, by simp, fun a ha b hb => by simp at hb; subst hb; exact fun e => h.2.1 (e ▸ ha)⟩
    · intro m hm
      rcases List.mem_append.1 hm with h1 | h1
      · exact hw.chk m h1
      · simp at h1; subst h1; exact h.1
  · exact hw
theorem WfI.nil : WfI [] := ⟨by simp, by simp, by simp⟩
/-- A name is not twice among labels that may be. -/
theorem rise_lt {l : List Lbl} (h : RiseL l) : ∀ {i j : Nat} {x y : Lbl}, i < j → l[i]? = some x → l[j]? = some y → ltS x.1 y.1 = true := by
  intro i j x y hij hx hy
  induction j generalizing y with
  | zero => omega
  | succ j ih =>
    have hj : j < l.length := by have := (List.getElem?_eq_some_iff.1 hy).1; omega
    have hz : l[j]? = some l[j] := by simp
    rcases Nat.lt_or_ge i j with h1 | h1
    · exact ltS_trans (ih h1 hz) (h j _ _ hz hy)
    · have : i = j := by omega
      subst this
      exact h i x y hx hy
theorem name_once {l : List Lbl} (h : RiseL l) {k : Nat} {x y : Lbl} (hx : l[k]? = some x) (hy : y ∈ l.take k) : y.1 ≠ x.1 := by
  intro e
  obtain ⟨i, hi⟩ := List.mem_iff_getElem?.1 hy
  rw [List.getElem?_take] at hi
  split at hi
  · rename_i hik
    have := rise_lt h hik hi hx
    rw [e, ltS_irrefl] at this; cases this
  · cases hi
end Go.Proofs
