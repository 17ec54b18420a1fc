/- A part of a proof: see the last text of this claim. -/
import Derived.Test.YtddfciphdbdemaaL07d
set_option linter.unusedVariables false
set_option maxRecDepth 100000
open Go Go.GV
namespace Go.Proofs

/-! lists that rise -/
def Ri (xs : List Int) : Prop := xs.Pairwise (· < ·)
theorem Ri.nil : Ri [] := List.Pairwise.nil
theorem Ri.ext : ∀ {xs ys : List Int}, Ri xs → Ri ys → (∀ z, z ∈ xs ↔ z ∈ ys) → xs = ys
  | [], [], _, _, _ => rfl
  | [], y :: ys, _, _, h => by have := (h y).2 (by simp); cases this
  | x :: xs, [], _, _, h => by have := (h x).1 (by simp); cases this
  | x :: xs, y :: ys, hx, hy, h => by
    have hx' := List.pairwise_cons.1 hx
    have hy' := List.pairwise_cons.1 hy
    have e : x = y := by
      have h1 := (h x).1 (by simp)
      have h2 := (h y).2 (by simp)
      rcases List.mem_cons.1 h1 with h1 | h1
      · exact h1
      · rcases List.mem_cons.1 h2 with h2 | h2
        · exact h2.symm
        · have := hx'.1 y h2; have := hy'.1 x h1; omega
    subst e
    rw [Ri.ext hx'.2 hy'.2 fun z => ?_]
    refine ⟨fun hz => ?_, fun hz => ?_⟩
    · rcases List.mem_cons.1 ((h z).1 (by simp [hz])) with h1 | h1
      · subst h1; have := hx'.1 z hz; omega
      · exact h1
    · rcases List.mem_cons.1 ((h z).2 (by simp [hz])) with h1 | h1
      · subst h1; have := hy'.1 z hz; omega
      · exact h1
theorem Ri.snoc {xs : List Int} {z : Int} (h : Ri xs) (hz : ∀ x ∈ xs, x < z) : Ri (xs ++ [z]) := by
  unfold Ri at *
  rw [List.pairwise_append]
  exact ⟨h, by simp, fun a ha b hb => by simp at hb; subst hb; exact hz a ha⟩
/-- A list that rises, of those of whom p holds. -/
def SetL (xs : List Int) (p : Int → Prop) : Prop := Ri xs ∧ ∀ z, z ∈ xs ↔ p z
theorem SetL.eq {xs ys : List Int} {p : Int → Prop} (h : SetL xs p) (h' : SetL ys p) : xs = ys := Ri.ext h.1 h'.1 fun z => (h.2 z).trans (h'.2 z).symm
theorem SetL.iff {xs : List Int} {p q : Int → Prop} (h : SetL xs p) (hq : ∀ z, p z ↔ q z) : SetL xs q := ⟨h.1, fun z => (h.2 z).trans (hq z)⟩

def putIf (b : Bool) (x : Int) (l : List Int) : List Int := if b then x :: l else l
def mrgW (w : Bool → Bool → Bool) : List Int → List Int → List Int
  | [], [] => []
  | x :: xs, [] => putIf (w true false) x (mrgW w xs [])
  | [], y :: ys => putIf (w false true) y (mrgW w [] ys)
  | x :: xs, y :: ys => if x < y then putIf (w true false) x (mrgW w xs (y :: ys)) else if y < x then putIf (w false true) y (mrgW w (x :: xs) ys) else putIf (w true true) y (mrgW w xs ys)
termination_by xs ys => xs.length + ys.length
theorem mem_putIf {b : Bool} {x z : Int} {l : List Int} : z ∈ putIf b x l ↔ (b = true ∧ z = x) ∨ z ∈ l := by unfold putIf; split <;> simp_all
theorem len_putIf (b : Bool) (x : Int) (l : List Int) : (putIf b x l).length ≤ l.length + 1 := by unfold putIf; split <;> simp
theorem mrgW_mem {w : Bool → Bool → Bool} : ∀ {xs ys : List Int}, Ri xs → Ri ys → ∀ z, z ∈ mrgW w xs ys ↔ (z ∈ xs ∨ z ∈ ys) ∧ w (decide (z ∈ xs)) (decide (z ∈ ys)) = true
  | [], [], _, _, z => by rw [mrgW]; simp
  | x :: xs, [], hx, hy, z => by
    have hx' := List.pairwise_cons.1 hx
    rw [mrgW, mem_putIf, mrgW_mem hx'.2 hy z]
    by_cases h1 : z = x
    · subst h1
      have : z ∉ xs := fun h => by have := hx'.1 z h; omega
      simp [this]
    · simp [h1]
  | [], y :: ys, hx, hy, z => by
    have hy' := List.pairwise_cons.1 hy
    rw [mrgW, mem_putIf, mrgW_mem hx hy'.2 z]
    by_cases h1 : z = y
    · subst h1
      have : z ∉ ys := fun h => by have := hy'.1 z h; omega
      simp [this]
    · simp [h1]
  | x :: xs, y :: ys, hx, hy, z => by
    have hx' := List.pairwise_cons.1 hx
    have hy' := List.pairwise_cons.1 hy
    rw [mrgW]
    split
    · rename_i hlt
      rw [mem_putIf, mrgW_mem hx'.2 hy z]
      by_cases h1 : z = x
      · subst h1
        have h2 : z ∉ xs := fun h => by have := hx'.1 z h; omega
        have h3 : z ∉ ys := fun h => by have := hy'.1 z h; omega
        have h4 : z ≠ y := by omega
        simp [h2, h3, h4]
      · simp [h1]
    · split
      · rename_i hge hlt
        rw [mem_putIf, mrgW_mem hx hy'.2 z]
        by_cases h1 : z = y
        · subst h1
          have h2 : z ∉ ys := fun h => by have := hy'.1 z h; omega
          have h3 : z ∉ xs := fun h => by have := hx'.1 z h; omega
          have h4 : z ≠ x := by omega
          simp [h2, h3, h4]
        · simp [h1]
      · rename_i hge hge2
        have e : x = y := by omega
        subst e
        rw [mem_putIf, mrgW_mem hx'.2 hy'.2 z]
        by_cases h1 : z = x
        · subst h1
          have h2 : z ∉ ys := fun h => by have := hy'.1 z h; omega
          have h3 : z ∉ xs := fun h => by have := hx'.1 z h; omega
          simp [h2, h3]
        · simp [h1]
termination_by xs ys => xs.length + ys.length
theorem putIf_Ri {b : Bool} {x : Int} {l : List Int} (h : Ri l) (hl : ∀ z ∈ l, x < z) : Ri (putIf b x l) := by
  unfold putIf
  split
  · exact List.pairwise_cons.2 ⟨hl, h⟩
  · exact h
theorem mrgW_Ri {w : Bool → Bool → Bool} : ∀ {xs ys : List Int}, Ri xs → Ri ys → Ri (mrgW w xs ys)
  | [], [], _, _ => by rw [mrgW]; exact Ri.nil
  | x :: xs, [], hx, hy => by
    have hx' := List.pairwise_cons.1 hx
    rw [mrgW]
    exact putIf_Ri (mrgW_Ri hx'.2 hy) fun z hz => by
      rw [mrgW_mem hx'.2 hy] at hz
      rcases hz.1 with h | h
      · exact hx'.1 z h
      · cases h
  | [], y :: ys, hx, hy => by
    have hy' := List.pairwise_cons.1 hy
    rw [mrgW]
    exact putIf_Ri (mrgW_Ri hx hy'.2) fun z hz => by
      rw [mrgW_mem hx hy'.2] at hz
      rcases hz.1 with h | h
      · cases h
      · exact hy'.1 z h
  | x :: xs, y :: ys, hx, hy => by
    have hx' := List.pairwise_cons.1 hx
    have hy' := List.pairwise_cons.1 hy
    rw [mrgW]
    split
    · exact putIf_Ri (mrgW_Ri hx'.2 hy) fun z hz => by
        rw [mrgW_mem hx'.2 hy] at hz
        rcases hz.1 with h | h
        · exact hx'.1 z h
        · rcases List.mem_cons.1 h with h | h
          · omega
          · have := hy'.1 z h; omega
    · split
      · exact putIf_Ri (mrgW_Ri hx hy'.2) fun z hz => by
          rw [mrgW_mem hx hy'.2] at hz
          rcases hz.1 with h | h
          · rcases List.mem_cons.1 h with h | h
            · omega
            · have := hx'.1 z h; omega
          · exact hy'.1 z h
      · exact putIf_Ri (mrgW_Ri hx'.2 hy'.2) fun z hz => by
          rw [mrgW_mem hx'.2 hy'.2] at hz
          rcases hz.1 with h | h
          · have := hx'.1 z h; omega
          · exact hy'.1 z h
termination_by xs ys => xs.length + ys.length
theorem mrgW_len {w : Bool → Bool → Bool} : ∀ (xs ys : List Int), (mrgW w xs ys).length ≤ xs.length + ys.length
  | [], [] => by rw [mrgW]; simp
  | x :: xs, [] => by
    rw [mrgW]
    have := len_putIf (w true false) x (mrgW w xs [])
    have := mrgW_len (w := w) xs []
    simp at *; omega
  | [], y :: ys => by
    rw [mrgW]
    have := len_putIf (w false true) y (mrgW w [] ys)
    have := mrgW_len (w := w) [] ys
    simp at *; omega
  | x :: xs, y :: ys => by
    rw [mrgW]
    split
    · have := len_putIf (w true false) x (mrgW w xs (y :: ys))
      have := mrgW_len (w := w) xs (y :: ys)
      simp at *; omega
    · split
      · have := len_putIf (w false true) y (mrgW w (x :: xs) ys)
        have := mrgW_len (w := w) (x :: xs) ys
        simp at *; omega
      · have := len_putIf (w true true) y (mrgW w xs ys)
        have := mrgW_len (w := w) xs ys
        simp at *; omega
termination_by xs ys => xs.length + ys.length
def wAnd (a b : Bool) : Bool := a && b
def wOr (_ _ : Bool) : Bool := true
def wNot (a b : Bool) : Bool := a && !b
theorem SetL.and {xs ys : List Int} {p q : Int → Prop} (h : SetL xs p) (h' : SetL ys q) : SetL (mrgW wAnd xs ys) (fun z => p z ∧ q z) :=
  ⟨mrgW_Ri h.1 h'.1, fun z => by rw [mrgW_mem h.1 h'.1]; simp only [wAnd, Bool.and_eq_true, decide_eq_true_eq, h.2 z, h'.2 z]; exact ⟨fun h => h.2, fun h => ⟨.inl h.1, h⟩⟩⟩
theorem SetL.or {xs ys : List Int} {p q : Int → Prop} (h : SetL xs p) (h' : SetL ys q) : SetL (mrgW wOr xs ys) (fun z => p z ∨ q z) :=
  ⟨mrgW_Ri h.1 h'.1, fun z => by rw [mrgW_mem h.1 h'.1]; simp only [wOr, and_true, h.2 z, h'.2 z]⟩
theorem SetL.not {xs ys : List Int} {p q : Int → Prop} (h : SetL xs p) (h' : SetL ys q) : SetL (mrgW wNot xs ys) (fun z => p z ∧ ¬ q z) :=
  ⟨mrgW_Ri h.1 h'.1, fun z => by rw [mrgW_mem h.1 h'.1]; simp only [wNot, Bool.and_eq_true, Bool.not_eq_true', decide_eq_true_eq, decide_eq_false_iff_not, h.2 z, h'.2 z]; exact ⟨fun h => h.2, fun h => ⟨.inl h.1, h⟩⟩⟩

/-! who has a label -/
theorem idsL_set (L : List Lbls) (nm v : ByteArray) : SetL (idsL L nm v) (fun z => ∃ (k : Nat) (l : Lbls), z = k ∧ L[k]? = some l ∧ (nm, v) ∈ l) := by
  have : ∀ (n : Nat) (L : List Lbls), L.length = n → SetL (idsL L nm v) (fun z => ∃ (k : Nat) (l : Lbls), z = k ∧ L[k]? = some l ∧ (nm, v) ∈ l) := by
    intro n
    induction n with
    | zero =>
      intro L hL
      have : L = [] := List.eq_nil_of_length_eq_zero hL
      subst this
      exact ⟨Ri.nil, fun z => by simp [idsL_nil]⟩
    | succ n ih =>
      intro L hL
      rcases List.eq_nil_or_concat L with rfl | ⟨M, l, rfl⟩
      · simp at hL
      rw [List.concat_eq_append] at hL ⊢
      have hM : M.length = n := by simpa using hL
      have h := ih M hM
      rw [idsL_snoc]
      have hlt : ∀ x ∈ idsL M nm v, x < (M.length : Int) := fun x hx => by
        obtain ⟨k, m, rfl, hk, _⟩ := (h.2 x).1 hx
        have := (List.getElem?_eq_some_iff.1 hk).1
        omega
      have hat : ∀ (k : Nat) (m : Lbls), (M ++ [l])[k]? = some m ↔ M[k]? = some m ∨ (k = M.length ∧ m = l) := fun k m => by
        rcases Nat.lt_trichotomy k M.length with h1 | h1 | h1
        · rw [List.getElem?_append_left h1]
          exact ⟨.inl, fun h => h.elim id fun h => by omega⟩
        · subst h1
          simp
          exact eq_comm
        · rw [List.getElem?_eq_none (by simp; omega), List.getElem?_eq_none (by omega)]
          simp; omega
      by_cases hin : (nm, v) ∈ l
      · rw [if_pos hin]
        refine ⟨h.1.snoc hlt, fun z => ?_⟩
        rw [List.mem_append, h.2 z]
        refine ⟨fun hz => ?_, fun hz => ?_⟩
        · rcases hz with ⟨k, m, e, hk, hm⟩ | hz
          · exact ⟨k, m, e, (hat k m).2 (.inl hk), hm⟩
          · simp at hz
            exact ⟨M.length, l, hz, (hat _ _).2 (.inr ⟨rfl, rfl⟩), hin⟩
        · obtain ⟨k, m, e, hk, hm⟩ := hz
          rcases (hat k m).1 hk with h1 | ⟨h1, h2⟩
          · exact .inl ⟨k, m, e, h1, hm⟩
          · subst h1; right; simp [e]
      · rw [if_neg hin, List.append_nil]
        refine h.iff fun z => ⟨fun ⟨k, m, e, hk, hm⟩ => ⟨k, m, e, (hat k m).2 (.inl hk), hm⟩, fun ⟨k, m, e, hk, hm⟩ => ?_⟩
        rcases (hat k m).1 hk with h1 | ⟨h1, h2⟩
        · exact ⟨k, m, e, h1, hm⟩
        · subst h2; exact absurd hm hin
  exact this _ L rfl
theorem every_set (n : Nat) : SetL ((List.range n).map fun k : Nat => (k : Int)) (fun z => ∃ k : Nat, z = k ∧ k < n) := by
  refine ⟨?_, fun z => ?_⟩
  · unfold Ri
    rw [List.pairwise_map]
    exact List.pairwise_lt_range.imp fun h => by omega
  · simp only [List.mem_map, List.mem_range]
    exact ⟨fun ⟨k, h, e⟩ => ⟨k, e.symm, h⟩, fun ⟨k, e, h⟩ => ⟨k, h, e.symm⟩⟩

/-! matchers -/
abbrev Mch := Int × ByteArray × ByteArray × List ByteArray
def getV (l : Lbls) (nm : ByteArray) : ByteArray := match l.find? (fun x => decide (x.1 = nm)) with | some x => x.2 | none => ⟨#[]⟩
theorem getV_hit {l : Lbls} (hc : ChkP l) {nm v : ByteArray} (h : (nm, v) ∈ l) : getV l nm = v := by
  unfold getV
  cases hf : l.find? (fun x => decide (x.1 = nm)) with
  | none =>
    have := List.find?_eq_none.1 hf _ h
    simp at this
  | some x =>
    have h1 : x.1 = nm := by simpa using List.find?_some hf
    obtain ⟨i, hi⟩ := List.mem_iff_getElem?.1 (List.mem_of_find?_eq_some hf)
    obtain ⟨j, hj⟩ := List.mem_iff_getElem?.1 h
    rcases Nat.lt_trichotomy i j with h2 | h2 | h2
    · have := rise_lt hc.2.2 h2 hi hj
      rw [h1, ltS_irrefl] at this; cases this
    · subst h2; rw [hi] at hj; cases hj; rfl
    · have := rise_lt hc.2.2 h2 hj hi
      rw [h1, ltS_irrefl] at this; cases this
theorem getV_miss {l : Lbls} {nm : ByteArray} (h : ∀ v, (nm, v) ∉ l) : getV l nm = ⟨#[]⟩ := by
  unfold getV
  cases hf : l.find? (fun x => decide (x.1 = nm)) with
  | none => rfl
  | some x =>
    have h1 : x.1 = nm := by simpa using List.find?_some hf
    exact absurd (List.mem_of_find?_eq_some hf) (fun hm => h x.2 (by rw [← h1]; exact hm))
theorem getV_has {l : Lbls} {nm : ByteArray} (h : ∃ v, (nm, v) ∈ l) : ∃ v, (nm, v) ∈ l ∧ getV l nm = v := by
  obtain ⟨v, hv⟩ := h
  unfold getV
  cases hf : l.find? (fun x => decide (x.1 = nm)) with
  | none =>
    have := List.find?_eq_none.1 hf _ hv
    simp at this
  | some x =>
    have h1 : x.1 = nm := by simpa using List.find?_some hf
    exact ⟨x.2, by have := List.mem_of_find?_eq_some hf; rw [← h1]; exact this, rfl⟩
open Classical in
/-- Is a value meant? -/
noncomputable def oneV (m : Mch) (v : ByteArray) : Bool :=
  if m.1 = 0 then decide (v = m.2.2.1) else if m.1 = 1 then !decide (v = m.2.2.1)
  else if m.1 = 2 then decide (m.2.2.1.size ≤ v.size ∧ (bl v).take m.2.2.1.size = bl m.2.2.1) else if m.1 = 3 then decide (v ∈ m.2.2.2) else false
def RiseS (l : List ByteArray) : Prop := ∀ i x y, l[i]? = some x → l[i + 1]? = some y → ltS x y = true
def ChkM (m : Mch) : Prop := NameP m.2.1 ∧ ((0 ≤ m.1 ∧ m.1 < 3 ∧ m.2.2.2 = [] ∧ ValP m.2.2.1) ∨ (m.1 = 3 ∧ m.2.2.1 = ⟨#[]⟩ ∧ 1 ≤ m.2.2.2.length ∧ m.2.2.2.length ≤ 8 ∧ (∀ v ∈ m.2.2.2, ValP v) ∧ RiseS m.2.2.2))
open Classical in
noncomputable def chkM (m : Mch) : Int := if ChkM m then 0 else 50
theorem chkM_no {m : Mch} (h : ¬ ChkM m) : chkM m = 50 := if_neg h
theorem chkM_yes {m : Mch} (h : ChkM m) : chkM m = 0 := if_pos h
/-- Whom a matcher means. -/
def Hit (L : List Lbls) (m : Mch) (z : Int) : Prop := ∃ (k : Nat) (l : Lbls), z = k ∧ L[k]? = some l ∧ oneV m (getV l m.2.1) = true
def HitAll (L : List Lbls) (ms : List Mch) (z : Int) : Prop := ∃ (k : Nat) (l : Lbls), z = k ∧ L[k]? = some l ∧ ∀ m ∈ ms, oneV m (getV l m.2.1) = true
theorem hit_iff {L : List Lbls} (hw : WfI L) (m : Mch) (z : Int) :
    ((∃ v, oneV m v = true ∧ z ∈ idsL L m.2.1 v) ∨ (oneV m ⟨#[]⟩ = true ∧ (∃ k : Nat, z = k ∧ k < L.length) ∧ ¬ ∃ v, z ∈ idsL L m.2.1 v)) ↔ Hit L m z := by
  refine ⟨fun h => ?_, fun ⟨k, l, e, hk, ho⟩ => ?_⟩
  · rcases h with ⟨v, ho, hz⟩ | ⟨ho, ⟨k, e, hk⟩, hno⟩
    · obtain ⟨k, l, e, hk, hm⟩ := ((idsL_set L m.2.1 v).2 z).1 hz
      exact ⟨k, l, e, hk, by rw [getV_hit (hw.chk l (List.mem_of_getElem? hk)) hm]; exact ho⟩
    · have hk1 : L[k]? = some L[k] := by simp [hk]
      refine ⟨k, L[k], e, hk1, ?_⟩
      rw [getV_miss fun v hv => hno ⟨v, ((idsL_set L m.2.1 v).2 z).2 ⟨k, _, e, hk1, hv⟩⟩]
      exact ho
  · by_cases hh : ∃ v, (m.2.1, v) ∈ l
    · obtain ⟨v, hv, hg⟩ := getV_has hh
      exact .inl ⟨v, by rw [← hg]; exact ho, ((idsL_set L m.2.1 v).2 z).2 ⟨k, l, e, hk, hv⟩⟩
    · refine .inr ⟨?_, ⟨k, e, (List.getElem?_eq_some_iff.1 hk).1⟩, fun ⟨v, hz⟩ => ?_⟩
      · rw [getV_miss fun v hv => hh ⟨v, hv⟩] at ho; exact ho
      · obtain ⟨k', l', e', hk', hm⟩ := ((idsL_set L m.2.1 v).2 z).1 hz
        have : k = k' := by omega
        subst this
        rw [hk] at hk'; cases hk'
        exact hh ⟨v, hm⟩
theorem hitAll_nil (L : List Lbls) (z : Int) : HitAll L [] z ↔ ∃ k : Nat, z = k ∧ k < L.length :=
  ⟨fun ⟨k, l, e, hk, _⟩ => ⟨k, e, (List.getElem?_eq_some_iff.1 hk).1⟩, fun ⟨k, e, hk⟩ => ⟨k, L[k], e, by simp [hk], by simp⟩⟩
theorem hitAll_snoc (L : List Lbls) (ms : List Mch) (m : Mch) (z : Int) : HitAll L (ms ++ [m]) z ↔ HitAll L ms z ∧ Hit L m z := by
  refine ⟨fun ⟨k, l, e, hk, h⟩ => ⟨⟨k, l, e, hk, fun x hx => h x (by simp [hx])⟩, k, l, e, hk, h m (by simp)⟩, fun ⟨⟨k, l, e, hk, h⟩, k', l', e', hk', h'⟩ => ⟨k, l, e, hk, fun x hx => ?_⟩⟩
  have : k = k' := by omega
  subst this
  rw [hk] at hk'; cases hk'
  rcases List.mem_append.1 hx with hx | hx
  · exact h x hx
  · simp at hx; subst hx; exact h'
theorem hitAll_app (L : List Lbls) (ms ns : List Mch) (z : Int) : HitAll L (ms ++ ns) z ↔ HitAll L ms z ∧ HitAll L ns z := by
  refine ⟨fun ⟨k, l, e, hk, h⟩ => ⟨⟨k, l, e, hk, fun x hx => h x (by simp [hx])⟩, k, l, e, hk, fun x hx => h x (by simp [hx])⟩, fun ⟨⟨k, l, e, hk, h⟩, k', l', e', hk', h'⟩ => ⟨k, l, e, hk, fun x hx => ?_⟩⟩
  have : k = k' := by omega
  subst this
  rw [hk] at hk'; cases hk'
  rcases List.mem_append.1 hx with hx | hx
  · exact h x hx
  · exact h' x hx
end Go.Proofs
