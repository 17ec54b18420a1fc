/- Rows: plain lists alone. -/
import Derived.Test.YtjpjmpnlomkdbaaL13c
namespace Go.Proofs
set_option linter.unusedVariables false
def kLt (a b : Rw) : Prop := a.1 < b.1 ∨ (a.1 = b.1 ∧ a.2.1 < b.2.1)
instance (a b : Rw) : Decidable (kLt a b) := inferInstanceAs (Decidable (_ ∨ _))
def kEq (a b : Rw) : Prop := a.1 = b.1 ∧ a.2.1 = b.2.1
theorem cfRw_neg {a b : Rw} : cfRw a b < 0 ↔ kLt a b := by
  unfold cfRw kLt cmpI
  split <;> (repeat' split) <;> omega
theorem cfRw_zero {a b : Rw} : cfRw a b = 0 ↔ kEq a b := by
  unfold cfRw kEq cmpI
  split <;> (repeat' split) <;> omega
theorem kLt_trans {a b c : Rw} (h : kLt a b) (h' : kLt b c) : kLt a c := by unfold kLt at *; omega
theorem kLt_irr {a : Rw} : ¬ kLt a a := by unfold kLt; omega
theorem kLt_tri (a b : Rw) : kLt a b ∨ kEq a b ∨ kLt b a := by unfold kLt kEq; omega
theorem kLt_ne {a b : Rw} (h : kLt a b) : ¬ kEq a b := by unfold kLt kEq at *; omega
/-- Rows that rise. -/
def FineR (l : List Rw) : Prop := l.Pairwise kLt
theorem FineR.nil : FineR [] := List.Pairwise.nil
theorem FineR.cons {x : Rw} {l : List Rw} : FineR (x :: l) ↔ (∀ y ∈ l, kLt x y) ∧ FineR l := List.pairwise_cons
theorem fine_eq : ∀ {a b : List Rw}, FineR a → FineR b → (∀ x, x ∈ a ↔ x ∈ b) → a = b
  | [], [], _, _, _ => rfl
  | [], y :: b, _, _, h => by have := (h y).2 (by simp); cases this
  | x :: a, [], _, _, h => by have := (h x).1 (by simp); cases this
  | x :: a, y :: b, ha, hb, h => by
    have ha' := FineR.cons.1 ha
    have hb' := FineR.cons.1 hb
    have e : x = y := by
      rcases List.mem_cons.1 ((h x).1 (by simp)) with e | h1
      · exact e
      · rcases List.mem_cons.1 ((h y).2 (by simp)) with e | h2
        · exact e.symm
        · exact absurd (kLt_trans (hb'.1 x h1) (ha'.1 y h2)) kLt_irr
    subst e
    rw [fine_eq ha'.2 hb'.2 fun z => ?_]
    have := h z
    simp only [List.mem_cons] at this
    constructor
    · intro hz
      rcases this.1 (.inr hz) with rfl | h1
      · exact absurd (ha'.1 z hz) kLt_irr
      · exact h1
    · intro hz
      rcases this.2 (.inr hz) with rfl | h1
      · exact absurd (hb'.1 z hz) kLt_irr
      · exact h1
theorem fine_mrg : ∀ {a b : List Rw}, FineR a → FineR b → (∀ x ∈ a, ∀ y ∈ b, ¬ kEq x y) → FineR (mrgC cfRw a b) ∧ ∀ z, z ∈ mrgC cfRw a b ↔ z ∈ a ∨ z ∈ b
  | [], b, _, hb, _ => by rw [mrgC_nil]; exact ⟨hb, fun z => by simp⟩
  | x :: a, [], ha, _, _ => by rw [mrgC_nil']; exact ⟨ha, fun z => by simp⟩
  | x :: a, y :: b, ha, hb, hd => by
    have ha' := FineR.cons.1 ha
    have hb' := FineR.cons.1 hb
    rw [mrgC_cons]
    have h0 : ¬ cfRw x y = 0 := fun h => hd x (by simp) y (by simp) (cfRw_zero.1 h)
    by_cases h1 : cfRw x y < 0
    · rw [if_pos h1]
      have h1' := cfRw_neg.1 h1
      obtain ⟨r1, r2⟩ := fine_mrg ha'.2 hb fun u hu v hv => hd u (by simp [hu]) v hv
      refine ⟨FineR.cons.2 ⟨fun z hz => ?_, r1⟩, fun z => ?_⟩
      · rcases (r2 z).1 hz with hz | hz
        · exact ha'.1 z hz
        · rcases List.mem_cons.1 hz with rfl | hz
          · exact h1'
          · exact kLt_trans h1' (hb'.1 z hz)
      · simp only [List.mem_cons, r2]
        constructor
        · rintro (h | h | h | h)
          · exact .inl (.inl h)
          · exact .inl (.inr h)
          · exact .inr (.inl h)
          · exact .inr (.inr h)
        · rintro ((h | h) | (h | h))
          · exact .inl h
          · exact .inr (.inl h)
          · exact .inr (.inr (.inl h))
          · exact .inr (.inr (.inr h))
    · rw [if_neg h1, if_neg h0]
      have h1' : kLt y x := by
        rcases kLt_tri x y with h | h | h
        · exact absurd (cfRw_neg.2 h) h1
        · exact absurd (cfRw_zero.2 h) h0
        · exact h
      obtain ⟨r1, r2⟩ := fine_mrg ha hb'.2 fun u hu v hv => hd u hu v (by simp [hv])
      refine ⟨FineR.cons.2 ⟨fun z hz => ?_, r1⟩, fun z => ?_⟩
      · rcases (r2 z).1 hz with hz | hz
        · rcases List.mem_cons.1 hz with rfl | hz
          · exact h1'
          · exact kLt_trans h1' (ha'.1 z hz)
        · exact hb'.1 z hz
      · simp only [List.mem_cons, r2]
        constructor
        · rintro (h | (h | h) | h)
          · exact .inr (.inl h)
          · exact .inl (.inl h)
          · exact .inl (.inr h)
          · exact .inr (.inr h)
        · rintro ((h | h) | (h | h))
          · exact .inr (.inl (.inl h))
          · exact .inr (.inl (.inr h))
          · exact .inl h
          · exact .inr (.inr h)
termination_by a b => a.length + b.length
/-- One series' rows. -/
def ownR (s : Srs) : List Rw := s.2.map fun p => (p.1, s.1, p.2)
theorem ownR_fine {s : Srs} (h : Ris s.2) : FineR (ownR s) := List.pairwise_map.2 (h.imp fun h => .inl h)
theorem ownR_mem {s : Srs} {x : Rw} : x ∈ ownR s ↔ x.2.1 = s.1 ∧ (x.1, x.2.2) ∈ s.2 := by
  unfold ownR
  rw [List.mem_map]
  constructor
  · rintro ⟨p, hp, rfl⟩; exact ⟨rfl, hp⟩
  · rintro ⟨h1, h2⟩; exact ⟨_, h2, by rw [← h1]⟩
/-- So many series' rows, merged. -/
def rowsP (ss : List Srs) : List Rw := ss.foldl (fun r s => mrgC cfRw r (ownR s)) []
/-- What rows are there of series. -/
def RowsOf (ss : List Srs) (l : List Rw) : Prop := FineR l ∧ ∀ x, x ∈ l ↔ ∃ s ∈ ss, x ∈ ownR s
theorem RowsOf.nil : RowsOf [] [] := ⟨FineR.nil, fun x => by simp⟩
theorem ids_take {ss : List Srs} (h : RightS ss) {k : Nat} {s : Srs} (hs : ss[k]? = some s) : ∀ t ∈ ss.take k, t.1 ≠ s.1 := fun t ht => by
  obtain ⟨i, hi⟩ := List.getElem?_of_mem ht
  rw [List.getElem?_take] at hi
  split at hi
  · rename_i hik
    obtain ⟨h1, rfl⟩ := List.getElem?_eq_some_iff.1 hi
    obtain ⟨h2, rfl⟩ := List.getElem?_eq_some_iff.1 hs
    have := List.pairwise_iff_getElem.1 h.1 i k h1 h2 hik
    omega
  · cases hi
theorem RowsOf.step {ss : List Srs} (h : RightS ss) {k : Nat} {s : Srs} (hs : ss[k]? = some s) {l : List Rw} (hl : RowsOf (ss.take k) l) : RowsOf (ss.take (k + 1)) (mrgC cfRw l (ownR s)) := by
  have hsr := (h.2 s (List.mem_of_getElem? hs)).2
  obtain ⟨r1, r2⟩ := fine_mrg hl.1 (ownR_fine hsr) fun x hx y hy hk => by
    obtain ⟨t, ht, hxt⟩ := (hl.2 x).1 hx
    have h1 := (ownR_mem.1 hxt).1
    have h2 := (ownR_mem.1 hy).1
    exact ids_take h hs t ht (by rw [← h1, ← h2]; exact hk.2)
  refine ⟨r1, fun x => ?_⟩
  rw [r2, hl.2, List.take_add_one, hs]
  constructor
  · rintro (⟨t, ht, hx⟩ | hx)
    · exact ⟨t, by simp [ht], hx⟩
    · exact ⟨s, by simp, hx⟩
  · rintro ⟨t, ht, hx⟩
    rcases List.mem_append.1 ht with ht | ht
    · exact .inl ⟨t, ht, hx⟩
    · simp at ht; subst ht; exact .inr hx
theorem valS_iff {ss : List Srs} (h : RightS ss) (x : Rw) : (∃ s ∈ ss, x ∈ ownR s) ↔ valS ss x.2.1 x.1 = some x.2.2 := by
  induction ss with
  | nil => simp [valS]
  | cons s ss ih =>
    obtain ⟨h1, h2, h3⟩ := RightS.cons.1 h
    rw [valS_cons]
    by_cases hi : s.1 = x.2.1
    · rw [if_pos hi]
      constructor
      · rintro ⟨t, ht, hx⟩
        have hx' := ownR_mem.1 hx
        rcases List.mem_cons.1 ht with rfl | ht
        · exact valL_ris h2.2 hx'.2
        · have := h1 t ht; omega
      · intro hv
        exact ⟨s, by simp, ownR_mem.2 ⟨hi.symm, valL_mem hv⟩⟩
    · rw [if_neg hi, ← ih h3]
      constructor
      · rintro ⟨t, ht, hx⟩
        rcases List.mem_cons.1 ht with rfl | ht
        · exact absurd (ownR_mem.1 hx).1.symm hi
        · exact ⟨t, ht, hx⟩
      · rintro ⟨t, ht, hx⟩
        exact ⟨t, by simp [ht], hx⟩
theorem RowsOf.eq {ss : List Srs} {l m : List Rw} (h : RowsOf ss l) (h' : RowsOf ss m) : l = m := fine_eq h.1 h'.1 fun x => by rw [h.2, h'.2]
theorem ofId_ris {rows : List Rw} (h : FineR rows) (id : Int) : Ris (ofId rows id) := by
  unfold ofId Ris
  refine List.pairwise_map.2 ?_
  have := (List.Pairwise.filter (fun x : Rw => decide (x.2.1 = id)) h)
  refine (List.Pairwise.and_mem.1 this).imp fun {x y} hxy => ?_
  obtain ⟨hx, hy, hk⟩ := hxy
  have h1 := of_decide_eq_true (List.mem_filter.1 hx).2
  have h2 := of_decide_eq_true (List.mem_filter.1 hy).2
  show x.1 < y.1
  unfold kLt at hk; omega
theorem ofId_mem {rows : List Rw} {x : Rw} : (x.1, x.2.2) ∈ ofId rows x.2.1 ↔ x ∈ rows := by
  unfold ofId
  rw [List.mem_map]
  constructor
  · rintro ⟨y, hy, e⟩
    have h1 := List.mem_filter.1 hy
    have h2 := of_decide_eq_true h1.2
    simp only [Prod.mk.injEq] at e
    have : y = x := Prod.ext e.1 (Prod.ext h2 e.2)
    rw [← this]; exact h1.1
  · intro h
    exact ⟨x, List.mem_filter.2 ⟨h, by simp⟩, rfl⟩
/-- Rows that rise are those of what they are split into. -/
theorem rows_split {rows : List Rw} (h : FineR rows) : RowsOf (putR [] rows) rows := by
  obtain ⟨r1, r2⟩ := right_putR (rows := rows) RightS.nil
  refine ⟨h, fun x => ?_⟩
  rw [valS_iff r1, r2]
  have e : valS [] x.2.1 x.1 = none := rfl
  rw [e, Option.or_none]
  constructor
  · intro hx
    have hm := ofId_mem.2 hx
    cases hv : valL (ofId rows x.2.1).reverse x.1 with
    | none => exact absurd rfl (valL_none.1 hv (x.1, x.2.2) (by simpa using hm))
    | some v =>
      have h1 := valL_mem hv
      rw [List.mem_reverse] at h1
      have h2 := valL_ris (ofId_ris h x.2.1) h1
      have h3 := valL_ris (ofId_ris h x.2.1) hm
      simp only at h2 h3
      rw [h2] at h3; exact h3
  · intro hv
    have h1 := valL_mem hv
    rw [List.mem_reverse] at h1
    exact ofId_mem.1 h1
/-! the reference's rows -/
def rqR (x : Rw) (done : Bool) : List Rw → List Rw
  | [] => if done then [] else [x]
  | y :: l => (if done = false ∧ kLt x y then [x] else []) ++ y :: rqR x (if done = false ∧ kLt x y then true else done) l
theorem rqR_done {x : Rw} : ∀ l : List Rw, rqR x true l = l
  | [] => rfl
  | y :: l => by unfold rqR; rw [if_neg (by simp), if_neg (by simp), rqR_done l]; rfl
theorem rqR_fine {x : Rw} : ∀ {l : List Rw}, FineR l → (∀ y ∈ l, ¬ kEq x y) → FineR (rqR x false l) ∧ ∀ z, z ∈ rqR x false l ↔ z = x ∨ z ∈ l
  | [], _, _ => ⟨FineR.cons.2 ⟨by simp, FineR.nil⟩, fun z => by simp [rqR]⟩
  | y :: l, h, hd => by
    have h' := FineR.cons.1 h
    unfold rqR
    by_cases h1 : kLt x y
    · rw [if_pos ⟨rfl, h1⟩, if_pos ⟨rfl, h1⟩, rqR_done]
      refine ⟨FineR.cons.2 ⟨fun z hz => ?_, h⟩, fun z => by simp⟩
      rcases List.mem_cons.1 hz with rfl | hz
      · exact h1
      · exact kLt_trans h1 (h'.1 z hz)
    · rw [if_neg (fun hh => h1 hh.2), if_neg (fun hh => h1 hh.2)]
      have h2 : kLt y x := by
        rcases kLt_tri x y with h | h | h
        · exact absurd h h1
        · exact absurd h (hd y (by simp))
        · exact h
      obtain ⟨r1, r2⟩ := rqR_fine h'.2 fun z hz => hd z (by simp [hz])
      refine ⟨FineR.cons.2 ⟨fun z hz => ?_, r1⟩, fun z => ?_⟩
      · rcases (r2 z).1 hz with rfl | hz
        · exact h2
        · exact h'.1 z hz
      · simp only [List.nil_append, List.mem_cons, r2]
        constructor
        · rintro (h | h | h)
          · exact .inr (.inl h)
          · exact .inl h
          · exact .inr (.inr h)
        · rintro (h | h | h)
          · exact .inr (.inl h)
          · exact .inl h
          · exact .inr (.inr h)
/-- So many series' rows, and so many of one's. -/
def RowsTo (ss : List Srs) (k j : Nat) (l : List Rw) : Prop := FineR l ∧ ∀ x, x ∈ l ↔ (∃ s ∈ ss.take k, x ∈ ownR s) ∨ ∃ s, ss[k]? = some s ∧ x ∈ (ownR s).take j
theorem RowsTo.start {ss : List Srs} {k : Nat} {l : List Rw} (h : RowsOf (ss.take k) l) : RowsTo ss k 0 l := ⟨h.1, fun x => by rw [h.2]; simp⟩
theorem RowsTo.done {ss : List Srs} {k j : Nat} {l : List Rw} {s : Srs} (h : RowsTo ss k j l) (hs : ss[k]? = some s) (hj : s.2.length ≤ j) : RowsOf (ss.take (k + 1)) l := ⟨h.1, fun x => by
  rw [h.2, List.take_add_one, hs]
  have e : (ownR s).take j = ownR s := List.take_of_length_le (by unfold ownR; simpa using hj)
  constructor
  · rintro (⟨t, ht, hx⟩ | ⟨t, ht, hx⟩)
    · exact ⟨t, by simp [ht], hx⟩
    · cases ht
      rw [e] at hx
      exact ⟨s, by simp, hx⟩
  · rintro ⟨t, ht, hx⟩
    rcases List.mem_append.1 ht with ht | ht
    · exact .inl ⟨t, ht, hx⟩
    · simp at ht; subst ht
      exact .inr ⟨_, rfl, by rw [e]; exact hx⟩⟩
theorem RowsTo.step {ss : List Srs} (hr : RightS ss) {k j : Nat} {l : List Rw} {s : Srs} {p : Smp} (h : RowsTo ss k j l) (hs : ss[k]? = some s) (hp : s.2[j]? = some p) : RowsTo ss k (j + 1) (rqR (p.1, s.1, p.2) false l) := by
  have hsr := (hr.2 s (List.mem_of_getElem? hs)).2
  have hg : (ownR s)[j]? = some (p.1, s.1, p.2) := by unfold ownR; rw [List.getElem?_map, hp]; rfl
  obtain ⟨r1, r2⟩ := rqR_fine (x := (p.1, s.1, p.2)) h.1 fun y hy hk => by
    rcases (h.2 y).1 hy with ⟨t, ht, hx⟩ | ⟨t, ht, hx⟩
    · have h1 := (ownR_mem.1 hx).1
      exact ids_take hr hs t ht (by rw [← h1]; exact hk.2.symm)
    · rw [hs] at ht; cases ht
      obtain ⟨i, hi⟩ := List.getElem?_of_mem hx
      rw [List.getElem?_take] at hi
      split at hi
      · rename_i hij
        obtain ⟨h1, e1⟩ := List.getElem?_eq_some_iff.1 hi
        obtain ⟨h2, e2⟩ := List.getElem?_eq_some_iff.1 hg
        have := List.pairwise_iff_getElem.1 (ownR_fine hsr) i j h1 h2 hij
        rw [e1, e2] at this
        exact kLt_ne this ⟨hk.1.symm, hk.2.symm⟩
      · cases hi
  refine ⟨r1, fun x => ?_⟩
  rw [r2, h.2]
  constructor
  · rintro (rfl | hx | ⟨t, ht, hx⟩)
    · exact .inr ⟨s, hs, by rw [List.take_add_one, hg]; simp⟩
    · exact .inl hx
    · exact .inr ⟨t, ht, List.take_subset_take_left _ (Nat.le_succ j) hx⟩
  · rintro (hx | ⟨t, ht, hx⟩)
    · exact .inr (.inl hx)
    · rw [hs] at ht; cases ht
      rw [List.take_add_one, hg] at hx
      rcases List.mem_append.1 hx with hx | hx
      · exact .inr (.inr ⟨s, hs, hx⟩)
      · simp at hx; exact .inl hx
/-! one row that is put -/
theorem put_mem {ss : List Srs} {x : Rw} {m w : List Rw} (hr : RightS ss) (hm : RowsOf (putR ss [x]) m) (hw : RowsOf ss w) : x ∈ m ∧ (∀ z ∈ m, kEq z x → z = x) ∧ ∀ z, ¬ kEq z x → (z ∈ m ↔ z ∈ w) := by
  obtain ⟨r1, r2⟩ := right_put1 (x := x) hr
  have hv : ∀ z, z ∈ m ↔ (if x.2.1 = z.2.1 ∧ x.1 = z.1 then some x.2.2 else valS ss z.2.1 z.1) = some z.2.2 := fun z => by
    rw [hm.2]
    show (∃ s ∈ put1 ss x, z ∈ ownR s) ↔ _
    rw [valS_iff r1, r2]
  refine ⟨(hv x).2 (by rw [if_pos ⟨rfl, rfl⟩]), fun z hz hk => ?_, fun z hk => ?_⟩
  · have := (hv z).1 hz
    rw [if_pos ⟨hk.2.symm, hk.1.symm⟩] at this
    simp only [Option.some.injEq] at this
    exact Prod.ext hk.1 (Prod.ext hk.2 this.symm)
  · rw [hv, if_neg (fun h => hk ⟨h.2.symm, h.1.symm⟩), hw.2, valS_iff hr]
/-- How far two lists of rows are one, but for a row of this time and series. -/
def SetR (x : Rw) (there : Bool) (M W : List Rw) : Prop := FineR M ∧ FineR W ∧ (∀ z, ¬ kEq z x → (z ∈ M ↔ z ∈ W)) ∧ (∀ z ∈ M, kEq z x → z = x) ∧
  (there = true → (∀ z ∈ M, ¬ kEq z x) ∧ ∀ z ∈ W, ¬ kEq z x) ∧ (there = false → x ∈ M)
theorem SetR.hit {x : Rw} {there : Bool} {M W : List Rw} {z : Rw} (h : SetR x there (z :: M) W) (hz : kEq z x) : z = x ∧ ∃ W', SetR x true M W' ∧ ((∃ w, W = w :: W' ∧ kEq w x) ∨ (W' = W ∧ ∀ w, W.head? = some w → ¬ kEq w x)) := by
  obtain ⟨h1, h2, h3, h4, h5, h6⟩ := h
  have h1' := FineR.cons.1 h1
  have hzx := h4 z (by simp) hz
  have hMn : ∀ y ∈ M, ¬ kEq y x := fun y hy hk => by
    have := h4 y (by simp [hy]) hk
    rw [this, ← hzx] at hy
    exact kLt_irr (h1'.1 z hy)
  refine ⟨hzx, ?_⟩
  have rest : ∀ {W'}, FineR W' → (∀ y ∈ W', ¬ kEq y x) → (∀ y, ¬ kEq y x → (y ∈ W' ↔ y ∈ W)) → SetR x true M W' := fun g1 g2 g3 =>
    ⟨h1'.2, g1, fun y hy => by
      rw [g3 y hy, ← h3 y hy]
      constructor
      · intro h; simp [h]
      · intro h
        rcases List.mem_cons.1 h with rfl | h
        · exact absurd hz hy
        · exact h, fun y hy hk => absurd hk (hMn y hy), fun _ => ⟨hMn, g2⟩, fun h => by cases h⟩
  cases W with
  | nil => exact ⟨[], rest FineR.nil (by simp) (by simp), .inr ⟨rfl, by simp⟩⟩
  | cons w W =>
    have h2' := FineR.cons.1 h2
    by_cases hw : kEq w x
    · refine ⟨W, rest h2'.2 (fun y hy hk => ?_) (fun y hy => ?_), .inl ⟨w, rfl, hw⟩⟩
      · exact kLt_ne (h2'.1 y hy) ⟨by rw [hw.1, hk.1], by rw [hw.2, hk.2]⟩
      · constructor
        · intro h; simp [h]
        · intro h
          rcases List.mem_cons.1 h with rfl | h
          · exact absurd hw hy
          · exact h
    · refine ⟨w :: W, rest h2 (fun y hy hk => ?_) (fun _ _ => Iff.rfl), .inr ⟨rfl, fun y hy => by simp at hy; subst hy; exact hw⟩⟩
      -- else its head were ahead of all
      rcases List.mem_cons.1 hy with rfl | hy
      · exact hw hk
      · have hwm := (h3 w hw).2 (by simp)
        rcases List.mem_cons.1 hwm with e | hwm
        · exact hw (e ▸ hz)
        · have g1 := h1'.1 w hwm
          have g2 := h2'.1 y hy
          have g3 := kLt_trans g1 g2
          exact kLt_ne g3 ⟨by rw [hz.1, hk.1], by rw [hz.2, hk.2]⟩
theorem SetR.miss {x : Rw} {there : Bool} {M W : List Rw} {z : Rw} (h : SetR x there (z :: M) W) (hz : ¬ kEq z x) : ∃ W', W = z :: W' ∧ SetR x there M W' := by
  obtain ⟨h1, h2, h3, h4, h5, h6⟩ := h
  have h1' := FineR.cons.1 h1
  have hzW := (h3 z hz).1 (by simp)
  cases W with
  | nil => cases hzW
  | cons w W =>
    have h2' := FineR.cons.1 h2
    have e : w = z := by
      rcases List.mem_cons.1 hzW with e | hzW
      · exact e.symm
      · exfalso
        have g1 := h2'.1 z hzW
        by_cases hw : kEq w x
        · cases there with
          | true => exact (h5 rfl).2 w (by simp) hw
          | false =>
            rcases List.mem_cons.1 (h6 rfl) with e | hxm
            · exact hz (e ▸ ⟨rfl, rfl⟩)
            · have g2 := kLt_trans g1 (h1'.1 x hxm)
              exact kLt_ne g2 hw
        · rcases List.mem_cons.1 ((h3 w hw).2 (by simp)) with e | hwm
          · subst e; exact kLt_irr g1
          · exact kLt_irr (kLt_trans g1 (h1'.1 w hwm))
    subst e
    refine ⟨W, rfl, h1'.2, h2'.2, fun y hy => ?_, fun y hy hk => h4 y (by simp [hy]) hk, fun ht => ⟨fun y hy => (h5 ht).1 y (by simp [hy]), fun y hy => (h5 ht).2 y (by simp [hy])⟩, fun ht => ?_⟩
    · have := h3 y hy
      simp only [List.mem_cons] at this
      constructor
      · intro hm
        rcases this.1 (.inr hm) with rfl | h
        · exact absurd (h1'.1 y hm) kLt_irr
        · exact h
      · intro hm
        rcases this.2 (.inr hm) with rfl | h
        · exact absurd (h2'.1 y hm) kLt_irr
        · exact h
    · rcases List.mem_cons.1 (h6 ht) with e | h
      · exact absurd ⟨by rw [e], by rw [e]⟩ hz
      · exact h
theorem SetR.fin {x : Rw} {there : Bool} {W : List Rw} (h : SetR x there [] W) : there = true ∧ W = [] := by
  obtain ⟨h1, h2, h3, h4, h5, h6⟩ := h
  cases there with
  | false => exact absurd (h6 rfl) (by simp)
  | true =>
    refine ⟨rfl, ?_⟩
    cases W with
    | nil => rfl
    | cons w W => exact absurd ((h3 w ((h5 rfl).2 w (by simp))).2 (by simp)) (by simp)
end Go.Proofs
