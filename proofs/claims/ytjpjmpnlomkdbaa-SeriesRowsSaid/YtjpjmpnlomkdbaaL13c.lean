/- Series, rows: plain lists alone. -/
import Derived.Test.YtjpjmpnlomkdbaaP13i
namespace Go.Proofs
set_option linter.unusedVariables false
/-! what a list has of a time -/
def valL (l : List Smp) (t : Int) : Option Int := (l.find? fun x => decide (x.1 = t)).map (·.2)
theorem valL_nil (t : Int) : valL [] t = none := rfl
theorem valL_cons (x : Smp) (l : List Smp) (t : Int) : valL (x :: l) t = if x.1 = t then some x.2 else valL l t := by
  unfold valL
  rw [List.find?_cons]
  by_cases h : x.1 = t
  · rw [if_pos h, decide_eq_true h]; rfl
  · rw [if_neg h, decide_eq_false h]
theorem valL_app (a b : List Smp) (t : Int) : valL (a ++ b) t = (valL a t).or (valL b t) := by
  induction a with
  | nil => rw [List.nil_append, valL_nil]; rfl
  | cons x a ih =>
    rw [List.cons_append, valL_cons, valL_cons, ih]
    split <;> rfl
theorem valL_none {l : List Smp} {t : Int} : valL l t = none ↔ ∀ x ∈ l, x.1 ≠ t := by
  induction l with
  | nil => simp [valL_nil]
  | cons x l ih =>
    rw [valL_cons]
    by_cases h : x.1 = t
    · rw [if_pos h]; simp [h]
    · rw [if_neg h, ih]; simp [h]
theorem valL_mem {l : List Smp} {t v : Int} (h : valL l t = some v) : (t, v) ∈ l := by
  induction l with
  | nil => simp [valL_nil] at h
  | cons x l ih =>
    rw [valL_cons] at h
    by_cases h1 : x.1 = t
    · rw [if_pos h1] at h
      simp only [Option.some.injEq] at h
      rw [show (t, v) = x from Prod.ext h1.symm h.symm]; simp
    · rw [if_neg h1] at h
      exact List.mem_cons_of_mem _ (ih h)
theorem valL_ris {l : List Smp} (hr : Ris l) {x : Smp} (h : x ∈ l) : valL l x.1 = some x.2 := by
  induction l with
  | nil => cases h
  | cons y l ih =>
    have hc := ris_cons.1 hr
    rw [valL_cons]
    rcases List.mem_cons.1 h with rfl | h
    · rw [if_pos rfl]
    · rw [if_neg (by have := hc.1 x h; omega)]; exact ih hc.2 h
theorem ris_eq : ∀ {a b : List Smp}, Ris a → Ris b → (∀ t, valL a t = valL b t) → a = b
  | [], [], _, _, _ => rfl
  | [], y :: b, _, _, h => by have := h y.1; rw [valL_nil, valL_cons, if_pos rfl] at this; cases this
  | x :: a, [], _, _, h => by have := h x.1; rw [valL_nil, valL_cons, if_pos rfl] at this; cases this
  | x :: a, y :: b, ha, hb, h => by
    have ha' := ris_cons.1 ha
    have hb' := ris_cons.1 hb
    have hxy : x.1 = y.1 := by
      rcases Int.lt_trichotomy x.1 y.1 with h1 | h1 | h1
      · have := h x.1
        rw [valL_cons, if_pos rfl] at this
        have h2 : valL (y :: b) x.1 = none := valL_none.2 fun z hz => by
          rcases List.mem_cons.1 hz with rfl | hz
          · omega
          · have := hb'.1 z hz; omega
        rw [h2] at this; cases this
      · exact h1
      · have := h y.1
        rw [valL_cons (x := y), if_pos rfl] at this
        have h2 : valL (x :: a) y.1 = none := valL_none.2 fun z hz => by
          rcases List.mem_cons.1 hz with rfl | hz
          · omega
          · have := ha'.1 z hz; omega
        rw [h2] at this; cases this
    have hv : x.2 = y.2 := by
      have := h x.1
      rw [valL_cons, if_pos rfl, valL_cons, if_pos hxy.symm] at this
      simpa using this
    have e : x = y := Prod.ext hxy hv
    subst e
    rw [ris_eq ha'.2 hb'.2 fun t => by
      by_cases ht : x.1 = t
      · subst ht
        rw [valL_none.2 fun z hz => by have := ha'.1 z hz; omega, valL_none.2 fun z hz => by have := hb'.1 z hz; omega]
      · have := h t
        rw [valL_cons, valL_cons, if_neg ht, if_neg ht] at this; exact this]
theorem valL_mrg : ∀ (a b : List Smp) (t : Int), Ris a → Ris b → valL (mrg a b) t = (valL b t).or (valL a t)
  | [], b, t, _, _ => by rw [mrg_nil, valL_nil]; simp
  | x :: a, [], t, _, _ => by rw [mrg_nil', valL_nil]; rfl
  | x :: a, y :: b, t, ha, hb => by
    have ha' := ris_cons.1 ha
    have hb' := ris_cons.1 hb
    rw [mrg_cons]
    split
    · rename_i h
      rw [valL_cons, valL_mrg a (y :: b) t ha'.2 hb, valL_cons x a]
      by_cases ht : x.1 = t
      · rw [if_pos ht, if_pos ht, valL_none.2 fun z hz => by
          rcases List.mem_cons.1 hz with rfl | hz
          · omega
          · have := hb'.1 z hz; omega]
        rfl
      · rw [if_neg ht, if_neg ht]
    · split
      · rename_i h h2
        rw [valL_cons, valL_mrg a b t ha'.2 hb'.2, valL_cons x a, valL_cons y b]
        by_cases ht : y.1 = t
        · rw [if_pos ht, if_pos ht]; rfl
        · rw [if_neg ht, if_neg ht, if_neg (by omega)]
      · rename_i h h2
        rw [valL_cons, valL_mrg (x :: a) b t ha hb'.2, valL_cons y b]
        split <;> rfl
termination_by a b => a.length + b.length
/-! what is put together of one series' rows -/
/-- The first of each time of what is sorted, stably, the last one first. -/
def FinP (g f : List Smp) : Prop := ∃ ys, Srt ys ∧ Stb g.reverse ys ∧ f = dd ys
theorem ddF_mem : ∀ (l : List Smp) (p : Option Int) (x : Smp), x ∈ ddF p l → x ∈ l
  | [], _, _, h => h
  | y :: l, p, x, h => by
    have h : x ∈ (if p = some y.1 then ddF (some y.1) l else y :: ddF (some y.1) l) := h
    split at h
    · exact List.mem_cons_of_mem _ (ddF_mem l _ x h)
    · rcases List.mem_cons.1 h with rfl | h
      · simp
      · exact List.mem_cons_of_mem _ (ddF_mem l _ x h)
theorem ddF_gt : ∀ (l : List Smp) (p : Int), Srt l → (∀ x ∈ l, p ≤ x.1) → ∀ x ∈ ddF (some p) l, p < x.1
  | [], _, _, _, x, h => by cases h
  | y :: l, p, hs, hp, x, h => by
    have hs' := List.pairwise_cons.1 hs
    have h' : x ∈ (if some p = some y.1 then ddF (some y.1) l else y :: ddF (some y.1) l) := h
    split at h'
    · rename_i e
      simp only [Option.some.injEq] at e
      subst e
      exact ddF_gt l _ hs'.2 (fun z hz => hs'.1 z hz) x h'
    · rename_i e
      have hy := hp y (by simp)
      have hne : p ≠ y.1 := fun e' => e (by rw [e'])
      rcases List.mem_cons.1 h' with rfl | h'
      · omega
      · have := ddF_gt l y.1 hs'.2 (fun z hz => hs'.1 z hz) x h'
        omega
theorem ddF_ris : ∀ (l : List Smp) (p : Option Int), Srt l → Ris (ddF p l)
  | [], _, _ => Ris.nil
  | y :: l, p, hs => by
    have hs' := List.pairwise_cons.1 hs
    show Ris (if p = some y.1 then ddF (some y.1) l else y :: ddF (some y.1) l)
    split
    · exact ddF_ris l _ hs'.2
    · exact ris_cons.2 ⟨ddF_gt l y.1 hs'.2 (fun z hz => hs'.1 z hz), ddF_ris l _ hs'.2⟩
theorem ddF_val : ∀ (l : List Smp) (p : Option Int) (t : Int), Srt l → (∀ q, p = some q → ∀ x ∈ l, q ≤ x.1) → p ≠ some t → valL (ddF p l) t = valL l t
  | [], _, _, _, _, _ => rfl
  | y :: l, p, t, hs, hp, hpt => by
    have hs' := List.pairwise_cons.1 hs
    show valL (if p = some y.1 then ddF (some y.1) l else y :: ddF (some y.1) l) t = _
    have rest : y.1 ≠ t → valL (ddF (some y.1) l) t = valL l t := fun h => ddF_val l (some y.1) t hs'.2 (fun q e x hx => by simp only [Option.some.injEq] at e; subst e; exact hs'.1 x hx) (fun e => h (by simpa using e))
    rw [valL_cons]
    split
    · rename_i e
      have hne : y.1 ≠ t := fun e' => hpt (by rw [e, e'])
      rw [if_neg hne, rest hne]
    · rw [valL_cons]
      by_cases h : y.1 = t
      · rw [if_pos h, if_pos h]
      · rw [if_neg h, if_neg h, rest h]
theorem valL_filter (l : List Smp) (t : Int) : valL l t = ((l.filter fun x => decide (x.1 = t)).head?).map (·.2) := by
  induction l with
  | nil => rfl
  | cons x l ih =>
    rw [valL_cons, List.filter_cons]
    by_cases h : x.1 = t
    · rw [if_pos h, if_pos (by simpa using h)]; rfl
    · rw [if_neg h, if_neg (by simpa using h)]; exact ih
theorem FinP.ris {g f : List Smp} (h : FinP g f) : Ris f := by
  obtain ⟨ys, h1, _, rfl⟩ := h
  exact ddF_ris ys none h1
theorem FinP.val {g f : List Smp} (h : FinP g f) (t : Int) : valL f t = valL g.reverse t := by
  obtain ⟨ys, h1, h2, rfl⟩ := h
  unfold dd
  rw [ddF_val ys none t h1 (fun q e => by cases e) (by simp), valL_filter, valL_filter, h2 t]
theorem FinP.ne {g f : List Smp} (h : FinP g f) (hg : g ≠ []) : f ≠ [] := by
  obtain ⟨x, hx⟩ := List.exists_mem_of_ne_nil _ hg
  have h1 : valL g.reverse x.1 ≠ none := fun e => valL_none.1 e x (by simpa using hx) rfl
  intro e
  subst e
  exact h1 (by rw [← h.val]; rfl)
/-! series -/
abbrev Srs := Int × List Smp
def RightS (ss : List Srs) : Prop := ss.Pairwise (fun a b => a.1 < b.1) ∧ ∀ s ∈ ss, s.2 ≠ [] ∧ Ris s.2
def valS (ss : List Srs) (id t : Int) : Option Int := match ss with
  | [] => none
  | s :: ss => if s.1 = id then valL s.2 t else valS ss id t
theorem valS_cons (s : Srs) (ss : List Srs) (id t : Int) : valS (s :: ss) id t = if s.1 = id then valL s.2 t else valS ss id t := rfl
theorem valS_none {ss : List Srs} {id t : Int} (h : ∀ s ∈ ss, s.1 ≠ id) : valS ss id t = none := by
  induction ss with
  | nil => rfl
  | cons s ss ih => rw [valS_cons, if_neg (h s (by simp))]; exact ih fun x hx => h x (by simp [hx])
theorem RightS.nil : RightS [] := ⟨List.Pairwise.nil, fun s h => by cases h⟩
theorem RightS.cons {s : Srs} {ss : List Srs} : RightS (s :: ss) ↔ (∀ x ∈ ss, s.1 < x.1) ∧ (s.2 ≠ [] ∧ Ris s.2) ∧ RightS ss := by
  unfold RightS
  rw [List.pairwise_cons]
  constructor
  · rintro ⟨⟨h1, h2⟩, h3⟩
    exact ⟨h1, h3 s (by simp), h2, fun x hx => h3 x (by simp [hx])⟩
  · rintro ⟨h1, h2, h3, h4⟩
    refine ⟨⟨h1, h3⟩, fun x hx => ?_⟩
    rcases List.mem_cons.1 hx with rfl | hx
    · exact h2
    · exact h4 x hx
theorem right_eq : ∀ {a b : List Srs}, RightS a → RightS b → (∀ id t, valS a id t = valS b id t) → a = b
  | [], [], _, _, _ => rfl
  | [], y :: b, _, hb, h => by
    obtain ⟨_, ⟨h1, h2⟩, _⟩ := RightS.cons.1 hb
    obtain ⟨x, hx⟩ := List.exists_mem_of_ne_nil _ h1
    have := h y.1 x.1
    rw [valS_cons, if_pos rfl, valL_ris h2 hx] at this
    cases this
  | x :: a, [], ha, _, h => by
    obtain ⟨_, ⟨h1, h2⟩, _⟩ := RightS.cons.1 ha
    obtain ⟨z, hz⟩ := List.exists_mem_of_ne_nil _ h1
    have := h x.1 z.1
    rw [valS_cons, if_pos rfl, valL_ris h2 hz] at this
    cases this
  | x :: a, y :: b, ha, hb, h => by
    obtain ⟨a1, ⟨a2, a3⟩, a4⟩ := RightS.cons.1 ha
    obtain ⟨b1, ⟨b2, b3⟩, b4⟩ := RightS.cons.1 hb
    have hxy : x.1 = y.1 := by
      rcases Int.lt_trichotomy x.1 y.1 with h1 | h1 | h1
      · obtain ⟨z, hz⟩ := List.exists_mem_of_ne_nil _ a2
        have := h x.1 z.1
        rw [valS_cons, if_pos rfl, valL_ris a3 hz, valS_none fun s hs => by
          rcases List.mem_cons.1 hs with rfl | hs
          · omega
          · have := b1 s hs; omega] at this
        cases this
      · exact h1
      · obtain ⟨z, hz⟩ := List.exists_mem_of_ne_nil _ b2
        have := h y.1 z.1
        rw [valS_cons y, if_pos rfl, valL_ris b3 hz, valS_none fun s hs => by
          rcases List.mem_cons.1 hs with rfl | hs
          · omega
          · have := a1 s hs; omega] at this
        cases this
    have hL : x.2 = y.2 := ris_eq a3 b3 fun t => by
      have := h x.1 t
      rw [valS_cons, if_pos rfl, valS_cons, if_pos hxy.symm] at this
      exact this
    have e : x = y := Prod.ext hxy hL
    subst e
    rw [right_eq a4 b4 fun id t => by
      by_cases hi : x.1 = id
      · subst hi
        rw [valS_none fun s hs => by have := a1 s hs; omega, valS_none fun s hs => by have := b1 s hs; omega]
      · have := h id t
        rw [valS_cons, valS_cons, if_neg hi, if_neg hi] at this; exact this]
def cfP (x y : Srs) : Int := cmpI x.1 y.1
theorem cmpI_zero {x y : Int} : cmpI x y = 0 ↔ x = y := by unfold cmpI; split <;> (try split) <;> omega
theorem mem_mrgC {α : Type} {cf : α → α → Int} {z : α} : ∀ (a b : List α), z ∈ mrgC cf a b → z ∈ a ∨ z ∈ b
  | [], b, h => by rw [mrgC_nil] at h; exact .inr h
  | x :: a, [], h => by rw [mrgC_nil'] at h; exact .inl h
  | x :: a, y :: b, h => by
    rw [mrgC_cons] at h
    split at h
    · rcases List.mem_cons.1 h with rfl | h
      · exact .inl (by simp)
      · exact (mem_mrgC a (y :: b) h).elim (fun h => .inl (by simp [h])) .inr
    · split at h
      · rcases List.mem_cons.1 h with rfl | h
        · exact .inr (by simp)
        · exact (mem_mrgC a b h).elim (fun h => .inl (by simp [h])) fun h => .inr (by simp [h])
      · rcases List.mem_cons.1 h with rfl | h
        · exact .inr (by simp)
        · exact (mem_mrgC (x :: a) b h).elim .inl fun h => .inr (by simp [h])
termination_by a b => a.length + b.length
theorem right_mrg : ∀ {a b : List Srs}, RightS a → RightS b → RightS (mrgC cfP a b) ∧ ∀ id t, valS (mrgC cfP a b) id t = if ∃ s ∈ b, s.1 = id then valS b id t else valS a id t
  | [], b, ha, hb => by
    rw [mrgC_nil]
    refine ⟨hb, fun id t => ?_⟩
    split
    · rfl
    · rename_i h
      exact valS_none fun s hs e => h ⟨s, hs, e⟩
  | x :: a, [], ha, hb => by
    rw [mrgC_nil']
    exact ⟨ha, fun id t => by rw [if_neg (by simp)]⟩
  | x :: a, y :: b, ha, hb => by
    obtain ⟨a1, a2, a4⟩ := RightS.cons.1 ha
    obtain ⟨b1, b2, b4⟩ := RightS.cons.1 hb
    rw [mrgC_cons]
    by_cases h1 : cfP x y < 0
    · have h1' : x.1 < y.1 := cmpI_neg.1 h1
      rw [if_pos h1]
      obtain ⟨r1, r2⟩ := right_mrg a4 hb
      refine ⟨RightS.cons.2 ⟨fun z hz => ?_, a2, r1⟩, fun id t => ?_⟩
      · rcases mem_mrgC _ _ hz with hz | hz
        · exact a1 z hz
        · rcases List.mem_cons.1 hz with rfl | hz
          · exact h1'
          · have := b1 z hz; omega
      · rw [valS_cons, r2, valS_cons x a]
        by_cases hi : x.1 = id
        · have hno : ¬ ∃ s ∈ y :: b, s.1 = id := by
            rintro ⟨s, hs, e⟩
            rcases List.mem_cons.1 hs with rfl | hs
            · omega
            · have := b1 s hs; omega
          rw [if_pos hi, if_neg hno, if_pos hi]
        · rw [if_neg hi, if_neg hi]
    · rw [if_neg h1]
      have h1' : ¬ x.1 < y.1 := fun h => h1 (cmpI_neg.2 h)
      by_cases h2 : cfP x y = 0
      · have h2' : x.1 = y.1 := cmpI_zero.1 h2
        rw [if_pos h2]
        obtain ⟨r1, r2⟩ := right_mrg a4 b4
        refine ⟨RightS.cons.2 ⟨fun z hz => ?_, b2, r1⟩, fun id t => ?_⟩
        · rcases mem_mrgC _ _ hz with hz | hz
          · have := a1 z hz; omega
          · exact b1 z hz
        · rw [valS_cons, r2]
          by_cases hi : y.1 = id
          · rw [if_pos hi, if_pos ⟨y, by simp, hi⟩, valS_cons, if_pos hi]
          · rw [if_neg hi, valS_cons y b, if_neg hi, valS_cons x a, if_neg (show ¬ x.1 = id by omega)]
            by_cases he : ∃ s ∈ b, s.1 = id
            · obtain ⟨s, hs, e⟩ := he
              rw [if_pos ⟨s, hs, e⟩, if_pos ⟨s, by simp [hs], e⟩]
            · rw [if_neg he, if_neg]
              rintro ⟨s, hs, e⟩
              rcases List.mem_cons.1 hs with rfl | hs
              · exact hi e
              · exact he ⟨s, hs, e⟩
      · rw [if_neg h2]
        have h2' : y.1 < x.1 := by
          have : x.1 ≠ y.1 := fun e => h2 (cmpI_zero.2 e)
          omega
        obtain ⟨r1, r2⟩ := right_mrg ha b4
        refine ⟨RightS.cons.2 ⟨fun z hz => ?_, b2, r1⟩, fun id t => ?_⟩
        · rcases mem_mrgC _ _ hz with hz | hz
          · rcases List.mem_cons.1 hz with rfl | hz
            · exact h2'
            · have := a1 z hz; omega
          · exact b1 z hz
        · rw [valS_cons, r2]
          by_cases hi : y.1 = id
          · rw [if_pos hi, if_pos ⟨y, by simp, hi⟩, valS_cons, if_pos hi]
          · rw [if_neg hi, valS_cons y b, if_neg hi]
            by_cases he : ∃ s ∈ b, s.1 = id
            · obtain ⟨s, hs, e⟩ := he
              rw [if_pos ⟨s, hs, e⟩, if_pos ⟨s, by simp [hs], e⟩]
            · rw [if_neg he, if_neg]
              rintro ⟨s, hs, e⟩
              rcases List.mem_cons.1 hs with rfl | hs
              · exact hi e
              · exact he ⟨s, hs, e⟩
termination_by a b => a.length + b.length
/-! rows that are put, one at a time: the document's -/
def put1 (ss : List Srs) (x : Rw) : List Srs := match ss with
  | [] => [(x.2.1, [(x.1, x.2.2)])]
  | s :: ss => if x.2.1 < s.1 then (x.2.1, [(x.1, x.2.2)]) :: s :: ss else if s.1 = x.2.1 then (s.1, mrg s.2 [(x.1, x.2.2)]) :: ss else s :: put1 ss x
theorem ris_one (x : Smp) : Ris [x] := by simp [Ris]
theorem mrg_ne {a b : List Smp} (hb : b ≠ []) (ha : Ris a) (hb' : Ris b) : mrg a b ≠ [] := by
  obtain ⟨x, hx⟩ := List.exists_mem_of_ne_nil _ hb
  intro e
  have := valL_mrg a b x.1 ha hb'
  rw [e, valL_nil, valL_ris hb' hx] at this
  cases this
theorem mem_put1 {x : Rw} {z : Srs} : ∀ {ss : List Srs}, z ∈ put1 ss x → z.1 = x.2.1 ∨ z ∈ ss
  | [], h => by simp [put1] at h; subst h; exact .inl rfl
  | s :: ss, h => by
    unfold put1 at h
    split at h
    · rcases List.mem_cons.1 h with rfl | h
      · exact .inl rfl
      · exact .inr h
    · split at h
      · rename_i e
        rcases List.mem_cons.1 h with rfl | h
        · exact .inl e
        · exact .inr (by simp [h])
      · rcases List.mem_cons.1 h with rfl | h
        · exact .inr (by simp)
        · exact (mem_put1 h).imp id fun h => by simp [h]
theorem right_put1 {x : Rw} : ∀ {ss : List Srs}, RightS ss → RightS (put1 ss x) ∧ ∀ id t, valS (put1 ss x) id t = if x.2.1 = id ∧ x.1 = t then some x.2.2 else valS ss id t
  | [], _ => by
    refine ⟨RightS.cons.2 ⟨by simp, ⟨by simp, ris_one _⟩, RightS.nil⟩, fun id t => ?_⟩
    show (if x.2.1 = id then valL [(x.1, x.2.2)] t else none) = _
    rw [valL_cons, valL_nil]
    by_cases h1 : x.2.1 = id <;> by_cases h2 : x.1 = t <;> simp [h1, h2, valS]
  | s :: ss, h => by
    obtain ⟨a1, a2, a4⟩ := RightS.cons.1 h
    unfold put1
    split
    · rename_i h1
      refine ⟨RightS.cons.2 ⟨fun z hz => ?_, ⟨by simp, ris_one _⟩, h⟩, fun id t => ?_⟩
      · show x.2.1 < z.1
        rcases List.mem_cons.1 hz with rfl | hz
        · exact h1
        · have := a1 z hz; omega
      · rw [valS_cons, valL_cons, valL_nil]
        by_cases h2 : x.2.1 = id
        · subst h2
          rw [if_pos rfl]
          have : valS (s :: ss) x.2.1 t = none := valS_none fun z hz => by
            rcases List.mem_cons.1 hz with rfl | hz
            · omega
            · have := a1 z hz; omega
          rw [this]; simp
        · rw [if_neg h2]; simp [h2]
    · split
      · rename_i h1 h2
        refine ⟨RightS.cons.2 ⟨a1, ⟨mrg_ne (by simp) a2.2 (ris_one _), ris_mrg _ _ a2.2 (ris_one _)⟩, a4⟩, fun id t => ?_⟩
        rw [valS_cons, valS_cons]
        show (if s.1 = id then valL (mrg s.2 [(x.1, x.2.2)]) t else valS ss id t) = _
        rw [valL_mrg _ _ _ a2.2 (ris_one _), valL_cons, valL_nil]
        by_cases h3 : s.1 = id
        · have h4 : x.2.1 = id := by omega
          rw [if_pos h3, if_pos h3]
          by_cases h5 : x.1 = t
          · rw [if_pos h5, if_pos ⟨h4, h5⟩]; rfl
          · rw [if_neg h5, if_neg (fun h => h5 h.2)]; rfl
        · rw [if_neg h3, if_neg h3, if_neg (fun h => h3 (by omega))]
      · rename_i h1 h2
        obtain ⟨r1, r2⟩ := right_put1 (x := x) a4
        refine ⟨RightS.cons.2 ⟨fun z hz => ?_, a2, r1⟩, fun id t => ?_⟩
        · rcases mem_put1 hz with e | hz
          · omega
          · exact a1 z hz
        · rw [valS_cons, valS_cons, r2]
          by_cases h3 : s.1 = id
          · rw [if_pos h3, if_pos h3, if_neg (fun h => h2 (by omega))]
          · rw [if_neg h3, if_neg h3]
def putR (ss : List Srs) (rows : List Rw) : List Srs := rows.foldl put1 ss
/-- What a series is given. -/
def ofId (rows : List Rw) (id : Int) : List Smp := (rows.filter fun x => decide (x.2.1 = id)).map fun x => (x.1, x.2.2)
theorem ofId_cons (x : Rw) (rows : List Rw) (id : Int) : ofId (x :: rows) id = if x.2.1 = id then (x.1, x.2.2) :: ofId rows id else ofId rows id := by
  unfold ofId
  rw [List.filter_cons]
  by_cases h : x.2.1 = id
  · rw [if_pos h, if_pos (by simpa using h)]; rfl
  · rw [if_neg h, if_neg (by simpa using h)]
theorem ofId_snoc (x : Rw) (rows : List Rw) (id : Int) : ofId (rows ++ [x]) id = ofId rows id ++ if x.2.1 = id then [(x.1, x.2.2)] else [] := by
  unfold ofId
  rw [List.filter_append, List.map_append, List.filter_cons]
  by_cases h : x.2.1 = id
  · rw [if_pos h, if_pos (by simpa using h)]; rfl
  · rw [if_neg h, if_neg (by simpa using h)]; rfl
theorem right_putR : ∀ {rows : List Rw} {ss : List Srs}, RightS ss → RightS (putR ss rows) ∧ ∀ id t, valS (putR ss rows) id t = (valL (ofId rows id).reverse t).or (valS ss id t)
  | [], ss, h => ⟨h, fun id t => rfl⟩
  | x :: rows, ss, h => by
    obtain ⟨r1, r2⟩ := right_put1 (x := x) h
    obtain ⟨q1, q2⟩ := right_putR (rows := rows) r1
    refine ⟨q1, fun id t => ?_⟩
    show valS (putR (put1 ss x) rows) id t = _
    rw [q2, r2, ofId_cons]
    by_cases h1 : x.2.1 = id
    · rw [if_pos h1, List.reverse_cons, valL_app, valL_cons, valL_nil]
      by_cases h2 : x.1 = t
      · rw [if_pos ⟨h1, h2⟩, if_pos h2]
        cases valL (ofId rows id).reverse t <;> rfl
      · rw [if_neg (fun h => h2 h.2), if_neg h2]
        cases valL (ofId rows id).reverse t <;> rfl
    · rw [if_neg h1, if_neg (fun h => h1 h.1)]
theorem putR_app (ss : List Srs) (a b : List Rw) : putR (putR ss a) b = putR ss (a ++ b) := by unfold putR; rw [List.foldl_append]
/-- The program's way comes to the same. -/
theorem put_eq {ss more : List Srs} {rows : List Rw} (hs : RightS ss) (hm : RightS more) (hk : ∀ id, (∃ s ∈ more, s.1 = id) ↔ ofId rows id ≠ [])
    (hv : ∀ s ∈ more, ∀ t, valL s.2 t = (valL (ofId rows s.1).reverse t).or (valS ss s.1 t)) : mrgC cfP ss more = putR ss rows := by
  obtain ⟨r1, r2⟩ := right_mrg hs hm
  obtain ⟨q1, q2⟩ := right_putR (rows := rows) hs
  refine right_eq r1 q1 fun id t => ?_
  rw [r2, q2]
  by_cases h : ∃ s ∈ more, s.1 = id
  · rw [if_pos h]
    obtain ⟨s, hsm, rfl⟩ := h
    rw [← hv s hsm t]
    have : ∀ {l : List Srs}, RightS l → s ∈ l → valS l s.1 t = valL s.2 t := by
      intro l
      induction l with
      | nil => intro _ h; cases h
      | cons y l ih =>
        intro hl h
        obtain ⟨a1, _, a4⟩ := RightS.cons.1 hl
        rw [valS_cons]
        rcases List.mem_cons.1 h with rfl | h
        · rw [if_pos rfl]
        · rw [if_neg (by have := a1 s h; omega)]; exact ih a4 h
    exact this hm hsm
  · rw [if_neg h]
    have : ofId rows id = [] := Classical.byContradiction fun h' => h ((hk id).2 h')
    rw [this]; rfl
end Go.Proofs
