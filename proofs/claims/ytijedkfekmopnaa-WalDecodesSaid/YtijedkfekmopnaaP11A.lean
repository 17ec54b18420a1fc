/- A part of a proof: see the last text of this claim. -/
import Derived.Test.YtijedkfekmopnaaP11z
set_option linter.unusedVariables false
set_option maxRecDepth 100000
open Go Go.GV
namespace Go.Proofs

/-! records -/
abbrev Row := Int × Int × Int
def enc3 : Enc Row := ⟨fun x => [.int .i64 x.1, .int .i64 x.2.1, .int .i64 x.2.2], 3, fun _ => rfl, by decide, fun _ v h => by simp at h; rcases h with rfl | rfl | rfl <;> rfl⟩
abbrev Hd := Option Addr × Nat × Nat
structure Rc where
  k : Int
  l : Lbls
  rows : List Row
  tombs : List Row
  at' : Int
/-- A record's cells. -/
abbrev Rm := Int × Hd × Hd × Hd × Int
def rC (m : Rm) : List Value := [.int .i64 m.1, .slice m.2.1.1 m.2.1.2.1 m.2.1.2.2, .slice m.2.2.1.1 m.2.2.1.2.1 m.2.2.1.2.2, .slice m.2.2.2.1.1 m.2.2.2.1.2.1 m.2.2.2.1.2.2, .int .i64 m.2.2.2.2]
structure RcH (H : Heap) (m : Rm) (r : Rc) : Prop where
  k : m.1 = r.k
  l : Sl encL H m.2.1.1 m.2.1.2.1 m.2.1.2.2 r.l
  rows : Sl enc3 H m.2.2.1.1 m.2.2.1.2.1 m.2.2.1.2.2 r.rows
  tombs : Sl enc3 H m.2.2.2.1.1 m.2.2.2.1.2.1 m.2.2.2.1.2.2 r.tombs
  at' : m.2.2.2.2 = r.at'
theorem RcH.keep {H H' : Heap} {m : Rm} {r : Rc} (h : RcH H m r) (hf : Fr [] H H') : RcH H' m r := ⟨h.k, h.l.keep hf, h.rows.keep hf, h.tombs.keep hf, h.at'⟩
def RowP (x : Row) : Prop := (0 ≤ x.1 ∧ x.1 ≤ 1099511627776) ∧ 0 ≤ x.2.1 ∧ x.2.1 ≤ 199
def TombP (x : Row) : Prop := (0 ≤ x.1 ∧ x.1 ≤ 199) ∧ 0 ≤ x.2.1 ∧ x.2.1 < x.2.2 ∧ x.2.2 ≤ 1099511627776
instance (x : Row) : Decidable (RowP x) := inferInstanceAs (Decidable (_ ∧ _))
instance (x : Row) : Decidable (TombP x) := inferInstanceAs (Decidable (_ ∧ _))
/-- What a record must be, but for its labels. -/
structure FineP (r : Rc) : Prop where
  k : 0 ≤ r.k ∧ r.k ≤ 3
  l : r.l ≠ [] → r.k = 0
  rows : r.rows ≠ [] → r.k = 1
  tombs : r.tombs ≠ [] → r.k = 2
  at0 : r.at' ≠ 0 → r.k = 3
  at' : 0 ≤ r.at' ∧ r.at' ≤ 1099511627776
  nr : r.rows.length ≤ 5000
  nt : r.tombs.length ≤ 5000
  row : ∀ x ∈ r.rows, RowP x
  tomb : ∀ x ∈ r.tombs, TombP x
theorem within_ok {n most : Int} {H : Heap} {K : Bool → Heap → Prop} (hk : K (decide (0 ≤ n ∧ n ≤ most)) H) : CallH Try.prog fn_wal_within ⟨[.int .i64 n, .int .i64 most]⟩ H fun v H' => ∃ b, v = .bool b ∧ K b H' := by
  apply vc_wal_within
  refine brB_of (fun h => ⟨_, rfl, ?_⟩) (fun h => ⟨_, rfl, ?_⟩)
  · have h0 : 0 ≤ n := by simpa using h
    rwa [show decide (0 ≤ n ∧ n ≤ most) = decide (n ≤ most) from decide_eq_decide.2 ⟨fun h => h.2, fun h => ⟨h0, h⟩⟩] at hk
  · have h0 : ¬ 0 ≤ n := by simpa using h
    rwa [decide_eq_false fun h => h0 h.1] at hk
theorem _root_.Go.GV.Blk.r0 {H : Heap} {b : Nat} {m : Rm} (h : Blk H ⟨b, 0, none⟩ (rC m)) : Ld Try.prog 3 H ⟨b, 0, none⟩ (.int .i64 m.1) := h.ld0 (by kernel_rfl) rfl
theorem _root_.Go.GV.Blk.r1 {H : Heap} {b : Nat} {m : Rm} (h : Blk H ⟨b, 0, none⟩ (rC m)) : Ld Try.prog 22 H ⟨b, 1, none⟩ (.slice m.2.1.1 m.2.1.2.1 m.2.1.2.2) := h.ldK (j := 1) (by kernel_rfl) rfl
theorem _root_.Go.GV.Blk.r2 {H : Heap} {b : Nat} {m : Rm} (h : Blk H ⟨b, 0, none⟩ (rC m)) : Ld Try.prog 23 H ⟨b, 2, none⟩ (.slice m.2.2.1.1 m.2.2.1.2.1 m.2.2.1.2.2) := h.ldK (j := 2) (by kernel_rfl) rfl
theorem _root_.Go.GV.Blk.r3 {H : Heap} {b : Nat} {m : Rm} (h : Blk H ⟨b, 0, none⟩ (rC m)) : Ld Try.prog 24 H ⟨b, 3, none⟩ (.slice m.2.2.2.1.1 m.2.2.2.1.2.1 m.2.2.2.1.2.2) := h.ldK (j := 3) (by kernel_rfl) rfl
theorem _root_.Go.GV.Blk.r4 {H : Heap} {b : Nat} {m : Rm} (h : Blk H ⟨b, 0, none⟩ (rC m)) : Ld Try.prog 3 H ⟨b, 4, none⟩ (.int .i64 m.2.2.2.2) := h.ldK (j := 4) (by kernel_rfl) rfl
theorem _root_.Go.GV.Blk.i0 {H : Heap} {b : Nat} {x : Row} (h : Blk H ⟨b, 0, none⟩ (enc3.cells x)) : Ld Try.prog 3 H ⟨b, 0, none⟩ (.int .i64 x.1) := h.ld0 (by kernel_rfl) rfl
theorem _root_.Go.GV.Blk.i1 {H : Heap} {b : Nat} {x : Row} (h : Blk H ⟨b, 0, none⟩ (enc3.cells x)) : Ld Try.prog 3 H ⟨b, 1, none⟩ (.int .i64 x.2.1) := h.ldK (j := 1) (by kernel_rfl) rfl
theorem _root_.Go.GV.Blk.i2 {H : Heap} {b : Nat} {x : Row} (h : Blk H ⟨b, 0, none⟩ (enc3.cells x)) : Ld Try.prog 3 H ⟨b, 2, none⟩ (.int .i64 x.2.2) := h.ldK (j := 2) (by kernel_rfl) rfl
theorem ld58 {H : Heap} {ad : Addr} {x : Row} (h : CellsAt H ad (enc3.cells x)) : Ld Try.prog 58 H ad (.agg ⟨enc3.cells x⟩) := ld_agg (by kernel_rfl) (by kernel_rfl) h
theorem ld62 {H : Heap} {ad : Addr} {x : Row} (h : CellsAt H ad (enc3.cells x)) : Ld Try.prog 62 H ad (.agg ⟨enc3.cells x⟩) := ld_agg (by kernel_rfl) (by kernel_rfl) h
theorem var58 {H : Heap} {x : Row} {zs : List Value} {K : Nat → Heap → Prop} (hz : zs.length = 3)
    (k : ∀ b H', H.size ≤ b → Blk H' ⟨b, 0, none⟩ (enc3.cells x) → Fr [] H H' → K b H') :
    ∀ b H', New H b (.cells ⟨zs⟩ 58) H' → ∃ H'_1, St Try.prog 58 H' ⟨b, 0, none⟩ (.agg ⟨enc3.cells x⟩) H'_1 ∧ K b H'_1 :=
  var_blk (by kernel_rfl) (by kernel_rfl) (fun v h => by simp [Value.cells, enc3] at h; rcases h with rfl | rfl | rfl <;> rfl) hz k
theorem var62 {H : Heap} {x : Row} {zs : List Value} {K : Nat → Heap → Prop} (hz : zs.length = 3)
    (k : ∀ b H', H.size ≤ b → Blk H' ⟨b, 0, none⟩ (enc3.cells x) → Fr [] H H' → K b H') :
    ∀ b H', New H b (.cells ⟨zs⟩ 62) H' → ∃ H'_1, St Try.prog 62 H' ⟨b, 0, none⟩ (.agg ⟨enc3.cells x⟩) H'_1 ∧ K b H'_1 :=
  var_blk (by kernel_rfl) (by kernel_rfl) (fun v h => by simp [Value.cells, enc3] at h; rcases h with rfl | rfl | rfl <;> rfl) hz k

/-- The counts of a record may be so large. -/
def Small (m : Rm) : Prop := m.2.1.2.1 ≤ 1000000000 ∧ m.2.2.1.2.1 ≤ 1000000000 ∧ m.2.2.2.1.2.1 ≤ 1000000000
theorem check_ok {H : Heap} {m : Rm} {r : Rc} {K : Bool → Heap → Prop} (h : RcH H m r) (hs : Small m) (hyes : FineP r → ∀ H', Fr [] H H' → K true H') (hno : ¬ FineP r → ∀ H', Fr [] H H' → K false H') :
    CallH Try.prog fn_wal_check ⟨[.agg ⟨rC m⟩]⟩ H fun v H' => ∃ b, v = .bool b ∧ K b H' := by
  apply vc_wal_check
  intro b H1 hn1
  have hb : Blk H1 ⟨b, 0, none⟩ (rC m) := hn1.blk
  have h1 := h.keep hn1.fr
  refine ⟨_, _, _, hb.r1, _, _, _, hb.r2, _, _, _, hb.r3, _, hb.r4, ?_⟩
  have hl1 := h.l.len
  have hl2 := h.rows.len
  have hl3 := h.tombs.len
  obtain ⟨s1, s2, s3⟩ := hs
  have bad : ∀ {H' : Heap}, Fr [] H H' → ¬ FineP r → ∃ b, Value.bool false = .bool b ∧ K b H' := fun hf hn => ⟨_, rfl, hno hn _ hf⟩
  intro b1 H2 hn2
  have st : ∀ {vs : List Value} {zs : List Value} {X : Heap → Prop}, H2 = H2 → vs.length = 4 → (∀ v ∈ vs, ∃ x, v = .bool x) → (∀ H', Fr [] H1 H' → Blk H' ⟨b1, 0, none⟩ vs → X H') → ∃ H', St Try.prog 70 H2 ⟨b1, 0, none⟩ (.agg ⟨vs⟩) H' ∧ X H' := fun {vs zs X} _ hv hvb hX => by
    refine hn2.blk.st0 (v := .agg ⟨vs⟩) (by show szOf Try.prog 70 = vs.length; rw [hv]; kernel_rfl) (by kernel_rfl) (fun x hx => ?_) (by show vs.length ≤ 4; omega) fun H' hb' hf' => hX H' (hn2.fr.keep hf' (fun k hk => by simp at hk; have := hn2.eq; omega)) ?_
    · have hx : x ∈ vs := by simpa [Value.cells] using hx
      obtain ⟨y, rfl⟩ := hvb x hx; rfl
    · have e : ((Value.agg ⟨vs⟩).cells.toList ++ [Value.bool false, .bool false, .bool false, .bool false].drop (Value.agg ⟨vs⟩).cells.toList.length) = vs := by
        show vs ++ [Value.bool false, .bool false, .bool false, .bool false].drop vs.length = vs
        rw [hv]; simp
      rw [e] at hb'; exact hb'
  refine st (zs := []) rfl rfl (fun v hv => by simp only [List.mem_cons, List.not_mem_nil, or_false] at hv; rcases hv with rfl | rfl | rfl | rfl <;> exact ⟨_, rfl⟩) fun H3 hf3 hb3 => ?_
  have hf03 := hn1.fr.keep0 hf3
  have hb0 := hb.keep hf3
  refine ⟨_, _, _, _, hb3.ldA0 (by kernel_rfl) (by kernel_rfl) rfl, ?_⟩
  -- what a kind's own is stands at its place
  have own : ∀ n : Nat, n < 4 → ∃ w, Pt Try.prog 4 [.bool (decide ((m.2.1.2.1 : Int) > 0)), .bool (decide ((m.2.2.1.2.1 : Int) > 0)), .bool (decide ((m.2.2.2.1.2.1 : Int) > 0)), .bool (m.2.2.2.2 != 0)] (Int.toNat (n : Int) * 1) (.bool w) ∧
      (w = true ↔ (n = 0 ∧ r.l ≠ []) ∨ (n = 1 ∧ r.rows ≠ []) ∨ (n = 2 ∧ r.tombs ≠ []) ∨ (n = 3 ∧ r.at' ≠ 0)) := fun n hn => by
    have e1 : ∀ {α : Type} {l : List α} {k : Nat}, k = l.length → (decide ((k : Int) > 0) = true ↔ l ≠ []) := fun {α l k} e => by
      cases l <;> simp at e <;> simp [e]
    match n, hn with
    | 0, _ => exact ⟨decide ((m.2.1.2.1 : Int) > 0), by unfold Pt; kernel_rfl, by rw [e1 hl1]; simp⟩
    | 1, _ => exact ⟨decide ((m.2.2.1.2.1 : Int) > 0), by unfold Pt; kernel_rfl, by rw [e1 hl2]; simp⟩
    | 2, _ => exact ⟨decide ((m.2.2.2.1.2.1 : Int) > 0), by unfold Pt; kernel_rfl, by rw [e1 hl3]; simp⟩
    | 3, _ => exact ⟨m.2.2.2.2 != 0, by unfold Pt; kernel_rfl, by rw [h.at']; simp⟩
  refine ⟨fun vs H' => match vs with | [.int _ i] => ∃ k : Nat, i = k ∧ k ≤ 4 ∧ (0 < k → r.l ≠ [] → r.k = 0) ∧ (1 < k → r.rows ≠ [] → r.k = 1) ∧ (2 < k → r.tombs ≠ [] → r.k = 2) ∧ (3 < k → r.at' ≠ 0 → r.k = 3) ∧ H' = H3 | _ => False,
    fun vs _ => match vs with | [.int _ i] => 4 - i.toNat | _ => 0, ⟨0, rfl, by omega, by omega, by omega, by omega, by omega, rfl⟩, ?_⟩
  rintro J i H4 ⟨k, rfl, hk4, g1, g2, g3, g4, rfl⟩
  refine brB_of (fun h0 => ?_) (fun h0 => ?_)
  · have h0' : k < 4 := by simp at h0; omega
    refine chk_true (decide_eq_true (by omega)) ?_
    obtain ⟨w, hw, hwi⟩ := own k h0'
    refine ⟨w, hw, ?_⟩
    rw [succ64 (by omega)]
    refine brB_of (fun h2 => ⟨_, hb0.r0, ?_⟩) (fun h2 => ?_)
    · have h2 := hwi.1 h2
      rw [h.k]
      refine brB_of (fun h3 => bad hf03 fun hF => ?_) (fun h3 => ⟨⟨k + 1, rfl, by omega, ?_, ?_, ?_, ?_, rfl⟩, mu_lt h0'⟩)
      · have h3 : (k : Int) ≠ r.k := by simpa using h3
        rcases h2 with ⟨e, h2⟩ | ⟨e, h2⟩ | ⟨e, h2⟩ | ⟨e, h2⟩
        · exact h3 (by rw [hF.l h2, e]; rfl)
        · exact h3 (by rw [hF.rows h2, e]; rfl)
        · exact h3 (by rw [hF.tombs h2, e]; rfl)
        · exact h3 (by rw [hF.at0 h2, e]; rfl)
      all_goals
        have h3 : (k : Int) = r.k := by simpa using h3
        intro hk hne
      · by_cases e : 0 < k
        · exact g1 e hne
        · omega
      · by_cases e : 1 < k
        · exact g2 e hne
        · omega
      · by_cases e : 2 < k
        · exact g3 e hne
        · omega
      · by_cases e : 3 < k
        · exact g4 e hne
        · omega
    · have h2 : ¬ w = true := by simpa using h2
      rw [hwi] at h2
      refine ⟨⟨k + 1, rfl, by omega, fun hk hne => ?_, fun hk hne => ?_, fun hk hne => ?_, fun hk hne => ?_, rfl⟩, mu_lt h0'⟩
      · by_cases e : 0 < k
        · exact g1 e hne
        · exact absurd (.inl ⟨by omega, hne⟩) h2
      · by_cases e : 1 < k
        · exact g2 e hne
        · exact absurd (.inr (.inl ⟨by omega, hne⟩)) h2
      · by_cases e : 2 < k
        · exact g3 e hne
        · exact absurd (.inr (.inr (.inl ⟨by omega, hne⟩))) h2
      · by_cases e : 3 < k
        · exact g4 e hne
        · exact absurd (.inr (.inr (.inr ⟨by omega, hne⟩))) h2
  have hk4' : k = 4 := by simp at h0; omega
  subst hk4'
  -- the rows
  refine ⟨_, _, _, hb0.r2, ?_⟩
  refine ⟨fun vs H' => match vs with | [.int _ i] => ∃ k : Nat, i = k ∧ k ≤ m.2.2.1.2.1 ∧ (∀ x ∈ r.rows.take k, RowP x) ∧ Fr [] H4 H' | _ => False,
    fun vs _ => match vs with | [.int _ i] => m.2.2.1.2.1 - i.toNat | _ => 0, ⟨0, rfl, by omega, by simp, Fr.refl _ _⟩, ?_⟩
  rintro J i H5 ⟨k, rfl, hkn, hrow, hf5⟩
  refine brB_of (fun h0 => ?_) (fun h0 => ?_)
  · have h0' : k < m.2.2.1.2.1 := by simpa using h0
    have hx1 : r.rows[k]? = some (r.rows[k]'(by omega)) := by simp
    generalize r.rows[k]'(by omega) = x at hx1
    refine ((h.rows.keep hf03).keep hf5).get rfl hx1 (decide_eq_true (by omega)) fun ad ea hc => ⟨_, _, _, ld58 hc, ?_⟩
    refine var58 rfl fun bx H6 hbx hv hf6 => ⟨_, hv.i0, within_ok ?_⟩
    have hf06 := (hf03.keep0 hf5).keep0 hf6
    refine brB_of (fun h2 => bad hf06 fun hF => ?_) (fun h2 => ⟨_, hv.i1, within_ok (brB_of (fun h3 => bad hf06 fun hF => ?_) (fun h3 => ?_))⟩)
    · have := (hF.row x (List.mem_of_getElem? hx1)).1
      simp [this] at h2
    · have := (hF.row x (List.mem_of_getElem? hx1)).2
      simp [this] at h3
    · rw [succ64 (by omega)]
      refine ⟨⟨k + 1, rfl, by omega, fun y hy => ?_, hf5.keep0 hf6⟩, mu_lt h0'⟩
      rw [List.take_add_one, hx1] at hy
      rcases List.mem_append.1 hy with hy | hy
      · exact hrow y hy
      · simp at hy; subst hy
        exact ⟨of_decide_eq_true (by simpa using h2), of_decide_eq_true (by simpa using h3)⟩
  rw [List.take_of_length_le (by simp at h0; omega)] at hrow
  have hf05 := hf03.keep0 hf5
  have hb5 := hb0.keep hf5
  -- the tombs
  refine ⟨_, _, _, hb5.r3, ?_⟩
  refine ⟨fun vs H' => match vs with | [.int _ i] => ∃ k : Nat, i = k ∧ k ≤ m.2.2.2.1.2.1 ∧ (∀ x ∈ r.tombs.take k, TombP x) ∧ Fr [] H5 H' | _ => False,
    fun vs _ => match vs with | [.int _ i] => m.2.2.2.1.2.1 - i.toNat | _ => 0, ⟨0, rfl, by omega, by simp, Fr.refl _ _⟩, ?_⟩
  rintro J i H6 ⟨k, rfl, hkn, htomb, hf6⟩
  have hf06 := hf05.keep0 hf6
  refine brB_of (fun h0 => ?_) (fun h0 => ?_)
  · have h0' : k < m.2.2.2.1.2.1 := by simpa using h0
    have hx1 : r.tombs[k]? = some (r.tombs[k]'(by omega)) := by simp
    generalize r.tombs[k]'(by omega) = x at hx1
    have hmem := List.mem_of_getElem? hx1
    refine ⟨fun _ H' => Fr [] H6 H' ∧ TombP x, ?_, ?_⟩
    · refine (h.tombs.keep hf06).get rfl hx1 (decide_eq_true (by omega)) fun ad ea hc => ⟨_, _, _, ld62 hc, ?_⟩
      refine var62 rfl fun bx H7 hbx hv hf7 => ⟨_, hv.i0, within_ok ?_⟩
      have hf07 := hf06.keep0 hf7
      refine brB_of (fun h2 => bad hf07 fun hF => ?_) (fun h2 => ⟨_, hv.i1, brB_of (fun h3 => bad hf07 fun hF => ?_) (fun h3 => ⟨_, hv.i2, _, hv.i1, brB_of (fun h4 => bad hf07 fun hF => ?_) (fun h4 => ⟨_, hv.i2, brB_of (fun h5 => bad hf07 fun hF => ?_) (fun h5 => ⟨hf7, ?_⟩)⟩)⟩)⟩)
      · have := (hF.tomb x hmem).1
        simp [this] at h2
      · have := (hF.tomb x hmem).2.1
        simp at h3; omega
      · have := (hF.tomb x hmem).2.2.1
        simp at h4; omega
      · have := (hF.tomb x hmem).2.2.2
        simp at h5; omega
      · refine ⟨of_decide_eq_true (by simpa using h2), ?_, ?_, ?_⟩
        · simp at h3; omega
        · simp at h4; omega
        · simp at h5; omega
    · rintro J H7 ⟨hf7, hx⟩
      rw [succ64 (by omega)]
      refine ⟨⟨k + 1, rfl, by omega, fun y hy => ?_, hf6.keep0 hf7⟩, mu_lt h0'⟩
      rw [List.take_add_one, hx1] at hy
      rcases List.mem_append.1 hy with hy | hy
      · exact htomb y hy
      · simp at hy; subst hy; exact hx
  rw [List.take_of_length_le (by simp at h0; omega)] at htomb
  have hb6 := hb5.keep hf6
  refine ⟨_, hb6.r0, within_ok (brB_of (fun h2 => ⟨_, hb6.r4, within_ok (brB_of (fun h3 => ⟨_, _, _, hb6.r2, brB_of (fun h4 => ⟨_, _, _, hb6.r3, ?_⟩) (fun h4 => bad hf06 fun hF => ?_)⟩) (fun h3 => bad hf06 fun hF => ?_))⟩) (fun h2 => bad hf06 fun hF => ?_))⟩
  · have h2 := of_decide_eq_true h2
    have h3 := of_decide_eq_true h3
    have h4 : m.2.2.1.2.1 ≤ 5000 := by simp at h4; omega
    rw [h.k] at h2
    rw [h.at'] at h3
    by_cases h5 : m.2.2.2.1.2.1 ≤ 5000
    · rw [decide_eq_true (by omega)]
      exact ⟨_, rfl, hyes ⟨h2, g1 (by omega), g2 (by omega), g3 (by omega), g4 (by omega), h3, by omega, by omega, hrow, htomb⟩ _ hf06⟩
    · rw [decide_eq_false (by omega)]
      exact ⟨_, rfl, hno (fun hF => by have := hF.nt; omega) _ hf06⟩
  · have := hF.nr
    simp at h4; omega
  · have := hF.at'
    rw [h.at'] at h3
    exact absurd this (of_decide_eq_false h3)
  · have := hF.k
    rw [h.k] at h2
    exact absurd this (of_decide_eq_false h2)
end Go.Proofs
