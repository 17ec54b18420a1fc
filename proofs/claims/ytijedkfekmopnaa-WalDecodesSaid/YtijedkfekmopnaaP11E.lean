/- A part of a proof: see the last text of this claim. -/
import Derived.Test.YtijedkfekmopnaaP11D
set_option linter.unusedVariables false
set_option maxRecDepth 100000
open Go Go.GV
namespace Go.Proofs

theorem time_ok {n : Int} {H : Heap} {K : Bool → Heap → Prop} (hk : K (decide (0 ≤ n ∧ n ≤ 1099511627776)) H) : CallH Try.prog fn_ref11_time ⟨[.int .i64 n]⟩ H fun v H' => ∃ b, v = .bool b ∧ K b H' := by
  apply vc_ref11_time
  refine brB_of (fun h => ⟨_, rfl, ?_⟩) (fun h => ⟨_, rfl, ?_⟩)
  · have h0 : 0 ≤ n := by simpa using h
    rwa [show decide (0 ≤ n ∧ n ≤ 1099511627776) = decide (n ≤ 1099511627776) from decide_eq_decide.2 ⟨fun h => h.2, fun h => ⟨h0, h⟩⟩] at hk
  · have h0 : ¬ 0 ≤ n := by simpa using h
    rwa [decide_eq_false fun h => h0 h.1] at hk
theorem id_ok {n : Int} {H : Heap} {K : Bool → Heap → Prop} (hk : K (decide (0 ≤ n ∧ n ≤ 199)) H) : CallH Try.prog fn_ref11_id ⟨[.int .i64 n]⟩ H fun v H' => ∃ b, v = .bool b ∧ K b H' := by
  apply vc_ref11_id
  refine brB_of (fun h => ⟨_, rfl, ?_⟩) (fun h => ⟨_, rfl, ?_⟩)
  · have h0 : 0 ≤ n := by simpa using h
    rwa [show decide (0 ≤ n ∧ n ≤ 199) = decide (n < 200) from decide_eq_decide.2 ⟨fun h => by omega, fun h => by omega⟩] at hk
  · have h0 : ¬ 0 ≤ n := by simpa using h
    rwa [decide_eq_false fun h => h0 h.1] at hk
/-- What a record's numbers must be. -/
def GG (k : Int) (n1 n2 n3 : Nat) (t : Int) : Prop := (0 ≤ k ∧ k ≤ 3) ∧ (0 < n1 → k = 0) ∧ (0 < n2 → k = 1) ∧ (0 < n3 → k = 2) ∧ (t ≠ 0 → k = 3) ∧ (0 ≤ t ∧ t ≤ 1099511627776) ∧ n2 ≤ 5000 ∧ n3 ≤ 5000
instance (k : Int) (n1 n2 n3 : Nat) (t : Int) : Decidable (GG k n1 n2 n3 t) := by unfold GG; infer_instance
theorem gg_of {r : Rc} {m : Rm} {H : Heap} (h : RcH H m r) : FineP r ↔ GG m.1 m.2.1.2.1 m.2.2.1.2.1 m.2.2.2.1.2.1 m.2.2.2.2 ∧ (∀ x ∈ r.rows, RowP x) ∧ ∀ x ∈ r.tombs, TombP x := by
  have h1 := h.l.len
  have h2 := h.rows.len
  have h3 := h.tombs.len
  have e : ∀ {α : Type} {l : List α} {k : Nat}, k = l.length → (0 < k ↔ l ≠ []) := fun {α l k} e => by cases l <;> simp at e <;> simp [e]
  unfold GG
  rw [e h1, e h2, e h3, h.k, h.at', h2, h3]
  exact ⟨fun f => ⟨⟨f.k, f.l, f.rows, f.tombs, f.at0, f.at', f.nr, f.nt⟩, f.row, f.tomb⟩, fun ⟨⟨a, b, c, d, e, f, g, i⟩, j, k⟩ => ⟨a, b, c, d, e, f, g, i, j, k⟩⟩
theorem ldT0 {H : Heap} {ad : Addr} {x : Row} (h : CellsAt H ad (enc3.cells x)) : Ld Try.prog 3 H ad (.int .i64 x.1) := ld_cell (by kernel_rfl) (by have := h 0 _ rfl; simpa [Addr.add] using this)
theorem ldT1 {H : Heap} {ad : Addr} {x : Row} (h : CellsAt H ad (enc3.cells x)) : Ld Try.prog 3 H (ad.add 1) (.int .i64 x.2.1) := ld_part (by kernel_rfl) h (j := 1) rfl
theorem ldT2 {H : Heap} {ad : Addr} {x : Row} (h : CellsAt H ad (enc3.cells x)) : Ld Try.prog 3 H (ad.add 2) (.int .i64 x.2.2) := ld_part (by kernel_rfl) h (j := 2) rfl
set_option maxHeartbeats 4000000 in
theorem fine_ok {H : Heap} {m : Rm} {r : Rc} {K : Bool → Heap → Prop} (h : RcH H m r) (hs : Small m) (hyes : FineP r → ∀ H', Fr [] H H' → K true H') (hno : ¬ FineP r → ∀ H', Fr [] H H' → K false H') :
    CallH Try.prog fn_ref11_fine ⟨[.agg ⟨rC m⟩]⟩ H fun v H' => ∃ b, v = .bool b ∧ K b H' := by
  apply vc_ref11_fine
  intro b H1 hn1
  have hb : Blk H1 ⟨b, 0, none⟩ (rC m) := hn1.blk
  have hl2 := h.rows.len
  have hl3 := h.tombs.len
  have hgg := gg_of h
  obtain ⟨s1, s2, s3⟩ := hs
  have bad : ∀ {H' : Heap}, Fr [] H H' → ¬ FineP r → ∃ b, Value.bool false = .bool b ∧ K b H' := fun hf hn => ⟨_, rfl, hno hn _ hf⟩
  refine ⟨fun _ H' => H' = H1 ∧ GG m.1 m.2.1.2.1 m.2.2.1.2.1 m.2.2.2.1.2.1 m.2.2.2.2, ?_, ?_⟩
  · refine ⟨fun vs H' => vs = [.bool (!decide (GG m.1 m.2.1.2.1 m.2.2.1.2.1 m.2.2.2.1.2.1 m.2.2.2.2))] ∧ H' = H1, ?_, ?_⟩
    · have leaf : ∀ {x : Bool}, (x = !decide (GG m.1 m.2.1.2.1 m.2.2.1.2.1 m.2.2.2.1.2.1 m.2.2.2.2)) → ([Value.bool x] = [.bool (!decide (GG m.1 m.2.1.2.1 m.2.2.1.2.1 m.2.2.2.1.2.1 m.2.2.2.2))] ∧ H1 = H1) := fun e => ⟨by rw [e], rfl⟩
      have r0 := hb.r0
      have r1 := hb.r1
      have r2 := hb.r2
      have r3 := hb.r3
      have r4 := hb.r4
      clear hyes hno bad hgg h hl2 hl3 hn1 hb
      generalize m.1 = k at *
      generalize m.2.2.2.2 = t at *
      generalize m.2.1 = y1 at *
      generalize m.2.2.1 = y2 at *
      generalize m.2.2.2.1 = y3 at *
      obtain ⟨a1, n1, c1⟩ := y1
      obtain ⟨a2, n2, c2⟩ := y2
      obtain ⟨a3, n3, c3⟩ := y3
      dsimp only at *
      repeat' first
        | refine ⟨_, r0, ?_⟩
        | refine ⟨_, _, _, r1, ?_⟩
        | refine ⟨_, _, _, r2, ?_⟩
        | refine ⟨_, _, _, r3, ?_⟩
        | refine ⟨_, r4, ?_⟩
        | refine time_ok ?_
        | refine brB_of (fun hq => ?_) (fun hq => ?_)
        | exact leaf (by
            simp only [decide_eq_true_eq, decide_eq_false_iff_not, bne_iff_ne, ne_eq, bne_eq_false_iff_eq, Bool.not_eq_true', Bool.not_eq_false'] at *
            first
              | (rw [decide_eq_false (by unfold GG; omega)]; rfl)
              | (rw [← decide_not]; exact decide_eq_decide.2 (by unfold GG; omega)))
    · rintro J w H2 ⟨e, rfl⟩
      simp only [List.cons.injEq, Value.bool.injEq, and_true] at e
      subst e
      refine brB_of (fun h2 => bad hn1.fr fun hF => ?_) (fun h2 => ⟨rfl, ?_⟩)
      · have := (hgg.1 hF).1
        simp [this] at h2
      · simpa using h2
  rintro J H2 ⟨rfl, hG⟩
  have hf02 := hn1.fr
  refine ⟨fun vs H' => match vs with | [.int _ i] => ∃ k : Nat, i = k ∧ k ≤ m.2.2.1.2.1 ∧ (∀ x ∈ r.rows.take k, RowP x) ∧ H' = H2 | _ => False,
    fun vs _ => match vs with | [.int _ i] => m.2.2.1.2.1 - i.toNat | _ => 0, ⟨0, rfl, by omega, by simp, rfl⟩, ?_⟩
  rintro J i H5 ⟨k, rfl, hkn, hrow, rfl⟩
  refine ⟨_, _, _, hb.r2, brB_of (fun h0 => ?_) (fun h0 => ?_)⟩
  · have h0' : k < m.2.2.1.2.1 := by simpa using h0
    have hx1 : r.rows[k]? = some (r.rows[k]'(by omega)) := by simp
    generalize r.rows[k]'(by omega) = x at hx1
    refine ⟨_, _, _, hb.r2, (h.rows.keep hf02).get rfl hx1 (decide_eq_true (by omega)) fun ad ea hc => ⟨_, ldT0 hc, time_ok (brB_of (fun h2 => bad hf02 fun hF => ?_) (fun h2 => ⟨_, _, _, hb.r2, (h.rows.keep hf02).get rfl hx1 (decide_eq_true (by omega)) fun ad2 ea2 hc2 => ⟨_, ldT1 hc2, id_ok (brB_of (fun h3 => bad hf02 fun hF => ?_) (fun h3 => ?_))⟩⟩))⟩⟩
    · have := (hF.row x (List.mem_of_getElem? hx1)).1
      simp [this] at h2
    · have := (hF.row x (List.mem_of_getElem? hx1)).2
      simp [this] at h3
    · rw [succ64 (by omega)]
      refine ⟨⟨k + 1, rfl, by omega, fun y hy => ?_, rfl⟩, mu_lt h0'⟩
      rw [List.take_add_one, hx1] at hy
      rcases List.mem_append.1 hy with hy | hy
      · exact hrow y hy
      · simp at hy; subst hy
        exact ⟨of_decide_eq_true (by simpa using h2), of_decide_eq_true (by simpa using h3)⟩
  rw [List.take_of_length_le (by simp at h0; omega)] at hrow
  refine ⟨fun vs H' => match vs with | [.int _ i] => ∃ k : Nat, i = k ∧ k ≤ m.2.2.2.1.2.1 ∧ (∀ x ∈ r.tombs.take k, TombP x) ∧ Fr [] H5 H' | _ => False,
    fun vs _ => match vs with | [.int _ i] => m.2.2.2.1.2.1 - i.toNat | _ => 0, ⟨0, rfl, by omega, by simp, Fr.refl _ _⟩, ?_⟩
  rintro J i H6 ⟨k, rfl, hkn, htomb, hf6⟩
  have hf06 := hf02.keep0 hf6
  have hb6 := hb.keep hf6
  refine ⟨_, _, _, hb6.r3, brB_of (fun h0 => ?_) (fun h0 => ?_)⟩
  · have h0' : k < m.2.2.2.1.2.1 := by simpa using h0
    have hx1 : r.tombs[k]? = some (r.tombs[k]'(by omega)) := by simp
    generalize r.tombs[k]'(by omega) = x at hx1
    have hmem := List.mem_of_getElem? hx1
    refine ⟨fun _ H' => Fr [] H6 H' ∧ TombP x, ?_, ?_⟩
    · refine ⟨_, _, _, hb6.r3, (h.tombs.keep hf06).get rfl hx1 (decide_eq_true (by omega)) fun ad ea hc => ⟨_, _, _, ld62 hc, ?_⟩⟩
      refine var62 rfl fun bx H7 hbx hv hf7 => ⟨_, hv.i0, id_ok ?_⟩
      have hf07 := hf06.keep0 hf7
      refine brB_of (fun h2 => bad hf07 fun hF => ?_) (fun h2 => ⟨_, hv.i1, time_ok (brB_of (fun h3 => bad hf07 fun hF => ?_) (fun h3 => ⟨_, hv.i2, time_ok (brB_of (fun h4 => bad hf07 fun hF => ?_) (fun h4 => ⟨_, hv.i1, _, hv.i2, brB_of (fun h5 => bad hf07 fun hF => ?_) (fun h5 => ⟨hf7, ?_⟩)⟩))⟩))⟩)
      · have := (hF.tomb x hmem).1
        simp [this] at h2
      · have := (hF.tomb x hmem).2
        have h3 : ¬ (0 ≤ x.2.1 ∧ x.2.1 ≤ 1099511627776) := of_decide_eq_false (by simpa only [Bool.not_eq_true'] using h3)
        omega
      · have := (hF.tomb x hmem).2
        have h4 : ¬ (0 ≤ x.2.2 ∧ x.2.2 ≤ 1099511627776) := of_decide_eq_false (by simpa only [Bool.not_eq_true'] using h4)
        omega
      · have := (hF.tomb x hmem).2
        simp at h5; omega
      · have h2 := of_decide_eq_true (by simpa only [Bool.not_eq_false'] using h2)
        have h3 : 0 ≤ x.2.1 ∧ x.2.1 ≤ 1099511627776 := of_decide_eq_true (by simpa only [Bool.not_eq_false'] using h3)
        have h4 : 0 ≤ x.2.2 ∧ x.2.2 ≤ 1099511627776 := of_decide_eq_true (by simpa only [Bool.not_eq_false'] using h4)
        refine ⟨h2, h3.1, ?_, h4.2⟩
        simp at h5; omega
    · rintro J H7 ⟨hf7, hx⟩
      rw [succ64 (by omega)]
      refine ⟨⟨k + 1, rfl, by omega, fun y hy => ?_, hf6.keep0 hf7⟩, mu_lt h0'⟩
      rw [List.take_add_one, hx1] at hy
      rcases List.mem_append.1 hy with hy | hy
      · exact htomb y hy
      · simp at hy; subst hy; exact hx
  · rw [List.take_of_length_le (by simp at h0; omega)] at htomb
    exact ⟨_, rfl, hyes (hgg.2 ⟨hG, hrow, htomb⟩) _ hf06⟩
end Go.Proofs
