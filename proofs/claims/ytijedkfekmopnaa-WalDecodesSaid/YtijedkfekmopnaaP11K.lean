/- A part of a proof: see the last text of this claim. -/
import Derived.Test.YtijedkfekmopnaaP11J
set_option linter.unusedVariables false
set_option maxRecDepth 100000
open Go Go.GV
namespace Go.Proofs

theorem st26 {H : Heap} {b : Nat} {m m' : Rm} {X : Heap → Prop} (h : Blk H ⟨b, 0, none⟩ (rC m')) (k : ∀ H', Blk H' ⟨b, 0, none⟩ (rC m) → Fr [b] H H' → X H') : ∃ H', St Try.prog 26 H ⟨b, 0, none⟩ (.agg ⟨rC m⟩) H' ∧ X H' :=
  h.st0 (v := .agg ⟨rC m⟩) (by kernel_rfl) (by kernel_rfl) (fun x hx => by simp [Value.cells, rC] at hx; rcases hx with rfl | rfl | rfl | rfl | rfl <;> rfl) (by simp [Value.cells, rC]) fun H' hb hf => k H' (by simpa [Value.cells, rC] using hb) hf
theorem RcH.gone {H H' : Heap} {m : Rm} {r : Rc} {b : Nat} (h : RcH H m r) (hf : Fr [b] H H') (hn : NotIn m b) : RcH H' m r :=
  ⟨h.k, h.l.fr hf (fun ad e => by simp; exact hn.1 ad e), h.rows.fr hf (fun ad e => by simp; exact hn.2.1 ad e), h.tombs.fr hf (fun ad e => by simp; exact hn.2.2 ad e), h.at'⟩
theorem Took.all {H : Heap} {m : Rm} {s : ByteArray} {p q : Nat} {k : Int} {r : Rc} {ok' ok'' : Bool} (hrd : RdG s 0 true uL (fun v => 0 ≤ v ∧ v ≤ (3 : Nat)) k p true) (h : Took H m s p k r q ok'') : RdG s 0 true encR GoodR r q ok'' := by
  refine ⟨h.rd.1, fun ho => ?_, fun _ y t hy e => ?_⟩
  · obtain ⟨_, h1⟩ := h.rd.2.1 ho
    obtain ⟨_, h2⟩ := hrd.2.1 rfl
    refine ⟨rfl, ?_⟩
    rw [h2, h1, ← List.append_assoc]
    unfold encR
    rw [h.kind]
  · unfold encR at e
    rw [List.append_assoc] at e
    obtain ⟨_, h1, h2⟩ := hrd.2.2 rfl y.k _ ⟨hy.fine.k.1, by have := hy.fine.k.2; omega⟩ e
    exact h.rd.2.2 rfl y t ⟨hy, h1⟩ h2.symm
theorem Decode_ok {H : Heap} {s : ByteArray} {K : Int → Option Addr → Nat → Nat → Option Addr → Nat → Nat → Option Addr → Nat → Nat → Int → Int → Heap → Prop} (hs : s.size ≤ 1000000000)
    (hno : (∀ r, GoodR r → bl s ≠ encR r) → ∀ H', Fr [] H H' → K 0 none 0 0 none 0 0 none 0 0 0 11 H')
    (hyes : ∀ r (m : Rm) H', GoodR r → bl s = encR r → RcH H' m r → Small m → Fr [] H H' → K m.1 m.2.1.1 m.2.1.2.1 m.2.1.2.2 m.2.2.1.1 m.2.2.1.2.1 m.2.2.1.2.2 m.2.2.2.1.1 m.2.2.2.1.2.1 m.2.2.2.1.2.2 m.2.2.2.2 0 H') :
    CallH Try.prog fn_wal_Decode ⟨[.string s]⟩ H fun v H' => ∃ n a n_1 c a_1 n_2 c_1 a_2 n_3 c_2 n_4 n_5, v = .tuple ⟨[.agg ⟨[.int .i64 n, .slice a n_1 c, .slice a_1 n_2 c_1, .slice a_2 n_3 c_2, .int .i64 n_4]⟩, .int .i64 n_5]⟩ ∧ K n a n_1 c a_1 n_2 c_1 a_2 n_3 c_2 n_4 n_5 H' := by
  apply vc_wal_Decode
  intro b H1 hn1 b1 H2 hn2
  have e1 := hn1.eq
  have s1 := hn1.size
  have e2 := hn2.eq
  have s2 := hn2.size
  have hb2 : Blk H2 ⟨b, 0, none⟩ (rC (m0 0)) := hn1.blk.keep hn2.fr
  have hx2 : Blk H2 ⟨b1, 0, none⟩ (rdC s 0 true) := hn2.blk
  refine number_ok (most := 3) hx2 (by omega) (Nat.zero_le _) (by omega) fun H3 n p ok' hx3 hnum hf3 => ?_
  obtain ⟨hrd, hv⟩ := hnum.rd (Nat.zero_le _)
  intro b2 H4 hn4
  have e4 := hn4.eq
  have s4 := hn4.size
  have hb4 := (hb2.fr hf3 (by simp; omega)).keep hn4.fr
  have hx4 := hx3.keep hn4.fr
  have s3 := hf3.size
  have hf04 : Fr [] H H4 := ((hn1.fr.keep0 hn2.fr).keep hf3 (fun k hk => by simp at hk; omega)).keep0 hn4.fr
  refine st26 (m := m0 n) (m' := m0 0) hn4.blk fun H5 hr5 hf5 => ?_
  have hb5 := hb4.fr hf5 (by simp; omega)
  have hx5 := hx4.fr hf5 (by simp; omega)
  have hf05 : Fr [] H H5 := hf04.keep hf5 (fun k hk => by simp at hk; omega)
  have hf05s := hf05.size
  refine ⟨_, hx5.ld (by kernel_rfl) (j := 2) rfl, brB_of (fun h => ?_) (fun h => ?_)⟩
  · subst h
    refine ⟨_, hr5.r0, forms_ok fun H6 hf6 => ⟨(hr5.keep hf6).r0, chk_true (decide_eq_true (show 0 ≤ n ∧ n < ((4 : Nat) : Int) from ⟨hv.1, by have := hv.2; omega⟩)) ?_⟩⟩
    have hr6 := hr5.keep hf6
    have hx6 := hx5.keep hf6
    have hb6 := hb5.keep hf6
    have hf06 := hf05.keep0 hf6
    rcases (by omega : n = 0 ∨ n = 1 ∨ n = 2 ∨ n = 3) with e | e | e | e <;> subst e
    · refine ⟨.func (.func 25) ⟨[]⟩ ⟨[]⟩, .func (.func 28) ⟨[]⟩ ⟨[]⟩, by unfold Pt; kernel_rfl, 28, ⟨[]⟩, ⟨[]⟩, rfl, by kernel_rfl, ?_⟩
      refine forms2_ok hr6 hx6 (by omega) (by omega) hrd.1 fun H7 m r q ok hr hx htk hdj hf7 => ?_
      have hf : Fr [] H H7 := hf06.keep hf7 (fun k hk => by simp at hk; omega)
      have hb := hb6.fr hf7 (by simp; omega)
      have hdj := hdj b hb6.lt
      have hRc := htk.h
      have hsm := htk.small
      have htyp := htk.typ
      have hfin := htk.all (ok' := true) hrd
      have hchk : ok = true → r.k = 0 → ChkP r.l := fun ho hk => htk.chk ho (htk.kind.symm.trans hk)
      refine ⟨fun _ H' => GoodR r ∧ bl s = encR r ∧ Blk H' ⟨b2, 0, none⟩ (rC m) ∧ RcH H' m r ∧ Blk H' ⟨b, 0, none⟩ (rC (m0 0)) ∧ Fr [] H H', ?_, ?_⟩
      · refine ⟨fun vs H' => Fr [] H H' ∧ Blk H' ⟨b, 0, none⟩ (rC (m0 0)) ∧ ∃ w : Bool, vs = [.bool w] ∧ (w = true → ∀ y, GoodR y → bl s ≠ encR y) ∧ (w = false → GoodR r ∧ bl s = encR r ∧ Blk H' ⟨b2, 0, none⟩ (rC m) ∧ RcH H' m r), ?_, ?_⟩
        · refine ⟨_, hx.ld (by kernel_rfl) (j := 2) rfl, brB_of (fun h => ⟨hf, hb, true, rfl, fun _ y hy e => ?_, (fun h => by cases h)⟩) (fun h => ⟨_, hx.ld (by kernel_rfl) (j := 1) rfl, brB_of (fun h2 => ⟨hf, hb, true, rfl, fun _ y hy e => ?_, (fun h => by cases h)⟩) (fun h2 => ?_)⟩)⟩
          · obtain ⟨h1, _⟩ := hfin.2.2 rfl y [] hy (by simpa using e)
            rw [h1] at h; cases h
          · obtain ⟨_, _, h1⟩ := hfin.2.2 rfl y [] hy (by simpa using e)
            have := congrArg List.length h1
            rw [List.length_drop, bl_len] at this
            have hp := hfin.1
            simp at h2 this; omega
          · have hok : ok = true := by simpa using h
            have hps : q = s.size := by simp at h2; omega
            refine ⟨_, _, _, _, _, _, _, _, _, _, _, hr.ldA0 (by kernel_rfl) (by kernel_rfl) rfl, ?_⟩
            refine check_ok hRc hsm (fun hF H9 hf9 => ?_) (fun hF H9 hf9 => ?_)
            · refine ⟨hf.keep0 hf9, hb.keep hf9, false, rfl, (fun h => by cases h), fun _ => ⟨⟨hF, htyp, hchk hok⟩, ?_, hr.keep hf9, hRc.keep hf9⟩⟩
              have := (hfin.2.1 hok).2
              have e9 : (bl s).drop q = [] := List.drop_of_length_le (by rw [bl_len]; omega)
              rw [e9, List.drop_zero, List.append_nil] at this
              exact this
            · refine ⟨hf.keep0 hf9, hb.keep hf9, true, rfl, fun _ y hy e => ?_, (fun h => by cases h)⟩
              obtain ⟨_, h1, _⟩ := hfin.2.2 rfl y [] hy (by simpa using e)
              exact hF (h1 ▸ hy.fine)
        · rintro J w H9 ⟨hf9, hb9, w', ew, hw1, hw2⟩
          simp only [List.cons.injEq, Value.bool.injEq, and_true] at ew
          subst ew
          refine brB_of (fun hw => ?_) (fun hw => ⟨(hw2 hw).1, (hw2 hw).2.1, (hw2 hw).2.2.1, (hw2 hw).2.2.2, hb9, hf9⟩)
          refine st26 (m := m0 0) hb9 fun H10 hb10 hf10 => ⟨_, _, _, _, _, _, _, _, _, _, _, hb10.ldA0 (by kernel_rfl) (by kernel_rfl) rfl, _, _, _, _, _, _, _, _, _, _, _, _, rfl, ?_⟩
          exact hno (hw1 hw) H10 (hf9.keep hf10 (fun k hk => by simp at hk; omega))
      · rintro J H9 ⟨hG, he, hr9, hRc9, hb9, hf9⟩
        refine ⟨_, _, _, _, _, _, _, _, _, _, _, hr9.ldA0 (by kernel_rfl) (by kernel_rfl) rfl, ?_⟩
        refine st26 (m := m) hb9 fun H10 hb10 hf10 => ⟨_, _, _, _, _, _, _, _, _, _, _, hb10.ldA0 (by kernel_rfl) (by kernel_rfl) rfl, _, _, _, _, _, _, _, _, _, _, _, _, rfl, ?_⟩
        refine hyes r m H10 hG he (hRc9.gone hf10 ?_) hsm (hf9.keep hf10 (fun k hk => by simp at hk; omega))
        exact hdj
    · refine ⟨.func (.func 31) ⟨[]⟩ ⟨[]⟩, .func (.func 33) ⟨[]⟩ ⟨[]⟩, by unfold Pt; kernel_rfl, 33, ⟨[]⟩, ⟨[]⟩, rfl, by kernel_rfl, ?_⟩
      refine forms4_ok hr6 hx6 (by omega) (by omega) hrd.1 fun H7 m r q ok hr hx htk hdj hf7 => ?_
      have hf : Fr [] H H7 := hf06.keep hf7 (fun k hk => by simp at hk; omega)
      have hb := hb6.fr hf7 (by simp; omega)
      have hdj := hdj b hb6.lt
      have hRc := htk.h
      have hsm := htk.small
      have htyp := htk.typ
      have hfin := htk.all (ok' := true) hrd
      have hchk : ok = true → r.k = 0 → ChkP r.l := fun ho hk => htk.chk ho (htk.kind.symm.trans hk)
      refine ⟨fun _ H' => GoodR r ∧ bl s = encR r ∧ Blk H' ⟨b2, 0, none⟩ (rC m) ∧ RcH H' m r ∧ Blk H' ⟨b, 0, none⟩ (rC (m0 0)) ∧ Fr [] H H', ?_, ?_⟩
      · refine ⟨fun vs H' => Fr [] H H' ∧ Blk H' ⟨b, 0, none⟩ (rC (m0 0)) ∧ ∃ w : Bool, vs = [.bool w] ∧ (w = true → ∀ y, GoodR y → bl s ≠ encR y) ∧ (w = false → GoodR r ∧ bl s = encR r ∧ Blk H' ⟨b2, 0, none⟩ (rC m) ∧ RcH H' m r), ?_, ?_⟩
        · refine ⟨_, hx.ld (by kernel_rfl) (j := 2) rfl, brB_of (fun h => ⟨hf, hb, true, rfl, fun _ y hy e => ?_, (fun h => by cases h)⟩) (fun h => ⟨_, hx.ld (by kernel_rfl) (j := 1) rfl, brB_of (fun h2 => ⟨hf, hb, true, rfl, fun _ y hy e => ?_, (fun h => by cases h)⟩) (fun h2 => ?_)⟩)⟩
          · obtain ⟨h1, _⟩ := hfin.2.2 rfl y [] hy (by simpa using e)
            rw [h1] at h; cases h
          · obtain ⟨_, _, h1⟩ := hfin.2.2 rfl y [] hy (by simpa using e)
            have := congrArg List.length h1
            rw [List.length_drop, bl_len] at this
            have hp := hfin.1
            simp at h2 this; omega
          · have hok : ok = true := by simpa using h
            have hps : q = s.size := by simp at h2; omega
            refine ⟨_, _, _, _, _, _, _, _, _, _, _, hr.ldA0 (by kernel_rfl) (by kernel_rfl) rfl, ?_⟩
            refine check_ok hRc hsm (fun hF H9 hf9 => ?_) (fun hF H9 hf9 => ?_)
            · refine ⟨hf.keep0 hf9, hb.keep hf9, false, rfl, (fun h => by cases h), fun _ => ⟨⟨hF, htyp, hchk hok⟩, ?_, hr.keep hf9, hRc.keep hf9⟩⟩
              have := (hfin.2.1 hok).2
              have e9 : (bl s).drop q = [] := List.drop_of_length_le (by rw [bl_len]; omega)
              rw [e9, List.drop_zero, List.append_nil] at this
              exact this
            · refine ⟨hf.keep0 hf9, hb.keep hf9, true, rfl, fun _ y hy e => ?_, (fun h => by cases h)⟩
              obtain ⟨_, h1, _⟩ := hfin.2.2 rfl y [] hy (by simpa using e)
              exact hF (h1 ▸ hy.fine)
        · rintro J w H9 ⟨hf9, hb9, w', ew, hw1, hw2⟩
          simp only [List.cons.injEq, Value.bool.injEq, and_true] at ew
          subst ew
          refine brB_of (fun hw => ?_) (fun hw => ⟨(hw2 hw).1, (hw2 hw).2.1, (hw2 hw).2.2.1, (hw2 hw).2.2.2, hb9, hf9⟩)
          refine st26 (m := m0 0) hb9 fun H10 hb10 hf10 => ⟨_, _, _, _, _, _, _, _, _, _, _, hb10.ldA0 (by kernel_rfl) (by kernel_rfl) rfl, _, _, _, _, _, _, _, _, _, _, _, _, rfl, ?_⟩
          exact hno (hw1 hw) H10 (hf9.keep hf10 (fun k hk => by simp at hk; omega))
      · rintro J H9 ⟨hG, he, hr9, hRc9, hb9, hf9⟩
        refine ⟨_, _, _, _, _, _, _, _, _, _, _, hr9.ldA0 (by kernel_rfl) (by kernel_rfl) rfl, ?_⟩
        refine st26 (m := m) hb9 fun H10 hb10 hf10 => ⟨_, _, _, _, _, _, _, _, _, _, _, hb10.ldA0 (by kernel_rfl) (by kernel_rfl) rfl, _, _, _, _, _, _, _, _, _, _, _, _, rfl, ?_⟩
        refine hyes r m H10 hG he (hRc9.gone hf10 ?_) hsm (hf9.keep hf10 (fun k hk => by simp at hk; omega))
        exact hdj
    · refine ⟨.func (.func 35) ⟨[]⟩ ⟨[]⟩, .func (.func 36) ⟨[]⟩ ⟨[]⟩, by unfold Pt; kernel_rfl, 36, ⟨[]⟩, ⟨[]⟩, rfl, by kernel_rfl, ?_⟩
      refine forms6_ok hr6 hx6 (by omega) (by omega) hrd.1 fun H7 m r q ok hr hx htk hdj hf7 => ?_
      have hf : Fr [] H H7 := hf06.keep hf7 (fun k hk => by simp at hk; omega)
      have hb := hb6.fr hf7 (by simp; omega)
      have hdj := hdj b hb6.lt
      have hRc := htk.h
      have hsm := htk.small
      have htyp := htk.typ
      have hfin := htk.all (ok' := true) hrd
      have hchk : ok = true → r.k = 0 → ChkP r.l := fun ho hk => htk.chk ho (htk.kind.symm.trans hk)
      refine ⟨fun _ H' => GoodR r ∧ bl s = encR r ∧ Blk H' ⟨b2, 0, none⟩ (rC m) ∧ RcH H' m r ∧ Blk H' ⟨b, 0, none⟩ (rC (m0 0)) ∧ Fr [] H H', ?_, ?_⟩
      · refine ⟨fun vs H' => Fr [] H H' ∧ Blk H' ⟨b, 0, none⟩ (rC (m0 0)) ∧ ∃ w : Bool, vs = [.bool w] ∧ (w = true → ∀ y, GoodR y → bl s ≠ encR y) ∧ (w = false → GoodR r ∧ bl s = encR r ∧ Blk H' ⟨b2, 0, none⟩ (rC m) ∧ RcH H' m r), ?_, ?_⟩
        · refine ⟨_, hx.ld (by kernel_rfl) (j := 2) rfl, brB_of (fun h => ⟨hf, hb, true, rfl, fun _ y hy e => ?_, (fun h => by cases h)⟩) (fun h => ⟨_, hx.ld (by kernel_rfl) (j := 1) rfl, brB_of (fun h2 => ⟨hf, hb, true, rfl, fun _ y hy e => ?_, (fun h => by cases h)⟩) (fun h2 => ?_)⟩)⟩
          · obtain ⟨h1, _⟩ := hfin.2.2 rfl y [] hy (by simpa using e)
            rw [h1] at h; cases h
          · obtain ⟨_, _, h1⟩ := hfin.2.2 rfl y [] hy (by simpa using e)
            have := congrArg List.length h1
            rw [List.length_drop, bl_len] at this
            have hp := hfin.1
            simp at h2 this; omega
          · have hok : ok = true := by simpa using h
            have hps : q = s.size := by simp at h2; omega
            refine ⟨_, _, _, _, _, _, _, _, _, _, _, hr.ldA0 (by kernel_rfl) (by kernel_rfl) rfl, ?_⟩
            refine check_ok hRc hsm (fun hF H9 hf9 => ?_) (fun hF H9 hf9 => ?_)
            · refine ⟨hf.keep0 hf9, hb.keep hf9, false, rfl, (fun h => by cases h), fun _ => ⟨⟨hF, htyp, hchk hok⟩, ?_, hr.keep hf9, hRc.keep hf9⟩⟩
              have := (hfin.2.1 hok).2
              have e9 : (bl s).drop q = [] := List.drop_of_length_le (by rw [bl_len]; omega)
              rw [e9, List.drop_zero, List.append_nil] at this
              exact this
            · refine ⟨hf.keep0 hf9, hb.keep hf9, true, rfl, fun _ y hy e => ?_, (fun h => by cases h)⟩
              obtain ⟨_, h1, _⟩ := hfin.2.2 rfl y [] hy (by simpa using e)
              exact hF (h1 ▸ hy.fine)
        · rintro J w H9 ⟨hf9, hb9, w', ew, hw1, hw2⟩
          simp only [List.cons.injEq, Value.bool.injEq, and_true] at ew
          subst ew
          refine brB_of (fun hw => ?_) (fun hw => ⟨(hw2 hw).1, (hw2 hw).2.1, (hw2 hw).2.2.1, (hw2 hw).2.2.2, hb9, hf9⟩)
          refine st26 (m := m0 0) hb9 fun H10 hb10 hf10 => ⟨_, _, _, _, _, _, _, _, _, _, _, hb10.ldA0 (by kernel_rfl) (by kernel_rfl) rfl, _, _, _, _, _, _, _, _, _, _, _, _, rfl, ?_⟩
          exact hno (hw1 hw) H10 (hf9.keep hf10 (fun k hk => by simp at hk; omega))
      · rintro J H9 ⟨hG, he, hr9, hRc9, hb9, hf9⟩
        refine ⟨_, _, _, _, _, _, _, _, _, _, _, hr9.ldA0 (by kernel_rfl) (by kernel_rfl) rfl, ?_⟩
        refine st26 (m := m) hb9 fun H10 hb10 hf10 => ⟨_, _, _, _, _, _, _, _, _, _, _, hb10.ldA0 (by kernel_rfl) (by kernel_rfl) rfl, _, _, _, _, _, _, _, _, _, _, _, _, rfl, ?_⟩
        refine hyes r m H10 hG he (hRc9.gone hf10 ?_) hsm (hf9.keep hf10 (fun k hk => by simp at hk; omega))
        exact hdj
    · refine ⟨.func (.func 37) ⟨[]⟩ ⟨[]⟩, .func (.func 38) ⟨[]⟩ ⟨[]⟩, by unfold Pt; kernel_rfl, 38, ⟨[]⟩, ⟨[]⟩, rfl, by kernel_rfl, ?_⟩
      refine forms8_ok hr6 hx6 (by omega) (by omega) hrd.1 fun H7 m r q ok hr hx htk hdj hf7 => ?_
      have hf : Fr [] H H7 := hf06.keep hf7 (fun k hk => by simp at hk; omega)
      have hb := hb6.fr hf7 (by simp; omega)
      have hdj := hdj b hb6.lt
      have hRc := htk.h
      have hsm := htk.small
      have htyp := htk.typ
      have hfin := htk.all (ok' := true) hrd
      have hchk : ok = true → r.k = 0 → ChkP r.l := fun ho hk => htk.chk ho (htk.kind.symm.trans hk)
      refine ⟨fun _ H' => GoodR r ∧ bl s = encR r ∧ Blk H' ⟨b2, 0, none⟩ (rC m) ∧ RcH H' m r ∧ Blk H' ⟨b, 0, none⟩ (rC (m0 0)) ∧ Fr [] H H', ?_, ?_⟩
      · refine ⟨fun vs H' => Fr [] H H' ∧ Blk H' ⟨b, 0, none⟩ (rC (m0 0)) ∧ ∃ w : Bool, vs = [.bool w] ∧ (w = true → ∀ y, GoodR y → bl s ≠ encR y) ∧ (w = false → GoodR r ∧ bl s = encR r ∧ Blk H' ⟨b2, 0, none⟩ (rC m) ∧ RcH H' m r), ?_, ?_⟩
        · refine ⟨_, hx.ld (by kernel_rfl) (j := 2) rfl, brB_of (fun h => ⟨hf, hb, true, rfl, fun _ y hy e => ?_, (fun h => by cases h)⟩) (fun h => ⟨_, hx.ld (by kernel_rfl) (j := 1) rfl, brB_of (fun h2 => ⟨hf, hb, true, rfl, fun _ y hy e => ?_, (fun h => by cases h)⟩) (fun h2 => ?_)⟩)⟩
          · obtain ⟨h1, _⟩ := hfin.2.2 rfl y [] hy (by simpa using e)
            rw [h1] at h; cases h
          · obtain ⟨_, _, h1⟩ := hfin.2.2 rfl y [] hy (by simpa using e)
            have := congrArg List.length h1
            rw [List.length_drop, bl_len] at this
            have hp := hfin.1
            simp at h2 this; omega
          · have hok : ok = true := by simpa using h
            have hps : q = s.size := by simp at h2; omega
            refine ⟨_, _, _, _, _, _, _, _, _, _, _, hr.ldA0 (by kernel_rfl) (by kernel_rfl) rfl, ?_⟩
            refine check_ok hRc hsm (fun hF H9 hf9 => ?_) (fun hF H9 hf9 => ?_)
            · refine ⟨hf.keep0 hf9, hb.keep hf9, false, rfl, (fun h => by cases h), fun _ => ⟨⟨hF, htyp, hchk hok⟩, ?_, hr.keep hf9, hRc.keep hf9⟩⟩
              have := (hfin.2.1 hok).2
              have e9 : (bl s).drop q = [] := List.drop_of_length_le (by rw [bl_len]; omega)
              rw [e9, List.drop_zero, List.append_nil] at this
              exact this
            · refine ⟨hf.keep0 hf9, hb.keep hf9, true, rfl, fun _ y hy e => ?_, (fun h => by cases h)⟩
              obtain ⟨_, h1, _⟩ := hfin.2.2 rfl y [] hy (by simpa using e)
              exact hF (h1 ▸ hy.fine)
        · rintro J w H9 ⟨hf9, hb9, w', ew, hw1, hw2⟩
          simp only [List.cons.injEq, Value.bool.injEq, and_true] at ew
          subst ew
          refine brB_of (fun hw => ?_) (fun hw => ⟨(hw2 hw).1, (hw2 hw).2.1, (hw2 hw).2.2.1, (hw2 hw).2.2.2, hb9, hf9⟩)
          refine st26 (m := m0 0) hb9 fun H10 hb10 hf10 => ⟨_, _, _, _, _, _, _, _, _, _, _, hb10.ldA0 (by kernel_rfl) (by kernel_rfl) rfl, _, _, _, _, _, _, _, _, _, _, _, _, rfl, ?_⟩
          exact hno (hw1 hw) H10 (hf9.keep hf10 (fun k hk => by simp at hk; omega))
      · rintro J H9 ⟨hG, he, hr9, hRc9, hb9, hf9⟩
        refine ⟨_, _, _, _, _, _, _, _, _, _, _, hr9.ldA0 (by kernel_rfl) (by kernel_rfl) rfl, ?_⟩
        refine st26 (m := m) hb9 fun H10 hb10 hf10 => ⟨_, _, _, _, _, _, _, _, _, _, _, hb10.ldA0 (by kernel_rfl) (by kernel_rfl) rfl, _, _, _, _, _, _, _, _, _, _, _, _, rfl, ?_⟩
        refine hyes r m H10 hG he (hRc9.gone hf10 ?_) hsm (hf9.keep hf10 (fun k hk => by simp at hk; omega))
        exact hdj
  · subst h
    have hr := hr5
    have hx := hx5
    have hb := hb5
    have hf := hf05
    obtain ⟨m, em⟩ : ∃ m, m = m0 n := ⟨_, rfl⟩
    obtain ⟨r, er⟩ : ∃ r : Rc, r = ⟨n, [], [], [], 0⟩ := ⟨_, rfl⟩
    obtain ⟨q, eq'⟩ : ∃ q, q = p := ⟨_, rfl⟩
    obtain ⟨ok, eok⟩ : ∃ ok, ok = false := ⟨_, rfl⟩
    have hRc : RcH H5 m r := by subst em er; exact ⟨rfl, Sl.zero, Sl.zero, Sl.zero, rfl⟩
    have hsm : Small m := by subst em; exact ⟨by simp [m0], by simp [m0], by simp [m0]⟩
    have htyp : TypR r := by subst er; exact fun x hx => by simp at hx
    have hdj : NotIn m b := by subst em; exact ⟨no_ad, no_ad, no_ad⟩
    have hfin : RdG s 0 true encR GoodR r q ok := by
      subst eok eq'
      refine ⟨hrd.1, (fun h => by cases h), fun _ y t hy e => ?_⟩
      unfold encR at e
      rw [List.append_assoc] at e
      obtain ⟨h1, _⟩ := hrd.2.2 rfl y.k _ ⟨hy.fine.k.1, by have := hy.fine.k.2; omega⟩ e
      cases h1
    have hchk : ok = true → r.k = 0 → ChkP r.l := fun ho => by rw [eok] at ho; cases ho
    rw [← em] at hr
    rw [← eok, ← eq'] at hx
    clear em er eq' eok
    refine ⟨fun _ H' => GoodR r ∧ bl s = encR r ∧ Blk H' ⟨b2, 0, none⟩ (rC m) ∧ RcH H' m r ∧ Blk H' ⟨b, 0, none⟩ (rC (m0 0)) ∧ Fr [] H H', ?_, ?_⟩
    · refine ⟨fun vs H' => Fr [] H H' ∧ Blk H' ⟨b, 0, none⟩ (rC (m0 0)) ∧ ∃ w : Bool, vs = [.bool w] ∧ (w = true → ∀ y, GoodR y → bl s ≠ encR y) ∧ (w = false → GoodR r ∧ bl s = encR r ∧ Blk H' ⟨b2, 0, none⟩ (rC m) ∧ RcH H' m r), ?_, ?_⟩
      · refine ⟨_, hx.ld (by kernel_rfl) (j := 2) rfl, brB_of (fun h => ⟨hf, hb, true, rfl, fun _ y hy e => ?_, (fun h => by cases h)⟩) (fun h => ⟨_, hx.ld (by kernel_rfl) (j := 1) rfl, brB_of (fun h2 => ⟨hf, hb, true, rfl, fun _ y hy e => ?_, (fun h => by cases h)⟩) (fun h2 => ?_)⟩)⟩
        · obtain ⟨h1, _⟩ := hfin.2.2 rfl y [] hy (by simpa using e)
          rw [h1] at h; cases h
        · obtain ⟨_, _, h1⟩ := hfin.2.2 rfl y [] hy (by simpa using e)
          have := congrArg List.length h1
          rw [List.length_drop, bl_len] at this
          have hp := hfin.1
          simp at h2 this; omega
        · have hok : ok = true := by simpa using h
          have hps : q = s.size := by simp at h2; omega
          refine ⟨_, _, _, _, _, _, _, _, _, _, _, hr.ldA0 (by kernel_rfl) (by kernel_rfl) rfl, ?_⟩
          refine check_ok hRc hsm (fun hF H9 hf9 => ?_) (fun hF H9 hf9 => ?_)
          · refine ⟨hf.keep0 hf9, hb.keep hf9, false, rfl, (fun h => by cases h), fun _ => ⟨⟨hF, htyp, hchk hok⟩, ?_, hr.keep hf9, hRc.keep hf9⟩⟩
            have := (hfin.2.1 hok).2
            have e9 : (bl s).drop q = [] := List.drop_of_length_le (by rw [bl_len]; omega)
            rw [e9, List.drop_zero, List.append_nil] at this
            exact this
          · refine ⟨hf.keep0 hf9, hb.keep hf9, true, rfl, fun _ y hy e => ?_, (fun h => by cases h)⟩
            obtain ⟨_, h1, _⟩ := hfin.2.2 rfl y [] hy (by simpa using e)
            exact hF (h1 ▸ hy.fine)
      · rintro J w H9 ⟨hf9, hb9, w', ew, hw1, hw2⟩
        simp only [List.cons.injEq, Value.bool.injEq, and_true] at ew
        subst ew
        refine brB_of (fun hw => ?_) (fun hw => ⟨(hw2 hw).1, (hw2 hw).2.1, (hw2 hw).2.2.1, (hw2 hw).2.2.2, hb9, hf9⟩)
        refine st26 (m := m0 0) hb9 fun H10 hb10 hf10 => ⟨_, _, _, _, _, _, _, _, _, _, _, hb10.ldA0 (by kernel_rfl) (by kernel_rfl) rfl, _, _, _, _, _, _, _, _, _, _, _, _, rfl, ?_⟩
        exact hno (hw1 hw) H10 (hf9.keep hf10 (fun k hk => by simp at hk; omega))
    · rintro J H9 ⟨hG, he, hr9, hRc9, hb9, hf9⟩
      refine ⟨_, _, _, _, _, _, _, _, _, _, _, hr9.ldA0 (by kernel_rfl) (by kernel_rfl) rfl, ?_⟩
      refine st26 (m := m) hb9 fun H10 hb10 hf10 => ⟨_, _, _, _, _, _, _, _, _, _, _, hb10.ldA0 (by kernel_rfl) (by kernel_rfl) rfl, _, _, _, _, _, _, _, _, _, _, _, _, rfl, ?_⟩
      refine hyes r m H10 hG he (hRc9.gone hf10 ?_) hsm (hf9.keep hf10 (fun k hk => by simp at hk; omega))
      exact hdj
end Go.Proofs
