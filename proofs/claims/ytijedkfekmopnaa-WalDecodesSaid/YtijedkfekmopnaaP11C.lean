/- A part of a proof: see the last text of this claim. -/
import Derived.Test.YtijedkfekmopnaaP11B
set_option linter.unusedVariables false
set_option maxRecDepth 100000
open Go Go.GV
namespace Go.Proofs

theorem forms3_ok {H : Heap} {b : Nat} {m : Rm} {r : Rc} {K : ByteArray → Int → Heap → Prop} (hb : Blk H ⟨b, 0, none⟩ (rC m)) (h : RcH H m r) (hF : FineP r) (hT : TypR r)
    (hk : ∀ H', Fr [] H H' → K ⟨(uintL r.rows.length ++ r.rows.flatMap rowL).toArray⟩ 0 H') :
    CallH Try.prog fn_wal_forms_3 ⟨[.pointer (some ⟨b, 0, none⟩)]⟩ H fun v H' => ∃ s e, v = .tuple ⟨[.string s, .int .i64 e]⟩ ∧ K s e H' := by
  apply vc_wal_forms_3
  have hl := h.rows.len
  have hnt := hF.nr
  refine ⟨_, _, _, hb.r2, ?_⟩
  refine one_num ⟨by omega, by omega⟩ fun H1 hf1 => ?_
  have hb1 := hb.keep hf1
  refine ⟨_, _, _, hb1.r2, ?_⟩
  have hlen := headF_len (f := rowL) (l := r.rows) (fun x hx => rowL_len (hF.row x hx) (hT x hx)) hnt
  refine ⟨fun vs H' => match vs with
      | [.string s, .int _ i] => ∃ k : Nat, i = k ∧ k ≤ m.2.2.1.2.1 ∧ s = ⟨(headF rowL r.rows k).toArray⟩ ∧ Fr [] H H'
      | _ => False,
    fun vs _ => match vs with | [_, .int _ i] => m.2.2.1.2.1 - i.toNat | _ => 0, ⟨0, rfl, by omega, by unfold headF uL; simp [hl], hf1⟩, ?_⟩
  rintro J s i H2 ⟨k, rfl, hle, rfl, hf2⟩
  refine brB_of (fun h0 => ?_) (fun h0 => ?_)
  · have h0' : k < m.2.2.1.2.1 := by simpa using h0
    have hx1 : r.rows[k]? = some (r.rows[k]'(by omega)) := by simp
    generalize r.rows[k]'(by omega) = x at hx1
    have hR := hF.row x (List.mem_of_getElem? hx1)
    have hI := hT x (List.mem_of_getElem? hx1)
    refine (h.rows.keep hf2).get rfl hx1 (decide_eq_true (by omega)) fun ad ea hc => ⟨_, _, _, ld58 hc, ?_⟩
    refine var58 rfl fun bx H3 hbx hv hf3 => ⟨_, hv.i0, _, hv.i1, _, hv.i2, ?_⟩
    intro b4 H4 hn4
    have hs3 : Sl encInt H4 (some ⟨b4, 0, none⟩) 2 2 [x.1, x.2.1] := sl_ints [x.1, x.2.1] hn4 rfl
    have hv4 := hv.keep hn4.fr
    refine ⟨hv4.i2, numbers_ok hs3 (by omega) (fun y hy => ?_) fun H5 hf5 => ⟨(hv4.keep hf5).i2, Int_ok hI fun H6 hf6 => ?_⟩⟩
    · simp at hy
      unfold U64
      have := hR.1; have := hR.2
      rcases hy with rfl | rfl <;> omega
    · have e : [x.1, x.2.1].flatMap uL = uL x.1 ++ uL x.2.1 := by simp
      rw [e]
      have h1 := hlen k
      have h2 := rowL_len hR hI
      have h3 := size_mk (headF rowL r.rows k)
      have h4 := size_mk (uL x.1 ++ uL x.2.1)
      have h5 := size_mk (intL x.2.2)
      have h6 : (uL x.1 ++ uL x.2.1).length + (intL x.2.2).length = (rowL x).length := by unfold rowL; simp only [List.length_append]; omega
      refine chk_true (decide_eq_true (by omega)) (chk_true (decide_eq_true (by rw [size_app]; omega)) ⟨⟨k + 1, by rw [succ64 (by omega)], by omega, ?_, (((hf2.keep0 hf3).keep0 hn4.fr).keep0 hf5).keep0 hf6⟩, by rw [succ64 (by omega)]; exact mu_lt h0'⟩)
      rw [app_mk, app_mk, headF_snoc hx1]
      unfold rowL; simp
  · rw [headF_all (by simp at h0; omega)]
    exact ⟨_, _, rfl, hk H2 hf2⟩

/-- The forms of all kinds. -/
theorem forms_ok {H : Heap} {K : Value → Value → Value → Value → Value → Value → Value → Value → Heap → Prop} (hk : ∀ H', Fr [] H H' → K (.func (.func 25) ⟨[]⟩ ⟨[]⟩) (.func (.func 28) ⟨[]⟩ ⟨[]⟩) (.func (.func 31) ⟨[]⟩ ⟨[]⟩) (.func (.func 33) ⟨[]⟩ ⟨[]⟩) (.func (.func 35) ⟨[]⟩ ⟨[]⟩) (.func (.func 36) ⟨[]⟩ ⟨[]⟩) (.func (.func 37) ⟨[]⟩ ⟨[]⟩) (.func (.func 38) ⟨[]⟩ ⟨[]⟩) H') :
    CallH Try.prog fn_wal_forms ⟨[]⟩ H fun v H' => ∃ v_1 v_2 v_3 v_4 v_5 v_6 v_7 v_8, v = .agg ⟨[v_1, v_2, v_3, v_4, v_5, v_6, v_7, v_8]⟩ ∧ K v_1 v_2 v_3 v_4 v_5 v_6 v_7 v_8 H' := by
  apply vc_wal_forms
  intro b H1 hn1
  refine hn1.blk.st0 (v := .agg ⟨_⟩) (by kernel_rfl) (by kernel_rfl) (fun x hx => ?_) (by simp [Value.cells]) fun H2 hb2 hf2 => ?_
  · simp [Value.cells] at hx
    rcases hx with rfl | rfl | rfl | rfl | rfl | rfl | rfl | rfl <;> rfl
  · have hb2' : Blk H2 ⟨b, 0, none⟩ [.func (.func 25) ⟨[]⟩ ⟨[]⟩, .func (.func 28) ⟨[]⟩ ⟨[]⟩, .func (.func 31) ⟨[]⟩ ⟨[]⟩, .func (.func 33) ⟨[]⟩ ⟨[]⟩, .func (.func 35) ⟨[]⟩ ⟨[]⟩, .func (.func 36) ⟨[]⟩ ⟨[]⟩, .func (.func 37) ⟨[]⟩ ⟨[]⟩, .func (.func 38) ⟨[]⟩ ⟨[]⟩] := by simpa [Value.cells] using hb2
    exact ⟨_, _, _, _, _, _, _, _, hb2'.ldA0 (by kernel_rfl) (by kernel_rfl) rfl, _, _, _, _, _, _, _, _, rfl, hk H2 (hn1.fr.keep hf2 (fun k hk => by simp at hk; have := hn1.eq; omega))⟩

theorem bodyR_len {r : Rc} (hF : FineP r) (hT : TypR r) (hC : r.k = 0 → ChkP r.l) : (bodyR r).length ≤ 200000 := by
  unfold bodyR
  split
  · rename_i h
    have := printL_len (hC h)
    unfold textL
    rw [List.length_append, bl_pS]
    have h2 : (pS r.l).size ≤ 700 := by rw [← bl_len, bl_pS]; exact this
    have := uintL_len10 (n := (pS r.l).size) (by omega)
    omega
  · split
    · have := headF_len (f := rowL) (l := r.rows) (fun x hx => rowL_len (hF.row x hx) (hT x hx)) hF.nr r.rows.length
      rwa [headF_all (Nat.le_refl _)] at this
    · split
      · have := headF_len (f := tombL) (l := r.tombs) (fun x hx => tombL_len (hF.tomb x hx)) hF.nt r.tombs.length
        rwa [headF_all (Nat.le_refl _)] at this
      · have := uL_len (v := r.at') ⟨hF.at'.1, by have := hF.at'.2; omega⟩
        omega

/-- What the deferred closure does. -/
theorem deferred_ok {H : Heap} {b1 b2 : Nat} {s : ByteArray} {e : Int} {K : Value → Heap → Prop} (h1 : Blk H ⟨b1, 0, none⟩ [.string s]) (h2 : Blk H ⟨b2, 0, none⟩ [.int .i64 e]) (hne : b1 ≠ b2)
    (hk : ∀ H', Blk H' ⟨b1, 0, none⟩ [.string (if e = 0 then s else ⟨#[]⟩)] → Blk H' ⟨b2, 0, none⟩ [.int .i64 e] → Fr [b1] H H' → K (.tuple ⟨[]⟩) H') :
    CallDH Try.prog 12 ⟨[.pointer (some ⟨b2, 0, none⟩), .pointer (some ⟨b1, 0, none⟩)]⟩ H K := by
  apply vcD_wal_Encode_1
  refine ⟨_, h2.ld0 (by kernel_rfl) rfl, brB_of (fun h => ?_) (fun h => ?_)⟩
  · have h : e ≠ 0 := by simpa using h
    rw [if_neg h] at hk
    refine h1.st0 (v := .string ⟨#[]⟩) (by kernel_rfl) (by kernel_rfl) (fun x hx => by simp [Value.cells] at hx; subst hx; rfl) (by simp [Value.cells]) fun H' hb hf => hk H' hb (h2.fr hf (by simp; exact fun e => hne e.symm)) hf
  · have h : e = 0 := by simpa using h
    rw [if_pos h] at hk
    exact hk H h1 h2 (Fr.refl _ _)
end Go.Proofs
