/- A part of a proof: see the last text of this claim. -/
import Derived.Test.YtijedkfekmopnaaP11E
set_option linter.unusedVariables false
set_option maxRecDepth 100000
open Go Go.GV
namespace Go.Proofs

theorem sl_cell {α : Type} {E : Enc α} {H : Heap} {a : Option Addr} {n c : Nat} {xs : List α} (h : Sl E H a n c xs) {k : Nat} {x : α} (hx : xs[k]? = some x) {ad : Addr} (ha : a = some ad) : CellsAt H (ad.add ((k : Int).toNat * E.sz)) (E.cells x) := by
  obtain ⟨bb, off, e, hc⟩ := h.arr.at hx
  rw [ha] at e
  cases e
  intro j v hv
  rw [Int.toNat_natCast, add_at, add_at]
  exact hc j v hv
theorem ldT3 {H : Heap} {ad : Addr} {x : Row} (h : CellsAt H ad (enc3.cells x)) : Ld Try.prog 3 H ((ad.add 1).add 1) (.int .i64 x.2.2) := by
  have := ldT2 h
  rwa [show (ad.add 1).add 1 = ad.add 2 by simp [Addr.add]]
theorem u_ok {v : Int} {H : Heap} {K : ByteArray → Heap → Prop} (hu : U64 v) (hk : ∀ H', Fr [] H H' → K ⟨(uL v).toArray⟩ H') : CallH Try.prog fn_ref11_u ⟨[.int .i64 v]⟩ H fun v H' => ∃ s, v = .string s ∧ K s H' := by
  apply vc_ref11_u
  obtain ⟨y, rfl⟩ : ∃ y : Nat, v = y := ⟨v.toNat, by have := hu.1; omega⟩
  have hy : y < 18446744073709551616 := by have := hu.2; omega
  rw [wrapU64 (n := (y : Int)) (by omega) (by omega)]
  exact rUint_ok hy fun H' hf => ⟨_, rfl, hk H' hf⟩
theorem rEncode_ok {H : Heap} {m : Rm} {r : Rc} {K : ByteArray → Int → Heap → Prop} (h : RcH H m r) (hs : Small m) (hT : TypR r)
    (harg : ¬ FineP r → ∀ H', Fr [] H H' → K ⟨#[]⟩ 1 H') (hlab : FineP r → r.k = 0 → ¬ ChkP r.l → ∀ H', Fr [] H H' → K ⟨#[]⟩ 40 H')
    (hyes : FineP r → (r.k = 0 → ChkP r.l) → ∀ H', Fr [] H H' → K ⟨(encR r).toArray⟩ 0 H') :
    CallH Try.prog fn_ref11_Encode ⟨[.agg ⟨rC m⟩]⟩ H fun v H' => ∃ s e, v = .tuple ⟨[.string s, .int .i64 e]⟩ ∧ K s e H' := by
  apply vc_ref11_Encode
  intro b H1 hn1
  have hb : Blk H1 ⟨b, 0, none⟩ (rC m) := hn1.blk
  have hf1 := hn1.fr
  refine ⟨_, _, _, _, _, _, _, _, _, _, _, hb.ldA0 (us := rC m) (by kernel_rfl) (by kernel_rfl) rfl, ?_⟩
  refine fine_ok (h.keep hf1) hs (fun hF H2 hf2 => ?_) fun hF H2 hf2 => ?_
  rotate_left
  · exact brB_of (fun _ => ⟨_, _, rfl, harg hF H2 (hf1.keep0 hf2)⟩) (fun h => by cases h)
  have hk := hF.k
  have hb2 := hb.keep hf2
  have hf02 := hf1.keep0 hf2
  refine brB_of (fun h => by cases h) (fun _ => ⟨_, hb2.r0, ?_⟩)
  rw [h.k]
  refine u_ok ⟨hk.1, by omega⟩ fun H3 hf3 => ?_
  have hb3 := hb2.keep hf3
  have hf03 := hf02.keep0 hf3
  have h3 := h.keep hf03
  have hul := uL_len (v := r.k) ⟨hk.1, by omega⟩
  have hsz := size_mk (uL r.k)
  have hl2 := h.rows.len
  have hl3 := h.tombs.len
  have hnr := hF.nr
  have hnt := hF.nt
  refine ⟨_, hb3.r0, ?_⟩
  rw [h.k]
  refine brB_of (fun e => ?_) (fun e0 => brB_of (fun e => ?_) (fun e1 => brB_of (fun e => ?_) (fun e2 => brB_of (fun e => ?_) (fun e3 => ?_))))
  · have e := eq_of_beq e
    have eb : bodyR r = textL (pS r.l) := by unfold bodyR; rw [if_pos e]
    refine ⟨_, _, _, hb3.r1, rPrint_ok h3.l (fun hC => ?_) fun hC => ?_⟩
    · exact brB_of (fun _ => ⟨_, _, rfl, hlab hF e hC H3 hf03⟩) (fun h => by simp at h)
    · refine brB_of (fun h => by simp at h) (fun _ => ?_)
      have := printL_len hC
      have h2 := size_mk (printL r.l)
      refine rText_ok (by omega) fun H4 hf4 => ?_
      have hbl := bodyR_len hF hT fun _ => hC
      have hbs := size_mk (bodyR r)
      rw [show (textL (⟨(printL r.l).toArray⟩ : ByteArray)) = bodyR r from eb.symm]
      refine chk_true (decide_eq_true (by omega)) ⟨_, _, rfl, ?_⟩
      rw [app_mk]
      exact hyes hF (fun _ => hC) H4 (hf03.keep0 hf4)
  · have e := eq_of_beq e
    have eb : bodyR r = uintL r.rows.length ++ r.rows.flatMap rowL := by unfold bodyR; rw [if_neg (by omega), if_pos e]
    have hlen := headF_len (f := rowL) (l := r.rows) (fun x hx => rowL_len (hF.row x hx) (hT x hx)) hnr
    refine ⟨_, _, _, hb3.r2, u_ok ⟨by omega, by omega⟩ fun H4 hf4 => ?_⟩
    have hul2 := uL_len (v := (m.2.2.1.2.1 : Int)) ⟨by omega, by omega⟩
    have hsz2 := size_mk (uL (m.2.2.1.2.1 : Int))
    refine chk_true (decide_eq_true (by omega)) ?_
    rw [app_mk]
    have e1 : uL (m.2.2.1.2.1 : Int) = headF rowL r.rows 0 := by unfold headF uL; simp [hl2]
    rw [e1]
    refine ⟨fun vs H' => match vs with
        | [.string s, .int _ i] => ∃ k : Nat, i = k ∧ k ≤ m.2.2.1.2.1 ∧ s = ⟨(uL r.k ++ headF rowL r.rows k).toArray⟩ ∧ Fr [] H3 H'
        | _ => False,
      fun vs _ => match vs with | [_, .int _ i] => m.2.2.1.2.1 - i.toNat | _ => 0, ⟨0, rfl, by omega, rfl, hf4⟩, ?_⟩
    rintro J s i H5 ⟨k, rfl, hle, rfl, hf5⟩
    have hb5 := hb3.keep hf5
    refine ⟨_, _, _, hb5.r2, brB_of (fun h0 => ?_) (fun h0 => ?_)⟩
    · have h0' : k < m.2.2.1.2.1 := by simpa using h0
      have hx1 : r.rows[k]? = some (r.rows[k]'(by omega)) := by simp
      generalize r.rows[k]'(by omega) = x at hx1
      have hR := hF.row x (List.mem_of_getElem? hx1)
      have hI := hT x (List.mem_of_getElem? hx1)
      have hX : ∀ {H' : Heap}, Fr [] H3 H' → Sl enc3 H' m.2.2.1.1 m.2.2.1.2.1 m.2.2.1.2.2 r.rows := fun hf => h3.rows.keep hf
      refine ⟨_, _, _, hb5.r2, (hX hf5).get rfl hx1 (decide_eq_true (by omega)) fun ad ea hc => ⟨_, ldT0 hc, _, _, _, hb5.r2, (hX hf5).get rfl hx1 (decide_eq_true (by omega)) fun ad1 ea1 hc1 => ⟨_, ldT1 hc1, _, _, _, hb5.r2, (hX hf5).get rfl hx1 (decide_eq_true (by omega)) fun ad2 ea2 hc2 => ⟨_, ldT2 hc2, ?_⟩⟩⟩⟩
      have u1 := uL_len (v := x.1) ⟨hR.1.1, by have := hR.1.2; omega⟩
      have u2 := uL_len (v := x.2.1) ⟨hR.2.1, by have := hR.2.2; omega⟩
      have u3 : (intL x.2.2).length ≤ 10 := uintL_len10 (foldN_lt hI)
      have w1 := size_mk (uL x.1)
      have w2 := size_mk (uL x.2.1)
      have w3 := size_mk (intL x.2.2)
      have w0 := size_mk (uL r.k ++ headF rowL r.rows k)
      have w4 := hlen k
      rw [List.length_append] at w0
      refine u_ok ⟨hR.1.1, by have := hR.1.2; omega⟩ fun H6 hf6 => ?_
      have hf36 := hf5.keep0 hf6
      have hb6 := hb3.keep hf36
      refine ⟨ldT2 (sl_cell (hX hf36) hx1 ea2), hb6.r2, ldT1 (sl_cell (hX hf36) hx1 ea1), hb6.r2, chk_true (decide_eq_true (by omega)) ?_⟩
      refine u_ok ⟨hR.2.1, by have := hR.2.2; omega⟩ fun H7 hf7 => ?_
      have hf37 := hf36.keep0 hf7
      have hb7 := hb3.keep hf37
      refine ⟨ldT2 (sl_cell (hX hf37) hx1 ea2), hb7.r2, chk_true (decide_eq_true (by rw [size_app]; omega)) ?_⟩
      refine rInt_ok hI fun H8 hf8 => ?_
      refine chk_true (decide_eq_true (by rw [size_app, size_app]; omega)) ⟨⟨k + 1, by rw [succ64 (by omega)], by omega, ?_, hf37.keep0 hf8⟩, by rw [succ64 (by omega)]; exact mu_lt h0'⟩
      rw [app_mk, app_mk, app_mk, headF_snoc hx1]
      unfold rowL; simp
    · rw [headF_all (by simp at h0; omega), ← eb]
      exact ⟨_, _, rfl, hyes hF (fun h => by omega) H5 (hf03.keep0 hf5)⟩
  · have e := eq_of_beq e
    have eb : bodyR r = uintL r.tombs.length ++ r.tombs.flatMap tombL := by unfold bodyR; rw [if_neg (by omega), if_neg (by omega), if_pos e]
    have hlen := headF_len (f := tombL) (l := r.tombs) (fun x hx => tombL_len (hF.tomb x hx)) hnt
    refine ⟨_, _, _, hb3.r3, u_ok ⟨by omega, by omega⟩ fun H4 hf4 => ?_⟩
    have hul2 := uL_len (v := (m.2.2.2.1.2.1 : Int)) ⟨by omega, by omega⟩
    have hsz2 := size_mk (uL (m.2.2.2.1.2.1 : Int))
    refine chk_true (decide_eq_true (by omega)) ?_
    rw [app_mk]
    have e1 : uL (m.2.2.2.1.2.1 : Int) = headF tombL r.tombs 0 := by unfold headF uL; simp [hl3]
    rw [e1]
    refine ⟨fun vs H' => match vs with
        | [.string s, .int _ i] => ∃ k : Nat, i = k ∧ k ≤ m.2.2.2.1.2.1 ∧ s = ⟨(uL r.k ++ headF tombL r.tombs k).toArray⟩ ∧ Fr [] H3 H'
        | _ => False,
      fun vs _ => match vs with | [_, .int _ i] => m.2.2.2.1.2.1 - i.toNat | _ => 0, ⟨0, rfl, by omega, rfl, hf4⟩, ?_⟩
    rintro J s i H5 ⟨k, rfl, hle, rfl, hf5⟩
    have hb5 := hb3.keep hf5
    refine ⟨_, _, _, hb5.r3, brB_of (fun h0 => ?_) (fun h0 => ?_)⟩
    · have h0' : k < m.2.2.2.1.2.1 := by simpa using h0
      have hx1 : r.tombs[k]? = some (r.tombs[k]'(by omega)) := by simp
      generalize r.tombs[k]'(by omega) = x at hx1
      have hR := hF.tomb x (List.mem_of_getElem? hx1)
      have hR2 := hR.2
      have hX : ∀ {H' : Heap}, Fr [] H3 H' → Sl enc3 H' m.2.2.2.1.1 m.2.2.2.1.2.1 m.2.2.2.1.2.2 r.tombs := fun hf => h3.tombs.keep hf
      refine ⟨_, _, _, hb5.r3, (hX hf5).get rfl hx1 (decide_eq_true (by omega)) fun ad ea hc => ⟨_, ldT0 hc, _, _, _, hb5.r3, (hX hf5).get rfl hx1 (decide_eq_true (by omega)) fun ad1 ea1 hc1 => ⟨_, ldT1 hc1, _, _, _, hb5.r3, (hX hf5).get rfl hx1 (decide_eq_true (by omega)) fun ad2 ea2 hc2 => ⟨_, ldT3 hc2, ?_⟩⟩⟩⟩
      have u1 := uL_len (v := x.1) ⟨hR.1.1, by have := hR.1.2; omega⟩
      have u2 := uL_len (v := x.2.1) ⟨by omega, by omega⟩
      have u3 := uL_len (v := x.2.2) ⟨by omega, by omega⟩
      have w1 := size_mk (uL x.1)
      have w2 := size_mk (uL x.2.1)
      have w3 := size_mk (uL x.2.2)
      have w0 := size_mk (uL r.k ++ headF tombL r.tombs k)
      have w4 := hlen k
      rw [List.length_append] at w0
      refine u_ok ⟨hR.1.1, by have := hR.1.2; omega⟩ fun H6 hf6 => ?_
      have hf36 := hf5.keep0 hf6
      have hb6 := hb3.keep hf36
      refine ⟨ldT3 (sl_cell (hX hf36) hx1 ea2), hb6.r3, ldT1 (sl_cell (hX hf36) hx1 ea1), hb6.r3, chk_true (decide_eq_true (by omega)) ?_⟩
      refine u_ok ⟨by omega, by omega⟩ fun H7 hf7 => ?_
      have hf37 := hf36.keep0 hf7
      have hb7 := hb3.keep hf37
      refine ⟨ldT3 (sl_cell (hX hf37) hx1 ea2), hb7.r3, chk_true (decide_eq_true (by rw [size_app]; omega)) ?_⟩
      refine u_ok ⟨by omega, by omega⟩ fun H8 hf8 => ?_
      refine chk_true (decide_eq_true (by rw [size_app, size_app]; omega)) ⟨⟨k + 1, by rw [succ64 (by omega)], by omega, ?_, hf37.keep0 hf8⟩, by rw [succ64 (by omega)]; exact mu_lt h0'⟩
      rw [app_mk, app_mk, app_mk, headF_snoc hx1]
      unfold tombL; simp
    · rw [headF_all (by simp at h0; omega), ← eb]
      exact ⟨_, _, rfl, hyes hF (fun h => by omega) H5 (hf03.keep0 hf5)⟩
  · have e := eq_of_beq e
    have eb : bodyR r = uL r.at' := by unfold bodyR; rw [if_neg (by omega), if_neg (by omega), if_neg (by omega)]
    refine ⟨_, hb3.r4, ?_⟩
    rw [h.at']
    refine u_ok ⟨hF.at'.1, by have := hF.at'.2; omega⟩ fun H4 hf4 => ?_
    have hbl := bodyR_len hF hT fun h => by omega
    have hbs := size_mk (bodyR r)
    rw [← eb]
    refine chk_true (decide_eq_true (by omega)) ⟨_, _, rfl, ?_⟩
    rw [app_mk]
    exact hyes hF (fun h => by omega) H4 (hf03.keep0 hf4)
  · exfalso
    have := ne_of_beq_false e0
    have := ne_of_beq_false e1
    have := ne_of_beq_false e2
    have := ne_of_beq_false e3
    omega
end Go.Proofs
