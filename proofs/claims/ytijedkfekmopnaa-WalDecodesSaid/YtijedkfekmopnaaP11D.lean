/- A part of a proof: see the last text of this claim. -/
import Derived.Test.YtijedkfekmopnaaP11C
set_option linter.unusedVariables false
set_option maxRecDepth 100000
open Go Go.GV
namespace Go.Proofs

theorem st1 {P : Program} {t : TypeId} {H : Heap} {b : Nat} {v w : Value} {X : Heap → Prop} (h : Blk H ⟨b, 0, none⟩ [v]) (hs : szOf P t = w.cells.size) (hi : (P.info? t).isSome = true) (h1 : ∀ x ∈ w.cells.toList, x.oneCell' = true) (hw : w.cells.toList = [w])
    (k : ∀ H', Blk H' ⟨b, 0, none⟩ [w] → Fr [b] H H' → X H') : ∃ H', St P t H ⟨b, 0, none⟩ w H' ∧ X H' :=
  h.st0 (v := w) hs hi h1 (by have := congrArg List.length hw; simp at this; simp [this]) fun H' hb hf => k H' (by rw [hw] at hb; simpa using hb) hf
theorem Encode_ok {H : Heap} {m : Rm} {r : Rc} {K : ByteArray → Int → Heap → Prop} (h : RcH H m r) (hs : Small m) (hT : TypR r)
    (harg : ¬ FineP r → ∀ H', Fr [] H H' → K ⟨#[]⟩ 1 H') (hlab : FineP r → r.k = 0 → ¬ ChkP r.l → ∀ H', Fr [] H H' → K ⟨#[]⟩ 40 H')
    (hyes : FineP r → (r.k = 0 → ChkP r.l) → ∀ H', Fr [] H H' → K ⟨(encR r).toArray⟩ 0 H') :
    CallH Try.prog fn_wal_Encode ⟨[.agg ⟨rC m⟩]⟩ H fun v H' => ∃ s e, v = .tuple ⟨[.string s, .int .i64 e]⟩ ∧ K s e H' := by
  apply vc_wal_Encode
  intro b H1 hn1 b1 H2 hn2 b2 H3 hn3
  have q1 := hn1.eq
  have q2 := hn2.eq
  have q3 := hn3.eq
  have z1 := hn1.size
  have z2 := hn2.size
  have z3 := hn3.size
  have hb : Blk H3 ⟨b, 0, none⟩ (rC m) := (hn1.blk.keep hn2.fr).keep hn3.fr
  have h1 : Blk H3 ⟨b1, 0, none⟩ [.string ⟨#[]⟩] := hn2.blk.keep hn3.fr
  have h2 : Blk H3 ⟨b2, 0, none⟩ [.int .i64 0] := hn3.blk
  have hf3 : Fr [] H H3 := (hn1.fr.keep0 hn2.fr).keep0 hn3.fr
  have h3 := h.keep hf3
  have k1 : ∀ k ∈ [b1], H.size ≤ k := fun k hk => by simp at hk; omega
  have k2 : ∀ k ∈ [b2], H.size ≤ k := fun k hk => by simp at hk; omega
  refine ⟨_, _, _, _, _, _, _, _, _, _, _, hb.ldA0 (us := rC m) (by kernel_rfl) (by kernel_rfl) rfl, ?_⟩
  refine check_ok h3 hs (fun hF H4 hf4 => ?_) fun hF H4 hf4 => ?_
  rotate_left
  · -- not a record
    refine brB_of (fun _ => ?_) (fun h => by cases h)
    refine st1 (h1.keep hf4) (by kernel_rfl) (by kernel_rfl) (fun x hx => by simp [Value.cells] at hx; subst hx; rfl) rfl fun H5 g1 f5 => ?_
    refine st1 ((h2.keep hf4).fr f5 (by simp; omega)) (by kernel_rfl) (by kernel_rfl) (fun x hx => by simp [Value.cells] at hx; subst hx; rfl) rfl fun H6 g2 f6 => ?_
    refine deferred_ok (g1.fr f6 (by simp; omega)) g2 (by omega) fun H7 g3 g4 f7 => ⟨_, g3.ld0 (by kernel_rfl) rfl, _, g4.ld0 (by kernel_rfl) rfl, _, _, rfl, ?_⟩
    rw [if_neg (by decide)]
    exact harg hF H7 ((((hf3.keep0 hf4).keep f5 k1).keep f6 k2).keep f7 k1)
  have hb4 := hb.keep hf4
  have hf04 := hf3.keep0 hf4
  have hk := hF.k
  refine brB_of (fun h => by cases h) (fun _ => ⟨_, hb4.r0, forms_ok fun H5 hf5 => ?_⟩)
  have hb5 := hb4.keep hf5
  have hf05 := hf04.keep0 hf5
  have h5 := h.keep hf05
  refine ⟨hb5.r0, chk_true (decide_eq_true (by rw [h.k]; omega)) ?_⟩
  -- what follows the write
  have tail : ∀ {s : ByteArray} {e : Int} {H' : Heap}, Fr [] H5 H' → s.size ≤ 300000 → (∀ H', Fr [] H H' → K (if e = 0 then ⟨(uL r.k).toArray⟩ ++ s else ⟨#[]⟩) e H') →
      ∃ H'_2, St Try.prog 29 H' ⟨b2, 0, none⟩ (.int .i64 e) H'_2 ∧ ∃ n, Ld Try.prog 3 H'_2 ⟨b, 0, none⟩ (.int .i64 n) ∧ ∃ n_5, Ld Try.prog 29 H'_2 ⟨b2, 0, none⟩ (.int .i64 n_5) ∧ ∀ (b : Nat) (H' : Heap), New H'_2 b (.cells ⟨[.int .i64 n]⟩ 3) H' → Ld Try.prog 29 H' ⟨b2, 0, none⟩ (.int .i64 n_5) ∧ CallH Try.prog 15 ⟨[.slice (some ⟨b, 0, none⟩) 1 1]⟩ H' fun v H' => ∃ s_2, v = .string s_2 ∧ Ld Try.prog 29 H' ⟨b2, 0, none⟩ (.int .i64 n_5) ∧
        chk (decide (ByteArray.size s_2 + ByteArray.size s ≤ 9223372036854775807)) (∃ H'_3, St Try.prog 9 H' ⟨b1, 0, none⟩ (.string (s_2 ++ s)) H'_3 ∧ Ld Try.prog 29 H'_3 ⟨b2, 0, none⟩ (.int .i64 n_5) ∧ ∃ H', St Try.prog 29 H'_3 ⟨b2, 0, none⟩ (.int .i64 n_5) H' ∧ CallDH Try.prog 12 ⟨[.pointer (some ⟨b2, 0, none⟩), .pointer (some ⟨b1, 0, none⟩)]⟩ H' fun x H'' => ∃ s, Ld Try.prog 9 H'' ⟨b1, 0, none⟩ (.string s) ∧ ∃ n, Ld Try.prog 29 H'' ⟨b2, 0, none⟩ (.int .i64 n) ∧ ∃ s_1 e, Value.tuple ⟨[.string s, .int .i64 n]⟩ = .tuple ⟨[.string s_1, .int .i64 e]⟩ ∧ K s_1 e H'') := by
    intro s e H6 hf6 hss hK
    have hf06 := hf05.keep0 hf6
    have g1 : Blk H6 ⟨b1, 0, none⟩ [.string ⟨#[]⟩] := ((h1.keep hf4).keep hf5).keep hf6
    have g2 : Blk H6 ⟨b2, 0, none⟩ [.int .i64 0] := ((h2.keep hf4).keep hf5).keep hf6
    refine st1 g2 (by kernel_rfl) (by kernel_rfl) (fun x hx => by simp [Value.cells] at hx; subst hx; rfl) rfl fun H7 g2 f7 => ?_
    have hb7 := (hb5.keep hf6).fr f7 (by simp; omega)
    have g1 := g1.fr f7 (by simp; omega)
    refine ⟨_, hb7.r0, _, g2.ld0 (by kernel_rfl) rfl, ?_⟩
    rw [h.k]
    intro b9 H8 hn8
    have g2 := g2.keep hn8.fr
    have g1 := g1.keep hn8.fr
    refine ⟨g2.ld0 (by kernel_rfl) rfl, ?_⟩
    refine numbers_ok (sl_one encInt r.k hn8 rfl) (by omega) (fun x hx => by simp at hx; subst hx; exact ⟨hk.1, by have := hk.2; omega⟩) fun H9 hf9 => ?_
    have g2 := g2.keep hf9
    have g1 := g1.keep hf9
    have eu : [r.k].flatMap uL = uL r.k := by simp
    rw [eu]
    have hul := uL_len (v := r.k) ⟨hk.1, by have := hk.2; omega⟩
    have hsz := size_mk (uL r.k)
    refine ⟨g2.ld0 (by kernel_rfl) rfl, chk_true (decide_eq_true (by omega)) ?_⟩
    refine st1 g1 (by kernel_rfl) (by kernel_rfl) (fun x hx => by simp [Value.cells] at hx; subst hx; rfl) rfl fun H10 g1 f10 => ?_
    have g2 := g2.fr f10 (by simp; omega)
    refine ⟨g2.ld0 (by kernel_rfl) rfl, ?_⟩
    refine st1 g2 (by kernel_rfl) (by kernel_rfl) (fun x hx => by simp [Value.cells] at hx; subst hx; rfl) rfl fun H11 g2 f11 => ?_
    refine deferred_ok (g1.fr f11 (by simp; omega)) g2 (by omega) fun H12 g3 g4 f12 => ⟨_, g3.ld0 (by kernel_rfl) rfl, _, g4.ld0 (by kernel_rfl) rfl, _, _, rfl, ?_⟩
    exact hK H12 ((((((hf06.keep f7 k2).keep0 hn8.fr).keep0 hf9).keep f10 k1).keep f11 k2).keep f12 k1)
  have yes : (r.k = 0 → ChkP r.l) → ∀ H', Fr [] H H' → K (⟨(uL r.k).toArray⟩ ++ ⟨(bodyR r).toArray⟩) 0 H' := fun hC H' hf' => by
    rw [app_mk]; exact hyes hF hC H' hf'
  have hbl := fun hC => bodyR_len hF hT hC
  have hbs := size_mk (bodyR r)
  rcases (by omega : r.k = 0 ∨ r.k = 1 ∨ r.k = 2 ∨ r.k = 3) with e | e | e | e
  · rw [h.k, e]
    refine ⟨.func (.func 25) ⟨[]⟩ ⟨[]⟩, .func (.func 28) ⟨[]⟩ ⟨[]⟩, by unfold Pt; kernel_rfl, 25, ⟨[]⟩, ⟨[]⟩, rfl, by kernel_rfl, ?_⟩
    refine forms1_ok hb5 h5 hs (fun hC s H6 hss hf6 => ?_) fun hC H6 hf6 => ?_
    · exact tail (s := s) (e := 40) hf6 (by omega) fun H' hf' => by rw [if_neg (by decide)]; exact hlab hF e hC H' hf'
    · have eb : bodyR r = textL (pS r.l) := by unfold bodyR; rw [if_pos e]
      rw [← eb]
      have := hbl fun _ => hC
      exact tail (s := ⟨(bodyR r).toArray⟩) (e := 0) hf6 (by omega) fun H' hf' => by rw [if_pos rfl]; exact yes (fun _ => hC) H' hf'
  · rw [h.k, e]
    refine ⟨.func (.func 31) ⟨[]⟩ ⟨[]⟩, .func (.func 33) ⟨[]⟩ ⟨[]⟩, by unfold Pt; kernel_rfl, 31, ⟨[]⟩, ⟨[]⟩, rfl, by kernel_rfl, ?_⟩
    refine forms3_ok hb5 h5 hF hT fun H6 hf6 => ?_
    have eb : bodyR r = uintL r.rows.length ++ r.rows.flatMap rowL := by unfold bodyR; rw [if_neg (by omega), if_pos e]
    rw [← eb]
    have := hbl fun h => by omega
    exact tail (s := ⟨(bodyR r).toArray⟩) (e := 0) hf6 (by omega) fun H' hf' => by rw [if_pos rfl]; exact yes (fun h => by omega) H' hf'
  · rw [h.k, e]
    refine ⟨.func (.func 35) ⟨[]⟩ ⟨[]⟩, .func (.func 36) ⟨[]⟩ ⟨[]⟩, by unfold Pt; kernel_rfl, 35, ⟨[]⟩, ⟨[]⟩, rfl, by kernel_rfl, ?_⟩
    refine forms5_ok hb5 h5 hF fun H6 hf6 => ?_
    have eb : bodyR r = uintL r.tombs.length ++ r.tombs.flatMap tombL := by unfold bodyR; rw [if_neg (by omega), if_neg (by omega), if_pos e]
    rw [← eb]
    have := hbl fun h => by omega
    exact tail (s := ⟨(bodyR r).toArray⟩) (e := 0) hf6 (by omega) fun H' hf' => by rw [if_pos rfl]; exact yes (fun h => by omega) H' hf'
  · rw [h.k, e]
    refine ⟨.func (.func 37) ⟨[]⟩ ⟨[]⟩, .func (.func 38) ⟨[]⟩ ⟨[]⟩, by unfold Pt; kernel_rfl, 37, ⟨[]⟩, ⟨[]⟩, rfl, by kernel_rfl, ?_⟩
    refine forms7_ok hb5 h5 hF fun H6 hf6 => ?_
    have eb : bodyR r = uL r.at' := by unfold bodyR; rw [if_neg (by omega), if_neg (by omega), if_neg (by omega)]
    rw [← eb]
    have := hbl fun h => by omega
    exact tail (s := ⟨(bodyR r).toArray⟩) (e := 0) hf6 (by omega) fun H' hf' => by rw [if_pos rfl]; exact yes (fun h => by omega) H' hf'
end Go.Proofs
