/- A part of a proof: see the last text of this claim. -/
import Derived.Test.YtmclknfhehoadaaP12e
import Derived.Test.YtmclknfhehoadaaQ12
set_option linter.unusedVariables false
open Go Go.GV
namespace Go.Proofs

def inB (f t u : Int) : Bool := decide (f ≤ u) && decide (u < t)
theorem any_clip (f t i u : Int) (xs : List Tmb) : (xs.map (clipT f t)).any (atB i u) = (xs.any (atB i u) && inB f t u) := by
  induction xs with
  | nil => rfl
  | cons x xs ih =>
    rw [List.map_cons, List.any_cons, List.any_cons, ih, Bool.and_or_distrib_right]
    congr 1
    rw [Bool.eq_iff_iff]
    unfold atB clipT inB
    simp only [Bool.and_eq_true, beq_iff_eq, decide_eq_true_eq]
    generalize x.1 = p, x.2.1 = q, x.2.2 = r
    constructor <;> intro h <;> refine ⟨?_, ?_⟩ <;> omega
theorem any_minT (f t i u : Int) (xs : List Tmb) (h : f < t) : (xs.flatMap (minT f t)).any (atB i u) = (xs.any (atB i u) && !inB f t u) := by
  induction xs with
  | nil => rfl
  | cons x xs ih =>
    rw [List.flatMap_cons, List.any_append, List.any_cons, ih, Bool.and_or_distrib_right]
    congr 1
    rw [Bool.eq_iff_iff]
    simp only [atB, minT, inB, List.any_cons, List.any_nil, Bool.or_false, Bool.or_eq_true, Bool.and_eq_true, Bool.not_eq_true', Bool.and_eq_false_iff, decide_eq_false_iff_not, beq_iff_eq, decide_eq_true_eq]
    omega
theorem any_out (f t i u : Int) (xs : List Tmb) : (outT f t xs).any (atB i u) = (xs.any (atB i u) && !inB f t u) := by
  unfold outT
  split
  · have : inB f t u = false := by simp [inB]; omega
    rw [this]; simp
  · exact any_minT f t i u xs (by omega)
theorem isN_any {l n : List Tmb} (h : IsN l n) (i t : Int) : n.any (atB i t) = l.any (atB i t) := any_cov h.2 i t
theorem cov_of_any {l k : List Tmb} (h : ∀ i t, l.any (atB i t) = k.any (atB i t)) (i t : Int) : cov l i t ↔ cov k i t := by rw [cov_any, cov_any, h]

theorem Parts_ok {a : Option Addr} {n c : Nat} {xs : List Tmb} {f t i u : Int} {H : Heap} (hx : Sl encT H a n c xs) (hI : ∀ x ∈ xs, I64 x.2.1 ∧ I64 x.2.2) :
    CallH Try.prog fn_law12_CoverParts ⟨[.slice a n c, .agg ⟨[.int .i64 f, .int .i64 t]⟩, .int .i64 i, .int .i64 u]⟩ H fun v H' => v = .bool true ∧ Fr [] H H' := by
  apply vc_law12_CoverParts
  intro b0 H0 hn0
  have hr : ∀ {Hx : Heap}, Fr [] H0 Hx → Ld Try.prog 26 Hx ⟨b0, 0, none⟩ (.agg ⟨[.int .i64 f, .int .i64 t]⟩) := fun hf => (hn0.blk.keep hf).ldAK (j := 0) (us := [.int .i64 f, .int .i64 t]) (by kernel_rfl) (by kernel_rfl) rfl
  have hr3 : ∀ {Hx : Heap}, Fr [] H0 Hx → Ld Try.prog 3 Hx ⟨b0, 0, none⟩ (.int .i64 f) := fun hf => (hn0.blk.keep hf).ldK (j := 0) (by kernel_rfl) rfl
  have hr4 : ∀ {Hx : Heap}, Fr [] H0 Hx → Ld Try.prog 3 Hx ⟨b0, 1, none⟩ (.int .i64 t) := fun hf => (hn0.blk.keep hf).ldK (j := 1) (by kernel_rfl) rfl
  have h0 := hn0.fr
  refine brB_of (fun _ => ⟨rfl, h0⟩) (fun g => ?_)
  have hn : n ≤ 100 := by simp at g; omega
  have hx0 := hx.keep h0
  refine ⟨_, _, hr (Fr.refl _ _), Clip_ok hx0 (by omega) fun a1 n1 c1 H1 as1 ho1 hN1 hn1 hf1 => ⟨_, _, hr hf1, ?_⟩⟩
  refine Minus_ok (hx0.keep hf1) (by omega) hI fun a2 n2 c2 H2 bs ho2 hN2 hn2 hf2 => ?_
  have h02 := hf1.keep0 hf2
  refine ⟨fun _ H' => Fr [] H2 H', ⟨_, _, hr h02, ?_⟩, ?_⟩
  · refine rClip_ok (hx0.keep h02) (by omega) fun a3 n3 c3 H3 as2 ho3 hN3 hn3 hf3 => ?_
    refine Same_ok ((ho1.keep hf2).keep hf3).sl ho3.sl (by omega) ?_
    rw [decide_eq_true (isN_unique hN1 hN3 fun _ _ => Iff.rfl)]
    refine brB_of (fun h => by cases h) (fun _ => ⟨_, _, hr (h02.keep0 hf3), ?_⟩)
    refine rMinus_ok (hx0.keep (h02.keep0 hf3)) (by omega) fun a4 n4 c4 H4 bs' ho4 hN4 hn4 hf4 => ?_
    refine Same_ok ((ho2.keep hf3).keep hf4).sl ho4.sl (by omega) ?_
    rw [decide_eq_true (isN_unique hN2 hN4 fun _ _ => Iff.rfl)]
    exact brB_of (fun h => by cases h) (fun _ => hf3.keep0 hf4)
  · intro J H3 hf3
    have h03 := h02.keep0 hf3
    refine ⟨fun vs H' => vs = [.bool (inB f t u)] ∧ H' = H3, ⟨_, hr3 h03, brB_of (fun h => ⟨_, hr4 h03, by unfold inB; rw [h, Bool.true_and], rfl⟩) (fun h => ⟨by unfold inB; rw [h, Bool.false_and], rfl⟩)⟩, ?_⟩
    rintro J2 bin H' ⟨hb, rfl⟩
    have hb : bin = inB f t u := by simpa using hb
    subst hb
    refine Covers_ok (hx0.keep h03) (by omega) fun H4 hf4 => ?_
    intro b5 H5 hn5
    have ho5 : Own encT 28 H4.size H5 (some ⟨b5, 0, none⟩) 0 0 [] := Own.made encT 28 hn5 (Nat.le_refl _)
    have hf25 := (hf3.keep0 hf4).keep0 hn5.fr
    refine ap_own (E := encT) slice22 elem28 ho5 hn5.fr ((ho1.keep hf2).keep hf25).sl (by omega) fun a6 n6 c6 H6 ho6 hf6 _ => ?_
    have hf26 := (hf3.keep0 hf4).keep0 hf6
    have hn6 := ho6.1
    have hl1 := ho1.1
    simp at hn6
    refine ap_own (E := encT) slice22 elem28 ho6 hf6 (ho2.keep hf26).sl (by omega) fun a7 n7 c7 H7 ho7 hf7 _ => ?_
    have hn7 := ho7.1
    have hl2 := ho2.1
    rw [List.length_append] at hn7
    simp at hn7
    intro b8 H8 hn8
    have hone : Sl encT H8 (some ⟨b8, 0, none⟩) 1 1 [(i, 1, 2)] := sl_one encT (i, 1, 2) hn8 rfl
    have hf48 := hf7.keep0 hn8.fr
    have hf28 := (hf3.keep0 hf4).keep0 hf48
    have hboth := (ho7.keep hn8.fr).sl
    refine Covers_ok ((ho1.keep hf2).keep hf28).sl (by omega) fun H9 hf9 => ?_
    have c1' : as1.any (atB i u) = (xs.any (atB i u) && inB f t u) := by rw [isN_any hN1, any_clip]
    have c2' : bs.any (atB i u) = (xs.any (atB i u) && !inB f t u) := by rw [isN_any hN2, any_out]
    -- the rest, whatever the point
    have rest : ∀ H10, Fr [] H9 H10 → CallH Try.prog 9 ⟨[.slice a7 n7 c7]⟩ H10 fun v H' => ∃ a_7 n_7 c_3, v = .slice a_7 n_7 c_3 ∧ CallH Try.prog 9 ⟨[.slice a n c]⟩ H' fun v H' => ∃ a_8 n_8 c_4, v = .slice a_8 n_8 c_4 ∧ CallH Try.prog 11 ⟨[.slice a_7 n_7 c_3, .slice a_8 n_8 c_4]⟩ H' fun v H' => ∃ b, v = .bool b ∧
        brB b (CallH Try.prog 10 ⟨[.slice (some ⟨b8, 0, none⟩) 1 1, .int .i64 i, .int .i64 1]⟩ H' fun v H' => ∃ b, v = .bool b ∧ (Value.bool b = .bool true ∧ Fr [] H H')) (Value.bool false = .bool true ∧ Fr [] H H') := fun H10 hf10 => by
      have hf810 := hf9.keep0 hf10
      refine Norm_ok (hboth.keep hf810) (by omega) fun aA nA cA HA ys hoA hNA hnA hfA => ?_
      have hf8A := hf810.keep0 hfA
      refine Norm_ok (hx0.keep ((h02.keep0 hf28).keep0 hf8A)) (by omega) fun aB nB cB HB zs hoB hNB hnB hfB => ?_
      refine Same_ok (hoA.keep hfB).sl hoB.sl (by omega) ?_
      have e : ys = zs := isN_unique hNA hNB (cov_of_any fun j w => by
        simp only [List.nil_append, List.any_append, isN_any hN1, isN_any hN2, any_clip, any_out]
        cases xs.any (atB j w) <;> cases inB f t w <;> rfl)
      rw [decide_eq_true e]
      refine brB_of (fun _ => ?_) (fun h => by cases h)
      refine Covers_ok (hone.keep (hf8A.keep0 hfB)) (by omega) fun HC hfC => ?_
      exact ⟨by rw [show ([(i, 1, 2)] : List Tmb) = [(i, 1, 1 + 1)] from rfl, one_at], ((h0.keep0 (h02.keep0 hf28)).keep0 (hf8A.keep0 hfB)).keep0 hfC⟩
    have hb9 := ((ho2.keep hf28).keep hf9).sl
    rw [c1']
    cases hi : xs.any (atB i u) <;> cases hin : inB f t u <;> rw [hi, hin] at c2'
    all_goals
      first
      | refine brB_of (fun h => absurd h Bool.false_ne_true) (fun _ => brB_of (fun _ => ?_) (fun h => absurd h.symm Bool.false_ne_true))
      | refine brB_of (fun _ => brB_of (fun _ => ?_) (fun h => absurd h.symm Bool.false_ne_true)) (fun h => absurd h.symm Bool.false_ne_true)
      refine Covers_ok hb9 (by omega) fun H10 hf10 => ?_
      rw [c2']
      first
      | exact brB_of (fun h => absurd h Bool.false_ne_true) (fun _ => brB_of (fun _ => rest H10 hf10) (fun h => absurd h.symm Bool.false_ne_true))
      | exact brB_of (fun _ => brB_of (fun _ => rest H10 hf10) (fun h => absurd h.symm Bool.false_ne_true)) (fun h => absurd h.symm Bool.false_ne_true)
end Go.Proofs
