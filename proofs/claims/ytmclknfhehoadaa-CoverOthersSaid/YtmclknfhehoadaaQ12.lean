/- A part of a proof: see the last text of this claim. -/
import Derived.Test.YtmclknfhehoadaaP12d
set_option linter.unusedVariables false
open Go Go.GV
namespace Go.Proofs

theorem any_cov {l k : List Tmb} (h : ∀ i t, cov l i t ↔ cov k i t) (i t : Int) : l.any (atB i t) = k.any (atB i t) := by
  have := h i t
  rw [cov_any, cov_any] at this
  cases h1 : l.any (atB i t) <;> cases h2 : k.any (atB i t) <;> simp_all
theorem isN_self {l : List Tmb} (h : Nrm l) : IsN l l := ⟨h, fun _ _ => Iff.rfl⟩
theorem one_at (i t : Int) : ([(i, t, t + 1)] : List Tmb).any (atB i t) = true := by simp [atB]; omega

theorem Norms_ok {a : Option Addr} {n c : Nat} {xs : List Tmb} {i t : Int} {H : Heap} (hx : Sl encT H a n c xs) :
    CallH Try.prog fn_law12_CoverNorms ⟨[.slice a n c, .int .i64 i, .int .i64 t]⟩ H fun v H' => v = .bool true ∧ Fr [] H H' := by
  apply vc_law12_CoverNorms
  refine brB_of (fun _ => ⟨rfl, Fr.refl _ _⟩) (fun g => ?_)
  have hn : n ≤ 100 := by simp at g; omega
  refine Norm_ok hx (by omega) fun a1 n1 c1 H1 ys ho1 hN1 hn1 hf1 => ?_
  refine Covers_ok (hx.keep hf1) (by omega) fun H2 hf2 => ?_
  intro b H3 hn3
  have hone : Sl encT H3 (some ⟨b, 0, none⟩) 1 1 [(i, 1, 2)] := sl_one encT (i, 1, 2) hn3 rfl
  have hf13 := hf2.keep0 hn3.fr
  have hf03 := hf1.keep0 hf13
  have ho3 := ho1.keep hf13
  have hny := ho1.1
  refine ⟨fun _ H' => Fr [] H3 H', ?_, ?_⟩
  · refine rNorm_ok (hx.keep hf03) (by omega) fun a4 n4 c4 H4 zs ho4 hN4 hn4 hf4 => ?_
    have hzy : ys = zs := isN_unique hN1 hN4 fun _ _ => Iff.rfl
    refine Same_ok (ho3.keep hf4).sl ho4.sl (by omega) ?_
    rw [decide_eq_true hzy]
    refine brB_of (fun h => by cases h) (fun _ => ?_)
    refine rCovers_ok (hx.keep (hf03.keep0 hf4)) (by omega) ?_
    refine brB_of (fun h => by simp at h) (fun _ => ?_)
    refine Covers_ok (ho3.keep hf4).sl (by omega) fun H5 hf5 => ?_
    rw [any_cov hN1.2]
    exact brB_of (fun h => by simp at h) (fun _ => hf4.keep0 hf5)
  · intro J H4 hf4
    have hs4 := (ho3.keep hf4).sl
    have hpw := hN1.1.1
    refine ⟨fun vs H' => match vs with | [.int _ j] => ∃ k : Nat, j = k ∧ k ≤ n1 ∧ H' = H4 | _ => False,
      fun vs _ => match vs with | [.int _ j] => n1 - j.toNat | _ => 0, ⟨0, rfl, by omega, rfl⟩, ?_⟩
    rintro J2 j H5 ⟨k, rfl, hk, rfl⟩
    refine brB_of (fun gk => ?_) (fun gk => ?_)
    · have gk' : k < n1 := by simpa using gk
      have hyk : ys[k]? = some (ys[k]'(by omega)) := by simp
      have hfk : full (ys[k]'(by omega)) := hN1.1.2 _ (List.getElem_mem _)
      have hprev : ∀ (h0 : 0 < k), gap (ys[k - 1]'(by omega)) (ys[k]'(by omega)) := fun h0 => List.pairwise_iff_getElem.1 hpw (k - 1) k (by omega) (by omega) (by omega)
      generalize hxk : ys[k]'(by omega) = x at hyk hfk hprev
      unfold full at hfk
      refine ⟨fun _ H' => H' = H5, ⟨fun vs H' => vs = [.bool false] ∧ H' = H5, ?_, ?_⟩, ?_⟩
      · refine hs4.get rfl hyk (decide_eq_true (by omega)) fun ad ea hc => ⟨_, ldF hc, ?_⟩
        refine hs4.get rfl hyk (decide_eq_true (by omega)) fun ad ea hc => ⟨_, ldTo hc, brB_of (fun h => by simp at h; omega) (fun _ => brB_of (fun h0 => ?_) (fun _ => ⟨rfl, rfl⟩))⟩
        have h0' : 0 < k := by simpa using h0
        rw [pred64 (by omega) h0']
        have hg := hprev h0'
        have hyp : ys[k - 1]? = some (ys[k - 1]'(by omega)) := by simp
        generalize ys[k - 1]'(by omega) = y at hyp hg
        unfold gap at hg
        refine hs4.get rfl hyk (decide_eq_true (by omega)) fun ad ea hc => ⟨_, ldI hc, ?_⟩
        refine hs4.get rfl hyp (decide_eq_true (by omega)) fun ad ea hc => ⟨_, ldI hc, brB_of (fun h => by simp at h; omega) (fun _ => ?_)⟩
        refine hs4.get rfl hyk (decide_eq_true (by omega)) fun ad ea hc => ⟨_, ldI hc, ?_⟩
        refine hs4.get rfl hyp (decide_eq_true (by omega)) fun ad ea hc => ⟨_, ldI hc, brB_of (fun h => ?_) (fun _ => ⟨rfl, rfl⟩)⟩
        have he : x.1 = y.1 := by simpa using h
        refine hs4.get rfl hyk (decide_eq_true (by omega)) fun ad ea hc => ⟨_, ldF hc, ?_⟩
        refine hs4.get rfl hyp (decide_eq_true (by omega)) fun ad ea hc => ⟨_, ldTo hc, ?_, rfl⟩
        rw [decide_eq_false (by omega)]
      · rintro J3 b3 H6 ⟨hb3, rfl⟩
        have hb3 : b3 = false := by simpa using hb3
        subst hb3
        exact brB_of (fun h => by cases h) (fun _ => rfl)
      · rintro J3 H6 rfl
        rw [succ64 (by omega)]
        exact ⟨⟨k + 1, rfl, by omega, rfl⟩, mu_lt gk'⟩
    · refine Norm_ok hs4 (by omega) fun a6 n6 c6 H6 ws ho6 hN6 hn6 hf6 => ?_
      have hwy : ws = ys := isN_unique hN6 (isN_self hN1.1) fun _ _ => Iff.rfl
      refine Same_ok ho6.sl (hs4.keep hf6) (by omega) ?_
      rw [decide_eq_true hwy]
      refine brB_of (fun _ => ?_) (fun h => by cases h)
      refine Covers_ok (hone.keep (hf4.keep0 hf6)) (by omega) fun H7 hf7 => ?_
      exact ⟨by rw [show ([(i, 1, 2)] : List Tmb) = [(i, 1, 1 + 1)] from rfl, one_at], ((hf03.keep0 hf4).keep0 hf6).keep0 hf7⟩

theorem norm_nil {n : List Tmb} (h : IsN [] n) : n = [] := isN_unique h (isN_self ⟨List.Pairwise.nil, by simp⟩) fun _ _ => Iff.rfl
theorem Turned_ok {a : Option Addr} {n c : Nat} {xs : List Tmb} {u : Int} {H : Heap} (hx : Sl encT H a n c xs) (hu : 0 ≤ u ∧ u ≤ 255) :
    CallH Try.prog fn_law12_CoverTurned ⟨[.slice a n c, .int .u8 u]⟩ H fun v H' => v = .bool true ∧ Fr [] H H' := by
  apply vc_law12_CoverTurned
  have hlx := hx.len
  have hcap := hx.cap
  have none_ok : CallH Try.prog 9 ⟨[.slice none 0 0]⟩ H fun v H' => ∃ a n c, v = .slice a n c ∧ (Value.bool ((n : Int) == 0) = .bool true ∧ Fr [] H H') := by
    refine Norm_ok (xs := []) Sl.zero (by omega) fun a1 n1 c1 H1 ys ho1 hN1 hn1 hf1 => ⟨?_, hf1⟩
    have : n1 = 0 := by omega
    subst this
    rfl
  refine ⟨fun _ H' => H' = H ∧ n ≤ 100 ∧ 0 < n, brB_of (fun _ => none_ok) (fun g => brB_of (fun _ => none_ok) (fun g2 => ?_)), ?_⟩
  · simp at g g2
    exact ⟨rfl, by omega, by omega⟩
  rintro J H' ⟨rfl, hn, hn0⟩
  rw [wrap64_of (n := u) (by omega) (by omega)]
  obtain ⟨k, hk, hkn⟩ : ∃ k : Nat, Int.tmod u n = k ∧ k < n := by
    rw [Int.tmod_eq_emod_of_nonneg hu.1]
    have h1 := Int.emod_nonneg u (show (n : Int) ≠ 0 by omega)
    have h2 := Int.emod_lt_of_pos u (show (0 : Int) < n by omega)
    exact ⟨(u % n).toNat, by omega, by omega⟩
  rw [hk]
  refine chk_of (by omega) ?_
  intro b0 H1 hn1
  refine chk_of ⟨by omega, by omega, by omega⟩ ?_
  simp only [Int.toNat_natCast]
  have ho0 : Own encT 28 H'.size H1 (some ⟨b0, 0, none⟩) 0 0 [] := Own.made encT 28 hn1 (Nat.le_refl _)
  refine ap_own (E := encT) slice22 elem28 ho0 hn1.fr ((hx.keep hn1.fr).drop (by omega)) (by omega) fun a2 n2 c2 H2 ho2 hf2 _ => ?_
  have hn2 := ho2.1
  refine chk_of ⟨by omega, by omega, by omega⟩ ?_
  have htk : Sl encT H2 a (k - 0) (c - 0) (xs.take k) := by
    have := (hx.keep hf2).take (m := k) (by omega)
    simpa using this
  refine ap_own (E := encT) slice22 elem28 ho2 hf2 htk (by simp at hn2; omega) fun a3 n3 c3 H3 ho3 hf3 _ => ?_
  have hn3 := ho3.1
  have hxk : xs[k]? = some (xs[k]'(by omega)) := by simp
  have hmem : xs[k]'(by omega) ∈ xs := List.getElem_mem _
  generalize xs[k]'(by omega) = x at hxk hmem
  refine (hx.keep hf3).get rfl hxk (decide_eq_true (by omega)) fun ad ea hc => ⟨_, _, _, ldV hc, ?_⟩
  refine ap_one (E := encT) x slice22 elem28 ho3 hf3 rfl (by simp at hn3 hn2; omega) fun _ a4 n4 c4 H4 ho4 hf4 _ => ?_
  have hn4 := ho4.1
  intro b5 H5 hn5
  have hone : Sl encT H5 (some ⟨b5, 0, none⟩) 1 1 [(3, 1, 2)] := sl_one encT (3, 1, 2) hn5 rfl
  have hf05 := hf4.keep0 hn5.fr
  have hcov : ∀ i t, cov ([] ++ xs.drop k ++ xs.take k ++ [x]) i t ↔ cov xs i t := fun i t => by
    constructor
    · rintro ⟨y, hy, h⟩
      refine ⟨y, ?_, h⟩
      simp only [List.nil_append, List.mem_append, List.mem_singleton] at hy
      rcases hy with (hy | hy) | rfl
      · exact List.mem_of_mem_drop hy
      · exact List.mem_of_mem_take hy
      · exact hmem
    · rintro ⟨y, hy, h⟩
      refine ⟨y, ?_, h⟩
      rw [← List.take_append_drop k xs] at hy
      rcases List.mem_append.1 hy with hy | hy
      · simp [hy]
      · simp [hy]
  refine Norm_ok (ho4.keep hn5.fr).sl (by simp at hn4 hn3 hn2; omega) fun a6 n6 c6 H6 ys ho6 hN6 hn6 hf6 => ?_
  refine Norm_ok (hx.keep (hf05.keep0 hf6)) (by omega) fun a7 n7 c7 H7 zs ho7 hN7 hn7 hf7 => ?_
  have e1 : ys = zs := isN_unique hN6 hN7 hcov
  refine Same_ok (ho6.keep hf7).sl ho7.sl (by simp at hn4 hn3 hn2; omega) ?_
  rw [decide_eq_true e1]
  refine brB_of (fun _ => ?_) (fun h => by cases h)
  have hf07 := (hf05.keep0 hf6).keep0 hf7
  refine Norm_ok (hx.keep hf07) (by omega) fun a8 n8 c8 H8 ws ho8 hN8 hn8 hf8 => ?_
  refine rNorm_ok (hx.keep (hf07.keep0 hf8)) (by omega) fun a9 n9 c9 H9 vs ho9 hN9 hn9 hf9 => ?_
  have e2 : ws = vs := isN_unique hN8 hN9 fun _ _ => Iff.rfl
  refine Same_ok (ho8.keep hf9).sl ho9.sl (by omega) ?_
  rw [decide_eq_true e2]
  refine brB_of (fun _ => ?_) (fun h => by cases h)
  refine Covers_ok (hone.keep (((hf6.keep0 hf7).keep0 hf8).keep0 hf9)) (by omega) fun HA hfA => ?_
  exact ⟨by rw [show ([(3, 1, 2)] : List Tmb) = [(3, 1, 1 + 1)] from rfl, one_at], ((hf07.keep0 hf8).keep0 hf9).keep0 hfA⟩
end Go.Proofs
