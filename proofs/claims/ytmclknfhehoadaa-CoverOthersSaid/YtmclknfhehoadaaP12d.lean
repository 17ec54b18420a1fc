/- A part of a proof: see the last text of this claim. -/
import Derived.Test.YtmclknfhehoadaaP12c
set_option linter.unusedVariables false
open Go Go.GV
namespace Go.Proofs

theorem rNorm_ok {a : Option Addr} {n c : Nat} {xs : List Tmb} {H : Heap} {K : Option Addr → Nat → Nat → Heap → Prop} (hx : Sl encT H a n c xs) (hn : n ≤ 100000)
    (hk : ∀ a' n' c' H' ys, Own encT 28 H.size H' a' n' c' ys → IsN xs ys → n' ≤ n → Fr [] H H' → K a' n' c' H') :
    CallH Try.prog fn_ref12_Norm ⟨[.slice a n c]⟩ H fun v H' => ∃ a n c, v = .slice a n c ∧ K a n c H' := by
  apply vc_ref12_Norm
  have hlx := hx.len
  intro b0 H1 hn1
  refine ⟨fun vs H' => match vs with | [.slice o p q, .int _ i] => ∃ (i' : Nat) (s : List Tmb), i = i' ∧ i' ≤ n ∧ p ≤ i' ∧ Own encT 28 H.size H' o p q s ∧ s.Perm ((xs.take i').filter fun x => !decide (x.2.1 ≥ x.2.2)) ∧ s.Pairwise ord ∧ Fr [] H H' | _ => False,
    fun vs _ => match vs with | [_, .int _ i] => n - i.toNat | _ => 0, ⟨0, [], rfl, by omega, by omega, Own.made encT 28 hn1 (Nat.le_refl _), by simp, by simp, hn1.fr⟩, ?_⟩
  rintro J o p q i H2 ⟨i', s, rfl, hi, hpi, ho, hperm, hord, hf⟩
  have hpl := ho.1
  refine brB_of (fun g => ?_) (fun g => ?_)
  · have g' : i' < n := by simpa using g
    have hxi : xs[i']? = some (xs[i']'(by omega)) := by simp
    have htk : xs.take (i' + 1) = xs.take i' ++ [xs[i']'(by omega)] := by rw [List.take_add_one, hxi]; rfl
    generalize xs[i']'(by omega) = x at hxi htk
    have at' : ∀ {Hx : Heap} {X : Addr → Prop}, Fr [] H Hx → (∀ ad, a = some ad → CellsAt Hx (ad.add ((i' : Int).toNat * encT.sz)) (encT.cells x) → X ad) → exSome a fun ad => chk (decide ((0 : Int) ≤ i' ∧ (i' : Int) < n)) (X ad) :=
      fun hf hk => (hx.keep hf).get rfl hxi (decide_eq_true (by omega)) hk
    rw [succ64 (i := i') (by omega)]
    refine at' hf fun ad ea hc => ⟨_, ldF hc, ?_⟩
    refine at' hf fun ad ea hc => ⟨_, ldTo hc, brB_of (fun hh => ?_) (fun hh => ?_)⟩
    · refine ⟨⟨i' + 1, s, rfl, by omega, by omega, ho, ?_, hord, hf⟩, mu_lt g'⟩
      rw [htk, List.filter_append, List.filter_cons, if_neg (by rw [hh]; decide)]
      simpa using hperm
    · intro b1 H3 hn3
      have hf3 := hf.keep0 hn3.fr
      have ho3 := ho.keep hn3.fr
      -- the new one is put among them
      refine ⟨fun vs H' => match vs with | [.slice o2 p2 q2, .bool dn, .int _ k] => ∃ (k' : Nat) (w : List Tmb), k = k' ∧ k' ≤ p ∧ p2 ≤ k' + dn.toNat ∧ Own encT 28 H2.size H' o2 p2 q2 w ∧ w ++ (if dn then s.drop k' else insT x (s.drop k')) = insT x s ∧ Fr [] H2 H' | _ => False,
        fun vs _ => match vs with | [_, _, .int _ k] => p - k.toNat | _ => 0, ⟨0, [], rfl, by omega, by simp, Own.made encT 28 hn3 (Nat.le_refl _), by simp, hn3.fr⟩, ?_⟩
      rintro J2 o2 p2 q2 dn k H4 ⟨k', w, rfl, hk', hp2, ho2, hw, hf4⟩
      have hp2l := ho2.1
      have hdn : dn.toNat ≤ 1 := by cases dn <;> decide
      have hf04 : Fr [] H H4 := hf.keep0 hf4
      have hs4 := (ho.keep hf4).sl
      refine brB_of (fun gk => ?_) (fun gk => ?_)
      · have gk' : k' < p := by simpa using gk
        have hsk : s[k']? = some (s[k']'(by omega)) := by simp
        have hdr : s.drop k' = s[k']'(by omega) :: s.drop (k' + 1) := List.drop_eq_getElem_cons (by omega)
        generalize s[k']'(by omega) = y at hsk hdr
        rw [hdr] at hw
        obtain ⟨IM, hIM⟩ : ∃ M : List Value → Heap → Prop, M = fun vs H' => match vs with | [.slice o3 p3 q3, .bool dn3] => ∃ (w3 : List Tmb), p3 ≤ k' + 1 + dn3.toNat ∧ Own encT 28 H2.size H' o3 p3 q3 w3 ∧ w3 ++ (if dn3 then s.drop (k' + 1) else insT x (s.drop (k' + 1))) = insT x s ∧ Fr [] H2 H' | _ => False := ⟨_, rfl⟩
        obtain ⟨IP, hIP⟩ : ∃ M : List Value → Heap → Prop, M = fun vs H' => match vs with | [.slice o3 p3 q3, .bool dn3] => ∃ (w3 : List Tmb), p3 ≤ k' + dn3.toNat ∧ Own encT 28 H2.size H' o3 p3 q3 w3 ∧ w3 ++ y :: (if dn3 then s.drop (k' + 1) else insT x (s.drop (k' + 1))) = insT x s ∧ Fr [] H2 H' | _ => False := ⟨_, rfl⟩
        refine ⟨IM, ⟨IP, ⟨fun vs H' => vs = [.bool (!dn && aheadB x y)] ∧ Fr [] H4 H', ?_, ?_⟩, ?_⟩, ?_⟩
        · refine brB_of (fun hd => ?_) (fun hd => ⟨by simp at hd; simp [hd], Fr.refl _ _⟩)
          refine at' hf04 fun ad ea hc => ⟨_, _, _, ldV hc, ?_⟩
          refine hs4.get rfl hsk (decide_eq_true (by omega)) fun ad ea hc => ⟨_, _, _, ldV hc, ?_⟩
          refine ahead_ok fun H5 hf5 => ⟨?_, hf5⟩
          simp at hd
          simp [hd]
        · rintro J3 b3 H5 ⟨hb3, hf5⟩
          have hb3 : b3 = (!dn && aheadB x y) := by simpa using hb3
          have hf25 := hf4.keep0 hf5
          refine brB_of (fun hb => ?_) (fun hb => ?_)
          · rw [hb3] at hb
            simp at hb
            obtain ⟨hd, hah⟩ := hb
            subst hd
            refine at' (hf.keep0 hf25) fun ad ea hc => ⟨_, _, _, ldV hc, ?_⟩
            refine ap_one (E := encT) x slice22 elem28 (ho2.keep hf5) hf25 rfl (by omega) fun _ o3 p3 q3 H6 ho6 hf6 _ => ?_
            have hp6 := ho6.1
            simp at hp6 hp2
            rw [hIP]
            refine ⟨_, by simp; omega, ho6, ?_, hf6⟩
            rw [← hw]
            simp only [if_true, Bool.false_eq_true, if_false]
            rw [insT, if_pos hah]
            simp
          · rw [hIP]
            refine ⟨w, hp2, ho2.keep hf5, ?_, hf25⟩
            rw [← hw]
            cases dn with
            | true => simp
            | false =>
              rw [hb3] at hb
              simp at hb
              simp only [Bool.false_eq_true, if_false]
              rw [insT, if_neg (by simp [hb])]
        · intro J3 o3 p3 q3 dn3 H5 hh5
          rw [hIP] at hh5
          obtain ⟨w3, hp3, ho5, hw3, hf5⟩ := hh5
          have hdn3 : dn3.toNat ≤ 1 := by cases dn3 <;> decide
          refine ((ho.keep hf5).sl).get rfl hsk (decide_eq_true (by omega)) fun ad ea hc => ⟨_, _, _, ldV hc, ?_⟩
          refine ap_one (E := encT) y slice22 elem28 ho5 hf5 rfl (by omega) fun _ o6 p6 q6 H6 ho6 hf6 _ => ?_
          have hp6 := ho6.1
          have hp5 := ho5.1
          rw [List.length_append] at hp6
          simp at hp6
          rw [hIM]
          refine ⟨_, by omega, ho6, ?_, hf6⟩
          rw [← hw3]
          simp
        · intro J3 o3 p3 q3 dn3 H5 hh5
          rw [hIM] at hh5
          obtain ⟨w3, hp3, ho5, hw3, hf5⟩ := hh5
          rw [succ64 (i := k') (by omega)]
          exact ⟨⟨k' + 1, w3, rfl, by omega, hp3, ho5, hw3, hf5⟩, mu_lt gk'⟩
      · have hkp : s.drop k' = [] := List.drop_eq_nil_of_le (by simp at gk; omega)
        rw [hkp] at hw
        have hpm : (insT x s).Perm ((xs.take (i' + 1)).filter fun x => !decide (x.2.1 ≥ x.2.2)) := by
          rw [htk, List.filter_append, List.filter_cons, if_pos (by rw [hh]; rfl)]
          exact (insT_perm x s).trans ((hperm.cons x).trans (List.perm_append_comm (l₁ := [x])))
        refine brB_of (fun hd => ?_) (fun hd => ?_)
        · have hd : dn = false := by simpa using hd
          subst hd
          refine at' hf04 fun ad ea hc => ⟨_, _, _, ldV hc, ?_⟩
          refine ap_one (E := encT) x slice22 elem28 ho2 hf4 rfl (by omega) fun _ o6 p6 q6 H6 ho6 hf6 _ => ⟨⟨i' + 1, insT x s, rfl, by omega, ?_, ?_, hpm, insT_ord x hord, hf.keep0 hf6⟩, mu_lt g'⟩
          · have hp6 := ho6.1
            simp at hp6 hp2
            omega
          · have : w ++ [x] = insT x s := by rw [← hw]; rfl
            rw [this] at ho6
            exact ho6.base hf.size
        · have hd : dn = true := by simpa using hd
          subst hd
          simp at hw hp2
          subst hw
          exact ⟨⟨i' + 1, _, rfl, by omega, by omega, ho2.base hf.size, hpm, insT_ord x hord, hf04⟩, mu_lt g'⟩
  · have hin : i' = n := by simp at g; omega
    have hall : xs.take i' = xs := List.take_of_length_le (by omega)
    rw [hall] at hperm
    have hN : IsN xs (s.foldl addT []) := isN_sorted (s := s) hperm hord
    intro b1 H3 hn3
    refine ⟨fun vs H' => match vs with | [.slice o p2 q, .int _ i] => ∃ (k : Nat) (out : List Tmb), i = k ∧ k ≤ p ∧ p2 ≤ k ∧ Own encT 28 H2.size H' o p2 q out ∧ (s.drop k).foldl addT out = s.foldl addT [] ∧ Fr [] H2 H' | _ => False,
      fun vs _ => match vs with | [_, .int _ i] => p - i.toNat | _ => 0, ⟨0, [], rfl, by omega, by omega, Own.made encT 28 hn3 (Nat.le_refl _), rfl, hn3.fr⟩, ?_⟩
    rintro J2 o2 p2 q2 i H4 ⟨k, out, rfl, hk2, hpk, ho2, he, hf4⟩
    have hs4 := (ho.keep hf4).sl
    have hp2l := ho2.1
    refine brB_of (fun g => ?_) (fun g => ⟨_, _, _, rfl, ?_⟩)
    · have g' : k < p := by simpa using g
      have hxi : s[k]? = some (s[k]'(by omega)) := by simp
      have hdr : s.drop k = s[k]'(by omega) :: s.drop (k + 1) := List.drop_eq_getElem_cons (by omega)
      generalize s[k]'(by omega) = x at hxi hdr
      rw [hdr, List.foldl_cons] at he
      obtain ⟨IM, hIM⟩ : ∃ M : List Value → Heap → Prop, M = fun vs H' => match vs with | [.slice o p q] => p ≤ k + 1 ∧ Own encT 28 H2.size H' o p q (addT out x) ∧ Fr [] H2 H' | _ => False := ⟨_, rfl⟩
      refine ⟨IM, ?_, ?_⟩
      · refine hs4.get rfl hxi (decide_eq_true (by omega)) fun ad ea hc => ⟨_, _, _, ldV hc, ?_⟩
        refine var_blk (by kernel_rfl) (by kernel_rfl) (by simp [Value.cells, Value.oneCell']) rfl fun b H5 hb hB hf5 => ?_
        have ho5 := ho2.keep hf5
        have hf35 := hf4.keep0 hf5
        have hW : IntKind.i64.wrap ((p2 : Int) - 1) = (p2 : Int) - 1 := wrap64_of (by omega) (by omega)
        refine ⟨fun vs H' => vs = [.bool (joins out x)] ∧ H' = H5, ?_, ?_⟩
        · refine brB_of (fun h0 => ?_) (fun h0 => ⟨?_, rfl⟩)
          · rw [hW] at h0
            have h0' : 0 < p2 := by simp at h0; omega
            rw [pred64 (by omega) h0']
            obtain ⟨m, l, rfl⟩ : ∃ m l, out = m ++ [l] := by
              rcases List.eq_nil_or_concat out with h | ⟨m, l, h⟩
              · subst h; simp at hp2l; omega
              · exact ⟨m, l, by simpa using h⟩
            have hll : (m ++ [l])[p2 - 1]? = some l := by simp at hp2l; rw [show p2 - 1 = m.length by omega]; simp
            have hj : joins (m ++ [l]) x = (decide (l.1 = x.1) && decide (x.2.1 ≤ l.2.2)) := by unfold joins; rw [List.getLast?_concat]
            refine ho5.sl.get rfl hll (decide_eq_true (by omega)) fun ad ea hc => ⟨_, ldI hc, _, hB.ldK (j := 0) (by kernel_rfl) rfl, brB_of (fun h1 => ?_) (fun h1 => ⟨?_, rfl⟩)⟩
            · refine ⟨_, hB.ldK (j := 1) (by kernel_rfl) rfl, ho5.sl.get rfl hll (decide_eq_true (by omega)) fun ad ea hc => ⟨_, ldTo hc, ?_, rfl⟩⟩
              rw [hj, decide_eq_true (p := l.1 = x.1) (by simpa using h1), Bool.true_and]
            · rw [hj, decide_eq_false (p := l.1 = x.1) (by simpa using h1), Bool.false_and]
          · rw [hW] at h0
            have : out = [] := List.eq_nil_of_length_eq_zero (by simp at h0; omega)
            subst this
            rfl
        · rintro J3 b2 H6 ⟨hb1, rfl⟩
          have hb1 : b2 = joins out x := by simpa using hb1
          refine brB_of (fun hj => ?_) (fun hj => ?_)
          · rw [hb1] at hj
            obtain ⟨m, l, rfl⟩ := joins_ne hj
            simp at hp2l
            rw [pred64 (by omega) (by omega)]
            have hll : (m ++ [l])[p2 - 1]? = some l := by rw [show p2 - 1 = m.length by omega]; simp
            refine ho5.sl.get rfl hll (decide_eq_true (by omega)) fun ad ea hc => ⟨_, ldTo hc, _, hB.ldK (j := 2) (by kernel_rfl) rfl, ?_⟩
            rw [max_if]
            refine st_last ho5 rfl (decide_eq_true (by omega)) fun H7 ho7 hf7 => ?_
            rw [hIM]
            refine ⟨by omega, ?_, hf35.keep hf7 fun k hk => (ho2.ge k hk).1⟩
            rw [addT_join hj]
            exact ho7
          · rw [hb1] at hj
            refine ⟨_, _, _, hB.ldAK (j := 0) (us := [.int .i64 x.1, .int .i64 x.2.1, .int .i64 x.2.2]) (by kernel_rfl) (by kernel_rfl) rfl, ?_⟩
            refine ap_one (E := encT) x slice22 elem28 ho5 hf35 rfl (by omega) fun _ o7 p7 q7 H7 ho7 hf7 _ => ?_
            have hp7 := ho7.1
            simp at hp7
            rw [hIM]
            refine ⟨by omega, ?_, hf7⟩
            rw [addT_none hj]
            exact ho7
      · intro J3 o3 p3 q3 H5 hh
        rw [hIM] at hh
        obtain ⟨hp3, ho3, hf3⟩ := hh
        rw [succ64 (i := k) (by omega)]
        exact ⟨⟨k + 1, _, rfl, by omega, hp3, ho3, he, hf3⟩, mu_lt g'⟩
    · have hkp : k = p := by simp at g; omega
      have e : s.drop k = [] := List.drop_eq_nil_of_le (by omega)
      rw [e] at he
      simp only [List.foldl_nil] at he
      subst he
      exact hk _ _ _ _ _ (ho2.base hf.size) hN (by omega) (hf.keep0 hf4)
end Go.Proofs
