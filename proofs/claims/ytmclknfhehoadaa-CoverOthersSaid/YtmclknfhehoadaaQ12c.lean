/- A part of a proof: see the last text of this claim. -/
import Derived.Test.YtmclknfhehoadaaP12g
set_option linter.unusedVariables false
open Go Go.GV
namespace Go.Proofs

theorem left_take {xs : List Tmb} {id : Int} {ss : List Smp} {k : Nat} {s : Smp} (h : ss[k]? = some s) : leftS xs id (ss.take (k + 1)) = leftS xs id (ss.take k) ++ (if xs.any (atB id s.1) then [] else [s]) := by
  unfold leftS
  rw [List.take_add_one, h, List.filter_append]
  congr 1
  cases hb : xs.any (atB id s.1) <;> simp [hb]
theorem left_pre {xs : List Tmb} {id : Int} {ss : List Smp} (k : Nat) : ∃ r, leftS xs id ss = leftS xs id (ss.take k) ++ r := by
  refine ⟨leftS xs id (ss.drop k), ?_⟩
  unfold leftS
  rw [← List.filter_append, List.take_append_drop]

theorem LeftLaw_ok {a : Option Addr} {n c : Nat} {xs : List Tmb} {id : Int} {sa : Option Addr} {m d : Nat} {ss : List Smp} {H : Heap} (hx : Sl encT H a n c xs) (hs : Sl encS H sa m d ss) :
    CallH Try.prog fn_law12_CoverLeft ⟨[.slice a n c, .int .i64 id, .slice sa m d]⟩ H fun v H' => v = .bool true ∧ Fr [] H H' := by
  apply vc_law12_CoverLeft
  refine ⟨fun _ H' => H' = H ∧ n ≤ 100 ∧ m ≤ 100, brB_of (fun _ => ⟨rfl, Fr.refl _ _⟩) (fun g1 => brB_of (fun _ => ⟨rfl, Fr.refl _ _⟩) (fun g2 => ⟨rfl, by simp at g1; omega, by simp at g2; omega⟩)), ?_⟩
  rintro J H' ⟨rfl, hn, hm⟩
  have hls := hs.len
  refine Left_ok hx (by omega) hs (by omega) fun a1 n1 c1 H1 ho1 hn1 hf1 => ?_
  have hl1 := ho1.1
  refine ⟨fun vs H' => match vs with | [.int _ k, .int _ i] => ∃ i' : Nat, i = i' ∧ i' ≤ m ∧ k = ((leftS xs id (ss.take i')).length : Int) ∧ Fr [] H1 H' | _ => False,
    fun vs _ => match vs with | [_, .int _ i] => m - i.toNat | _ => 0, ⟨0, rfl, by omega, rfl, Fr.refl _ _⟩, ?_⟩
  rintro J k i H2 ⟨i', rfl, hi, rfl, hf2⟩
  have hf02 := hf1.keep0 hf2
  refine brB_of (fun g => ?_) (fun g => ?_)
  · have g' : i' < m := by simpa using g
    have hxi : ss[i']? = some (ss[i']'(by omega)) := by simp
    generalize ss[i']'(by omega) = s at hxi
    rw [succ64 (i := i') (by omega)]
    refine ⟨fun vs H' => vs = [.int .i64 ((leftS xs id (ss.take (i' + 1))).length : Int)] ∧ Fr [] H1 H', ?_, ?_⟩
    · refine (hs.keep hf02).get rfl hxi (decide_eq_true (by omega)) fun ad ea hc => ⟨_, ldT hc, ?_⟩
      refine Covers_ok (hx.keep hf02) (by omega) fun H3 hf3 => ?_
      obtain ⟨r, hr⟩ := left_pre (xs := xs) (id := id) (ss := ss) (i' + 1)
      rw [left_take hxi] at hr
      have hlk : (leftS xs id (ss.take i')).length ≤ 1000 := by
        have : (leftS xs id (ss.take i')).length ≤ (ss.take i').length := List.length_filter_le _ _
        have : (ss.take i').length ≤ ss.length := by rw [List.length_take]; omega
        omega
      refine brB_of (fun h => ?_) (fun h => ?_)
      · have h' : xs.any (atB id s.1) = false := by simpa using h
        rw [h'] at hr
        simp only [Bool.false_eq_true, if_false] at hr
        rw [hr] at hl1 ho1
        have hk1 : (leftS xs id (ss.take i')).length < n1 := by rw [hl1]; simp
        have hget : (leftS xs id (ss.take i') ++ [s] ++ r)[(leftS xs id (ss.take i')).length]? = some s := by simp
        refine brB_of (fun h2 => by simp at h2; omega) (fun _ => ?_)
        refine ((ho1.keep hf2).keep hf3).sl.get rfl hget (decide_eq_true (by omega)) fun ad ea hc => ⟨_, _, ldS hc, ?_⟩
        refine ((hs.keep hf02).keep hf3).get rfl hxi (decide_eq_true (by omega)) fun ad ea hc => ⟨_, _, ldS hc, brB_of (fun h2 => by simp at h2) (fun _ => ⟨?_, hf2.keep0 hf3⟩)⟩
        rw [succ64 (by omega), left_take hxi, h']
        simp
      · have h' : xs.any (atB id s.1) = true := by simpa using h
        refine ⟨?_, hf2.keep0 hf3⟩
        rw [left_take hxi, h']
        simp
    · rintro J2 k2 H3 ⟨hk2, hf3⟩
      have hk2 : k2 = ((leftS xs id (ss.take (i' + 1))).length : Int) := by simpa using hk2
      exact ⟨⟨i' + 1, rfl, by omega, hk2, hf3⟩, mu_lt g'⟩
  · have hin : i' = m := by simp at g; omega
    have e : ss.take i' = ss := List.take_of_length_le (by omega)
    rw [e]
    intro b3 H3 hn3
    have hone : Sl encT H3 (some ⟨b3, 0, none⟩) 1 1 [(id, 1, 2)] := sl_one encT (id, 1, 2) hn3 rfl
    have hf13 := hf2.keep0 hn3.fr
    have hf03 := hf1.keep0 hf13
    refine brB_of (fun _ => ?_) (fun h => by simp [hl1] at h)
    refine rLeft_ok (hx.keep hf03) (by omega) (hs.keep hf03) (by omega) fun a4 n4 c4 H4 ho4 hn4 hf4 => ?_
    refine SameS_ok ((ho1.keep hf13).keep hf4).sl ho4.sl (by omega) ?_
    rw [decide_eq_true rfl]
    refine brB_of (fun _ => ?_) (fun h => by cases h)
    refine Covers_ok (hone.keep hf4) (by omega) fun H5 hf5 => ?_
    exact ⟨by rw [show ([(id, 1, 2)] : List Tmb) = [(id, 1, 1 + 1)] from rfl, one_at], (hf03.keep0 hf4).keep0 hf5⟩

theorem left_twice (xs ys : List Tmb) (id : Int) (ss : List Smp) : leftS ys id (leftS xs id ss) = leftS (xs ++ ys) id ss := by
  unfold leftS
  rw [List.filter_filter]
  congr 1
  funext s
  rw [List.any_append]
  cases xs.any (atB id s.1) <;> cases ys.any (atB id s.1) <;> rfl

theorem TwiceLaw_ok {a : Option Addr} {n c : Nat} {xs : List Tmb} {a' : Option Addr} {n' c' : Nat} {ys : List Tmb} {id : Int} {sa : Option Addr} {m d : Nat} {ss : List Smp} {H : Heap} (hx : Sl encT H a n c xs) (hy : Sl encT H a' n' c' ys) (hs : Sl encS H sa m d ss) :
    CallH Try.prog fn_law12_CoverTwice ⟨[.slice a n c, .slice a' n' c', .int .i64 id, .slice sa m d]⟩ H fun v H' => v = .bool true ∧ Fr [] H H' := by
  apply vc_law12_CoverTwice
  refine ⟨fun _ H' => H' = H ∧ n ≤ 60 ∧ n' ≤ 60 ∧ m ≤ 100, brB_of (fun _ => ⟨rfl, Fr.refl _ _⟩) (fun g1 => brB_of (fun _ => ⟨rfl, Fr.refl _ _⟩) (fun g2 => brB_of (fun _ => ⟨rfl, Fr.refl _ _⟩) (fun g3 => ⟨rfl, by simp at g1; omega, by simp at g2; omega, by simp at g3; omega⟩))), ?_⟩
  rintro J H0 ⟨rfl, hn, hn', hm⟩
  have hlx := hx.len
  have hly := hy.len
  have hls := hs.len
  intro b1 H1 hn1
  have ho1 : Own encT 28 H0.size H1 (some ⟨b1, 0, none⟩) 0 0 [] := Own.made encT 28 hn1 (Nat.le_refl _)
  refine ap_own (E := encT) slice22 elem28 ho1 hn1.fr (hx.keep hn1.fr) (by omega) fun a2 n2 c2 H2 ho2 hf2 _ => ?_
  have hn2 := ho2.1
  refine ap_own (E := encT) slice22 elem28 ho2 hf2 (hy.keep hf2) (by simp at hn2; omega) fun a3 n3 c3 H3 ho3 hf3 _ => ?_
  have hn3 := ho3.1
  simp at hn3
  intro b4 H4 hn4
  have hone : Sl encT H4 (some ⟨b4, 0, none⟩) 1 1 [(id, 1, 2)] := sl_one encT (id, 1, 2) hn4 rfl
  have hf04 := hf3.keep0 hn4.fr
  have hb4 := (ho3.keep hn4.fr).sl
  refine Left_ok (hx.keep hf04) (by omega) (hs.keep hf04) (by omega) fun a5 n5 c5 H5 ho5 hn5 hf5 => ?_
  have hf05 := hf04.keep0 hf5
  refine Left_ok (hy.keep hf05) (by omega) ho5.sl (by omega) fun a6 n6 c6 H6 ho6 hn6 hf6 => ?_
  have hf46 := hf5.keep0 hf6
  refine Left_ok (hb4.keep hf46) (by omega) (hs.keep (hf04.keep0 hf46)) (by omega) fun a7 n7 c7 H7 ho7 hn7 hf7 => ?_
  have hf47 := hf46.keep0 hf7
  refine SameS_ok (ho6.keep hf7).sl ho7.sl (by omega) ?_
  rw [left_twice, List.nil_append, decide_eq_true rfl]
  refine brB_of (fun _ => ?_) (fun h => by cases h)
  refine Left_ok (hb4.keep hf47) (by omega) (hs.keep (hf04.keep0 hf47)) (by omega) fun a8 n8 c8 H8 ho8 hn8 hf8 => ?_
  have hf48 := hf47.keep0 hf8
  refine rLeft_ok (hb4.keep hf48) (by omega) (hs.keep (hf04.keep0 hf48)) (by omega) fun a9 n9 c9 H9 ho9 hn9 hf9 => ?_
  have hf49 := hf48.keep0 hf9
  refine SameS_ok (ho8.keep hf9).sl ho9.sl (by omega) ?_
  rw [decide_eq_true rfl]
  refine brB_of (fun _ => ?_) (fun h => by cases h)
  refine Covers_ok (hone.keep hf49) (by omega) fun HA hfA => ?_
  rw [show ([(id, 1, 2)] : List Tmb) = [(id, 1, 1 + 1)] from rfl, one_at]
  refine brB_of (fun _ => ?_) (fun h => by cases h)
  have hf0A := hf04.keep0 (hf49.keep0 hfA)
  refine Left_ok (a := none) (n := 0) (c := 0) (xs := []) Sl.zero (by omega) (hs.keep hf0A) (by omega) fun aB nB cB HB hoB hnB hfB => ?_
  refine SameS_ok hoB.sl (hs.keep (hf0A.keep0 hfB)) (by omega) ?_
  have : leftS [] id ss = ss := by
    unfold leftS
    exact List.filter_eq_self.2 fun _ _ => rfl
  rw [this, decide_eq_true rfl]
  exact ⟨rfl, hf0A.keep0 hfB⟩

theorem OthersLaw_ok {a : Option Addr} {n c : Nat} {xs : List Tmb} {id t : Int} {sa : Option Addr} {m d : Nat} {ss : List Smp} {H : Heap} (hx : Sl encT H a n c xs) (hs : Sl encS H sa m d ss) :
    CallH Try.prog fn_law12_CoverOthers ⟨[.slice a n c, .int .i64 id, .int .i64 t, .slice sa m d]⟩ H fun v H' => v = .bool true ∧ Fr [] H H' := by
  apply vc_law12_CoverOthers
  refine ⟨fun _ H' => H' = H ∧ n ≤ 100 ∧ m ≤ 100, brB_of (fun _ => ⟨rfl, Fr.refl _ _⟩) (fun g1 => brB_of (fun _ => ⟨rfl, Fr.refl _ _⟩) (fun g2 => ⟨rfl, by simp at g1; omega, by simp at g2; omega⟩)), ?_⟩
  rintro J H0 ⟨rfl, hn, hm⟩
  have hlx := hx.len
  have hls := hs.len
  intro b1 H1 hn1
  refine ⟨fun vs H' => match vs with | [.slice o p q, .int _ i] => ∃ k : Nat, i = k ∧ k ≤ n ∧ p ≤ k ∧ Own encT 28 H0.size H' o p q (ownT id (xs.take k)) ∧ Fr [] H0 H' | _ => False,
    fun vs _ => match vs with | [_, .int _ i] => n - i.toNat | _ => 0, ⟨0, rfl, by omega, by omega, Own.made encT 28 hn1 (Nat.le_refl _), hn1.fr⟩, ?_⟩
  rintro J o p q i H2 ⟨k, rfl, hkn, hpk, ho, hf⟩
  refine brB_of (fun g => ?_) (fun g => ?_)
  · have g' : k < n := by simpa using g
    have hxi : xs[k]? = some (xs[k]'(by omega)) := by simp
    generalize xs[k]'(by omega) = x at hxi
    have htk : ownT id (xs.take (k + 1)) = ownT id (xs.take k) ++ (if x.1 == id then [x] else []) := by
      unfold ownT
      rw [List.take_add_one, hxi, List.filter_append]
      congr 1
      cases hb : x.1 == id <;> simp [bne, hb]
    rw [succ64 (i := k) (by omega)]
    refine (hx.keep hf).get rfl hxi (decide_eq_true (by omega)) fun ad ea hc => ⟨_, ldI hc, brB_of (fun h => ?_) (fun h => ?_)⟩
    · refine (hx.keep hf).get rfl hxi (decide_eq_true (by omega)) fun ad ea hc => ⟨_, _, _, ldV hc, ?_⟩
      refine ap_one (E := encT) x slice22 elem28 ho hf rfl (by omega) fun _ o3 p3 q3 H3 ho3 hf3 _ => ⟨⟨k + 1, rfl, by omega, ?_, ?_, hf3⟩, mu_lt g'⟩
      · have h1 := ho3.1
        have h2 := ho.1
        rw [List.length_append] at h1
        simp at h1
        omega
      · rw [htk, if_pos h]
        exact ho3
    · refine ⟨⟨k + 1, rfl, by omega, by omega, ?_, hf⟩, mu_lt g'⟩
      rw [htk, if_neg (by simp [h]), List.append_nil]
      exact ho
  · have hkn' : k = n := by simp at g; omega
    have e : xs.take k = xs := List.take_of_length_le (by omega)
    rw [e] at ho
    have hp : p ≤ 100 := by omega
    intro b4 H4 hn4
    have hone : Sl encT H4 (some ⟨b4, 0, none⟩) 1 1 [(id, 1, 2)] := sl_one encT (id, 1, 2) hn4 rfl
    have hf04 := hf.keep0 hn4.fr
    have hb4 := (ho.keep hn4.fr).sl
    have hl : ∀ ss : List Smp, leftS xs id ss = leftS (ownT id xs) id ss := fun ss => by
      unfold leftS
      congr 1
      funext s
      rw [any_own]
    refine Covers_ok (hx.keep hf04) (by omega) fun H5 hf5 => ?_
    refine Covers_ok (hb4.keep hf5) (by omega) fun H6 hf6 => ?_
    have hf46 := hf5.keep0 hf6
    rw [any_own]
    refine brB_of (fun _ => ?_) (fun h => by simp at h)
    refine Left_ok (hx.keep (hf04.keep0 hf46)) (by omega) (hs.keep (hf04.keep0 hf46)) (by omega) fun a7 n7 c7 H7 ho7 hn7 hf7 => ?_
    have hf47 := hf46.keep0 hf7
    refine Left_ok (hb4.keep hf47) (by omega) (hs.keep (hf04.keep0 hf47)) (by omega) fun a8 n8 c8 H8 ho8 hn8 hf8 => ?_
    have hf48 := hf47.keep0 hf8
    refine SameS_ok (ho7.keep hf8).sl ho8.sl (by omega) ?_
    rw [decide_eq_true (hl ss)]
    refine brB_of (fun _ => ?_) (fun h => by cases h)
    refine Left_ok (hb4.keep hf48) (by omega) (hs.keep (hf04.keep0 hf48)) (by omega) fun a9 n9 c9 H9 ho9 hn9 hf9 => ?_
    have hf49 := hf48.keep0 hf9
    refine rLeft_ok (hb4.keep hf49) (by omega) (hs.keep (hf04.keep0 hf49)) (by omega) fun aA nA cA HA hoA hnA hfA => ?_
    have hf4A := hf49.keep0 hfA
    refine SameS_ok (ho9.keep hfA).sl hoA.sl (by omega) ?_
    rw [decide_eq_true rfl]
    refine brB_of (fun _ => ?_) (fun h => by cases h)
    refine Covers_ok (hone.keep hf4A) (by omega) fun HB hfB => ?_
    exact ⟨by rw [show ([(id, 1, 2)] : List Tmb) = [(id, 1, 1 + 1)] from rfl, one_at], hf04.keep0 (hf4A.keep0 hfB)⟩
end Go.Proofs
