/- A part of a proof: see the last text of this claim. -/
import Derived.Test.YtjpjmpnlomkdbaaP13
set_option linter.unusedVariables false
open Go Go.GV
namespace Go.Proofs

theorem set_ok {a : Option Addr} {n c : Nat} {xs : List Smp} {x : Smp} {H : Heap} {K : Option Addr → Nat → Nat → Heap → Prop} (hx : Sl encS H a n c xs) (hn : n ≤ 1000000000)
    (hk : ∀ a' n' c' H', Own encS 26 H.size H' a' n' c' (setS xs x) → n' ≤ n + 1 → Fr [] H H' → K a' n' c' H') :
    CallH Try.prog fn_ref13_set ⟨[.slice a n c, vS x]⟩ H fun v H' => ∃ a n c, v = .slice a n c ∧ K a n c H' := by
  apply vc_ref13_set
  have hlx := hx.len
  intro b H1 hn1 b1 H2 hn2
  have hb2 : Fr [] H H2 := hn1.fr.keep0 hn2.fr
  refine ⟨fun vs H' => match vs with | [.slice o p q, .bool dn, .int _ i] => ∃ (k : Nat) (L : List Smp), i = k ∧ k ≤ n ∧ p ≤ k + dn.toNat ∧ Own encS 26 H1.size H' o p q L ∧ L ++ (if dn then (xs.drop k).filter (fun z => decide (z.1 ≠ x.1)) else setS (xs.drop k) x) = setS xs x ∧ Fr [] H1 H' | _ => False,
    fun vs _ => match vs with | [_, _, .int _ i] => n - i.toNat | _ => 0, ⟨0, [], rfl, by omega, by simp, Own.made encS 26 hn2 (Nat.le_refl _), by simp, hn2.fr⟩, ?_⟩
  rintro J o p q dn i H' ⟨k, L, rfl, hle, hpk, ho, he, hf2⟩
  have hf : Fr [] H H' := hn1.fr.keep0 hf2
  have hl := ho.1
  have hdn : dn.toNat ≤ 1 := by cases dn <;> decide
  have hv : Blk H1 ⟨b, 0, none⟩ [.int .i64 x.1, .int .i64 x.2] := hn1.blk
  refine brB_of (fun h0 => ?_) (fun h0 => ?_)
  · have h0' : k < n := by simpa using h0
    have hx1 : xs[k]? = some (xs[k]'(by omega)) := by simp
    have hdr : xs.drop k = xs[k]'(by omega) :: xs.drop (k + 1) := List.drop_eq_getElem_cons (by omega)
    generalize hy : xs[k]'(by omega) = y at hx1 hdr
    rw [hdr] at he
    refine ⟨fun vs H' => match vs with | [.slice o p q, .bool dn] => ∃ (L : List Smp), p ≤ k + dn.toNat ∧ Own encS 26 H1.size H' o p q L ∧ L ++ (if dn then (y :: xs.drop (k + 1)).filter (fun z => decide (z.1 ≠ x.1)) else setS (y :: xs.drop (k + 1)) x) = setS xs x ∧ (dn = false → y.1 < x.1) ∧ Fr [] H1 H' | _ => False, ?_, ?_⟩
    · refine brB_of (fun h1 => ?_) (fun h1 => ⟨L, hpk, ho, he, fun h => by simp [h] at h1, hf2⟩)
      have hd0 : dn = false := by simpa using h1
      subst hd0
      refine (hx.keep hf).get rfl hx1 (decide_eq_true (by omega)) fun ad ea hc => ⟨_, ldT hc, ?_⟩
      refine ⟨_, (hv.keep hf2).ld0 (by kernel_rfl) rfl, brB_of (fun h3 => ?_) (fun h3 => ⟨L, hpk, ho, he, fun _ => by simpa using h3, hf2⟩)⟩
      refine ⟨_, _, (hv.keep hf2).ldA0 (us := [.int .i64 x.1, .int .i64 x.2]) (by kernel_rfl) (by kernel_rfl) rfl, ?_⟩
      simp at hpk
      refine ap_one (E := encS) x slice22 elem26 ho hf2 rfl (by omega) fun _ o2 p2 q2 H4 hw2 hf4 _ => ⟨L ++ [x], ?_, hw2, ?_, fun h => (by cases h), hf4⟩
      · have hb2 := hw2.1
        simp at hb2 ⊢
        omega
      · rw [← he]
        simp only [Bool.false_eq_true, if_false, if_true]
        rw [setS_ge (by simpa using h3), List.append_assoc]
        rfl
    · rintro J2 o p q dn H3 ⟨L, hpk, ho, he, hlt, hf2⟩
      have hf : Fr [] H H3 := hn1.fr.keep0 hf2
      have hl := ho.1
      have hdn : dn.toNat ≤ 1 := by cases dn <;> decide
      rw [succ64 (by omega)]
      refine (hx.keep hf).get rfl hx1 (decide_eq_true (by omega)) fun ad ea hc => ⟨_, ldT hc, ?_⟩
      refine ⟨_, (hv.keep hf2).ld0 (by kernel_rfl) rfl, brB_of (fun h3 => ?_) (fun h3 => ?_)⟩
      · refine (hx.keep hf).get rfl hx1 (decide_eq_true (by omega)) fun ad ea hc => ⟨_, _, ldS hc, ?_⟩
        refine ap_one (E := encS) y slice22 elem26 ho hf2 rfl (by omega) fun _ o2 p2 q2 H4 hw2 hf4 _ => ⟨⟨k + 1, L ++ [y], rfl, by omega, ?_, hw2, ?_, hf4⟩, mu_lt h0'⟩
        · have hb2 := hw2.1
          simp at hb2 ⊢
          omega
        · rw [← he]
          cases dn with
          | true => simp only [if_true, List.filter_cons]; rw [if_pos (by simpa using h3)]; simp
          | false => simp only [Bool.false_eq_true, if_false]; rw [setS_lt (hlt rfl)]; simp
      · refine ⟨⟨k + 1, L, rfl, by omega, by omega, ho, ?_, hf2⟩, mu_lt h0'⟩
        have h3' : y.1 = x.1 := by simpa using h3
        rw [← he]
        cases dn with
        | true => simp only [if_true, List.filter_cons]; rw [if_neg (by simpa using h3')]
        | false => have := hlt rfl; omega
  · have e : xs.drop k = [] := List.drop_eq_nil_of_le (by simp at h0; omega)
    rw [e] at he
    refine brB_of (fun h1 => ?_) (fun h1 => ?_)
    · have hd0 : dn = false := by simpa using h1
      subst hd0
      simp at hpk
      refine ⟨_, _, (hv.keep hf2).ldA0 (us := [.int .i64 x.1, .int .i64 x.2]) (by kernel_rfl) (by kernel_rfl) rfl, ?_⟩
      refine ap_one (E := encS) x slice22 elem26 ho hf2 rfl (by omega) fun _ o2 p2 q2 H4 hw2 hf4 _ => ⟨_, _, _, rfl, hk _ _ _ _ ?_ ?_ (hn1.fr.keep0 hf4)⟩
      · rw [← he]; exact hw2.base hn1.fr.size
      · have hb2 := hw2.1
        simp at hb2
        omega
    · have hd0 : dn = true := by simpa using h1
      subst hd0
      simp at hpk he
      exact ⟨_, _, _, rfl, hk _ _ _ _ (by rw [← he]; exact ho.base hn1.fr.size) (by omega) hf⟩

theorem rMerge_ok {a b : Option Addr} {n c m d : Nat} {xs ys : List Smp} {H : Heap} {K : Option Addr → Nat → Nat → Heap → Prop} (hx : Sl encS H a n c xs) (hy : Sl encS H b m d ys) (hrx : Ris xs) (hry : Ris ys)
    (hn : n + m ≤ 100000000) (hk : ∀ a' n' c' H', Own encS 26 H.size H' a' n' c' (mrg xs ys) → Fr [] H H' → K a' n' c' H') :
    CallH Try.prog fn_ref13_Merge ⟨[.slice a n c, .slice b m d]⟩ H fun v H' => ∃ a n c, v = .slice a n c ∧ K a n c H' := by
  apply vc_ref13_Merge
  have hlx := hx.len
  have hly := hy.len
  intro b0 H1 hn1
  have ho0 : Own encS 26 H.size H1 (some ⟨b0, 0, none⟩) 0 0 [] := Own.made encS 26 hn1 (Nat.le_refl _)
  refine ap_own (E := encS) slice22 elem26 ho0 hn1.fr (hx.keep hn1.fr) (by omega) fun o p q H2 ho hf _ => ?_
  have hp := ho.1
  refine ⟨fun vs H' => match vs with | [.slice o p q, .int _ i] => ∃ (k : Nat) (L : List Smp), i = k ∧ k ≤ m ∧ p ≤ n + k ∧ Own encS 26 H.size H' o p q L ∧ (ys.drop k).foldl setS L = ys.foldl setS xs ∧ Fr [] H H' | _ => False,
    fun vs _ => match vs with | [_, .int _ i] => m - i.toNat | _ => 0, ⟨0, _, rfl, by omega, by simp at hp; omega, ho, rfl, hf⟩, ?_⟩
  rintro J o p q i H' ⟨k, L, rfl, hle, hpk, ho, he, hf⟩
  refine brB_of (fun h0 => ?_) (fun h0 => ?_)
  · have h0' : k < m := by simpa using h0
    have hy1 : ys[k]? = some (ys[k]'(by omega)) := by simp
    refine (hy.keep hf).get rfl hy1 (decide_eq_true (by omega)) fun ad ea hc => ⟨_, _, ldS hc, ?_⟩
    refine set_ok ho.sl (by omega) fun o2 p2 q2 H3 ho2 hp2 hf3 => ?_
    rw [succ64 (by omega)]
    refine ⟨⟨k + 1, _, rfl, by omega, by omega, ho2.base hf.size, ?_, hf.keep0 hf3⟩, mu_lt h0'⟩
    rw [← he, List.drop_eq_getElem_cons (show k < ys.length by omega), List.foldl_cons]
  · have e : ys.drop k = [] := List.drop_eq_nil_of_le (by simp at h0; omega)
    rw [e, fold_set _ _ hrx hry] at he
    simp only [List.foldl_nil] at he
    subst he
    exact ⟨_, _, _, rfl, hk _ _ _ _ ho hf⟩

abbrev vR (f t : Int) : Value := .agg ⟨[.int .i64 f, .int .i64 t]⟩
theorem in_ok {x : Smp} {f t : Int} {H : Heap} {K : Bool → Heap → Prop} (hk : ∀ H', Fr [] H H' → K (inR f t x) H') : CallH Try.prog fn_ref13_in ⟨[vS x, vR f t]⟩ H fun v H' => ∃ b, v = .bool b ∧ K b H' := by
  apply vc_ref13_in
  intro b H1 hn1 b1 H2 hn2
  have h1 := hn1.blk.keep hn2.fr
  have h2 := hn2.blk
  have hk' := hk H2 (hn1.fr.keep0 hn2.fr)
  unfold inR at hk'
  refine ⟨_, h2.ld0 (by kernel_rfl) rfl, _, h1.ld0 (by kernel_rfl) rfl, brB_of (fun h => ⟨_, h1.ld0 (by kernel_rfl) rfl, _, h2.ldK (j := 1) (by kernel_rfl) rfl, _, rfl, ?_⟩) (fun h => ⟨_, rfl, ?_⟩)⟩
  · rwa [h, Bool.true_and] at hk'
  · rwa [h, Bool.false_and] at hk'

theorem rIn_ok {a : Option Addr} {n c : Nat} {xs : List Smp} {f t : Int} {H : Heap} {K : Option Addr → Nat → Nat → Heap → Prop} (hx : Sl encS H a n c xs) (hn : n ≤ 1000000000)
    (hk : ∀ a' n' c' H', Own encS 26 H.size H' a' n' c' (xs.filter (inR f t)) → Fr [] H H' → K a' n' c' H') :
    CallH Try.prog fn_ref13_In ⟨[.slice a n c, vR f t]⟩ H fun v H' => ∃ a n c, v = .slice a n c ∧ K a n c H' := by
  apply vc_ref13_In
  have hlx := hx.len
  intro b H1 hn1 b1 H2 hn2
  refine ⟨fun vs H' => match vs with | [.slice o p q, .int _ i] => ∃ (k : Nat), i = k ∧ k ≤ n ∧ Own encS 26 H1.size H' o p q ((xs.take k).filter (inR f t)) ∧ Fr [] H1 H' | _ => False,
    fun vs _ => match vs with | [_, .int _ i] => n - i.toNat | _ => 0, ⟨0, rfl, by omega, Own.made encS 26 hn2 (Nat.le_refl _), hn2.fr⟩, ?_⟩
  rintro J o p q i H' ⟨k, rfl, hle, ho, hf⟩
  have hf0 : Fr [] H H' := hn1.fr.keep0 hf
  have hp : p ≤ k := by
    rw [ho.1]
    exact Nat.le_trans (List.length_filter_le _ _) (by simp; omega)
  refine brB_of (fun h0 => ?_) (fun h0 => ⟨_, _, _, rfl, hk _ _ _ _ ?_ hf0⟩)
  · have h0' : k < n := by simpa using h0
    have hx1 : xs[k]? = some (xs[k]'(by omega)) := by simp
    have htk : xs.take (k + 1) = xs.take k ++ [xs[k]'(by omega)] := by rw [List.take_add_one, hx1]; rfl
    generalize xs[k]'(by omega) = y at hx1 htk
    rw [succ64 (by omega)]
    refine (hx.keep hf0).get rfl hx1 (decide_eq_true (by omega)) fun ad ea hc => ⟨_, _, ldS hc, ?_⟩
    refine ⟨_, _, (hn1.blk.keep hf).ldA0 (us := [.int .i64 f, .int .i64 t]) (by kernel_rfl) (by kernel_rfl) rfl, ?_⟩
    refine in_ok fun H3 hf3 => ?_
    refine brB_of (fun h1 => ?_) (fun h1 => ?_)
    · refine (hx.keep (hf0.keep0 hf3)).get rfl hx1 (decide_eq_true (by omega)) fun ad ea hc => ⟨_, _, ldS hc, ?_⟩
      refine ap_one (E := encS) y slice22 elem26 (ho.keep hf3) (hf.keep0 hf3) rfl (by omega) fun _ o2 p2 q2 H4 hw2 hf4 _ => ⟨⟨k + 1, rfl, by omega, ?_, hf4⟩, mu_lt h0'⟩
      rw [htk, List.filter_append, List.filter_cons, if_pos h1]
      exact hw2
    · refine ⟨⟨k + 1, rfl, by omega, ?_, hf.keep0 hf3⟩, mu_lt h0'⟩
      rw [htk, List.filter_append, List.filter_cons, if_neg (by simpa using h1)]
      simpa using ho.keep hf3
  · rw [List.take_of_length_le (by simp at h0; omega)] at ho
    exact ho.base hn1.fr.size
theorem rOut_ok {a : Option Addr} {n c : Nat} {xs : List Smp} {f t : Int} {H : Heap} {K : Option Addr → Nat → Nat → Heap → Prop} (hx : Sl encS H a n c xs) (hn : n ≤ 1000000000)
    (hk : ∀ a' n' c' H', Own encS 26 H.size H' a' n' c' (xs.filter (fun x => !inR f t x)) → Fr [] H H' → K a' n' c' H') :
    CallH Try.prog fn_ref13_Out ⟨[.slice a n c, vR f t]⟩ H fun v H' => ∃ a n c, v = .slice a n c ∧ K a n c H' := by
  apply vc_ref13_Out
  have hlx := hx.len
  intro b H1 hn1 b1 H2 hn2
  refine ⟨fun vs H' => match vs with | [.slice o p q, .int _ i] => ∃ (k : Nat), i = k ∧ k ≤ n ∧ Own encS 26 H1.size H' o p q ((xs.take k).filter (fun x => !inR f t x)) ∧ Fr [] H1 H' | _ => False,
    fun vs _ => match vs with | [_, .int _ i] => n - i.toNat | _ => 0, ⟨0, rfl, by omega, Own.made encS 26 hn2 (Nat.le_refl _), hn2.fr⟩, ?_⟩
  rintro J o p q i H' ⟨k, rfl, hle, ho, hf⟩
  have hf0 : Fr [] H H' := hn1.fr.keep0 hf
  have hp : p ≤ k := by
    rw [ho.1]
    exact Nat.le_trans (List.length_filter_le _ _) (by simp; omega)
  refine brB_of (fun h0 => ?_) (fun h0 => ⟨_, _, _, rfl, hk _ _ _ _ ?_ hf0⟩)
  · have h0' : k < n := by simpa using h0
    have hx1 : xs[k]? = some (xs[k]'(by omega)) := by simp
    have htk : xs.take (k + 1) = xs.take k ++ [xs[k]'(by omega)] := by rw [List.take_add_one, hx1]; rfl
    generalize xs[k]'(by omega) = y at hx1 htk
    rw [succ64 (by omega)]
    refine (hx.keep hf0).get rfl hx1 (decide_eq_true (by omega)) fun ad ea hc => ⟨_, _, ldS hc, ?_⟩
    refine ⟨_, _, (hn1.blk.keep hf).ldA0 (us := [.int .i64 f, .int .i64 t]) (by kernel_rfl) (by kernel_rfl) rfl, ?_⟩
    refine in_ok fun H3 hf3 => ?_
    refine brB_of (fun h1 => ?_) (fun h1 => ?_)
    · refine (hx.keep (hf0.keep0 hf3)).get rfl hx1 (decide_eq_true (by omega)) fun ad ea hc => ⟨_, _, ldS hc, ?_⟩
      refine ap_one (E := encS) y slice22 elem26 (ho.keep hf3) (hf.keep0 hf3) rfl (by omega) fun _ o2 p2 q2 H4 hw2 hf4 _ => ⟨⟨k + 1, rfl, by omega, ?_, hf4⟩, mu_lt h0'⟩
      rw [htk, List.filter_append, List.filter_cons, if_pos (by simpa using h1)]
      exact hw2
    · refine ⟨⟨k + 1, rfl, by omega, ?_, hf.keep0 hf3⟩, mu_lt h0'⟩
      rw [htk, List.filter_append, List.filter_cons, if_neg (by simpa using h1)]
      simpa using ho.keep hf3
  · rw [List.take_of_length_le (by simp at h0; omega)] at ho
    exact ho.base hn1.fr.size
end Go.Proofs
