/- A part of a proof: see the last text of this claim. -/
import Derived.Test.YtjpjmpnlomkdbaaP13b
set_option linter.unusedVariables false
open Go Go.GV
namespace Go.Proofs

/-- A function value that tells of samples whether p, in heaps such as G. -/
def Tells (D : Value) (p : Smp → Bool) (G : Heap → Prop) : Prop := ∀ (x : Smp) (H : Heap) (K : Bool → Heap → Prop), G H → (∀ H', Fr [] H H' → K (p x) H') → CallV Try.prog D [vS x] H fun v H' => ∃ b, v = .bool b ∧ K b H'

theorem within_ok {f t : Int} {H : Heap} {K : Value → Heap → Prop} (hk : ∀ H' b, H.size ≤ b → Blk H' ⟨b, 0, none⟩ [.int .i64 f, .int .i64 t] → Fr [] H H' → K (.func (.func 51) #[] #[.pointer (some ⟨b, 0, none⟩)]) H') :
    CallH Try.prog fn_series_within ⟨[vR f t]⟩ H fun v H' => ∃ u, v = u ∧ K u H' := by
  apply vc_series_within
  intro b H1 hn1
  exact ⟨_, rfl, hk H1 b (Nat.le_of_eq hn1.eq.symm) hn1.blk hn1.fr⟩

theorem tells_within {f t : Int} {b : Nat} : Tells (.func (.func 51) #[] #[.pointer (some ⟨b, 0, none⟩)]) (inR f t) (fun H => Blk H ⟨b, 0, none⟩ [.int .i64 f, .int .i64 t]) := by
  intro x H K hg hk
  refine ⟨51, #[], _, rfl, by kernel_rfl, ?_⟩
  apply vc_series_within_1
  intro b1 H1 hn1
  have hk' := hk H1 hn1.fr
  have hg' := hg.keep hn1.fr
  unfold inR at hk'
  refine ⟨_, hn1.blk.ldK (j := 0) (by kernel_rfl) rfl, _, hg'.ld0 (by kernel_rfl) rfl, brB_of (fun h => ⟨_, hn1.blk.ldK (j := 0) (by kernel_rfl) rfl, _, hg'.ld (j := 1) (by kernel_rfl) rfl, _, rfl, ?_⟩) (fun h => ⟨_, rfl, ?_⟩)⟩
  · have h' : decide (f ≤ x.1) = true := h
    rwa [h', Bool.true_and] at hk'
  · have h' : decide (f ≤ x.1) = false := h
    rwa [h', Bool.false_and] at hk'

theorem tells_not {D : Value} {p : Smp → Bool} {G : Heap → Prop} {b : Nat} (hD : Tells D p G) (hG : ∀ H H', G H → Fr [] H H' → G H') (h1 : D.oneCell' = true) : Tells (.func (.func 36) #[] #[.pointer (some ⟨b, 0, none⟩)]) (fun x => !p x) (fun H => G H ∧ Blk H ⟨b, 0, none⟩ [D]) := by
  intro x H K hg hk
  refine ⟨36, #[], _, rfl, by kernel_rfl, ?_⟩
  apply vc_series_In_1
  intro b1 H1 hn1
  refine ⟨D, (hg.2.keep hn1.fr).ld0 (by kernel_rfl) rfl, _, _, hn1.blk.ldAK (j := 0) (us := [.int .i64 x.1, .int .i64 x.2]) (by kernel_rfl) (by kernel_rfl) rfl, ?_⟩
  exact hD x H1 _ (hG _ _ hg.1 hn1.fr) fun H2 hf2 => ⟨_, rfl, hk H2 (hn1.fr.keep0 hf2)⟩

def idxI (p : Smp → Bool) (xs : List Smp) : Int := match xs.findIdx? p with | some i => i | none => -1

theorem IndexFunc_ok {D : Value} {p : Smp → Bool} {G : Heap → Prop} {a : Option Addr} {n c : Nat} {xs : List Smp} {H : Heap} {K : Int → Heap → Prop} (hD : Tells D p G) (hG : ∀ H', Fr [] H H' → G H') (hx : Sl encS H a n c xs) (hn : n ≤ 1000000000)
    (hk : ∀ (i : Nat) H', i ≤ n → (∀ j x, j < i → xs[j]? = some x → p x = false) → (i < n → ∀ x, xs[i]? = some x → p x = true) → Fr [] H H' → K (if i < n then i else -1) H') :
    CallH Try.prog fn_slices_IndexFunc___api_Sample_api_Sample_ ⟨[.slice a n c, D]⟩ H fun v H' => ∃ r, v = .int .i64 r ∧ K r H' := by
  apply vc_slices_IndexFunc___api_Sample_api_Sample_
  have hlx := hx.len
  refine ⟨fun vs H' => match vs with | [.int _ i] => ∃ k : Nat, i = k ∧ k ≤ n ∧ (∀ j x, j < k → xs[j]? = some x → p x = false) ∧ Fr [] H H' | _ => False,
    fun vs _ => match vs with | [.int _ i] => n - i.toNat | _ => 0, ⟨0, rfl, by omega, fun _ _ h => by omega, Fr.refl _ _⟩, ?_⟩
  rintro J i H' ⟨k, rfl, hle, ht, hf⟩
  refine brB_of (fun h0 => ?_) (fun h0 => ⟨_, rfl, ?_⟩)
  · have h0' : k < n := by simpa using h0
    have hx1 : xs[k]? = some (xs[k]'(by omega)) := by simp
    generalize xs[k]'(by omega) = y at hx1
    rw [succ64 (by omega)]
    refine (hx.keep hf).get rfl hx1 (decide_eq_true (by omega)) fun ad ea hc => ⟨_, _, ldS hc, ?_⟩
    refine hD y H' _ (hG _ hf) fun H2 hf2 => ?_
    have hf' := hf.keep0 hf2
    refine brB_of (fun h1 => ⟨_, rfl, ?_⟩) (fun h1 => ?_)
    · have := hk k H2 hle ht (fun _ x hx => by rw [hx1] at hx; cases hx; exact h1) hf'
      rwa [if_pos h0'] at this
    · refine ⟨⟨k + 1, rfl, by omega, fun j x hj hxj => ?_, hf'⟩, mu_lt h0'⟩
      by_cases hjk : j < k
      · exact ht j x hjk hxj
      · have : j = k := by omega
        subst this
        rw [hx1] at hxj
        cases hxj
        exact h1
  · have hkn : ¬ k < n := by simpa using h0
    have := hk k H' hle ht (fun h => absurd h hkn) hf
    rwa [if_neg hkn] at this

theorem zero26 : zeroOf Try.prog 26 = some (.agg ⟨[.int .i64 0, .int .i64 0]⟩) := by kernel_rfl

theorem filter_none {l : List Smp} {p : Smp → Bool} (h : ∀ (j : Nat) (x : Smp), l[j]? = some x → p x = false) : l.filter (fun x => !p x) = l := by
  refine List.filter_eq_self.2 fun x hx => ?_
  obtain ⟨j, hj⟩ := List.mem_iff_getElem?.1 hx
  rw [h j x hj]; rfl

theorem DeleteFunc_ok {D : Value} {p : Smp → Bool} {G : Heap → Prop} {base : Nat} {a : Option Addr} {n c : Nat} {xs : List Smp} {H : Heap} {K : Option Addr → Nat → Nat → Heap → Prop} (hD : Tells D p G) (hG : ∀ H', Fr (blkL a) H H' → G H') (ho : Own encS 26 base H a n c xs) (hn : n ≤ 1000000000)
    (hk : ∀ n' H', Own encS 26 base H' a n' c (xs.filter fun x => !p x) → n' ≤ n → Fr (blkL a) H H' → K a n' c H') :
    CallH Try.prog fn_slices_DeleteFunc___api_Sample_api_Sample_ ⟨[.slice a n c, D]⟩ H fun v H' => ∃ a n c, v = .slice a n c ∧ K a n c H' := by
  apply vc_slices_DeleteFunc___api_Sample_api_Sample_
  have hlx := ho.1
  refine IndexFunc_ok hD (fun H' hf => hG H' (hf.mono (by simp))) ho.sl hn fun i H1 hi hno hyes hf1 => ?_
  have hf1' : Fr (blkL a) H H1 := hf1.mono (by simp)
  by_cases hin : i < n
  · rw [if_pos hin]
    refine brB_of (fun h => by have := (beq_iff_eq.1 h); omega) (fun _ => ?_)
    rw [succ64 (by omega)]
    have hxi : xs[i]? = some (xs[i]'(by omega)) := by simp
    have hpi : p (xs[i]'(by omega)) = true := hyes hin _ hxi
    have hti : (xs.take i).filter (fun x => !p x) = xs.take i := filter_none fun j x hj => by
      rw [List.getElem?_take] at hj
      split at hj
      · exact hno j x (by assumption) hj
      · cases hj
    refine ⟨fun vs H' => match vs with | [.int _ i, .int _ j] => ∃ (k m : Nat) (ws : List Smp), i = k ∧ j = m ∧ k < m ∧ m ≤ n ∧ Own encS 26 base H' a n c ws ∧ ws.take k = (xs.take m).filter (fun x => !p x) ∧ ws.drop m = xs.drop m ∧ Fr (blkL a) H H' | _ => False,
      fun vs _ => match vs with | [_, .int _ i] => n - i.toNat | _ => 0, ⟨i, i + 1, xs, rfl, rfl, by omega, by omega, ho.keep hf1, ?_, rfl, hf1'⟩, ?_⟩
    · rw [List.take_add_one, hxi, List.filter_append, hti]
      simp [hpi]
    · rintro J i' j' H2 ⟨k, m, ws, rfl, rfl, hkm, hmn, how, htk, hdr, hf2⟩
      have hlw := how.1
      refine brB_of (fun h0 => ?_) (fun h0 => ?_)
      · have h0' : m < n := by simpa using h0
        have hxm : xs[m]? = some (xs[m]'(by omega)) := by simp
        have hwm : ws[m]? = some (xs[m]'(by omega)) := by
          have := congrArg (fun l => l[0]?) hdr
          simp only [List.getElem?_drop, Nat.add_zero] at this
          rw [this, hxm]
        have htm : xs.take (m + 1) = xs.take m ++ [xs[m]'(by omega)] := by rw [List.take_add_one, hxm]; rfl
        have hdm : ws.drop (m + 1) = xs.drop (m + 1) := by
          have := congrArg (fun l => l.drop 1) hdr
          simpa [List.drop_drop] using this
        generalize xs[m]'(by omega) = y at hxm hwm htm
        rw [succ64 (by omega), succ64 (by omega)]
        refine how.sl.get rfl hwm (decide_eq_true (by omega)) fun ad ea hc => ⟨_, _, ldS hc, ?_⟩
        refine var_blk (by kernel_rfl) (by kernel_rfl) (by simp [Value.cells, Value.oneCell']) rfl fun b H3 hb hB hf3 => ?_
        have hld : ∀ {H' : Heap}, Fr [] H3 H' → Ld Try.prog 26 H' ⟨b, 0, none⟩ (vS y) := fun hf => (hB.keep hf).ldAK (j := 0) (us := [.int .i64 y.1, .int .i64 y.2]) (by kernel_rfl) (by kernel_rfl) rfl
        refine ⟨_, _, hld (Fr.refl _ _), ?_⟩
        have hf23 : Fr (blkL a) H H3 := hf2.trans' hf3 (fun _ h _ => h) (by simp)
        refine hD y H3 _ (hG _ hf23) fun H4 hf4 => ?_
        have hf24 : Fr (blkL a) H H4 := hf23.trans' hf4 (fun _ h _ => h) (by simp)
        have how4 := (how.keep hf3).keep hf4
        refine brB_of (fun h1 => ?_) (fun h1 => ?_)
        · refine ⟨_, _, hld hf4, ?_⟩
          refine own_put (E := encS) y how4 rfl (by omega) (decide_eq_true (by omega)) rfl (by kernel_rfl) (by kernel_rfl) fun H5 how5 hf5 => ⟨⟨k + 1, m + 1, _, rfl, rfl, by omega, by omega, how5, ?_, ?_, hf24.trans' hf5 (fun _ h _ => h) (fun _ h _ => h)⟩, mu_lt h0'⟩
          · rw [htm, List.filter_append, List.filter_cons, if_pos h1, ← htk, List.take_add_one, List.take_set_of_le (Nat.le_refl _), List.getElem?_set_self (by omega)]
            rfl
          · rw [List.drop_set_of_lt (by omega), hdm]
        · refine ⟨⟨k, m + 1, ws, rfl, rfl, by omega, by omega, how4, ?_, hdm, hf24⟩, mu_lt h0'⟩
          rw [htm, List.filter_append, List.filter_cons, if_neg (by simpa using h1), htk]
          simp
      · have hmn' : m = n := by simp at h0; omega
        subst hmn'
        have hcap := how.sl.cap
        refine chk_of ⟨by omega, by omega, by omega⟩ ?_
        simp only [Int.toNat_natCast]
        refine clear_tail (E := encS) slice22 zero26 rfl (by simp [Value.oneCell']) how (by omega) fun H3 how3 hf3 => chk_of ⟨by omega, by omega, by omega⟩ ?_
        refine ⟨_, _, _, rfl, hk _ H3 ?_ (by omega) (hf2.trans' hf3 (fun _ h _ => h) (fun _ h _ => h))⟩
        rw [htk, List.take_of_length_le (by omega)] at how3
        simpa using how3
  · rw [if_neg hin]
    refine brB_of (fun _ => ⟨_, _, _, rfl, hk n H1 ?_ (Nat.le_refl _) hf1'⟩) (fun h => by simp at h)
    rw [filter_none fun j x hj => hno j x (by have := (List.getElem?_eq_some_iff.1 hj).1; omega) hj]
    exact ho.keep hf1

theorem Clone_ok {a : Option Addr} {n c : Nat} {xs : List Smp} {H : Heap} {K : Option Addr → Nat → Nat → Heap → Prop} (hx : Sl encS H a n c xs) (hn : n ≤ 1000000000)
    (hk : ∀ a' n' c' H', Own encS 26 H.size H' a' n' c' xs → Fr [] H H' → K a' n' c' H') :
    CallH Try.prog fn_slices_Clone___api_Sample_api_Sample_ ⟨[.slice a n c]⟩ H fun v H' => ∃ a n c, v = .slice a n c ∧ K a n c H' := by
  apply vc_slices_Clone___api_Sample_api_Sample_
  refine brB_of (fun h => ⟨_, _, _, rfl, ?_⟩) (fun h b H1 hn1 => ?_)
  · have : a = none := by simpa using h
    subst this
    have hxs : xs = [] := by
      rcases hx.arr with h | ⟨_, _, e, _⟩
      · exact h
      · cases e
    subst hxs
    exact hk none 0 0 H (Own.nil _ _ _ _) (Fr.refl _ _)
  · have ho0 : Own encS 26 H.size H1 (some ⟨b, 0, none⟩) 0 0 [] := Own.made encS 26 hn1 (Nat.le_refl _)
    refine ap_own (E := encS) slice22 elem26 ho0 hn1.fr (hx.keep hn1.fr) (by omega) fun o p q H2 ho hf _ => ⟨_, _, _, rfl, hk _ _ _ _ ho hf⟩

theorem In_ok {a : Option Addr} {n c : Nat} {xs : List Smp} {f t : Int} {H : Heap} {K : Option Addr → Nat → Nat → Heap → Prop} (hx : Sl encS H a n c xs) (hn : n ≤ 1000000000)
    (hk : ∀ a' n' c' H', Own encS 26 H.size H' a' n' c' (xs.filter (inR f t)) → Fr [] H H' → K a' n' c' H') :
    CallH Try.prog fn_series_In ⟨[.slice a n c, vR f t]⟩ H fun v H' => ∃ a n c, v = .slice a n c ∧ K a n c H' := by
  apply vc_series_In
  intro b H1 hn1
  refine ⟨_, _, hn1.blk.ldAK (j := 0) (us := [.int .i64 f, .int .i64 t]) (by kernel_rfl) (by kernel_rfl) rfl, ?_⟩
  refine within_ok fun H2 b2 hb2 hB2 hf2 => ?_
  refine var_blk (by kernel_rfl) (by kernel_rfl) (by simp [Value.cells, Value.oneCell']) rfl fun b3 H3 hb3 hB3 hf3 => ?_
  have hf13 : Fr [] H H3 := (hn1.fr.keep0 hf2).keep0 hf3
  refine Clone_ok (hx.keep hf13) hn fun o p q H4 ho hf4 => ?_
  have hp := ho.1
  have hlx := hx.len
  have hb2' : b2 < H3.size := (hB2.keep hf3).lt
  have hb3' : b3 < H3.size := hB3.lt
  have hD := tells_not (b := b3) (tells_within (f := f) (t := t) (b := b2)) (fun H H' h hf => h.keep hf) rfl
  refine DeleteFunc_ok hD (fun H5 hf5 => ⟨?_, ?_⟩) ho (by omega) fun n' H5 ho5 hn' hf5 => ⟨_, _, _, rfl, hk _ _ _ _ ?_ ?_⟩
  · refine (((hB2.keep hf3).keep hf4)).fr hf5 fun h => ?_
    have := (ho.ge _ h).1
    simp at this
    omega
  · refine (hB3.keep hf4).fr hf5 fun h => ?_
    have := (ho.ge _ h).1
    simp at this
    omega
  · simp only [Bool.not_not] at ho5
    exact ho5.base hf13.size
  · exact (hf13.keep0 hf4).keep hf5 fun k hk => Nat.le_trans hf13.size (ho.ge k hk).1

theorem Out_ok {a : Option Addr} {n c : Nat} {xs : List Smp} {f t : Int} {H : Heap} {K : Option Addr → Nat → Nat → Heap → Prop} (hx : Sl encS H a n c xs) (hn : n ≤ 1000000000)
    (hk : ∀ a' n' c' H', Own encS 26 H.size H' a' n' c' (xs.filter (fun x => !inR f t x)) → Fr [] H H' → K a' n' c' H') :
    CallH Try.prog fn_series_Out ⟨[.slice a n c, vR f t]⟩ H fun v H' => ∃ a n c, v = .slice a n c ∧ K a n c H' := by
  apply vc_series_Out
  intro b H1 hn1
  have hlx := hx.len
  refine ⟨_, _, hn1.blk.ldAK (j := 0) (us := [.int .i64 f, .int .i64 t]) (by kernel_rfl) (by kernel_rfl) rfl, ?_⟩
  refine Clone_ok (hx.keep hn1.fr) hn fun o p q H2 ho hf2 => ⟨(hn1.blk.keep hf2).ldAK (j := 0) (us := [.int .i64 f, .int .i64 t]) (by kernel_rfl) (by kernel_rfl) rfl, ?_⟩
  have hp := ho.1
  refine within_ok fun H3 b3 hb3 hB3 hf3 => ?_
  refine DeleteFunc_ok (tells_within (f := f) (t := t) (b := b3)) (fun H5 hf5 => ?_) (ho.keep hf3) (by omega) fun n' H5 ho5 hn' hf5 => ⟨_, _, _, rfl, hk _ _ _ _ (ho5.base hn1.fr.size) ?_⟩
  · refine hB3.fr hf5 fun h => ?_
    have := (ho.ge _ h).2
    simp at this
    omega
  · exact ((hn1.fr.keep0 hf2).keep0 hf3).keep hf5 fun k hk => Nat.le_trans hn1.fr.size (ho.ge k hk).1
end Go.Proofs
