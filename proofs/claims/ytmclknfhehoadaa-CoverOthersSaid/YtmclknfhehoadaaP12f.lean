/- A part of a proof: see the last text of this claim. -/
import Derived.Test.YtmclknfhehoadaaP12e
import Derived.Test.YtmclknfhehoadaaQ12b
set_option linter.unusedVariables false
open Go Go.GV
namespace Go.Proofs

abbrev Smp := Int × Int
def encS : Enc Smp := ⟨fun x => [.int .i64 x.1, .int .i64 x.2], 2, fun _ => rfl, by decide, fun _ v h => by simp at h; rcases h with rfl | rfl <;> rfl⟩
theorem elem36 : elemB Try.prog 36 2 16 = true := by kernel_rfl
theorem slice33 : sliceB Try.prog 33 36 = true := by kernel_rfl
abbrev vS (x : Smp) : Value := .agg ⟨[.int .i64 x.1, .int .i64 x.2]⟩
theorem ldS {H : Heap} {ad : Addr} {x : Smp} (h : CellsAt H ad (encS.cells x)) : Ld Try.prog 36 H ad (vS x) := ld_many (by kernel_rfl) (by kernel_rfl) h
theorem ldT {H : Heap} {ad : Addr} {x : Smp} (h : CellsAt H ad (encS.cells x)) : Ld Try.prog 3 H ad (.int .i64 x.1) := ld_cell (by kernel_rfl) (by have := h 0 _ rfl; rwa [addr_add0] at this)
def TellsS (D : Value) (p : Smp → Bool) (G : Heap → Prop) : Prop := ∀ (x : Smp) (H : Heap) (K : Bool → Heap → Prop), G H → (∀ H', Fr [] H H' → K (p x) H') → CallV Try.prog D [vS x] H fun v H' => ∃ b, v = .bool b ∧ K b H'

theorem IndexFuncS_ok {D : Value} {p : Smp → Bool} {G : Heap → Prop} {a : Option Addr} {n c : Nat} {xs : List Smp} {H : Heap} {K : Int → Heap → Prop} (hD : TellsS D p G) (hG : ∀ H', Fr [] H H' → G H') (hx : Sl encS H a n c xs) (hn : n ≤ 1000000000)
    (hk : ∀ (i : Nat) H', i ≤ n → (∀ j x, j < i → xs[j]? = some x → p x = false) → (i < n → ∀ x, xs[i]? = some x → p x = true) → Fr [] H H' → K (if i < n then i else -1) H') :
    CallH Try.prog fn_slices_IndexFunc___api_Sample_api_Sample_ ⟨[.slice a n c, D]⟩ H fun v H' => ∃ r, v = .int .i64 r ∧ K r H' := by
  apply vc_slices_IndexFunc___api_Sample_api_Sample_
  have hlx := hx.len
  refine ⟨fun vs H' => match vs with | [.int _ i] => ∃ k : Nat, i = k ∧ k ≤ n ∧ (∀ j x, j < k → xs[j]? = some x → p x = false) ∧ Fr [] H H' | _ => False,
    fun vs _ => match vs with | [.int _ i] => n - i.toNat | _ => 0, ⟨0, rfl, by omega, fun _ _ h => by omega, Fr.refl _ _⟩, ?_⟩
  rintro J i H' ⟨k, rfl, hle, ht, hf⟩
  refine brB_of (fun h0 => ?_) (fun h0 => ⟨_, rfl, ?_⟩)
  · have h0' : k < n := by simpa using h0
    have hx1 : xs[k]? = some (xs[k]'(by omega)) := by simp
    generalize xs[k]'(by omega) = y at hx1
    rw [succ64 (by omega)]
    refine (hx.keep hf).get rfl hx1 (decide_eq_true (by omega)) fun ad ea hc => ⟨_, _, ldS hc, ?_⟩
    refine hD y H' _ (hG _ hf) fun H2 hf2 => ?_
    have hf' := hf.keep0 hf2
    refine brB_of (fun h1 => ⟨_, rfl, ?_⟩) (fun h1 => ?_)
    · have := hk k H2 hle ht (fun _ x hx => by rw [hx1] at hx; cases hx; exact h1) hf'
      rwa [if_pos h0'] at this
    · refine ⟨⟨k + 1, rfl, by omega, fun j x hj hxj => ?_, hf'⟩, mu_lt h0'⟩
      by_cases hjk : j < k
      · exact ht j x hjk hxj
      · have : j = k := by omega
        subst this
        rw [hx1] at hxj
        cases hxj
        exact h1
  · have hkn : ¬ k < n := by simpa using h0
    have := hk k H' hle ht (fun h => absurd h hkn) hf
    rwa [if_neg hkn] at this

theorem zero36 : zeroOf Try.prog 36 = some (.agg ⟨[.int .i64 0, .int .i64 0]⟩) := by kernel_rfl

theorem filter_noneS {l : List Smp} {p : Smp → Bool} (h : ∀ (j : Nat) (x : Smp), l[j]? = some x → p x = false) : l.filter (fun x => !p x) = l := by
  refine List.filter_eq_self.2 fun x hx => ?_
  obtain ⟨j, hj⟩ := List.mem_iff_getElem?.1 hx
  rw [h j x hj]; rfl

theorem DeleteFuncS_ok {D : Value} {p : Smp → Bool} {G : Heap → Prop} {base : Nat} {a : Option Addr} {n c : Nat} {xs : List Smp} {H : Heap} {K : Option Addr → Nat → Nat → Heap → Prop} (hD : TellsS D p G) (hG : ∀ H', Fr (blkL a) H H' → G H') (ho : Own encS 36 base H a n c xs) (hn : n ≤ 1000000000)
    (hk : ∀ n' H', Own encS 36 base H' a n' c (xs.filter fun x => !p x) → n' ≤ n → Fr (blkL a) H H' → K a n' c H') :
    CallH Try.prog fn_slices_DeleteFunc___api_Sample_api_Sample_ ⟨[.slice a n c, D]⟩ H fun v H' => ∃ a n c, v = .slice a n c ∧ K a n c H' := by
  apply vc_slices_DeleteFunc___api_Sample_api_Sample_
  have hlx := ho.1
  refine IndexFuncS_ok hD (fun H' hf => hG H' (hf.mono (by simp))) ho.sl hn fun i H1 hi hno hyes hf1 => ?_
  have hf1' : Fr (blkL a) H H1 := hf1.mono (by simp)
  by_cases hin : i < n
  · rw [if_pos hin]
    refine brB_of (fun h => by have := (beq_iff_eq.1 h); omega) (fun _ => ?_)
    rw [succ64 (by omega)]
    have hxi : xs[i]? = some (xs[i]'(by omega)) := by simp
    have hpi : p (xs[i]'(by omega)) = true := hyes hin _ hxi
    have hti : (xs.take i).filter (fun x => !p x) = xs.take i := filter_noneS fun j x hj => by
      rw [List.getElem?_take] at hj
      split at hj
      · exact hno j x (by assumption) hj
      · cases hj
    refine ⟨fun vs H' => match vs with | [.int _ i, .int _ j] => ∃ (k m : Nat) (ws : List Smp), i = k ∧ j = m ∧ k < m ∧ m ≤ n ∧ Own encS 36 base H' a n c ws ∧ ws.take k = (xs.take m).filter (fun x => !p x) ∧ ws.drop m = xs.drop m ∧ Fr (blkL a) H H' | _ => False,
      fun vs _ => match vs with | [_, .int _ i] => n - i.toNat | _ => 0, ⟨i, i + 1, xs, rfl, rfl, by omega, by omega, ho.keep hf1, ?_, rfl, hf1'⟩, ?_⟩
    · rw [List.take_add_one, hxi, List.filter_append, hti]
      simp [hpi]
    · rintro J i' j' H2 ⟨k, m, ws, rfl, rfl, hkm, hmn, how, htk, hdr, hf2⟩
      have hlw := how.1
      refine brB_of (fun h0 => ?_) (fun h0 => ?_)
      · have h0' : m < n := by simpa using h0
        have hxm : xs[m]? = some (xs[m]'(by omega)) := by simp
        have hwm : ws[m]? = some (xs[m]'(by omega)) := by
          have := congrArg (fun l => l[0]?) hdr
          simp only [List.getElem?_drop, Nat.add_zero] at this
          rw [this, hxm]
        have htm : xs.take (m + 1) = xs.take m ++ [xs[m]'(by omega)] := by rw [List.take_add_one, hxm]; rfl
        have hdm : ws.drop (m + 1) = xs.drop (m + 1) := by
          have := congrArg (fun l => l.drop 1) hdr
          simpa [List.drop_drop] using this
        generalize xs[m]'(by omega) = y at hxm hwm htm
        rw [succ64 (by omega), succ64 (by omega)]
        refine how.sl.get rfl hwm (decide_eq_true (by omega)) fun ad ea hc => ⟨_, _, ldS hc, ?_⟩
        refine var_blk (by kernel_rfl) (by kernel_rfl) (by simp [Value.cells, Value.oneCell']) rfl fun b H3 hb hB hf3 => ?_
        have hld : ∀ {H' : Heap}, Fr [] H3 H' → Ld Try.prog 36 H' ⟨b, 0, none⟩ (vS y) := fun hf => (hB.keep hf).ldAK (j := 0) (us := [.int .i64 y.1, .int .i64 y.2]) (by kernel_rfl) (by kernel_rfl) rfl
        refine ⟨_, _, hld (Fr.refl _ _), ?_⟩
        have hf23 : Fr (blkL a) H H3 := hf2.trans' hf3 (fun _ h _ => h) (by simp)
        refine hD y H3 _ (hG _ hf23) fun H4 hf4 => ?_
        have hf24 : Fr (blkL a) H H4 := hf23.trans' hf4 (fun _ h _ => h) (by simp)
        have how4 := (how.keep hf3).keep hf4
        refine brB_of (fun h1 => ?_) (fun h1 => ?_)
        · refine ⟨_, _, hld hf4, ?_⟩
          refine own_put (E := encS) y how4 rfl (by omega) (decide_eq_true (by omega)) rfl (by kernel_rfl) (by kernel_rfl) fun H5 how5 hf5 => ⟨⟨k + 1, m + 1, _, rfl, rfl, by omega, by omega, how5, ?_, ?_, hf24.trans' hf5 (fun _ h _ => h) (fun _ h _ => h)⟩, mu_lt h0'⟩
          · rw [htm, List.filter_append, List.filter_cons, if_pos h1, ← htk, List.take_add_one, List.take_set_of_le (Nat.le_refl _), List.getElem?_set_self (by omega)]
            rfl
          · rw [List.drop_set_of_lt (by omega), hdm]
        · refine ⟨⟨k, m + 1, ws, rfl, rfl, by omega, by omega, how4, ?_, hdm, hf24⟩, mu_lt h0'⟩
          rw [htm, List.filter_append, List.filter_cons, if_neg (by simpa using h1), htk]
          simp
      · have hmn' : m = n := by simp at h0; omega
        subst hmn'
        have hcap := how.sl.cap
        refine chk_of ⟨by omega, by omega, by omega⟩ ?_
        simp only [Int.toNat_natCast]
        refine clear_tail (E := encS) slice33 zero36 rfl (by simp [Value.oneCell']) how (by omega) fun H3 how3 hf3 => chk_of ⟨by omega, by omega, by omega⟩ ?_
        refine ⟨_, _, _, rfl, hk _ H3 ?_ (by omega) (hf2.trans' hf3 (fun _ h _ => h) (fun _ h _ => h))⟩
        rw [htk, List.take_of_length_le (by omega)] at how3
        simpa using how3
  · rw [if_neg hin]
    refine brB_of (fun _ => ⟨_, _, _, rfl, hk n H1 ?_ (Nat.le_refl _) hf1'⟩) (fun h => by simp at h)
    rw [filter_noneS fun j x hj => hno j x (by have := (List.getElem?_eq_some_iff.1 hj).1; omega) hj]
    exact ho.keep hf1

theorem CloneS_ok {a : Option Addr} {n c : Nat} {xs : List Smp} {H : Heap} {K : Option Addr → Nat → Nat → Heap → Prop} (hx : Sl encS H a n c xs) (hn : n ≤ 1000000000)
    (hk : ∀ a' n' c' H', Own encS 36 H.size H' a' n' c' xs → Fr [] H H' → K a' n' c' H') :
    CallH Try.prog fn_slices_Clone___api_Sample_api_Sample_ ⟨[.slice a n c]⟩ H fun v H' => ∃ a n c, v = .slice a n c ∧ K a n c H' := by
  apply vc_slices_Clone___api_Sample_api_Sample_
  refine brB_of (fun h => ⟨_, _, _, rfl, ?_⟩) (fun h b H1 hn1 => ?_)
  · have : a = none := by simpa using h
    subst this
    have hxs : xs = [] := by
      rcases hx.arr with h | ⟨_, _, e, _⟩
      · exact h
      · cases e
    subst hxs
    exact hk none 0 0 H (Own.nil _ _ _ _) (Fr.refl _ _)
  · have ho0 : Own encS 36 H.size H1 (some ⟨b, 0, none⟩) 0 0 [] := Own.made encS 36 hn1 (Nat.le_refl _)
    refine ap_own (E := encS) slice33 elem36 ho0 hn1.fr (hx.keep hn1.fr) (by omega) fun o p q H2 ho hf _ => ⟨_, _, _, rfl, hk _ _ _ _ ho hf⟩
end Go.Proofs
