/- A part of a proof: see the last text of this claim. -/
import Derived.Test.YtmclknfhehoadaaGvSortK
import Derived.Test.YtmclknfhehoadaaVc12
import Derived.Test.YtmclknfhehoadaaL12
import Derived.Test.YtmclknfhehoadaaSh12
set_option linter.unusedVariables false
open Go Go.GV
namespace Go.Proofs

def encT : Enc Tmb := ⟨fun x => [.int .i64 x.1, .int .i64 x.2.1, .int .i64 x.2.2], 3, fun _ => rfl, by decide, fun _ v h => by simp at h; rcases h with rfl | rfl | rfl <;> rfl⟩
theorem elem28 : elemB Try.prog 28 3 24 = true := by kernel_rfl
theorem slice22 : sliceB Try.prog 22 28 = true := by kernel_rfl
abbrev vT (x : Tmb) : Value := .agg ⟨[.int .i64 x.1, .int .i64 x.2.1, .int .i64 x.2.2]⟩
theorem ldV {H : Heap} {ad : Addr} {x : Tmb} (h : CellsAt H ad (encT.cells x)) : Ld Try.prog 28 H ad (vT x) := ld_many (by kernel_rfl) (by kernel_rfl) h
theorem ldI {H : Heap} {ad : Addr} {x : Tmb} (h : CellsAt H ad (encT.cells x)) : Ld Try.prog 3 H ad (.int .i64 x.1) := ld_cell (by kernel_rfl) (by have := h 0 _ rfl; rwa [addr_add0] at this)
theorem succ64 {i : Nat} (h : i ≤ 1000000000000) : IntKind.i64.wrap ((i : Int) + 1) = ((i + 1 : Nat) : Int) := by
  rw [wrap64_of (by omega) (by omega)]; omega
theorem pred64 {i : Nat} (h : i ≤ 1000000000000) (h0 : 0 < i) : IntKind.i64.wrap ((i : Int) - 1) = ((i - 1 : Nat) : Int) := by
  rw [wrap64_of (by omega) (by omega)]; omega
theorem mu_lt {n i : Nat} (h : i < n) : n - ((i + 1 : Nat) : Int).toNat < n - ((i : Nat) : Int).toNat := by omega

def cmpI (x y : Int) : Int := if x < y then -1 else if x > y then 1 else 0
theorem Compare_ok {x y : Int} {H : Heap} {K : Int → Heap → Prop} (hk : K (cmpI x y) H) : CallH Try.prog fn_cmp_Compare_int_ ⟨[.int .i64 x, .int .i64 y]⟩ H fun v H' => ∃ n, v = .int .i64 n ∧ K n H' := by
  apply vc_cmp_Compare_int_
  apply vc_cmp_isNaN_int_
  refine ⟨_, rfl, ?_⟩
  apply vc_cmp_isNaN_int_
  refine ⟨_, rfl, ?_⟩
  refine brB_of (fun h => by simp at h) (fun _ => brB_of (fun h => by simp at h) (fun _ => ?_))
  unfold cmpI at hk
  refine brB_of (fun h => ⟨_, rfl, ?_⟩) (fun h => brB_of (fun h1 => ⟨_, rfl, ?_⟩) (fun h1 => ⟨_, rfl, ?_⟩))
  · rwa [if_pos (by simpa using h)] at hk
  · rwa [if_neg (by simpa using h), if_pos (by simpa using h1)] at hk
  · rwa [if_neg (by simpa using h), if_neg (by simpa using h1)] at hk

/-- A function value that tells of samples whether p, in heaps such as G. -/
def Tells (D : Value) (p : Tmb → Bool) (G : Heap → Prop) : Prop := ∀ (x : Tmb) (H : Heap) (K : Bool → Heap → Prop), G H → (∀ H', Fr [] H H' → K (p x) H') → CallV Try.prog D [vT x] H fun v H' => ∃ b, v = .bool b ∧ K b H'

theorem IndexFunc_ok {D : Value} {p : Tmb → Bool} {G : Heap → Prop} {a : Option Addr} {n c : Nat} {xs : List Tmb} {H : Heap} {K : Int → Heap → Prop} (hD : Tells D p G) (hG : ∀ H', Fr [] H H' → G H') (hx : Sl encT H a n c xs) (hn : n ≤ 1000000000)
    (hk : ∀ (i : Nat) H', i ≤ n → (∀ j x, j < i → xs[j]? = some x → p x = false) → (i < n → ∀ x, xs[i]? = some x → p x = true) → Fr [] H H' → K (if i < n then i else -1) H') :
    CallH Try.prog fn_slices_IndexFunc___api_Tomb_api_Tomb_ ⟨[.slice a n c, D]⟩ H fun v H' => ∃ r, v = .int .i64 r ∧ K r H' := by
  apply vc_slices_IndexFunc___api_Tomb_api_Tomb_
  have hlx := hx.len
  refine ⟨fun vs H' => match vs with | [.int _ i] => ∃ k : Nat, i = k ∧ k ≤ n ∧ (∀ j x, j < k → xs[j]? = some x → p x = false) ∧ Fr [] H H' | _ => False,
    fun vs _ => match vs with | [.int _ i] => n - i.toNat | _ => 0, ⟨0, rfl, by omega, fun _ _ h => by omega, Fr.refl _ _⟩, ?_⟩
  rintro J i H' ⟨k, rfl, hle, ht, hf⟩
  refine brB_of (fun h0 => ?_) (fun h0 => ⟨_, rfl, ?_⟩)
  · have h0' : k < n := by simpa using h0
    have hx1 : xs[k]? = some (xs[k]'(by omega)) := by simp
    generalize xs[k]'(by omega) = y at hx1
    rw [succ64 (by omega)]
    refine (hx.keep hf).get rfl hx1 (decide_eq_true (by omega)) fun ad ea hc => ⟨_, _, _, ldV hc, ?_⟩
    refine hD y H' _ (hG _ hf) fun H2 hf2 => ?_
    have hf' := hf.keep0 hf2
    refine brB_of (fun h1 => ⟨_, rfl, ?_⟩) (fun h1 => ?_)
    · have := hk k H2 hle ht (fun _ x hx => by rw [hx1] at hx; cases hx; exact h1) hf'
      rwa [if_pos h0'] at this
    · refine ⟨⟨k + 1, rfl, by omega, fun j x hj hxj => ?_, hf'⟩, mu_lt h0'⟩
      by_cases hjk : j < k
      · exact ht j x hjk hxj
      · have : j = k := by omega
        subst this
        rw [hx1] at hxj
        cases hxj
        exact h1
  · have hkn : ¬ k < n := by simpa using h0
    have := hk k H' hle ht (fun h => absurd h hkn) hf
    rwa [if_neg hkn] at this

theorem zero28 : zeroOf Try.prog 28 = some (.agg ⟨[.int .i64 0, .int .i64 0, .int .i64 0]⟩) := by kernel_rfl

theorem filter_none {l : List Tmb} {p : Tmb → Bool} (h : ∀ (j : Nat) (x : Tmb), l[j]? = some x → p x = false) : l.filter (fun x => !p x) = l := by
  refine List.filter_eq_self.2 fun x hx => ?_
  obtain ⟨j, hj⟩ := List.mem_iff_getElem?.1 hx
  rw [h j x hj]; rfl

theorem DeleteFunc_ok {D : Value} {p : Tmb → Bool} {G : Heap → Prop} {base : Nat} {a : Option Addr} {n c : Nat} {xs : List Tmb} {H : Heap} {K : Option Addr → Nat → Nat → Heap → Prop} (hD : Tells D p G) (hG : ∀ H', Fr (blkL a) H H' → G H') (ho : Own encT 28 base H a n c xs) (hn : n ≤ 1000000000)
    (hk : ∀ n' H', Own encT 28 base H' a n' c (xs.filter fun x => !p x) → n' ≤ n → Fr (blkL a) H H' → K a n' c H') :
    CallH Try.prog fn_slices_DeleteFunc___api_Tomb_api_Tomb_ ⟨[.slice a n c, D]⟩ H fun v H' => ∃ a n c, v = .slice a n c ∧ K a n c H' := by
  apply vc_slices_DeleteFunc___api_Tomb_api_Tomb_
  have hlx := ho.1
  refine IndexFunc_ok hD (fun H' hf => hG H' (hf.mono (by simp))) ho.sl hn fun i H1 hi hno hyes hf1 => ?_
  have hf1' : Fr (blkL a) H H1 := hf1.mono (by simp)
  by_cases hin : i < n
  · rw [if_pos hin]
    refine brB_of (fun h => by have := (beq_iff_eq.1 h); omega) (fun _ => ?_)
    rw [succ64 (by omega)]
    have hxi : xs[i]? = some (xs[i]'(by omega)) := by simp
    have hpi : p (xs[i]'(by omega)) = true := hyes hin _ hxi
    have hti : (xs.take i).filter (fun x => !p x) = xs.take i := filter_none fun j x hj => by
      rw [List.getElem?_take] at hj
      split at hj
      · exact hno j x (by assumption) hj
      · cases hj
    refine ⟨fun vs H' => match vs with | [.int _ i, .int _ j] => ∃ (k m : Nat) (ws : List Tmb), i = k ∧ j = m ∧ k < m ∧ m ≤ n ∧ Own encT 28 base H' a n c ws ∧ ws.take k = (xs.take m).filter (fun x => !p x) ∧ ws.drop m = xs.drop m ∧ Fr (blkL a) H H' | _ => False,
      fun vs _ => match vs with | [_, .int _ i] => n - i.toNat | _ => 0, ⟨i, i + 1, xs, rfl, rfl, by omega, by omega, ho.keep hf1, ?_, rfl, hf1'⟩, ?_⟩
    · rw [List.take_add_one, hxi, List.filter_append, hti]
      simp [hpi]
    · rintro J i' j' H2 ⟨k, m, ws, rfl, rfl, hkm, hmn, how, htk, hdr, hf2⟩
      have hlw := how.1
      refine brB_of (fun h0 => ?_) (fun h0 => ?_)
      · have h0' : m < n := by simpa using h0
        have hxm : xs[m]? = some (xs[m]'(by omega)) := by simp
        have hwm : ws[m]? = some (xs[m]'(by omega)) := by
          have := congrArg (fun l => l[0]?) hdr
          simp only [List.getElem?_drop, Nat.add_zero] at this
          rw [this, hxm]
        have htm : xs.take (m + 1) = xs.take m ++ [xs[m]'(by omega)] := by rw [List.take_add_one, hxm]; rfl
        have hdm : ws.drop (m + 1) = xs.drop (m + 1) := by
          have := congrArg (fun l => l.drop 1) hdr
          simpa [List.drop_drop] using this
        generalize xs[m]'(by omega) = y at hxm hwm htm
        rw [succ64 (by omega), succ64 (by omega)]
        refine how.sl.get rfl hwm (decide_eq_true (by omega)) fun ad ea hc => ⟨_, _, _, ldV hc, ?_⟩
        refine var_blk (by kernel_rfl) (by kernel_rfl) (by simp [Value.cells, Value.oneCell']) rfl fun b H3 hb hB hf3 => ?_
        have hld : ∀ {H' : Heap}, Fr [] H3 H' → Ld Try.prog 28 H' ⟨b, 0, none⟩ (vT y) := fun hf => (hB.keep hf).ldAK (j := 0) (us := [.int .i64 y.1, .int .i64 y.2.1, .int .i64 y.2.2]) (by kernel_rfl) (by kernel_rfl) rfl
        refine ⟨_, _, _, hld (Fr.refl _ _), ?_⟩
        have hf23 : Fr (blkL a) H H3 := hf2.trans' hf3 (fun _ h _ => h) (by simp)
        refine hD y H3 _ (hG _ hf23) fun H4 hf4 => ?_
        have hf24 : Fr (blkL a) H H4 := hf23.trans' hf4 (fun _ h _ => h) (by simp)
        have how4 := (how.keep hf3).keep hf4
        refine brB_of (fun h1 => ?_) (fun h1 => ?_)
        · refine ⟨_, _, _, hld hf4, ?_⟩
          refine own_put (E := encT) y how4 rfl (by omega) (decide_eq_true (by omega)) rfl (by kernel_rfl) (by kernel_rfl) fun H5 how5 hf5 => ⟨⟨k + 1, m + 1, _, rfl, rfl, by omega, by omega, how5, ?_, ?_, hf24.trans' hf5 (fun _ h _ => h) (fun _ h _ => h)⟩, mu_lt h0'⟩
          · rw [htm, List.filter_append, List.filter_cons, if_pos h1, ← htk, List.take_add_one, List.take_set_of_le (Nat.le_refl _), List.getElem?_set_self (by omega)]
            rfl
          · rw [List.drop_set_of_lt (by omega), hdm]
        · refine ⟨⟨k, m + 1, ws, rfl, rfl, by omega, by omega, how4, ?_, hdm, hf24⟩, mu_lt h0'⟩
          rw [htm, List.filter_append, List.filter_cons, if_neg (by simpa using h1), htk]
          simp
      · have hmn' : m = n := by simp at h0; omega
        subst hmn'
        have hcap := how.sl.cap
        refine chk_of ⟨by omega, by omega, by omega⟩ ?_
        simp only [Int.toNat_natCast]
        refine clear_tail (E := encT) slice22 zero28 rfl (by simp [Value.oneCell']) how (by omega) fun H3 how3 hf3 => chk_of ⟨by omega, by omega, by omega⟩ ?_
        refine ⟨_, _, _, rfl, hk _ H3 ?_ (by omega) (hf2.trans' hf3 (fun _ h _ => h) (fun _ h _ => h))⟩
        rw [htk, List.take_of_length_le (by omega)] at how3
        simpa using how3
  · rw [if_neg hin]
    refine brB_of (fun _ => ⟨_, _, _, rfl, hk n H1 ?_ (Nat.le_refl _) hf1'⟩) (fun h => by simp at h)
    rw [filter_none fun j x hj => hno j x (by have := (List.getElem?_eq_some_iff.1 hj).1; omega) hj]
    exact ho.keep hf1

theorem Clone_ok {a : Option Addr} {n c : Nat} {xs : List Tmb} {H : Heap} {K : Option Addr → Nat → Nat → Heap → Prop} (hx : Sl encT H a n c xs) (hn : n ≤ 1000000000)
    (hk : ∀ a' n' c' H', Own encT 28 H.size H' a' n' c' xs → Fr [] H H' → K a' n' c' H') :
    CallH Try.prog fn_slices_Clone___api_Tomb_api_Tomb_ ⟨[.slice a n c]⟩ H fun v H' => ∃ a n c, v = .slice a n c ∧ K a n c H' := by
  apply vc_slices_Clone___api_Tomb_api_Tomb_
  refine brB_of (fun h => ⟨_, _, _, rfl, ?_⟩) (fun h b H1 hn1 => ?_)
  · have : a = none := by simpa using h
    subst this
    have hxs : xs = [] := by
      rcases hx.arr with h | ⟨_, _, e, _⟩
      · exact h
      · cases e
    subst hxs
    exact hk none 0 0 H (Own.nil _ _ _ _) (Fr.refl _ _)
  · have ho0 : Own encT 28 H.size H1 (some ⟨b, 0, none⟩) 0 0 [] := Own.made encT 28 hn1 (Nat.le_refl _)
    refine ap_own (E := encT) slice22 elem28 ho0 hn1.fr (hx.keep hn1.fr) (by omega) fun o p q H2 ho hf _ => ⟨_, _, _, rfl, hk _ _ _ _ ho hf⟩


def hollow (x : Tmb) : Bool := decide (x.2.1 ≥ x.2.2)
theorem tells_hollow : Tells (.func (.func 23) #[] #[]) hollow (fun _ => True) := by
  intro x H K _ hk
  refine ⟨23, #[], #[], rfl, by kernel_rfl, ?_⟩
  apply vc_cover_Norm_1
  intro b H1 hn1
  exact ⟨_, hn1.blk.ldK (j := 1) (by kernel_rfl) rfl, _, hn1.blk.ldK (j := 2) (by kernel_rfl) rfl, _, rfl, hk H1 hn1.fr⟩

theorem Or2_ok {x y : Int} {H : Heap} {b c : Nat} {K : Int → Heap → Prop} (hb : Blk H ⟨b, 0, none⟩ [.int .i64 x, .int .i64 y]) (hk : K (if x ≠ 0 then x else y) H) :
    CallH Try.prog fn_cmp_Or_int_ ⟨[.slice (some ⟨b, 0, none⟩) 2 2]⟩ H fun v H' => ∃ n, v = .int .i64 n ∧ K n H' := by
  apply vc_cmp_Or_int_
  refine ⟨fun vs H' => match vs with | [.int _ i] => ∃ k : Nat, i = k ∧ k ≤ 2 ∧ (0 < k → x = 0) ∧ (1 < k → y = 0) ∧ H' = H | _ => False,
    fun vs _ => match vs with | [.int _ i] => 2 - i.toNat | _ => 0, ⟨0, rfl, by omega, by omega, by omega, rfl⟩, ?_⟩
  rintro J i H' ⟨k, rfl, hk2, h0, h1, rfl⟩
  refine brB_of (fun g => ?_) (fun g => ?_)
  · have g' : k < 2 := by have : (k : Int) < 2 := by simpa using g
                          omega
    refine exSome_of rfl (chk_true (decide_eq_true (by omega)) ?_)
    rw [succ64 (by omega)]
    rcases (by omega : k = 0 ∨ k = 1) with rfl | rfl
    · refine ⟨_, hb.ld (j := 0) (by kernel_rfl) rfl, brB_of (fun h => ⟨_, rfl, ?_⟩) (fun h => ⟨⟨1, rfl, by omega, fun _ => by simpa using h, by omega, rfl⟩, mu_lt g'⟩)⟩
      rw [if_pos (by simpa using h)] at hk
      exact hk
    · have hx := h0 (by omega)
      refine ⟨_, hb.ld (j := 1) (by kernel_rfl) rfl, brB_of (fun h => ⟨_, rfl, ?_⟩) (fun h => ⟨⟨2, rfl, by omega, fun _ => hx, fun _ => by simpa using h, rfl⟩, mu_lt g'⟩)⟩
      rw [if_neg (by simp [hx])] at hk
      exact hk
  · have g' : k = 2 := by have : ¬ (k : Int) < 2 := by simpa using g
                          omega
    subst g'
    rw [if_neg (by simp [h0 (by omega)]), h1 (by omega)] at hk
    exact ⟨_, rfl, hk⟩

def cmpT (x y : Tmb) : Int := if cmpI x.1 y.1 ≠ 0 then cmpI x.1 y.1 else cmpI x.2.1 y.2.1
theorem cmpT_ok (x y : Tmb) (H : Heap) (K : Int → Heap → Prop) (hk : ∀ H', Fr [] H H' → K (cmpT x y) H') : CallH Try.prog fn_cover_Norm_2 ⟨[vT x, vT y]⟩ H fun v H' => ∃ n, v = .int .i64 n ∧ K n H' := by
  apply vc_cover_Norm_2
  intro b H1 hn1 b1 H2 hn2
  have h1 := hn1.blk.keep hn2.fr
  have h2 := hn2.blk
  refine ⟨_, h1.ldK (j := 0) (by kernel_rfl) rfl, _, h2.ldK (j := 0) (by kernel_rfl) rfl, _, h1.ldK (j := 1) (by kernel_rfl) rfl, _, h2.ldK (j := 1) (by kernel_rfl) rfl, ?_⟩
  refine Compare_ok ⟨h2.ldK (j := 1) (by kernel_rfl) rfl, h1.ldK (j := 1) (by kernel_rfl) rfl, ?_⟩
  refine Compare_ok fun b3 H3 hn3 => ?_
  refine Or2_ok (c := 0) hn3.blk ⟨_, rfl, hk H3 ((hn1.fr.keep0 hn2.fr).keep0 hn3.fr)⟩
theorem cmpI_neg {x y : Int} : cmpI x y < 0 ↔ x < y := by unfold cmpI; split <;> (try split) <;> omega
theorem cmpI_zero {x y : Int} : cmpI x y = 0 ↔ x = y := by unfold cmpI; split <;> (try split) <;> omega
theorem cmpT_neg {x y : Tmb} : cmpT x y < 0 ↔ x.1 < y.1 ∨ x.1 = y.1 ∧ x.2.1 < y.2.1 := by
  unfold cmpT
  by_cases h : cmpI x.1 y.1 = 0
  · rw [if_neg (by simp [h]), cmpI_neg]
    have := cmpI_zero.1 h
    omega
  · rw [if_pos h, cmpI_neg]
    have : ¬ x.1 = y.1 := fun e => h (cmpI_zero.2 e)
    omega
theorem swoT : Go.Sort.SWO (ltOf cmpT) where
  irrefl x := by simp only [ltOf, decide_eq_false_iff_not, cmpT_neg]; omega
  trans x y z h1 h2 := by simp only [ltOf, decide_eq_true_eq, cmpT_neg] at *; omega
  ntrans x y z h1 h2 := by simp only [ltOf, decide_eq_false_iff_not, cmpT_neg] at *; omega
end Go.Proofs
