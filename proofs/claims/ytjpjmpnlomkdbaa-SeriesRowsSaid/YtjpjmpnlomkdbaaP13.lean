/- A part of a proof: see the last text of this claim. -/
import Derived.Test.YtjpjmpnlomkdbaaGvMore
import Derived.Test.YtjpjmpnlomkdbaaVc13
import Derived.Test.YtjpjmpnlomkdbaaL13
set_option linter.unusedVariables false
open Go Go.GV
namespace Go.Proofs

def encS : Enc Smp := ⟨fun x => [.int .i64 x.1, .int .i64 x.2], 2, fun _ => rfl, by decide, fun _ v h => by simp at h; rcases h with rfl | rfl <;> rfl⟩
theorem elem26 : elemB Try.prog 26 2 16 = true := by kernel_rfl
theorem slice22 : sliceB Try.prog 22 26 = true := by kernel_rfl
abbrev vS (x : Smp) : Value := .agg ⟨[.int .i64 x.1, .int .i64 x.2]⟩
theorem ldS {H : Heap} {ad : Addr} {x : Smp} (h : CellsAt H ad (encS.cells x)) : Ld Try.prog 26 H ad (vS x) := ld_many (by kernel_rfl) (by kernel_rfl) h
theorem ldT {H : Heap} {ad : Addr} {x : Smp} (h : CellsAt H ad (encS.cells x)) : Ld Try.prog 3 H ad (.int .i64 x.1) := ld_cell (by kernel_rfl) (by have := h 0 _ rfl; simpa [Addr.add] using this)

theorem succ64 {i : Nat} (h : i ≤ 1000000000000) : IntKind.i64.wrap ((i : Int) + 1) = ((i + 1 : Nat) : Int) := by
  rw [wrap64_of (by omega) (by omega)]; omega
theorem pred64 {i : Nat} (h : i ≤ 1000000000000) (h0 : 0 < i) : IntKind.i64.wrap ((i : Int) - 1) = ((i - 1 : Nat) : Int) := by
  rw [wrap64_of (by omega) (by omega)]; omega

def cmpI (x y : Int) : Int := if x < y then -1 else if x > y then 1 else 0
theorem Compare_ok {x y : Int} {H : Heap} {K : Int → Heap → Prop} (hk : K (cmpI x y) H) : CallH Try.prog fn_cmp_Compare_int_ ⟨[.int .i64 x, .int .i64 y]⟩ H fun v H' => ∃ n, v = .int .i64 n ∧ K n H' := by
  apply vc_cmp_Compare_int_
  apply vc_cmp_isNaN_int_
  refine ⟨_, rfl, ?_⟩
  apply vc_cmp_isNaN_int_
  refine ⟨_, rfl, ?_⟩
  refine brB_of (fun h => by simp at h) (fun _ => brB_of (fun h => by simp at h) (fun _ => ?_))
  unfold cmpI at hk
  refine brB_of (fun h => ⟨_, rfl, ?_⟩) (fun h => brB_of (fun h1 => ⟨_, rfl, ?_⟩) (fun h1 => ⟨_, rfl, ?_⟩))
  · rwa [if_pos (by simpa using h)] at hk
  · rwa [if_neg (by simpa using h), if_pos (by simpa using h1)] at hk
  · rwa [if_neg (by simpa using h), if_neg (by simpa using h1)] at hk

theorem byTime_ok {x y : Smp} {H : Heap} {K : Int → Heap → Prop} (hk : ∀ H', Fr [] H H' → K (cmpI x.1 y.1) H') : CallH Try.prog fn_series_byTime ⟨[vS x, vS y]⟩ H fun v H' => ∃ n, v = .int .i64 n ∧ K n H' := by
  apply vc_series_byTime
  intro b H1 hn b1 H2 hn2
  refine ⟨_, (hn.blk.keep hn2.fr).ld0 (by kernel_rfl) rfl, _, hn2.blk.ld0 (by kernel_rfl) rfl, ?_⟩
  exact Compare_ok ⟨_, rfl, hk _ (hn.fr.keep0 hn2.fr)⟩

/-- An order of samples that goes by time. -/
def ByT (order : Value) : Prop := ∀ (x y : Smp) (H : Heap) (K : Int → Heap → Prop), (∀ H', Fr [] H H' → K (cmpI x.1 y.1) H') → CallV Try.prog order [vS x, vS y] H fun v H' => ∃ n, v = .int .i64 n ∧ K n H'
theorem byT : ByT (.func (.func 32) #[] #[]) := fun x y H K hk => ⟨32, #[], #[], rfl, by kernel_rfl, byTime_ok hk⟩

theorem merge_ok {order : Value} {a b : Option Addr} {n c m d : Nat} {xs ys : List Smp} {H : Heap} {K : Option Addr → Nat → Nat → Heap → Prop} (ho : ByT order) (hx : Sl encS H a n c xs) (hy : Sl encS H b m d ys)
    (hlen : n + m ≤ 1000000000) (hk : ∀ a' n' c' H', Own encS 26 H.size H' a' n' c' (mrg xs ys) → Fr [] H H' → K a' n' c' H') :
    CallH Try.prog fn_series_merge_api_Sample_ ⟨[.slice a n c, .slice b m d, order]⟩ H fun v H' => ∃ a n c, v = .slice a n c ∧ K a n c H' := by
  apply vc_series_merge_api_Sample_
  rw [wrap64_of (by omega) (by omega)]
  refine mk_own (E := encS) slice22 elem26 (by omega) (by omega) fun b0 H1 ho1 hf1 => ?_
  refine ⟨fun vs H' => match vs with
      | [.slice a n c, .slice b m d, .slice o p q] => ∃ zs us ws, Sl encS H a n c zs ∧ Sl encS H b m d us ∧ Own encS 26 H.size H' o p q ws ∧ ws ++ mrg zs us = mrg xs ys ∧ p + n + m ≤ 1000000000 ∧ Fr [] H H'
      | _ => False,
    fun vs _ => match vs with | [.slice _ n _, .slice _ m _, _] => n + m | _ => 0, ⟨xs, ys, [], hx, hy, ho1, rfl, by omega, hf1⟩, ?_⟩
  rintro J a n c b m d o p q H2 ⟨zs, us, ws, hz, hu, hw, he, hsz, hf⟩
  have hn := hz.len
  have hm := hu.len
  have hp := hw.1
  have hcz := hz.cap
  have hcu := hu.cap
  have last : (zs = [] ∨ us = []) → SemWp Try.prog (Builtin.append_ ⟨[22, 22]⟩ 22 ⟨[.slice o p q, .slice a n c]⟩) H2 fun v H' => ∃ a n c, v = .slice a n c ∧ SemWp Try.prog (Builtin.append_ ⟨[22, 22]⟩ 22 ⟨[.slice a n c, .slice b m d]⟩) H' fun v H' => ∃ a n c, v = .slice a n c ∧ (∃ a_1 n_1 c_1, Value.slice a n c = .slice a_1 n_1 c_1 ∧ K a_1 n_1 c_1 H') := by
    intro he0
    refine ap_own (E := encS) slice22 elem26 hw hf (hz.keep hf) (by omega) fun o2 p2 q2 H3 hw2 hf2 _ => ?_
    have hb2 := hw2.1
    refine ap_own (E := encS) slice22 elem26 hw2 hf2 (hu.keep hf2) (by simp at hb2; omega) fun o3 p3 q3 H4 hw3 hf3 _ => ⟨_, _, _, rfl, hk _ _ _ _ ?_ hf3⟩
    rw [List.append_assoc] at hw3
    have : zs ++ us = mrg zs us := by
      rcases he0 with rfl | rfl
      · rw [mrg_nil]; rfl
      · rw [mrg_nil']; simp
    rwa [this, he] at hw3
  refine brB_of (fun h0 => brB_of (fun h1 => ?_) (fun h1 => last (.inr ?_))) (fun h0 => last (.inl ?_))
  · cases zs with
    | nil => simp at hn h0; omega
    | cons x zs =>
    cases us with
    | nil => simp at hm h1; omega
    | cons y us =>
    simp only [List.length_cons] at hn hm
    have hz1 : Sl encS H (slA c 1 2 a) ((n : Int).toNat - 1) (c - 1) zs := by
      have := hz.drop (k := 1) (by omega)
      rwa [Int.toNat_natCast]
    have hu1 : Sl encS H (slA d 1 2 b) ((m : Int).toNat - 1) (d - 1) us := by
      have := hu.drop (k := 1) (by omega)
      rwa [Int.toNat_natCast]
    refine (hz.keep hf).head (decide_eq_true (by omega)) fun ad ea hc => ⟨_, _, ldS hc, ?_⟩
    refine (hu.keep hf).head (decide_eq_true (by omega)) fun bd eb hd => ⟨_, _, ldS hd, ?_⟩
    refine ho x y H2 _ fun H3 hf3 => ?_
    have hf' := hf.keep0 hf3
    have hw' := hw.keep hf3
    rw [mrg_cons] at he
    unfold cmpI
    refine brB_of (fun h2 => ?_) (fun h2 => brB_of (fun h3 => ?_) (fun h3 => ?_))
    · have hlt : x.1 < y.1 := by
        simp only [decide_eq_true_eq] at h2
        split at h2
        · assumption
        · split at h2 <;> omega
      rw [if_pos hlt] at he
      refine (hz.keep hf').head (decide_eq_true (by omega)) fun ad ea hc => ⟨_, _, ldS hc, chk_of ⟨by omega, by omega, by omega⟩ ?_⟩
      refine ap_one (E := encS) x slice22 elem26 hw' hf' rfl (by omega) fun _ o2 p2 q2 H4 hw2 hf2 _ => ?_
      have hb2 := hw2.1
      simp at hb2
      exact ⟨⟨zs, y :: us, ws ++ [x], hz1, hu, hw2, by rw [← he]; simp, by omega, hf2⟩, by show (n : Int).toNat - 1 + m < n + m; omega⟩
    · have hge : ¬ x.1 < y.1 ∧ x.1 = y.1 := by
        simp only [beq_iff_eq] at h3
        split at h3
        · cases h3
        · split at h3
          · cases h3
          · omega
      rw [if_neg hge.1, if_pos hge.2] at he
      refine chk_of ⟨by omega, by omega, by omega⟩ ?_
      refine (hu.keep hf').head (decide_eq_true (by omega)) fun ad ea hc => ⟨_, _, ldS hc, chk_of ⟨by omega, by omega, by omega⟩ ?_⟩
      refine ap_one (E := encS) y slice22 elem26 hw' hf' rfl (by omega) fun _ o2 p2 q2 H4 hw2 hf2 _ => ?_
      have hb2 := hw2.1
      simp at hb2
      exact ⟨⟨zs, us, ws ++ [y], hz1, hu1, hw2, by rw [← he]; simp, by omega, hf2⟩, by show (n : Int).toNat - 1 + ((m : Int).toNat - 1) < n + m; omega⟩
    · have hge : ¬ x.1 < y.1 ∧ ¬ x.1 = y.1 := by
        simp only [decide_eq_false_iff_not, beq_eq_false_iff_ne, ne_eq] at h2 h3
        split at h2
        · omega
        · rename_i h4
          rw [if_neg h4] at h3
          split at h3
          · omega
          · omega
      rw [if_neg hge.1, if_neg hge.2] at he
      refine (hu.keep hf').head (decide_eq_true (by omega)) fun ad ea hc => ⟨_, _, ldS hc, chk_of ⟨by omega, by omega, by omega⟩ ?_⟩
      refine ap_one (E := encS) y slice22 elem26 hw' hf' rfl (by omega) fun _ o2 p2 q2 H4 hw2 hf2 _ => ?_
      have hb2 := hw2.1
      simp at hb2
      exact ⟨⟨x :: zs, us, ws ++ [y], hz, hu1, hw2, by rw [← he]; simp, by omega, hf2⟩, by show n + ((m : Int).toNat - 1) < n + m; omega⟩
  · cases us with
    | nil => rfl
    | cons y us => simp at hm h1; omega
  · cases zs with
    | nil => rfl
    | cons y us => simp at hn h0; omega

theorem Merge_ok {a b : Option Addr} {n c m d : Nat} {xs ys : List Smp} {H : Heap} {K : Option Addr → Nat → Nat → Heap → Prop} (hx : Sl encS H a n c xs) (hy : Sl encS H b m d ys)
    (hlen : n + m ≤ 1000000000) (hk : ∀ a' n' c' H', Own encS 26 H.size H' a' n' c' (mrg xs ys) → Fr [] H H' → K a' n' c' H') :
    CallH Try.prog fn_series_Merge ⟨[.slice a n c, .slice b m d]⟩ H fun v H' => ∃ a n c, v = .slice a n c ∧ K a n c H' := by
  apply vc_series_Merge
  exact merge_ok byT hx hy hlen fun a' n' c' H' h1 h2 => ⟨_, _, _, rfl, hk _ _ _ _ h1 h2⟩

theorem mu_lt {n i : Nat} (h : i < n) : n - ((i + 1 : Nat) : Int).toNat < n - ((i : Nat) : Int).toNat := by omega

theorem Same_ok {a b : Option Addr} {n c m d : Nat} {xs ys : List Smp} {H : Heap} {K : Bool → Heap → Prop} (hx : Sl encS H a n c xs) (hy : Sl encS H b m d ys) (hn : n ≤ 1000000000) (hk : K (decide (xs = ys)) H) :
    CallH Try.prog fn_ref13_Same ⟨[.slice a n c, .slice b m d]⟩ H fun v H' => ∃ r, v = .bool r ∧ K r H' := by
  apply vc_ref13_Same
  have hlx := hx.len
  have hly := hy.len
  refine brB_of (fun h => ⟨_, rfl, ?_⟩) (fun h => ?_)
  · have : ¬ xs = ys := fun e => by subst e; simp at h; omega
    rwa [decide_eq_false this] at hk
  have hnm : n = m := by simp at h; omega
  refine ⟨fun vs H' => match vs with | [.int _ i] => ∃ k : Nat, i = k ∧ k ≤ n ∧ xs.take k = ys.take k ∧ H' = H | _ => False,
    fun vs _ => match vs with | [.int _ i] => n - i.toNat | _ => 0, ⟨0, rfl, by omega, by simp, rfl⟩, ?_⟩
  rintro J i H' ⟨k, rfl, hle, ht, rfl⟩
  refine brB_of (fun h0 => ?_) (fun h0 => ⟨_, rfl, ?_⟩)
  · have h0' : k < n := by simpa using h0
    have hx1 : xs[k]? = some (xs[k]'(by omega)) := by simp
    have hy1 : ys[k]? = some (ys[k]'(by omega)) := by simp
    refine hx.get rfl hx1 (decide_eq_true (by omega)) fun ad ea hc => ⟨_, _, ldS hc, ?_⟩
    refine hy.get rfl hy1 (decide_eq_true (by omega)) fun bd eb hd => ⟨_, _, ldS hd, ?_⟩
    rw [smp_eq]
    refine brB_of (fun h2 => ⟨_, rfl, ?_⟩) (fun h2 => ?_)
    · have : ¬ xs = ys := fun e => by subst e; simp at h2
      rwa [decide_eq_false this] at hk
    · rw [succ64 (by omega)]
      refine ⟨⟨k + 1, rfl, by omega, ?_, rfl⟩, mu_lt h0'⟩
      rw [List.take_add_one, List.take_add_one, hx1, hy1, ht]
      simp at h2
      rw [h2]
  · have e1 : xs.take k = xs := List.take_of_length_le (by simp at h0; omega)
    have e2 : ys.take k = ys := List.take_of_length_le (by simp at h0; omega)
    rw [e1, e2] at ht
    rwa [decide_eq_true ht] at hk

theorem Rises_ok {a : Option Addr} {n c : Nat} {xs : List Smp} {H : Heap} {K : Bool → Heap → Prop} (hx : Sl encS H a n c xs) (hn : n ≤ 1000000000) (hk : ∀ H', Fr [] H H' → K (decide (Ris xs)) H') :
    CallH Try.prog fn_series_Rises ⟨[.slice a n c]⟩ H fun v H' => ∃ r, v = .bool r ∧ K r H' := by
  apply vc_series_Rises
  have hlx := hx.len
  refine ⟨fun vs H' => match vs with | [.int _ i] => ∃ k : Nat, i = k ∧ k ≤ n ∧ (∀ j x y, j + 1 < k → xs[j]? = some x → xs[j + 1]? = some y → x.1 < y.1) ∧ Fr [] H H' | _ => False,
    fun vs _ => match vs with | [.int _ i] => n - i.toNat | _ => 0, ⟨0, rfl, by omega, fun _ _ _ h => by omega, Fr.refl _ _⟩, ?_⟩
  rintro J i H' ⟨k, rfl, hle, ht, hf⟩
  refine brB_of (fun h0 => ?_) (fun h0 => ⟨_, rfl, ?_⟩)
  · have h0' : k < n := by simpa using h0
    rw [succ64 (by omega)]
    refine brB_of (fun h1 => ?_) (fun h1 => ?_)
    · have h1' : 0 < k := by simpa using h1
      rw [pred64 (by omega) h1']
      have hx1 : xs[k - 1]? = some (xs[k - 1]'(by omega)) := by simp
      have hx2 : xs[k]? = some (xs[k]'(by omega)) := by simp
      refine (hx.keep hf).get rfl hx1 (decide_eq_true (by omega)) fun ad ea hc => ⟨_, _, ldS hc, ?_⟩
      refine (hx.keep hf).get rfl hx2 (decide_eq_true (by omega)) fun bd eb hd => ⟨_, _, ldS hd, ?_⟩
      refine byTime_ok fun H2 hf2 => ?_
      have hf' := hf.keep0 hf2
      refine brB_of (fun h2 => ⟨_, rfl, ?_⟩) (fun h2 => ?_)
      · have : ¬ Ris xs := fun hr => by
          have := ris_next hr (i := k - 1) hx1 (by rw [show k - 1 + 1 = k by omega]; exact hx2)
          unfold cmpI at h2
          rw [if_pos this] at h2
          simp at h2
        have := hk _ hf'
        rwa [decide_eq_false ‹¬ Ris xs›] at this
      · refine ⟨⟨k + 1, rfl, by omega, fun j x y hj hjx hjy => ?_, hf'⟩, mu_lt h0'⟩
        by_cases hj2 : j + 1 < k
        · exact ht j x y hj2 hjx hjy
        · have : j = k - 1 := by omega
          subst this
          rw [show k - 1 + 1 = k by omega, hx2] at hjy
          rw [hx1] at hjx
          cases hjx
          cases hjy
          unfold cmpI at h2
          simp only [ge_iff_le, decide_eq_false_iff_not] at h2
          split at h2
          · assumption
          · split at h2 <;> omega
    · refine ⟨⟨k + 1, rfl, by omega, fun j x y hj hjx hjy => ?_, hf⟩, mu_lt h0'⟩
      simp at h1
      omega
  · have : Ris xs := ris_of_next fun j x y hjx hjy => ht j x y (by
      have := (List.getElem?_eq_some_iff.1 hjy).1
      simp at h0; omega) hjx hjy
    have h2 := hk _ hf
    rwa [decide_eq_true this] at h2

theorem rRises_ok {a : Option Addr} {n c : Nat} {xs : List Smp} {H : Heap} {K : Bool → Heap → Prop} (hx : Sl encS H a n c xs) (hn : n ≤ 1000000000) (hk : K (decide (Ris xs)) H) :
    CallH Try.prog fn_ref13_Rises ⟨[.slice a n c]⟩ H fun v H' => ∃ r, v = .bool r ∧ K r H' := by
  apply vc_ref13_Rises
  have hlx := hx.len
  refine ⟨fun vs H' => match vs with | [.int _ i] => ∃ k : Nat, i = k ∧ 1 ≤ k ∧ (∀ j x y, j + 1 < k → xs[j]? = some x → xs[j + 1]? = some y → x.1 < y.1) ∧ H' = H | _ => False,
    fun vs _ => match vs with | [.int _ i] => n - i.toNat | _ => 0, ⟨1, rfl, by omega, fun _ _ _ h => by omega, rfl⟩, ?_⟩
  rintro J i H' ⟨k, rfl, hle, ht, rfl⟩
  refine brB_of (fun h0 => ?_) (fun h0 => ⟨_, rfl, ?_⟩)
  · have h0' : k < n := by simpa using h0
    rw [succ64 (by omega), pred64 (by omega) (by omega)]
    have hx1 : xs[k - 1]? = some (xs[k - 1]'(by omega)) := by simp
    have hx2 : xs[k]? = some (xs[k]'(by omega)) := by simp
    refine hx.get rfl hx2 (decide_eq_true (by omega)) fun ad ea hc => ⟨_, ldT hc, ?_⟩
    refine hx.get rfl hx1 (decide_eq_true (by omega)) fun bd eb hd => ⟨_, ldT hd, ?_⟩
    refine brB_of (fun h2 => ⟨_, rfl, ?_⟩) (fun h2 => ?_)
    · have : ¬ Ris xs := fun hr => by
        have := ris_next hr (i := k - 1) hx1 (by rw [show k - 1 + 1 = k by omega]; exact hx2)
        simp at h2; omega
      rwa [decide_eq_false this] at hk
    · refine ⟨⟨k + 1, rfl, by omega, fun j x y hj hjx hjy => ?_, rfl⟩, mu_lt h0'⟩
      by_cases hj2 : j + 1 < k
      · exact ht j x y hj2 hjx hjy
      · have : j = k - 1 := by omega
        subst this
        rw [show k - 1 + 1 = k by omega, hx2] at hjy
        rw [hx1] at hjx
        cases hjx
        cases hjy
        simpa using h2
  · have : Ris xs := ris_of_next fun j x y hjx hjy => ht j x y (by
      have := (List.getElem?_eq_some_iff.1 hjy).1
      simp at h0; omega) hjx hjy
    rwa [decide_eq_true this] at hk

theorem rising_ok {a : Option Addr} {n c : Nat} {xs : List Smp} {H : Heap} {K : Option Addr → Nat → Nat → Heap → Prop} (hx : Sl encS H a n c xs)
    (hk : ∀ a' n' c' H' L, Own encS 26 H.size H' a' n' c' L → Ris L → n' ≤ 100 → Fr [] H H' → K a' n' c' H') :
    CallH Try.prog fn_law13_rising ⟨[.slice a n c]⟩ H fun v H' => ∃ a n c, v = .slice a n c ∧ K a n c H' := by
  apply vc_law13_rising
  have hlx := hx.len
  intro b H1 hn1
  refine ⟨fun vs H' => match vs with | [.slice o p q, .int _ i] => ∃ (k : Nat) (L : List Smp), i = k ∧ k ≤ n ∧ p ≤ k ∧ p ≤ 100 ∧ Own encS 26 H.size H' o p q L ∧ Ris L ∧ Fr [] H H' | _ => False,
    fun vs _ => match vs with | [_, .int _ i] => n - i.toNat | _ => 0, ⟨0, [], rfl, by omega, by omega, by omega, Own.made encS 26 hn1 (Nat.le_refl _), Ris.nil, hn1.fr⟩, ?_⟩
  rintro J o p q i H' ⟨k, L, rfl, hle, hpk, hp1, ho, hr, hf⟩
  have hl := ho.1
  have fin : ∃ a_1 n_1 c_1, Value.slice o p q = .slice a_1 n_1 c_1 ∧ K a_1 n_1 c_1 H' := ⟨_, _, _, rfl, hk _ _ _ _ _ ho hr hp1 hf⟩
  refine brB_of (fun h0 => brB_of (fun h1 => ?_) (fun h1 => fin)) (fun h0 => fin)
  have h0' : k < n := by simpa using h0
  have h1' : k < 100 := by simp at h1; omega
  rw [succ64 (by omega)]
  have hx1 : xs[k]? = some (xs[k]'(by omega)) := by simp
  have app : ∀ {H2 : Heap}, Fr [] H' H2 → (∀ y, L.getLast? = some y → y.1 < (xs[k]'(by omega)).1) → exSome a fun ad => chk (decide ((0 : Int) ≤ k ∧ (k : Int) < n)) (∃ n_2 n_3, Ld Try.prog 26 H2 (Addr.add ad ((k : Int).toNat * 2)) (.agg ⟨[.int .i64 n_2, .int .i64 n_3]⟩) ∧
      ∀ (b : Nat) (H'_1 : Heap), New H2 b (.cells ⟨[.int .i64 n_2, .int .i64 n_3]⟩ 26) H'_1 → SemWp Try.prog (Builtin.append_ ⟨[22, 22]⟩ 22 ⟨[.slice o p q, .slice (some ⟨b, 0, none⟩) 1 1]⟩) H'_1 fun v H'_2 => ∃ a_3 n_4 c_1, v = .slice a_3 n_4 c_1 ∧
        (∃ (k_1 : Nat) (L : List Smp), ((k + 1 : Nat) : Int) = k_1 ∧ k_1 ≤ n ∧ n_4 ≤ k_1 ∧ n_4 ≤ 100 ∧ Own encS 26 H.size H'_2 a_3 n_4 c_1 L ∧ Ris L ∧ Fr [] H H'_2) ∧ n - ((k + 1 : Nat) : Int).toNat < n - ((k : Nat) : Int).toNat) := by
    intro H2 hf2 hlast
    have hf' := hf.keep0 hf2
    refine (hx.keep hf').get rfl hx1 (decide_eq_true (by omega)) fun ad ea hc => ⟨_, _, ldS hc, ?_⟩
    refine ap_one (E := encS) _ slice22 elem26 (ho.keep hf2) hf' rfl (by omega) fun _ o2 p2 q2 H4 hw2 hf4 _ => ?_
    have hb2 := hw2.1
    simp at hb2
    exact ⟨⟨k + 1, _, rfl, by omega, by omega, by omega, hw2, ris_snoc hr hlast, hf4⟩, mu_lt h0'⟩
  refine brB_of (fun h2 => ?_) (fun h2 => ?_)
  · refine app (Fr.refl _ _) fun y hy => ?_
    have : L = [] := List.eq_nil_of_length_eq_zero (by simp at h2; omega)
    subst this
    cases hy
  · have hp0 : 0 < p := by simp at h2; omega
    rw [pred64 (by omega) hp0]
    have hL1 : L[p - 1]? = some (L[p - 1]'(by omega)) := by simp
    refine (hx.keep hf).get rfl hx1 (decide_eq_true (by omega)) fun ad ea hc => ⟨_, ldT hc, ?_⟩
    refine ho.sl.get rfl hL1 (decide_eq_true (by omega)) fun bd eb hd => ⟨_, ldT hd, ?_⟩
    refine brB_of (fun h3 => ?_) (fun h3 => ?_)
    · refine app (Fr.refl _ _) fun y hy => ?_
      rw [List.getLast?_eq_getElem?, ← hl, hL1] at hy
      cases hy
      simpa using h3
    · exact ⟨⟨k + 1, L, rfl, by omega, by omega, hp1, ho, hr, hf⟩, mu_lt h0'⟩
end Go.Proofs
