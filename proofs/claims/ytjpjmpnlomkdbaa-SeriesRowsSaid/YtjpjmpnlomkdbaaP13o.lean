/- A part of a proof: see the last text of this claim. -/
import Derived.Test.YtjpjmpnlomkdbaaP13n
import Derived.Test.YtjpjmpnlomkdbaaL13d
set_option linter.unusedVariables false
set_option maxRecDepth 100000
open Go Go.GV
namespace Go.Proofs

theorem len_mrgC {α : Type} {cf : α → α → Int} : ∀ a b : List α, (mrgC cf a b).length ≤ a.length + b.length
  | [], b => by rw [mrgC_nil]; simp
  | x :: a, [] => by rw [mrgC_nil']; simp
  | x :: a, y :: b => by
    rw [mrgC_cons]
    split
    · have := len_mrgC (cf := cf) a (y :: b); simp at *; omega
    · split
      · have := len_mrgC (cf := cf) a b; simp at *; omega
      · have := len_mrgC (cf := cf) (x :: a) b; simp at *; omega
termination_by a b => a.length + b.length
theorem Equal_ok {H : Heap} {a b : Option Addr} {n c m d : Nat} {xs : List Rw} {K : Bool → Heap → Prop} (hx : Sl encRw H a n c xs) (hy : Sl encRw H b m d xs) (hn : n ≤ 1000000000) (hk : K true H) :
    CallH Try.prog fn_ref13_Equal ⟨[.slice a n c, .slice b m d]⟩ H fun v H' => ∃ r, v = .bool r ∧ K r H' := by
  apply vc_ref13_Equal
  have e1 := hx.len
  have e2 := hy.len
  refine brB_of (fun h => by simp at h; omega) (fun _ => ?_)
  refine ⟨fun vs H' => match vs with | [.int _ i] => ∃ k : Nat, i = k ∧ k ≤ n ∧ H' = H | _ => False, fun vs _ => match vs with | [.int _ i] => n - i.toNat | _ => 0, ⟨0, rfl, by omega, rfl⟩, ?_⟩
  rintro J i H1 ⟨k, rfl, hkn, rfl⟩
  refine brB_of (fun h0 => ?_) (fun h0 => ⟨_, rfl, hk⟩)
  have h0' : k < n := by simpa using h0
  have hx1 : xs[k]? = some (xs[k]'(by omega)) := by simp
  generalize xs[k]'(by omega) = x at hx1
  refine hx.get rfl hx1 (decide_eq_true (by omega)) fun ad ea hc => ⟨_, _, _, ldRw hc, hy.get rfl hx1 (decide_eq_true (by omega)) fun ad ea hc => ⟨_, _, _, ldRw hc, ?_⟩⟩
  refine brB_of (fun h => by simp at h) (fun _ => ?_)
  rw [succ64 (by omega)]
  exact ⟨⟨k + 1, rfl, by omega, rfl⟩, mu_lt h0'⟩
theorem Behind_ok {x y : Rw} {H : Heap} {K : Bool → Heap → Prop} (hk : ∀ H', Fr [] H H' → K (decide (kLt y x)) H') : CallH Try.prog fn_ref13_Behind ⟨[vRw x, vRw y]⟩ H fun v H' => ∃ r, v = .bool r ∧ K r H' := by
  apply vc_ref13_Behind
  intro b H1 hn1 b1 H2 hn2
  have hf := hn1.fr.keep0 hn2.fr
  have g1 : Blk H2 ⟨b, 0, none⟩ (encRw.cells x) := hn1.blk.keep hn2.fr
  have g2 : Blk H2 ⟨b1, 0, none⟩ (encRw.cells y) := hn2.blk
  have hk := hk H2 hf
  refine ⟨_, g1.ld0 (by kernel_rfl) rfl, _, g2.ld0 (by kernel_rfl) rfl, brB_of (fun h => ⟨_, rfl, ?_⟩) (fun h => ⟨_, g1.ld0 (by kernel_rfl) rfl, _, g2.ld0 (by kernel_rfl) rfl, brB_of (fun h2 => ⟨_, g1.ldK (j := 1) (by kernel_rfl) rfl, _, g2.ldK (j := 1) (by kernel_rfl) rfl, _, rfl, ?_⟩) (fun h2 => ⟨_, rfl, ?_⟩)⟩)⟩
  · have h := of_decide_eq_true h
    rwa [decide_eq_true (show kLt y x from .inl h)] at hk
  · have h2 : x.1 = y.1 := by simpa using h2
    rwa [show decide (kLt y x) = decide (x.2.1 > y.2.1) from decide_eq_decide.2 (by unfold kLt; omega)] at hk
  · have h := of_decide_eq_false h
    have h2 : ¬ x.1 = y.1 := by simpa using h2
    rwa [decide_eq_false (show ¬ kLt y x by unfold kLt; omega)] at hk
theorem fine_ok {a : Option Addr} {n c : Nat} {xs : List Rw} {H : Heap} {K : Option Addr → Nat → Nat → Heap → Prop} (hx : Sl encRw H a n c xs)
    (hk : ∀ a' n' c' H' L, Own encRw 45 H.size H' a' n' c' L → FineR L → n' ≤ 100 → Fr [] H H' → K a' n' c' H') :
    CallH Try.prog fn_law13_fine ⟨[.slice a n c]⟩ H fun v H' => ∃ a n c, v = .slice a n c ∧ K a n c H' := by
  apply vc_law13_fine
  intro b H1 hn1
  have hl := hx.len
  refine ⟨fun vs H' => match vs with
      | [.slice o p q, .int _ i] => ∃ (k : Nat) (L : List Rw), i = k ∧ k ≤ n ∧ k ≤ 100 ∧ p ≤ k ∧ Own encRw 45 H.size H' o p q L ∧ FineR L ∧ Fr [] H H'
      | _ => False,
    fun vs _ => match vs with | [_, .int _ i] => 100 - i.toNat | _ => 0, ⟨0, [], rfl, by omega, by omega, by omega, Own.made _ _ hn1 (Nat.le_refl _), FineR.nil, hn1.fr⟩, ?_⟩
  rintro J o p q i H2 ⟨k, L, rfl, hkn, hk1, hpk, ho, hF, hf⟩
  have hol := ho.1
  have out : K o p q H2 := hk o p q H2 L ho hF (by omega) hf
  refine ⟨fun _ H' => H' = H2 ∧ k < n ∧ k < 100, brB_of (fun h => brB_of (fun h2 => ⟨rfl, by simpa using h, by simp at h2; omega⟩) (fun _ => ⟨_, _, _, rfl, out⟩)) (fun _ => ⟨_, _, _, rfl, out⟩), ?_⟩
  rintro J H3 ⟨rfl, h1, h2⟩
  have hx1 : xs[k]? = some (xs[k]'(by omega)) := by simp
  generalize xs[k]'(by omega) = x at hx1
  refine ⟨fun vs H' => match vs with
      | [.slice o p q] => ∃ L, Own encRw 45 H.size H' o p q L ∧ FineR L ∧ p ≤ k + 1 ∧ Fr [] H H'
      | _ => False, ?_, ?_⟩
  · refine ⟨fun vs H' => ∃ w : Bool, vs = [.bool w] ∧ (w = true → ∀ y ∈ L, kLt y x) ∧ Fr [] H3 H', ?_, ?_⟩
    · refine brB_of (fun h => ⟨true, rfl, fun _ y hy => ?_, Fr.refl _ _⟩) (fun h => ?_)
      · have : L = [] := List.eq_nil_of_length_eq_zero (by simp at h; omega)
        subst this; cases hy
      · have hp0 : 0 < p := by simp at h; omega
        have hz : L[p - 1]? = some (L[p - 1]'(by omega)) := by simp
        generalize L[p - 1]'(by omega) = z at hz
        rw [pred64 (by omega) hp0]
        refine (hx.keep hf).get rfl hx1 (decide_eq_true (by omega)) fun ad ea hc => ⟨_, _, _, ldRw hc, ?_⟩
        refine ho.sl.get rfl hz (decide_eq_true (by omega)) fun ad ea hc => ⟨_, _, _, ldRw hc, ?_⟩
        refine Behind_ok fun H4 hf4 => ⟨_, rfl, fun hw y hy => ?_, hf4⟩
        have hzx := of_decide_eq_true hw
        obtain ⟨i, hi⟩ := List.getElem?_of_mem hy
        obtain ⟨hi1, e1⟩ := List.getElem?_eq_some_iff.1 hi
        obtain ⟨hz1, e2⟩ := List.getElem?_eq_some_iff.1 hz
        rcases Nat.lt_or_ge i (p - 1) with h5 | h5
        · have := List.pairwise_iff_getElem.1 hF i (p - 1) hi1 hz1 h5
          rw [e1, e2] at this
          exact kLt_trans this hzx
        · have : i = p - 1 := by omega
          subst this
          rw [hi] at hz; cases hz; exact hzx
    · rintro J w H4 ⟨w', ew, hw, hf4⟩
      simp only [List.cons.injEq, Value.bool.injEq, and_true] at ew
      subst ew
      refine brB_of (fun h => ?_) (fun h => ⟨L, ho.keep hf4, hF, by omega, hf.keep0 hf4⟩)
      refine ((hx.keep hf).keep hf4).get rfl hx1 (decide_eq_true (by omega)) fun ad ea hc => ⟨_, _, _, ldRw hc, ?_⟩
      refine ap_one (E := encRw) x slice34 elem45 (ho.keep hf4) (hf.keep0 hf4) rfl (by omega) fun _ o' p' q' H5 ho5 hf5 _ => ⟨L ++ [x], ho5, ?_, ?_, hf5⟩
      · exact List.pairwise_append.2 ⟨hF, by simp, fun y hy z hz => by simp at hz; subst hz; exact hw h y hy⟩
      · have := ho5.1
        simp at this; omega
  · rintro J o p q H4 ⟨L', ho4, hF4, hp4, hf4⟩
    rw [succ64 (by omega)]
    refine ⟨⟨k + 1, L', rfl, by omega, by omega, hp4, ho4, hF4, hf4⟩, ?_⟩
    show 100 - ((k + 1 : Nat) : Int).toNat < 100 - ((k : Nat) : Int).toNat
    omega
theorem Rows_ok {H : Heap} {la : Option Addr} {ln lc : Nat} {hs : List Sr} {ss : List Srs} {K : Option Addr → Nat → Nat → Heap → Prop} (hx : Sl encSr H la ln lc hs) (hS : SerH H hs ss) (hR : RightS ss) (hln : ln ≤ 10000) (hsl : ∀ s ∈ ss, s.2.length ≤ 10000)
    (hk : ∀ a' n' c' H' rows, Sl encRw H' a' n' c' rows → RowsOf ss rows → n' ≤ 10000 * ln → Fr [] H H' → K a' n' c' H') :
    CallH Try.prog fn_series_Rows ⟨[.slice la ln lc]⟩ H fun v H' => ∃ a n c, v = .slice a n c ∧ K a n c H' := by
  apply vc_series_Rows
  have hll := hx.len
  have hssl : ss.length = ln := by rw [hll]; exact hS.len.symm
  refine ⟨fun vs H' => match vs with
      | [.slice a n c, .int _ i] => ∃ (k : Nat) (rows : List Rw), i = k ∧ k ≤ ln ∧ Sl encRw H' a n c rows ∧ RowsOf (ss.take k) rows ∧ n ≤ 10000 * k ∧ Fr [] H H'
      | _ => False,
    fun vs _ => match vs with | [_, .int _ i] => ln - i.toNat | _ => 0, ⟨0, [], rfl, by omega, Sl.zero, RowsOf.nil, by omega, Fr.refl _ _⟩, ?_⟩
  rintro J a n c i H1 ⟨k, rows, rfl, hkn, hx1, hro, hn1, hf1⟩
  refine brB_of (fun h0 => ?_) (fun h0 => ⟨_, _, _, rfl, ?_⟩)
  rotate_left
  · rw [List.take_of_length_le (by simp at h0; omega)] at hro
    exact hk a n c H1 rows hx1 hro (by omega) hf1
  have h0' : k < ln := by simpa using h0
  have hs0 : ss[k]? = some (ss[k]'(by omega)) := by simp
  generalize ss[k]'(by omega) = s at hs0
  obtain ⟨y, hy0, hyr⟩ := All2.get' hS hs0
  have hsn := hsl s (List.mem_of_getElem? hs0)
  have hyl := hyr.2.len
  refine (hx.keep hf1).get rfl hy0 (decide_eq_true (by omega)) fun ad ea hc => ⟨_, _, _, _, ldSr hc, ?_⟩
  refine var_blk (v := vSr y) (by kernel_rfl) (by kernel_rfl) (by simp [Value.cells, Value.oneCell']) rfl fun b H2 hb hB hf2 => ?_
  have hB : Blk H2 ⟨b, 0, none⟩ (encSr.cells y) := hB
  have hf02 := hf1.keep0 hf2
  refine ⟨_, _, _, hB.ldK (j := 1) (by kernel_rfl) rfl, ?_⟩
  refine ⟨fun vs H' => match vs with
      | [.slice o l d, .int _ i] => ∃ j : Nat, i = j ∧ j ≤ y.2.2.1 ∧ Own encRw 45 H2.size H' o l d ((ownR s).take j) ∧ Fr [] H2 H'
      | _ => False,
    fun vs _ => match vs with | [_, .int _ i] => y.2.2.1 - i.toNat | _ => 0, ⟨0, rfl, by omega, Own.nil _ _ _ _, Fr.refl _ _⟩, ?_⟩
  rintro J o l d i H3 ⟨j, rfl, hj, ho3, hf3⟩
  have hf03 := hf02.keep0 hf3
  have hownl : (ownR s).length = s.2.length := by unfold ownR; simp
  refine brB_of (fun h1 => ?_) (fun h1 => ?_)
  · have h1' : j < y.2.2.1 := by simpa using h1
    have hp : s.2[j]? = some (s.2[j]'(by omega)) := by simp
    generalize s.2[j]'(by omega) = p at hp
    refine (hyr.2.keep hf03).get rfl hp (decide_eq_true (by omega)) fun ad ea hc => ⟨_, _, ldS hc, ?_⟩
    refine var_blk (v := vS p) (by kernel_rfl) (by kernel_rfl) (by simp [Value.cells, Value.oneCell']) rfl fun b4 H4 hb4 hB4 hf4 => ?_
    have hB4 : Blk H4 ⟨b4, 0, none⟩ (encS.cells p) := hB4
    refine ⟨_, hB4.ld0 (by kernel_rfl) rfl, _, ((hB.keep hf3).keep hf4).ld0 (by kernel_rfl) rfl, _, hB4.ldK (j := 1) (by kernel_rfl) rfl, ?_⟩
    have hol := ho3.1
    rw [List.length_take] at hol
    refine ap_one (E := encRw) ((p.1, y.1, p.2) : Rw) slice34 elem45 (ho3.keep hf4) (hf3.keep0 hf4) rfl (by omega) fun _ o' l' d' H5 ho5 hf5 _ => ?_
    rw [succ64 (by omega)]
    refine ⟨⟨j + 1, rfl, by omega, ?_, hf5⟩, mu_lt h1'⟩
    have hg : (ownR s)[j]? = some (p.1, y.1, p.2) := by unfold ownR; rw [List.getElem?_map, hp, hyr.1]; rfl
    rw [List.take_add_one, hg]; exact ho5
  · rw [List.take_of_length_le (by simp at h1; omega)] at ho3
    have hol := ho3.1
    refine mergeR_ok byR (hx1.keep (hf2.keep0 hf3)) ho3.sl (by omega) fun a' n' c' H4 ho4 hf4 => ?_
    rw [succ64 (by omega)]
    have hst := RowsOf.step hR hs0 hro
    refine ⟨⟨k + 1, _, rfl, by omega, ho4.sl, hst, ?_, hf03.keep0 hf4⟩, mu_lt h0'⟩
    have h4l := ho4.1
    have hnd := len_mrgC (cf := cfRw) rows (ownR s)
    have := hx1.len
    omega
theorem ldS1 {H : Heap} {ad : Addr} {x : Smp} (h : CellsAt H ad (encS.cells x)) : Ld Try.prog 3 H (ad.add 1) (.int .i64 x.2) := ld_part (by kernel_rfl) h (j := 1) rfl
theorem rRows_ok {H : Heap} {la : Option Addr} {ln lc : Nat} {hs : List Sr} {ss : List Srs} {K : Option Addr → Nat → Nat → Heap → Prop} (hx : Sl encSr H la ln lc hs) (hS : SerH H hs ss) (hR : RightS ss) (hln : ln ≤ 10000) (hsl : ∀ s ∈ ss, s.2.length ≤ 10000)
    (hk : ∀ a' n' c' H' rows, Sl encRw H' a' n' c' rows → RowsOf ss rows → Fr [] H H' → K a' n' c' H') :
    CallH Try.prog fn_ref13_Rows ⟨[.slice la ln lc]⟩ H fun v H' => ∃ a n c, v = .slice a n c ∧ K a n c H' := by
  apply vc_ref13_Rows
  have hll := hx.len
  have hssl : ss.length = ln := by rw [hll]; exact hS.len.symm
  intro b0 H0 hn0
  refine ⟨fun vs H' => match vs with
      | [.slice a n c, .int _ i] => ∃ (k : Nat) (rows : List Rw), i = k ∧ k ≤ ln ∧ Sl encRw H' a n c rows ∧ RowsOf (ss.take k) rows ∧ n ≤ 10000 * k ∧ Fr [] H H'
      | _ => False,
    fun vs _ => match vs with | [_, .int _ i] => ln - i.toNat | _ => 0, ⟨0, [], rfl, by omega, (Own.made encRw 45 hn0 (Nat.le_refl _)).sl, RowsOf.nil, by omega, hn0.fr⟩, ?_⟩
  rintro J a n c i H1 ⟨k, rows, rfl, hkn, hx1, hro, hn1, hf1⟩
  refine brB_of (fun h0 => ?_) (fun h0 => ⟨_, _, _, rfl, ?_⟩)
  rotate_left
  · rw [List.take_of_length_le (by simp at h0; omega)] at hro
    exact hk a n c H1 rows hx1 hro hf1
  have h0' : k < ln := by simpa using h0
  have hs0 : ss[k]? = some (ss[k]'(by omega)) := by simp
  generalize ss[k]'(by omega) = s at hs0
  obtain ⟨y, hy0, hyr⟩ := All2.get' hS hs0
  have hsn := hsl s (List.mem_of_getElem? hs0)
  have hyl := hyr.2.len
  refine ⟨fun vs H' => match vs with
      | [.slice a n c, .int _ i] => ∃ (j : Nat) (rows : List Rw), i = j ∧ j ≤ y.2.2.1 ∧ Sl encRw H' a n c rows ∧ RowsTo ss k j rows ∧ n ≤ 10000 * k + j ∧ Fr [] H H'
      | _ => False,
    fun vs _ => match vs with | [_, .int _ i] => y.2.2.1 - i.toNat | _ => 0, ⟨0, rows, rfl, by omega, hx1, RowsTo.start hro, by omega, hf1⟩, ?_⟩
  rintro J a2 n2 c2 i H2 ⟨j, rows2, rfl, hj, hx2, hrt, hn2, hf2⟩
  refine (hx.keep hf2).get rfl hy0 (decide_eq_true (by omega)) fun ad ea hc => ⟨_, _, _, ldSr1 hc, brB_of (fun h1 => ?_) (fun h1 => ?_)⟩
  rotate_left
  · have h1' : s.2.length ≤ j := by simp at h1; omega
    rw [succ64 (by omega)]
    exact ⟨⟨k + 1, rows2, rfl, by omega, hx2, hrt.done hs0 h1', by omega, hf2⟩, mu_lt h0'⟩
  have h1' : j < y.2.2.1 := by simpa using h1
  have hp : s.2[j]? = some (s.2[j]'(by omega)) := by simp
  generalize s.2[j]'(by omega) = p at hp
  have hx2l := hx2.len
  refine (hx.keep hf2).get rfl hy0 (decide_eq_true (by omega)) fun ad1 ea1 hc1 => ⟨_, _, _, ldSr1 hc1, ?_⟩
  refine (hyr.2.keep hf2).get rfl hp (decide_eq_true (by omega)) fun ad2 ea2 hc2 => ⟨_, ldT hc2, ?_⟩
  refine (hx.keep hf2).get rfl hy0 (decide_eq_true (by omega)) fun ad3 ea3 hc3 => ⟨_, ldSr0 hc3, ?_⟩
  refine (hx.keep hf2).get rfl hy0 (decide_eq_true (by omega)) fun ad4 ea4 hc4 => ⟨_, _, _, ldSr1 hc4, ?_⟩
  refine (hyr.2.keep hf2).get rfl hp (decide_eq_true (by omega)) fun ad5 ea5 hc5 => ⟨_, ldS1 hc5, ?_⟩
  intro b3 H3 hn3
  refine ⟨ldS1 (hc5.keep hn3.fr), ldSr1 (hc4.keep hn3.fr), ldSr0 (hc3.keep hn3.fr), ldT (hc2.keep hn3.fr), ldSr1 (hc1.keep hn3.fr), ?_⟩
  obtain ⟨x, ex⟩ : ∃ x : Rw, x = (p.1, s.1, p.2) := ⟨_, rfl⟩
  refine hn3.blk.st0 (v := .agg ⟨encRw.cells (p.1, y.1, p.2)⟩) (by kernel_rfl) (by kernel_rfl) (fun v hv => by simp [Value.cells, encRw] at hv; rcases hv with rfl | rfl | rfl <;> rfl) (by simp [Value.cells, encRw]) fun H4 hb4 hf4 => ?_
  have hB : Blk H4 ⟨b3, 0, none⟩ (encRw.cells x) := by rw [ex, ← hyr.1]; simpa [Value.cells, encRw] using hb4
  have hf24 : Fr [] H2 H4 := hn3.fr.keep hf4 fun k hk => by simp at hk; have := hn3.eq; omega
  have hldx : ∀ {H' : Heap}, Fr [] H4 H' → Ld Try.prog 45 H' ⟨b3, 0, none⟩ (vRw x) := fun hf => (hB.keep hf).ldA0 (us := encRw.cells x) (by kernel_rfl) (by kernel_rfl) rfl
  have hstep := RowsTo.step hR hrt hs0 hp
  rw [← ex] at hstep
  have hlenq : ∀ (w : Bool) (l : List Rw), (rqR x w l).length ≤ l.length + 1 := by
    intro w l
    induction l generalizing w with
    | nil => unfold rqR; split <;> simp
    | cons z l ih =>
      unfold rqR
      have i1 := ih true
      have i2 := ih w
      by_cases h : w = false ∧ kLt x z
      · rw [if_pos h, if_pos h, rqR_done]; simp
      · rw [if_neg h, if_neg h]; simp; omega
  have hq1 := hlenq false rows2
  obtain ⟨Q, hQ⟩ : ∃ Q, Q = rqR x false rows2 := ⟨_, rfl⟩
  rw [← hQ] at hstep hq1
  intro b5 H5 hn5
  refine ⟨fun vs H' => match vs with
      | [.slice o l d, .bool w, .int _ i] => ∃ (q : Nat) (out : List Rw), i = q ∧ q ≤ n2 ∧ Own encRw 45 H4.size H' o l d out ∧ out ++ rqR x w (rows2.drop q) = Q ∧ l ≤ q + (if w then 1 else 0) ∧ Fr [] H4 H'
      | _ => False,
    fun vs _ => match vs with | [_, _, .int _ i] => n2 - i.toNat | _ => 0, ⟨0, [], rfl, by omega, Own.made _ _ hn5 (Nat.le_refl _), hQ.symm, by omega, hn5.fr⟩, ?_⟩
  rintro J o l d w i H6 ⟨q, out, rfl, hq, ho6, hout, hl6, hf6⟩
  have hol := ho6.1
  have hl6' : l ≤ q + 1 := by split at hl6 <;> omega
  refine brB_of (fun h2 => ?_) (fun h2 => ?_)
  · have h2' : q < n2 := by simpa using h2
    have hz : rows2[q]? = some (rows2[q]'(by omega)) := by simp
    have hdz : rows2.drop q = rows2[q]'(by omega) :: rows2.drop (q + 1) := List.drop_eq_getElem_cons (by omega)
    generalize rows2[q]'(by omega) = z at hz hdz
    rw [hdz] at hout
    unfold rqR at hout
    refine ⟨fun vs H' => match vs with
        | [.slice o l d, .bool w'] => ∃ out, Own encRw 45 H4.size H' o l d out ∧ out ++ rqR x w' (rows2.drop (q + 1)) = Q ∧ l ≤ q + 1 + (if w' then 1 else 0) ∧ Fr [] H4 H'
        | _ => False, ?_, ?_⟩
    · refine ⟨fun vs H' => match vs with
          | [.slice o l d, .bool w'] => ∃ out, Own encRw 45 H4.size H' o l d out ∧ out ++ z :: rqR x w' (rows2.drop (q + 1)) = Q ∧ l ≤ q + (if w' then 1 else 0) ∧ Fr [] H4 H'
          | _ => False, ?_, ?_⟩
      · refine ⟨fun vs H' => vs = [.bool (!w && decide (kLt x z))] ∧ Fr [] H6 H', ?_, ?_⟩
        · refine brB_of (fun h3 => ?_) (fun h3 => ⟨by rw [h3]; simp, Fr.refl _ _⟩)
          refine ((hx2.keep hf24).keep hf6).get rfl hz (decide_eq_true (by omega)) fun ad ea hc => ⟨_, _, _, ldRw hc, _, _, _, hldx hf6, Behind_ok fun H7 hf7 => ⟨by rw [h3]; simp, hf7⟩⟩
        · rintro J w2 H7 ⟨e7, hf7⟩
          simp only [List.cons.injEq, Value.bool.injEq, and_true] at e7
          subst e7
          have ho7 := ho6.keep hf7
          have hf47 := hf6.keep0 hf7
          refine brB_of (fun h3 => ?_) (fun h3 => ?_)
          · have h3' : w = false ∧ kLt x z := by simpa using h3
            rw [if_pos h3', if_pos h3'] at hout
            refine ⟨_, _, _, hldx hf47, ?_⟩
            rw [h3'.1] at hl6
            refine ap_one (E := encRw) x slice34 elem45 ho7 hf47 rfl (by omega) fun _ o' l' d' H8 ho8 hf8 _ => ⟨_, ho8, by rw [← hout]; simp, ?_, hf8⟩
            have := ho8.1
            simp at this hl6 ⊢; omega
          · have h3' : ¬ (w = false ∧ kLt x z) := by simpa using h3
            rw [if_neg h3', if_neg h3'] at hout
            exact ⟨out, ho7, hout, hl6, hf47⟩
      · rintro J o3 l3 d3 w3 H7 ⟨out3, ho7, hout7, hl7, hf7⟩
        have hl7' : l3 ≤ q + 1 := by split at hl7 <;> omega
        refine ((hx2.keep hf24).keep hf7).get rfl hz (decide_eq_true (by omega)) fun ad ea hc => ⟨_, _, _, ldRw hc, ?_⟩
        refine ap_one (E := encRw) z slice34 elem45 ho7 hf7 rfl (by omega) fun _ o' l' d' H8 ho8 hf8 _ => ⟨_, ho8, by rw [← hout7]; simp, ?_, hf8⟩
        have h8l := ho8.1
        have h7l := ho7.1
        simp at h8l
        omega
    · rintro J o3 l3 d3 w3 H7 ⟨out3, ho7, hout7, hl7, hf7⟩
      rw [succ64 (by omega)]
      exact ⟨⟨q + 1, out3, rfl, by omega, ho7, hout7, hl7, hf7⟩, mu_lt h2'⟩
  · rw [List.drop_of_length_le (by simp at h2; omega)] at hout
    unfold rqR at hout
    have fin : ∀ {o' : Option Addr} {l' d' : Nat} {H' : Heap}, Own encRw 45 H4.size H' o' l' d' Q → Fr [] H4 H' → (∃ (j_1 : Nat) (rows : List Rw), IntKind.i64.wrap ((j : Int) + 1) = j_1 ∧ j_1 ≤ y.2.2.1 ∧ Sl encRw H' o' l' d' rows ∧ RowsTo ss k j_1 rows ∧ l' ≤ 10000 * k + j_1 ∧ Fr [] H H') ∧ y.2.2.1 - (IntKind.i64.wrap ((j : Int) + 1)).toNat < y.2.2.1 - ((j : Nat) : Int).toNat := fun h hf => by
      rw [succ64 (by omega)]
      have h1 := h.1
      exact ⟨⟨j + 1, _, rfl, by omega, h.sl, hstep, by omega, (hf2.keep0 hf24).keep0 hf⟩, by omega⟩
    refine brB_of (fun h3 => ⟨_, _, _, hldx hf6, ?_⟩) (fun h3 => ?_)
    · have h3' : w = false := by simpa using h3
      rw [h3', if_neg (by simp)] at hout
      refine ap_one (E := encRw) x slice34 elem45 ho6 hf6 rfl (by omega) fun _ o' l' d' H8 ho8 hf8 _ => ?_
      rw [hout] at ho8
      exact fin ho8 hf8
    · have h3' : w = true := by simpa using h3
      rw [h3', if_pos rfl, List.append_nil] at hout
      rw [hout] at ho6
      exact fin ho6 hf6
end Go.Proofs
