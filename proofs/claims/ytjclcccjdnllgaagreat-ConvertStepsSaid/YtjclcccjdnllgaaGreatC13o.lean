/- Turned by a program of mine (portall.py) out of the same text of another seat. -/
import Derived.Test.YtjclcccjdnllgaaGreatL16b
import Derived.Test.YtjclcccjdnllgaaGreatC13f
set_option linter.unusedVariables false
set_option maxRecDepth 100000
open Go Go.GV
namespace Go.Proofs

theorem len_mrgC {α : Type} {cf : α → α → Int} : ∀ a b : List α, (mrgC cf a b).length ≤ a.length + b.length
  | [], b => by rw [mrgC_nil]; simp
  | x :: a, [] => by rw [mrgC_nil']; simp
  | x :: a, y :: b => by
    rw [mrgC_cons]
    split
    · have := len_mrgC (cf := cf) a (y :: b); simp at *; omega
    · split
      · have := len_mrgC (cf := cf) a b; simp at *; omega
      · have := len_mrgC (cf := cf) (x :: a) b; simp at *; omega
termination_by a b => a.length + b.length
theorem Equal_ok {H : Heap} {a b : Option Addr} {n c m d : Nat} {xs : List Rw} {K : Bool → Heap → Prop} (hx : Sl encRw H a n c xs) (hy : Sl encRw H b m d xs) (hn : n ≤ 1000000000) (hk : K true H) :
    CallH Tryz.prog fn_ref13_Equal ⟨[.slice a n c, .slice b m d]⟩ H fun v H' => ∃ r, v = .bool r ∧ K r H' := by
  apply vc_ref13_Equal
  have e1 := hx.len
  have e2 := hy.len
  refine brB_of (fun h => by simp at h; omega) (fun _ => ?_)
  refine ⟨fun vs H' => match vs with | [.int _ i] => ∃ k : Nat, i = k ∧ k ≤ n ∧ H' = H | _ => False, fun vs _ => match vs with | [.int _ i] => n - i.toNat | _ => 0, ⟨0, rfl, by omega, rfl⟩, ?_⟩
  rintro J i H1 ⟨k, rfl, hkn, rfl⟩
  refine brB_of (fun h0 => ?_) (fun h0 => ⟨_, rfl, hk⟩)
  have h0' : k < n := by simpa using h0
  have hx1 : xs[k]? = some (xs[k]'(by omega)) := by simp
  generalize xs[k]'(by omega) = x at hx1
  refine hx.get rfl hx1 (decide_eq_true (by omega)) fun ad ea hc => ⟨_, _, _, ldRw hc, hy.get rfl hx1 (decide_eq_true (by omega)) fun ad ea hc => ⟨_, _, _, ldRw hc, ?_⟩⟩
  refine brB_of (fun h => by simp at h) (fun _ => ?_)
  rw [succ64 (by omega)]
  exact ⟨⟨k + 1, rfl, by omega, rfl⟩, mu_lt h0'⟩
theorem Behind_ok {x y : Rw} {H : Heap} {K : Bool → Heap → Prop} (hk : ∀ H', Fr [] H H' → K (decide (kLt y x)) H') : CallH Tryz.prog fn_ref13_Behind ⟨[vRw x, vRw y]⟩ H fun v H' => ∃ r, v = .bool r ∧ K r H' := by
  apply vc_ref13_Behind
  intro b H1 hn1 b1 H2 hn2
  have hf := hn1.fr.keep0 hn2.fr
  have g1 : Blk H2 ⟨b, 0, none⟩ (encRw.cells x) := hn1.blk.keep hn2.fr
  have g2 : Blk H2 ⟨b1, 0, none⟩ (encRw.cells y) := hn2.blk
  have hk := hk H2 hf
  refine ⟨_, g1.ld0 (by kernel_rfl) rfl, _, g2.ld0 (by kernel_rfl) rfl, brB_of (fun h => ⟨_, rfl, ?_⟩) (fun h => ⟨_, g1.ld0 (by kernel_rfl) rfl, _, g2.ld0 (by kernel_rfl) rfl, brB_of (fun h2 => ⟨_, g1.ldK (j := 1) (by kernel_rfl) rfl, _, g2.ldK (j := 1) (by kernel_rfl) rfl, _, rfl, ?_⟩) (fun h2 => ⟨_, rfl, ?_⟩)⟩)⟩
  · have h := of_decide_eq_true h
    rwa [decide_eq_true (show kLt y x from .inl h)] at hk
  · have h2 : x.1 = y.1 := by simpa using h2
    rwa [show decide (kLt y x) = decide (x.2.1 > y.2.1) from decide_eq_decide.2 (by unfold kLt; omega)] at hk
  · have h := of_decide_eq_false h
    have h2 : ¬ x.1 = y.1 := by simpa using h2
    rwa [decide_eq_false (show ¬ kLt y x by unfold kLt; omega)] at hk
theorem Rows_ok {H : Heap} {la : Option Addr} {ln lc : Nat} {hs : List Sr} {ss : List Srs} {K : Option Addr → Nat → Nat → Heap → Prop} (hx : Sl encSr H la ln lc hs) (hS : SerH H hs ss) (hR : RightS ss) (hln : ln ≤ 10000) (hsl : ∀ s ∈ ss, s.2.length ≤ 10000)
    (hk : ∀ a' n' c' H' rows, Own encRw 26 H.size H' a' n' c' rows → RowsOf ss rows → n' ≤ 10000 * ln → Fr [] H H' → K a' n' c' H') :
    CallH Tryz.prog fn_series_Rows ⟨[.slice la ln lc]⟩ H fun v H' => ∃ a n c, v = .slice a n c ∧ K a n c H' := by
  apply vc_series_Rows
  have hll := hx.len
  have hssl : ss.length = ln := by rw [hll]; exact hS.len.symm
  refine ⟨fun vs H' => match vs with
      | [.slice a n c, .int _ i] => ∃ (k : Nat) (rows : List Rw), i = k ∧ k ≤ ln ∧ Own encRw 26 H.size H' a n c rows ∧ RowsOf (ss.take k) rows ∧ n ≤ 10000 * k ∧ Fr [] H H'
      | _ => False,
    fun vs _ => match vs with | [_, .int _ i] => ln - i.toNat | _ => 0, ⟨0, [], rfl, by omega, Own.nil _ _ _ _, RowsOf.nil, by omega, Fr.refl _ _⟩, ?_⟩
  rintro J a n c i H1 ⟨k, rows, rfl, hkn, hx1, hro, hn1, hf1⟩
  refine brB_of (fun h0 => ?_) (fun h0 => ⟨_, _, _, rfl, ?_⟩)
  rotate_left
  · rw [List.take_of_length_le (by simp at h0; omega)] at hro
    exact hk a n c H1 rows hx1 hro (by omega) hf1
  have h0' : k < ln := by simpa using h0
  have hs0 : ss[k]? = some (ss[k]'(by omega)) := by simp
  generalize ss[k]'(by omega) = s at hs0
  obtain ⟨y, hy0, hyr⟩ := All2.get' hS hs0
  have hsn := hsl s (List.mem_of_getElem? hs0)
  have hyl := hyr.2.len
  refine (hx.keep hf1).get rfl hy0 (decide_eq_true (by omega)) fun ad ea hc => ⟨_, _, _, _, ldSr hc, ?_⟩
  refine var_blk (v := vSr y) (by kernel_rfl) (by kernel_rfl) (by simp [Value.cells, Value.oneCell']) rfl fun b H2 hb hB hf2 => ?_
  have hB : Blk H2 ⟨b, 0, none⟩ (encSr.cells y) := hB
  have hf02 := hf1.keep0 hf2
  refine ⟨_, _, _, hB.ldK (j := 1) (by kernel_rfl) rfl, ?_⟩
  refine ⟨fun vs H' => match vs with
      | [.slice o l d, .int _ i] => ∃ j : Nat, i = j ∧ j ≤ y.2.2.1 ∧ Own encRw 26 H2.size H' o l d ((ownR s).take j) ∧ Fr [] H2 H'
      | _ => False,
    fun vs _ => match vs with | [_, .int _ i] => y.2.2.1 - i.toNat | _ => 0, ⟨0, rfl, by omega, Own.nil _ _ _ _, Fr.refl _ _⟩, ?_⟩
  rintro J o l d i H3 ⟨j, rfl, hj, ho3, hf3⟩
  have hf03 := hf02.keep0 hf3
  have hownl : (ownR s).length = s.2.length := by unfold ownR; simp
  refine brB_of (fun h1 => ?_) (fun h1 => ?_)
  · have h1' : j < y.2.2.1 := by simpa using h1
    have hp : s.2[j]? = some (s.2[j]'(by omega)) := by simp
    generalize s.2[j]'(by omega) = p at hp
    refine (hyr.2.keep hf03).get rfl hp (decide_eq_true (by omega)) fun ad ea hc => ⟨_, _, ldS hc, ?_⟩
    refine var_blk (v := vS p) (by kernel_rfl) (by kernel_rfl) (by simp [Value.cells, Value.oneCell']) rfl fun b4 H4 hb4 hB4 hf4 => ?_
    have hB4 : Blk H4 ⟨b4, 0, none⟩ (encS.cells p) := hB4
    refine ⟨_, hB4.ld0 (by kernel_rfl) rfl, _, ((hB.keep hf3).keep hf4).ld0 (by kernel_rfl) rfl, _, hB4.ldK (j := 1) (by kernel_rfl) rfl, ?_⟩
    have hol := ho3.1
    rw [List.length_take] at hol
    refine ap_one (E := encRw) ((p.1, y.1, p.2) : Rw) slice34 elem45 (ho3.keep hf4) (hf3.keep0 hf4) rfl (by omega) fun _ o' l' d' H5 ho5 hf5 _ => ?_
    rw [succ64 (by omega)]
    refine ⟨⟨j + 1, rfl, by omega, ?_, hf5⟩, mu_lt h1'⟩
    have hg : (ownR s)[j]? = some (p.1, y.1, p.2) := by unfold ownR; rw [List.getElem?_map, hp, hyr.1]; rfl
    rw [List.take_add_one, hg]; exact ho5
  · rw [List.take_of_length_le (by simp at h1; omega)] at ho3
    have hol := ho3.1
    refine mergeR_ok byR (hx1.sl.keep (hf2.keep0 hf3)) ho3.sl (by omega) fun a' n' c' H4 ho4 hf4 => ?_
    rw [succ64 (by omega)]
    have hst := RowsOf.step hR hs0 hro
    have s03 := hf03.size
    refine ⟨⟨k + 1, _, rfl, by omega, ho4.base (by omega), hst, ?_, hf03.keep0 hf4⟩, mu_lt h0'⟩
    have h4l := ho4.1
    have hnd := len_mrgC (cf := cfRw) rows (ownR s)
    have := hx1.1
    omega
theorem ldS1 {H : Heap} {ad : Addr} {x : Smp} (h : CellsAt H ad (encS.cells x)) : Ld Tryz.prog 3 H (ad.add 1) (.int .i64 x.2) := ld_part (by kernel_rfl) h (j := 1) rfl
theorem rRows_ok {H : Heap} {la : Option Addr} {ln lc : Nat} {hs : List Sr} {ss : List Srs} {K : Option Addr → Nat → Nat → Heap → Prop} (hx : Sl encSr H la ln lc hs) (hS : SerH H hs ss) (hR : RightS ss) (hln : ln ≤ 10000) (hsl : ∀ s ∈ ss, s.2.length ≤ 10000)
    (hk : ∀ a' n' c' H' rows, Sl encRw H' a' n' c' rows → RowsOf ss rows → n' ≤ 10000 * ln → Fr [] H H' → K a' n' c' H') :
    CallH Tryz.prog fn_ref13_Rows ⟨[.slice la ln lc]⟩ H fun v H' => ∃ a n c, v = .slice a n c ∧ K a n c H' := by
  apply vc_ref13_Rows
  have hll := hx.len
  have hssl : ss.length = ln := by rw [hll]; exact hS.len.symm
  intro b0 H0 hn0
  refine ⟨fun vs H' => match vs with
      | [.slice a n c, .int _ i] => ∃ (k : Nat) (rows : List Rw), i = k ∧ k ≤ ln ∧ Sl encRw H' a n c rows ∧ RowsOf (ss.take k) rows ∧ n ≤ 10000 * k ∧ Fr [] H H'
      | _ => False,
    fun vs _ => match vs with | [_, .int _ i] => ln - i.toNat | _ => 0, ⟨0, [], rfl, by omega, (Own.made encRw 26 hn0 (Nat.le_refl _)).sl, RowsOf.nil, by omega, hn0.fr⟩, ?_⟩
  rintro J a n c i H1 ⟨k, rows, rfl, hkn, hx1, hro, hn1, hf1⟩
  refine brB_of (fun h0 => ?_) (fun h0 => ⟨_, _, _, rfl, ?_⟩)
  rotate_left
  · rw [List.take_of_length_le (by simp at h0; omega)] at hro
    exact hk a n c H1 rows hx1 hro (by omega) hf1
  have h0' : k < ln := by simpa using h0
  have hs0 : ss[k]? = some (ss[k]'(by omega)) := by simp
  generalize ss[k]'(by omega) = s at hs0
  obtain ⟨y, hy0, hyr⟩ := All2.get' hS hs0
  have hsn := hsl s (List.mem_of_getElem? hs0)
  have hyl := hyr.2.len
  refine ⟨fun vs H' => match vs with
      | [.slice a n c, .int _ i] => ∃ (j : Nat) (rows : List Rw), i = j ∧ j ≤ y.2.2.1 ∧ Sl encRw H' a n c rows ∧ RowsTo ss k j rows ∧ n ≤ 10000 * k + j ∧ Fr [] H H'
      | _ => False,
    fun vs _ => match vs with | [_, .int _ i] => y.2.2.1 - i.toNat | _ => 0, ⟨0, rows, rfl, by omega, hx1, RowsTo.start hro, by omega, hf1⟩, ?_⟩
  rintro J a2 n2 c2 i H2 ⟨j, rows2, rfl, hj, hx2, hrt, hn2, hf2⟩
  refine (hx.keep hf2).get rfl hy0 (decide_eq_true (by omega)) fun ad ea hc => ⟨_, _, _, ldSr1 hc, brB_of (fun h1 => ?_) (fun h1 => ?_)⟩
  rotate_left
  · have h1' : s.2.length ≤ j := by simp at h1; omega
    rw [succ64 (by omega)]
    exact ⟨⟨k + 1, rows2, rfl, by omega, hx2, hrt.done hs0 h1', by omega, hf2⟩, mu_lt h0'⟩
  have h1' : j < y.2.2.1 := by simpa using h1
  have hp : s.2[j]? = some (s.2[j]'(by omega)) := by simp
  generalize s.2[j]'(by omega) = p at hp
  have hx2l := hx2.len
  refine (hx.keep hf2).get rfl hy0 (decide_eq_true (by omega)) fun ad1 ea1 hc1 => ⟨_, _, _, ldSr1 hc1, ?_⟩
  refine (hyr.2.keep hf2).get rfl hp (decide_eq_true (by omega)) fun ad2 ea2 hc2 => ⟨_, ldT hc2, ?_⟩
  refine (hx.keep hf2).get rfl hy0 (decide_eq_true (by omega)) fun ad3 ea3 hc3 => ⟨_, ldSr0 hc3, ?_⟩
  refine (hx.keep hf2).get rfl hy0 (decide_eq_true (by omega)) fun ad4 ea4 hc4 => ⟨_, _, _, ldSr1 hc4, ?_⟩
  refine (hyr.2.keep hf2).get rfl hp (decide_eq_true (by omega)) fun ad5 ea5 hc5 => ⟨_, ldS1 hc5, ?_⟩
  intro b3 H3 hn3
  refine ⟨ldS1 (hc5.keep hn3.fr), ldSr1 (hc4.keep hn3.fr), ldSr0 (hc3.keep hn3.fr), ldT (hc2.keep hn3.fr), ldSr1 (hc1.keep hn3.fr), ?_⟩
  obtain ⟨x, ex⟩ : ∃ x : Rw, x = (p.1, s.1, p.2) := ⟨_, rfl⟩
  refine hn3.blk.st0 (v := .agg ⟨encRw.cells (p.1, y.1, p.2)⟩) (by kernel_rfl) (by kernel_rfl) (fun v hv => by simp [Value.cells, encRw] at hv; rcases hv with rfl | rfl | rfl <;> rfl) (by simp [Value.cells, encRw]) fun H4 hb4 hf4 => ?_
  have hB : Blk H4 ⟨b3, 0, none⟩ (encRw.cells x) := by rw [ex, ← hyr.1]; simpa [Value.cells, encRw] using hb4
  have hf24 : Fr [] H2 H4 := hn3.fr.keep hf4 fun k hk => by simp at hk; have := hn3.eq; omega
  have hldx : ∀ {H' : Heap}, Fr [] H4 H' → Ld Tryz.prog 26 H' ⟨b3, 0, none⟩ (vRw x) := fun hf => (hB.keep hf).ldA0 (us := encRw.cells x) (by kernel_rfl) (by kernel_rfl) rfl
  have hstep := RowsTo.step hR hrt hs0 hp
  rw [← ex] at hstep
  have hlenq : ∀ (w : Bool) (l : List Rw), (rqR x w l).length ≤ l.length + 1 := by
    intro w l
    induction l generalizing w with
    | nil => unfold rqR; split <;> simp
    | cons z l ih =>
      unfold rqR
      have i1 := ih true
      have i2 := ih w
      by_cases h : w = false ∧ kLt x z
      · rw [if_pos h, if_pos h, rqR_done]; simp
      · rw [if_neg h, if_neg h]; simp; omega
  have hq1 := hlenq false rows2
  obtain ⟨Q, hQ⟩ : ∃ Q, Q = rqR x false rows2 := ⟨_, rfl⟩
  rw [← hQ] at hstep hq1
  intro b5 H5 hn5
  refine ⟨fun vs H' => match vs with
      | [.slice o l d, .bool w, .int _ i] => ∃ (q : Nat) (out : List Rw), i = q ∧ q ≤ n2 ∧ Own encRw 26 H4.size H' o l d out ∧ out ++ rqR x w (rows2.drop q) = Q ∧ l ≤ q + (if w then 1 else 0) ∧ Fr [] H4 H'
      | _ => False,
    fun vs _ => match vs with | [_, _, .int _ i] => n2 - i.toNat | _ => 0, ⟨0, [], rfl, by omega, Own.made _ _ hn5 (Nat.le_refl _), hQ.symm, by omega, hn5.fr⟩, ?_⟩
  rintro J o l d w i H6 ⟨q, out, rfl, hq, ho6, hout, hl6, hf6⟩
  have hol := ho6.1
  have hl6' : l ≤ q + 1 := by split at hl6 <;> omega
  refine brB_of (fun h2 => ?_) (fun h2 => ?_)
  · have h2' : q < n2 := by simpa using h2
    have hz : rows2[q]? = some (rows2[q]'(by omega)) := by simp
    have hdz : rows2.drop q = rows2[q]'(by omega) :: rows2.drop (q + 1) := List.drop_eq_getElem_cons (by omega)
    generalize rows2[q]'(by omega) = z at hz hdz
    rw [hdz] at hout
    unfold rqR at hout
    refine ⟨fun vs H' => match vs with
        | [.slice o l d, .bool w'] => ∃ out, Own encRw 26 H4.size H' o l d out ∧ out ++ rqR x w' (rows2.drop (q + 1)) = Q ∧ l ≤ q + 1 + (if w' then 1 else 0) ∧ Fr [] H4 H'
        | _ => False, ?_, ?_⟩
    · refine ⟨fun vs H' => match vs with
          | [.slice o l d, .bool w'] => ∃ out, Own encRw 26 H4.size H' o l d out ∧ out ++ z :: rqR x w' (rows2.drop (q + 1)) = Q ∧ l ≤ q + (if w' then 1 else 0) ∧ Fr [] H4 H'
          | _ => False, ?_, ?_⟩
      · refine ⟨fun vs H' => vs = [.bool (!w && decide (kLt x z))] ∧ Fr [] H6 H', ?_, ?_⟩
        · refine brB_of (fun h3 => ?_) (fun h3 => ⟨by rw [h3]; simp, Fr.refl _ _⟩)
          refine ((hx2.keep hf24).keep hf6).get rfl hz (decide_eq_true (by omega)) fun ad ea hc => ⟨_, _, _, ldRw hc, _, _, _, hldx hf6, Behind_ok fun H7 hf7 => ⟨by rw [h3]; simp, hf7⟩⟩
        · rintro J w2 H7 ⟨e7, hf7⟩
          simp only [List.cons.injEq, Value.bool.injEq, and_true] at e7
          subst e7
          have ho7 := ho6.keep hf7
          have hf47 := hf6.keep0 hf7
          refine brB_of (fun h3 => ?_) (fun h3 => ?_)
          · have h3' : w = false ∧ kLt x z := by simpa using h3
            rw [if_pos h3', if_pos h3'] at hout
            refine ⟨_, _, _, hldx hf47, ?_⟩
            rw [h3'.1] at hl6
            refine ap_one (E := encRw) x slice34 elem45 ho7 hf47 rfl (by omega) fun _ o' l' d' H8 ho8 hf8 _ => ⟨_, ho8, by rw [← hout]; simp, ?_, hf8⟩
            have := ho8.1
            simp at this hl6 ⊢; omega
          · have h3' : ¬ (w = false ∧ kLt x z) := by simpa using h3
            rw [if_neg h3', if_neg h3'] at hout
            exact ⟨out, ho7, hout, hl6, hf47⟩
      · rintro J o3 l3 d3 w3 H7 ⟨out3, ho7, hout7, hl7, hf7⟩
        have hl7' : l3 ≤ q + 1 := by split at hl7 <;> omega
        refine ((hx2.keep hf24).keep hf7).get rfl hz (decide_eq_true (by omega)) fun ad ea hc => ⟨_, _, _, ldRw hc, ?_⟩
        refine ap_one (E := encRw) z slice34 elem45 ho7 hf7 rfl (by omega) fun _ o' l' d' H8 ho8 hf8 _ => ⟨_, ho8, by rw [← hout7]; simp, ?_, hf8⟩
        have h8l := ho8.1
        have h7l := ho7.1
        simp at h8l
        omega
    · rintro J o3 l3 d3 w3 H7 ⟨out3, ho7, hout7, hl7, hf7⟩
      rw [succ64 (by omega)]
      exact ⟨⟨q + 1, out3, rfl, by omega, ho7, hout7, hl7, hf7⟩, mu_lt h2'⟩
  · rw [List.drop_of_length_le (by simp at h2; omega)] at hout
    unfold rqR at hout
    have fin : ∀ {o' : Option Addr} {l' d' : Nat} {H' : Heap}, Own encRw 26 H4.size H' o' l' d' Q → Fr [] H4 H' → (∃ (j_1 : Nat) (rows : List Rw), IntKind.i64.wrap ((j : Int) + 1) = j_1 ∧ j_1 ≤ y.2.2.1 ∧ Sl encRw H' o' l' d' rows ∧ RowsTo ss k j_1 rows ∧ l' ≤ 10000 * k + j_1 ∧ Fr [] H H') ∧ y.2.2.1 - (IntKind.i64.wrap ((j : Int) + 1)).toNat < y.2.2.1 - ((j : Nat) : Int).toNat := fun h hf => by
      rw [succ64 (by omega)]
      have h1 := h.1
      exact ⟨⟨j + 1, _, rfl, by omega, h.sl, hstep, by omega, (hf2.keep0 hf24).keep0 hf⟩, by omega⟩
    refine brB_of (fun h3 => ⟨_, _, _, hldx hf6, ?_⟩) (fun h3 => ?_)
    · have h3' : w = false := by simpa using h3
      rw [h3', if_neg (by simp)] at hout
      refine ap_one (E := encRw) x slice34 elem45 ho6 hf6 rfl (by omega) fun _ o' l' d' H8 ho8 hf8 _ => ?_
      rw [hout] at ho8
      exact fin ho8 hf8
    · have h3' : w = true := by simpa using h3
      rw [h3', if_pos rfl, List.append_nil] at hout
      rw [hout] at ho6
      exact fin ho6 hf6

theorem tri_one {x y z : Int} : ∀ v ∈ (Value.agg ⟨[.int .i64 x, .int .i64 y, .int .i64 z]⟩).cells.toList, v.oneCell' = true := fun v h => by
  simp [Value.cells] at h; rcases h with rfl | rfl | rfl <;> rfl
theorem BLen_ok {H : Heap} {b : Nat} {S : List Nat} {xs : List UInt8} {K : Int → Heap → Prop} (h : BldH H b S xs) (hk : K (xs.length : Nat) H) :
    CallH Tryz.prog fn_strings_Builder_Len ⟨[.pointer (some ⟨b, 0, none⟩)]⟩ H fun v H' => ∃ n, v = .int .i64 n ∧ K n H' := by
  apply vc_strings_Builder_Len
  obtain ⟨p, o, n, c, te, h1, h3, h4, rfl, h6⟩ := h
  have hb : Blk H ⟨b, 0, none⟩ [.pointer p, .slice o n c] := ⟨b, _, rfl, h1⟩
  refine ⟨o, n, c, hb.ld bT.ab (j := 1) rfl, _, rfl, ?_⟩
  rw [h4.1]; exact hk
theorem behind_ok {x y : Rw} {H : Heap} {K : Bool → Heap → Prop} (hk : ∀ H', Fr [] H H' → K (decide (kLt y x)) H') : CallH Tryz.prog fn_runs_behind ⟨[vRw x, vRw y]⟩ H fun v H' => ∃ r, v = .bool r ∧ K r H' := by
  apply vc_runs_behind
  intro b H1 hn1 b1 H2 hn2
  have h1 := hn1.blk.keep hn2.fr
  have h2 := hn2.blk
  have hk' := hk H2 (hn1.fr.keep0 hn2.fr)
  refine ⟨_, h2.ld0 (by kernel_rfl) rfl, _, h1.ld0 (by kernel_rfl) rfl, brB_of (fun h => ?_) (fun h => ⟨_, h2.ld0 (by kernel_rfl) rfl, _, h1.ld0 (by kernel_rfl) rfl, brB_of (fun h3 => ⟨_, h2.ldK (j := 1) (by kernel_rfl) rfl, _, h1.ldK (j := 1) (by kernel_rfl) rfl, ?_⟩) (fun h3 => ?_)⟩)⟩
  · have : kLt y x := .inl (by simpa using h)
    rw [decide_eq_true this] at hk'
    exact ⟨_, rfl, hk'⟩
  · refine ⟨_, rfl, ?_⟩
    have h := of_decide_eq_false h
    have h3 : y.1 = x.1 := by simpa using h3
    have e : decide (y.2.1 < x.2.1) = decide (kLt y x) := decide_eq_decide.2 ⟨fun h4 => .inr ⟨h3, h4⟩, fun h4 => h4.elim (fun h5 => absurd h5 h) fun h5 => h5.2⟩
    rw [e]; exact hk'
  · have h := of_decide_eq_false h
    have h3 : ¬ y.1 = x.1 := by simpa using h3
    have : ¬ kLt y x := fun h4 => h4.elim (fun h5 => h h5) fun h5 => h3 h5.1
    rw [decide_eq_false this] at hk'
    exact ⟨_, rfl, hk'⟩
def okR (l : List Rw) (j : Nat) : Prop := ∀ i, i < j → ((0 ≤ rT l i ∧ rT l i < 1099511627776) ∧ 0 ≤ (rAt l i).2.1 ∧ (rAt l i).2.1 < 200) ∧ (0 < i → kLt (rAt l (i - 1)) (rAt l i))
theorem okR_zero (l : List Rw) : okR l 0 := fun i h => by omega
theorem okR_succ {l : List Rw} {j : Nat} (h : okR l j) (h1 : (0 ≤ rT l j ∧ rT l j < 1099511627776) ∧ 0 ≤ (rAt l j).2.1 ∧ (rAt l j).2.1 < 200) (h2 : 0 < j → kLt (rAt l (j - 1)) (rAt l j)) : okR l (j + 1) := by
  intro i hi
  by_cases e : i = j
  · subst e; exact ⟨h1, h2⟩
  · exact h i (by omega)
theorem fine_of_next {l : List Rw} (h : ∀ i, 0 < i → i < l.length → kLt (rAt l (i - 1)) (rAt l i)) : FineR l := by
  refine List.pairwise_iff_getElem.2 fun i j hi hj hij => ?_
  have key : ∀ d, i + d + 1 < l.length → kLt (rAt l i) (rAt l (i + d + 1)) := by
    intro d
    induction d with
    | zero => intro hd; exact h (i + 1) (by omega) hd
    | succ d ih =>
      intro hd
      have h2 := h (i + (d + 1) + 1) (by omega) hd
      rw [show i + (d + 1) + 1 - 1 = i + d + 1 by omega] at h2
      exact kLt_trans (ih (by omega)) h2
  have := key (j - i - 1) (by omega)
  rw [show i + (j - i - 1) + 1 = j by omega] at this
  have h1 := rAt_get (l := l) (i := i) hi
  have h2 := rAt_get hj
  rw [List.getElem?_eq_getElem hi] at h1
  rw [List.getElem?_eq_getElem hj] at h2
  rw [Option.some.inj h1, Option.some.inj h2]
  exact this
theorem rowsP_of {l : List Rw} (hl : l.length ≤ 5000) (h : okR l l.length) (hv : ∀ x ∈ l, I64 x.2.2) : RowsP l := by
  refine ⟨hl, fine_of_next fun i h0 hi => (h i hi).2 h0, fun x hx => ?_⟩
  obtain ⟨i, hi⟩ := List.mem_iff_getElem?.1 hx
  have := (h i (List.getElem?_eq_some_iff.1 hi).1).1
  unfold rT at this
  rw [rAt_of hi] at this
  exact ⟨this.1, this.2, hv x hx⟩
theorem RowsP.okR {l : List Rw} (h : RowsP l) {i : Nat} (hi : i < l.length) : ((0 ≤ rT l i ∧ rT l i < 1099511627776) ∧ 0 ≤ (rAt l i).2.1 ∧ (rAt l i).2.1 < 200) ∧ (0 < i → kLt (rAt l (i - 1)) (rAt l i)) :=
  ⟨⟨(h.at hi).1, (h.at hi).2.1⟩, fun h0 => h.fine.at (by omega) hi⟩
theorem ch_cut {l : List Rw} {n i : Nat} (hn : n = l.length) (hi : 16 * i < n) : (l.take (min (16 * i + 16) n)).drop (16 * i) = chR l i := by
  unfold chR
  refine List.ext_getElem? fun k => ?_
  rw [List.getElem?_drop, List.getElem?_take, List.getElem?_take, List.getElem?_drop]
  by_cases h1 : k < 16
  · rw [if_pos h1]
    by_cases h2 : 16 * i + k < min (16 * i + 16) n
    · rw [if_pos h2]
    · rw [if_neg h2, List.getElem?_eq_none (by omega)]
  · rw [if_neg h1, if_neg (by omega)]
theorem slA_blk {a : Option Addr} {c k sz x : Nat} (h : x ∈ blkL (slA c k sz a)) : x ∈ blkL a := by
  rw [slA_eq] at h
  split at h
  · exact h
  · cases a with
    | none => simp [blkL] at h
    | some ad =>
      simp only [Option.map_some, blkL, List.mem_singleton] at h ⊢
      rw [h]
      unfold Addr.add
      split <;> rfl
theorem chunks16_ok {H : Heap} {a : Option Addr} {n c l b2 b3 : Nat} {rows : List Rw} {I : Nat → List Nat → Heap → Prop} {K : Heap → Prop} {S : List Nat} (hb2 : Blk H ⟨b2, 0, none⟩ [.slice a n c]) (hb3 : Blk H ⟨b3, 0, none⟩ [.int .i64 16]) (hx : Sl encRw H a n c rows) (hn : n ≤ 1000000000)
    (hin : In H S) (hd : b2 ∉ S ∧ b3 ∉ S ∧ ∀ k ∈ blkL a, k ∉ S) (h0 : I 0 S H)
    (step : ∀ i S H1 p m, 16 * i < n → m = min (n - 16 * i) 16 → In H1 S → I i S H1 → Sl encRw H1 p m m (chR rows i) → (∀ k ∈ blkL p, k ∈ blkL a) → (∀ k ∈ blkL a, k ∉ S) → YieldH Tryz.prog l [.slice p m m] H1 fun v H2 => v = .bool true ∧ ∃ S2, I (i + 1) S2 H2 ∧ Fr S H1 H2 ∧ Grow H1 S S2 ∧ In H2 S2)
    (hlt : ∀ k ∈ blkL a, k < H.size)
    (fin : ∀ S1 H1, I (nC n) S1 H1 → In H1 S1 → Fr S H H1 → Grow H S S1 → K H1) :
    CallV Tryz.prog (.func (.func 88) ⟨[]⟩ ⟨[.pointer (some ⟨b2, 0, none⟩), .pointer (some ⟨b3, 0, none⟩)]⟩) [.func (.yield l) ⟨[]⟩ ⟨[]⟩] H fun v H' => v = .tuple ⟨[]⟩ ∧ K H' := by
  refine ⟨88, ⟨[]⟩, _, rfl, by kernel_rfl, ?_⟩
  apply vc_slices_Chunk___api_Row_api_Row__1
  have hlen := hx.len
  have hcap := hx.cap
  refine ⟨fun vs H2 => match vs with | [.int _ i] => ∃ (j : Nat) (S2 : List Nat), i = ((16 * j : Nat) : Int) ∧ j ≤ nC n ∧ I j S2 H2 ∧ Fr S H H2 ∧ Grow H S S2 ∧ In H2 S2 | _ => False,
    fun vs _ => match vs with | [.int _ i] => n + 16 - i.toNat | _ => 0, ⟨0, S, rfl, by omega, h0, Fr.refl _ _, Grow.refl _ _, hin⟩, ?_⟩
  rintro J i H2 ⟨j, S2, rfl, hj, hI, hf, hg, hin2⟩
  have hB2 := hb2.fr hf hd.1
  have hB3 := hb3.fr hf hd.2.1
  have hch : nC n = (n + 15) / 16 := rfl
  refine ⟨a, n, c, hB2.ld0 (by kernel_rfl) rfl, brB_of (fun h => ?_) (fun h => ?_)⟩
  · have hlt' : 16 * j < n := by
      have h1 : ((16 * j : Nat) : Int) < (n : Int) := by simpa using h
      omega
    refine ⟨16, hB3.ld0 (by kernel_rfl) rfl, a, n, c, hB2.ld0 (by kernel_rfl) rfl, chk_true (decide_eq_true (by omega)) ⟨a, n, c, hB2.ld0 (by kernel_rfl) rfl, ?_⟩⟩
    have e0 : (((16 * j : Nat) : Int) + if (((n : Int).toNat - ((16 * j : Nat) : Int).toNat : Nat) : Int) < 16 then (((n : Int).toNat - ((16 * j : Nat) : Int).toNat : Nat) : Int) else 16) = ((min (16 * j + 16) n : Nat) : Int) := by
      split <;> omega
    have e1 : IntKind.i64.wrap (((16 * j : Nat) : Int) + if (((n : Int).toNat - ((16 * j : Nat) : Int).toNat : Nat) : Int) < 16 then (((n : Int).toNat - ((16 * j : Nat) : Int).toNat : Nat) : Int) else 16) = ((min (16 * j + 16) n : Nat) : Int) := by
      rw [e0, wrap64_of (by omega) (by omega)]
    rw [e1]
    refine chk_true (decide_eq_true (by omega)) ?_
    have hx2 := hx.fr hf (blk_of_ne hd.2.2)
    have hs1 : Sl encRw H2 a (min (16 * j + 16) n) (min (16 * j + 16) n) (rows.take (min (16 * j + 16) n)) := by
      have := hx2.take (m := min (16 * j + 16) n) (by omega)
      exact ⟨this.len, Nat.le_refl _, this.arr⟩
    have hs2 := hs1.drop (k := 16 * j) (by omega)
    rw [ch_cut hlen hlt'] at hs2
    have hdS : ∀ k ∈ blkL a, k ∉ S2 := fun k hk hk2 => (hg k hk2).elim (hd.2.2 k hk) fun h => by have := hlt k hk; omega
    refine .inr ⟨l, rfl, (step j S2 H2 _ _ hlt' (by omega) hin2 hI hs2 (fun k hk => ?_) hdS).mono fun v H3 => ?_⟩
    · exact slA_blk hk
    rintro ⟨rfl, S3, hI3, hf3, hg3, hin3⟩
    have hf' : Fr S H H3 := hf.trans' hf3 (fun k hk _ => hk) (fun k hk hl => (hg k hk).elim id fun h => by omega)
    refine ⟨true, rfl, brB_of (fun h => by simp at h) fun _ => ⟨16, (hb3.fr hf' hd.2.1).ld0 (by kernel_rfl) rfl, ⟨j + 1, S3, ?_, by omega, hI3, hf', hg.trans hf.size hg3, hin3⟩, ?_⟩⟩
    · rw [wrap64_of (by omega) (by omega)]; omega
    · show n + 16 - (IntKind.i64.wrap (((16 * j : Nat) : Int) + 16)).toNat < n + 16 - (((16 * j : Nat) : Int)).toNat
      rw [wrap64_of (by omega) (by omega)]; omega
  · have hge : n ≤ 16 * j := by
      have h1 : ¬ ((16 * j : Nat) : Int) < (n : Int) := by simpa using h
      omega
    have hjj : j = nC n := by omega
    subst hjj
    exact ⟨rfl, fin S2 H2 hI hin2 hf hg⟩

theorem ldRw0 {H : Heap} {ad : Addr} {x : Rw} (h : CellsAt H ad (encRw.cells x)) : Ld Tryz.prog 3 H ad (.int .i64 x.1) := ld_cell (by kernel_rfl) (by have := h 0 _ rfl; simpa [Addr.add] using this)
theorem ldRwA {H : Heap} {ad : Addr} {x : Rw} (h : CellsAt H ad (encRw.cells x)) : Ld Tryz.prog 26 H ad (vRw x) := ld_many (by kernel_rfl) (by kernel_rfl) h
theorem Bld.inS {H : Heap} {b : Nat} {S : List Nat} {xs : List UInt8} (h : BldH H b S xs) : b ∈ S ∧ In H S := by
  have := Bld.lt h
  obtain ⟨p, o, n, c, te, h1, h3, h4, rfl, h6⟩ := h
  exact ⟨by simp, this⟩
structure Enc2 (rows : List Rw) (b b1 l D : Nat) (R0 : Loop) (H0 : Heap) (i : Nat) (S : List Nat) (H : Heap) : Prop where
  fr : Fr [] H0 H
  lp : Lp H l R0 .ready none
  dq : Dq H D
  it : ∃ S1 S2, BldH H b S1 (uintL rows.length ++ hdsR rows i) ∧ BldH H b1 S2 (bdsR rows i) ∧ S = l :: D :: (S1 ++ S2) ∧ l ∉ S1 ∧ l ∉ S2 ∧ D ∉ S1 ∧ D ∉ S2 ∧ l ≠ D ∧ Dj S1 S2
  lo : ∀ k ∈ S, H0.size ≤ k
theorem rowB_mk {c : List Rw} {i : Nat} : (⟨(uintL (rT c i - rT c (i - 1)).toNat).toArray⟩ : ByteArray) ++ ⟨(uintL (rAt c i).2.1.toNat).toArray⟩ ++ ⟨(intL (rAt c i).2.2).toArray⟩ = ⟨(rowB c i).toArray⟩ := by
  rw [mk_app, mk_app, List.append_assoc]; rfl
theorem hdR_mk {c : List Rw} : (⟨(uintL (firstC c).toNat).toArray⟩ : ByteArray) ++ ⟨(uintL (lastC c - firstC c).toNat).toArray⟩ ++ ⟨(uintL (blkR c).length).toArray⟩ = ⟨(hdR c).toArray⟩ := by
  rw [mk_app, mk_app, List.append_assoc]; rfl
theorem wrapU_of {n : Int} (h : 0 ≤ n) (h2 : n < 18446744073709551616) : IntKind.wrap .u64 n = ((n.toNat : Nat) : Int) := by rw [wrapU64 h h2]; omega
theorem runsEncode_ok {H : Heap} {a : Option Addr} {n c : Nat} {rows : List Rw} {K : ByteArray → Int → Heap → Prop} (hx : Sl encRw H a n c rows) (hv : ∀ x ∈ rows, I64 x.2.2) (hn : n ≤ 1000000000)
    (hbad : ¬ RowsP rows → ∀ H', Fr [] H H' → K ⟨#[]⟩ 30 H') (hok : RowsP rows → ∀ H', Fr [] H H' → K ⟨(encR rows).toArray⟩ 0 H') :
    CallH Tryz.prog fn_runs_Encode ⟨[.slice a n c]⟩ H fun v H' => ∃ s e, v = .tuple ⟨[.string s, .int .i64 e]⟩ ∧ K s e H' := by
  apply vc_runs_Encode
  have hlen := hx.len
  refine ⟨fun vs H' => match vs with | [.int _ i] => ∃ j : Nat, i = j ∧ j ≤ n ∧ okR rows j ∧ Fr [] H H' | _ => False, fun vs _ => match vs with | [.int _ i] => n - i.toNat | _ => 0,
    ⟨0, rfl, by omega, okR_zero _, Fr.refl _ _⟩, ?_⟩
  rintro J i H1 ⟨j, rfl, hj, hok1, f1⟩
  refine brB_of (fun hlt => ?_) (fun hge => ?_)
  · have hlt : j < n := by simp at hlt; omega
    have hs := rAt_get (l := rows) (i := j) (by omega)
    refine ⟨fun _ H' => Fr [] H H' ∧ ((0 ≤ rT rows j ∧ rT rows j < 1099511627776) ∧ 0 ≤ (rAt rows j).2.1 ∧ (rAt rows j).2.1 < 200) ∧ (0 < j → kLt (rAt rows (j - 1)) (rAt rows j)), ?_, ?_⟩
    · refine (hx.keep f1).get rfl hs (decide_eq_true (by omega)) fun ad ea hc => ⟨_, _, _, ldRwA hc, ?_⟩
      refine var_blk (by kernel_rfl) (by kernel_rfl) tri_one (by rfl) fun v H2 hvl hvb fv => ?_
      have f2 := f1.keep0 fv
      refine ⟨fun vs H' => match vs with | [.bool b] => Fr [] H H' ∧ (b = false ↔ ((0 ≤ rT rows j ∧ rT rows j < 1099511627776) ∧ 0 ≤ (rAt rows j).2.1 ∧ (rAt rows j).2.1 < 200) ∧ (0 < j → kLt (rAt rows (j - 1)) (rAt rows j))) | _ => False, ?_, ?_⟩
      · have eT : rT rows j = (rAt rows j).1 := rfl
        refine ⟨_, hvb.ld0 (by kernel_rfl) rfl, brB_of (fun h => ⟨f2, by simp at h; simp; omega⟩) fun h1 => ⟨_, hvb.ld0 (by kernel_rfl) rfl, brB_of (fun h => ⟨f2, by simp at h; simp; omega⟩) fun h2 => ⟨_, hvb.ldK (j := 1) (by kernel_rfl) rfl, brB_of (fun h => ⟨f2, by simp at h; simp; omega⟩) fun h3 => ⟨_, hvb.ldK (j := 1) (by kernel_rfl) rfl, brB_of (fun h => ⟨f2, by simp at h; simp; omega⟩) fun h4 => ?_⟩⟩⟩⟩
        have h1 := of_decide_eq_false h1
        have h2 := of_decide_eq_false h2
        have h3 := of_decide_eq_false h3
        have h4 := of_decide_eq_false h4
        refine brB_of (fun h0 => ?_) fun h0 => ⟨f2, ?_⟩
        · have h0 : 0 < j := by simp at h0; omega
          have hs0 := rAt_get (l := rows) (i := j - 1) (by omega)
          refine ⟨_, _, _, hvb.ldA0 (us := [.int .i64 (rAt rows j).1, .int .i64 (rAt rows j).2.1, .int .i64 (rAt rows j).2.2]) (by kernel_rfl) (by kernel_rfl) rfl, ?_⟩
          rw [pred64 (by omega) h0]
          refine (hx.keep f2).get rfl hs0 (decide_eq_true (by omega)) fun ad2 ea2 hc2 => ⟨_, _, _, ldRwA hc2, ?_⟩
          refine behind_ok (x := rAt rows j) (y := rAt rows (j - 1)) fun H3 f3 => ⟨f2.keep0 f3, ?_⟩
          by_cases hk : kLt (rAt rows (j - 1)) (rAt rows j)
          · simp [hk]; omega
          · simp [hk]; intro; omega
        · have : j = 0 := by simp at h0; omega
          subst this
          simp; omega
      · rintro J b H3 ⟨f3, hb⟩
        refine brB_of (fun h => ⟨_, _, rfl, hbad (fun hP => ?_) H3 f3⟩) (fun h => ⟨f3, hb.1 h⟩)
        have := hb.2 (hP.okR (by omega))
        rw [this] at h
        cases h
    · rintro J H2 ⟨f2, h1, h2⟩
      rw [succ64 (by omega)]
      have hmu : n - ((j + 1 : Nat) : Int).toNat < n - ((j : Nat) : Int).toNat := by omega
      exact ⟨⟨j + 1, rfl, by omega, okR_succ hok1 h1 h2, f2⟩, hmu⟩
  · have : j = n := by simp at hge; omega
    subst this
    refine brB_of (fun h => ⟨_, _, rfl, hbad (fun hP => ?_) H1 f1⟩) (fun h => ?_)
    · have := hP.len; simp at h; omega
    have hP : RowsP rows := rowsP_of (by simp at h; omega) (by rw [← hlen]; exact hok1) hv
    have hok := hok hP
    have hn5 := hP.len
    clear h
    intro b H2 hn2 b1 H3 hn3
    rw [wrapU_nat (by omega)]
    refine Uint_ok (by omega) fun H4 f4 => ?_
    have e2 := hn2.eq
    have e3 := hn3.eq
    have s2 := hn2.size
    have s3 := hn3.size
    have zu := uintL_len10 (n := j) (by omega)
    have hb2 := ((Bld.new hn2).keep hn3.fr).keep f4
    have hb3 := (Bld.new hn3).keep f4
    refine WriteString_ok hb2 (by rw [size_mk]; simp; omega) fun H5 S5 h5 f5 g5 => ?_
    rw [List.nil_append, bl_mk] at h5
    have f24 : Fr [] H1 H4 := (hn2.fr.keep0 hn3.fr).keep0 f4
    have f15 : Fr [] H1 H5 := f24.keep f5 fun k hk => by simp at hk; omega
    have hb5 := hb3.fr f5 (by simp; omega)
    apply vc_slices_Chunk___api_Row_api_Row_
    intro b2 H6 hn6 b3 H7 hn7
    refine ⟨16, hn7.blk.ld0 (by kernel_rfl) rfl, brB_of (fun h => by simp at h) fun _ => ⟨_, rfl, fun D l R0 H8 hnl hY => ?_⟩⟩
    obtain ⟨f78, lp8, dq8, eD, el, s8⟩ := hnl.out
    have e6 := hn6.eq
    have e7 := hn7.eq
    have s6 := hn6.size
    have s7 := hn7.size
    have s5 := f15.size
    have s45 := f5.size
    have zu' : (uintL rows.length).length ≤ 10 := by rw [← hlen]; exact zu
    have g58 : Fr [] H5 H8 := (hn6.fr.keep0 hn7.fr).keep0 f78
    have f18 := f15.keep0 g58
    have f8 := f1.keep0 f18
    have hbk2 := (hn6.blk.keep hn7.fr).keep f78
    have hbk3 := hn7.blk.keep f78
    have B1 := h5.keep g58
    have B2 := hb5.keep g58
    have B1i := Bld.inS h5
    have B2i := Bld.inS hb5
    have s1 := f1.size
    have s4 := f4.size
    have hS5 : ∀ k ∈ S5, k = b ∨ H4.size ≤ k := fun k hk => (g5 k hk).imp (fun h => by simpa using h) id
    have hSlo : ∀ k ∈ S5, H1.size ≤ k := fun k hk => (hS5 k hk).elim (fun h => by omega) fun h => by omega
    have hdj : Dj S5 [b1] := fun k hk hk2 => by
      simp at hk2; subst hk2
      rcases hS5 _ hk with h | h <;> omega
    have hxa : ∀ k ∈ blkL a, rows ≠ [] → k < H.size := fun k hk hne => sl_lt hx hne k hk
    by_cases hne : rows = []
    · -- nothing
      subst hne
      have hj0 : j = 0 := hlen
      subst hj0
      have hd0 : b2 ∉ (l :: D :: (S5 ++ [b1])) ∧ b3 ∉ (l :: D :: (S5 ++ [b1])) := by
        constructor
        · intro hm
          simp only [List.mem_cons, List.mem_append, List.mem_nil_iff, or_false] at hm
          rcases hm with h | h | h | h
          · omega
          · omega
          · have := B1i.2 _ h; omega
          · omega
        · intro hm
          simp only [List.mem_cons, List.mem_append, List.mem_nil_iff, or_false] at hm
          rcases hm with h | h | h | h
          · omega
          · omega
          · have := B1i.2 _ h; omega
          · omega
      have hx0 : Sl encRw H8 none 0 c ([] : List Rw) := Sl.zero
      refine CallV.mono (R := fun v H' => v = .tuple ⟨[]⟩ ∧ Fr [] H8 H') ?_ ?_
      · refine ⟨88, ⟨[]⟩, _, rfl, by kernel_rfl, ?_⟩
        apply vc_slices_Chunk___api_Row_api_Row__1
        refine ⟨fun vs H' => vs = [.int .i64 0] ∧ Fr [] H8 H', fun _ _ => 0, ⟨rfl, Fr.refl _ _⟩, ?_⟩
        rintro J i H9 ⟨e, f9⟩
        simp only [List.cons.injEq, Value.int.injEq, true_and, and_true] at e
        subst e
        exact ⟨_, _, _, (hbk2.keep f9).ld0 (by kernel_rfl) rfl, brB_of (fun h => by simp at h) fun _ => ⟨rfl, f9⟩⟩
      · rintro v H9 ⟨rfl, f9⟩
        have fE := setLp_fr H9 l R0 .exhausted none
        refine .inl ⟨lp8.fr f9 (by simp), ?_⟩
        refine BString_ok ((B1.keep f9).fr fE fun k hk hk2 => by simp at hk2; subst hk2; have := B1i.2 _ hk; omega) (by omega) fun H10 f10 => ?_
        refine BString_ok (xs := []) (((B2.keep f9).fr fE fun k hk hk2 => by simp at hk hk2; omega).fr f10 fun k hk hk2 => by simp at hk; subst hk; exact hdj _ hk2 (by simp)) (by simp) fun H11 f11 => ?_
        have f9' := f18.keep0 f9
        have f10' : Fr [] H1 H11 := ((f9'.keep fE fun k hk => by simp at hk; omega).keep f10 hSlo).keep f11 fun k hk => by simp at hk; omega
        refine chk_true (decide_eq_true (by rw [size_mk, size_mk]; simp; omega)) ⟨?_, _, _, rfl, ?_⟩
        · exact (((dq8.fr f9 (by simp)).fr fE (by simp; omega)).fr f10 (fun h => by have := B1i.2 _ h; omega)).fr f11 (by simp; omega)
        · rw [mk_app]
          have e : encR [] = uintL 0 ++ [] := by simp [encR, hdsR, bdsR, nC]
          rw [← e]
          exact hok _ (f1.keep0 (f10'.keep (shutD_fr H11 D) fun k hk => by simp at hk; omega))
    · have hxa : ∀ k ∈ blkL a, k < H.size := fun k hk => hxa k hk hne
      have hlo : ∀ k ∈ l :: D :: (S5 ++ [b1]), H1.size ≤ k ∧ k < H8.size ∧ k ≠ b2 ∧ k ≠ b3 := fun k hk => by
        simp only [List.mem_cons, List.mem_append, List.mem_nil_iff, or_false] at hk
        rcases hk with h | h | h | h
        · omega
        · omega
        · have := B1i.2 _ h; have := hSlo _ h; omega
        · omega
      refine CallV.mono (chunks16_ok (K := fun H9 => ∃ S1, Enc2 rows b b1 l D R0 H1 (nC j) S1 H9 ∧ In H9 S1) hbk2 hbk3 (hx.keep f8) hn (S := l :: D :: (S5 ++ [b1])) (fun k hk => (hlo k hk).2.1) ⟨fun hk => (hlo b2 hk).2.2.1 rfl, fun hk => (hlo b3 hk).2.2.2 rfl, fun k hk hk2 => by
          have := hxa k hk
          have := (hlo k hk2).1
          omega⟩ (I := Enc2 rows b b1 l D R0 H1) ?_ ?_ (fun k hk => by have := hxa k hk; have := f8.size; omega) (fun S1 H9 hT hin hf hg => ⟨S1, hT, hin⟩)) fun v H9 => ?_
      · refine ⟨f18, lp8, dq8, ⟨S5, [b1], ?_, B2, rfl, fun h => by have := B1i.2 _ h; omega, by simp; omega, fun h => by have := B1i.2 _ h; omega, by simp; omega, by omega, hdj⟩, fun k hk => (hlo k hk).1⟩
        have e : uintL rows.length ++ hdsR rows 0 = uintL j := by simp [hdsR, hlen]
        rw [e]; exact B1
      · intro i S H9 p m hi hm hin hT hp hpa haS
        obtain ⟨t1, t2, t3, ⟨S1, S2, q1, q2, q3, q4, q5, q6, q7, q8, q9⟩, t5⟩ := hT
        have fL := setLp_fr H9 l R0 .busy none
        have sL := setLp_size H9 l R0 .busy none
        have hch := hP.ch i
        have hcl := chR_len rows i
        have hcn := ch_ne (l := rows) (i := i) (by omega)
        have hml : m = (chR rows i).length := by omega
        have hfl := hch.first_last hcn
        have hpS : ∀ k ∈ blkL p, k ∉ S := fun k hk => haS k (hpa k hk)
        generalize hc : chR rows i = ch at *
        have q1L := q1.fr fL fun k hk hk2 => by simp at hk2; subst hk2; exact q4 hk
        have q2L := q2.fr fL fun k hk hk2 => by simp at hk2; subst hk2; exact q5 hk
        have hpL := hp.fr fL (blk_of_ne fun k kk hm => by simp at hm; subst hm; exact hpS _ kk (by rw [q3]; simp))
        refine hY _ _ _ H9 (fun v H2 => v = .bool true ∧ ∃ S2, Enc2 rows b b1 l D R0 H1 (i + 1) S2 H2 ∧ Fr S H9 H2 ∧ Grow H9 S S2 ∧ In H2 S2) t2 ⟨t2, ?_⟩
        refine BLen_ok q2L ?_
        have hs0 := rAt_get (l := ch) (i := 0) (by omega)
        refine hpL.get (k := 0) rfl hs0 (decide_eq_true (by omega)) fun ad ea hcc => ⟨firstC ch, by have := ldRw0 hcc; have e : firstC ch = (rAt ch 0).1 := rfl; rw [e]; simpa [Addr.add] using this, ?_⟩
        have hbl := bdsR_len hP i
        have hil : i ≤ 5000 := by omega
        have S2lo : ∀ k ∈ S2, k ∈ S := fun k hk => by rw [q3]; simp [hk]
        have S1lo : ∀ k ∈ S1, k ∈ S := fun k hk => by rw [q3]; simp [hk]
        refine ⟨fun vs H' => match vs with | [.int _ t, .int _ i'] => ∃ (x : Nat) (S3 : List Nat), i' = x ∧ x ≤ m ∧ t = rT ch (x - 1) ∧ BldH H' b1 S3 (bdsR rows i ++ blkTo ch x) ∧ Fr S2 (setLp H9 l R0 .busy none) H' ∧ Grow (setLp H9 l R0 .busy none) S2 S3 | _ => False, fun vs _ => match vs with | [_, .int _ i'] => m - i'.toNat | _ => 0,
          ⟨0, S2, rfl, by omega, rfl, by simpa [blkTo] using q2L, Fr.refl _ _, Grow.refl _ _⟩, ?_⟩
        rintro J3 t i' H10 ⟨x, S3, rfl, hxm, rfl, h10, f10, g10⟩
        have hpH := hpL.fr f10 (blk_of_ne fun k kk hk => hpS k kk (S2lo k hk))
        refine brB_of (fun hlt => ?_) (fun hge => ?_)
        · have hlt : x < m := by simp at hlt; omega
          have hsx := rAt_get (l := ch) (i := x) (by omega)
          have hax := hch.at (i := x) (by omega)
          have hap := (hch.at (i := x - 1) (by omega)).1
          have hmo := hch.fine.mono (i := x - 1) (j := x) (by omega) (by omega)
          refine hpH.get rfl hsx (decide_eq_true (by omega)) fun ad2 ea2 hc2 => ⟨_, _, _, ldRwA hc2, ?_⟩
          refine var_blk (by kernel_rfl) (by kernel_rfl) tri_one (by rfl) fun v H11 hvl hvb fv => ⟨_, hvb.ld0 (by kernel_rfl) rfl, _, hvb.ldK (j := 1) (by kernel_rfl) rfl, _, hvb.ldK (j := 2) (by kernel_rfl) rfl, ?_⟩
          have ed : IntKind.wrap .i64 ((rAt ch x).1 - rT ch (x - 1)) = rT ch x - rT ch (x - 1) := wrap64_of (n := rT ch x - rT ch (x - 1)) (by omega) (by omega)
          rw [ed, wrapU_of (by omega) (by omega)]
          refine Uint_ok (by omega) fun H12 f12 => ⟨(hvb.keep f12).ldK (j := 2) (by kernel_rfl) rfl, (hvb.keep f12).ldK (j := 1) (by kernel_rfl) rfl, ?_⟩
          rw [wrapU_of (n := (rAt ch x).2.1) (by omega) (by omega)]
          refine Uint_ok (by omega) fun H13 f13 => ⟨((hvb.keep f12).keep f13).ldK (j := 2) (by kernel_rfl) rfl, ?_⟩
          have z1 := uintL_len10 (n := (rT ch x - rT ch (x - 1)).toNat) (by omega)
          have z2 := uintL_len10 (n := (rAt ch x).2.1.toNat) (by omega)
          have z3 := uintL_len10 (foldN_lt hax.2.2)
          refine chk_true (decide_eq_true (by rw [size_mk, size_mk]; omega)) ?_
          refine Int_ok hax.2.2 fun H14 f14 => ?_
          refine chk_true (decide_eq_true (by rw [mk_app, size_mk, size_mk, List.length_append]; unfold intL; omega)) ?_
          rw [rowB_mk]
          have f11 : Fr [] H10 H14 := ((fv.keep0 f12).keep0 f13).keep0 f14
          have zr := rowB_len hch (i := x) (by omega)
          have zt := blkTo_len hch (j := x) (by omega)
          refine WriteString_ok (h10.keep f11) (by rw [size_mk, List.length_append]; omega) fun H15 S15 h15 f15 g15 => ?_
          rw [bl_mk, List.append_assoc, ← blkTo_succ] at h15
          have hvS : v ∉ S3 := fun hk => by have := (Bld.inS h10).2 _ hk; omega
          refine ⟨_, ((((hvb.keep f12).keep f13).keep f14).fr f15 hvS).ld0 (by kernel_rfl) rfl, ?_⟩
          rw [succ64 (by omega)]
          have hmu : m - ((x + 1 : Nat) : Int).toNat < m - ((x : Nat) : Int).toNat := by omega
          have sg := f10.size
          have s11 := f11.size
          refine ⟨⟨x + 1, S15, rfl, by omega, by rw [Nat.add_sub_cancel]; rfl, h15, ?_, ?_⟩, hmu⟩
          · exact (f10.trans' f11 (fun k hk _ => hk) (by simp)).trans' f15 (fun k hk _ => hk) fun k hk hl => (g10 k hk).elim id fun h => by omega
          · exact g10.trans sg fun k hk => (g15 k hk).imp id fun h => by omega
        · have hxm' : x = m := by simp at hge; omega
          subst hxm'
          have hlast : rT ch (x - 1) = lastC ch := by unfold lastC; rw [← hml]
          have hblk : blkTo ch x = blkR ch := by unfold blkR; rw [← hml]
          rw [hlast]
          rw [hblk] at h10
          rw [wrapU_of (n := firstC ch) (by omega) (by omega)]
          refine Uint_ok (by omega) fun H11 f11 => ?_
          rw [wrap64_of (n := lastC ch - firstC ch) (by omega) (by omega), wrapU_of (n := lastC ch - firstC ch) (by omega) (by omega)]
          refine Uint_ok (by omega) fun H12 f12 => ?_
          have z1 := uintL_len10 (n := (firstC ch).toNat) (by omega)
          have z2 := uintL_len10 (n := (lastC ch - firstC ch).toNat) (by omega)
          have zb := blkR_len hch (by omega)
          have z3 := uintL_len10 (n := (blkR ch).length) (by omega)
          refine chk_true (decide_eq_true (by rw [size_mk, size_mk]; omega)) ?_
          have h12 := (h10.keep f11).keep f12
          refine BLen_ok h12 ?_
          have ez : IntKind.wrap .i64 (((bdsR rows i ++ blkR ch).length : Nat) - ((bdsR rows i).length : Nat) : Int) = ((blkR ch).length : Nat) := by
            rw [List.length_append, wrap64_of (by omega) (by omega)]; omega
          rw [ez, nat_wrapU (n := (blkR ch).length) (by omega)]
          refine Uint_ok (by omega) fun H13 f13 => ?_
          refine chk_true (decide_eq_true (by rw [mk_app, size_mk, size_mk, List.length_append]; omega)) ?_
          rw [hdR_mk]
          have h13 := h12.keep f13
          have f1013 : Fr [] H10 H13 := (f11.keep0 f12).keep0 f13
          have q1H := (q1L.fr f10 q9).keep f1013
          have zh := hdsR_len hP (m := i) (by omega)
          have zhd := hdR_len hch hcn (by omega)
          refine WriteString_ok q1H (by rw [size_mk, List.length_append]; omega) fun H14 S14 h14 f14 g14 => ?_
          rw [bl_mk, List.append_assoc] at h14
          have eh : hdsR rows i ++ hdR ch = hdsR rows (i + 1) := by rw [hdsR_succ, hc]
          have eb : bdsR rows i ++ blkR ch = bdsR rows (i + 1) := by rw [bdsR_succ, hc]
          rw [eh] at h14
          rw [eb] at h13
          have sg := f10.size
          have sg2 := f1013.size
          have i3 := (Bld.inS h13).2
          have i10 := (Bld.inS h10).2
          have iS1 : In H9 S1 := fun k hk => hin k (S1lo k hk)
          have iS2 : In H9 S2 := fun k hk => hin k (S2lo k hk)
          have dj3 : Dj S14 S3 := fun k hk hk2 => by
            rcases g14 k hk with h | h
            · rcases g10 k hk2 with h2 | h2
              · exact q9 k h h2
              · have := iS1 k h; omega
            · have := i10 k hk2; omega
          have h13' := h13.fr f14 fun k hk hk2 => by
            rcases g10 k hk with h | h
            · exact q9 k hk2 h
            · have := iS1 k hk2; omega
          have nl : l ∉ S3 := fun hk => (g10 l hk).elim q5 fun h => by have := t2.lt; omega
          have nD : D ∉ S3 := fun hk => (g10 D hk).elim q7 fun h => by have := hin D (by rw [q3]; simp); omega
          have nl' : l ∉ S14 := fun hk => (g14 l hk).elim q4 fun h => by have := t2.lt; omega
          have nD' : D ∉ S14 := fun hk => (g14 D hk).elim q6 fun h => by have := hin D (by rw [q3]; simp); omega
          have lpB : Lp H14 l R0 .busy none := (((setLp_get t2.lt).fr f10 q5).fr f1013 (by simp)).fr f14 q4
          have fE := setLp_fr H14 l R0 .ready none
          have F1 : Fr S H9 H14 := (((fL.trans' f10 (T := S) (fun k hk _ => by simp at hk; subst hk; rw [q3]; simp) (fun k hk _ => S2lo k hk)).trans' f1013 (fun k hk _ => hk) (by simp)).trans' f14 (fun k hk _ => hk) fun k hk _ => S1lo k hk)
          have F2 : Fr S H9 (setLp H14 l R0 .ready none) := F1.trans' fE (fun k hk _ => hk) fun k hk _ => by simp at hk; subst hk; rw [q3]; simp
          have i14 := (Bld.inS h14).2
          have i13' := (Bld.inS h13').2
          refine ⟨lpB, rfl, l :: D :: (S14 ++ S3), ⟨t1.keep F2 t5, setLp_get lpB.lt, ?_, ⟨S14, S3, h14.fr fE (fun k hk hk2 => by simp at hk2; subst hk2; exact nl' hk), h13'.fr fE (fun k hk hk2 => by simp at hk2; subst hk2; exact nl hk), rfl, nl', nl, nD', nD, q8, dj3⟩, ?_⟩, F2, ?_, ?_⟩
          · exact ((((t3.fr fL (by simpa using fun e => q8 e.symm)).fr f10 q7).fr f1013 (by simp)).fr f14 q6).fr fE (by simpa using fun e => q8 e.symm)
          · have t15 := t1.size
            intro k hk
            simp only [List.mem_cons, List.mem_append] at hk
            rcases hk with h | h | h | h
            · exact t5 k (by rw [q3, h]; simp)
            · exact t5 k (by rw [q3, h]; simp)
            · exact (g14 k h).elim (fun h => t5 k (S1lo k h)) fun h => by omega
            · exact (g10 k h).elim (fun h => t5 k (S2lo k h)) fun h => by omega
          · intro k hk
            simp only [List.mem_cons, List.mem_append] at hk
            rcases hk with h | h | h | h
            · exact .inl (by rw [q3, h]; simp)
            · exact .inl (by rw [q3, h]; simp)
            · exact (g14 k h).imp (S1lo k) fun h => by omega
            · exact (g10 k h).imp (S2lo k) fun h => by omega
          · have sE := setLp_size H14 l R0 .ready none
            have s14 := f14.size
            intro k hk
            simp only [List.mem_cons, List.mem_append] at hk
            rcases hk with h | h | h | h
            · have := lpB.lt; omega
            · have := hin D (by rw [q3]; simp); omega
            · have := i14 k h; omega
            · have := i13' k h; omega
      · rintro ⟨rfl, S1', ⟨t1, t2, t3, ⟨S1, S2, q1, q2, q3, q4, q5, q6, q7, q8, q9⟩, t5⟩, hin⟩
        have fE := setLp_fr H9 l R0 .exhausted none
        have S2lo : ∀ k ∈ S2, k ∈ S1' := fun k hk => by rw [q3]; simp [hk]
        have S1lo : ∀ k ∈ S1, k ∈ S1' := fun k hk => by rw [q3]; simp [hk]
        have q1E := q1.fr fE fun k hk hk2 => by simp at hk2; subst hk2; exact q4 hk
        have q2E := q2.fr fE fun k hk hk2 => by simp at hk2; subst hk2; exact q5 hk
        have hnc := nC_le (n := j) (by omega)
        have zh := hdsR_len hP (m := nC j) (by unfold nC; omega)
        have zb := bdsR_len hP (nC j)
        refine .inl ⟨t2, BString_ok q1E (by rw [List.length_append]; omega) fun H10 f10 => ?_⟩
        refine BString_ok (q2E.fr f10 fun k hk hk2 => q9 k hk2 hk) (by omega) fun H11 f11 => ?_
        refine chk_true (decide_eq_true (by rw [size_mk, size_mk, List.length_append]; omega)) ⟨?_, _, _, rfl, ?_⟩
        · exact ((t3.fr fE (by simpa using fun e => q8 e.symm)).fr f10 q6).fr f11 q7
        · rw [mk_app, List.append_assoc, ← (show encR rows = uintL rows.length ++ (hdsR rows (nC j) ++ bdsR rows (nC j)) by unfold encR; rw [hlen])]
          have F : Fr [] H1 H11 := ((t1.keep fE fun k hk => by simp at hk; subst hk; exact t5 _ (by rw [q3]; simp)).keep f10 fun k hk => t5 k (S1lo k hk)).keep f11 fun k hk => t5 k (S2lo k hk)
          exact hok _ (f1.keep0 (F.keep (shutD_fr H11 D) fun k hk => by simp at hk; subst hk; exact t5 _ (by rw [q3]; simp)))

theorem ldRw1 {H : Heap} {ad : Addr} {x : Rw} (h : CellsAt H ad (encRw.cells x)) : Ld Tryz.prog 3 H (ad.add 1) (.int .i64 x.2.1) := ld_part (by kernel_rfl) h (j := 1) rfl
theorem ldRw2 {H : Heap} {ad : Addr} {x : Rw} (h : CellsAt H ad (encRw.cells x)) : Ld Tryz.prog 3 H (ad.add 2) (.int .i64 x.2.2) := ld_part (by kernel_rfl) h (j := 2) rfl
def fineTo (l : List Rw) (j : Nat) : Prop := ∀ i, 0 < i → i < j → kLt (rAt l (i - 1)) (rAt l i)
theorem fineTo_iff {l : List Rw} : fineTo l l.length ↔ FineR l := ⟨fun h => fine_of_next fun i h0 hi => h i h0 hi, fun h i h0 hi => h.at (by omega) hi⟩
theorem rFine_ok {H : Heap} {a : Option Addr} {n c : Nat} {rows : List Rw} {K : Bool → Heap → Prop} (hx : Sl encRw H a n c rows) (hn : n ≤ 1000000000) (hk : ∀ b H', (b = true ↔ FineR rows) → Fr [] H H' → K b H') :
    CallH Tryz.prog fn_ref13_Fine ⟨[.slice a n c]⟩ H fun v H' => ∃ r, v = .bool r ∧ K r H' := by
  apply vc_ref13_Fine
  have hlen := hx.len
  refine ⟨fun vs H' => match vs with | [.int _ i] => ∃ j : Nat, i = ((j + 1 : Nat) : Int) ∧ (j + 1 ≤ n ∨ j = 0) ∧ fineTo rows (j + 1) ∧ Fr [] H H' | _ => False, fun vs _ => match vs with | [.int _ i] => n - i.toNat | _ => 0,
    ⟨0, rfl, .inr rfl, fun i h0 hi => by omega, Fr.refl _ _⟩, ?_⟩
  rintro J i H1 ⟨j, rfl, hj, hf, f1⟩
  refine brB_of (fun h => ?_) (fun h => ?_)
  · have hlt : j + 1 < n := by simp at h; omega
    have h1 := rAt_get (l := rows) (i := j + 1) (by omega)
    have h0 := rAt_get (l := rows) (i := j) (by omega)
    refine (hx.keep f1).get rfl h1 (decide_eq_true (by omega)) fun ad ea hc => ⟨_, _, _, ldRwA hc, ?_⟩
    have e1 : IntKind.wrap .i64 (((j + 1 : Nat) : Int) - 1) = ((j : Nat) : Int) := by rw [wrap64_of (by omega) (by omega)]; omega
    rw [e1, succ64 (by omega)]
    refine (hx.keep f1).get rfl h0 (decide_eq_true (by omega)) fun ad2 ea2 hc2 => ⟨_, _, _, ldRwA hc2, ?_⟩
    refine Behind_ok (x := rAt rows (j + 1)) (y := rAt rows j) fun H2 f2 => ?_
    have hmu : n - ((j + 1 + 1 : Nat) : Int).toNat < n - ((j + 1 : Nat) : Int).toNat := by omega
    by_cases hk1 : kLt (rAt rows j) (rAt rows (j + 1))
    · rw [decide_eq_true hk1]
      refine brB_of (fun h => by cases h) fun _ => ⟨⟨j + 1, rfl, .inl (by omega), fun i h0 hi => ?_, f1.keep0 f2⟩, hmu⟩
      by_cases e : i = j + 1
      · subst e; exact hk1
      · exact hf i h0 (by omega)
    · rw [decide_eq_false hk1]
      refine brB_of (fun _ => ⟨_, rfl, hk false H2 ⟨fun h => (by cases h), fun hF => absurd ?_ hk1⟩ (f1.keep0 f2)⟩) fun h => by cases h
      exact hF.at (i := j) (j := j + 1) (by omega) (by omega)
  · have hge : n ≤ j + 1 := by simp at h; omega
    refine ⟨_, rfl, hk true H1 ⟨fun _ => fineTo_iff.1 fun i h0 hi => hf i h0 (by omega), fun _ => rfl⟩ f1⟩
theorem cright_ok {H : Heap} {a : Option Addr} {n c : Nat} {rows : List Rw} {K : Bool → Heap → Prop} (hx : Sl encRw H a n c rows) (hn : n ≤ 1000000000) (hk : ∀ b H', (b = true ↔ FineR rows) → Fr [] H H' → K b H') :
    CallH Tryz.prog fn_convert_right ⟨[.slice a n c]⟩ H fun v H' => ∃ r, v = .bool r ∧ K r H' := by
  apply vc_convert_right
  have hlen := hx.len
  refine ⟨fun vs H' => match vs with | [.int _ i] => ∃ j : Nat, i = j ∧ j ≤ n ∧ fineTo rows j ∧ Fr [] H H' | _ => False, fun vs _ => match vs with | [.int _ i] => n - i.toNat | _ => 0,
    ⟨0, rfl, by omega, fun i h0 hi => by omega, Fr.refl _ _⟩, ?_⟩
  rintro J i H1 ⟨j, rfl, hj, hf, f1⟩
  refine brB_of (fun h => ?_) (fun h => ?_)
  · have hlt : j < n := by simp at h; omega
    have h1 := rAt_get (l := rows) (i := j) (by omega)
    rw [succ64 (by omega)]
    have hmu : n - ((j + 1 : Nat) : Int).toNat < n - ((j : Nat) : Int).toNat := by omega
    refine (hx.keep f1).get rfl h1 (decide_eq_true (by omega)) fun ad ea hc => ⟨_, _, _, ldRwA hc, ?_⟩
    refine var_blk (by kernel_rfl) (by kernel_rfl) tri_one (by rfl) fun v H2 hvl hvb fv => ?_
    have f2 := f1.keep0 fv
    refine brB_of (fun h0 => ?_) fun h0 => ⟨⟨j + 1, rfl, by omega, fun i h0' hi => ?_, f2⟩, hmu⟩
    · have h0 : 0 < j := by simp at h0; omega
      have hs0 := rAt_get (l := rows) (i := j - 1) (by omega)
      rw [pred64 (by omega) h0]
      refine (hx.keep f2).get rfl hs0 (decide_eq_true (by omega)) fun ad2 ea2 hc2 => ⟨_, _, _, ldRwA hc2, ?_⟩
      refine var_blk (by kernel_rfl) (by kernel_rfl) tri_one (by rfl) fun v2 H3 hvl2 hvb2 fv2 => ?_
      have hv3 := hvb.keep fv2
      have f3 := f2.keep0 fv2
      have no : ¬ kLt (rAt rows (j - 1)) (rAt rows j) → ∀ H', Fr [] H H' → ∃ r, Value.bool false = .bool r ∧ K r H' := fun hno H' hf' => ⟨_, rfl, hk false H' ⟨fun h => (by cases h), fun hF => absurd (hF.at (by omega) (by omega)) hno⟩ hf'⟩
      have yes : kLt (rAt rows (j - 1)) (rAt rows j) → fineTo rows (j + 1) := fun hy i h0' hi => by
        by_cases e : i = j
        · subst e; exact hy
        · exact hf i h0' (by omega)
      refine ⟨_, hv3.ld0 (by kernel_rfl) rfl, _, hvb2.ld0 (by kernel_rfl) rfl, brB_of (fun h => no (fun hk2 => ?_) _ f3) fun h => ⟨_, hv3.ld0 (by kernel_rfl) rfl, _, hvb2.ld0 (by kernel_rfl) rfl, brB_of (fun h2 => ⟨_, hv3.ldK (j := 1) (by kernel_rfl) rfl, _, hvb2.ldK (j := 1) (by kernel_rfl) rfl, brB_of (fun h3 => no (fun hk2 => ?_) _ f3) fun h3 => ⟨⟨j + 1, rfl, by omega, yes ?_, f3⟩, hmu⟩⟩) fun h2 => ⟨⟨j + 1, rfl, by omega, yes ?_, f3⟩, hmu⟩⟩⟩
      · have h := of_decide_eq_true h
        unfold kLt at hk2; omega
      · have h2 : (rAt rows j).1 = (rAt rows (j - 1)).1 := by simpa using h2
        have h3 := of_decide_eq_true h3
        unfold kLt at hk2; omega
      · have h2 : (rAt rows j).1 = (rAt rows (j - 1)).1 := by simpa using h2
        have h3 := of_decide_eq_false h3
        right; omega
      · have h2 : ¬ (rAt rows j).1 = (rAt rows (j - 1)).1 := by simpa using h2
        have h := of_decide_eq_false h
        left; omega
    · have : j = 0 := by simp at h0; omega
      omega
  · have hge : j = n := by simp at h; omega
    subst hge
    refine ⟨_, rfl, hk true H1 ⟨fun _ => fineTo_iff.1 (by rw [← hlen]; exact hf), fun _ => rfl⟩ f1⟩
theorem u_ok {n : Int} {H : Heap} {K : ByteArray → Heap → Prop} (h0 : 0 ≤ n) (hn : n < 18446744073709551616) (hk : ∀ H', Fr [] H H' → K ⟨(uintL n.toNat).toArray⟩ H') :
    CallH Tryz.prog fn_ref16_u ⟨[.int .i64 n]⟩ H fun v H' => ∃ s, v = .string s ∧ K s H' := by
  apply vc_ref16_u
  rw [wrapU_of h0 hn]
  exact rUint_ok (by omega) fun H' hf => ⟨_, rfl, hk H' hf⟩
theorem rblock_ok {H : Heap} {a : Option Addr} {m c : Nat} {ch : List Rw} {K : ByteArray → Heap → Prop} (hx : Sl encRw H a m c ch) (hch : RowsP ch) (hne : ch ≠ []) (hk : ∀ H', Fr [] H H' → K ⟨(blkR ch).toArray⟩ H') :
    CallH Tryz.prog fn_ref16_block ⟨[.slice a m c]⟩ H fun v H' => ∃ s, v = .string s ∧ K s H' := by
  apply vc_ref16_block
  have hml := hx.len
  have hm5 := hch.len
  have hpos : 0 < ch.length := List.length_pos_iff.2 hne
  have hs0 := rAt_get (l := ch) (i := 0) hpos
  refine hx.get (k := 0) rfl hs0 (decide_eq_true (by omega)) fun ad ea hcc => ⟨rT ch 0, by have := ldRw0 hcc; have e : rT ch 0 = (rAt ch 0).1 := rfl; rw [e]; simpa [Addr.add] using this, ?_⟩
  refine ⟨fun vs H' => match vs with | [.string s, .int _ t, .int _ i'] => ∃ x : Nat, i' = x ∧ x ≤ m ∧ t = rT ch (x - 1) ∧ s = ⟨(blkTo ch x).toArray⟩ ∧ Fr [] H H' | _ => False, fun vs _ => match vs with | [_, _, .int _ i'] => m - i'.toNat | _ => 0,
    ⟨0, rfl, by omega, rfl, rfl, Fr.refl _ _⟩, ?_⟩
  rintro J s t i' H10 ⟨x, rfl, hxm, rfl, rfl, f10⟩
  refine brB_of (fun hlt => ?_) (fun hge => ?_)
  · have hlt : x < m := by simp at hlt; omega
    have hsx := rAt_get (l := ch) (i := x) (by omega)
    have hax := hch.at (i := x) (by omega)
    have hap := (hch.at (i := x - 1) (by omega)).1
    have hmo := hch.fine.mono (i := x - 1) (j := x) (by omega) (by omega)
    have hpH := hx.keep f10
    refine hpH.get rfl hsx (decide_eq_true (by omega)) fun ad2 ea2 hc2 => ⟨_, ldRw0 hc2, ?_⟩
    refine hpH.get rfl hsx (decide_eq_true (by omega)) fun ad3 ea3 hc3 => ⟨_, ldRw1 hc3, ?_⟩
    refine hpH.get rfl hsx (decide_eq_true (by omega)) fun ad4 ea4 hc4 => ⟨_, ldRw2 hc4, ?_⟩
    have ed : IntKind.wrap .i64 ((rAt ch x).1 - rT ch (x - 1)) = rT ch x - rT ch (x - 1) := wrap64_of (n := rT ch x - rT ch (x - 1)) (by omega) (by omega)
    rw [ed]
    have z1 := uintL_len10 (n := (rT ch x - rT ch (x - 1)).toNat) (by omega)
    have z2 := uintL_len10 (n := (rAt ch x).2.1.toNat) (by omega)
    have z3 := uintL_len10 (foldN_lt hax.2.2)
    have zt := blkTo_len hch (j := x) (by omega)
    refine u_ok (by omega) (by omega) fun H12 f12 => ⟨ldRw2 (hc4.keep f12), ldRw1 (hc3.keep f12), ?_⟩
    refine chk_true (decide_eq_true (by rw [size_mk, size_mk]; omega)) ?_
    refine u_ok (by omega) (by omega) fun H13 f13 => ⟨ldRw2 ((hc4.keep f12).keep f13), ?_⟩
    refine chk_true (decide_eq_true (by rw [mk_app, size_mk, size_mk, List.length_append]; omega)) ?_
    refine rInt_ok hax.2.2 fun H14 f14 => ?_
    refine chk_true (decide_eq_true (by rw [mk_app, mk_app, size_mk, size_mk, List.length_append, List.length_append]; unfold intL; omega)) ?_
    have f14' := ((f10.keep0 f12).keep0 f13).keep0 f14
    refine (hx.keep f14').get rfl hsx (decide_eq_true (by omega)) fun ad5 ea5 hc5 => ⟨_, ldRw0 hc5, ?_⟩
    rw [succ64 (by omega)]
    have hmu : m - ((x + 1 : Nat) : Int).toNat < m - ((x : Nat) : Int).toNat := by omega
    refine ⟨⟨x + 1, rfl, by omega, by rw [Nat.add_sub_cancel]; rfl, ?_, f14'⟩, hmu⟩
    rw [mk_app, mk_app, mk_app, blkTo_succ]
    simp [rowB]
  · have hxm' : x = m := by simp at hge; omega
    subst hxm'
    have hblk : blkTo ch x = blkR ch := by unfold blkR; rw [← hml]
    rw [hblk]
    exact ⟨_, rfl, hk _ f10⟩
theorem r16Encode_ok {H : Heap} {a : Option Addr} {n c : Nat} {rows : List Rw} {K : ByteArray → Int → Heap → Prop} (hx : Sl encRw H a n c rows) (hv : ∀ x ∈ rows, I64 x.2.2) (hn : n ≤ 1000000000)
    (hbad : ¬ RowsP rows → ∀ H', Fr [] H H' → K ⟨#[]⟩ 30 H') (hok : RowsP rows → ∀ H', Fr [] H H' → K ⟨(encR rows).toArray⟩ 0 H') :
    CallH Tryz.prog fn_ref16_Encode ⟨[.slice a n c]⟩ H fun v H' => ∃ s e, v = .tuple ⟨[.string s, .int .i64 e]⟩ ∧ K s e H' := by
  apply vc_ref16_Encode
  have hlen := hx.len
  refine ⟨fun _ H' => Fr [] H H' ∧ FineR rows ∧ n ≤ 5000, ?_, ?_⟩
  · refine rFine_ok hx hn fun b H1 hb f1 => brB_of (fun h => ⟨_, _, rfl, hbad (fun hP => ?_) H1 f1⟩) fun h => brB_of (fun h2 => ⟨_, _, rfl, hbad (fun hP => ?_) H1 f1⟩) fun h2 => ⟨f1, hb.1 (by simpa using h), by simp at h2; omega⟩
    · rw [hb.2 hP.fine] at h; cases h
    · have := hP.len; simp at h2; omega
  rintro J H1 ⟨f1, hF, hn5⟩
  refine ⟨fun vs H' => match vs with | [.int _ i] => ∃ j : Nat, i = j ∧ j ≤ n ∧ (∀ i, i < j → (0 ≤ rT rows i ∧ rT rows i < 1099511627776) ∧ 0 ≤ (rAt rows i).2.1 ∧ (rAt rows i).2.1 < 200) ∧ H' = H1 | _ => False, fun vs _ => match vs with | [.int _ i] => n - i.toNat | _ => 0,
    ⟨0, rfl, by omega, fun i h => by omega, rfl⟩, ?_⟩
  rintro J i H2 ⟨j, rfl, hj, hok1, e2⟩
  subst e2
  refine brB_of (fun hlt => ?_) (fun hge => ?_)
  · have hlt : j < n := by simp at hlt; omega
    have hs := rAt_get (l := rows) (i := j) (by omega)
    have eT : rT rows j = (rAt rows j).1 := rfl
    refine ⟨fun _ H' => H' = H2 ∧ ((0 ≤ rT rows j ∧ rT rows j < 1099511627776) ∧ 0 ≤ (rAt rows j).2.1 ∧ (rAt rows j).2.1 < 200), ⟨fun vs H' => match vs with | [.bool b] => H' = H2 ∧ (b = false ↔ ((0 ≤ rT rows j ∧ rT rows j < 1099511627776) ∧ 0 ≤ (rAt rows j).2.1 ∧ (rAt rows j).2.1 < 200)) | _ => False, ?_, ?_⟩, ?_⟩
    · refine (hx.keep f1).get rfl hs (decide_eq_true (by omega)) fun ad ea hc => ⟨_, ldRw0 hc, brB_of (fun h => ⟨rfl, by simp at h; simp; omega⟩) fun h1 => ?_⟩
      refine (hx.keep f1).get rfl hs (decide_eq_true (by omega)) fun ad ea hc => ⟨_, ldRw0 hc, brB_of (fun h => ⟨rfl, by simp at h; simp; omega⟩) fun h2 => ?_⟩
      refine (hx.keep f1).get rfl hs (decide_eq_true (by omega)) fun ad ea hc => ⟨_, ldRw1 hc, brB_of (fun h => ⟨rfl, by simp at h; simp; omega⟩) fun h3 => ?_⟩
      refine (hx.keep f1).get rfl hs (decide_eq_true (by omega)) fun ad ea hc => ⟨_, ldRw1 hc, rfl, ?_⟩
      have h1 := of_decide_eq_false h1
      have h2 := of_decide_eq_false h2
      have h3 := of_decide_eq_false h3
      simp only [decide_eq_false_iff_not]
      omega
    · rintro J b H3 ⟨rfl, hb⟩
      refine brB_of (fun h => ⟨_, _, rfl, hbad (fun hP => ?_) H3 f1⟩) (fun h => ⟨rfl, hb.1 h⟩)
      have := hb.2 (hP.okR (by omega)).1
      rw [this] at h
      cases h
    · rintro J H3 ⟨rfl, h1⟩
      rw [succ64 (by omega)]
      have hmu : n - ((j + 1 : Nat) : Int).toNat < n - ((j : Nat) : Int).toNat := by omega
      refine ⟨⟨j + 1, rfl, by omega, fun i hi => ?_, rfl⟩, hmu⟩
      by_cases e : i = j
      · subst e; exact h1
      · exact hok1 i (by omega)
  · have : j = n := by simp at hge; omega
    subst this
    have hP : RowsP rows := rowsP_of (by omega) (fun i hi => ⟨hok1 i (by omega), fun h0 => hF.at (by omega) hi⟩) hv
    have hok := hok hP
    refine u_ok (by omega) (by omega) fun H3 f3 => ?_
    rw [Int.toNat_natCast]
    refine ⟨fun vs H' => match vs with | [.string s, .string t, .int _ i'] => ∃ x : Nat, i' = ((16 * x : Nat) : Int) ∧ x ≤ nC j ∧ s = ⟨(uintL rows.length ++ hdsR rows x).toArray⟩ ∧ t = ⟨(bdsR rows x).toArray⟩ ∧ Fr [] H H' | _ => False, fun vs _ => match vs with | [_, _, .int _ i'] => j + 16 - i'.toNat | _ => 0,
      ⟨0, rfl, by omega, by rw [← hlen]; simp [hdsR], by simp [bdsR], f1.keep0 f3⟩, ?_⟩
    rintro J s t i' H4 ⟨x, rfl, hxm, rfl, rfl, f4⟩
    have hch0 : nC j = (j + 15) / 16 := rfl
    have zu := uintL_len10 (n := rows.length) (by omega)
    have zb := bdsR_len hP x
    refine brB_of (fun hlt => ?_) (fun hge => ?_)
    · have hlt : 16 * x < j := by
        have : ((16 * x : Nat) : Int) < (j : Int) := by simpa using hlt
        omega
      have hcap := hx.cap
      have e16 : IntKind.wrap .i64 (((16 * x : Nat) : Int) + 16) = ((16 * (x + 1) : Nat) : Int) := by rw [wrap64_of (by omega) (by omega)]; omega
      have e0 : (if (j : Int) < ((16 * (x + 1) : Nat) : Int) then (j : Int) else ((16 * (x + 1) : Nat) : Int)) = ((min (16 * x + 16) j : Nat) : Int) := by split <;> omega
      rw [e16, e0]
      refine chk_true (decide_eq_true ⟨by omega, by omega, by omega⟩) ?_
      rw [Int.toNat_natCast, Int.toNat_natCast]
      have hcl := chR_len rows x
      have hcn := ch_ne (l := rows) (i := x) (by omega)
      have hch := hP.ch x
      have hsub : Sl encRw H4 (slA c (16 * x) 3 a) (min (16 * x + 16) j - 16 * x) (c - 16 * x) (chR rows x) := by
        have := (hx.keep f4).cut (k := 16 * x) (m := min (16 * x + 16) j) (by omega) (by omega)
        rw [ch_cut hlen hlt] at this
        exact this
      have zh := hdsR_len hP (m := x) (by omega)
      have ehd := hdsR_succ rows x
      have ebd := bdsR_succ rows x
      have hfl := hch.first_last hcn
      generalize hc' : chR rows x = ch at *
      have hml : min (16 * x + 16) j - 16 * x = ch.length := by omega
      rw [hml] at hsub ⊢
      have zbl := blkR_len hch (by omega)
      have hs0 := rAt_get (l := ch) (i := 0) (by omega)
      have hs9 := rAt_get (l := ch) (i := ch.length - 1) (by omega)
      have e1 : IntKind.wrap .i64 (((ch.length : Nat) : Int) - 1) = ((ch.length - 1 : Nat) : Int) := pred64 (by omega) (by omega)
      rw [e1]
      refine rblock_ok hsub hch hcn fun H5 f5 => ?_
      have hs5 := hsub.keep f5
      have l0 : ∀ {ad : Addr} {H' : Heap}, CellsAt H' (ad.add (Int.toNat (0 : Int) * encRw.sz)) (encRw.cells (rAt ch 0)) → Ld Tryz.prog 3 H' ad (.int .i64 (firstC ch)) := fun hcc => by
        have := ldRw0 hcc; have e : firstC ch = (rAt ch 0).1 := rfl; rw [e]; simpa [Addr.add] using this
      refine hs5.get (k := 0) rfl hs0 (decide_eq_true (by omega)) fun ad ea hcc => ⟨firstC ch, l0 hcc, ?_⟩
      refine hs5.get rfl hs9 (decide_eq_true (by omega)) fun ad2 ea2 hc2 => ⟨lastC ch, ldRw0 hc2, ?_⟩
      refine hs5.get (k := 0) rfl hs0 (decide_eq_true (by omega)) fun ad3 ea3 hc3 => ⟨firstC ch, l0 hc3, ?_⟩
      refine u_ok (by omega) (by omega) fun H6 f6 => ⟨l0 (hc3.keep f6), ldRw0 (hc2.keep f6), ?_⟩
      have z1 := uintL_len10 (n := (firstC ch).toNat) (by omega)
      have z2 := uintL_len10 (n := (lastC ch - firstC ch).toNat) (by omega)
      have z3 := uintL_len10 (n := (blkR ch).length) (by omega)
      refine chk_true (decide_eq_true (by rw [size_mk, size_mk, List.length_append]; omega)) ?_
      rw [wrap64_of (n := lastC ch - firstC ch) (by omega) (by omega)]
      refine u_ok (by omega) (by omega) fun H7 f7 => ?_
      refine chk_true (decide_eq_true (by rw [mk_app, size_mk, size_mk, List.length_append, List.length_append]; omega)) ?_
      rw [size_mk]
      refine u_ok (by omega) (by omega) fun H8 f8 => ?_
      rw [Int.toNat_natCast]
      refine chk_true (decide_eq_true (by rw [mk_app, mk_app, size_mk, size_mk, List.length_append, List.length_append, List.length_append]; omega)) ?_
      refine chk_true (decide_eq_true (by rw [size_mk]; omega)) ?_
      have hmu : j + 16 - ((16 * (x + 1) : Nat) : Int).toNat < j + 16 - ((16 * x : Nat) : Int).toNat := by omega
      refine ⟨⟨x + 1, rfl, by omega, ?_, ?_, (((f4.keep0 f5).keep0 f6).keep0 f7).keep0 f8⟩, hmu⟩
      · rw [mk_app, mk_app, mk_app, ehd]
        simp [hdR]
      · rw [mk_app, ebd]
    · have hge : j ≤ 16 * x := by
        have : ¬ ((16 * x : Nat) : Int) < (j : Int) := by simpa using hge
        omega
      have : x = nC j := by omega
      subst this
      have zh := hdsR_len hP (m := nC j) (by omega)
      have hnc := nC_le (n := j) (by omega)
      refine chk_true (decide_eq_true (by rw [size_mk, size_mk, List.length_append]; omega)) ⟨_, _, rfl, ?_⟩
      rw [mk_app, List.append_assoc, ← (show encR rows = uintL rows.length ++ (hdsR rows (nC j) ++ bdsR rows (nC j)) by unfold encR; rw [hlen])]
      exact hok _ f4

def NumR (s : ByteArray) (ok : Bool) (a B : Nat) (v : Int) (ok' : Bool) (a' : Nat) : Prop :=
  (ok = true ∧ ok' = true ∧ ∃ m : Nat, v = m ∧ m < B ∧ (bl s).drop a = uintL m ++ (bl s).drop (a + (uintL m).length) ∧ a' = a + (uintL m).length) ∨
  (ok' = false ∧ v = 0 ∧ a' = a ∧ (ok = true → ∀ m t, m < B → (bl s).drop a = uintL m ++ t → False))
theorem NumR.of {s : ByteArray} {ok ok' : Bool} {a a' B m : Nat} {v : Int} {t : List UInt8} (h : NumR s ok a B v ok' a') (ho : ok = true) (hm : m < B) (hr : (bl s).drop a = uintL m ++ t) : ok' = true ∧ v = m ∧ a' = a + (uintL m).length ∧ (bl s).drop a' = t := by
  rcases h with ⟨_, h1, w, h2, h3, h4, h5⟩ | ⟨_, _, _, h⟩
  · rw [h4] at hr
    obtain ⟨rfl, e⟩ := uint_eq hr
    exact ⟨h1, h2, h5, by rw [h5]; exact e⟩
  · exact (h ho m t hm hr).elim
theorem NumR.nat {s : ByteArray} {ok ok' : Bool} {a a' B : Nat} {v : Int} (h : NumR s ok a B v ok' a') (hB : 0 < B) : ∃ m : Nat, v = m ∧ m < B := by
  rcases h with ⟨_, _, m, h1, h2, _⟩ | ⟨_, h, _⟩
  · exact ⟨m, h1, h2⟩
  · exact ⟨0, h, hB⟩
theorem NumR.dead {s : ByteArray} {ok' : Bool} {a a' B : Nat} {v : Int} (h : NumR s false a B v ok' a') : ok' = false := by
  rcases h with ⟨h, _⟩ | ⟨h, _⟩
  · cases h
  · exact h
theorem number_ok {H : Heap} {r : Nat} {s : ByteArray} {ok : Bool} {a B : Nat} {below : Int} {K : Int → Heap → Prop} (hb : Blk H ⟨r, 0, none⟩ [.string s, .int .i64 (a : Int), .bool ok]) (ha : a ≤ s.size) (hs : s.size ≤ 100000000000) (eB : below = B) (hB0 : 0 < B) (hB : B ≤ 9223372036854775807)
    (hk : ∀ v ok' a' H', NumR s ok a B v ok' a' → a' ≤ s.size → Blk H' ⟨r, 0, none⟩ [.string s, .int .i64 (a' : Int), .bool ok'] → Fr [r] H H' → K v H') :
    CallH Tryz.prog fn_runs_reader_number ⟨[.pointer (some ⟨r, 0, none⟩), .int .i64 below]⟩ H fun v H' => ∃ n, v = .int .i64 n ∧ K n H' := by
  subst eB
  apply vc_runs_reader_number
  have hsl := bl_len s
  refine ⟨_, hb.ld0 (by kernel_rfl) rfl, _, hb.ld (j := 1) (by kernel_rfl) rfl, ?_⟩
  refine GetUint_ok hs (fun h => (h ⟨by omega, by omega⟩).elim) fun a0 ea0 ha0 v n1 e1 hG => ?_
  have : a0 = a := by omega
  subst this
  rw [nat_wrapU (n := B) (by omega)]
  refine ⟨fun _ H' => H' = H ∧ ok = true ∧ e1 = 0 ∧ v < B, ⟨fun vs H' => match vs with | [.bool b] => H' = H ∧ (b = false ↔ ok = true ∧ e1 = 0 ∧ v < B) | _ => False, ?_, ?_⟩, ?_⟩
  · refine ⟨_, hb.ld (j := 2) (by kernel_rfl) rfl, brB_of (fun h => ⟨rfl, by simp at h; simp [h]⟩) fun h1 => brB_of (fun h => ⟨rfl, by simp at h; simp [h]⟩) fun h2 => ⟨rfl, ?_⟩⟩
    simp at h1 h2
    simp [h1, h2]
  · rintro J b H2 ⟨rfl, hb2⟩
    refine brB_of (fun h => ?_) (fun h => ⟨rfl, hb2.1 h⟩)
    refine Blk.set hb (j := 2) (v := .bool false) (by kernel_rfl) (by kernel_rfl) rfl rfl (by simp) fun H3 hb3 f3 => ⟨_, rfl, hk 0 false a0 H3 (.inr ⟨rfl, rfl, rfl, fun ho m t hm hr => ?_⟩) ha hb3 f3⟩
    have hm64 : m < 18446744073709551616 := by omega
    obtain ⟨q1, q2, q3⟩ := hG.of hm64 hr
    have := hb2.2 ⟨ho, q3, by omega⟩
    rw [this] at h; cases h
  · rintro J H2 ⟨rfl, ho, rfl, hv⟩
    obtain ⟨m, rfl, hm, hr, hrl, rfl⟩ := hG.ok rfl
    rw [List.length_drop, hsl] at hrl
    rw [List.drop_drop] at hr
    have ew : IntKind.wrap .i64 (m : Int) = m := wrap64_of (by omega) (by omega)
    rw [ew]
    refine Blk.set hb (j := 1) (v := .int .i64 ((a0 + (uintL m).length : Nat) : Int)) (by kernel_rfl) (by kernel_rfl) rfl rfl (by simp) fun H3 hb3 f3 => ⟨_, rfl, hk _ ok (a0 + (uintL m).length) H3 (.inl ⟨ho, ho, m, rfl, by omega, hr, rfl⟩) (by omega) hb3 f3⟩
abbrev Fn' := Int × Int × Int × ByteArray
def encF : Enc Fn' := ⟨fun x => [.int .i64 x.1, .int .i64 x.2.1, .int .i64 x.2.2.1, .string x.2.2.2], 4, fun _ => rfl, by decide, fun _ v h => by simp at h; rcases h with rfl | rfl | rfl | rfl <;> rfl⟩
theorem slice154 : sliceB Tryz.prog 154 158 = true := by kernel_rfl
theorem elem158 : elemB Tryz.prog 158 encF.sz 40 = true := by kernel_rfl
theorem slice24 : sliceB Tryz.prog 24 3 = true := by kernel_rfl
theorem elem3 : elemB Tryz.prog 3 encInt.sz 8 = true := by kernel_rfl
def FnP (f : Fn') : Prop := (0 ≤ f.1 ∧ f.1 < f.2.1 ∧ f.2.1 ≤ 1099511627776) ∧ 1 ≤ f.2.2.1 ∧ f.2.2.1 ≤ 16
def fnC (c : List Rw) (s : ByteArray) : Fn' := (firstC c, lastC c + 1, (c.length : Nat), s)
def fsA (l : List Rw) (j : Nat) : List Fn' := (List.range j).map fun i => fnC (chR l i) ⟨#[]⟩
def fsB (l : List Rw) (j : Nat) : List Fn' := (List.range j).map fun i => fnC (chR l i) ⟨(blkR (chR l i)).toArray⟩
def zsA (l : List Rw) (j : Nat) : List Int := (List.range j).map fun i => ((blkR (chR l i)).length : Int)
theorem fsA_succ (l : List Rw) (j : Nat) : fsA l (j + 1) = fsA l j ++ [fnC (chR l j) ⟨#[]⟩] := by unfold fsA; rw [List.range_succ, List.map_append]; rfl
theorem zsA_succ (l : List Rw) (j : Nat) : zsA l (j + 1) = zsA l j ++ [((blkR (chR l j)).length : Int)] := by unfold zsA; rw [List.range_succ, List.map_append]; rfl
theorem zsA_sum (l : List Rw) (j : Nat) : (zsA l j).sum = ((bdsR l j).length : Int) := by
  induction j with
  | zero => rfl
  | succ j ih => rw [zsA_succ, List.sum_append, ih, bdsR_succ, List.length_append]; simp
theorem zsA_take (l : List Rw) {i j : Nat} (h : i ≤ j) : (zsA l j).take i = zsA l i := by
  unfold zsA
  rw [← List.map_take, List.take_range, Nat.min_eq_left h]
def offs (z : List Int) (i : Nat) : Int := (z.take i).sum
theorem offs_succ {z : List Int} {i : Nat} {n : Int} (h : z[i]? = some n) : offs z (i + 1) = offs z i + n := by
  unfold offs; rw [List.take_add_one, h, List.sum_append]; simp
theorem offs_mono {z : List Int} (hz : ∀ n ∈ z, 0 ≤ n) (i : Nat) : 0 ≤ offs z i ∧ offs z i ≤ z.sum := by
  unfold offs
  have h0 : ∀ l : List Int, (∀ n ∈ l, 0 ≤ n) → 0 ≤ l.sum := by
    intro l
    induction l with
    | nil => intro _; exact Int.le_refl _
    | cons x l ih => intro h; rw [List.sum_cons]; have := h x (by simp); have := ih fun n hn => h n (by simp [hn]); omega
  have e : z.sum = (z.take i).sum + (z.drop i).sum := by rw [← List.sum_append, List.take_append_drop]
  have h1 := h0 (z.take i) fun n hn => hz n (List.mem_of_mem_take hn)
  have h2 := h0 (z.drop i) fun n hn => hz n (List.mem_of_mem_drop hn)
  omega
def putB (s : ByteArray) (a0 : Nat) (z : List Int) (fs : List Fn') (k : Nat) : List Fn' :=
  (List.range fs.length).map fun i => let f := fs[i]?.getD (0, 0, 0, ⟨#[]⟩); if i < k then (f.1, f.2.1, f.2.2.1, s.extract (a0 + offs z i).toNat (a0 + offs z (i + 1)).toNat) else f
theorem putB_len (s : ByteArray) (a0 : Nat) (z : List Int) (fs : List Fn') (k : Nat) : (putB s a0 z fs k).length = fs.length := by simp [putB]
theorem putB_get {s : ByteArray} {a0 : Nat} {z : List Int} {fs : List Fn'} {k i : Nat} {f : Fn'} (h : fs[i]? = some f) : (putB s a0 z fs k)[i]? = some (if i < k then (f.1, f.2.1, f.2.2.1, s.extract (a0 + offs z i).toNat (a0 + offs z (i + 1)).toNat) else f) := by
  unfold putB
  have hi := (List.getElem?_eq_some_iff.1 h).1
  rw [List.getElem?_map, List.getElem?_range hi]
  simp [h]
theorem putB_zero (s : ByteArray) (a0 : Nat) (z : List Int) (fs : List Fn') : putB s a0 z fs 0 = fs := by
  refine List.ext_getElem? fun i => ?_
  by_cases hi : i < fs.length
  · obtain ⟨f, hf⟩ := getElem_ex hi
    rw [putB_get hf, hf]; simp
  · rw [List.getElem?_eq_none (by rw [putB_len]; omega), List.getElem?_eq_none (by omega)]
theorem putB_succ {s : ByteArray} {a0 : Nat} {z : List Int} {fs : List Fn'} {k : Nat} {f : Fn'} (h : fs[k]? = some f) :
    putB s a0 z fs (k + 1) = (putB s a0 z fs k).set k (f.1, f.2.1, f.2.2.1, s.extract (a0 + offs z k).toNat (a0 + offs z (k + 1)).toNat) := by
  have hk := (List.getElem?_eq_some_iff.1 h).1
  refine List.ext_getElem? fun i => ?_
  rw [List.getElem?_set, putB_len]
  by_cases hi : i < fs.length
  · obtain ⟨g, hg⟩ := getElem_ex hi
    rw [putB_get hg]
    by_cases e : k = i
    · subst e
      rw [h] at hg
      have := Option.some.inj hg
      subst this
      rw [if_pos (by omega), if_pos rfl, if_pos hk]
    · rw [if_neg e, putB_get hg]
      by_cases h2 : i < k
      · rw [if_pos (by omega), if_pos h2]
      · rw [if_neg (by omega), if_neg h2]
  · rw [if_neg (by omega), List.getElem?_eq_none (by rw [putB_len]; omega), List.getElem?_eq_none (by rw [putB_len]; omega)]
theorem fsA_get {l : List Rw} {i j : Nat} (h : i < j) : (fsA l j)[i]? = some (fnC (chR l i) ⟨#[]⟩) := by
  unfold fsA; rw [List.getElem?_map, List.getElem?_range h]; rfl
theorem putB_all {s : ByteArray} {a0 m : Nat} {l : List Rw} (hb : (bl s).drop a0 = bdsR l m) : putB s a0 (zsA l m) (fsA l m) m = fsB l m := by
  have hl : (fsA l m).length = m := by simp [fsA]
  have hl2 : (fsB l m).length = m := by simp [fsB]
  refine List.ext_getElem? fun i => ?_
  by_cases hi : i < m
  · rw [putB_get (fsA_get hi), if_pos hi]
    have : (fsB l m)[i]? = some (fnC (chR l i) ⟨(blkR (chR l i)).toArray⟩) := by unfold fsB; rw [List.getElem?_map, List.getElem?_range hi]; rfl
    rw [this]
    have o1 : offs (zsA l m) i = ((bdsR l i).length : Int) := by unfold offs; rw [zsA_take l (by omega), zsA_sum]
    have o2 : offs (zsA l m) (i + 1) = ((bdsR l (i + 1)).length : Int) := by unfold offs; rw [zsA_take l (by omega), zsA_sum]
    rw [o1, o2]
    have e : s.extract ((a0 : Int) + ((bdsR l i).length : Int)).toNat ((a0 : Int) + ((bdsR l (i + 1)).length : Int)).toNat = ⟨(blkR (chR l i)).toArray⟩ := by
      apply bl_inj
      rw [bl_ext, bl_mk, show ((a0 : Int) + ((bdsR l i).length : Int)).toNat = a0 + (bdsR l i).length by omega, show ((a0 : Int) + ((bdsR l (i + 1)).length : Int)).toNat = a0 + (bdsR l (i + 1)).length by omega]
      obtain ⟨r, hr⟩ := rng_split (fun i => blkR (chR l i)) hi
      have hr : bdsR l m = bdsR l i ++ (blkR (chR l i) ++ r) := hr
      rw [List.drop_take, ← List.drop_drop, hb, hr, bdsR_succ, List.length_append, List.drop_left, show a0 + ((bdsR l i).length + (blkR (chR l i)).length) - (a0 + (bdsR l i).length) = (blkR (chR l i)).length by omega, List.take_left]
    rw [e]; rfl
  · rw [List.getElem?_eq_none (by rw [putB_len]; omega), List.getElem?_eq_none (by omega)]

theorem encR_beg {s : ByteArray} {L : List Rw} (hs : bl s = encR L) : (bl s).drop 0 = uintL L.length ++ (hdsR L (nC L.length) ++ bdsR L (nC L.length)) := by rw [List.drop_zero, hs]; rfl
theorem hdsR_at {L : List Rw} {s : ByteArray} {a p0 j : Nat} (hs : (bl s).drop p0 = hdsR L (nC L.length) ++ bdsR L (nC L.length)) (ha : a = p0 + (hdsR L j).length) (hj : j < nC L.length) :
    ∃ r, (bl s).drop a = uintL (firstC (chR L j)).toNat ++ (uintL (lastC (chR L j) - firstC (chR L j)).toNat ++ (uintL (blkR (chR L j)).length ++ r)) ∧ ∀ x, (uintL (blkR (chR L j)).length ++ r = uintL (blkR (chR L j)).length ++ x → x = r) := by
  obtain ⟨r, hr⟩ := rng_split (fun i => hdR (chR L i)) hj
  have hr : hdsR L (nC L.length) = hdsR L j ++ (hdR (chR L j) ++ r) := hr
  refine ⟨r ++ bdsR L (nC L.length), ?_, fun x h => (List.append_cancel_left h).symm⟩
  rw [ha, ← List.drop_drop, hs, hr]
  simp [hdR]
theorem hdsR_end {L : List Rw} {s : ByteArray} {a p0 : Nat} (hs : (bl s).drop p0 = hdsR L (nC L.length) ++ bdsR L (nC L.length)) (ha : a = p0 + (hdsR L (nC L.length)).length) : (bl s).drop a = bdsR L (nC L.length) := by
  rw [ha, ← List.drop_drop, hs]; simp
structure FnS (s : ByteArray) (p0 : Nat) (fs : List Fn') (zs : List Int) (all last left : Int) (a : Nat) (ok : Bool) (j : Nat) : Prop where
  len : fs.length = j ∧ zs.length = j
  lft : left + 16 * j ≤ 5000 ∧ -16 ≤ left
  sm : all = zs.sum ∧ all ≤ j * s.size
  zsp : ∀ n ∈ zs, 0 ≤ n
  lst : 0 ≤ last ∧ last < 1099511627776
  fsp : ∀ f ∈ fs, FnP f
  dead : ok = false → left ≤ 0
  cmp : ∀ L, RowsP L → bl s = encR L → ok = true ∧ left = (L.length : Int) - 16 * j ∧ j ≤ nC L.length ∧ (bl s).drop p0 = hdsR L (nC L.length) ++ bdsR L (nC L.length) ∧ a = p0 + (hdsR L j).length ∧ fs = fsA L j ∧ zs = zsA L j ∧ last = if j = 0 then 0 else lastC (chR L (j - 1))
theorem fences_ok {s : ByteArray} {H : Heap} {K : Option Addr → Nat → Nat → Bool → Heap → Prop} (hs : s.size ≤ 1000000000)
    (hno : (∀ L, RowsP L → bl s ≠ encR L) → ∀ H', Fr [] H H' → K none 0 0 false H')
    (hyes : ∀ fs a n c H', Own encF 158 H.size H' a n c fs → (∀ f ∈ fs, FnP f ∧ f.2.2.2.size ≤ s.size) → n ≤ 313 → Fr [] H H' → (∀ L, RowsP L → bl s = encR L → fs = fsB L (nC L.length)) → K a n c true H') :
    CallH Tryz.prog fn_runs_fences ⟨[.string s]⟩ H fun v H' => ∃ a n c b, v = .tuple ⟨[.slice a n c, .bool b]⟩ ∧ K a n c b H' := by
  apply vc_runs_fences
  have hsl := bl_len s
  intro r H1 hn1
  have er := hn1.eq
  have s1 := hn1.size
  refine number_ok (a := 0) (B := 5001) hn1.blk (by omega) (by omega) rfl (by omega) (by omega) fun left ok p0 H2 hN hp0 hb2 f2 => ?_
  have f12 : Fr [] H H2 := hn1.fr.keep f2 fun k hk => by simp at hk; omega
  obtain ⟨n0, rfl, hn0⟩ := hN.nat (by omega)
  refine ⟨fun vs H' => match vs with | [.slice a n c, .slice a' n' c', .int _ all, .int _ last, .int _ left] => ∃ fs zs p ok j, FnS s p0 fs zs all last left p ok j ∧ p ≤ s.size ∧ Own encF 158 H.size H' a n c fs ∧ Own encInt 3 H.size H' a' n' c' zs ∧ Blk H' ⟨r, 0, none⟩ [.string s, .int .i64 (p : Int), .bool ok] ∧ r ∉ blkL a ∧ r ∉ blkL a' ∧ Dj (blkL a) (blkL a') ∧ Fr [] H H' | _ => False,
    fun vs _ => match vs with | [_, _, _, _, .int _ left] => left.toNat | _ => 0,
    ⟨[], [], p0, ok, 0, ⟨⟨rfl, rfl⟩, ⟨by omega, by omega⟩, ⟨rfl, by simp⟩, by simp, by omega, by simp, fun ho => ?_, fun L hP hL => ?_⟩, hp0, Own.nil .., Own.nil .., hb2, by simp [blkL], by simp [blkL], by intro k hk; simp [blkL] at hk, f12⟩, ?_⟩
  · rcases hN with ⟨_, h, _⟩ | ⟨_, h, _⟩
    · rw [h] at ho; cases ho
    · omega
  · obtain ⟨q1, q2, q3, q4⟩ := hN.of rfl (by have := hP.len; omega) (encR_beg hL)
    exact ⟨q1, by omega, by omega, q4, by simp [hdsR], rfl, rfl, rfl⟩
  rintro J a n c a' n' c' all last left H3 ⟨fs, zs, p, ok, j, hF, hp, o1, o2, hb3, nr, nr', dj, f3⟩
  have hrH : H.size ≤ r := by omega
  have l1 := o1.1
  have l2 := o2.1
  have hj1 := hF.len
  have hle := hF.lft
  refine brB_of (fun hpos => ?_) (fun hneg => ?_)
  · have hpos : 0 < left := by simpa using hpos
    have hok : ok = true := by
      cases ok with
      | true => rfl
      | false => have := hF.dead rfl; omega
    subst hok
    have hj : j ≤ 312 := by omega
    refine number_ok (B := 1099511627776) hb3 hp (by omega) rfl (by omega) (by omega) fun v1 k1 p1 H4 hN1 hp1 hb4 f4 => ?_
    refine number_ok (B := 1099511627776) hb4 hp1 (by omega) rfl (by omega) (by omega) fun v2 k2 p2 H5 hN2 hp2 hb5 f5 => ?_
    have eb : IntKind.wrap .i64 ((s.size : Int) + 1) = ((s.size + 1 : Nat) : Int) := by rw [wrap64_of (by omega) (by omega)]; rfl
    rw [eb]
    refine number_ok (B := s.size + 1) hb5 hp2 (by omega) rfl (by omega) (by omega) fun v3 k3 p3 H6 hN3 hp3 hb6 f6 => ?_
    obtain ⟨m1, rfl, hm1⟩ := hN1.nat (by omega)
    obtain ⟨m2, rfl, hm2⟩ := hN2.nat (by omega)
    obtain ⟨m3, rfl, hm3⟩ := hN3.nat (by omega)
    have f36 : Fr [r] H3 H6 := (f4.trans' f5 (fun k hk _ => hk) fun k hk _ => hk).trans' f6 (fun k hk _ => hk) fun k hk _ => hk
    have f6' : Fr [] H H6 := f3.keep f36 fun k hk => by simp at hk; omega
    have e12 : IntKind.wrap .i64 ((m1 : Int) + (m2 : Int)) = ((m1 + m2 : Nat) : Int) := by rw [wrap64_of (by omega) (by omega)]; rfl
    rw [e12]
    have nums : ∀ L, RowsP L → bl s = encR L → j < nC L.length ∧ k1 = true ∧ k2 = true ∧ k3 = true ∧ (m1 : Int) = firstC (chR L j) ∧ ((m1 + m2 : Nat) : Int) = lastC (chR L j) ∧ m3 = (blkR (chR L j)).length ∧ p3 = p + (hdR (chR L j)).length ∧ m1 + m2 < 1099511627776 ∧ last ≤ m1 := fun L hP hL => by
      obtain ⟨c1, c2, c3, c4, c5, c6, c7, c8⟩ := hF.cmp L hP hL
      have hjn : j < nC L.length := by unfold nC; omega
      have hjL : 16 * j < L.length := by omega
      obtain ⟨t, ht, _⟩ := hdsR_at c4 c5 hjn
      have hch := hP.ch j
      have hcn := ch_ne hjL
      have hfl := hch.first_last hcn
      obtain ⟨u1, u2, u3, u4⟩ := hN1.of rfl (by omega) ht
      obtain ⟨w1, w2, w3, w4⟩ := hN2.of u1 (by omega) u4
      have hbl : (blkR (chR L j)).length < s.size + 1 := by
        have := congrArg List.length (hdsR_end c4 rfl)
        rw [List.length_drop, hsl] at this
        obtain ⟨rr, hr⟩ := rng_split (fun i => blkR (chR L i)) hjn
        have hr : bdsR L (nC L.length) = bdsR L j ++ (blkR (chR L j) ++ rr) := hr
        rw [hr, List.length_append, List.length_append] at this
        omega
      obtain ⟨x1, x2, x3, x4⟩ := hN3.of w1 hbl w4
      refine ⟨hjn, u1, w1, x1, by omega, by omega, by omega, ?_, by omega, ?_⟩
      · rw [x3, w3, u3]; unfold hdR; rw [List.length_append, List.length_append]; omega
      · rw [c8]
        split
        · omega
        · have := hP.next (j := j) (by omega) hjL
          omega
    have hk3 : k3 = true → k1 = true ∧ k2 = true := fun h => by
      cases k2 with
      | false => rw [hN3.dead] at h; cases h
      | true => cases k1 with
        | false => have := hN2.dead; cases this
        | true => exact ⟨rfl, rfl⟩
    refine ⟨fun _ H' => H' = H6 ∧ k3 = true ∧ m1 + m2 < 1099511627776 ∧ last ≤ m1, ?_, ?_⟩
    · refine ⟨_, hb6.ld (j := 2) (by kernel_rfl) rfl, brB_of (fun h => ⟨_, _, _, _, rfl, hno (fun L hP hL => ?_) _ f6'⟩) fun h1 => brB_of (fun h => ⟨_, _, _, _, rfl, hno (fun L hP hL => ?_) _ f6'⟩) fun h2 => brB_of (fun h => ⟨_, _, _, _, rfl, hno (fun L hP hL => ?_) _ f6'⟩) fun h3 => ⟨rfl, by simpa using h1, by simp at h2; omega, by simp at h3; omega⟩⟩
      · have := (nums L hP hL).2.2.2.1; rw [this] at h; cases h
      · have := (nums L hP hL).2.2.2.2.2.2.2.2.1; simp at h; omega
      · have := (nums L hP hL).2.2.2.2.2.2.2.2.2; simp at h; omega
    · rintro J2 H7 ⟨rfl, hk, hm12, hlast⟩ b5 H8 hn8
      have e4 : IntKind.wrap .i64 (((m1 + m2 : Nat) : Int) + 1) = ((m1 + m2 : Nat) : Int) + 1 := wrap64_of (by omega) (by omega)
      rw [e4] at hn8
      have o1' := o1.fr f36 (blk_of_ne fun k kk hm => by simp at hm; subst hm; exact nr kk)
      have o2' := o2.fr f36 (blk_of_ne fun k kk hm => by simp at hm; subst hm; exact nr' kk)
      have s7 := f6'.size
      have s8 := hn8.size
      have e8 := hn8.eq
      refine ap_grow slice154 elem158 (o1'.keep hn8.fr) (sl_one encF ((m1 : Int), ((m1 + m2 : Nat) : Int) + 1, (if 16 < left then 16 else left), ⟨#[]⟩) hn8 rfl) (by omega) (by omega) fun q m d H9 h9 f9 g9 b6 H10 hn10 => ?_
      have s9 := f9.size
      have s10 := hn10.size
      have o2'' := ((o2'.keep hn8.fr).fr f9 (blk_of_ne fun k kk hm => dj k hm kk)).keep hn10.fr
      refine ap_grow slice24 elem3 o2'' (sl_one encInt (m3 : Int) hn10 rfl) (by omega) (by omega) fun q' m' d' H11 h11 f11 g11 => ?_
      have hrl : r < H7.size := hb6.lt
      have dj1 : ∀ k ∈ blkL q, k ∉ blkL a' := fun k hk hk2 => (g9 k hk).elim (fun h => dj k h hk2) fun h => by have := (o2'.ge k hk2).2; omega
      have hnr : r ∉ blkL q := fun hk => (g9 r hk).elim nr fun h => by omega
      have hnr' : r ∉ blkL q' := fun hk => (g11 r hk).elim nr' fun h => by omega
      have hzs := offs_mono hF.zsp j
      have hsum := hF.sm
      have hall : 0 ≤ all := by
        have := offs_mono hF.zsp 0
        omega
      have hmul : ((j + 1 : Nat) : Int) * (s.size : Int) = (j : Int) * s.size + s.size := by
        rw [Int.natCast_add, Int.add_mul]; simp
      have hmul2 : (j : Int) * (s.size : Int) ≤ 312 * 1000000000 := by
        have h1 : (j : Int) * (s.size : Int) ≤ 312 * (s.size : Int) := Int.mul_le_mul_of_nonneg_right (by omega) (by omega)
        omega
      have ea : IntKind.wrap .i64 (all + (m3 : Int)) = all + m3 := wrap64_of (by omega) (by omega)
      have el : IntKind.wrap .i64 (left - 16) = left - 16 := wrap64_of (by omega) (by omega)
      rw [ea, el]
      have hmu : (left - 16).toNat < left.toNat := by omega
      refine ⟨⟨fs ++ [((m1 : Int), ((m1 + m2 : Nat) : Int) + 1, (if 16 < left then 16 else left), ⟨#[]⟩)], zs ++ [(m3 : Int)], p3, k3, j + 1, ⟨⟨by simp; omega, by simp; omega⟩, ⟨by omega, by omega⟩, ⟨by rw [List.sum_append, ← hsum.1]; simp, by rw [hmul]; omega⟩, fun n hn => ?_, by omega, fun f hf => ?_, (fun h => by rw [hk] at h; cases h), fun L hP hL => ?_⟩, hp3, (h9.keep hn10.fr).fr f11 (blk_of_ne dj1), h11, ?_, hnr, hnr', fun k hk hk2 => ?_, ?_⟩, hmu⟩
      · rcases List.mem_append.1 hn with h | h
        · exact hF.zsp n h
        · simp at h; omega
      · rcases List.mem_append.1 hf with h | h
        · exact hF.fsp f h
        · simp at h; subst h
          unfold FnP
          simp only
          split <;> omega
      · obtain ⟨c1, c2, c3, c4, c5, c6, c7, c8⟩ := hF.cmp L hP hL
        obtain ⟨d1, d2, d3, d4, d5, d6, d7, d8, d9, d10⟩ := nums L hP hL
        have hcl := chR_len L j
        refine ⟨d4, by omega, by omega, c4, ?_, ?_, ?_, ?_⟩
        · rw [d8, c5, hdsR_succ, List.length_append]; omega
        · rw [fsA_succ, ← c6]
          unfold fnC
          rw [← d5, ← d6]
          have : (if 16 < left then (16 : Int) else left) = ((chR L j).length : Int) := by split <;> omega
          rw [this]
        · rw [zsA_succ, ← c7, d7]
        · rw [if_neg (by omega), Nat.add_sub_cancel]; exact d6
      · exact (((hb6.keep hn8.fr).fr f9 nr).keep hn10.fr).fr f11 nr'
      · rcases g11 k hk2 with h | h
        · exact dj1 k hk h
        · have := (h9.ge k hk).2; omega
      · exact (((f6'.keep0 hn8.fr).keep f9 fun k hk => (o1.ge k hk).1).keep0 hn10.fr).keep f11 fun k hk => (o2.ge k hk).1
  · have hneg : left ≤ 0 := by simpa using hneg
    have fin : ∀ L, RowsP L → bl s = encR L → ok = true ∧ j = nC L.length ∧ (bl s).drop p = bdsR L (nC L.length) ∧ fs = fsA L (nC L.length) ∧ zs = zsA L (nC L.length) ∧ all = ((s.size - p : Nat) : Int) := fun L hP hL => by
      obtain ⟨c1, c2, c3, c4, c5, c6, c7, c8⟩ := hF.cmp L hP hL
      have hj : j = nC L.length := by unfold nC at c3 ⊢; omega
      rw [hj] at c5 c6 c7
      have hd := hdsR_end c4 c5
      refine ⟨c1, hj, hd, c6, c7, ?_⟩
      rw [hF.sm.1, c7, zsA_sum, ← hd, List.length_drop, hsl]
    have ew : IntKind.wrap .i64 ((s.size : Int) - (p : Int)) = ((s.size - p : Nat) : Int) := by rw [wrap64_of (by omega) (by omega)]; omega
    refine ⟨fun _ H' => H' = H3 ∧ all = ((s.size - p : Nat) : Int), ?_, ?_⟩
    · refine ⟨_, hb3.ld (j := 2) (by kernel_rfl) rfl, brB_of (fun h => ⟨_, _, _, _, rfl, hno (fun L hP hL => ?_) _ f3⟩) fun h1 => ⟨_, hb3.ld (j := 1) (by kernel_rfl) rfl, ?_⟩⟩
      · have := (fin L hP hL).1; rw [this] at h; cases h
      · rw [ew]
        refine brB_of (fun h => ⟨_, _, _, _, rfl, hno (fun L hP hL => ?_) _ f3⟩) fun h2 => ⟨rfl, by simpa using h2⟩
        have := (fin L hP hL).2.2.2.2.2
        rw [this] at h; simp at h
    · rintro J2 H4 ⟨rfl, hall⟩
      refine ⟨_, hb3.ld (j := 1) (by kernel_rfl) rfl, ?_⟩
      have hsum := hF.sm
      have hj : j ≤ 313 := by omega
      refine ⟨fun vs H' => match vs with | [.int _ at', .int _ i] => ∃ k : Nat, i = k ∧ k ≤ j ∧ at' = (p : Int) + offs zs k ∧ Own encF 158 H.size H' a n c (putB s p zs fs k) ∧ Own encInt 3 H.size H' a' n' c' zs ∧ Fr [] H H' | _ => False, fun vs _ => match vs with | [_, .int _ i] => j - i.toNat | _ => 0,
        ⟨0, rfl, by omega, by simp [offs], by rw [putB_zero]; exact o1, o2, f3⟩, ?_⟩
      rintro J3 at' i H5 ⟨k, rfl, hk, rfl, h1, h2, f5⟩
      have ok1 := offs_mono hF.zsp k
      refine brB_of (fun hlt => ?_) (fun hge => ?_)
      · have hlt : k < j := by simp at hlt; omega
        obtain ⟨z, hz⟩ := getElem_ex (l := zs) (i := k) (by omega)
        obtain ⟨f, hf⟩ := getElem_ex (l := fs) (i := k) (by omega)
        have hz0 := hF.zsp z (List.mem_of_getElem? hz)
        have ok2 := offs_mono hF.zsp (k + 1)
        have ok3 := offs_succ hz
        refine h2.idx rfl hz (decide_eq_true (by omega)) fun ad ea hc => ⟨_, ld_one (by kernel_rfl) hc, ?_⟩
        have ez : IntKind.wrap .i64 ((p : Int) + offs zs k + z) = (p : Int) + offs zs (k + 1) := by rw [wrap64_of (by omega) (by omega)]; omega
        rw [ez]
        refine chk_true (decide_eq_true ⟨by omega, by omega, by omega⟩) ?_
        have hpf := putB_get (s := s) (a0 := p) (z := zs) (k := k) hf
        rw [if_neg (by omega)] at hpf
        refine h1.idx rfl hpf (decide_eq_true (by omega)) fun ad2 ea2 hc2 => ?_
        refine own_st h1 ea2 rfl hpf (j := 3) (x' := (f.1, f.2.1, f.2.2.1, s.extract ((p : Int) + offs zs k).toNat ((p : Int) + offs zs (k + 1)).toNat)) (by kernel_rfl) (by kernel_rfl) (fun x hx => by simp [Value.cells] at hx; subst hx; rfl) (Nat.le_refl 4) rfl fun H6 h6 f6 => ?_
        rw [succ64 (by omega)]
        have hmu : j - ((k + 1 : Nat) : Int).toNat < j - ((k : Nat) : Int).toNat := by omega
        refine ⟨⟨k + 1, rfl, by omega, rfl, by rw [putB_succ hf]; exact h6, h2.fr f6 (blk_of_ne fun k kk hm => dj k hm kk), f5.keep f6 fun k hk => (h1.ge k hk).1⟩, hmu⟩
      · have hkj : k = j := by simp at hge; omega
        subst hkj
        refine ⟨_, _, _, _, rfl, hyes _ _ _ _ _ h1 (fun f hf => ?_) (by omega) f5 fun L hP hL => ?_⟩
        · unfold putB at hf
          obtain ⟨i, hi, rfl⟩ := List.mem_map.1 hf
          have hi := List.mem_range.1 hi
          obtain ⟨g, hg⟩ := getElem_ex hi
          have hP := hF.fsp g (List.mem_of_getElem? hg)
          simp only [hg, Option.getD_some]
          rw [if_pos (by omega)]
          refine ⟨hP, ?_⟩
          have := bl_len (s.extract ((p : Int) + offs zs i).toNat ((p : Int) + offs zs (i + 1)).toNat)
          rw [bl_ext, List.length_drop, List.length_take, hsl] at this
          simp only
          omega
        · obtain ⟨d1, d2, d3, d4, d5, d6⟩ := fin L hP hL
          rw [d4, d5, d2]
          exact putB_all d3

def TellsR (D : Value) (p : Rw → Bool) (G : Heap → Prop) : Prop := ∀ (x : Rw) (H : Heap) (K : Bool → Heap → Prop), G H → (∀ H', Fr [] H H' → K (p x) H') → CallV Tryz.prog D [vRw x] H fun v H' => ∃ b, v = .bool b ∧ K b H'

theorem IndexFuncR_ok {D : Value} {p : Rw → Bool} {G : Heap → Prop} {a : Option Addr} {n c : Nat} {xs : List Rw} {H : Heap} {K : Int → Heap → Prop} (hD : TellsR D p G) (hG : ∀ H', Fr [] H H' → G H') (hx : Sl encRw H a n c xs) (hn : n ≤ 1000000000)
    (hk : ∀ (i : Nat) H', i ≤ n → (∀ j x, j < i → xs[j]? = some x → p x = false) → (i < n → ∀ x, xs[i]? = some x → p x = true) → Fr [] H H' → K (if i < n then i else -1) H') :
    CallH Tryz.prog fn_slices_IndexFunc___api_Row_api_Row_ ⟨[.slice a n c, D]⟩ H fun v H' => ∃ r, v = .int .i64 r ∧ K r H' := by
  apply vc_slices_IndexFunc___api_Row_api_Row_
  have hlx := hx.len
  refine ⟨fun vs H' => match vs with | [.int _ i] => ∃ k : Nat, i = k ∧ k ≤ n ∧ (∀ j x, j < k → xs[j]? = some x → p x = false) ∧ Fr [] H H' | _ => False,
    fun vs _ => match vs with | [.int _ i] => n - i.toNat | _ => 0, ⟨0, rfl, by omega, fun _ _ h => by omega, Fr.refl _ _⟩, ?_⟩
  rintro J i H' ⟨k, rfl, hle, ht, hf⟩
  refine brB_of (fun h0 => ?_) (fun h0 => ⟨_, rfl, ?_⟩)
  · have h0' : k < n := by simpa using h0
    have hx1 : xs[k]? = some (xs[k]'(by omega)) := by simp
    generalize xs[k]'(by omega) = y at hx1
    rw [succ64 (by omega)]
    refine (hx.keep hf).get rfl hx1 (decide_eq_true (by omega)) fun ad ea hc => ⟨_, _, _, ldRwA hc, ?_⟩
    refine hD y H' _ (hG _ hf) fun H2 hf2 => ?_
    have hf' := hf.keep0 hf2
    refine brB_of (fun h1 => ⟨_, rfl, ?_⟩) (fun h1 => ?_)
    · have := hk k H2 hle ht (fun _ x hx => by rw [hx1] at hx; cases hx; exact h1) hf'
      rwa [if_pos h0'] at this
    · refine ⟨⟨k + 1, rfl, by omega, fun j x hj hxj => ?_, hf'⟩, mu_lt h0'⟩
      by_cases hjk : j < k
      · exact ht j x hjk hxj
      · have : j = k := by omega
        subst this
        rw [hx1] at hxj
        cases hxj
        exact h1
  · have hkn : ¬ k < n := by simpa using h0
    have := hk k H' hle ht (fun h => absurd h hkn) hf
    rwa [if_neg hkn] at this

theorem zero26R : zeroOf Tryz.prog 26 = some (.agg ⟨[.int .i64 0, .int .i64 0, .int .i64 0]⟩) := by kernel_rfl

theorem filter_noneR {l : List Rw} {p : Rw → Bool} (h : ∀ (j : Nat) (x : Rw), l[j]? = some x → p x = false) : l.filter (fun x => !p x) = l := by
  refine List.filter_eq_self.2 fun x hx => ?_
  obtain ⟨j, hj⟩ := List.mem_iff_getElem?.1 hx
  rw [h j x hj]; rfl

theorem DeleteFuncR_ok {D : Value} {p : Rw → Bool} {G : Heap → Prop} {base : Nat} {a : Option Addr} {n c : Nat} {xs : List Rw} {H : Heap} {K : Option Addr → Nat → Nat → Heap → Prop} (hD : TellsR D p G) (hG : ∀ H', Fr (blkL a) H H' → G H') (ho : Own encRw 26 base H a n c xs) (hn : n ≤ 1000000000)
    (hk : ∀ n' H', Own encRw 26 base H' a n' c (xs.filter fun x => !p x) → n' ≤ n → Fr (blkL a) H H' → K a n' c H') :
    CallH Tryz.prog fn_slices_DeleteFunc___api_Row_api_Row_ ⟨[.slice a n c, D]⟩ H fun v H' => ∃ a n c, v = .slice a n c ∧ K a n c H' := by
  apply vc_slices_DeleteFunc___api_Row_api_Row_
  have hlx := ho.1
  refine IndexFuncR_ok hD (fun H' hf => hG H' (hf.mono (by simp))) ho.sl hn fun i H1 hi hno hyes hf1 => ?_
  have hf1' : Fr (blkL a) H H1 := hf1.mono (by simp)
  by_cases hin : i < n
  · rw [if_pos hin]
    refine brB_of (fun h => by have := (beq_iff_eq.1 h); omega) (fun _ => ?_)
    rw [succ64 (by omega)]
    have hxi : xs[i]? = some (xs[i]'(by omega)) := by simp
    have hpi : p (xs[i]'(by omega)) = true := hyes hin _ hxi
    have hti : (xs.take i).filter (fun x => !p x) = xs.take i := filter_noneR fun j x hj => by
      rw [List.getElem?_take] at hj
      split at hj
      · exact hno j x (by assumption) hj
      · cases hj
    refine ⟨fun vs H' => match vs with | [.int _ i, .int _ j] => ∃ (k m : Nat) (ws : List Rw), i = k ∧ j = m ∧ k < m ∧ m ≤ n ∧ Own encRw 26 base H' a n c ws ∧ ws.take k = (xs.take m).filter (fun x => !p x) ∧ ws.drop m = xs.drop m ∧ Fr (blkL a) H H' | _ => False,
      fun vs _ => match vs with | [_, .int _ i] => n - i.toNat | _ => 0, ⟨i, i + 1, xs, rfl, rfl, by omega, by omega, ho.keep hf1, ?_, rfl, hf1'⟩, ?_⟩
    · rw [List.take_add_one, hxi, List.filter_append, hti]
      simp [hpi]
    · rintro J i' j' H2 ⟨k, m, ws, rfl, rfl, hkm, hmn, how, htk, hdr, hf2⟩
      have hlw := how.1
      refine brB_of (fun h0 => ?_) (fun h0 => ?_)
      · have h0' : m < n := by simpa using h0
        have hxm : xs[m]? = some (xs[m]'(by omega)) := by simp
        have hwm : ws[m]? = some (xs[m]'(by omega)) := by
          have := congrArg (fun l => l[0]?) hdr
          simp only [List.getElem?_drop, Nat.add_zero] at this
          rw [this, hxm]
        have htm : xs.take (m + 1) = xs.take m ++ [xs[m]'(by omega)] := by rw [List.take_add_one, hxm]; rfl
        have hdm : ws.drop (m + 1) = xs.drop (m + 1) := by
          have := congrArg (fun l => l.drop 1) hdr
          simpa [List.drop_drop] using this
        generalize xs[m]'(by omega) = y at hxm hwm htm
        rw [succ64 (by omega), succ64 (by omega)]
        refine how.sl.get rfl hwm (decide_eq_true (by omega)) fun ad ea hc => ⟨_, _, _, ldRwA hc, ?_⟩
        refine var_blk (by kernel_rfl) (by kernel_rfl) (by simp [Value.cells, Value.oneCell']) rfl fun b H3 hb hB hf3 => ?_
        have hld : ∀ {H' : Heap}, Fr [] H3 H' → Ld Tryz.prog 26 H' ⟨b, 0, none⟩ (vRw y) := fun hf => (hB.keep hf).ldAK (j := 0) (us := [.int .i64 y.1, .int .i64 y.2.1, .int .i64 y.2.2]) (by kernel_rfl) (by kernel_rfl) rfl
        refine ⟨_, _, _, hld (Fr.refl _ _), ?_⟩
        have hf23 : Fr (blkL a) H H3 := hf2.trans' hf3 (fun _ h _ => h) (by simp)
        refine hD y H3 _ (hG _ hf23) fun H4 hf4 => ?_
        have hf24 : Fr (blkL a) H H4 := hf23.trans' hf4 (fun _ h _ => h) (by simp)
        have how4 := (how.keep hf3).keep hf4
        refine brB_of (fun h1 => ?_) (fun h1 => ?_)
        · refine ⟨_, _, _, hld hf4, ?_⟩
          refine own_put (E := encRw) y how4 rfl (by omega) (decide_eq_true (by omega)) rfl (by kernel_rfl) (by kernel_rfl) fun H5 how5 hf5 => ⟨⟨k + 1, m + 1, _, rfl, rfl, by omega, by omega, how5, ?_, ?_, hf24.trans' hf5 (fun _ h _ => h) (fun _ h _ => h)⟩, mu_lt h0'⟩
          · rw [htm, List.filter_append, List.filter_cons, if_pos h1, ← htk, List.take_add_one, List.take_set_of_le (Nat.le_refl _), List.getElem?_set_self (by omega)]
            rfl
          · rw [List.drop_set_of_lt (by omega), hdm]
        · refine ⟨⟨k, m + 1, ws, rfl, rfl, by omega, by omega, how4, ?_, hdm, hf24⟩, mu_lt h0'⟩
          rw [htm, List.filter_append, List.filter_cons, if_neg (by simpa using h1), htk]
          simp
      · have hmn' : m = n := by simp at h0; omega
        subst hmn'
        have hcap := how.sl.cap
        refine chk_of ⟨by omega, by omega, by omega⟩ ?_
        simp only [Int.toNat_natCast]
        refine clear_tail (E := encRw) slice34 zero26R rfl (by simp [Value.oneCell']) how (by omega) fun H3 how3 hf3 => chk_of ⟨by omega, by omega, by omega⟩ ?_
        refine ⟨_, _, _, rfl, hk _ H3 ?_ (by omega) (hf2.trans' hf3 (fun _ h _ => h) (fun _ h _ => h))⟩
        rw [htk, List.take_of_length_le (by omega)] at how3
        simpa using how3
  · rw [if_neg hin]
    refine brB_of (fun _ => ⟨_, _, _, rfl, hk n H1 ?_ (Nat.le_refl _) hf1'⟩) (fun h => by simp at h)
    rw [filter_noneR fun j x hj => hno j x (by have := (List.getElem?_eq_some_iff.1 hj).1; omega) hj]
    exact ho.keep hf1
end Go.Proofs
