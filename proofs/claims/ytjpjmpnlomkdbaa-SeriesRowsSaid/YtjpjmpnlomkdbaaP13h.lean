/- A part of a proof: see the last text of this claim. -/
import Derived.Test.YtjpjmpnlomkdbaaP13g
set_option linter.unusedVariables false
set_option maxRecDepth 100000
open Go Go.GV
namespace Go.Proofs

/-! merged by an order -/
def mrgC {α : Type} (cf : α → α → Int) : List α → List α → List α
  | [], b => b
  | x :: a, [] => x :: a
  | x :: a, y :: b => if cf x y < 0 then x :: mrgC cf a (y :: b) else if cf x y = 0 then y :: mrgC cf a b else y :: mrgC cf (x :: a) b
termination_by a b => a.length + b.length
theorem mrgC_nil {α : Type} {cf : α → α → Int} (b : List α) : mrgC cf [] b = b := by unfold mrgC; rfl
theorem mrgC_nil' {α : Type} {cf : α → α → Int} : ∀ a : List α, mrgC cf a [] = a
  | [] => mrgC_nil _
  | x :: a => by unfold mrgC; rfl
theorem mrgC_cons {α : Type} {cf : α → α → Int} (x y : α) (a b : List α) : mrgC cf (x :: a) (y :: b) = if cf x y < 0 then x :: mrgC cf a (y :: b) else if cf x y = 0 then y :: mrgC cf a b else y :: mrgC cf (x :: a) b := by
  rw [mrgC]

/-! series, rows in memory -/
abbrev Hd := Option Addr × Nat × Nat
abbrev Sr := Int × Hd
def encSr : Enc Sr := ⟨fun x => [.int .i64 x.1, .slice x.2.1 x.2.2.1 x.2.2.2], 2, fun _ => rfl, by decide, fun _ v h => by simp at h; rcases h with rfl | rfl <;> rfl⟩
abbrev vSr (x : Sr) : Value := .agg ⟨[.int .i64 x.1, .slice x.2.1 x.2.2.1 x.2.2.2]⟩
theorem elem68 : elemB Try.prog 68 2 32 = true := by kernel_rfl
theorem slice37 : sliceB Try.prog 37 68 = true := by kernel_rfl
theorem ldSr {H : Heap} {ad : Addr} {x : Sr} (h : CellsAt H ad (encSr.cells x)) : Ld Try.prog 68 H ad (vSr x) := ld_many (by kernel_rfl) (by kernel_rfl) h
theorem ldSr1 {H : Heap} {ad : Addr} {x : Sr} (h : CellsAt H ad (encSr.cells x)) : Ld Try.prog 22 H (ad.add 1) (.slice x.2.1 x.2.2.1 x.2.2.2) := ld_part (by kernel_rfl) h (j := 1) rfl
theorem ldSr0 {H : Heap} {ad : Addr} {x : Sr} (h : CellsAt H ad (encSr.cells x)) : Ld Try.prog 3 H ad (.int .i64 x.1) := ld_cell (by kernel_rfl) (by have := h 0 _ rfl; simpa [Addr.add] using this)
/-- A row: its time, its series, its value. -/
abbrev Rw := Int × Int × Int
def encRw : Enc Rw := ⟨fun x => [.int .i64 x.1, .int .i64 x.2.1, .int .i64 x.2.2], 3, fun _ => rfl, by decide, fun _ v h => by simp at h; rcases h with rfl | rfl | rfl <;> rfl⟩
abbrev vRw (x : Rw) : Value := .agg ⟨[.int .i64 x.1, .int .i64 x.2.1, .int .i64 x.2.2]⟩
theorem elem45 : elemB Try.prog 45 3 24 = true := by kernel_rfl
theorem slice34 : sliceB Try.prog 34 45 = true := by kernel_rfl
theorem ldRw {H : Heap} {ad : Addr} {x : Rw} (h : CellsAt H ad (encRw.cells x)) : Ld Try.prog 45 H ad (vRw x) := ld_many (by kernel_rfl) (by kernel_rfl) h
def cfSr (x y : Sr) : Int := cmpI x.1 y.1
def cfRw (x y : Rw) : Int := if cmpI x.1 y.1 ≠ 0 then cmpI x.1 y.1 else cmpI x.2.1 y.2.1
def ByS (order : Value) : Prop := ∀ (x y : Sr) (H : Heap) (K : Int → Heap → Prop), (∀ H', Fr [] H H' → K (cfSr x y) H') → CallV Try.prog order [vSr x, vSr y] H fun v H' => ∃ n, v = .int .i64 n ∧ K n H'
def ByR (order : Value) : Prop := ∀ (x y : Rw) (H : Heap) (K : Int → Heap → Prop), (∀ H', Fr [] H H' → K (cfRw x y) H') → CallV Try.prog order [vRw x, vRw y] H fun v H' => ∃ n, v = .int .i64 n ∧ K n H'
theorem byId_ok {x y : Sr} {H : Heap} {K : Int → Heap → Prop} (hk : ∀ H', Fr [] H H' → K (cfSr x y) H') : CallH Try.prog fn_series_Put_2 ⟨[vSr x, vSr y]⟩ H fun v H' => ∃ n, v = .int .i64 n ∧ K n H' := by
  apply vc_series_Put_2
  intro b H1 hn1 b1 H2 hn2
  have hf := hn1.fr.keep0 hn2.fr
  exact ⟨_, (hn1.blk.keep hn2.fr).ld0 (by kernel_rfl) rfl, _, hn2.blk.ld0 (by kernel_rfl) rfl, Compare_ok ⟨_, rfl, hk H2 hf⟩⟩
theorem byS : ByS (.func (.func 43) #[] #[]) := fun x y H K hk => ⟨43, #[], #[], rfl, by kernel_rfl, byId_ok hk⟩
theorem mergeS_ok {order : Value} {a b : Option Addr} {n c m d : Nat} {xs ys : List Sr} {H : Heap} {K : Option Addr → Nat → Nat → Heap → Prop} (ho : ByS order) (hx : Sl encSr H a n c xs) (hy : Sl encSr H b m d ys)
    (hlen : n + m ≤ 1000000000) (hk : ∀ a' n' c' H', Own encSr 68 H.size H' a' n' c' (mrgC cfSr xs ys) → Fr [] H H' → K a' n' c' H') :
    CallH Try.prog fn_series_merge_series_Series_ ⟨[.slice a n c, .slice b m d, order]⟩ H fun v H' => ∃ a n c, v = .slice a n c ∧ K a n c H' := by
  apply vc_series_merge_series_Series_
  rw [wrap64_of (by omega) (by omega)]
  refine mk_own (E := encSr) slice37 elem68 (by omega) (by omega) fun b0 H1 ho1 hf1 => ?_
  refine ⟨fun vs H' => match vs with
      | [.slice a n c, .slice b m d, .slice o p q] => ∃ zs us ws, Sl encSr H a n c zs ∧ Sl encSr H b m d us ∧ Own encSr 68 H.size H' o p q ws ∧ ws ++ mrgC cfSr zs us = mrgC cfSr xs ys ∧ p + n + m ≤ 1000000000 ∧ Fr [] H H'
      | _ => False,
    fun vs _ => match vs with | [.slice _ n _, .slice _ m _, _] => n + m | _ => 0, ⟨xs, ys, [], hx, hy, ho1, rfl, by omega, hf1⟩, ?_⟩
  rintro J a n c b m d o p q H2 ⟨zs, us, ws, hz, hu, hw, he, hsz, hf⟩
  have hn := hz.len
  have hm := hu.len
  have hp := hw.1
  have hcz := hz.cap
  have hcu := hu.cap
  have last : (zs = [] ∨ us = []) → SemWp Try.prog (Builtin.append_ ⟨[37, 37]⟩ 37 ⟨[.slice o p q, .slice a n c]⟩) H2 fun v H' => ∃ a n c, v = .slice a n c ∧ SemWp Try.prog (Builtin.append_ ⟨[37, 37]⟩ 37 ⟨[.slice a n c, .slice b m d]⟩) H' fun v H' => ∃ a n c, v = .slice a n c ∧ (∃ a_1 n_1 c_1, Value.slice a n c = .slice a_1 n_1 c_1 ∧ K a_1 n_1 c_1 H') := by
    intro he0
    refine ap_own (E := encSr) slice37 elem68 hw hf (hz.keep hf) (by omega) fun o2 p2 q2 H3 hw2 hf2 _ => ?_
    have hb2 := hw2.1
    refine ap_own (E := encSr) slice37 elem68 hw2 hf2 (hu.keep hf2) (by simp at hb2; omega) fun o3 p3 q3 H4 hw3 hf3 _ => ⟨_, _, _, rfl, hk _ _ _ _ ?_ hf3⟩
    rw [List.append_assoc] at hw3
    have : zs ++ us = mrgC cfSr zs us := by
      rcases he0 with rfl | rfl
      · rw [mrgC_nil]; rfl
      · rw [mrgC_nil']; simp
    rwa [this, he] at hw3
  refine ⟨fun _ H' => H' = H2 ∧ 0 < n ∧ 0 < m, brB_of (fun h0 => brB_of (fun h1 => ⟨rfl, by simpa using h0, by simpa using h1⟩) (fun h1 => last (.inr ?_))) (fun h0 => last (.inl ?_)), ?_⟩
  rotate_left 2
  · rintro J H2 ⟨rfl, h0, h1⟩
    cases zs with
    | nil => simp at hn; omega
    | cons x zs =>
    cases us with
    | nil => simp at hm; omega
    | cons y us =>
    simp only [List.length_cons] at hn hm
    have hz1 : Sl encSr H (slA c 1 2 a) ((n : Int).toNat - 1) (c - 1) zs := by
      have := hz.drop (k := 1) (by omega)
      rwa [Int.toNat_natCast]
    have hu1 : Sl encSr H (slA d 1 2 b) ((m : Int).toNat - 1) (d - 1) us := by
      have := hu.drop (k := 1) (by omega)
      rwa [Int.toNat_natCast]
    refine (hz.keep hf).head (decide_eq_true (by omega)) fun ad ea hc => ⟨_, _, _, _, ldSr hc, ?_⟩
    refine (hu.keep hf).head (decide_eq_true (by omega)) fun bd eb hd => ⟨_, _, _, _, ldSr hd, ?_⟩
    refine ho x y H2 _ fun H3 hf3 => ?_
    have hf' := hf.keep0 hf3
    have hw' := hw.keep hf3
    rw [mrgC_cons] at he
    refine brB_of (fun h2 => ?_) (fun h2 => brB_of (fun h3 => ?_) (fun h3 => ?_))
    · have hlt : cfSr x y < 0 := of_decide_eq_true h2
      rw [if_pos hlt] at he
      refine (hz.keep hf').head (decide_eq_true (by omega)) fun ad ea hc => ⟨_, _, _, _, ldSr hc, chk_of ⟨by omega, by omega, by omega⟩ ?_⟩
      refine ap_one (E := encSr) x slice37 elem68 hw' hf' rfl (by omega) fun _ o2 p2 q2 H4 hw2 hf2 _ => ?_
      have hb2 := hw2.1
      simp at hb2
      exact ⟨⟨zs, y :: us, ws ++ [x], hz1, hu, hw2, by rw [← he]; simp, by omega, hf2⟩, by show (n : Int).toNat - 1 + m < n + m; omega⟩
    · have hge : ¬ cfSr x y < 0 ∧ cfSr x y = 0 := ⟨of_decide_eq_false h2, by simpa using h3⟩
      rw [if_neg hge.1, if_pos hge.2] at he
      refine chk_of ⟨by omega, by omega, by omega⟩ ?_
      refine (hu.keep hf').head (decide_eq_true (by omega)) fun ad ea hc => ⟨_, _, _, _, ldSr hc, chk_of ⟨by omega, by omega, by omega⟩ ?_⟩
      refine ap_one (E := encSr) y slice37 elem68 hw' hf' rfl (by omega) fun _ o2 p2 q2 H4 hw2 hf2 _ => ?_
      have hb2 := hw2.1
      simp at hb2
      exact ⟨⟨zs, us, ws ++ [y], hz1, hu1, hw2, by rw [← he]; simp, by omega, hf2⟩, by show (n : Int).toNat - 1 + ((m : Int).toNat - 1) < n + m; omega⟩
    · have hge : ¬ cfSr x y < 0 ∧ ¬ cfSr x y = 0 := ⟨of_decide_eq_false h2, by simpa using h3⟩
      rw [if_neg hge.1, if_neg hge.2] at he
      refine (hu.keep hf').head (decide_eq_true (by omega)) fun ad ea hc => ⟨_, _, _, _, ldSr hc, chk_of ⟨by omega, by omega, by omega⟩ ?_⟩
      refine ap_one (E := encSr) y slice37 elem68 hw' hf' rfl (by omega) fun _ o2 p2 q2 H4 hw2 hf2 _ => ?_
      have hb2 := hw2.1
      simp at hb2
      exact ⟨⟨x :: zs, us, ws ++ [y], hz, hu1, hw2, by rw [← he]; simp, by omega, hf2⟩, by show n + ((m : Int).toNat - 1) < n + m; omega⟩
  · cases us with
    | nil => rfl
    | cons y us => simp at hm h1; omega
  · cases zs with
    | nil => rfl
    | cons y us => simp at hn h0; omega

theorem mergeR_ok {order : Value} {a b : Option Addr} {n c m d : Nat} {xs ys : List Rw} {H : Heap} {K : Option Addr → Nat → Nat → Heap → Prop} (ho : ByR order) (hx : Sl encRw H a n c xs) (hy : Sl encRw H b m d ys)
    (hlen : n + m ≤ 1000000000) (hk : ∀ a' n' c' H', Own encRw 45 H.size H' a' n' c' (mrgC cfRw xs ys) → Fr [] H H' → K a' n' c' H') :
    CallH Try.prog fn_series_merge_api_Row_ ⟨[.slice a n c, .slice b m d, order]⟩ H fun v H' => ∃ a n c, v = .slice a n c ∧ K a n c H' := by
  apply vc_series_merge_api_Row_
  rw [wrap64_of (by omega) (by omega)]
  refine mk_own (E := encRw) slice34 elem45 (by omega) (by omega) fun b0 H1 ho1 hf1 => ?_
  refine ⟨fun vs H' => match vs with
      | [.slice a n c, .slice b m d, .slice o p q] => ∃ zs us ws, Sl encRw H a n c zs ∧ Sl encRw H b m d us ∧ Own encRw 45 H.size H' o p q ws ∧ ws ++ mrgC cfRw zs us = mrgC cfRw xs ys ∧ p + n + m ≤ 1000000000 ∧ Fr [] H H'
      | _ => False,
    fun vs _ => match vs with | [.slice _ n _, .slice _ m _, _] => n + m | _ => 0, ⟨xs, ys, [], hx, hy, ho1, rfl, by omega, hf1⟩, ?_⟩
  rintro J a n c b m d o p q H2 ⟨zs, us, ws, hz, hu, hw, he, hsz, hf⟩
  have hn := hz.len
  have hm := hu.len
  have hp := hw.1
  have hcz := hz.cap
  have hcu := hu.cap
  have last : (zs = [] ∨ us = []) → SemWp Try.prog (Builtin.append_ ⟨[34, 34]⟩ 34 ⟨[.slice o p q, .slice a n c]⟩) H2 fun v H' => ∃ a n c, v = .slice a n c ∧ SemWp Try.prog (Builtin.append_ ⟨[34, 34]⟩ 34 ⟨[.slice a n c, .slice b m d]⟩) H' fun v H' => ∃ a n c, v = .slice a n c ∧ (∃ a_1 n_1 c_1, Value.slice a n c = .slice a_1 n_1 c_1 ∧ K a_1 n_1 c_1 H') := by
    intro he0
    refine ap_own (E := encRw) slice34 elem45 hw hf (hz.keep hf) (by omega) fun o2 p2 q2 H3 hw2 hf2 _ => ?_
    have hb2 := hw2.1
    refine ap_own (E := encRw) slice34 elem45 hw2 hf2 (hu.keep hf2) (by simp at hb2; omega) fun o3 p3 q3 H4 hw3 hf3 _ => ⟨_, _, _, rfl, hk _ _ _ _ ?_ hf3⟩
    rw [List.append_assoc] at hw3
    have : zs ++ us = mrgC cfRw zs us := by
      rcases he0 with rfl | rfl
      · rw [mrgC_nil]; rfl
      · rw [mrgC_nil']; simp
    rwa [this, he] at hw3
  refine ⟨fun _ H' => H' = H2 ∧ 0 < n ∧ 0 < m, brB_of (fun h0 => brB_of (fun h1 => ⟨rfl, by simpa using h0, by simpa using h1⟩) (fun h1 => last (.inr ?_))) (fun h0 => last (.inl ?_)), ?_⟩
  rotate_left 2
  · rintro J H2 ⟨rfl, h0, h1⟩
    cases zs with
    | nil => simp at hn; omega
    | cons x zs =>
    cases us with
    | nil => simp at hm; omega
    | cons y us =>
    simp only [List.length_cons] at hn hm
    have hz1 : Sl encRw H (slA c 1 3 a) ((n : Int).toNat - 1) (c - 1) zs := by
      have := hz.drop (k := 1) (by omega)
      rwa [Int.toNat_natCast]
    have hu1 : Sl encRw H (slA d 1 3 b) ((m : Int).toNat - 1) (d - 1) us := by
      have := hu.drop (k := 1) (by omega)
      rwa [Int.toNat_natCast]
    refine (hz.keep hf).head (decide_eq_true (by omega)) fun ad ea hc => ⟨_, _, _, ldRw hc, ?_⟩
    refine (hu.keep hf).head (decide_eq_true (by omega)) fun bd eb hd => ⟨_, _, _, ldRw hd, ?_⟩
    refine ho x y H2 _ fun H3 hf3 => ?_
    have hf' := hf.keep0 hf3
    have hw' := hw.keep hf3
    rw [mrgC_cons] at he
    refine brB_of (fun h2 => ?_) (fun h2 => brB_of (fun h3 => ?_) (fun h3 => ?_))
    · have hlt : cfRw x y < 0 := of_decide_eq_true h2
      rw [if_pos hlt] at he
      refine (hz.keep hf').head (decide_eq_true (by omega)) fun ad ea hc => ⟨_, _, _, ldRw hc, chk_of ⟨by omega, by omega, by omega⟩ ?_⟩
      refine ap_one (E := encRw) x slice34 elem45 hw' hf' rfl (by omega) fun _ o2 p2 q2 H4 hw2 hf2 _ => ?_
      have hb2 := hw2.1
      simp at hb2
      exact ⟨⟨zs, y :: us, ws ++ [x], hz1, hu, hw2, by rw [← he]; simp, by omega, hf2⟩, by show (n : Int).toNat - 1 + m < n + m; omega⟩
    · have hge : ¬ cfRw x y < 0 ∧ cfRw x y = 0 := ⟨of_decide_eq_false h2, by simpa using h3⟩
      rw [if_neg hge.1, if_pos hge.2] at he
      refine chk_of ⟨by omega, by omega, by omega⟩ ?_
      refine (hu.keep hf').head (decide_eq_true (by omega)) fun ad ea hc => ⟨_, _, _, ldRw hc, chk_of ⟨by omega, by omega, by omega⟩ ?_⟩
      refine ap_one (E := encRw) y slice34 elem45 hw' hf' rfl (by omega) fun _ o2 p2 q2 H4 hw2 hf2 _ => ?_
      have hb2 := hw2.1
      simp at hb2
      exact ⟨⟨zs, us, ws ++ [y], hz1, hu1, hw2, by rw [← he]; simp, by omega, hf2⟩, by show (n : Int).toNat - 1 + ((m : Int).toNat - 1) < n + m; omega⟩
    · have hge : ¬ cfRw x y < 0 ∧ ¬ cfRw x y = 0 := ⟨of_decide_eq_false h2, by simpa using h3⟩
      rw [if_neg hge.1, if_neg hge.2] at he
      refine (hu.keep hf').head (decide_eq_true (by omega)) fun ad ea hc => ⟨_, _, _, ldRw hc, chk_of ⟨by omega, by omega, by omega⟩ ?_⟩
      refine ap_one (E := encRw) y slice34 elem45 hw' hf' rfl (by omega) fun _ o2 p2 q2 H4 hw2 hf2 _ => ?_
      have hb2 := hw2.1
      simp at hb2
      exact ⟨⟨x :: zs, us, ws ++ [y], hz, hu1, hw2, by rw [← he]; simp, by omega, hf2⟩, by show n + ((m : Int).toNat - 1) < n + m; omega⟩
  · cases us with
    | nil => rfl
    | cons y us => simp at hm h1; omega
  · cases zs with
    | nil => rfl
    | cons y us => simp at hn h0; omega

end Go.Proofs
