/- A part of a proof: see the last text of this claim. -/
import Derived.Test.YtjpjmpnlomkdbaaP13c
import Derived.Test.YtjpjmpnlomkdbaaL13b
import Derived.Test.YtjpjmpnlomkdbaaVc13b
set_option linter.unusedVariables false
set_option maxRecDepth 100000
open Go Go.GV
namespace Go.Proofs

theorem mid0 {A B : List Smp} {w : Smp} {k : Nat} (h : A.length = k) : (A ++ w :: B)[k]? = some w := by subst h; simp
theorem mid1 {A B : List Smp} {w x : Smp} {k : Nat} (h : A.length + 1 = k) : (A ++ w :: x :: B)[k]? = some x := by
  subst h
  rw [List.getElem?_append_right (by omega)]
  simp
theorem mset0 {A B : List Smp} {w y : Smp} {k : Nat} (h : A.length = k) : (A ++ w :: B).set k y = A ++ y :: B := by subst h; simp
theorem mset1 {A B : List Smp} {w x y : Smp} {k : Nat} (h : A.length + 1 = k) : (A ++ w :: x :: B).set k y = A ++ w :: y :: B := by
  subst h
  rw [List.set_append_right _ _ (by omega)]
  simp
theorem cmpI_neg {x y : Int} : cmpI x y < 0 ↔ x < y := by unfold cmpI; split <;> (try split) <;> omega
/-- Two neighbours are swapped: the stores of one swap. -/
theorem swap_two {base : Nat} {H : Heap} {a : Option Addr} {n c k : Nat} {A B L : List Smp} {w x : Smp} {i1 i2 : Int} {X : Heap → Prop} (ho : Own encS 26 base H a n c L) (eL : L = A ++ w :: x :: B) (hA : A.length = k) (e1 : i1 = ((k + 1 : Nat) : Int)) (e2 : i2 = (k : Int)) (b1 b2 : Bool) (h1 : b1 = true) (h2 : b2 = true)
    (hk : ∀ H', Own encS 26 base H' a n c (A ++ x :: w :: B) → Fr (blkL a) H H' → X H') :
    exSome a fun ad => chk b1 (∃ H'_2, St Try.prog 26 H (Addr.add ad (i1.toNat * 2)) (vS w) H'_2 ∧ exSome a fun ad => chk b2 (∃ H', St Try.prog 26 H'_2 (Addr.add ad (i2.toNat * 2)) (vS x) H' ∧ X H')) := by
  subst eL e1 e2
  have hl := ho.1
  simp at hl
  refine own_put (E := encS) (k := k + 1) w ho rfl (by omega) h1 rfl (by kernel_rfl) (by kernel_rfl) fun H2 ho2 hf2 => ?_
  rw [mset1 (by omega)] at ho2
  refine own_put (E := encS) (k := k) x ho2 rfl (by omega) h2 rfl (by kernel_rfl) (by kernel_rfl) fun H3 ho3 hf3 => ?_
  rw [mset0 hA] at ho3
  exact hk H3 ho3 (hf2.trans' hf3 (fun _ h _ => h) (fun _ h _ => h))
theorem insertionSort_ok {order : Value} (hT : ByT order) {base : Nat} {H : Heap} {a : Option Addr} {n c p q : Nat} {P s Q : List Smp} {K : Heap → Prop} (hx : Own encS 26 base H a n c (P ++ s ++ Q)) (hp : P.length = p) (hq : p + s.length = q) (hn : n ≤ 1000000000)
    (hk : ∀ H' s', Own encS 26 base H' a n c (P ++ s' ++ Q) → Srt s' → Stb s s' → Fr (blkL a) H H' → K H') :
    CallH Try.prog fn_slices_insertionSortCmpFunc_api_Sample_ ⟨[.slice a n c, .int .i64 p, .int .i64 q, order]⟩ H fun v H' => v = .tuple ⟨[]⟩ ∧ K H' := by
  apply vc_slices_insertionSortCmpFunc_api_Sample_
  have hl := hx.1
  simp at hl
  rw [succ64 (by omega)]
  refine ⟨fun vs H' => match vs with
      | [.int _ i] => ∃ (u u' v : List Smp), i = ((p + u.length : Nat) : Int) ∧ (s = u ++ v ∨ (s = [] ∧ u' = [] ∧ v = [] ∧ u.length = 1)) ∧ 1 ≤ u.length ∧ Own encS 26 base H' a n c (P ++ (u' ++ v) ++ Q) ∧ Srt u' ∧ (s ≠ [] → Stb u u') ∧ Fr (blkL a) H H'
      | _ => False,
    fun vs _ => match vs with | [.int _ i] => q + 1 - i.toNat | _ => 0, ?_, ?_⟩
  · cases s with
    | nil => exact ⟨[(0, 0)], [], [], rfl, .inr ⟨rfl, rfl, rfl, rfl⟩, Nat.le_refl _, hx, List.Pairwise.nil, fun h => absurd rfl h, Fr.refl _ _⟩
    | cons x s => exact ⟨[x], [x], s, rfl, .inl rfl, Nat.le_refl _, hx, by simp [Srt], fun _ => Stb.refl _, Fr.refl _ _⟩
  rintro J i H1 ⟨u, u', v, rfl, hs, hu1, ho, hS, hB, hf⟩
  refine brB_of (fun h0 => ?_) (fun h0 => ?_)
  · have h0' : p + u.length < q := by simp at h0; omega
    rcases hs with hs | ⟨rfl, _, _, h1⟩
    rotate_left
    · simp at hq; omega
    have hs0 : s ≠ [] := by intro e; subst e; simp at hq; omega
    have hB := hB hs0
    have hul := hB.length
    cases v with
    | nil => subst hs; simp at hq; omega
    | cons x v =>
      have hnl := ho.1
      simp only [List.length_append, List.length_cons] at hnl
      -- the inner loop
      refine ⟨fun vs H' => match vs with
          | [.int _ j] => ∃ U V : List Smp, u' = U ++ V ∧ j = ((p + U.length : Nat) : Int) ∧ (∀ w ∈ V, x.1 < w.1) ∧ Own encS 26 base H' a n c (P ++ (U ++ x :: V ++ v) ++ Q) ∧ Fr (blkL a) H H'
          | _ => False,
        fun vs _ => match vs with | [.int _ j] => j.toNat | _ => 0, ⟨u', [], by simp, by rw [hul], by simp, by simpa using ho, hf⟩, ?_⟩
      rintro J j H2 ⟨U, V, rfl, rfl, hV, ho2, hf2⟩
      rw [List.length_append] at hul
      have fin : ∀ {H3 : Heap}, Own encS 26 base H3 a n c (P ++ (U ++ x :: V ++ v) ++ Q) → Fr (blkL a) H H3 → (∀ w ∈ U, w.1 ≤ x.1) →
          (∃ (u_1 u'_1 v_1 : List Smp), IntKind.i64.wrap (((p + u.length : Nat) : Int) + 1) = ((p + u_1.length : Nat) : Int) ∧ (s = u_1 ++ v_1 ∨ (s = [] ∧ u'_1 = [] ∧ v_1 = [] ∧ u_1.length = 1)) ∧ 1 ≤ u_1.length ∧ Own encS 26 base H3 a n c (P ++ (u'_1 ++ v_1) ++ Q) ∧ Srt u'_1 ∧ (s ≠ [] → Stb u_1 u'_1) ∧ Fr (blkL a) H H3) ∧ q + 1 - (IntKind.i64.wrap (((p + u.length : Nat) : Int) + 1)).toNat < q + 1 - (((p + u.length : Nat) : Int)).toNat := fun ho3 hf3 hU => by
        rw [succ64 (by omega)]
        refine ⟨⟨u ++ [x], U ++ x :: V, v, by simp; omega, .inl (by rw [hs]; simp), by simp, ho3, ?_, fun _ => ?_, hf3⟩, by omega⟩
        · refine srt_app hS.left (List.pairwise_cons.2 ⟨fun w hw => Int.le_of_lt (hV w hw), hS.right⟩) fun w hw z hz => ?_
          rcases List.mem_cons.1 hz with rfl | hz
          · exact hU w hw
          · exact hS.across w hw z hz
        · refine (hB.app (Stb.refl [x])).trans ?_
          rw [List.append_assoc]
          exact (Stb.refl U).app (Stb.swap1 hV)
      refine ⟨fun _ H' => ∃ U0 w, U = U0 ++ [w] ∧ x.1 < w.1 ∧ Own encS 26 base H' a n c (P ++ (U ++ x :: V ++ v) ++ Q) ∧ Fr (blkL a) H H', ?_, ?_⟩
      · refine brB_of (fun h1 => ?_) (fun h1 => fin ho2 hf2 fun w hw => ?_)
        · have hU0 : 0 < U.length := by simp at h1; omega
          obtain ⟨U0, w, rfl⟩ : ∃ U0 w, U = U0 ++ [w] := ⟨U.dropLast, U.getLast (by intro e; subst e; simp at hU0), (List.dropLast_concat_getLast _).symm⟩
          have eL : P ++ (U0 ++ [w] ++ x :: V ++ v) ++ Q = (P ++ U0) ++ w :: x :: (V ++ v ++ Q) := by simp
          simp only [List.length_append, List.length_cons, List.length_nil] at hul h0' hU0 ⊢
          rw [show p + (U0.length + (0 + 1)) = (p + U0.length) + 1 by omega, pred64 (by omega) (by omega)]
          refine ho2.sl.get (k := p + U0.length + 1) rfl (by rw [eL]; exact mid1 (by simp; omega)) (decide_eq_true (by omega)) fun ad ea hc => ⟨_, _, ldS hc, ?_⟩
          refine ho2.sl.get (k := p + U0.length) (by omega) (by rw [eL]; exact mid0 (by simp; omega)) (decide_eq_true (by omega)) fun ad ea hc => ⟨_, _, ldS hc, ?_⟩
          refine hT x w H2 _ fun H3 hf3 => brB_of (fun h2 => ⟨U0, w, rfl, cmpI_neg.1 (of_decide_eq_true h2), ho2.keep hf3, hf2.trans' hf3 (fun _ h _ => h) (by simp)⟩) (fun h2 => ?_)
          have h2' : ¬ x.1 < w.1 := fun h => of_decide_eq_false h2 (cmpI_neg.2 h)
          have := fin (ho2.keep hf3) (hf2.trans' hf3 (fun _ h _ => h) (by simp)) fun z hz => by
            rcases List.mem_append.1 hz with hz | hz
            · have := hS.left.across z hz w (by simp)
              omega
            · simp at hz; subst hz; omega
          exact this
        · have : U = [] := List.eq_nil_of_length_eq_zero (by simp at h1; omega)
          subst this; cases hw
      · rintro J H3 ⟨U0, w, rfl, hxw, ho3, hf3⟩
        have eL : P ++ (U0 ++ [w] ++ x :: V ++ v) ++ Q = (P ++ U0) ++ w :: x :: (V ++ v ++ Q) := by simp
        simp only [List.length_append, List.length_cons, List.length_nil] at hul h0' ⊢
        rw [show p + (U0.length + (0 + 1)) = (p + U0.length) + 1 by omega, pred64 (by omega) (by omega)]
        refine ho3.sl.get (k := p + U0.length) (by omega) (by rw [eL]; exact mid0 (by simp; omega)) (decide_eq_true (by omega)) fun ad ea hc => ⟨_, _, ldS hc, ?_⟩
        refine ho3.sl.get (k := p + U0.length + 1) rfl (by rw [eL]; exact mid1 (by simp; omega)) (decide_eq_true (by omega)) fun ad ea hc => ⟨_, _, ldS hc, ?_⟩
        refine swap_two (k := p + U0.length) ho3 eL (by simp; omega) rfl (by omega) _ _ (decide_eq_true (by omega)) (decide_eq_true (by omega)) fun H4 ho4 hf4 => ?_
        refine ⟨⟨U0, w :: V, by simp, by omega, fun z hz => ?_, by simpa using ho4, hf3.trans' hf4 (fun _ h _ => h) (fun _ h _ => h)⟩, ?_⟩
        · rcases List.mem_cons.1 hz with rfl | hz
          · exact hxw
          · exact hV z hz
        · show (((p + U0.length + 1 - 1 : Nat) : Int)).toNat < (((p + U0.length + 1 : Nat) : Int)).toNat
          omega
  · rcases hs with hs | ⟨rfl, rfl, rfl, h1⟩
    · have hv : v = [] := List.eq_nil_of_length_eq_zero (by subst hs; simp at hq h0; omega)
      subst hv
      rw [List.append_nil] at hs ho
      subst hs
      have hs0 : s ≠ [] := by intro e; subst e; simp at hu1
      exact ⟨rfl, hk H1 u' ho hS (hB hs0) hf⟩
    · exact ⟨rfl, hk H1 [] ho List.Pairwise.nil (Stb.refl _) hf⟩

theorem swapRange_ok {order : Value} {base : Nat} {H : Heap} {a : Option Addr} {n c p q : Nat} {L P X M Y Q : List Smp} {K : Heap → Prop} (hx : Own encS 26 base H a n c L) (eL : L = P ++ (X ++ (M ++ (Y ++ Q)))) (hp : P.length = p) (hq : p + X.length + M.length = q) (hXY : X.length = Y.length) (hn : n ≤ 1000000000)
    (hk : ∀ H', Own encS 26 base H' a n c (P ++ (Y ++ (M ++ (X ++ Q)))) → Fr (blkL a) H H' → K H') :
    CallH Try.prog fn_slices_swapRangeCmpFunc_api_Sample_ ⟨[.slice a n c, .int .i64 p, .int .i64 q, .int .i64 X.length, order]⟩ H fun v H' => v = .tuple ⟨[]⟩ ∧ K H' := by
  apply vc_slices_swapRangeCmpFunc_api_Sample_
  have hl := hx.1
  subst eL
  simp only [List.length_append] at hl
  refine ⟨fun vs H' => match vs with
      | [.int _ i] => ∃ (X1 X2 Y1 Y2 : List Smp), i = (X1.length : Int) ∧ X = X1 ++ X2 ∧ Y = Y1 ++ Y2 ∧ X1.length = Y1.length ∧ Own encS 26 base H' a n c (P ++ (Y1 ++ (X2 ++ (M ++ (X1 ++ (Y2 ++ Q)))))) ∧ Fr (blkL a) H H'
      | _ => False,
    fun vs _ => match vs with | [.int _ i] => X.length - i.toNat | _ => 0, ⟨[], X, [], Y, rfl, rfl, rfl, rfl, hx, Fr.refl _ _⟩, ?_⟩
  rintro J i H1 ⟨X1, X2, Y1, Y2, rfl, rfl, rfl, h12, ho, hf⟩
  simp only [List.length_append] at hXY hq hl
  have ew1 : IntKind.i64.wrap ((q : Int) + (X1.length : Nat)) = ((q + X1.length : Nat) : Int) := by rw [wrap64_of (by omega) (by omega)]; omega
  have ew2 : IntKind.i64.wrap ((p : Int) + (X1.length : Nat)) = ((p + X1.length : Nat) : Int) := by rw [wrap64_of (by omega) (by omega)]; omega
  refine brB_of (fun h0 => ?_) (fun h0 => ?_)
  · have h0' : X1.length < X1.length + X2.length := by simp at h0; omega
    cases X2 with
    | nil => simp at h0'
    | cons x X2 =>
      cases Y2 with
      | nil => simp at hXY; omega
      | cons y Y2 =>
        simp only [List.length_cons] at hXY hq hl
        rw [ew1, ew2]
        have e1 : P ++ (Y1 ++ (x :: X2 ++ (M ++ (X1 ++ (y :: Y2 ++ Q))))) = (P ++ Y1 ++ x :: X2 ++ M ++ X1) ++ y :: (Y2 ++ Q) := by simp
        have e2 : P ++ (Y1 ++ (x :: X2 ++ (M ++ (X1 ++ (y :: Y2 ++ Q))))) = (P ++ Y1) ++ x :: (X2 ++ M ++ X1 ++ y :: (Y2 ++ Q)) := by simp
        refine ho.sl.get (k := q + X1.length) rfl (by rw [e1]; exact mid0 (by simp; omega)) (decide_eq_true (by omega)) fun ad ea hc => ⟨_, _, ldS hc, ?_⟩
        refine ho.sl.get (k := p + X1.length) rfl (by rw [e2]; exact mid0 (by simp; omega)) (decide_eq_true (by omega)) fun ad ea hc => ⟨_, _, ldS hc, ?_⟩
        refine own_put (E := encS) (k := p + X1.length) y ho rfl (by omega) (decide_eq_true (by omega)) rfl (by kernel_rfl) (by kernel_rfl) fun H2 ho2 hf2 => ?_
        rw [e2, mset0 (by simp; omega)] at ho2
        have e3 : (P ++ Y1) ++ y :: (X2 ++ M ++ X1 ++ y :: (Y2 ++ Q)) = (P ++ Y1 ++ y :: X2 ++ M ++ X1) ++ y :: (Y2 ++ Q) := by simp
        refine own_put (E := encS) (k := q + X1.length) x ho2 rfl (by omega) (decide_eq_true (by omega)) rfl (by kernel_rfl) (by kernel_rfl) fun H3 ho3 hf3 => ?_
        rw [e3, mset0 (by simp; omega)] at ho3
        rw [succ64 (by omega)]
        refine ⟨⟨X1 ++ [x], X2, Y1 ++ [y], Y2, by simp, by simp, by simp, by simp; omega, by simpa using ho3, (hf.trans' hf2 (fun _ h _ => h) (fun _ h _ => h)).trans' hf3 (fun _ h _ => h) (fun _ h _ => h)⟩, mu_lt (by simp)⟩
  · have hX2 : X2 = [] := List.eq_nil_of_length_eq_zero (by simp at h0; omega)
    subst hX2
    have hY2 : Y2 = [] := List.eq_nil_of_length_eq_zero (by simp at hXY; omega)
    subst hY2
    simp only [List.append_nil, List.nil_append] at ho hk
    exact ⟨rfl, hk H1 ho hf⟩
theorem rotate_ok {order : Value} {base : Nat} {H : Heap} {a : Option Addr} {n c p m q : Nat} {L P X Y Q : List Smp} {K : Heap → Prop} (hx : Own encS 26 base H a n c L) (eL : L = P ++ (X ++ (Y ++ Q))) (hp : P.length = p) (hm : p + X.length = m) (hq : m + Y.length = q) (hX : 0 < X.length) (hY : 0 < Y.length) (hn : n ≤ 1000000000)
    (hk : ∀ H', Own encS 26 base H' a n c (P ++ (Y ++ (X ++ Q))) → Fr (blkL a) H H' → K H') :
    CallH Try.prog fn_slices_rotateCmpFunc_api_Sample_ ⟨[.slice a n c, .int .i64 p, .int .i64 m, .int .i64 q, order]⟩ H fun v H' => v = .tuple ⟨[]⟩ ∧ K H' := by
  apply vc_slices_rotateCmpFunc_api_Sample_
  have hl := hx.1
  subst eL
  simp only [List.length_append] at hl
  have ew1 : IntKind.i64.wrap ((m : Int) - p) = ((X.length : Nat) : Int) := by rw [wrap64_of (by omega) (by omega)]; omega
  have ew2 : IntKind.i64.wrap ((q : Int) - m) = ((Y.length : Nat) : Int) := by rw [wrap64_of (by omega) (by omega)]; omega
  rw [ew1, ew2]
  refine ⟨fun vs H' => match vs with
      | [.int _ i, .int _ j] => ∃ (P' X' Y' Q' : List Smp), i = (X'.length : Int) ∧ j = (Y'.length : Int) ∧ 0 < X'.length ∧ 0 < Y'.length ∧ P'.length + X'.length = m ∧ P' ++ (Y' ++ (X' ++ Q')) = P ++ (Y ++ (X ++ Q)) ∧ Own encS 26 base H' a n c (P' ++ (X' ++ (Y' ++ Q'))) ∧ Fr (blkL a) H H'
      | _ => False,
    fun vs _ => match vs with | [.int _ i, .int _ j] => i.toNat + j.toNat | _ => 0, ⟨P, X, Y, Q, rfl, rfl, hX, hY, by omega, rfl, hx, Fr.refl _ _⟩, ?_⟩
  rintro J i j H1 ⟨P', X', Y', Q', rfl, rfl, hX', hY', hPm, hE, ho, hf⟩
  have hol := ho.1
  simp only [List.length_append] at hol
  have w1 : IntKind.i64.wrap ((m : Int) - (X'.length : Nat)) = ((P'.length : Nat) : Int) := by rw [wrap64_of (by omega) (by omega)]; omega
  refine brB_of (fun h0 => ?_) (fun h0 => ?_)
  · have h0' : X'.length ≠ Y'.length := by intro e; rw [e] at h0; simp at h0
    rw [w1]
    refine brB_of (fun h1 => ?_) (fun h1 => ?_)
    · have h1' : Y'.length < X'.length := by simpa using h1
      obtain ⟨X1, X2, rfl, hX1⟩ : ∃ X1 X2, X' = X1 ++ X2 ∧ X1.length = Y'.length := ⟨X'.take Y'.length, X'.drop Y'.length, (List.take_append_drop _ _).symm, by simp; omega⟩
      simp only [List.length_append] at hPm hX' h1' hol
      have w2 : IntKind.i64.wrap (((X1 ++ X2).length : Nat) - ((Y'.length : Nat) : Int)) = ((X2.length : Nat) : Int) := by rw [List.length_append, wrap64_of (by omega) (by omega)]; omega
      rw [w2, ← hX1]
      refine swapRange_ok (P := P') (X := X1) (M := X2) (Y := Y') (Q := Q') ho (by simp) rfl (by omega) hX1 hn fun H2 ho2 hf2 => ?_
      rw [hX1]
      refine ⟨⟨P' ++ Y', X2, X1, Q', rfl, by rw [hX1], by omega, by omega, by simp; omega, by rw [← hE]; simp, by simpa using ho2, hf.trans' hf2 (fun _ h _ => h) (fun _ h _ => h)⟩, ?_⟩
      simp only [List.length_append]; omega
    · have h1' : X'.length < Y'.length := by simp at h1; omega
      obtain ⟨Y1, Y2, rfl, hY2⟩ : ∃ Y1 Y2, Y' = Y1 ++ Y2 ∧ Y2.length = X'.length := ⟨Y'.take (Y'.length - X'.length), Y'.drop (Y'.length - X'.length), (List.take_append_drop _ _).symm, by simp; omega⟩
      simp only [List.length_append] at hY' h1' hol
      have w2 : IntKind.i64.wrap (((Y1 ++ Y2).length : Nat) - ((X'.length : Nat) : Int)) = ((Y1.length : Nat) : Int) := by rw [List.length_append, wrap64_of (by omega) (by omega)]; omega
      have w3 : IntKind.i64.wrap (IntKind.i64.wrap ((m : Int) + (((Y1 ++ Y2).length : Nat) : Int)) - (X'.length : Nat)) = ((m + Y1.length : Nat) : Int) := by
        rw [List.length_append, wrap64_of (n := (m : Int) + _) (by omega) (by omega), wrap64_of (by omega) (by omega)]; omega
      rw [w2, w3]
      refine swapRange_ok (P := P') (X := X') (M := Y1) (Y := Y2) (Q := Q') ho (by simp) rfl (by omega) hY2.symm hn fun H2 ho2 hf2 => ?_
      refine ⟨⟨P', Y2, Y1, X' ++ Q', by rw [hY2], rfl, by omega, by omega, by omega, by rw [← hE]; simp, by simpa using ho2, hf.trans' hf2 (fun _ h _ => h) (fun _ h _ => h)⟩, ?_⟩
      simp only [List.length_append]; omega
  · have h0' : X'.length = Y'.length := by simp at h0; omega
    rw [w1]
    refine swapRange_ok (P := P') (X := X') (M := []) (Y := Y') (Q := Q') ho (by simp) rfl (by simp; omega) h0' hn fun H2 ho2 hf2 => ⟨rfl, ?_⟩
    refine hk H2 ?_ (hf.trans' hf2 (fun _ h _ => h) (fun _ h _ => h))
    rw [← hE]; simpa using ho2
end Go.Proofs
