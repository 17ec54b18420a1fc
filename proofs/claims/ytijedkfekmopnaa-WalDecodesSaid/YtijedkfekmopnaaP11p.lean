/- Turned by a program of mine (port.py) out of the same text of another seat: numbers of types and functions. -/
import Derived.Test.YtijedkfekmopnaaP11o
import Derived.Test.YtijedkfekmopnaaL07d
set_option linter.unusedVariables false
set_option maxRecDepth 100000
open Go Go.GV
namespace Go.Proofs

theorem slice45 : sliceB Try.prog 98 9 = true := by kernel_rfl
theorem elem9 : elemB Try.prog 9 1 16 = true := by kernel_rfl
/-- A label's text. -/
def lblS (x : Lbl) : ByteArray := ⟨(lblL x).toArray⟩
theorem print_join : ∀ l : Lbls, printL l = 123 :: joinL [44] (l.map lblS) ++ [125]
  | [] => rfl
  | x :: l => by
    have : ∀ m : Lbls, restL m = ((m.map lblS).flatMap fun s => [44] ++ bl s) ++ [125] := by
      intro m
      induction m with
      | nil => rfl
      | cons y m ih => simp only [restL, ih, List.map_cons, List.flatMap_cons, lblS, bl_mk]; simp
    simp only [printL, this, List.map_cons, joinL, lblS, bl_mk]
    simp
theorem lblS_size (x : Lbl) : (lblS x).size = x.1.size + 1 + (quoteL (bl x.2)).length := by
  unfold lblS lblL
  rw [size_mk, List.length_append, List.length_cons, bl_len]; omega
theorem lbl_small {x : Lbl} (h : LblP x) : (lblS x).size ≤ 83 := by
  have := quoteL_len (bl x.2)
  rw [bl_len] at this
  rw [lblS_size]
  have h1 := h.1.2.1
  have h2 := h.2.1.1
  omega
theorem sum_small {l : Lbls} (h : ∀ x ∈ l, LblP x) : sumS (l.map lblS) ≤ 83 * l.length := by
  induction l with
  | nil => simp [sumS]
  | cons x l ih =>
    have := lbl_small (h x (by simp))
    have := ih fun y hy => h y (by simp [hy])
    unfold sumS at *
    simp only [List.map_cons, List.sum_cons, List.length_cons]
    omega
theorem printL_len {l : Lbls} (h : ChkP l) : (printL l).length ≤ 700 := by
  have h8 := h.1
  have hs := sum_small h.2.1
  rw [print_join]
  cases l with
  | nil => simp [joinL]
  | cons x l =>
    simp only [List.map_cons, joinL, List.length_cons, List.length_append, bl_len, List.length_nil]
    have := flat_len [44] (l.map lblS)
    rw [this]
    simp only [List.length_map, List.length_cons, List.length_nil]
    simp only [List.map_cons, List.length_cons, sumS, List.sum_cons] at hs h8 ⊢
    omega

theorem Print_ok {a : Option Addr} {n c : Nat} {l : Lbls} {H : Heap} {K : ByteArray → Int → Heap → Prop} (hx : Sl encL H a n c l) (hn : n ≤ 1000000000)
    (hno : ¬ ChkP l → ∀ H', Fr [] H H' → K ⟨#[]⟩ 40 H') (hyes : ChkP l → ∀ H', Fr [] H H' → K ⟨(printL l).toArray⟩ 0 H') :
    CallH Try.prog fn_label_Print ⟨[.slice a n c]⟩ H fun v H' => ∃ s e, v = .tuple ⟨[.string s, .int .i64 e]⟩ ∧ K s e H' := by
  apply vc_label_Print
  have hlx := hx.len
  refine Check_ok hx hn fun H1 hf1 => ?_
  by_cases hC : ¬ ChkP l
  · rw [chkI_no hC]
    exact ⟨_, _, rfl, hno hC H1 hf1⟩
  have hC := Classical.not_not.1 hC
  rw [chkI_yes hC]
  have h8 := hC.1
  refine brB_of (fun h => by simp at h) (fun _ => ?_)
  refine ⟨fun vs H' => match vs with
      | [.slice o p q, .int _ i] => ∃ k : Nat, i = k ∧ k ≤ n ∧ Own encStr 9 H.size H' o p q ((l.take k).map lblS) ∧ Fr [] H H'
      | _ => False,
    fun vs _ => match vs with | [_, .int _ i] => n - i.toNat | _ => 0, ⟨0, rfl, by omega, Own.nil _ _ _ _, hf1⟩, ?_⟩
  rintro J o p q i H3 ⟨k, rfl, hle, ho, hf⟩
  refine brB_of (fun h0 => ?_) (fun h0 => ?_)
  · have h0' : k < n := by simpa using h0
    have hx1 : l[k]? = some (l[k]'(by omega)) := by simp
    generalize l[k]'(by omega) = x at hx1
    have hL := hC.2.1 x (List.mem_of_getElem? hx1)
    have hq := quoteL_len (bl x.2)
    rw [bl_len] at hq
    have hx1s := hL.1.2.1
    have hx2s := hL.2.1.1
    refine (hx.keep hf).get rfl hx1 (decide_eq_true (by omega)) fun ad ea hc => ⟨_, _, ldL hc, ?_⟩
    refine var_lbl rfl fun b1 H4 hb1 hv hf4 => ⟨_, hv.s0, chk_true (decide_eq_true (by omega)) ⟨_, hv.s1, ?_⟩⟩
    refine Quote_ok (by omega) fun H5 hf5 => ⟨(hv.keep hf5).s0, chk_true (decide_eq_true ?_) ?_⟩
    · have e1 : (⟨#[61]⟩ : ByteArray).size = 1 := rfl
      have e2 := size_mk (quoteL (bl x.2))
      have e3 := size_app x.1 ⟨#[61]⟩
      omega
    have e : (x.1 ++ ⟨#[61]⟩ ++ ⟨(quoteL (bl x.2)).toArray⟩ : ByteArray) = lblS x := by
      apply bl_inj
      unfold lblS lblL
      rw [bl_app, bl_app, bl_mk, bl_mk]
      simp [bl]
    rw [e]
    have hf5' := (hf.keep0 hf4).keep0 hf5
    have hol := ho.1
    rw [List.length_map, List.length_take] at hol
    refine ap_one (E := encStr) (lblS x) slice45 elem9 ((ho.keep hf4).keep hf5) hf5' rfl (by omega) fun _ o6 p6 q6 H6 ho6 hf6 _ => ?_
    rw [succ64 (by omega)]
    refine ⟨⟨k + 1, rfl, by omega, ?_, hf6⟩, mu_lt h0'⟩
    rw [List.take_add_one, hx1, List.map_append]
    exact ho6
  · have hkn : l.take k = l := List.take_of_length_le (by simp at h0; omega)
    rw [hkn] at ho
    have hol := ho.1
    rw [List.length_map] at hol
    have hs := sum_small hC.2.1
    have hpl := printL_len hC
    rw [print_join] at hpl
    simp only [List.length_cons, List.length_append, List.length_nil] at hpl
    refine Join_ok ho.sl (by omega) rfl (by omega) fun H4 hf4 => ?_
    have e1 : (⟨#[123]⟩ : ByteArray).size = 1 := rfl
    have e44 : bl (⟨#[44]⟩ : ByteArray) = [44] := rfl
    rw [e44]
    have ez := size_mk (joinL [44] (l.map lblS))
    refine chk_true (decide_eq_true (by omega)) (chk_true (decide_eq_true (by rw [size_app]; omega)) ⟨_, _, rfl, ?_⟩)
    have e : (⟨#[123]⟩ ++ ⟨(joinL [44] (l.map lblS)).toArray⟩ ++ ⟨#[125]⟩ : ByteArray) = ⟨(printL l).toArray⟩ := by
      apply bl_inj
      rw [bl_app, bl_app, bl_mk, bl_mk, print_join]
      rfl
    rw [e]
    exact hyes hC H4 (hf.keep0 hf4)

/-- Up to so many labels, no end yet. -/
def headP (l : Lbls) : List UInt8 := 123 :: joinL [44] (l.map lblS)
theorem headP_snoc {l : Lbls} {k : Nat} {x : Lbl} (hx : l[k]? = some x) : headP (l.take (k + 1)) = headP (l.take k) ++ (if k = 0 then [] else [44]) ++ lblL x := by
  rw [List.take_add_one, hx]
  unfold headP
  by_cases hk : k = 0
  · subst hk
    simp [joinL, lblS, bl_mk]
  · rw [if_neg hk]
    have hne : l.take k ≠ [] := fun e => by
      have := congrArg List.length e
      rw [List.length_take] at this
      have h4 := (List.getElem?_eq_some_iff.1 hx).1
      have e0 : ([] : Lbls).length = 0 := rfl
      rw [e0] at this; omega
    cases h : l.take k with
    | nil => exact absurd h hne
    | cons y m =>
      simp only [List.cons_append, List.map_cons, List.map_append, joinL, List.flatMap_append, Option.toList_some, List.map_nil, List.flatMap_cons, List.flatMap_nil, List.append_nil]
      simp [lblS, bl_mk]
theorem rPrint_ok {a : Option Addr} {n c : Nat} {l : Lbls} {H : Heap} {K : ByteArray → Int → Heap → Prop} (hx : Sl encL H a n c l)
    (hno : ¬ ChkP l → K ⟨#[]⟩ 40 H) (hyes : ChkP l → K ⟨(printL l).toArray⟩ 0 H) :
    CallH Try.prog fn_ref04_Print ⟨[.slice a n c]⟩ H fun v H' => ∃ s e, v = .tuple ⟨[.string s, .int .i64 e]⟩ ∧ K s e H' := by
  apply vc_ref04_Print
  have hlx := hx.len
  refine rCheck_ok hx ?_
  by_cases hC : ¬ ChkP l
  · rw [chkI_no hC]
    exact ⟨_, _, rfl, hno hC⟩
  have hC := Classical.not_not.1 hC
  rw [chkI_yes hC]
  have h8 := hC.1
  have hyes := hyes hC
  have bound : ∀ k, (headP (l.take k)).length ≤ 700 := fun k => by
    have hCk : ChkP (l.take k) := ⟨by rw [List.length_take]; omega, fun x hx => hC.2.1 x (List.mem_of_mem_take hx), fun i x y hx hy => by
      rw [List.getElem?_take] at hx hy
      split at hx
      · split at hy
        · exact hC.2.2 i x y hx hy
        · cases hy
      · cases hx⟩
    have := printL_len hCk
    rw [print_join] at this
    unfold headP
    simp only [List.length_cons, List.length_append, List.length_nil] at this ⊢
    omega
  refine brB_of (fun h => by simp at h) (fun _ => ?_)
  refine ⟨fun vs H' => match vs with
      | [.string t, .int _ i] => ∃ k : Nat, i = k ∧ k ≤ n ∧ bl t = headP (l.take k) ∧ H' = H
      | _ => False,
    fun vs _ => match vs with | [_, .int _ i] => n - i.toNat | _ => 0, ⟨0, rfl, by omega, rfl, rfl⟩, ?_⟩
  rintro J t i H3 ⟨k, rfl, hle, ht, rfl⟩
  have hts : t.size ≤ 700 := by rw [← bl_len, ht]; exact bound k
  refine brB_of (fun h0 => ?_) (fun h0 => ?_)
  · have h0' : k < n := by simpa using h0
    have hx1 : l[k]? = some (l[k]'(by omega)) := by simp
    generalize l[k]'(by omega) = x at hx1
    have hL := hC.2.1 x (List.mem_of_getElem? hx1)
    have hq := quoteL_len (bl x.2)
    rw [bl_len] at hq
    have hx1s := hL.1.2.1
    have hx2s := hL.2.1.1
    have e1 : (⟨#[44]⟩ : ByteArray).size = 1 := rfl
    have e2 : (⟨#[61]⟩ : ByteArray).size = 1 := rfl
    have ez := size_mk (quoteL (bl x.2))
    have at0 : ∀ {Q : Addr → Prop}, (∀ ad, a = some ad → CellsAt H3 (ad.add ((k : Int).toNat * encL.sz)) (encL.cells x) → Q ad) → exSome a fun ad => chk (decide ((0 : Int) ≤ k ∧ (k : Int) < n)) (Q ad) := fun hK => hx.get rfl hx1 (decide_eq_true (by omega)) hK
    rw [succ64 (by omega)]
    refine brB_of (fun h1 => ?_) (fun h1 => ?_)
    · have hk0 : k ≠ 0 := by simp at h1; omega
      refine chk_true (decide_eq_true (by omega)) (at0 fun ad ea hc => ⟨_, ldN hc, chk_true (decide_eq_true (by rw [size_app]; omega)) (chk_true (decide_eq_true (by rw [size_app, size_app]; omega)) (at0 fun ad2 ea2 hc2 => ⟨_, ldV hc2, rQuote_ok (by omega) ⟨ldN hc, chk_true (decide_eq_true (by rw [size_app, size_app, size_app]; omega)) ⟨⟨k + 1, rfl, by omega, ?_, rfl⟩, mu_lt h0'⟩⟩⟩))⟩)
      rw [headP_snoc hx1, if_neg hk0, bl_app, bl_app, bl_app, bl_app, ht, bl_mk]
      unfold lblL
      simp [bl]
    · have hk0 : k = 0 := by simp at h1; omega
      subst hk0
      refine at0 fun ad ea hc => ⟨_, ldN hc, chk_true (decide_eq_true (by omega)) (chk_true (decide_eq_true (by rw [size_app]; omega)) (at0 fun ad2 ea2 hc2 => ⟨_, ldV hc2, rQuote_ok (by omega) ⟨ldN hc, chk_true (decide_eq_true (by rw [size_app, size_app]; omega)) ⟨⟨0 + 1, rfl, by omega, ?_, rfl⟩, mu_lt h0'⟩⟩⟩))⟩
      rw [headP_snoc hx1, if_pos rfl, bl_app, bl_app, bl_app, ht, bl_mk]
      unfold lblL
      simp [bl]
  · have hkn : l.take k = l := List.take_of_length_le (by simp at h0; omega)
    rw [hkn] at ht
    refine chk_true (decide_eq_true (by omega)) ⟨_, _, rfl, ?_⟩
    have e : (t ++ ⟨#[125]⟩ : ByteArray) = ⟨(printL l).toArray⟩ := by
      apply bl_inj
      rw [bl_app, ht, bl_mk, print_join]; rfl
    rw [e]; exact hyes
end Go.Proofs
