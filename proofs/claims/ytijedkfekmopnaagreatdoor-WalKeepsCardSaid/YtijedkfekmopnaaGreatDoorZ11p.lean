/- Turned by a program of mine (portall.py) out of the same text of another seat. -/
import Derived.Test.YtijedkfekmopnaaGreatDoorZ11a
import Derived.Test.YtijedkfekmopnaaGreatDoorL07d
set_option linter.unusedVariables false
set_option maxRecDepth 100000
open Go Go.GV
namespace Go.Proofs

theorem slice45 : sliceB Tryz.prog 92 9 = true := by kernel_rfl
theorem elem9 : elemB Tryz.prog 9 1 16 = true := by kernel_rfl
def lblS (x : Lbl) : ByteArray := ⟨(lblL x).toArray⟩
theorem print_join : ∀ l : Lbls, printL l = 123 :: joinL [44] (l.map lblS) ++ [125]
  | [] => rfl
  | x :: l => by
    have : ∀ m : Lbls, restL m = ((m.map lblS).flatMap fun s => [44] ++ bl s) ++ [125] := by
      intro m
      induction m with
      | nil => rfl
      | cons y m ih => simp only [restL, ih, List.map_cons, List.flatMap_cons, lblS, bl_mk]; simp
    simp only [printL, this, List.map_cons, joinL, lblS, bl_mk]
    simp
theorem lblS_size (x : Lbl) : (lblS x).size = x.1.size + 1 + (quoteL (bl x.2)).length := by
  unfold lblS lblL
  rw [size_mk, List.length_append, List.length_cons, bl_len]; omega
theorem lbl_small {x : Lbl} (h : LblP x) : (lblS x).size ≤ 83 := by
  have := quoteL_len (bl x.2)
  rw [bl_len] at this
  rw [lblS_size]
  have h1 := h.1.2.1
  have h2 := h.2.1.1
  omega
theorem sum_small {l : Lbls} (h : ∀ x ∈ l, LblP x) : sumS (l.map lblS) ≤ 83 * l.length := by
  induction l with
  | nil => simp [sumS]
  | cons x l ih =>
    have := lbl_small (h x (by simp))
    have := ih fun y hy => h y (by simp [hy])
    unfold sumS at *
    simp only [List.map_cons, List.sum_cons, List.length_cons]
    omega
theorem printL_len {l : Lbls} (h : ChkP l) : (printL l).length ≤ 700 := by
  have h8 := h.1
  have hs := sum_small h.2.1
  rw [print_join]
  cases l with
  | nil => simp [joinL]
  | cons x l =>
    simp only [List.map_cons, joinL, List.length_cons, List.length_append, bl_len, List.length_nil]
    have := flat_len [44] (l.map lblS)
    rw [this]
    simp only [List.length_map, List.length_cons, List.length_nil]
    simp only [List.map_cons, List.length_cons, sumS, List.sum_cons] at hs h8 ⊢
    omega

theorem Print_ok {a : Option Addr} {n c : Nat} {l : Lbls} {H : Heap} {K : ByteArray → Int → Heap → Prop} (hx : Sl encL H a n c l) (hn : n ≤ 1000000000)
    (hno : ¬ ChkP l → ∀ H', Fr [] H H' → K ⟨#[]⟩ 40 H') (hyes : ChkP l → ∀ H', Fr [] H H' → K ⟨(printL l).toArray⟩ 0 H') :
    CallH Tryz.prog fn_label_Print ⟨[.slice a n c]⟩ H fun v H' => ∃ s e, v = .tuple ⟨[.string s, .int .i64 e]⟩ ∧ K s e H' := by
  apply vc_label_Print
  have hlx := hx.len
  refine Check_ok hx hn fun H1 hf1 => ?_
  by_cases hC : ¬ ChkP l
  · rw [chkI_no hC]
    exact ⟨_, _, rfl, hno hC H1 hf1⟩
  have hC := Classical.not_not.1 hC
  rw [chkI_yes hC]
  have h8 := hC.1
  refine brB_of (fun h => by simp at h) (fun _ => ?_)
  refine ⟨fun vs H' => match vs with
      | [.slice o p q, .int _ i] => ∃ k : Nat, i = k ∧ k ≤ n ∧ Own encStr 9 H.size H' o p q ((l.take k).map lblS) ∧ Fr [] H H'
      | _ => False,
    fun vs _ => match vs with | [_, .int _ i] => n - i.toNat | _ => 0, ⟨0, rfl, by omega, Own.nil _ _ _ _, hf1⟩, ?_⟩
  rintro J o p q i H3 ⟨k, rfl, hle, ho, hf⟩
  refine brB_of (fun h0 => ?_) (fun h0 => ?_)
  · have h0' : k < n := by simpa using h0
    have hx1 : l[k]? = some (l[k]'(by omega)) := by simp
    generalize l[k]'(by omega) = x at hx1
    have hL := hC.2.1 x (List.mem_of_getElem? hx1)
    have hq := quoteL_len (bl x.2)
    rw [bl_len] at hq
    have hx1s := hL.1.2.1
    have hx2s := hL.2.1.1
    refine (hx.keep hf).get rfl hx1 (decide_eq_true (by omega)) fun ad ea hc => ⟨_, _, ldL hc, ?_⟩
    refine var_lbl rfl fun b1 H4 hb1 hv hf4 => ⟨_, hv.s0, chk_true (decide_eq_true (by omega)) ⟨_, hv.s1, ?_⟩⟩
    refine Quote_ok (by omega) fun H5 hf5 => ⟨(hv.keep hf5).s0, chk_true (decide_eq_true ?_) ?_⟩
    · have e1 : (⟨#[61]⟩ : ByteArray).size = 1 := rfl
      have e2 := size_mk (quoteL (bl x.2))
      have e3 := size_app x.1 ⟨#[61]⟩
      omega
    have e : (x.1 ++ ⟨#[61]⟩ ++ ⟨(quoteL (bl x.2)).toArray⟩ : ByteArray) = lblS x := by
      apply bl_inj
      unfold lblS lblL
      rw [bl_app, bl_app, bl_mk, bl_mk]
      simp [bl]
    rw [e]
    have hf5' := (hf.keep0 hf4).keep0 hf5
    have hol := ho.1
    rw [List.length_map, List.length_take] at hol
    refine ap_one (E := encStr) (lblS x) slice45 elem9 ((ho.keep hf4).keep hf5) hf5' rfl (by omega) fun _ o6 p6 q6 H6 ho6 hf6 _ => ?_
    rw [succ64 (by omega)]
    refine ⟨⟨k + 1, rfl, by omega, ?_, hf6⟩, mu_lt h0'⟩
    rw [List.take_add_one, hx1, List.map_append]
    exact ho6
  · have hkn : l.take k = l := List.take_of_length_le (by simp at h0; omega)
    rw [hkn] at ho
    have hol := ho.1
    rw [List.length_map] at hol
    have hs := sum_small hC.2.1
    have hpl := printL_len hC
    rw [print_join] at hpl
    simp only [List.length_cons, List.length_append, List.length_nil] at hpl
    refine Join_ok ho.sl (by omega) rfl (by omega) fun H4 hf4 => ?_
    have e1 : (⟨#[123]⟩ : ByteArray).size = 1 := rfl
    have e44 : bl (⟨#[44]⟩ : ByteArray) = [44] := rfl
    rw [e44]
    have ez := size_mk (joinL [44] (l.map lblS))
    refine chk_true (decide_eq_true (by omega)) (chk_true (decide_eq_true (by rw [size_app]; omega)) ⟨_, _, rfl, ?_⟩)
    have e : (⟨#[123]⟩ ++ ⟨(joinL [44] (l.map lblS)).toArray⟩ ++ ⟨#[125]⟩ : ByteArray) = ⟨(printL l).toArray⟩ := by
      apply bl_inj
      rw [bl_app, bl_app, bl_mk, bl_mk, print_join]
      rfl
    rw [e]
    exact hyes hC H4 (hf.keep0 hf4)

def headP (l : Lbls) : List UInt8 := 123 :: joinL [44] (l.map lblS)
theorem headP_snoc {l : Lbls} {k : Nat} {x : Lbl} (hx : l[k]? = some x) : headP (l.take (k + 1)) = headP (l.take k) ++ (if k = 0 then [] else [44]) ++ lblL x := by
  rw [List.take_add_one, hx]
  unfold headP
  by_cases hk : k = 0
  · subst hk
    simp [joinL, lblS, bl_mk]
  · rw [if_neg hk]
    have hne : l.take k ≠ [] := fun e => by
      have := congrArg List.length e
      rw [List.length_take] at this
      have h4 := (List.getElem?_eq_some_iff.1 hx).1
      have e0 : ([] : Lbls).length = 0 := rfl
      rw [e0] at this; omega
    cases h : l.take k with
    | nil => exact absurd h hne
    | cons y m =>
      simp only [List.cons_append, List.map_cons, List.map_append, joinL, List.flatMap_append, Option.toList_some, List.map_nil, List.flatMap_cons, List.flatMap_nil, List.append_nil]
      simp [lblS, bl_mk]
theorem rPrint_ok {a : Option Addr} {n c : Nat} {l : Lbls} {H : Heap} {K : ByteArray → Int → Heap → Prop} (hx : Sl encL H a n c l)
    (hno : ¬ ChkP l → K ⟨#[]⟩ 40 H) (hyes : ChkP l → K ⟨(printL l).toArray⟩ 0 H) :
    CallH Tryz.prog fn_ref04_Print ⟨[.slice a n c]⟩ H fun v H' => ∃ s e, v = .tuple ⟨[.string s, .int .i64 e]⟩ ∧ K s e H' := by
  apply vc_ref04_Print
  have hlx := hx.len
  refine rCheck_ok hx ?_
  by_cases hC : ¬ ChkP l
  · rw [chkI_no hC]
    exact ⟨_, _, rfl, hno hC⟩
  have hC := Classical.not_not.1 hC
  rw [chkI_yes hC]
  have h8 := hC.1
  have hyes := hyes hC
  have bound : ∀ k, (headP (l.take k)).length ≤ 700 := fun k => by
    have hCk : ChkP (l.take k) := ⟨by rw [List.length_take]; omega, fun x hx => hC.2.1 x (List.mem_of_mem_take hx), fun i x y hx hy => by
      rw [List.getElem?_take] at hx hy
      split at hx
      · split at hy
        · exact hC.2.2 i x y hx hy
        · cases hy
      · cases hx⟩
    have := printL_len hCk
    rw [print_join] at this
    unfold headP
    simp only [List.length_cons, List.length_append, List.length_nil] at this ⊢
    omega
  refine brB_of (fun h => by simp at h) (fun _ => ?_)
  refine ⟨fun vs H' => match vs with
      | [.string t, .int _ i] => ∃ k : Nat, i = k ∧ k ≤ n ∧ bl t = headP (l.take k) ∧ H' = H
      | _ => False,
    fun vs _ => match vs with | [_, .int _ i] => n - i.toNat | _ => 0, ⟨0, rfl, by omega, rfl, rfl⟩, ?_⟩
  rintro J t i H3 ⟨k, rfl, hle, ht, rfl⟩
  have hts : t.size ≤ 700 := by rw [← bl_len, ht]; exact bound k
  refine brB_of (fun h0 => ?_) (fun h0 => ?_)
  · have h0' : k < n := by simpa using h0
    have hx1 : l[k]? = some (l[k]'(by omega)) := by simp
    generalize l[k]'(by omega) = x at hx1
    have hL := hC.2.1 x (List.mem_of_getElem? hx1)
    have hq := quoteL_len (bl x.2)
    rw [bl_len] at hq
    have hx1s := hL.1.2.1
    have hx2s := hL.2.1.1
    have e1 : (⟨#[44]⟩ : ByteArray).size = 1 := rfl
    have e2 : (⟨#[61]⟩ : ByteArray).size = 1 := rfl
    have ez := size_mk (quoteL (bl x.2))
    have at0 : ∀ {Q : Addr → Prop}, (∀ ad, a = some ad → CellsAt H3 (ad.add ((k : Int).toNat * encL.sz)) (encL.cells x) → Q ad) → exSome a fun ad => chk (decide ((0 : Int) ≤ k ∧ (k : Int) < n)) (Q ad) := fun hK => hx.get rfl hx1 (decide_eq_true (by omega)) hK
    rw [succ64 (by omega)]
    refine brB_of (fun h1 => ?_) (fun h1 => ?_)
    · have hk0 : k ≠ 0 := by simp at h1; omega
      refine chk_true (decide_eq_true (by omega)) (at0 fun ad ea hc => ⟨_, ldN hc, chk_true (decide_eq_true (by rw [size_app]; omega)) (chk_true (decide_eq_true (by rw [size_app, size_app]; omega)) (at0 fun ad2 ea2 hc2 => ⟨_, ldV hc2, rQuote_ok (by omega) ⟨ldN hc, chk_true (decide_eq_true (by rw [size_app, size_app, size_app]; omega)) ⟨⟨k + 1, rfl, by omega, ?_, rfl⟩, mu_lt h0'⟩⟩⟩))⟩)
      rw [headP_snoc hx1, if_neg hk0, bl_app, bl_app, bl_app, bl_app, ht, bl_mk]
      unfold lblL
      simp [bl]
    · have hk0 : k = 0 := by simp at h1; omega
      subst hk0
      refine at0 fun ad ea hc => ⟨_, ldN hc, chk_true (decide_eq_true (by omega)) (chk_true (decide_eq_true (by rw [size_app]; omega)) (at0 fun ad2 ea2 hc2 => ⟨_, ldV hc2, rQuote_ok (by omega) ⟨ldN hc, chk_true (decide_eq_true (by rw [size_app, size_app]; omega)) ⟨⟨0 + 1, rfl, by omega, ?_, rfl⟩, mu_lt h0'⟩⟩⟩))⟩
      rw [headP_snoc hx1, if_pos rfl, bl_app, bl_app, bl_app, ht, bl_mk]
      unfold lblL
      simp [bl]
  · have hkn : l.take k = l := List.take_of_length_le (by simp at h0; omega)
    rw [hkn] at ht
    refine chk_true (decide_eq_true (by omega)) ⟨_, _, rfl, ?_⟩
    have e : (t ++ ⟨#[125]⟩ : ByteArray) = ⟨(printL l).toArray⟩ := by
      apply bl_inj
      rw [bl_app, ht, bl_mk, print_join]; rfl
    rw [e]; exact hyes
end Go.Proofs
set_option linter.unusedVariables false
set_option maxRecDepth 100000
open Go Go.GV
namespace Go.Proofs

def sepL (xs : Lbls) : List UInt8 := if xs = [] then [] else [44]
theorem bl_lblS (x : Lbl) : bl (lblS x) = lblL x := by unfold lblS; rw [bl_mk]
theorem headP_add (xs : Lbls) (x : Lbl) : headP (xs ++ [x]) = headP xs ++ sepL xs ++ lblL x := by
  unfold headP sepL
  cases xs with
  | nil => simp [joinL, bl_lblS]
  | cons y m => simp [joinL, bl_lblS]
theorem printL_head (xs : Lbls) : printL xs = headP xs ++ [125] := by rw [print_join]; rfl
theorem restL_eq : ∀ m : Lbls, restL m = ((m.map lblS).flatMap fun s => [44] ++ bl s) ++ [125]
  | [] => rfl
  | y :: m => by simp only [restL, restL_eq m, List.map_cons, List.flatMap_cons, bl_lblS]; simp
theorem printL_split (xs : Lbls) (y : Lbl) (m : Lbls) : printL (xs ++ y :: m) = headP xs ++ sepL xs ++ (lblL y ++ restL m) := by
  rw [print_join, restL_eq]
  unfold headP sepL
  cases xs with
  | nil => simp [joinL, bl_lblS]
  | cons z xs => simp [joinL, bl_lblS]
theorem Parse_ok {s : ByteArray} {H : Heap} {K : Option Addr → Nat → Nat → Int → Heap → Prop} (hs : s.size ≤ 1000000000)
    (hno : (∀ l, ChkP l → bl s ≠ printL l) → ∀ H', Fr [] H H' → K none 0 0 11 H')
    (hyes : ∀ l a n c H', ChkP l → bl s = printL l → Own encL 55 H.size H' a n c l → Fr [] H H' → K a n c 0 H') :
    CallH Tryz.prog fn_label_Parse ⟨[.string s]⟩ H fun v H' => ∃ a n c e, v = .tuple ⟨[.slice a n c, .int .i64 e]⟩ ∧ K a n c e H' := by
  apply vc_label_Parse
  intro b H1 hn1
  have hbH := hn1.eq
  have hbs := hn1.size
  have hend : ∀ {H' : Heap}, Fr [b] H1 H' → Fr [] H H' := fun hf => hn1.fr.keep hf (fun k hk => by simp at hk; omega)
  refine take_ok hn1.blk (fun u H2 hu hb2 hf2 => ?_) fun h => ?_
  rotate_left
  · refine brB_of (fun _ => ⟨_, _, _, _, rfl, hno (fun l hl e => h (joinL [44] (l.map lblS) ++ [125]) ?_) H1 hn1.fr⟩) (fun h => by cases h)
    rw [e, print_join]; rfl
  have hu : bl s = 123 :: bl u := hu
  have hus : u.size + 1 = s.size := by rw [← bl_len, ← bl_len, hu]; rfl
  refine brB_of (fun h => by cases h) (fun _ => ⟨_, hb2.ld0 (by kernel_rfl) rfl, ?_⟩)
  refine brB_of (fun h => ⟨_, _, _, _, rfl, hyes [] none 0 0 H2 ⟨by simp, by simp, fun i x y h => by simp at h⟩ ?_ (Own.nil _ _ _ _) (hend hf2)⟩) (fun hu2 => ?_)
  · rw [beqS] at h
    have h := of_decide_eq_true h
    rw [hu, h]; rfl
  have hu2 : u ≠ ⟨#[125]⟩ := by rw [beqS] at hu2; exact of_decide_eq_false hu2
  refine ⟨fun vs H' => match vs with
      | [.slice a n c, .bool more] => ∃ (xs : Lbls) (t : ByteArray), Own encL 55 H1.size H' a n c xs ∧ Blk H' ⟨b, 0, none⟩ [.string t] ∧ Fr [b] H1 H' ∧ bl s = headP xs ++ (if more then sepL xs else []) ++ bl t ∧ (∀ l, ChkP l → bl s = printL l → ∃ m, l = xs ++ m ∧ (if more then m ≠ [] else m = [])) ∧ xs.length + t.size ≤ s.size
      | _ => False,
    fun vs _ => match vs with | [.slice _ n _, .bool more] => if more then s.size + 1 - n else 0 | _ => 0,
    ⟨[], u, Own.nil _ _ _ _, hb2, hf2, by rw [hu]; rfl, fun l hl e => ⟨l, rfl, ?_⟩, by simp; omega⟩, ?_⟩
  · intro e0
    subst e0
    rw [hu] at e
    exact hu2 (bl_inj (List.cons.inj e).2)
  rintro J a n c more H3 ⟨xs, t, ho, hb3, hf3, hsp, hcm, hsz⟩
  refine brB_of (fun h => ?_) (fun h => ?_)
  · subst h
    rw [if_pos rfl] at hsp
    have hc : ∀ l, ChkP l → bl s = printL l → ∃ y m, l = xs ++ y :: m ∧ bl t = lblL y ++ restL m ∧ ∀ b ∈ bl y.1, b ≠ 61 := fun l hl e => by
      obtain ⟨m, rfl, h2⟩ := hcm l hl e
      cases m with
      | nil => exact absurd rfl h2
      | cons y m =>
        rw [hsp, printL_split] at e
        exact ⟨y, m, rfl, List.append_cancel_left e, name_noeq (hl.2.1 y (by simp)).1⟩
    refine ⟨_, hb3.ld0 (by kernel_rfl) rfl, Cut_ok (c := 61) (by omega) (fun u t1 hcut hu61 => ?_) fun hn61 => ?_⟩
    rotate_left
    · refine hb3.st0 (v := .string ⟨#[]⟩) (by kernel_rfl) (by kernel_rfl) (fun x hx => by simp [Value.cells] at hx; subst hx; rfl) (by simp [Value.cells]) fun H4 hb4 hf4 => ?_
      refine value_ok (t := ⟨#[]⟩) hb4 (by simp [ByteArray.size]) (fun v t' H' e => ?_) fun _ H5 hf5 => ?_
      · have e : ([] : List UInt8) = quoteL (bl v) ++ bl t' := e
        simp [quoteL] at e
      · refine brB_of (fun _ => ⟨_, _, _, _, rfl, hno (fun l hl e => ?_) H5 (hend ((hf3.trans' hf4 (fun k hk _ => hk) (fun k hk _ => hk)).trans' hf5 (fun k hk _ => hk) (fun k hk _ => hk)))⟩) (fun h => by cases h)
        obtain ⟨y, m, _, h2, _⟩ := hc l hl e
        rw [h2] at hn61
        exact hn61 (by simp [lblL])
    · refine hb3.st0 (v := .string t1) (by kernel_rfl) (by kernel_rfl) (fun x hx => by simp [Value.cells] at hx; subst hx; rfl) (by simp [Value.cells]) fun H4 hb4 hf4 => ?_
      have hts : t.size = u.size + 1 + t1.size := by rw [← bl_len, hcut]; simp [bl_len]; omega
      have hf34 : Fr [b] H1 H4 := hf3.trans' hf4 (fun k hk _ => hk) (fun k hk _ => hk)
      refine value_ok (t := t1) hb4 (by omega) (fun v t2 H5 e5 hb5 hf5 => ?_) fun hnov H5 hf5 => ?_
      rotate_left
      · refine brB_of (fun _ => ⟨_, _, _, _, rfl, hno (fun l hl e => ?_) H5 (hend (hf34.trans' hf5 (fun k hk _ => hk) (fun k hk _ => hk)))⟩) (fun h => by cases h)
        obtain ⟨y, m, _, h2, h3⟩ := hc l hl e
        unfold lblL at h2
        rw [hcut, List.append_assoc, List.cons_append] at h2
        obtain ⟨_, h4⟩ := cut_first hu61 h3 h2
        exact hnov _ _ h4
      · refine brB_of (fun h => by cases h) (fun _ => ?_)
        have hf35 : Fr [b] H1 H5 := hf34.trans' hf5 (fun k hk _ => hk) (fun k hk _ => hk)
        have hbo : ∀ ad, a = some ad → ad.block ∉ [b] := fun ad e hk => by
          have := (ho.lt ad e).1
          simp at hk; omega
        have ho5 := (ho.fr hf4 hbo).fr hf5 hbo
        intro b5 H6 hn6
        have hs1 : Sl encL H6 (some ⟨b5, 0, none⟩) 1 1 [((u, v) : Lbl)] := sl_one encL (u, v) hn6 rfl
        have hxs : xs.length ≤ 1000000000 := by omega
        refine ap_grow (E := encL) slice23 elem64 (ho5.keep hn6.fr) hs1 (Nat.le_trans hf35.size hn6.fr.size) (by have := ho.1; omega) fun a' n' c' H7 ho7 hf7 hg7 => ?_
        have hbo7 : b ∉ blkL a := fun hk => by have := (ho.ge b hk).1; omega
        have hb7 := (hb5.keep hn6.fr).fr hf7 hbo7
        have hf37 : Fr [b] H1 H7 := (hf35.trans' hn6.fr (T := [b]) (fun k hk _ => hk) (by simp)).trans' hf7 (fun k hk _ => hk) (fun k hk hlt => absurd (ho.ge k hk).1 (by omega))
        have e1 : bl t = lblL (u, v) ++ bl t2 := by
          unfold lblL
          rw [hcut, e5]; simp
        have hq : 2 ≤ (quoteL (bl v)).length := by simp [quoteL]
        have ht1 : t1.size = (quoteL (bl v)).length + t2.size := by rw [← bl_len, e5, List.length_append, bl_len]
        have hsp2 : bl s = headP (xs ++ [(u, v)]) ++ bl t2 := by rw [hsp, e1, headP_add]; simp
        have hc2 : ∀ l, ChkP l → bl s = printL l → ∃ m, l = (xs ++ [(u, v)]) ++ m ∧ bl t2 = restL m := fun l hl e => by
          obtain ⟨y, m, h1, h2, h3⟩ := hc l hl e
          obtain ⟨rfl, h5⟩ := lbl_inj (x := (u, v)) hu61 h3 (e1.symm.trans h2)
          exact ⟨m, by rw [h1]; simp, h5⟩
        have hlen1 : (xs ++ [((u, v) : Lbl)]).length = xs.length + 1 := by simp
        have hn7 := ho7.1
        have hn0 := ho.1
        rw [hlen1] at hn7
        refine take_ok hb7 (fun t3 H8 e8 hb8 hf8 => ?_) fun h8 => ?_
        · have e8 : bl t2 = 44 :: bl t3 := e8
          have ht2 : t2.size = t3.size + 1 := by rw [← bl_len, e8, List.length_cons, bl_len]
          have hbo8 : ∀ ad, a' = some ad → ad.block ∉ [b] := fun ad e hk => by
            have := (ho7.lt ad e).1
            simp at hk; omega
          refine ⟨⟨_, t3, ho7.fr hf8 hbo8, hb8, hf37.trans' hf8 (fun k hk _ => hk) (fun k hk _ => hk), ?_, fun l hl e => ?_, by rw [hlen1]; omega⟩, ?_⟩
          · rw [if_pos rfl, hsp2, e8]
            unfold sepL
            rw [if_neg (by simp)]; simp
          · obtain ⟨m, h1, h2⟩ := hc2 l hl e
            refine ⟨m, h1, ?_⟩
            rw [if_pos rfl]
            intro e0
            subst e0
            rw [e8] at h2
            simp [restL] at h2
          · show (if true = true then s.size + 1 - n' else 0) < (if true = true then s.size + 1 - n else 0)
            rw [if_pos rfl, if_pos rfl]
            omega
        · refine ⟨⟨_, t2, ho7, hb7, hf37, ?_, fun l hl e => ?_, by rw [hlen1]; omega⟩, ?_⟩
          · rw [hsp2]; simp
          · obtain ⟨m, h1, h2⟩ := hc2 l hl e
            refine ⟨m, h1, ?_⟩
            show m = []
            cases m with
            | nil => rfl
            | cons y m => exact absurd h2 (h8 (lblL y ++ restL m))
          · show (if false = true then s.size + 1 - n' else 0) < (if true = true then s.size + 1 - n else 0)
            rw [if_pos rfl]
            simp; omega
  · subst h
    have hsp : bl s = headP xs ++ bl t := by simpa using hsp
    have hcm : ∀ l, ChkP l → bl s = printL l → l = xs := fun l hl e => by
      obtain ⟨m, h1, h2⟩ := hcm l hl e
      have h2 : m = [] := h2
      rw [h1, h2]; simp
    refine ⟨_, hb3.ld0 (by kernel_rfl) rfl, brB_of (fun h => ⟨_, _, _, _, rfl, hno (fun l hl e => ?_) H3 (hend hf3)⟩) (fun h => ?_)⟩
    · have := hcm l hl e
      subst this
      rw [hsp, printL_head] at e
      have : t = ⟨#[125]⟩ := bl_inj (List.append_cancel_left e)
      subst this
      simp at h
    · have h : t = ⟨#[125]⟩ := by rw [beqS] at h; simpa using h
      have hpr : bl s = printL xs := by rw [hsp, printL_head, h]
      refine Check_ok ho.sl (by have := ho.1; omega) fun H4 hf4 => ?_
      by_cases hC : ChkP xs
      · rw [chkI_yes hC]
        exact brB_of (fun h => by simp at h) (fun _ => ⟨_, _, _, _, rfl, hyes xs _ _ _ H4 hC hpr ((ho.keep hf4).base (by omega)) (hend (hf3.trans' hf4 (fun k hk _ => hk) (by simp)))⟩)
      · rw [chkI_no hC]
        exact brB_of (fun _ => ⟨_, _, _, _, rfl, hno (fun l hl e => hC (hcm l hl e ▸ hl)) H4 (hend (hf3.trans' hf4 (fun k hk _ => hk) (by simp)))⟩) (fun h => by simp at h)
end Go.Proofs
set_option linter.unusedVariables false
set_option maxRecDepth 100000
open Go Go.GV
namespace Go.Proofs

end Go.Proofs
set_option linter.unusedVariables false
set_option maxRecDepth 100000
open Go Go.GV
namespace Go.Proofs

end Go.Proofs
set_option linter.unusedVariables false
set_option maxRecDepth 100000
open Go Go.GV
namespace Go.Proofs

def foldN (v : Int) : Nat := if 0 ≤ v then (2 * v).toNat else (2 * (-(v + 1)) + 1).toNat
def unfoldN (n : Nat) : Int := if n % 2 = 0 then (n / 2 : Nat) else -((n / 2 : Nat) : Int) - 1
def intL (v : Int) : List UInt8 := uintL (foldN v)
def I64 (v : Int) : Prop := -9223372036854775808 ≤ v ∧ v ≤ 9223372036854775807
theorem foldN_lt {v : Int} (h : I64 v) : foldN v < 18446744073709551616 := by unfold foldN I64 at *; split <;> omega
theorem unfold_fold (v : Int) : unfoldN (foldN v) = v := by unfold unfoldN foldN; split <;> split <;> omega
theorem fold_unfold (n : Nat) : foldN (unfoldN n) = n := by unfold unfoldN foldN; split <;> split <;> omega
theorem unfold_64 {n : Nat} (h : n < 18446744073709551616) : I64 (unfoldN n) := by unfold unfoldN I64; split <;> omega

theorem wrapU_neg {n : Int} (h : -18446744073709551616 ≤ n) (h2 : n < 0) : IntKind.u64.wrap n = n + 18446744073709551616 := by
  unfold IntKind.wrap
  simp [IntKind.bits, IntKind.signed]
  omega
theorem wrapI_big {n : Int} (h : 9223372036854775808 ≤ n) (h2 : n < 18446744073709551616) : IntKind.i64.wrap n = n - 18446744073709551616 := by
  unfold IntKind.wrap
  simp [IntKind.bits, IntKind.signed]
  omega
theorem xor_ones {m : Nat} (h : m < 18446744073709551616) : (BitVec.ofInt 64 (m : Int) ^^^ BitVec.ofInt 64 18446744073709551615).toNat = 18446744073709551615 - m := by
  have e : BitVec.ofInt 64 18446744073709551615 = BitVec.allOnes 64 := by decide
  rw [e, BitVec.xor_allOnes, BitVec.toNat_not, bvN h]
theorem xor_ones' {m : Nat} (h : m < 18446744073709551616) : (BitVec.ofInt 64 (m : Int) ^^^ BitVec.ofInt 64 (-1)).toNat = 18446744073709551615 - m := by
  have e : BitVec.ofInt 64 (-1) = BitVec.allOnes 64 := by decide
  rw [e, BitVec.xor_allOnes, BitVec.toNat_not, bvN h]
theorem xor_zero {m : Nat} (h : m < 18446744073709551616) : (BitVec.ofInt 64 (m : Int) ^^^ BitVec.ofInt 64 0).toNat = m := by
  have e : BitVec.ofInt 64 0 = 0#64 := by decide
  rw [e, BitVec.xor_zero, bvN h]

theorem Fold_ok {v : Int} {H : Heap} {K : Int → Heap → Prop} (hv : I64 v) (hk : K (foldN v : Nat) H) : CallH Tryz.prog fn_zig_Fold ⟨[.int .i64 v]⟩ H fun w H' => ∃ n, w = .int .u64 n ∧ K n H' := by
  apply vc_zig_Fold
  refine ⟨_, rfl, ?_⟩
  obtain ⟨h1, h2⟩ := hv
  by_cases h0 : 0 ≤ v
  · have e1 : Int.fdiv v (2 ^ 63) = 0 := by rw [Int.fdiv_eq_ediv_of_nonneg _ (by decide)]; omega
    have e2 : IntKind.u64.wrap (IntKind.i64.wrap (v * 2 ^ 1)) = ((2 * v).toNat : Int) := by
      by_cases h3 : v * 2 < 9223372036854775808
      · rw [wrap64_of (by omega) (by omega), wrapU64 (by omega) (by omega)]; omega
      · rw [wrapI_big (by omega) (by omega), wrapU_neg (by omega) (by omega)]; omega
    rw [e1, e2, wrapU64 (n := 0) (by omega) (by omega), xor_zero (by omega), wrapU64 (by omega) (by omega)]
    unfold foldN at hk
    rwa [if_pos h0] at hk
  · have e1 : Int.fdiv v (2 ^ 63) = -1 := by rw [Int.fdiv_eq_ediv_of_nonneg _ (by decide)]; omega
    have e2 : IntKind.u64.wrap (IntKind.i64.wrap (v * 2 ^ 1)) = ((2 * v + 18446744073709551616).toNat : Int) := by
      by_cases h3 : -9223372036854775808 ≤ v * 2
      · rw [wrap64_of (by omega) (by omega), wrapU_neg (by omega) (by omega)]; omega
      · have : IntKind.i64.wrap (v * 2 ^ 1) = v * 2 + 18446744073709551616 := by
          unfold IntKind.wrap
          simp [IntKind.bits, IntKind.signed]
          omega
        rw [this, wrapU64 (by omega) (by omega)]; omega
    rw [e1, e2, wrapU_neg (n := -1) (by omega) (by omega)]
    rw [show (-1 : Int) + 18446744073709551616 = 18446744073709551615 from rfl, xor_ones (by omega), wrapU64 (by omega) (by omega)]
    unfold foldN at hk
    rw [if_neg h0] at hk
    have e3 : (18446744073709551615 - (2 * v + 18446744073709551616).toNat : Nat) = (2 * (-(v + 1)) + 1).toNat := by omega
    rw [e3]; exact hk
theorem rFold_ok {v : Int} {H : Heap} {K : Int → Heap → Prop} (hv : I64 v) (hk : K (foldN v : Nat) H) : CallH Tryz.prog fn_ref01_Fold ⟨[.int .i64 v]⟩ H fun w H' => ∃ n, w = .int .u64 n ∧ K n H' := by
  apply vc_ref01_Fold
  obtain ⟨h1, h2⟩ := hv
  unfold foldN at hk
  refine brB_of (fun h => ⟨_, rfl, ?_⟩) (fun h => ⟨_, rfl, ?_⟩)
  · have h0 : 0 ≤ v := by simpa using h
    rw [if_pos h0] at hk
    rw [wrapU64 (n := v) (by omega) (by omega), wrapU64 (by omega) (by omega)]
    have : ((2 * v).toNat : Int) = 2 * v := by omega
    rwa [this] at hk
  · have h0 : ¬ 0 ≤ v := by simpa using h
    rw [if_neg h0] at hk
    rw [wrap64_of (n := v + 1) (by omega) (by omega), wrap64_of (by omega) (by omega), wrapU64 (n := 0 - (v + 1)) (by omega) (by omega), wrapU64 (n := 2 * (0 - (v + 1))) (by omega) (by omega), wrapU64 (by omega) (by omega)]
    have : ((2 * (-(v + 1)) + 1).toNat : Int) = 2 * (0 - (v + 1)) + 1 := by omega
    rwa [this] at hk
theorem Int_ok {v : Int} {H : Heap} {K : ByteArray → Heap → Prop} (hv : I64 v) (hk : ∀ H', Fr [] H H' → K ⟨(intL v).toArray⟩ H') : CallH Tryz.prog fn_zig_Int ⟨[.int .i64 v]⟩ H fun w H' => ∃ s, w = .string s ∧ K s H' := by
  apply vc_zig_Int
  exact Fold_ok hv (Uint_ok (foldN_lt hv) fun H' hf => ⟨_, rfl, hk H' hf⟩)
theorem rInt_ok {v : Int} {H : Heap} {K : ByteArray → Heap → Prop} (hv : I64 v) (hk : ∀ H', Fr [] H H' → K ⟨(intL v).toArray⟩ H') : CallH Tryz.prog fn_ref01_Int ⟨[.int .i64 v]⟩ H fun w H' => ∃ s, w = .string s ∧ K s H' := by
  apply vc_ref01_Int
  exact rFold_ok hv (rUint_ok (foldN_lt hv) fun H' hf => ⟨_, rfl, hk H' hf⟩)
theorem and_one (n : Nat) (h : n < 18446744073709551616) : (BitVec.ofInt 64 (n : Int) &&& BitVec.ofInt 64 1).toNat = n % 2 := by
  have e : BitVec.ofInt 64 1 = 1#64 := by decide
  rw [e, BitVec.toNat_and, bvN h]
  show n &&& 1 = n % 2
  rw [Nat.and_one_is_mod]
theorem Unfold_ok {n : Nat} {H : Heap} {K : Int → Heap → Prop} (hn : n < 18446744073709551616) (hk : K (unfoldN n) H) : CallH Tryz.prog fn_zig_Unfold ⟨[.int .u64 n]⟩ H fun w H' => ∃ v, w = .int .i64 v ∧ K v H' := by
  apply vc_zig_Unfold
  refine ⟨_, rfl, ?_⟩
  unfold unfoldN at hk
  have e1 : Int.fdiv (n : Int) (2 ^ 1) = ((n / 2 : Nat) : Int) := by rw [Int.fdiv_eq_ediv_of_nonneg _ (by decide)]; omega
  rw [e1, and_one n hn, wrapU64 (n := ((n % 2 : Nat) : Int)) (by omega) (by omega), wrap64_of (n := ((n % 2 : Nat) : Int)) (by omega) (by omega), wrap64_of (n := ((n / 2 : Nat) : Int)) (by omega) (by omega)]
  by_cases h0 : n % 2 = 0
  · rw [if_pos h0] at hk
    rw [h0, wrap64_of (n := 0 - ((0 : Nat) : Int)) (by omega) (by omega)]
    show K (IntKind.i64.wrap ((BitVec.ofInt 64 ((n / 2 : Nat) : Int) ^^^ BitVec.ofInt 64 0).toNat : Nat)) H
    rw [xor_zero (by omega), wrap64_of (by omega) (by omega)]
    exact hk
  · rw [if_neg h0] at hk
    have e2 : n % 2 = 1 := by omega
    rw [e2, wrap64_of (n := 0 - ((1 : Nat) : Int)) (by omega) (by omega)]
    show K (IntKind.i64.wrap ((BitVec.ofInt 64 ((n / 2 : Nat) : Int) ^^^ BitVec.ofInt 64 (-1)).toNat : Nat)) H
    rw [xor_ones' (by omega), wrapI_big (by omega) (by omega)]
    have : ((18446744073709551615 - n / 2 : Nat) : Int) - 18446744073709551616 = -((n / 2 : Nat) : Int) - 1 := by omega
    rw [this]; exact hk
theorem GetInt_ok {s : ByteArray} {at' : Int} {H : Heap} {K : Int → Int → Int → Heap → Prop} (hs : s.size ≤ 100000000000) (hbad : ¬ (0 ≤ at' ∧ at' ≤ s.size) → K 0 0 1 H)
    (hk : ∀ a : Nat, at' = a → a ≤ s.size → ∀ (v : Nat) n e, GU ((bl s).drop a) a v n e → v < 18446744073709551616 → K (unfoldN v) n e H) :
    CallH Tryz.prog fn_zig_GetInt ⟨[.string s, .int .i64 at']⟩ H fun v H' => ∃ n m e, v = .tuple ⟨[.int .i64 n, .int .i64 m, .int .i64 e]⟩ ∧ K n m e H' := by
  apply vc_zig_GetInt
  refine GetUint_ok hs (fun h => ?_) fun a ea ha v n e hg => ?_
  · have := Unfold_ok (n := 0) (H := H) (K := fun w H' => K w 0 1 H') (by omega) (hbad h)
    exact this.mono fun v H' ⟨w, h1, h2⟩ => ⟨w, h1, _, _, _, rfl, h2⟩
  · obtain ⟨m, rfl, hm⟩ : ∃ m : Nat, v = m ∧ m < 18446744073709551616 := by
      rcases hg with ⟨m, h1, h2, _⟩ | ⟨h, _⟩ | ⟨h, _⟩
      · exact ⟨m, h1, h2⟩
      · exact ⟨0, h, by omega⟩
      · exact ⟨0, h, by omega⟩
    have := Unfold_ok (n := m) (H := H) (K := fun w H' => K w n e H') hm (hk a ea ha m n e hg hm)
    exact this.mono fun v H' ⟨w, h1, h2⟩ => ⟨w, h1, _, _, _, rfl, h2⟩
end Go.Proofs
set_option linter.unusedVariables false
set_option maxRecDepth 100000
open Go Go.GV
namespace Go.Proofs

abbrev Row := Int × Int × Int
def enc3 : Enc Row := ⟨fun x => [.int .i64 x.1, .int .i64 x.2.1, .int .i64 x.2.2], 3, fun _ => rfl, by decide, fun _ v h => by simp at h; rcases h with rfl | rfl | rfl <;> rfl⟩
abbrev Hd := Option Addr × Nat × Nat
structure Rc where
  k : Int
  l : Lbls
  rows : List Row
  tombs : List Row
  at' : Int
abbrev Rm := Int × Hd × Hd × Hd × Int
def rC (m : Rm) : List Value := [.int .i64 m.1, .slice m.2.1.1 m.2.1.2.1 m.2.1.2.2, .slice m.2.2.1.1 m.2.2.1.2.1 m.2.2.1.2.2, .slice m.2.2.2.1.1 m.2.2.2.1.2.1 m.2.2.2.1.2.2, .int .i64 m.2.2.2.2]
structure RcH (H : Heap) (m : Rm) (r : Rc) : Prop where
  k : m.1 = r.k
  l : Sl encL H m.2.1.1 m.2.1.2.1 m.2.1.2.2 r.l
  rows : Sl enc3 H m.2.2.1.1 m.2.2.1.2.1 m.2.2.1.2.2 r.rows
  tombs : Sl enc3 H m.2.2.2.1.1 m.2.2.2.1.2.1 m.2.2.2.1.2.2 r.tombs
  at' : m.2.2.2.2 = r.at'
theorem RcH.keep {H H' : Heap} {m : Rm} {r : Rc} (h : RcH H m r) (hf : Fr [] H H') : RcH H' m r := ⟨h.k, h.l.keep hf, h.rows.keep hf, h.tombs.keep hf, h.at'⟩
def RowP (x : Row) : Prop := (0 ≤ x.1 ∧ x.1 ≤ 1099511627776) ∧ 0 ≤ x.2.1 ∧ x.2.1 ≤ 199
def TombP (x : Row) : Prop := (0 ≤ x.1 ∧ x.1 ≤ 199) ∧ 0 ≤ x.2.1 ∧ x.2.1 < x.2.2 ∧ x.2.2 ≤ 1099511627776
instance (x : Row) : Decidable (RowP x) := inferInstanceAs (Decidable (_ ∧ _))
instance (x : Row) : Decidable (TombP x) := inferInstanceAs (Decidable (_ ∧ _))
structure FineP (r : Rc) : Prop where
  k : 0 ≤ r.k ∧ r.k ≤ 3
  l : r.l ≠ [] → r.k = 0
  rows : r.rows ≠ [] → r.k = 1
  tombs : r.tombs ≠ [] → r.k = 2
  at0 : r.at' ≠ 0 → r.k = 3
  at' : 0 ≤ r.at' ∧ r.at' ≤ 1099511627776
  nr : r.rows.length ≤ 5000
  nt : r.tombs.length ≤ 5000
  row : ∀ x ∈ r.rows, RowP x
  tomb : ∀ x ∈ r.tombs, TombP x
theorem within_ok {n most : Int} {H : Heap} {K : Bool → Heap → Prop} (hk : K (decide (0 ≤ n ∧ n ≤ most)) H) : CallH Tryz.prog fn_wal_within ⟨[.int .i64 n, .int .i64 most]⟩ H fun v H' => ∃ b, v = .bool b ∧ K b H' := by
  apply vc_wal_within
  refine brB_of (fun h => ⟨_, rfl, ?_⟩) (fun h => ⟨_, rfl, ?_⟩)
  · have h0 : 0 ≤ n := by simpa using h
    rwa [show decide (0 ≤ n ∧ n ≤ most) = decide (n ≤ most) from decide_eq_decide.2 ⟨fun h => h.2, fun h => ⟨h0, h⟩⟩] at hk
  · have h0 : ¬ 0 ≤ n := by simpa using h
    rwa [decide_eq_false fun h => h0 h.1] at hk
theorem _root_.Go.GV.Blk.r0 {H : Heap} {b : Nat} {m : Rm} (h : Blk H ⟨b, 0, none⟩ (rC m)) : Ld Tryz.prog 3 H ⟨b, 0, none⟩ (.int .i64 m.1) := h.ld0 (by kernel_rfl) rfl
theorem _root_.Go.GV.Blk.r1 {H : Heap} {b : Nat} {m : Rm} (h : Blk H ⟨b, 0, none⟩ (rC m)) : Ld Tryz.prog 35 H ⟨b, 1, none⟩ (.slice m.2.1.1 m.2.1.2.1 m.2.1.2.2) := h.ldK (j := 1) (by kernel_rfl) rfl
theorem _root_.Go.GV.Blk.r2 {H : Heap} {b : Nat} {m : Rm} (h : Blk H ⟨b, 0, none⟩ (rC m)) : Ld Tryz.prog 36 H ⟨b, 2, none⟩ (.slice m.2.2.1.1 m.2.2.1.2.1 m.2.2.1.2.2) := h.ldK (j := 2) (by kernel_rfl) rfl
theorem _root_.Go.GV.Blk.r3 {H : Heap} {b : Nat} {m : Rm} (h : Blk H ⟨b, 0, none⟩ (rC m)) : Ld Tryz.prog 37 H ⟨b, 3, none⟩ (.slice m.2.2.2.1.1 m.2.2.2.1.2.1 m.2.2.2.1.2.2) := h.ldK (j := 3) (by kernel_rfl) rfl
theorem _root_.Go.GV.Blk.r4 {H : Heap} {b : Nat} {m : Rm} (h : Blk H ⟨b, 0, none⟩ (rC m)) : Ld Tryz.prog 3 H ⟨b, 4, none⟩ (.int .i64 m.2.2.2.2) := h.ldK (j := 4) (by kernel_rfl) rfl
theorem _root_.Go.GV.Blk.i0 {H : Heap} {b : Nat} {x : Row} (h : Blk H ⟨b, 0, none⟩ (enc3.cells x)) : Ld Tryz.prog 3 H ⟨b, 0, none⟩ (.int .i64 x.1) := h.ld0 (by kernel_rfl) rfl
theorem _root_.Go.GV.Blk.i1 {H : Heap} {b : Nat} {x : Row} (h : Blk H ⟨b, 0, none⟩ (enc3.cells x)) : Ld Tryz.prog 3 H ⟨b, 1, none⟩ (.int .i64 x.2.1) := h.ldK (j := 1) (by kernel_rfl) rfl
theorem _root_.Go.GV.Blk.i2 {H : Heap} {b : Nat} {x : Row} (h : Blk H ⟨b, 0, none⟩ (enc3.cells x)) : Ld Tryz.prog 3 H ⟨b, 2, none⟩ (.int .i64 x.2.2) := h.ldK (j := 2) (by kernel_rfl) rfl
theorem ld58 {H : Heap} {ad : Addr} {x : Row} (h : CellsAt H ad (enc3.cells x)) : Ld Tryz.prog 111 H ad (.agg ⟨enc3.cells x⟩) := ld_agg (by kernel_rfl) (by kernel_rfl) h
theorem ld62 {H : Heap} {ad : Addr} {x : Row} (h : CellsAt H ad (enc3.cells x)) : Ld Tryz.prog 115 H ad (.agg ⟨enc3.cells x⟩) := ld_agg (by kernel_rfl) (by kernel_rfl) h
theorem var58 {H : Heap} {x : Row} {zs : List Value} {K : Nat → Heap → Prop} (hz : zs.length = 3)
    (k : ∀ b H', H.size ≤ b → Blk H' ⟨b, 0, none⟩ (enc3.cells x) → Fr [] H H' → K b H') :
    ∀ b H', New H b (.cells ⟨zs⟩ 111) H' → ∃ H'_1, St Tryz.prog 111 H' ⟨b, 0, none⟩ (.agg ⟨enc3.cells x⟩) H'_1 ∧ K b H'_1 :=
  var_blk (by kernel_rfl) (by kernel_rfl) (fun v h => by simp [Value.cells, enc3] at h; rcases h with rfl | rfl | rfl <;> rfl) hz k
theorem var62 {H : Heap} {x : Row} {zs : List Value} {K : Nat → Heap → Prop} (hz : zs.length = 3)
    (k : ∀ b H', H.size ≤ b → Blk H' ⟨b, 0, none⟩ (enc3.cells x) → Fr [] H H' → K b H') :
    ∀ b H', New H b (.cells ⟨zs⟩ 115) H' → ∃ H'_1, St Tryz.prog 115 H' ⟨b, 0, none⟩ (.agg ⟨enc3.cells x⟩) H'_1 ∧ K b H'_1 :=
  var_blk (by kernel_rfl) (by kernel_rfl) (fun v h => by simp [Value.cells, enc3] at h; rcases h with rfl | rfl | rfl <;> rfl) hz k

def Small (m : Rm) : Prop := m.2.1.2.1 ≤ 1000000000 ∧ m.2.2.1.2.1 ≤ 1000000000 ∧ m.2.2.2.1.2.1 ≤ 1000000000
theorem check_ok {H : Heap} {m : Rm} {r : Rc} {K : Bool → Heap → Prop} (h : RcH H m r) (hs : Small m) (hyes : FineP r → ∀ H', Fr [] H H' → K true H') (hno : ¬ FineP r → ∀ H', Fr [] H H' → K false H') :
    CallH Tryz.prog fn_wal_check ⟨[.agg ⟨rC m⟩]⟩ H fun v H' => ∃ b, v = .bool b ∧ K b H' := by
  apply vc_wal_check
  intro b H1 hn1
  have hb : Blk H1 ⟨b, 0, none⟩ (rC m) := hn1.blk
  have h1 := h.keep hn1.fr
  refine ⟨_, _, _, hb.r1, _, _, _, hb.r2, _, _, _, hb.r3, _, hb.r4, ?_⟩
  have hl1 := h.l.len
  have hl2 := h.rows.len
  have hl3 := h.tombs.len
  obtain ⟨s1, s2, s3⟩ := hs
  have bad : ∀ {H' : Heap}, Fr [] H H' → ¬ FineP r → ∃ b, Value.bool false = .bool b ∧ K b H' := fun hf hn => ⟨_, rfl, hno hn _ hf⟩
  intro b1 H2 hn2
  have st : ∀ {vs : List Value} {zs : List Value} {X : Heap → Prop}, H2 = H2 → vs.length = 4 → (∀ v ∈ vs, ∃ x, v = .bool x) → (∀ H', Fr [] H1 H' → Blk H' ⟨b1, 0, none⟩ vs → X H') → ∃ H', St Tryz.prog 156 H2 ⟨b1, 0, none⟩ (.agg ⟨vs⟩) H' ∧ X H' := fun {vs zs X} _ hv hvb hX => by
    refine hn2.blk.st0 (v := .agg ⟨vs⟩) (by show szOf Tryz.prog 156 = vs.length; rw [hv]; kernel_rfl) (by kernel_rfl) (fun x hx => ?_) (by show vs.length ≤ 4; omega) fun H' hb' hf' => hX H' (hn2.fr.keep hf' (fun k hk => by simp at hk; have := hn2.eq; omega)) ?_
    · have hx : x ∈ vs := by simpa [Value.cells] using hx
      obtain ⟨y, rfl⟩ := hvb x hx; rfl
    · have e : ((Value.agg ⟨vs⟩).cells.toList ++ [Value.bool false, .bool false, .bool false, .bool false].drop (Value.agg ⟨vs⟩).cells.toList.length) = vs := by
        show vs ++ [Value.bool false, .bool false, .bool false, .bool false].drop vs.length = vs
        rw [hv]; simp
      rw [e] at hb'; exact hb'
  refine st (zs := []) rfl rfl (fun v hv => by simp only [List.mem_cons, List.not_mem_nil, or_false] at hv; rcases hv with rfl | rfl | rfl | rfl <;> exact ⟨_, rfl⟩) fun H3 hf3 hb3 => ?_
  have hf03 := hn1.fr.keep0 hf3
  have hb0 := hb.keep hf3
  refine ⟨_, _, _, _, hb3.ldA0 (by kernel_rfl) (by kernel_rfl) rfl, ?_⟩
  have own : ∀ n : Nat, n < 4 → ∃ w, Pt Tryz.prog 4 [.bool (decide ((m.2.1.2.1 : Int) > 0)), .bool (decide ((m.2.2.1.2.1 : Int) > 0)), .bool (decide ((m.2.2.2.1.2.1 : Int) > 0)), .bool (m.2.2.2.2 != 0)] (Int.toNat (n : Int) * 1) (.bool w) ∧
      (w = true ↔ (n = 0 ∧ r.l ≠ []) ∨ (n = 1 ∧ r.rows ≠ []) ∨ (n = 2 ∧ r.tombs ≠ []) ∨ (n = 3 ∧ r.at' ≠ 0)) := fun n hn => by
    have e1 : ∀ {α : Type} {l : List α} {k : Nat}, k = l.length → (decide ((k : Int) > 0) = true ↔ l ≠ []) := fun {α l k} e => by
      cases l <;> simp at e <;> simp [e]
    match n, hn with
    | 0, _ => exact ⟨decide ((m.2.1.2.1 : Int) > 0), by unfold Pt; kernel_rfl, by rw [e1 hl1]; simp⟩
    | 1, _ => exact ⟨decide ((m.2.2.1.2.1 : Int) > 0), by unfold Pt; kernel_rfl, by rw [e1 hl2]; simp⟩
    | 2, _ => exact ⟨decide ((m.2.2.2.1.2.1 : Int) > 0), by unfold Pt; kernel_rfl, by rw [e1 hl3]; simp⟩
    | 3, _ => exact ⟨m.2.2.2.2 != 0, by unfold Pt; kernel_rfl, by rw [h.at']; simp⟩
  refine ⟨fun vs H' => match vs with | [.int _ i] => ∃ k : Nat, i = k ∧ k ≤ 4 ∧ (0 < k → r.l ≠ [] → r.k = 0) ∧ (1 < k → r.rows ≠ [] → r.k = 1) ∧ (2 < k → r.tombs ≠ [] → r.k = 2) ∧ (3 < k → r.at' ≠ 0 → r.k = 3) ∧ H' = H3 | _ => False,
    fun vs _ => match vs with | [.int _ i] => 4 - i.toNat | _ => 0, ⟨0, rfl, by omega, by omega, by omega, by omega, by omega, rfl⟩, ?_⟩
  rintro J i H4 ⟨k, rfl, hk4, g1, g2, g3, g4, rfl⟩
  refine brB_of (fun h0 => ?_) (fun h0 => ?_)
  · have h0' : k < 4 := by simp at h0; omega
    refine chk_true (decide_eq_true (by omega)) ?_
    obtain ⟨w, hw, hwi⟩ := own k h0'
    refine ⟨w, hw, ?_⟩
    rw [succ64 (by omega)]
    refine brB_of (fun h2 => ⟨_, hb0.r0, ?_⟩) (fun h2 => ?_)
    · have h2 := hwi.1 h2
      rw [h.k]
      refine brB_of (fun h3 => bad hf03 fun hF => ?_) (fun h3 => ⟨⟨k + 1, rfl, by omega, ?_, ?_, ?_, ?_, rfl⟩, mu_lt h0'⟩)
      · have h3 : (k : Int) ≠ r.k := by simpa using h3
        rcases h2 with ⟨e, h2⟩ | ⟨e, h2⟩ | ⟨e, h2⟩ | ⟨e, h2⟩
        · exact h3 (by rw [hF.l h2, e]; rfl)
        · exact h3 (by rw [hF.rows h2, e]; rfl)
        · exact h3 (by rw [hF.tombs h2, e]; rfl)
        · exact h3 (by rw [hF.at0 h2, e]; rfl)
      all_goals
        have h3 : (k : Int) = r.k := by simpa using h3
        intro hk hne
      · by_cases e : 0 < k
        · exact g1 e hne
        · omega
      · by_cases e : 1 < k
        · exact g2 e hne
        · omega
      · by_cases e : 2 < k
        · exact g3 e hne
        · omega
      · by_cases e : 3 < k
        · exact g4 e hne
        · omega
    · have h2 : ¬ w = true := by simpa using h2
      rw [hwi] at h2
      refine ⟨⟨k + 1, rfl, by omega, fun hk hne => ?_, fun hk hne => ?_, fun hk hne => ?_, fun hk hne => ?_, rfl⟩, mu_lt h0'⟩
      · by_cases e : 0 < k
        · exact g1 e hne
        · exact absurd (.inl ⟨by omega, hne⟩) h2
      · by_cases e : 1 < k
        · exact g2 e hne
        · exact absurd (.inr (.inl ⟨by omega, hne⟩)) h2
      · by_cases e : 2 < k
        · exact g3 e hne
        · exact absurd (.inr (.inr (.inl ⟨by omega, hne⟩))) h2
      · by_cases e : 3 < k
        · exact g4 e hne
        · exact absurd (.inr (.inr (.inr ⟨by omega, hne⟩))) h2
  have hk4' : k = 4 := by simp at h0; omega
  subst hk4'
  refine ⟨_, _, _, hb0.r2, ?_⟩
  refine ⟨fun vs H' => match vs with | [.int _ i] => ∃ k : Nat, i = k ∧ k ≤ m.2.2.1.2.1 ∧ (∀ x ∈ r.rows.take k, RowP x) ∧ Fr [] H4 H' | _ => False,
    fun vs _ => match vs with | [.int _ i] => m.2.2.1.2.1 - i.toNat | _ => 0, ⟨0, rfl, by omega, by simp, Fr.refl _ _⟩, ?_⟩
  rintro J i H5 ⟨k, rfl, hkn, hrow, hf5⟩
  refine brB_of (fun h0 => ?_) (fun h0 => ?_)
  · have h0' : k < m.2.2.1.2.1 := by simpa using h0
    have hx1 : r.rows[k]? = some (r.rows[k]'(by omega)) := by simp
    generalize r.rows[k]'(by omega) = x at hx1
    refine ((h.rows.keep hf03).keep hf5).get rfl hx1 (decide_eq_true (by omega)) fun ad ea hc => ⟨_, _, _, ld58 hc, ?_⟩
    refine var58 rfl fun bx H6 hbx hv hf6 => ⟨_, hv.i0, within_ok ?_⟩
    have hf06 := (hf03.keep0 hf5).keep0 hf6
    refine brB_of (fun h2 => bad hf06 fun hF => ?_) (fun h2 => ⟨_, hv.i1, within_ok (brB_of (fun h3 => bad hf06 fun hF => ?_) (fun h3 => ?_))⟩)
    · have := (hF.row x (List.mem_of_getElem? hx1)).1
      simp [this] at h2
    · have := (hF.row x (List.mem_of_getElem? hx1)).2
      simp [this] at h3
    · rw [succ64 (by omega)]
      refine ⟨⟨k + 1, rfl, by omega, fun y hy => ?_, hf5.keep0 hf6⟩, mu_lt h0'⟩
      rw [List.take_add_one, hx1] at hy
      rcases List.mem_append.1 hy with hy | hy
      · exact hrow y hy
      · simp at hy; subst hy
        exact ⟨of_decide_eq_true (by simpa using h2), of_decide_eq_true (by simpa using h3)⟩
  rw [List.take_of_length_le (by simp at h0; omega)] at hrow
  have hf05 := hf03.keep0 hf5
  have hb5 := hb0.keep hf5
  refine ⟨_, _, _, hb5.r3, ?_⟩
  refine ⟨fun vs H' => match vs with | [.int _ i] => ∃ k : Nat, i = k ∧ k ≤ m.2.2.2.1.2.1 ∧ (∀ x ∈ r.tombs.take k, TombP x) ∧ Fr [] H5 H' | _ => False,
    fun vs _ => match vs with | [.int _ i] => m.2.2.2.1.2.1 - i.toNat | _ => 0, ⟨0, rfl, by omega, by simp, Fr.refl _ _⟩, ?_⟩
  rintro J i H6 ⟨k, rfl, hkn, htomb, hf6⟩
  have hf06 := hf05.keep0 hf6
  refine brB_of (fun h0 => ?_) (fun h0 => ?_)
  · have h0' : k < m.2.2.2.1.2.1 := by simpa using h0
    have hx1 : r.tombs[k]? = some (r.tombs[k]'(by omega)) := by simp
    generalize r.tombs[k]'(by omega) = x at hx1
    have hmem := List.mem_of_getElem? hx1
    refine ⟨fun _ H' => Fr [] H6 H' ∧ TombP x, ?_, ?_⟩
    · refine (h.tombs.keep hf06).get rfl hx1 (decide_eq_true (by omega)) fun ad ea hc => ⟨_, _, _, ld62 hc, ?_⟩
      refine var62 rfl fun bx H7 hbx hv hf7 => ⟨_, hv.i0, within_ok ?_⟩
      have hf07 := hf06.keep0 hf7
      refine brB_of (fun h2 => bad hf07 fun hF => ?_) (fun h2 => ⟨_, hv.i1, brB_of (fun h3 => bad hf07 fun hF => ?_) (fun h3 => ⟨_, hv.i2, _, hv.i1, brB_of (fun h4 => bad hf07 fun hF => ?_) (fun h4 => ⟨_, hv.i2, brB_of (fun h5 => bad hf07 fun hF => ?_) (fun h5 => ⟨hf7, ?_⟩)⟩)⟩)⟩)
      · have := (hF.tomb x hmem).1
        simp [this] at h2
      · have := (hF.tomb x hmem).2.1
        simp at h3; omega
      · have := (hF.tomb x hmem).2.2.1
        simp at h4; omega
      · have := (hF.tomb x hmem).2.2.2
        simp at h5; omega
      · refine ⟨of_decide_eq_true (by simpa using h2), ?_, ?_, ?_⟩
        · simp at h3; omega
        · simp at h4; omega
        · simp at h5; omega
    · rintro J H7 ⟨hf7, hx⟩
      rw [succ64 (by omega)]
      refine ⟨⟨k + 1, rfl, by omega, fun y hy => ?_, hf6.keep0 hf7⟩, mu_lt h0'⟩
      rw [List.take_add_one, hx1] at hy
      rcases List.mem_append.1 hy with hy | hy
      · exact htomb y hy
      · simp at hy; subst hy; exact hx
  rw [List.take_of_length_le (by simp at h0; omega)] at htomb
  have hb6 := hb5.keep hf6
  refine ⟨_, hb6.r0, within_ok (brB_of (fun h2 => ⟨_, hb6.r4, within_ok (brB_of (fun h3 => ⟨_, _, _, hb6.r2, brB_of (fun h4 => ⟨_, _, _, hb6.r3, ?_⟩) (fun h4 => bad hf06 fun hF => ?_)⟩) (fun h3 => bad hf06 fun hF => ?_))⟩) (fun h2 => bad hf06 fun hF => ?_))⟩
  · have h2 := of_decide_eq_true h2
    have h3 := of_decide_eq_true h3
    have h4 : m.2.2.1.2.1 ≤ 5000 := by simp at h4; omega
    rw [h.k] at h2
    rw [h.at'] at h3
    by_cases h5 : m.2.2.2.1.2.1 ≤ 5000
    · rw [decide_eq_true (by omega)]
      exact ⟨_, rfl, hyes ⟨h2, g1 (by omega), g2 (by omega), g3 (by omega), g4 (by omega), h3, by omega, by omega, hrow, htomb⟩ _ hf06⟩
    · rw [decide_eq_false (by omega)]
      exact ⟨_, rfl, hno (fun hF => by have := hF.nt; omega) _ hf06⟩
  · have := hF.nr
    simp at h4; omega
  · have := hF.at'
    rw [h.at'] at h3
    exact absurd this (of_decide_eq_false h3)
  · have := hF.k
    rw [h.k] at h2
    exact absurd this (of_decide_eq_false h2)
end Go.Proofs
set_option linter.unusedVariables false
set_option maxRecDepth 100000
open Go Go.GV
namespace Go.Proofs

theorem app_mk (x y : List UInt8) : ((⟨x.toArray⟩ : ByteArray) ++ ⟨y.toArray⟩) = ⟨(x ++ y).toArray⟩ := by
  apply bl_inj
  rw [bl_app, bl_mk, bl_mk, bl_mk]
def pS (l : Lbls) : ByteArray := ⟨(printL l).toArray⟩
theorem bl_pS (l : Lbls) : bl (pS l) = printL l := by unfold pS; rw [bl_mk]
def U64 (v : Int) : Prop := 0 ≤ v ∧ v < 18446744073709551616
def uL (v : Int) : List UInt8 := uintL v.toNat
theorem uL_len {v : Int} (h : U64 v) : (uL v).length ≤ 10 := uintL_len10 (by unfold U64 at h; omega)
theorem uLs_len {xs : List Int} (h : ∀ x ∈ xs, U64 x) : (xs.flatMap uL).length ≤ 10 * xs.length := by
  induction xs with
  | nil => simp
  | cons x l ih =>
    have h1 := uL_len (h x (by simp))
    have h2 := ih fun y hy => h y (by simp [hy])
    simp only [List.flatMap_cons, List.length_append, List.length_cons]; omega
theorem numbers_ok {a : Option Addr} {n c : Nat} {xs : List Int} {H : Heap} {K : ByteArray → Heap → Prop} (hx : Sl encInt H a n c xs) (hn : n ≤ 1000) (hu : ∀ x ∈ xs, U64 x)
    (hk : ∀ H', Fr [] H H' → K ⟨(xs.flatMap uL).toArray⟩ H') :
    CallH Tryz.prog fn_wal_numbers ⟨[.slice a n c]⟩ H fun v H' => ∃ s, v = .string s ∧ K s H' := by
  apply vc_wal_numbers
  intro b H1 hn1
  have hbH := hn1.eq
  have hxl := hx.len
  have hbs := hn1.size
  refine ⟨fun vs H' => match vs with | [.int _ i] => ∃ (k : Nat) (S : List Nat), i = k ∧ k ≤ n ∧ BldH H' b S ((xs.take k).flatMap uL) ∧ (∀ j ∈ S, H.size ≤ j) ∧ Fr [] H H' | _ => False,
    fun vs _ => match vs with | [.int _ i] => n - i.toNat | _ => 0, ⟨0, [b], rfl, by omega, Bld.new hn1, fun j hj => by simp at hj; omega, hn1.fr⟩, ?_⟩
  rintro J i H2 ⟨k, S, rfl, hkn, hb, hS, hf⟩
  have hlen : ((xs.take k).flatMap uL).length ≤ 10 * k := by
    have := uLs_len (xs := xs.take k) fun x hx => hu x (List.mem_of_mem_take hx)
    rw [List.length_take] at this; omega
  refine brB_of (fun h0 => ?_) (fun h0 => ?_)
  · have h0' : k < n := by simpa using h0
    have hx1 : xs[k]? = some (xs[k]'(by omega)) := by simp
    generalize xs[k]'(by omega) = x at hx1
    have hux := hu x (List.mem_of_getElem? hx1)
    refine (hx.keep hf).get rfl hx1 (decide_eq_true (by omega)) fun ad ea hc => ⟨_, ld_one (by kernel_rfl) hc, ?_⟩
    obtain ⟨y, rfl⟩ : ∃ y : Nat, x = y := ⟨x.toNat, by have := hux.1; omega⟩
    have hy : y < 18446744073709551616 := by have := hux.2; omega
    rw [wrapU64 (n := (y : Int)) (by omega) (by omega)]
    refine Uint_ok hy fun H3 hf3 => ?_
    have hl1 := uintL_len10 hy
    have hsz := size_mk (uintL y)
    refine WriteString_ok (hb.keep hf3) (by omega) fun H4 S4 hb4 hf4 hg4 => ?_
    rw [succ64 (by omega)]
    refine ⟨⟨k + 1, S4, rfl, by omega, ?_, fun j hj => ?_, (hf.keep0 hf3).keep hf4 hS⟩, mu_lt h0'⟩
    · rw [List.take_add_one, hx1, List.flatMap_append]
      rw [bl_mk] at hb4
      simpa [uL] using hb4
    · rcases hg4 j hj with h | h
      · exact hS j h
      · have := hf.size; have := hf3.size; omega
  · rw [List.take_of_length_le (by simp at h0; omega)] at hb hlen
    exact BString_ok hb (by omega) fun H3 hf3 => ⟨_, rfl, hk H3 (hf.keep hf3 hS)⟩

def rowL (x : Row) : List UInt8 := uL x.1 ++ (uL x.2.1 ++ intL x.2.2)
def tombL (x : Row) : List UInt8 := uL x.1 ++ (uL x.2.1 ++ uL x.2.2)
def TypR (r : Rc) : Prop := ∀ x ∈ r.rows, I64 x.2.2
open Classical in
def bodyR (r : Rc) : List UInt8 := if r.k = 0 then textL (pS r.l) else if r.k = 1 then uintL r.rows.length ++ r.rows.flatMap rowL else if r.k = 2 then uintL r.tombs.length ++ r.tombs.flatMap tombL else uL r.at'
def encR (r : Rc) : List UInt8 := uL r.k ++ bodyR r
theorem rowL_len {x : Row} (h : RowP x) (h2 : I64 x.2.2) : (rowL x).length ≤ 30 := by
  unfold rowL
  have h1 := uL_len (v := x.1) ⟨h.1.1, by have := h.1.2; omega⟩
  have h3 := uL_len (v := x.2.1) ⟨h.2.1, by have := h.2.2; omega⟩
  have h4 : (intL x.2.2).length ≤ 10 := uintL_len10 (foldN_lt h2)
  simp only [List.length_append]; omega
theorem tombL_len {x : Row} (h : TombP x) : (tombL x).length ≤ 30 := by
  unfold tombL
  have h1 := uL_len (v := x.1) ⟨h.1.1, by have := h.1.2; omega⟩
  have h3 := uL_len (v := x.2.1) ⟨h.2.1, by have := h.2.2; omega⟩
  have h4 := uL_len (v := x.2.2) ⟨by have := h.2; omega, by have := h.2; omega⟩
  simp only [List.length_append]; omega
theorem flat30 {f : Row → List UInt8} {l : List Row} (h : ∀ x ∈ l, (f x).length ≤ 30) : (l.flatMap f).length ≤ 30 * l.length := by
  induction l with
  | nil => simp
  | cons x l ih =>
    have h1 := h x (by simp)
    have h2 := ih fun y hy => h y (by simp [hy])
    simp only [List.flatMap_cons, List.length_append, List.length_cons]; omega
def headF (f : Row → List UInt8) (l : List Row) (k : Nat) : List UInt8 := uintL l.length ++ (l.take k).flatMap f
theorem headF_len {f : Row → List UInt8} {l : List Row} (h : ∀ x ∈ l, (f x).length ≤ 30) (h2 : l.length ≤ 5000) (k : Nat) : (headF f l k).length ≤ 200000 := by
  unfold headF
  have h1 := uintL_len10 (n := l.length) (by omega)
  have h3 := flat30 (l := l.take k) fun x hx => h x (List.mem_of_mem_take hx)
  rw [List.length_take] at h3
  rw [List.length_append]; omega
theorem headF_snoc {f : Row → List UInt8} {l : List Row} {k : Nat} {x : Row} (h : l[k]? = some x) : headF f l (k + 1) = headF f l k ++ f x := by
  unfold headF
  rw [List.take_add_one, h]; simp
theorem headF_all {f : Row → List UInt8} {l : List Row} {k : Nat} (h : l.length ≤ k) : headF f l k = uintL l.length ++ l.flatMap f := by
  unfold headF; rw [List.take_of_length_le h]
theorem sl_ints {H H' : Heap} {b : Nat} {t : TypeId} (xs : List Int) {vs : List Value} (h : New H b (.cells ⟨vs⟩ t) H') (hv : vs = xs.map (Value.int .i64)) : Sl encInt H' (some ⟨b, 0, none⟩) xs.length xs.length xs := by
  refine ⟨rfl, Nat.le_refl _, .inr ⟨b, 0, rfl, fun i y hy j v hj => ?_⟩⟩
  have hj0 : j = 0 := by
    have : (encInt.cells y).length = 1 := rfl
    have := (List.getElem?_eq_some_iff.1 hj).1
    omega
  subst hj0
  have hv2 : v = .int .i64 y := by simpa [encInt] using hj.symm
  subst hv2
  rw [cell_of_blk h.get]
  subst hv
  have e : encInt.sz = 1 := rfl
  simp [e, hy]
theorem one_num {H : Heap} {v : Int} {K : ByteArray → Heap → Prop} (hu : U64 v) (hk : ∀ H', Fr [] H H' → K ⟨(uL v).toArray⟩ H') : ∀ b H1, New H b (.cells ⟨[.int .i64 v]⟩ 3) H1 → CallH Tryz.prog 53 ⟨[.slice (some ⟨b, 0, none⟩) 1 1]⟩ H1 fun v H' => ∃ s, v = .string s ∧ K s H' := fun b H1 hn1 =>
  numbers_ok (sl_one encInt v hn1 rfl) (by omega) (fun x hx => by simp at hx; subst hx; exact hu) fun H' hf => by
    have : [v].flatMap uL = uL v := by simp
    rw [this]; exact hk H' (hn1.fr.keep0 hf)
theorem forms1_ok {H : Heap} {b : Nat} {m : Rm} {r : Rc} {K : ByteArray → Int → Heap → Prop} (hb : Blk H ⟨b, 0, none⟩ (rC m)) (h : RcH H m r) (hs : Small m)
    (hno : ¬ ChkP r.l → ∀ s H', s.size ≤ 1000 → Fr [] H H' → K s 40 H') (hyes : ChkP r.l → ∀ H', Fr [] H H' → K ⟨(textL (pS r.l)).toArray⟩ 0 H') :
    CallH Tryz.prog fn_wal_forms_1 ⟨[.pointer (some ⟨b, 0, none⟩)]⟩ H fun v H' => ∃ s e, v = .tuple ⟨[.string s, .int .i64 e]⟩ ∧ K s e H' := by
  apply vc_wal_forms_1
  refine ⟨_, _, _, hb.r1, Print_ok h.l hs.1 (fun hC H1 hf1 => ?_) fun hC H1 hf1 => ?_⟩
  · refine Text_ok (s := ⟨#[]⟩) (by simp [ByteArray.size]) fun H2 hf2 => ⟨_, _, rfl, hno hC _ _ ?_ (hf1.keep0 hf2)⟩
    rw [size_mk]
    unfold textL
    rw [List.length_append, bl_len]
    have := uintL_len10 (n := (⟨#[]⟩ : ByteArray).size) (by simp [ByteArray.size])
    have e0 : (⟨#[]⟩ : ByteArray).size = 0 := rfl
    omega
  · have := printL_len hC
    have h2 := size_mk (printL r.l)
    exact Text_ok (by omega) fun H2 hf2 => ⟨_, _, rfl, hyes hC H2 (hf1.keep0 hf2)⟩
theorem forms7_ok {H : Heap} {b : Nat} {m : Rm} {r : Rc} {K : ByteArray → Int → Heap → Prop} (hb : Blk H ⟨b, 0, none⟩ (rC m)) (h : RcH H m r) (hF : FineP r)
    (hk : ∀ H', Fr [] H H' → K ⟨(uL r.at').toArray⟩ 0 H') :
    CallH Tryz.prog fn_wal_forms_7 ⟨[.pointer (some ⟨b, 0, none⟩)]⟩ H fun v H' => ∃ s e, v = .tuple ⟨[.string s, .int .i64 e]⟩ ∧ K s e H' := by
  apply vc_wal_forms_7
  refine ⟨_, hb.r4, ?_⟩
  rw [h.at']
  exact one_num ⟨hF.at'.1, by have := hF.at'.2; omega⟩ fun H' hf => ⟨_, _, rfl, hk H' hf⟩
theorem forms5_ok {H : Heap} {b : Nat} {m : Rm} {r : Rc} {K : ByteArray → Int → Heap → Prop} (hb : Blk H ⟨b, 0, none⟩ (rC m)) (h : RcH H m r) (hF : FineP r)
    (hk : ∀ H', Fr [] H H' → K ⟨(uintL r.tombs.length ++ r.tombs.flatMap tombL).toArray⟩ 0 H') :
    CallH Tryz.prog fn_wal_forms_5 ⟨[.pointer (some ⟨b, 0, none⟩)]⟩ H fun v H' => ∃ s e, v = .tuple ⟨[.string s, .int .i64 e]⟩ ∧ K s e H' := by
  apply vc_wal_forms_5
  have hl := h.tombs.len
  have hnt := hF.nt
  refine ⟨_, _, _, hb.r3, ?_⟩
  refine one_num ⟨by omega, by omega⟩ fun H1 hf1 => ?_
  have hb1 := hb.keep hf1
  refine ⟨_, _, _, hb1.r3, ?_⟩
  have hlen := headF_len (f := tombL) (l := r.tombs) (fun x hx => tombL_len (hF.tomb x hx)) hnt
  refine ⟨fun vs H' => match vs with
      | [.string s, .int _ i] => ∃ k : Nat, i = k ∧ k ≤ m.2.2.2.1.2.1 ∧ s = ⟨(headF tombL r.tombs k).toArray⟩ ∧ Fr [] H H'
      | _ => False,
    fun vs _ => match vs with | [_, .int _ i] => m.2.2.2.1.2.1 - i.toNat | _ => 0, ⟨0, rfl, by omega, by unfold headF uL; simp [hl], hf1⟩, ?_⟩
  rintro J s i H2 ⟨k, rfl, hle, rfl, hf2⟩
  refine brB_of (fun h0 => ?_) (fun h0 => ?_)
  · have h0' : k < m.2.2.2.1.2.1 := by simpa using h0
    have hx1 : r.tombs[k]? = some (r.tombs[k]'(by omega)) := by simp
    generalize r.tombs[k]'(by omega) = x at hx1
    have hT := hF.tomb x (List.mem_of_getElem? hx1)
    refine (h.tombs.keep hf2).get rfl hx1 (decide_eq_true (by omega)) fun ad ea hc => ⟨_, _, _, ld62 hc, ?_⟩
    refine var62 rfl fun bx H3 hbx hv hf3 => ⟨_, hv.i0, _, hv.i1, _, hv.i2, ?_⟩
    intro b4 H4 hn4
    have hs3 : Sl encInt H4 (some ⟨b4, 0, none⟩) 3 3 [x.1, x.2.1, x.2.2] := sl_ints [x.1, x.2.1, x.2.2] hn4 rfl
    refine numbers_ok hs3 (by omega) (fun y hy => ?_) fun H5 hf5 => ?_
    · simp at hy
      unfold U64
      have := hT.1; have := hT.2
      rcases hy with rfl | rfl | rfl <;> omega
    · have e : [x.1, x.2.1, x.2.2].flatMap uL = tombL x := by simp [tombL]
      rw [e]
      have h1 := hlen k
      have h2 := tombL_len hT
      have h3 := size_mk (headF tombL r.tombs k)
      have h4 := size_mk (tombL x)
      refine chk_true (decide_eq_true (by omega)) ⟨⟨k + 1, by rw [succ64 (by omega)], by omega, ?_, ((hf2.keep0 hf3).keep0 hn4.fr).keep0 hf5⟩, by rw [succ64 (by omega)]; exact mu_lt h0'⟩
      rw [app_mk, headF_snoc hx1]
  · rw [headF_all (by simp at h0; omega)]
    exact ⟨_, _, rfl, hk H2 hf2⟩
end Go.Proofs
set_option linter.unusedVariables false
set_option maxRecDepth 100000
open Go Go.GV
namespace Go.Proofs

theorem forms3_ok {H : Heap} {b : Nat} {m : Rm} {r : Rc} {K : ByteArray → Int → Heap → Prop} (hb : Blk H ⟨b, 0, none⟩ (rC m)) (h : RcH H m r) (hF : FineP r) (hT : TypR r)
    (hk : ∀ H', Fr [] H H' → K ⟨(uintL r.rows.length ++ r.rows.flatMap rowL).toArray⟩ 0 H') :
    CallH Tryz.prog fn_wal_forms_3 ⟨[.pointer (some ⟨b, 0, none⟩)]⟩ H fun v H' => ∃ s e, v = .tuple ⟨[.string s, .int .i64 e]⟩ ∧ K s e H' := by
  apply vc_wal_forms_3
  have hl := h.rows.len
  have hnt := hF.nr
  refine ⟨_, _, _, hb.r2, ?_⟩
  refine one_num ⟨by omega, by omega⟩ fun H1 hf1 => ?_
  have hb1 := hb.keep hf1
  refine ⟨_, _, _, hb1.r2, ?_⟩
  have hlen := headF_len (f := rowL) (l := r.rows) (fun x hx => rowL_len (hF.row x hx) (hT x hx)) hnt
  refine ⟨fun vs H' => match vs with
      | [.string s, .int _ i] => ∃ k : Nat, i = k ∧ k ≤ m.2.2.1.2.1 ∧ s = ⟨(headF rowL r.rows k).toArray⟩ ∧ Fr [] H H'
      | _ => False,
    fun vs _ => match vs with | [_, .int _ i] => m.2.2.1.2.1 - i.toNat | _ => 0, ⟨0, rfl, by omega, by unfold headF uL; simp [hl], hf1⟩, ?_⟩
  rintro J s i H2 ⟨k, rfl, hle, rfl, hf2⟩
  refine brB_of (fun h0 => ?_) (fun h0 => ?_)
  · have h0' : k < m.2.2.1.2.1 := by simpa using h0
    have hx1 : r.rows[k]? = some (r.rows[k]'(by omega)) := by simp
    generalize r.rows[k]'(by omega) = x at hx1
    have hR := hF.row x (List.mem_of_getElem? hx1)
    have hI := hT x (List.mem_of_getElem? hx1)
    refine (h.rows.keep hf2).get rfl hx1 (decide_eq_true (by omega)) fun ad ea hc => ⟨_, _, _, ld58 hc, ?_⟩
    refine var58 rfl fun bx H3 hbx hv hf3 => ⟨_, hv.i0, _, hv.i1, _, hv.i2, ?_⟩
    intro b4 H4 hn4
    have hs3 : Sl encInt H4 (some ⟨b4, 0, none⟩) 2 2 [x.1, x.2.1] := sl_ints [x.1, x.2.1] hn4 rfl
    have hv4 := hv.keep hn4.fr
    refine ⟨hv4.i2, numbers_ok hs3 (by omega) (fun y hy => ?_) fun H5 hf5 => ⟨(hv4.keep hf5).i2, Int_ok hI fun H6 hf6 => ?_⟩⟩
    · simp at hy
      unfold U64
      have := hR.1; have := hR.2
      rcases hy with rfl | rfl <;> omega
    · have e : [x.1, x.2.1].flatMap uL = uL x.1 ++ uL x.2.1 := by simp
      rw [e]
      have h1 := hlen k
      have h2 := rowL_len hR hI
      have h3 := size_mk (headF rowL r.rows k)
      have h4 := size_mk (uL x.1 ++ uL x.2.1)
      have h5 := size_mk (intL x.2.2)
      have h6 : (uL x.1 ++ uL x.2.1).length + (intL x.2.2).length = (rowL x).length := by unfold rowL; simp only [List.length_append]; omega
      refine chk_true (decide_eq_true (by omega)) (chk_true (decide_eq_true (by rw [size_app]; omega)) ⟨⟨k + 1, by rw [succ64 (by omega)], by omega, ?_, (((hf2.keep0 hf3).keep0 hn4.fr).keep0 hf5).keep0 hf6⟩, by rw [succ64 (by omega)]; exact mu_lt h0'⟩)
      rw [app_mk, app_mk, headF_snoc hx1]
      unfold rowL; simp
  · rw [headF_all (by simp at h0; omega)]
    exact ⟨_, _, rfl, hk H2 hf2⟩

theorem forms_ok {H : Heap} {K : Value → Value → Value → Value → Value → Value → Value → Value → Heap → Prop} (hk : ∀ H', Fr [] H H' → K (.func (.func 70) ⟨[]⟩ ⟨[]⟩) (.func (.func 72) ⟨[]⟩ ⟨[]⟩) (.func (.func 74) ⟨[]⟩ ⟨[]⟩) (.func (.func 76) ⟨[]⟩ ⟨[]⟩) (.func (.func 78) ⟨[]⟩ ⟨[]⟩) (.func (.func 79) ⟨[]⟩ ⟨[]⟩) (.func (.func 80) ⟨[]⟩ ⟨[]⟩) (.func (.func 81) ⟨[]⟩ ⟨[]⟩) H') :
    CallH Tryz.prog fn_wal_forms ⟨[]⟩ H fun v H' => ∃ v_1 v_2 v_3 v_4 v_5 v_6 v_7 v_8, v = .agg ⟨[v_1, v_2, v_3, v_4, v_5, v_6, v_7, v_8]⟩ ∧ K v_1 v_2 v_3 v_4 v_5 v_6 v_7 v_8 H' := by
  apply vc_wal_forms
  intro b H1 hn1
  refine hn1.blk.st0 (v := .agg ⟨_⟩) (by kernel_rfl) (by kernel_rfl) (fun x hx => ?_) (by simp [Value.cells]) fun H2 hb2 hf2 => ?_
  · simp [Value.cells] at hx
    rcases hx with rfl | rfl | rfl | rfl | rfl | rfl | rfl | rfl <;> rfl
  · have hb2' : Blk H2 ⟨b, 0, none⟩ [.func (.func 70) ⟨[]⟩ ⟨[]⟩, .func (.func 72) ⟨[]⟩ ⟨[]⟩, .func (.func 74) ⟨[]⟩ ⟨[]⟩, .func (.func 76) ⟨[]⟩ ⟨[]⟩, .func (.func 78) ⟨[]⟩ ⟨[]⟩, .func (.func 79) ⟨[]⟩ ⟨[]⟩, .func (.func 80) ⟨[]⟩ ⟨[]⟩, .func (.func 81) ⟨[]⟩ ⟨[]⟩] := by simpa [Value.cells] using hb2
    exact ⟨_, _, _, _, _, _, _, _, hb2'.ldA0 (by kernel_rfl) (by kernel_rfl) rfl, _, _, _, _, _, _, _, _, rfl, hk H2 (hn1.fr.keep hf2 (fun k hk => by simp at hk; have := hn1.eq; omega))⟩

theorem bodyR_len {r : Rc} (hF : FineP r) (hT : TypR r) (hC : r.k = 0 → ChkP r.l) : (bodyR r).length ≤ 200000 := by
  unfold bodyR
  split
  · rename_i h
    have := printL_len (hC h)
    unfold textL
    rw [List.length_append, bl_pS]
    have h2 : (pS r.l).size ≤ 700 := by rw [← bl_len, bl_pS]; exact this
    have := uintL_len10 (n := (pS r.l).size) (by omega)
    omega
  · split
    · have := headF_len (f := rowL) (l := r.rows) (fun x hx => rowL_len (hF.row x hx) (hT x hx)) hF.nr r.rows.length
      rwa [headF_all (Nat.le_refl _)] at this
    · split
      · have := headF_len (f := tombL) (l := r.tombs) (fun x hx => tombL_len (hF.tomb x hx)) hF.nt r.tombs.length
        rwa [headF_all (Nat.le_refl _)] at this
      · have := uL_len (v := r.at') ⟨hF.at'.1, by have := hF.at'.2; omega⟩
        omega

theorem deferred_ok {H : Heap} {b1 b2 : Nat} {s : ByteArray} {e : Int} {K : Value → Heap → Prop} (h1 : Blk H ⟨b1, 0, none⟩ [.string s]) (h2 : Blk H ⟨b2, 0, none⟩ [.int .i64 e]) (hne : b1 ≠ b2)
    (hk : ∀ H', Blk H' ⟨b1, 0, none⟩ [.string (if e = 0 then s else ⟨#[]⟩)] → Blk H' ⟨b2, 0, none⟩ [.int .i64 e] → Fr [b1] H H' → K (.tuple ⟨[]⟩) H') :
    CallDH Tryz.prog 52 ⟨[.pointer (some ⟨b2, 0, none⟩), .pointer (some ⟨b1, 0, none⟩)]⟩ H K := by
  apply vcD_wal_Encode_1
  refine ⟨_, h2.ld0 (by kernel_rfl) rfl, brB_of (fun h => ?_) (fun h => ?_)⟩
  · have h : e ≠ 0 := by simpa using h
    rw [if_neg h] at hk
    refine h1.st0 (v := .string ⟨#[]⟩) (by kernel_rfl) (by kernel_rfl) (fun x hx => by simp [Value.cells] at hx; subst hx; rfl) (by simp [Value.cells]) fun H' hb hf => hk H' hb (h2.fr hf (by simp; exact fun e => hne e.symm)) hf
  · have h : e = 0 := by simpa using h
    rw [if_pos h] at hk
    exact hk H h1 h2 (Fr.refl _ _)
end Go.Proofs
set_option linter.unusedVariables false
set_option maxRecDepth 100000
open Go Go.GV
namespace Go.Proofs

theorem st1 {P : Program} {t : TypeId} {H : Heap} {b : Nat} {v w : Value} {X : Heap → Prop} (h : Blk H ⟨b, 0, none⟩ [v]) (hs : szOf P t = w.cells.size) (hi : (P.info? t).isSome = true) (h1 : ∀ x ∈ w.cells.toList, x.oneCell' = true) (hw : w.cells.toList = [w])
    (k : ∀ H', Blk H' ⟨b, 0, none⟩ [w] → Fr [b] H H' → X H') : ∃ H', St P t H ⟨b, 0, none⟩ w H' ∧ X H' :=
  h.st0 (v := w) hs hi h1 (by have := congrArg List.length hw; simp at this; simp [this]) fun H' hb hf => k H' (by rw [hw] at hb; simpa using hb) hf
theorem Encode_ok {H : Heap} {m : Rm} {r : Rc} {K : ByteArray → Int → Heap → Prop} (h : RcH H m r) (hs : Small m) (hT : TypR r)
    (harg : ¬ FineP r → ∀ H', Fr [] H H' → K ⟨#[]⟩ 1 H') (hlab : FineP r → r.k = 0 → ¬ ChkP r.l → ∀ H', Fr [] H H' → K ⟨#[]⟩ 40 H')
    (hyes : FineP r → (r.k = 0 → ChkP r.l) → ∀ H', Fr [] H H' → K ⟨(encR r).toArray⟩ 0 H') :
    CallH Tryz.prog fn_wal_Encode ⟨[.agg ⟨rC m⟩]⟩ H fun v H' => ∃ s e, v = .tuple ⟨[.string s, .int .i64 e]⟩ ∧ K s e H' := by
  apply vc_wal_Encode
  intro b H1 hn1 b1 H2 hn2 b2 H3 hn3
  have q1 := hn1.eq
  have q2 := hn2.eq
  have q3 := hn3.eq
  have z1 := hn1.size
  have z2 := hn2.size
  have z3 := hn3.size
  have hb : Blk H3 ⟨b, 0, none⟩ (rC m) := (hn1.blk.keep hn2.fr).keep hn3.fr
  have h1 : Blk H3 ⟨b1, 0, none⟩ [.string ⟨#[]⟩] := hn2.blk.keep hn3.fr
  have h2 : Blk H3 ⟨b2, 0, none⟩ [.int .i64 0] := hn3.blk
  have hf3 : Fr [] H H3 := (hn1.fr.keep0 hn2.fr).keep0 hn3.fr
  have h3 := h.keep hf3
  have k1 : ∀ k ∈ [b1], H.size ≤ k := fun k hk => by simp at hk; omega
  have k2 : ∀ k ∈ [b2], H.size ≤ k := fun k hk => by simp at hk; omega
  refine ⟨_, _, _, _, _, _, _, _, _, _, _, hb.ldA0 (us := rC m) (by kernel_rfl) (by kernel_rfl) rfl, ?_⟩
  refine check_ok h3 hs (fun hF H4 hf4 => ?_) fun hF H4 hf4 => ?_
  rotate_left
  · -- not a record
    refine brB_of (fun _ => ?_) (fun h => by cases h)
    refine st1 (h1.keep hf4) (by kernel_rfl) (by kernel_rfl) (fun x hx => by simp [Value.cells] at hx; subst hx; rfl) rfl fun H5 g1 f5 => ?_
    refine st1 ((h2.keep hf4).fr f5 (by simp; omega)) (by kernel_rfl) (by kernel_rfl) (fun x hx => by simp [Value.cells] at hx; subst hx; rfl) rfl fun H6 g2 f6 => ?_
    refine deferred_ok (g1.fr f6 (by simp; omega)) g2 (by omega) fun H7 g3 g4 f7 => ⟨_, g3.ld0 (by kernel_rfl) rfl, _, g4.ld0 (by kernel_rfl) rfl, _, _, rfl, ?_⟩
    rw [if_neg (by decide)]
    exact harg hF H7 ((((hf3.keep0 hf4).keep f5 k1).keep f6 k2).keep f7 k1)
  have hb4 := hb.keep hf4
  have hf04 := hf3.keep0 hf4
  have hk := hF.k
  refine brB_of (fun h => by cases h) (fun _ => ⟨_, hb4.r0, forms_ok fun H5 hf5 => ?_⟩)
  have hb5 := hb4.keep hf5
  have hf05 := hf04.keep0 hf5
  have h5 := h.keep hf05
  refine ⟨hb5.r0, chk_true (decide_eq_true (by rw [h.k]; omega)) ?_⟩
  have tail : ∀ {s : ByteArray} {e : Int} {H' : Heap}, Fr [] H5 H' → s.size ≤ 300000 → (∀ H', Fr [] H H' → K (if e = 0 then ⟨(uL r.k).toArray⟩ ++ s else ⟨#[]⟩) e H') →
      ∃ H'_2, St Tryz.prog 28 H' ⟨b2, 0, none⟩ (.int .i64 e) H'_2 ∧ ∃ n, Ld Tryz.prog 3 H'_2 ⟨b, 0, none⟩ (.int .i64 n) ∧ ∃ n_5, Ld Tryz.prog 28 H'_2 ⟨b2, 0, none⟩ (.int .i64 n_5) ∧ ∀ (b : Nat) (H' : Heap), New H'_2 b (.cells ⟨[.int .i64 n]⟩ 3) H' → Ld Tryz.prog 28 H' ⟨b2, 0, none⟩ (.int .i64 n_5) ∧ CallH Tryz.prog 53 ⟨[.slice (some ⟨b, 0, none⟩) 1 1]⟩ H' fun v H' => ∃ s_2, v = .string s_2 ∧ Ld Tryz.prog 28 H' ⟨b2, 0, none⟩ (.int .i64 n_5) ∧
        chk (decide (ByteArray.size s_2 + ByteArray.size s ≤ 9223372036854775807)) (∃ H'_3, St Tryz.prog 9 H' ⟨b1, 0, none⟩ (.string (s_2 ++ s)) H'_3 ∧ Ld Tryz.prog 28 H'_3 ⟨b2, 0, none⟩ (.int .i64 n_5) ∧ ∃ H', St Tryz.prog 28 H'_3 ⟨b2, 0, none⟩ (.int .i64 n_5) H' ∧ CallDH Tryz.prog 52 ⟨[.pointer (some ⟨b2, 0, none⟩), .pointer (some ⟨b1, 0, none⟩)]⟩ H' fun x H'' => ∃ s, Ld Tryz.prog 9 H'' ⟨b1, 0, none⟩ (.string s) ∧ ∃ n, Ld Tryz.prog 28 H'' ⟨b2, 0, none⟩ (.int .i64 n) ∧ ∃ s_1 e, Value.tuple ⟨[.string s, .int .i64 n]⟩ = .tuple ⟨[.string s_1, .int .i64 e]⟩ ∧ K s_1 e H'') := by
    intro s e H6 hf6 hss hK
    have hf06 := hf05.keep0 hf6
    have g1 : Blk H6 ⟨b1, 0, none⟩ [.string ⟨#[]⟩] := ((h1.keep hf4).keep hf5).keep hf6
    have g2 : Blk H6 ⟨b2, 0, none⟩ [.int .i64 0] := ((h2.keep hf4).keep hf5).keep hf6
    refine st1 g2 (by kernel_rfl) (by kernel_rfl) (fun x hx => by simp [Value.cells] at hx; subst hx; rfl) rfl fun H7 g2 f7 => ?_
    have hb7 := (hb5.keep hf6).fr f7 (by simp; omega)
    have g1 := g1.fr f7 (by simp; omega)
    refine ⟨_, hb7.r0, _, g2.ld0 (by kernel_rfl) rfl, ?_⟩
    rw [h.k]
    intro b9 H8 hn8
    have g2 := g2.keep hn8.fr
    have g1 := g1.keep hn8.fr
    refine ⟨g2.ld0 (by kernel_rfl) rfl, ?_⟩
    refine numbers_ok (sl_one encInt r.k hn8 rfl) (by omega) (fun x hx => by simp at hx; subst hx; exact ⟨hk.1, by have := hk.2; omega⟩) fun H9 hf9 => ?_
    have g2 := g2.keep hf9
    have g1 := g1.keep hf9
    have eu : [r.k].flatMap uL = uL r.k := by simp
    rw [eu]
    have hul := uL_len (v := r.k) ⟨hk.1, by have := hk.2; omega⟩
    have hsz := size_mk (uL r.k)
    refine ⟨g2.ld0 (by kernel_rfl) rfl, chk_true (decide_eq_true (by omega)) ?_⟩
    refine st1 g1 (by kernel_rfl) (by kernel_rfl) (fun x hx => by simp [Value.cells] at hx; subst hx; rfl) rfl fun H10 g1 f10 => ?_
    have g2 := g2.fr f10 (by simp; omega)
    refine ⟨g2.ld0 (by kernel_rfl) rfl, ?_⟩
    refine st1 g2 (by kernel_rfl) (by kernel_rfl) (fun x hx => by simp [Value.cells] at hx; subst hx; rfl) rfl fun H11 g2 f11 => ?_
    refine deferred_ok (g1.fr f11 (by simp; omega)) g2 (by omega) fun H12 g3 g4 f12 => ⟨_, g3.ld0 (by kernel_rfl) rfl, _, g4.ld0 (by kernel_rfl) rfl, _, _, rfl, ?_⟩
    exact hK H12 ((((((hf06.keep f7 k2).keep0 hn8.fr).keep0 hf9).keep f10 k1).keep f11 k2).keep f12 k1)
  have yes : (r.k = 0 → ChkP r.l) → ∀ H', Fr [] H H' → K (⟨(uL r.k).toArray⟩ ++ ⟨(bodyR r).toArray⟩) 0 H' := fun hC H' hf' => by
    rw [app_mk]; exact hyes hF hC H' hf'
  have hbl := fun hC => bodyR_len hF hT hC
  have hbs := size_mk (bodyR r)
  rcases (by omega : r.k = 0 ∨ r.k = 1 ∨ r.k = 2 ∨ r.k = 3) with e | e | e | e
  · rw [h.k, e]
    refine ⟨.func (.func 70) ⟨[]⟩ ⟨[]⟩, .func (.func 72) ⟨[]⟩ ⟨[]⟩, by unfold Pt; kernel_rfl, 70, ⟨[]⟩, ⟨[]⟩, rfl, by kernel_rfl, ?_⟩
    refine forms1_ok hb5 h5 hs (fun hC s H6 hss hf6 => ?_) fun hC H6 hf6 => ?_
    · exact tail (s := s) (e := 40) hf6 (by omega) fun H' hf' => by rw [if_neg (by decide)]; exact hlab hF e hC H' hf'
    · have eb : bodyR r = textL (pS r.l) := by unfold bodyR; rw [if_pos e]
      rw [← eb]
      have := hbl fun _ => hC
      exact tail (s := ⟨(bodyR r).toArray⟩) (e := 0) hf6 (by omega) fun H' hf' => by rw [if_pos rfl]; exact yes (fun _ => hC) H' hf'
  · rw [h.k, e]
    refine ⟨.func (.func 74) ⟨[]⟩ ⟨[]⟩, .func (.func 76) ⟨[]⟩ ⟨[]⟩, by unfold Pt; kernel_rfl, 74, ⟨[]⟩, ⟨[]⟩, rfl, by kernel_rfl, ?_⟩
    refine forms3_ok hb5 h5 hF hT fun H6 hf6 => ?_
    have eb : bodyR r = uintL r.rows.length ++ r.rows.flatMap rowL := by unfold bodyR; rw [if_neg (by omega), if_pos e]
    rw [← eb]
    have := hbl fun h => by omega
    exact tail (s := ⟨(bodyR r).toArray⟩) (e := 0) hf6 (by omega) fun H' hf' => by rw [if_pos rfl]; exact yes (fun h => by omega) H' hf'
  · rw [h.k, e]
    refine ⟨.func (.func 78) ⟨[]⟩ ⟨[]⟩, .func (.func 79) ⟨[]⟩ ⟨[]⟩, by unfold Pt; kernel_rfl, 78, ⟨[]⟩, ⟨[]⟩, rfl, by kernel_rfl, ?_⟩
    refine forms5_ok hb5 h5 hF fun H6 hf6 => ?_
    have eb : bodyR r = uintL r.tombs.length ++ r.tombs.flatMap tombL := by unfold bodyR; rw [if_neg (by omega), if_neg (by omega), if_pos e]
    rw [← eb]
    have := hbl fun h => by omega
    exact tail (s := ⟨(bodyR r).toArray⟩) (e := 0) hf6 (by omega) fun H' hf' => by rw [if_pos rfl]; exact yes (fun h => by omega) H' hf'
  · rw [h.k, e]
    refine ⟨.func (.func 80) ⟨[]⟩ ⟨[]⟩, .func (.func 81) ⟨[]⟩ ⟨[]⟩, by unfold Pt; kernel_rfl, 80, ⟨[]⟩, ⟨[]⟩, rfl, by kernel_rfl, ?_⟩
    refine forms7_ok hb5 h5 hF fun H6 hf6 => ?_
    have eb : bodyR r = uL r.at' := by unfold bodyR; rw [if_neg (by omega), if_neg (by omega), if_neg (by omega)]
    rw [← eb]
    have := hbl fun h => by omega
    exact tail (s := ⟨(bodyR r).toArray⟩) (e := 0) hf6 (by omega) fun H' hf' => by rw [if_pos rfl]; exact yes (fun h => by omega) H' hf'
end Go.Proofs
set_option linter.unusedVariables false
set_option maxRecDepth 100000
open Go Go.GV
namespace Go.Proofs

theorem time_ok {n : Int} {H : Heap} {K : Bool → Heap → Prop} (hk : K (decide (0 ≤ n ∧ n ≤ 1099511627776)) H) : CallH Tryz.prog fn_ref11_time ⟨[.int .i64 n]⟩ H fun v H' => ∃ b, v = .bool b ∧ K b H' := by
  apply vc_ref11_time
  refine brB_of (fun h => ⟨_, rfl, ?_⟩) (fun h => ⟨_, rfl, ?_⟩)
  · have h0 : 0 ≤ n := by simpa using h
    rwa [show decide (0 ≤ n ∧ n ≤ 1099511627776) = decide (n ≤ 1099511627776) from decide_eq_decide.2 ⟨fun h => h.2, fun h => ⟨h0, h⟩⟩] at hk
  · have h0 : ¬ 0 ≤ n := by simpa using h
    rwa [decide_eq_false fun h => h0 h.1] at hk
theorem id_ok {n : Int} {H : Heap} {K : Bool → Heap → Prop} (hk : K (decide (0 ≤ n ∧ n ≤ 199)) H) : CallH Tryz.prog fn_ref11_id ⟨[.int .i64 n]⟩ H fun v H' => ∃ b, v = .bool b ∧ K b H' := by
  apply vc_ref11_id
  refine brB_of (fun h => ⟨_, rfl, ?_⟩) (fun h => ⟨_, rfl, ?_⟩)
  · have h0 : 0 ≤ n := by simpa using h
    rwa [show decide (0 ≤ n ∧ n ≤ 199) = decide (n < 200) from decide_eq_decide.2 ⟨fun h => by omega, fun h => by omega⟩] at hk
  · have h0 : ¬ 0 ≤ n := by simpa using h
    rwa [decide_eq_false fun h => h0 h.1] at hk
def GG (k : Int) (n1 n2 n3 : Nat) (t : Int) : Prop := (0 ≤ k ∧ k ≤ 3) ∧ (0 < n1 → k = 0) ∧ (0 < n2 → k = 1) ∧ (0 < n3 → k = 2) ∧ (t ≠ 0 → k = 3) ∧ (0 ≤ t ∧ t ≤ 1099511627776) ∧ n2 ≤ 5000 ∧ n3 ≤ 5000
instance (k : Int) (n1 n2 n3 : Nat) (t : Int) : Decidable (GG k n1 n2 n3 t) := by unfold GG; infer_instance
theorem gg_of {r : Rc} {m : Rm} {H : Heap} (h : RcH H m r) : FineP r ↔ GG m.1 m.2.1.2.1 m.2.2.1.2.1 m.2.2.2.1.2.1 m.2.2.2.2 ∧ (∀ x ∈ r.rows, RowP x) ∧ ∀ x ∈ r.tombs, TombP x := by
  have h1 := h.l.len
  have h2 := h.rows.len
  have h3 := h.tombs.len
  have e : ∀ {α : Type} {l : List α} {k : Nat}, k = l.length → (0 < k ↔ l ≠ []) := fun {α l k} e => by cases l <;> simp at e <;> simp [e]
  unfold GG
  rw [e h1, e h2, e h3, h.k, h.at', h2, h3]
  exact ⟨fun f => ⟨⟨f.k, f.l, f.rows, f.tombs, f.at0, f.at', f.nr, f.nt⟩, f.row, f.tomb⟩, fun ⟨⟨a, b, c, d, e, f, g, i⟩, j, k⟩ => ⟨a, b, c, d, e, f, g, i, j, k⟩⟩
theorem ldT0 {H : Heap} {ad : Addr} {x : Row} (h : CellsAt H ad (enc3.cells x)) : Ld Tryz.prog 3 H ad (.int .i64 x.1) := ld_cell (by kernel_rfl) (by have := h 0 _ rfl; simpa [Addr.add] using this)
theorem ldT1 {H : Heap} {ad : Addr} {x : Row} (h : CellsAt H ad (enc3.cells x)) : Ld Tryz.prog 3 H (ad.add 1) (.int .i64 x.2.1) := ld_part (by kernel_rfl) h (j := 1) rfl
theorem ldT2 {H : Heap} {ad : Addr} {x : Row} (h : CellsAt H ad (enc3.cells x)) : Ld Tryz.prog 3 H (ad.add 2) (.int .i64 x.2.2) := ld_part (by kernel_rfl) h (j := 2) rfl
set_option maxHeartbeats 4000000 in
theorem fine_ok {H : Heap} {m : Rm} {r : Rc} {K : Bool → Heap → Prop} (h : RcH H m r) (hs : Small m) (hyes : FineP r → ∀ H', Fr [] H H' → K true H') (hno : ¬ FineP r → ∀ H', Fr [] H H' → K false H') :
    CallH Tryz.prog fn_ref11_fine ⟨[.agg ⟨rC m⟩]⟩ H fun v H' => ∃ b, v = .bool b ∧ K b H' := by
  apply vc_ref11_fine
  intro b H1 hn1
  have hb : Blk H1 ⟨b, 0, none⟩ (rC m) := hn1.blk
  have hl2 := h.rows.len
  have hl3 := h.tombs.len
  have hgg := gg_of h
  obtain ⟨s1, s2, s3⟩ := hs
  have bad : ∀ {H' : Heap}, Fr [] H H' → ¬ FineP r → ∃ b, Value.bool false = .bool b ∧ K b H' := fun hf hn => ⟨_, rfl, hno hn _ hf⟩
  refine ⟨fun _ H' => H' = H1 ∧ GG m.1 m.2.1.2.1 m.2.2.1.2.1 m.2.2.2.1.2.1 m.2.2.2.2, ?_, ?_⟩
  · refine ⟨fun vs H' => vs = [.bool (!decide (GG m.1 m.2.1.2.1 m.2.2.1.2.1 m.2.2.2.1.2.1 m.2.2.2.2))] ∧ H' = H1, ?_, ?_⟩
    · have leaf : ∀ {x : Bool}, (x = !decide (GG m.1 m.2.1.2.1 m.2.2.1.2.1 m.2.2.2.1.2.1 m.2.2.2.2)) → ([Value.bool x] = [.bool (!decide (GG m.1 m.2.1.2.1 m.2.2.1.2.1 m.2.2.2.1.2.1 m.2.2.2.2))] ∧ H1 = H1) := fun e => ⟨by rw [e], rfl⟩
      have r0 := hb.r0
      have r1 := hb.r1
      have r2 := hb.r2
      have r3 := hb.r3
      have r4 := hb.r4
      clear hyes hno bad hgg h hl2 hl3 hn1 hb
      generalize m.1 = k at *
      generalize m.2.2.2.2 = t at *
      generalize m.2.1 = y1 at *
      generalize m.2.2.1 = y2 at *
      generalize m.2.2.2.1 = y3 at *
      obtain ⟨a1, n1, c1⟩ := y1
      obtain ⟨a2, n2, c2⟩ := y2
      obtain ⟨a3, n3, c3⟩ := y3
      dsimp only at *
      repeat' first
        | refine ⟨_, r0, ?_⟩
        | refine ⟨_, _, _, r1, ?_⟩
        | refine ⟨_, _, _, r2, ?_⟩
        | refine ⟨_, _, _, r3, ?_⟩
        | refine ⟨_, r4, ?_⟩
        | refine time_ok ?_
        | refine brB_of (fun hq => ?_) (fun hq => ?_)
        | exact leaf (by
            simp only [decide_eq_true_eq, decide_eq_false_iff_not, bne_iff_ne, ne_eq, bne_eq_false_iff_eq, Bool.not_eq_true', Bool.not_eq_false'] at *
            first
              | (rw [decide_eq_false (by unfold GG; omega)]; rfl)
              | (rw [← decide_not]; exact decide_eq_decide.2 (by unfold GG; omega)))
    · rintro J w H2 ⟨e, rfl⟩
      simp only [List.cons.injEq, Value.bool.injEq, and_true] at e
      subst e
      refine brB_of (fun h2 => bad hn1.fr fun hF => ?_) (fun h2 => ⟨rfl, ?_⟩)
      · have := (hgg.1 hF).1
        simp [this] at h2
      · simpa using h2
  rintro J H2 ⟨rfl, hG⟩
  have hf02 := hn1.fr
  refine ⟨fun vs H' => match vs with | [.int _ i] => ∃ k : Nat, i = k ∧ k ≤ m.2.2.1.2.1 ∧ (∀ x ∈ r.rows.take k, RowP x) ∧ H' = H2 | _ => False,
    fun vs _ => match vs with | [.int _ i] => m.2.2.1.2.1 - i.toNat | _ => 0, ⟨0, rfl, by omega, by simp, rfl⟩, ?_⟩
  rintro J i H5 ⟨k, rfl, hkn, hrow, rfl⟩
  refine ⟨_, _, _, hb.r2, brB_of (fun h0 => ?_) (fun h0 => ?_)⟩
  · have h0' : k < m.2.2.1.2.1 := by simpa using h0
    have hx1 : r.rows[k]? = some (r.rows[k]'(by omega)) := by simp
    generalize r.rows[k]'(by omega) = x at hx1
    refine ⟨_, _, _, hb.r2, (h.rows.keep hf02).get rfl hx1 (decide_eq_true (by omega)) fun ad ea hc => ⟨_, ldT0 hc, time_ok (brB_of (fun h2 => bad hf02 fun hF => ?_) (fun h2 => ⟨_, _, _, hb.r2, (h.rows.keep hf02).get rfl hx1 (decide_eq_true (by omega)) fun ad2 ea2 hc2 => ⟨_, ldT1 hc2, id_ok (brB_of (fun h3 => bad hf02 fun hF => ?_) (fun h3 => ?_))⟩⟩))⟩⟩
    · have := (hF.row x (List.mem_of_getElem? hx1)).1
      simp [this] at h2
    · have := (hF.row x (List.mem_of_getElem? hx1)).2
      simp [this] at h3
    · rw [succ64 (by omega)]
      refine ⟨⟨k + 1, rfl, by omega, fun y hy => ?_, rfl⟩, mu_lt h0'⟩
      rw [List.take_add_one, hx1] at hy
      rcases List.mem_append.1 hy with hy | hy
      · exact hrow y hy
      · simp at hy; subst hy
        exact ⟨of_decide_eq_true (by simpa using h2), of_decide_eq_true (by simpa using h3)⟩
  rw [List.take_of_length_le (by simp at h0; omega)] at hrow
  refine ⟨fun vs H' => match vs with | [.int _ i] => ∃ k : Nat, i = k ∧ k ≤ m.2.2.2.1.2.1 ∧ (∀ x ∈ r.tombs.take k, TombP x) ∧ Fr [] H5 H' | _ => False,
    fun vs _ => match vs with | [.int _ i] => m.2.2.2.1.2.1 - i.toNat | _ => 0, ⟨0, rfl, by omega, by simp, Fr.refl _ _⟩, ?_⟩
  rintro J i H6 ⟨k, rfl, hkn, htomb, hf6⟩
  have hf06 := hf02.keep0 hf6
  have hb6 := hb.keep hf6
  refine ⟨_, _, _, hb6.r3, brB_of (fun h0 => ?_) (fun h0 => ?_)⟩
  · have h0' : k < m.2.2.2.1.2.1 := by simpa using h0
    have hx1 : r.tombs[k]? = some (r.tombs[k]'(by omega)) := by simp
    generalize r.tombs[k]'(by omega) = x at hx1
    have hmem := List.mem_of_getElem? hx1
    refine ⟨fun _ H' => Fr [] H6 H' ∧ TombP x, ?_, ?_⟩
    · refine ⟨_, _, _, hb6.r3, (h.tombs.keep hf06).get rfl hx1 (decide_eq_true (by omega)) fun ad ea hc => ⟨_, _, _, ld62 hc, ?_⟩⟩
      refine var62 rfl fun bx H7 hbx hv hf7 => ⟨_, hv.i0, id_ok ?_⟩
      have hf07 := hf06.keep0 hf7
      refine brB_of (fun h2 => bad hf07 fun hF => ?_) (fun h2 => ⟨_, hv.i1, time_ok (brB_of (fun h3 => bad hf07 fun hF => ?_) (fun h3 => ⟨_, hv.i2, time_ok (brB_of (fun h4 => bad hf07 fun hF => ?_) (fun h4 => ⟨_, hv.i1, _, hv.i2, brB_of (fun h5 => bad hf07 fun hF => ?_) (fun h5 => ⟨hf7, ?_⟩)⟩))⟩))⟩)
      · have := (hF.tomb x hmem).1
        simp [this] at h2
      · have := (hF.tomb x hmem).2
        have h3 : ¬ (0 ≤ x.2.1 ∧ x.2.1 ≤ 1099511627776) := of_decide_eq_false (by simpa only [Bool.not_eq_true'] using h3)
        omega
      · have := (hF.tomb x hmem).2
        have h4 : ¬ (0 ≤ x.2.2 ∧ x.2.2 ≤ 1099511627776) := of_decide_eq_false (by simpa only [Bool.not_eq_true'] using h4)
        omega
      · have := (hF.tomb x hmem).2
        simp at h5; omega
      · have h2 := of_decide_eq_true (by simpa only [Bool.not_eq_false'] using h2)
        have h3 : 0 ≤ x.2.1 ∧ x.2.1 ≤ 1099511627776 := of_decide_eq_true (by simpa only [Bool.not_eq_false'] using h3)
        have h4 : 0 ≤ x.2.2 ∧ x.2.2 ≤ 1099511627776 := of_decide_eq_true (by simpa only [Bool.not_eq_false'] using h4)
        refine ⟨h2, h3.1, ?_, h4.2⟩
        simp at h5; omega
    · rintro J H7 ⟨hf7, hx⟩
      rw [succ64 (by omega)]
      refine ⟨⟨k + 1, rfl, by omega, fun y hy => ?_, hf6.keep0 hf7⟩, mu_lt h0'⟩
      rw [List.take_add_one, hx1] at hy
      rcases List.mem_append.1 hy with hy | hy
      · exact htomb y hy
      · simp at hy; subst hy; exact hx
  · rw [List.take_of_length_le (by simp at h0; omega)] at htomb
    exact ⟨_, rfl, hyes (hgg.2 ⟨hG, hrow, htomb⟩) _ hf06⟩
end Go.Proofs
set_option linter.unusedVariables false
set_option maxRecDepth 100000
open Go Go.GV
namespace Go.Proofs

theorem sl_cell {α : Type} {E : Enc α} {H : Heap} {a : Option Addr} {n c : Nat} {xs : List α} (h : Sl E H a n c xs) {k : Nat} {x : α} (hx : xs[k]? = some x) {ad : Addr} (ha : a = some ad) : CellsAt H (ad.add ((k : Int).toNat * E.sz)) (E.cells x) := by
  obtain ⟨bb, off, e, hc⟩ := h.arr.at hx
  rw [ha] at e
  cases e
  intro j v hv
  rw [Int.toNat_natCast, add_at, add_at]
  exact hc j v hv
theorem ldT3 {H : Heap} {ad : Addr} {x : Row} (h : CellsAt H ad (enc3.cells x)) : Ld Tryz.prog 3 H ((ad.add 1).add 1) (.int .i64 x.2.2) := by
  have := ldT2 h
  rwa [show (ad.add 1).add 1 = ad.add 2 by simp [Addr.add]]
theorem u_ok {v : Int} {H : Heap} {K : ByteArray → Heap → Prop} (hu : U64 v) (hk : ∀ H', Fr [] H H' → K ⟨(uL v).toArray⟩ H') : CallH Tryz.prog fn_ref11_u ⟨[.int .i64 v]⟩ H fun v H' => ∃ s, v = .string s ∧ K s H' := by
  apply vc_ref11_u
  obtain ⟨y, rfl⟩ : ∃ y : Nat, v = y := ⟨v.toNat, by have := hu.1; omega⟩
  have hy : y < 18446744073709551616 := by have := hu.2; omega
  rw [wrapU64 (n := (y : Int)) (by omega) (by omega)]
  exact rUint_ok hy fun H' hf => ⟨_, rfl, hk H' hf⟩
theorem rEncode_ok {H : Heap} {m : Rm} {r : Rc} {K : ByteArray → Int → Heap → Prop} (h : RcH H m r) (hs : Small m) (hT : TypR r)
    (harg : ¬ FineP r → ∀ H', Fr [] H H' → K ⟨#[]⟩ 1 H') (hlab : FineP r → r.k = 0 → ¬ ChkP r.l → ∀ H', Fr [] H H' → K ⟨#[]⟩ 40 H')
    (hyes : FineP r → (r.k = 0 → ChkP r.l) → ∀ H', Fr [] H H' → K ⟨(encR r).toArray⟩ 0 H') :
    CallH Tryz.prog fn_ref11_Encode ⟨[.agg ⟨rC m⟩]⟩ H fun v H' => ∃ s e, v = .tuple ⟨[.string s, .int .i64 e]⟩ ∧ K s e H' := by
  apply vc_ref11_Encode
  intro b H1 hn1
  have hb : Blk H1 ⟨b, 0, none⟩ (rC m) := hn1.blk
  have hf1 := hn1.fr
  refine ⟨_, _, _, _, _, _, _, _, _, _, _, hb.ldA0 (us := rC m) (by kernel_rfl) (by kernel_rfl) rfl, ?_⟩
  refine fine_ok (h.keep hf1) hs (fun hF H2 hf2 => ?_) fun hF H2 hf2 => ?_
  rotate_left
  · exact brB_of (fun _ => ⟨_, _, rfl, harg hF H2 (hf1.keep0 hf2)⟩) (fun h => by cases h)
  have hk := hF.k
  have hb2 := hb.keep hf2
  have hf02 := hf1.keep0 hf2
  refine brB_of (fun h => by cases h) (fun _ => ⟨_, hb2.r0, ?_⟩)
  rw [h.k]
  refine u_ok ⟨hk.1, by omega⟩ fun H3 hf3 => ?_
  have hb3 := hb2.keep hf3
  have hf03 := hf02.keep0 hf3
  have h3 := h.keep hf03
  have hul := uL_len (v := r.k) ⟨hk.1, by omega⟩
  have hsz := size_mk (uL r.k)
  have hl2 := h.rows.len
  have hl3 := h.tombs.len
  have hnr := hF.nr
  have hnt := hF.nt
  refine ⟨_, hb3.r0, ?_⟩
  rw [h.k]
  refine brB_of (fun e => ?_) (fun e0 => brB_of (fun e => ?_) (fun e1 => brB_of (fun e => ?_) (fun e2 => brB_of (fun e => ?_) (fun e3 => ?_))))
  · have e := eq_of_beq e
    have eb : bodyR r = textL (pS r.l) := by unfold bodyR; rw [if_pos e]
    refine ⟨_, _, _, hb3.r1, rPrint_ok h3.l (fun hC => ?_) fun hC => ?_⟩
    · exact brB_of (fun _ => ⟨_, _, rfl, hlab hF e hC H3 hf03⟩) (fun h => by simp at h)
    · refine brB_of (fun h => by simp at h) (fun _ => ?_)
      have := printL_len hC
      have h2 := size_mk (printL r.l)
      refine rText_ok (by omega) fun H4 hf4 => ?_
      have hbl := bodyR_len hF hT fun _ => hC
      have hbs := size_mk (bodyR r)
      rw [show (textL (⟨(printL r.l).toArray⟩ : ByteArray)) = bodyR r from eb.symm]
      refine chk_true (decide_eq_true (by omega)) ⟨_, _, rfl, ?_⟩
      rw [app_mk]
      exact hyes hF (fun _ => hC) H4 (hf03.keep0 hf4)
  · have e := eq_of_beq e
    have eb : bodyR r = uintL r.rows.length ++ r.rows.flatMap rowL := by unfold bodyR; rw [if_neg (by omega), if_pos e]
    have hlen := headF_len (f := rowL) (l := r.rows) (fun x hx => rowL_len (hF.row x hx) (hT x hx)) hnr
    refine ⟨_, _, _, hb3.r2, u_ok ⟨by omega, by omega⟩ fun H4 hf4 => ?_⟩
    have hul2 := uL_len (v := (m.2.2.1.2.1 : Int)) ⟨by omega, by omega⟩
    have hsz2 := size_mk (uL (m.2.2.1.2.1 : Int))
    refine chk_true (decide_eq_true (by omega)) ?_
    rw [app_mk]
    have e1 : uL (m.2.2.1.2.1 : Int) = headF rowL r.rows 0 := by unfold headF uL; simp [hl2]
    rw [e1]
    refine ⟨fun vs H' => match vs with
        | [.string s, .int _ i] => ∃ k : Nat, i = k ∧ k ≤ m.2.2.1.2.1 ∧ s = ⟨(uL r.k ++ headF rowL r.rows k).toArray⟩ ∧ Fr [] H3 H'
        | _ => False,
      fun vs _ => match vs with | [_, .int _ i] => m.2.2.1.2.1 - i.toNat | _ => 0, ⟨0, rfl, by omega, rfl, hf4⟩, ?_⟩
    rintro J s i H5 ⟨k, rfl, hle, rfl, hf5⟩
    have hb5 := hb3.keep hf5
    refine ⟨_, _, _, hb5.r2, brB_of (fun h0 => ?_) (fun h0 => ?_)⟩
    · have h0' : k < m.2.2.1.2.1 := by simpa using h0
      have hx1 : r.rows[k]? = some (r.rows[k]'(by omega)) := by simp
      generalize r.rows[k]'(by omega) = x at hx1
      have hR := hF.row x (List.mem_of_getElem? hx1)
      have hI := hT x (List.mem_of_getElem? hx1)
      have hX : ∀ {H' : Heap}, Fr [] H3 H' → Sl enc3 H' m.2.2.1.1 m.2.2.1.2.1 m.2.2.1.2.2 r.rows := fun hf => h3.rows.keep hf
      refine ⟨_, _, _, hb5.r2, (hX hf5).get rfl hx1 (decide_eq_true (by omega)) fun ad ea hc => ⟨_, ldT0 hc, _, _, _, hb5.r2, (hX hf5).get rfl hx1 (decide_eq_true (by omega)) fun ad1 ea1 hc1 => ⟨_, ldT1 hc1, _, _, _, hb5.r2, (hX hf5).get rfl hx1 (decide_eq_true (by omega)) fun ad2 ea2 hc2 => ⟨_, ldT2 hc2, ?_⟩⟩⟩⟩
      have u1 := uL_len (v := x.1) ⟨hR.1.1, by have := hR.1.2; omega⟩
      have u2 := uL_len (v := x.2.1) ⟨hR.2.1, by have := hR.2.2; omega⟩
      have u3 : (intL x.2.2).length ≤ 10 := uintL_len10 (foldN_lt hI)
      have w1 := size_mk (uL x.1)
      have w2 := size_mk (uL x.2.1)
      have w3 := size_mk (intL x.2.2)
      have w0 := size_mk (uL r.k ++ headF rowL r.rows k)
      have w4 := hlen k
      rw [List.length_append] at w0
      refine u_ok ⟨hR.1.1, by have := hR.1.2; omega⟩ fun H6 hf6 => ?_
      have hf36 := hf5.keep0 hf6
      have hb6 := hb3.keep hf36
      refine ⟨ldT2 (sl_cell (hX hf36) hx1 ea2), hb6.r2, ldT1 (sl_cell (hX hf36) hx1 ea1), hb6.r2, chk_true (decide_eq_true (by omega)) ?_⟩
      refine u_ok ⟨hR.2.1, by have := hR.2.2; omega⟩ fun H7 hf7 => ?_
      have hf37 := hf36.keep0 hf7
      have hb7 := hb3.keep hf37
      refine ⟨ldT2 (sl_cell (hX hf37) hx1 ea2), hb7.r2, chk_true (decide_eq_true (by rw [size_app]; omega)) ?_⟩
      refine rInt_ok hI fun H8 hf8 => ?_
      refine chk_true (decide_eq_true (by rw [size_app, size_app]; omega)) ⟨⟨k + 1, by rw [succ64 (by omega)], by omega, ?_, hf37.keep0 hf8⟩, by rw [succ64 (by omega)]; exact mu_lt h0'⟩
      rw [app_mk, app_mk, app_mk, headF_snoc hx1]
      unfold rowL; simp
    · rw [headF_all (by simp at h0; omega), ← eb]
      exact ⟨_, _, rfl, hyes hF (fun h => by omega) H5 (hf03.keep0 hf5)⟩
  · have e := eq_of_beq e
    have eb : bodyR r = uintL r.tombs.length ++ r.tombs.flatMap tombL := by unfold bodyR; rw [if_neg (by omega), if_neg (by omega), if_pos e]
    have hlen := headF_len (f := tombL) (l := r.tombs) (fun x hx => tombL_len (hF.tomb x hx)) hnt
    refine ⟨_, _, _, hb3.r3, u_ok ⟨by omega, by omega⟩ fun H4 hf4 => ?_⟩
    have hul2 := uL_len (v := (m.2.2.2.1.2.1 : Int)) ⟨by omega, by omega⟩
    have hsz2 := size_mk (uL (m.2.2.2.1.2.1 : Int))
    refine chk_true (decide_eq_true (by omega)) ?_
    rw [app_mk]
    have e1 : uL (m.2.2.2.1.2.1 : Int) = headF tombL r.tombs 0 := by unfold headF uL; simp [hl3]
    rw [e1]
    refine ⟨fun vs H' => match vs with
        | [.string s, .int _ i] => ∃ k : Nat, i = k ∧ k ≤ m.2.2.2.1.2.1 ∧ s = ⟨(uL r.k ++ headF tombL r.tombs k).toArray⟩ ∧ Fr [] H3 H'
        | _ => False,
      fun vs _ => match vs with | [_, .int _ i] => m.2.2.2.1.2.1 - i.toNat | _ => 0, ⟨0, rfl, by omega, rfl, hf4⟩, ?_⟩
    rintro J s i H5 ⟨k, rfl, hle, rfl, hf5⟩
    have hb5 := hb3.keep hf5
    refine ⟨_, _, _, hb5.r3, brB_of (fun h0 => ?_) (fun h0 => ?_)⟩
    · have h0' : k < m.2.2.2.1.2.1 := by simpa using h0
      have hx1 : r.tombs[k]? = some (r.tombs[k]'(by omega)) := by simp
      generalize r.tombs[k]'(by omega) = x at hx1
      have hR := hF.tomb x (List.mem_of_getElem? hx1)
      have hR2 := hR.2
      have hX : ∀ {H' : Heap}, Fr [] H3 H' → Sl enc3 H' m.2.2.2.1.1 m.2.2.2.1.2.1 m.2.2.2.1.2.2 r.tombs := fun hf => h3.tombs.keep hf
      refine ⟨_, _, _, hb5.r3, (hX hf5).get rfl hx1 (decide_eq_true (by omega)) fun ad ea hc => ⟨_, ldT0 hc, _, _, _, hb5.r3, (hX hf5).get rfl hx1 (decide_eq_true (by omega)) fun ad1 ea1 hc1 => ⟨_, ldT1 hc1, _, _, _, hb5.r3, (hX hf5).get rfl hx1 (decide_eq_true (by omega)) fun ad2 ea2 hc2 => ⟨_, ldT3 hc2, ?_⟩⟩⟩⟩
      have u1 := uL_len (v := x.1) ⟨hR.1.1, by have := hR.1.2; omega⟩
      have u2 := uL_len (v := x.2.1) ⟨by omega, by omega⟩
      have u3 := uL_len (v := x.2.2) ⟨by omega, by omega⟩
      have w1 := size_mk (uL x.1)
      have w2 := size_mk (uL x.2.1)
      have w3 := size_mk (uL x.2.2)
      have w0 := size_mk (uL r.k ++ headF tombL r.tombs k)
      have w4 := hlen k
      rw [List.length_append] at w0
      refine u_ok ⟨hR.1.1, by have := hR.1.2; omega⟩ fun H6 hf6 => ?_
      have hf36 := hf5.keep0 hf6
      have hb6 := hb3.keep hf36
      refine ⟨ldT3 (sl_cell (hX hf36) hx1 ea2), hb6.r3, ldT1 (sl_cell (hX hf36) hx1 ea1), hb6.r3, chk_true (decide_eq_true (by omega)) ?_⟩
      refine u_ok ⟨by omega, by omega⟩ fun H7 hf7 => ?_
      have hf37 := hf36.keep0 hf7
      have hb7 := hb3.keep hf37
      refine ⟨ldT3 (sl_cell (hX hf37) hx1 ea2), hb7.r3, chk_true (decide_eq_true (by rw [size_app]; omega)) ?_⟩
      refine u_ok ⟨by omega, by omega⟩ fun H8 hf8 => ?_
      refine chk_true (decide_eq_true (by rw [size_app, size_app]; omega)) ⟨⟨k + 1, by rw [succ64 (by omega)], by omega, ?_, hf37.keep0 hf8⟩, by rw [succ64 (by omega)]; exact mu_lt h0'⟩
      rw [app_mk, app_mk, app_mk, headF_snoc hx1]
      unfold tombL; simp
    · rw [headF_all (by simp at h0; omega), ← eb]
      exact ⟨_, _, rfl, hyes hF (fun h => by omega) H5 (hf03.keep0 hf5)⟩
  · have e := eq_of_beq e
    have eb : bodyR r = uL r.at' := by unfold bodyR; rw [if_neg (by omega), if_neg (by omega), if_neg (by omega)]
    refine ⟨_, hb3.r4, ?_⟩
    rw [h.at']
    refine u_ok ⟨hF.at'.1, by have := hF.at'.2; omega⟩ fun H4 hf4 => ?_
    have hbl := bodyR_len hF hT fun h => by omega
    have hbs := size_mk (bodyR r)
    rw [← eb]
    refine chk_true (decide_eq_true (by omega)) ⟨_, _, rfl, ?_⟩
    rw [app_mk]
    exact hyes hF (fun h => by omega) H4 (hf03.keep0 hf4)
  · exfalso
    have := ne_of_beq_false e0
    have := ne_of_beq_false e1
    have := ne_of_beq_false e2
    have := ne_of_beq_false e3
    omega
end Go.Proofs
set_option linter.unusedVariables false
set_option maxRecDepth 100000
open Go Go.GV
namespace Go.Proofs

def rdC (s : ByteArray) (p : Nat) (ok : Bool) : List Value := [.string s, .int .i64 p, .bool ok]
def NumR (s : ByteArray) (a : Nat) (ok : Bool) (most : Nat) (v : Int) (p : Nat) (ok' : Bool) : Prop :=
  (ok' = true ∧ ok = true ∧ ∃ n : Nat, v = n ∧ n ≤ most ∧ (bl s).drop a = uintL n ++ (bl s).drop p ∧ a < p ∧ p ≤ s.size) ∨ (ok' = false ∧ v = 0 ∧ p = a ∧ (ok = true → ∀ n, n ≤ most → ∀ t, (bl s).drop a ≠ uintL n ++ t))
theorem number_ok {H : Heap} {xb : Nat} {s : ByteArray} {a : Nat} {ok : Bool} {most : Nat} {K : Int → Heap → Prop} (hx : Blk H ⟨xb, 0, none⟩ (rdC s a ok)) (hs : s.size ≤ 100000000000) (ha : a ≤ s.size) (hm : most ≤ 9223372036854775807)
    (hk : ∀ H' v p ok', Blk H' ⟨xb, 0, none⟩ (rdC s p ok') → NumR s a ok most v p ok' → Fr [xb] H H' → K v H') :
    CallH Tryz.prog fn_wal_reader_number ⟨[.pointer (some ⟨xb, 0, none⟩), .int .i64 most]⟩ H fun v H' => ∃ n, v = .int .i64 n ∧ K n H' := by
  apply vc_wal_reader_number
  refine ⟨_, hx.ld0 (by kernel_rfl) rfl, _, hx.ld (by kernel_rfl) (j := 1) rfl, ?_⟩
  refine GetUint_ok hs (fun h => absurd ⟨by omega, by omega⟩ h) fun a' ea ha' v n e hg => ?_
  have ea : a' = a := by omega
  subst ea
  refine ⟨fun _ H' => H' = H ∧ ok = true ∧ e = 0 ∧ v ≤ most, ?_, ?_⟩
  · refine ⟨fun vs H' => H' = H ∧ ∃ w : Bool, vs = [.bool w] ∧ (w = true → ¬ (ok = true ∧ e = 0 ∧ v ≤ most)) ∧ (w = false → ok = true ∧ e = 0 ∧ v ≤ most), ?_, ?_⟩
    · refine ⟨_, hx.ld (by kernel_rfl) (j := 2) rfl, brB_of (fun h => ⟨rfl, true, rfl, fun _ hh => ?_, fun h => by cases h⟩) (fun h => brB_of (fun h2 => ⟨rfl, true, rfl, fun _ hh => ?_, fun h => by cases h⟩) (fun h2 => ⟨rfl, _, rfl, fun h3 hh => ?_, fun h3 => ?_⟩))⟩
      · rw [hh.1] at h; cases h
      · rw [hh.2.1] at h2; simp at h2
      · rw [wrapU64 (by omega) (by omega)] at h3
        have := of_decide_eq_true h3
        omega
      · rw [wrapU64 (by omega) (by omega)] at h3
        have := of_decide_eq_false h3
        exact ⟨by simpa using h, by simpa using h2, by omega⟩
    · rintro J w H1 ⟨rfl, w', e', h1, h2⟩
      simp only [List.cons.injEq, Value.bool.injEq, and_true] at e'
      subst e'
      refine brB_of (fun hw => ?_) (fun hw => ⟨rfl, h2 hw⟩)
      refine hx.st (j := 2) (v := .bool false) (by kernel_rfl) (by kernel_rfl) (fun x hx => by simp [Value.cells] at hx; subst hx; rfl) (by simp [Value.cells, rdC]) fun H2 hx2 hf2 => ⟨_, rfl, hk H2 0 a' false (by simpa [Value.cells, rdC] using hx2) (.inr ⟨rfl, rfl, rfl, fun hok n' hn' t ht => ?_⟩) hf2⟩
      obtain ⟨g1, _, g3⟩ := hg.of (by omega) ht
      exact h1 hw ⟨hok, g3, by omega⟩
  · rintro J H1 ⟨rfl, hok, rfl, hv⟩
    rcases hg with ⟨n', rfl, h1, h2, h3, rfl, _⟩ | ⟨_, _, h, _⟩ | ⟨_, _, h, _⟩
    · refine hx.st (j := 1) (v := .int .i64 ((a' + (uintL n').length : Nat) : Int)) (by kernel_rfl) (by kernel_rfl) (fun x hx => by simp [Value.cells] at hx; subst hx; rfl) (by simp [Value.cells, rdC]) fun H2 hx2 hf2 => ⟨_, rfl, ?_⟩
      rw [wrap64_of (by omega) (by omega)]
      have := uintL_pos n'
      rw [List.length_drop, bl_len] at h3
      refine hk H2 n' (a' + (uintL n').length) true (by subst hok; simpa [Value.cells, rdC] using hx2) (.inl ⟨rfl, hok, n', rfl, by omega, ?_, by omega, by omega⟩) hf2
      rw [List.drop_drop] at h2; exact h2
    · omega
    · omega
end Go.Proofs
set_option linter.unusedVariables false
set_option maxRecDepth 100000
open Go Go.GV
namespace Go.Proofs

def ValR (s : ByteArray) (a : Nat) (ok : Bool) (v : Int) (p : Nat) (ok' : Bool) : Prop :=
  (ok' = true ∧ ok = true ∧ I64 v ∧ (bl s).drop a = intL v ++ (bl s).drop p ∧ a < p ∧ p ≤ s.size) ∨ (ok' = false ∧ v = 0 ∧ p = a ∧ (ok = true → ∀ v, I64 v → ∀ t, (bl s).drop a ≠ intL v ++ t))
theorem rvalue_ok {H : Heap} {xb : Nat} {s : ByteArray} {a : Nat} {ok : Bool} {K : Int → Heap → Prop} (hx : Blk H ⟨xb, 0, none⟩ (rdC s a ok)) (hs : s.size ≤ 100000000000) (ha : a ≤ s.size)
    (hk : ∀ H' v p ok', Blk H' ⟨xb, 0, none⟩ (rdC s p ok') → ValR s a ok v p ok' → Fr [xb] H H' → K v H') :
    CallH Tryz.prog fn_wal_reader_value ⟨[.pointer (some ⟨xb, 0, none⟩)]⟩ H fun v H' => ∃ n, v = .int .i64 n ∧ K n H' := by
  apply vc_wal_reader_value
  refine ⟨_, hx.ld0 (by kernel_rfl) rfl, _, hx.ld (by kernel_rfl) (j := 1) rfl, ?_⟩
  refine GetInt_ok hs (fun h => absurd ⟨by omega, by omega⟩ h) fun a' ea ha' w n e hg hw => ?_
  have ea : a' = a := by omega
  subst ea
  have bad : ¬ (ok = true ∧ e = 0) → ∃ H'_1, St Tryz.prog 4 H (Addr.add ⟨xb, 0, none⟩ 2) (.bool false) H'_1 ∧ ∃ n, Value.int .i64 0 = .int .i64 n ∧ K n H'_1 := fun hn =>
    hx.st (j := 2) (v := .bool false) (by kernel_rfl) (by kernel_rfl) (fun x hx => by simp [Value.cells] at hx; subst hx; rfl) (by simp [Value.cells, rdC]) fun H2 hx2 hf2 => ⟨_, rfl, hk H2 0 a' false (by simpa [Value.cells, rdC] using hx2) (.inr ⟨rfl, rfl, rfl, fun hok v' hv' t ht => by
      obtain ⟨_, _, g3⟩ := hg.of (foldN_lt hv') ht
      exact hn ⟨hok, g3⟩⟩) hf2⟩
  refine ⟨_, hx.ld (by kernel_rfl) (j := 2) rfl, brB_of (fun h => bad fun hh => ?_) (fun h => brB_of (fun h2 => bad fun hh => ?_) (fun h2 => ?_))⟩
  · rw [hh.1] at h; cases h
  · rw [hh.2] at h2; simp at h2
  have hok : ok = true := by simpa using h
  have he : e = 0 := by simpa using h2
  subst he
  rcases hg with ⟨n', e1, h1, h2, h3, rfl, _⟩ | ⟨_, _, h, _⟩ | ⟨_, _, h, _⟩
  · have e1 : w = n' := by omega
    subst e1
    refine hx.st (j := 1) (v := .int .i64 ((a' + (uintL w).length : Nat) : Int)) (by kernel_rfl) (by kernel_rfl) (fun x hx => by simp [Value.cells] at hx; subst hx; rfl) (by simp [Value.cells, rdC]) fun H2 hx2 hf2 => ⟨_, rfl, ?_⟩
    have := uintL_pos w
    rw [List.length_drop, bl_len] at h3
    refine hk H2 (unfoldN w) (a' + (uintL w).length) true (by subst hok; simpa [Value.cells, rdC] using hx2) (.inl ⟨rfl, hok, unfold_64 h1, ?_, by omega, by omega⟩) hf2
    unfold intL
    rw [fold_unfold]
    rw [List.drop_drop] at h2; exact h2
  · omega
  · omega
end Go.Proofs
set_option linter.unusedVariables false
set_option maxRecDepth 100000
open Go Go.GV
namespace Go.Proofs

def RdG {α : Type} (s : ByteArray) (a : Nat) (ok : Bool) (f : α → List UInt8) (G : α → Prop) (x : α) (p : Nat) (ok' : Bool) : Prop :=
  p ≤ s.size ∧ (ok' = true → ok = true ∧ (bl s).drop a = f x ++ (bl s).drop p) ∧ (ok = true → ∀ y t, G y → (bl s).drop a = f y ++ t → ok' = true ∧ y = x ∧ t = (bl s).drop p)
theorem RdG.weak {α : Type} {s : ByteArray} {a : Nat} {ok : Bool} {f : α → List UInt8} {G G' : α → Prop} {x : α} {p : Nat} {ok' : Bool} (h : RdG s a ok f G x p ok') (hg : ∀ y, G' y → G y) : RdG s a ok f G' x p ok' :=
  ⟨h.1, h.2.1, fun ho y t hy e => h.2.2 ho y t (hg y hy) e⟩
theorem RdG.pair {α β : Type} {s : ByteArray} {a p q : Nat} {ok ok' ok'' : Bool} {f : α → List UInt8} {g : β → List UInt8} {G : α → Prop} {G2 : β → Prop} {x : α} {y : β} (h : RdG s a ok f G x p ok') (h' : RdG s p ok' g G2 y q ok'') :
    RdG s a ok (fun z : α × β => f z.1 ++ g z.2) (fun z => G z.1 ∧ G2 z.2) (x, y) q ok'' := by
  refine ⟨h'.1, fun ho => ?_, fun ho z t hz e => ?_⟩
  · obtain ⟨h1, h2⟩ := h'.2.1 ho
    obtain ⟨h3, h4⟩ := h.2.1 h1
    exact ⟨h3, by rw [h4, h2, List.append_assoc]⟩
  · rw [List.append_assoc] at e
    obtain ⟨h1, h2, h3⟩ := h.2.2 ho z.1 _ hz.1 e
    obtain ⟨h4, h5, h6⟩ := h'.2.2 h1 z.2 t hz.2 h3.symm
    exact ⟨h4, by rw [← h2, ← h5], h6⟩
theorem NumR.rd {s : ByteArray} {a p most : Nat} {ok ok' : Bool} {v : Int} (ha : a ≤ s.size) (h : NumR s a ok most v p ok') : RdG s a ok uL (fun v => 0 ≤ v ∧ v ≤ most) v p ok' ∧ (0 ≤ v ∧ v ≤ most) := by
  rcases h with ⟨rfl, rfl, n, rfl, h1, h2, h3, h4⟩ | ⟨rfl, rfl, rfl, h⟩
  · refine ⟨⟨h4, fun _ => ⟨rfl, by rw [h2]; simp [uL]⟩, fun _ y t hy e => ?_⟩, by omega, by omega⟩
    rw [h2] at e
    obtain ⟨e1, e2⟩ := uint_eq (show uintL n ++ (bl s).drop p = uintL y.toNat ++ t from e)
    exact ⟨rfl, by omega, e2.symm⟩
  · exact ⟨⟨ha, (fun h => by cases h), fun ho y t hy e => absurd e (h ho y.toNat (by omega) t)⟩, by omega, by omega⟩
theorem intL_eq {v w : Int} {x y : List UInt8} (e : intL v ++ x = intL w ++ y) : v = w ∧ x = y := by
  obtain ⟨e1, e2⟩ := uint_eq (show uintL (foldN v) ++ x = uintL (foldN w) ++ y from e)
  exact ⟨by rw [← unfold_fold v, e1, unfold_fold], e2⟩
theorem ValR.rd {s : ByteArray} {a p : Nat} {ok ok' : Bool} {v : Int} (ha : a ≤ s.size) (h : ValR s a ok v p ok') : RdG s a ok intL I64 v p ok' ∧ I64 v := by
  rcases h with ⟨rfl, rfl, h1, h2, h3, h4⟩ | ⟨rfl, rfl, rfl, h⟩
  · refine ⟨⟨h4, fun _ => ⟨rfl, h2⟩, fun _ y t hy e => ?_⟩, h1⟩
    rw [h2] at e
    obtain ⟨e1, e2⟩ := intL_eq e
    exact ⟨rfl, e1.symm, e2.symm⟩
  · exact ⟨⟨ha, (fun h => by cases h), fun ho y t hy e => absurd e (h ho y hy t)⟩, by unfold I64; omega⟩

def RdL {α : Type} (s : ByteArray) (f : α → List UInt8) (G : α → Prop) (N a p : Nat) (M : List α) (ok : Bool) : Prop :=
  p ≤ s.size ∧ (ok = true → M.length ≤ N ∧ (bl s).drop a = M.flatMap f ++ (bl s).drop p) ∧ (∀ L t, L.length = N → (∀ y ∈ L, G y) → (bl s).drop a = L.flatMap f ++ t → ok = true ∧ ∃ R, L = M ++ R ∧ (bl s).drop p = R.flatMap f ++ t)
theorem RdL.start {α : Type} {s : ByteArray} {f : α → List UInt8} {G : α → Prop} {N a : Nat} (ha : a ≤ s.size) : RdL s f G N a a [] true :=
  ⟨ha, fun _ => ⟨Nat.zero_le _, by simp⟩, fun L t _ _ e => ⟨rfl, L, rfl, e⟩⟩
theorem RdL.step {α : Type} {s : ByteArray} {f : α → List UInt8} {G : α → Prop} {N a p p' : Nat} {M : List α} {ok ok' : Bool} {x : α} (h : RdL s f G N a p M ok) (hM : M.length < N) (h' : RdG s p ok f G x p' ok') : RdL s f G N a p' (M ++ [x]) ok' := by
  refine ⟨h'.1, fun ho => ?_, fun L t hL hG e => ?_⟩
  · obtain ⟨h1, h2⟩ := h'.2.1 ho
    obtain ⟨h3, h4⟩ := h.2.1 h1
    exact ⟨by simp; omega, by rw [h4, h2]; simp⟩
  · obtain ⟨h1, R, rfl, h3⟩ := h.2.2 L t hL hG e
    cases R with
    | nil => simp at hL; omega
    | cons y R =>
      rw [List.flatMap_cons, List.append_assoc] at h3
      obtain ⟨h4, h5, h6⟩ := h'.2.2 h1 y _ (hG y (by simp)) h3
      exact ⟨h4, R, by rw [h5]; simp, h6.symm⟩
theorem RdL.done {α : Type} {s : ByteArray} {f : α → List UInt8} {G : α → Prop} {N a p : Nat} {M : List α} {ok : Bool} (h : RdL s f G N a p M ok) (hM : ok = true → N ≤ M.length) : RdG s a true (fun L => L.flatMap f) (fun L => L.length = N ∧ ∀ y ∈ L, G y) M p ok ∧ (ok = true → M.length = N) := by
  refine ⟨⟨h.1, fun ho => ⟨rfl, (h.2.1 ho).2⟩, fun _ L t hL e => ?_⟩, fun ho => by have := (h.2.1 ho).1; have := hM ho; omega⟩
  obtain ⟨h1, R, rfl, h3⟩ := h.2.2 L t hL.1 hL.2 e
  have := hM h1
  have hl := hL.1
  rw [List.length_append] at hl
  have : R = [] := List.eq_nil_of_length_eq_zero (by omega)
  subst this
  exact ⟨h1, by simp, by simpa using h3.symm⟩
theorem RdG.list {α : Type} {s : ByteArray} {f : α → List UInt8} {G : α → Prop} {n : Int} {N most a p q : Nat} {M : List α} {ok ok' ok'' : Bool} (e : n = N) (h : RdG s a ok uL (fun v => 0 ≤ v ∧ v ≤ most) n p ok')
    (h' : ok' = true → RdG s p true (fun L => L.flatMap f) (fun L => L.length = N ∧ ∀ y ∈ L, G y) M q ok'' ∧ (ok'' = true → M.length = N)) (hno : ok' = false → ok'' = false ∧ q ≤ s.size) :
    RdG s a ok (fun L => uintL L.length ++ L.flatMap f) (fun L => L.length ≤ most ∧ ∀ y ∈ L, G y) M q ok'' := by
  subst e
  cases ok' with
  | false =>
    obtain ⟨rfl, hq⟩ := hno rfl
    refine ⟨hq, (fun h => by cases h), fun ho y t hy e => ?_⟩
    rw [List.append_assoc] at e
    obtain ⟨h1, _⟩ := h.2.2 ho (y.length : Int) _ ⟨by omega, by omega⟩ (by simpa [uL] using e)
    cases h1
  | true =>
    obtain ⟨h1, h2⟩ := h' rfl
    refine ⟨h1.1, fun ho => ?_, fun ho y t hy e => ?_⟩
    · obtain ⟨_, h3⟩ := h1.2.1 ho
      obtain ⟨h4, h5⟩ := h.2.1 rfl
      refine ⟨h4, ?_⟩
      show _ = (uintL M.length ++ M.flatMap f) ++ _
      rw [h5, h3, h2 ho, List.append_assoc]; simp [uL]
    · rw [List.append_assoc] at e
      obtain ⟨_, h3, h4⟩ := h.2.2 ho (y.length : Int) _ ⟨by omega, by omega⟩ (by simpa [uL] using e)
      obtain ⟨h5, h6, h7⟩ := h1.2.2 rfl y t ⟨by omega, hy.2⟩ h4.symm
      exact ⟨h5, h6, h7⟩

structure GoodR (r : Rc) : Prop where
  fine : FineP r
  typ : TypR r
  chk : r.k = 0 → ChkP r.l
def m0 (k : Int) : Rm := (k, (none, 0, 0), (none, 0, 0), (none, 0, 0), 0)
structure Took (H : Heap) (m : Rm) (s : ByteArray) (a : Nat) (k : Int) (r : Rc) (p : Nat) (ok : Bool) : Prop where
  h : RcH H m r
  kind : r.k = k
  typ : TypR r
  small : Small m
  rd : RdG s a true bodyR (fun y => GoodR y ∧ y.k = k) r p ok
  chk : ok = true → k = 0 → ChkP r.l
def NotIn (m : Rm) (b : Nat) : Prop := (∀ ad, m.2.1.1 = some ad → ad.block ≠ b) ∧ (∀ ad, m.2.2.1.1 = some ad → ad.block ≠ b) ∧ ∀ ad, m.2.2.2.1.1 = some ad → ad.block ≠ b
theorem no_ad {b : Nat} : ∀ ad : Addr, (none : Option Addr) = some ad → ad.block ≠ b := fun ad e => by cases e
theorem not_own {α : Type} {E : Enc α} {t : TypeId} {base : Nat} {H : Heap} {a : Option Addr} {n c : Nat} {xs : List α} (h : Own E t base H a n c xs) {b : Nat} (hb : b < base) : ∀ ad, a = some ad → ad.block ≠ b := fun ad e => by
  have := (h.ge ad.block (by subst e; simp [blkL])).1
  omega
theorem forms8_ok {H : Heap} {rb xb : Nat} {s : ByteArray} {a : Nat} {K : Heap → Prop} (hr : Blk H ⟨rb, 0, none⟩ (rC (m0 3))) (hx : Blk H ⟨xb, 0, none⟩ (rdC s a true)) (hne : rb ≠ xb) (hs : s.size ≤ 100000000000) (ha : a ≤ s.size)
    (hk : ∀ H' m r p ok', Blk H' ⟨rb, 0, none⟩ (rC m) → Blk H' ⟨xb, 0, none⟩ (rdC s p ok') → Took H' m s a 3 r p ok' → (∀ b, b < H.size → NotIn m b) → Fr [xb, rb] H H' → K H') :
    CallH Tryz.prog fn_wal_forms_8 ⟨[.pointer (some ⟨rb, 0, none⟩), .pointer (some ⟨xb, 0, none⟩)]⟩ H fun v H' => v = .tuple ⟨[]⟩ ∧ K H' := by
  apply vc_wal_forms_8
  refine number_ok (most := 1099511627776) hx hs ha (by omega) fun H1 v p ok' hx1 hn hf1 => ?_
  obtain ⟨hrd, hv⟩ := hn.rd ha
  have hr1 := hr.fr hf1 (by simp; exact hne)
  refine hr1.st (j := 4) (v := .int .i64 v) (by kernel_rfl) (by kernel_rfl) (fun x hx => by simp [Value.cells] at hx; subst hx; rfl) (by simp [Value.cells, rC]) fun H2 hr2 hf2 => ⟨rfl, ?_⟩
  refine hk H2 (3, (none, 0, 0), (none, 0, 0), (none, 0, 0), v) ⟨3, [], [], [], v⟩ p ok' (by simpa [Value.cells, rC, m0] using hr2) (hx1.fr hf2 (by simp; exact fun e => hne e.symm)) ?_ (fun b _ => ⟨no_ad, no_ad, no_ad⟩) (hf1.trans' hf2 (fun k hk _ => by simp at hk; simp [hk]) (fun k hk _ => by simp at hk; simp [hk]))
  refine ⟨⟨rfl, Sl.zero, Sl.zero, Sl.zero, rfl⟩, rfl, fun x hx => by simp at hx, ⟨by simp, by simp, by simp⟩, ⟨hrd.1, fun ho => ?_, fun ho y t hy e => ?_⟩, fun _ h => by omega⟩
  · obtain ⟨h1, h2⟩ := hrd.2.1 ho
    refine ⟨rfl, ?_⟩
    rw [h2]; unfold bodyR; rw [if_neg (by simp), if_neg (by simp), if_neg (by simp)]
  · have hyk := hy.2
    have hF := hy.1.fine
    have e2 : bodyR y = uL y.at' := by unfold bodyR; rw [if_neg (by omega), if_neg (by omega), if_neg (by omega)]
    rw [e2] at e
    obtain ⟨h1, h2, h3⟩ := hrd.2.2 rfl y.at' t ⟨hF.at'.1, by have := hF.at'.2; omega⟩ e
    refine ⟨h1, ?_, h3⟩
    have g1 : y.l = [] := Classical.byContradiction fun h => by have := hF.l h; omega
    have g2 : y.rows = [] := Classical.byContradiction fun h => by have := hF.rows h; omega
    have g3 : y.tombs = [] := Classical.byContradiction fun h => by have := hF.tombs h; omega
    cases y
    simp only at g1 g2 g3 hyk h2
    subst g1 g2 g3 hyk h2
    rfl
end Go.Proofs
