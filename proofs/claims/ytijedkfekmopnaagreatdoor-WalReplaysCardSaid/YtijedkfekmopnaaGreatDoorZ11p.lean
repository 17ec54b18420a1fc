/- Turned by a program of mine (portall.py) out of the same text of another seat. -/
import Derived.Test.YtijedkfekmopnaaGreatDoorZ11a
import Derived.Test.YtijedkfekmopnaaGreatDoorL07d
set_option linter.unusedVariables false
set_option maxRecDepth 100000
open Go Go.GV
namespace Go.Proofs

theorem elem9 : elemB Tryz.prog 9 1 16 = true := by kernel_rfl
def lblS (x : Lbl) : ByteArray := ⟨(lblL x).toArray⟩
theorem print_join : ∀ l : Lbls, printL l = 123 :: joinL [44] (l.map lblS) ++ [125]
  | [] => rfl
  | x :: l => by
    have : ∀ m : Lbls, restL m = ((m.map lblS).flatMap fun s => [44] ++ bl s) ++ [125] := by
      intro m
      induction m with
      | nil => rfl
      | cons y m ih => simp only [restL, ih, List.map_cons, List.flatMap_cons, lblS, bl_mk]; simp
    simp only [printL, this, List.map_cons, joinL, lblS, bl_mk]
    simp
theorem lblS_size (x : Lbl) : (lblS x).size = x.1.size + 1 + (quoteL (bl x.2)).length := by
  unfold lblS lblL
  rw [size_mk, List.length_append, List.length_cons, bl_len]; omega
theorem lbl_small {x : Lbl} (h : LblP x) : (lblS x).size ≤ 83 := by
  have := quoteL_len (bl x.2)
  rw [bl_len] at this
  rw [lblS_size]
  have h1 := h.1.2.1
  have h2 := h.2.1.1
  omega
theorem sum_small {l : Lbls} (h : ∀ x ∈ l, LblP x) : sumS (l.map lblS) ≤ 83 * l.length := by
  induction l with
  | nil => simp [sumS]
  | cons x l ih =>
    have := lbl_small (h x (by simp))
    have := ih fun y hy => h y (by simp [hy])
    unfold sumS at *
    simp only [List.map_cons, List.sum_cons, List.length_cons]
    omega
theorem printL_len {l : Lbls} (h : ChkP l) : (printL l).length ≤ 700 := by
  have h8 := h.1
  have hs := sum_small h.2.1
  rw [print_join]
  cases l with
  | nil => simp [joinL]
  | cons x l =>
    simp only [List.map_cons, joinL, List.length_cons, List.length_append, bl_len, List.length_nil]
    have := flat_len [44] (l.map lblS)
    rw [this]
    simp only [List.length_map, List.length_cons, List.length_nil]
    simp only [List.map_cons, List.length_cons, sumS, List.sum_cons] at hs h8 ⊢
    omega

def headP (l : Lbls) : List UInt8 := 123 :: joinL [44] (l.map lblS)
theorem headP_snoc {l : Lbls} {k : Nat} {x : Lbl} (hx : l[k]? = some x) : headP (l.take (k + 1)) = headP (l.take k) ++ (if k = 0 then [] else [44]) ++ lblL x := by
  rw [List.take_add_one, hx]
  unfold headP
  by_cases hk : k = 0
  · subst hk
    simp [joinL, lblS, bl_mk]
  · rw [if_neg hk]
    have hne : l.take k ≠ [] := fun e => by
      have := congrArg List.length e
      rw [List.length_take] at this
      have h4 := (List.getElem?_eq_some_iff.1 hx).1
      have e0 : ([] : Lbls).length = 0 := rfl
      rw [e0] at this; omega
    cases h : l.take k with
    | nil => exact absurd h hne
    | cons y m =>
      simp only [List.cons_append, List.map_cons, List.map_append, joinL, List.flatMap_append, Option.toList_some, List.map_nil, List.flatMap_cons, List.flatMap_nil, List.append_nil]
      simp [lblS, bl_mk]
theorem rPrint_ok {a : Option Addr} {n c : Nat} {l : Lbls} {H : Heap} {K : ByteArray → Int → Heap → Prop} (hx : Sl encL H a n c l)
    (hno : ¬ ChkP l → K ⟨#[]⟩ 40 H) (hyes : ChkP l → K ⟨(printL l).toArray⟩ 0 H) :
    CallH Tryz.prog fn_ref04_Print ⟨[.slice a n c]⟩ H fun v H' => ∃ s e, v = .tuple ⟨[.string s, .int .i64 e]⟩ ∧ K s e H' := by
  apply vc_ref04_Print
  have hlx := hx.len
  refine rCheck_ok hx ?_
  by_cases hC : ¬ ChkP l
  · rw [chkI_no hC]
    exact ⟨_, _, rfl, hno hC⟩
  have hC := Classical.not_not.1 hC
  rw [chkI_yes hC]
  have h8 := hC.1
  have hyes := hyes hC
  have bound : ∀ k, (headP (l.take k)).length ≤ 700 := fun k => by
    have hCk : ChkP (l.take k) := ⟨by rw [List.length_take]; omega, fun x hx => hC.2.1 x (List.mem_of_mem_take hx), fun i x y hx hy => by
      rw [List.getElem?_take] at hx hy
      split at hx
      · split at hy
        · exact hC.2.2 i x y hx hy
        · cases hy
      · cases hx⟩
    have := printL_len hCk
    rw [print_join] at this
    unfold headP
    simp only [List.length_cons, List.length_append, List.length_nil] at this ⊢
    omega
  refine brB_of (fun h => by simp at h) (fun _ => ?_)
  refine ⟨fun vs H' => match vs with
      | [.string t, .int _ i] => ∃ k : Nat, i = k ∧ k ≤ n ∧ bl t = headP (l.take k) ∧ H' = H
      | _ => False,
    fun vs _ => match vs with | [_, .int _ i] => n - i.toNat | _ => 0, ⟨0, rfl, by omega, rfl, rfl⟩, ?_⟩
  rintro J t i H3 ⟨k, rfl, hle, ht, rfl⟩
  have hts : t.size ≤ 700 := by rw [← bl_len, ht]; exact bound k
  refine brB_of (fun h0 => ?_) (fun h0 => ?_)
  · have h0' : k < n := by simpa using h0
    have hx1 : l[k]? = some (l[k]'(by omega)) := by simp
    generalize l[k]'(by omega) = x at hx1
    have hL := hC.2.1 x (List.mem_of_getElem? hx1)
    have hq := quoteL_len (bl x.2)
    rw [bl_len] at hq
    have hx1s := hL.1.2.1
    have hx2s := hL.2.1.1
    have e1 : (⟨#[44]⟩ : ByteArray).size = 1 := rfl
    have e2 : (⟨#[61]⟩ : ByteArray).size = 1 := rfl
    have ez := size_mk (quoteL (bl x.2))
    have at0 : ∀ {Q : Addr → Prop}, (∀ ad, a = some ad → CellsAt H3 (ad.add ((k : Int).toNat * encL.sz)) (encL.cells x) → Q ad) → exSome a fun ad => chk (decide ((0 : Int) ≤ k ∧ (k : Int) < n)) (Q ad) := fun hK => hx.get rfl hx1 (decide_eq_true (by omega)) hK
    rw [succ64 (by omega)]
    refine brB_of (fun h1 => ?_) (fun h1 => ?_)
    · have hk0 : k ≠ 0 := by simp at h1; omega
      refine chk_true (decide_eq_true (by omega)) (at0 fun ad ea hc => ⟨_, ldN hc, chk_true (decide_eq_true (by rw [size_app]; omega)) (chk_true (decide_eq_true (by rw [size_app, size_app]; omega)) (at0 fun ad2 ea2 hc2 => ⟨_, ldV hc2, rQuote_ok (by omega) ⟨ldN hc, chk_true (decide_eq_true (by rw [size_app, size_app, size_app]; omega)) ⟨⟨k + 1, rfl, by omega, ?_, rfl⟩, mu_lt h0'⟩⟩⟩))⟩)
      rw [headP_snoc hx1, if_neg hk0, bl_app, bl_app, bl_app, bl_app, ht, bl_mk]
      unfold lblL
      simp [bl]
    · have hk0 : k = 0 := by simp at h1; omega
      subst hk0
      refine at0 fun ad ea hc => ⟨_, ldN hc, chk_true (decide_eq_true (by omega)) (chk_true (decide_eq_true (by rw [size_app]; omega)) (at0 fun ad2 ea2 hc2 => ⟨_, ldV hc2, rQuote_ok (by omega) ⟨ldN hc, chk_true (decide_eq_true (by rw [size_app, size_app]; omega)) ⟨⟨0 + 1, rfl, by omega, ?_, rfl⟩, mu_lt h0'⟩⟩⟩))⟩
      rw [headP_snoc hx1, if_pos rfl, bl_app, bl_app, bl_app, ht, bl_mk]
      unfold lblL
      simp [bl]
  · have hkn : l.take k = l := List.take_of_length_le (by simp at h0; omega)
    rw [hkn] at ht
    refine chk_true (decide_eq_true (by omega)) ⟨_, _, rfl, ?_⟩
    have e : (t ++ ⟨#[125]⟩ : ByteArray) = ⟨(printL l).toArray⟩ := by
      apply bl_inj
      rw [bl_app, ht, bl_mk, print_join]; rfl
    rw [e]; exact hyes
end Go.Proofs
set_option linter.unusedVariables false
set_option maxRecDepth 100000
open Go Go.GV
namespace Go.Proofs

def sepL (xs : Lbls) : List UInt8 := if xs = [] then [] else [44]
theorem bl_lblS (x : Lbl) : bl (lblS x) = lblL x := by unfold lblS; rw [bl_mk]
theorem headP_add (xs : Lbls) (x : Lbl) : headP (xs ++ [x]) = headP xs ++ sepL xs ++ lblL x := by
  unfold headP sepL
  cases xs with
  | nil => simp [joinL, bl_lblS]
  | cons y m => simp [joinL, bl_lblS]
theorem printL_head (xs : Lbls) : printL xs = headP xs ++ [125] := by rw [print_join]; rfl
theorem restL_eq : ∀ m : Lbls, restL m = ((m.map lblS).flatMap fun s => [44] ++ bl s) ++ [125]
  | [] => rfl
  | y :: m => by simp only [restL, restL_eq m, List.map_cons, List.flatMap_cons, bl_lblS]; simp
theorem printL_split (xs : Lbls) (y : Lbl) (m : Lbls) : printL (xs ++ y :: m) = headP xs ++ sepL xs ++ (lblL y ++ restL m) := by
  rw [print_join, restL_eq]
  unfold headP sepL
  cases xs with
  | nil => simp [joinL, bl_lblS]
  | cons z xs => simp [joinL, bl_lblS]
theorem Parse_ok {s : ByteArray} {H : Heap} {K : Option Addr → Nat → Nat → Int → Heap → Prop} (hs : s.size ≤ 1000000000)
    (hno : (∀ l, ChkP l → bl s ≠ printL l) → ∀ H', Fr [] H H' → K none 0 0 11 H')
    (hyes : ∀ l a n c H', ChkP l → bl s = printL l → Own encL 55 H.size H' a n c l → Fr [] H H' → K a n c 0 H') :
    CallH Tryz.prog fn_label_Parse ⟨[.string s]⟩ H fun v H' => ∃ a n c e, v = .tuple ⟨[.slice a n c, .int .i64 e]⟩ ∧ K a n c e H' := by
  apply vc_label_Parse
  intro b H1 hn1
  have hbH := hn1.eq
  have hbs := hn1.size
  have hend : ∀ {H' : Heap}, Fr [b] H1 H' → Fr [] H H' := fun hf => hn1.fr.keep hf (fun k hk => by simp at hk; omega)
  refine take_ok hn1.blk (fun u H2 hu hb2 hf2 => ?_) fun h => ?_
  rotate_left
  · refine brB_of (fun _ => ⟨_, _, _, _, rfl, hno (fun l hl e => h (joinL [44] (l.map lblS) ++ [125]) ?_) H1 hn1.fr⟩) (fun h => by cases h)
    rw [e, print_join]; rfl
  have hu : bl s = 123 :: bl u := hu
  have hus : u.size + 1 = s.size := by rw [← bl_len, ← bl_len, hu]; rfl
  refine brB_of (fun h => by cases h) (fun _ => ⟨_, hb2.ld0 (by kernel_rfl) rfl, ?_⟩)
  refine brB_of (fun h => ⟨_, _, _, _, rfl, hyes [] none 0 0 H2 ⟨by simp, by simp, fun i x y h => by simp at h⟩ ?_ (Own.nil _ _ _ _) (hend hf2)⟩) (fun hu2 => ?_)
  · rw [beqS] at h
    have h := of_decide_eq_true h
    rw [hu, h]; rfl
  have hu2 : u ≠ ⟨#[125]⟩ := by rw [beqS] at hu2; exact of_decide_eq_false hu2
  refine ⟨fun vs H' => match vs with
      | [.slice a n c, .bool more] => ∃ (xs : Lbls) (t : ByteArray), Own encL 55 H1.size H' a n c xs ∧ Blk H' ⟨b, 0, none⟩ [.string t] ∧ Fr [b] H1 H' ∧ bl s = headP xs ++ (if more then sepL xs else []) ++ bl t ∧ (∀ l, ChkP l → bl s = printL l → ∃ m, l = xs ++ m ∧ (if more then m ≠ [] else m = [])) ∧ xs.length + t.size ≤ s.size
      | _ => False,
    fun vs _ => match vs with | [.slice _ n _, .bool more] => if more then s.size + 1 - n else 0 | _ => 0,
    ⟨[], u, Own.nil _ _ _ _, hb2, hf2, by rw [hu]; rfl, fun l hl e => ⟨l, rfl, ?_⟩, by simp; omega⟩, ?_⟩
  · intro e0
    subst e0
    rw [hu] at e
    exact hu2 (bl_inj (List.cons.inj e).2)
  rintro J a n c more H3 ⟨xs, t, ho, hb3, hf3, hsp, hcm, hsz⟩
  refine brB_of (fun h => ?_) (fun h => ?_)
  · subst h
    rw [if_pos rfl] at hsp
    have hc : ∀ l, ChkP l → bl s = printL l → ∃ y m, l = xs ++ y :: m ∧ bl t = lblL y ++ restL m ∧ ∀ b ∈ bl y.1, b ≠ 61 := fun l hl e => by
      obtain ⟨m, rfl, h2⟩ := hcm l hl e
      cases m with
      | nil => exact absurd rfl h2
      | cons y m =>
        rw [hsp, printL_split] at e
        exact ⟨y, m, rfl, List.append_cancel_left e, name_noeq (hl.2.1 y (by simp)).1⟩
    refine ⟨_, hb3.ld0 (by kernel_rfl) rfl, Cut_ok (c := 61) (by omega) (fun u t1 hcut hu61 => ?_) fun hn61 => ?_⟩
    rotate_left
    · refine hb3.st0 (v := .string ⟨#[]⟩) (by kernel_rfl) (by kernel_rfl) (fun x hx => by simp [Value.cells] at hx; subst hx; rfl) (by simp [Value.cells]) fun H4 hb4 hf4 => ?_
      refine value_ok (t := ⟨#[]⟩) hb4 (by simp [ByteArray.size]) (fun v t' H' e => ?_) fun _ H5 hf5 => ?_
      · have e : ([] : List UInt8) = quoteL (bl v) ++ bl t' := e
        simp [quoteL] at e
      · refine brB_of (fun _ => ⟨_, _, _, _, rfl, hno (fun l hl e => ?_) H5 (hend ((hf3.trans' hf4 (fun k hk _ => hk) (fun k hk _ => hk)).trans' hf5 (fun k hk _ => hk) (fun k hk _ => hk)))⟩) (fun h => by cases h)
        obtain ⟨y, m, _, h2, _⟩ := hc l hl e
        rw [h2] at hn61
        exact hn61 (by simp [lblL])
    · refine hb3.st0 (v := .string t1) (by kernel_rfl) (by kernel_rfl) (fun x hx => by simp [Value.cells] at hx; subst hx; rfl) (by simp [Value.cells]) fun H4 hb4 hf4 => ?_
      have hts : t.size = u.size + 1 + t1.size := by rw [← bl_len, hcut]; simp [bl_len]; omega
      have hf34 : Fr [b] H1 H4 := hf3.trans' hf4 (fun k hk _ => hk) (fun k hk _ => hk)
      refine value_ok (t := t1) hb4 (by omega) (fun v t2 H5 e5 hb5 hf5 => ?_) fun hnov H5 hf5 => ?_
      rotate_left
      · refine brB_of (fun _ => ⟨_, _, _, _, rfl, hno (fun l hl e => ?_) H5 (hend (hf34.trans' hf5 (fun k hk _ => hk) (fun k hk _ => hk)))⟩) (fun h => by cases h)
        obtain ⟨y, m, _, h2, h3⟩ := hc l hl e
        unfold lblL at h2
        rw [hcut, List.append_assoc, List.cons_append] at h2
        obtain ⟨_, h4⟩ := cut_first hu61 h3 h2
        exact hnov _ _ h4
      · refine brB_of (fun h => by cases h) (fun _ => ?_)
        have hf35 : Fr [b] H1 H5 := hf34.trans' hf5 (fun k hk _ => hk) (fun k hk _ => hk)
        have hbo : ∀ ad, a = some ad → ad.block ∉ [b] := fun ad e hk => by
          have := (ho.lt ad e).1
          simp at hk; omega
        have ho5 := (ho.fr hf4 hbo).fr hf5 hbo
        intro b5 H6 hn6
        have hs1 : Sl encL H6 (some ⟨b5, 0, none⟩) 1 1 [((u, v) : Lbl)] := sl_one encL (u, v) hn6 rfl
        have hxs : xs.length ≤ 1000000000 := by omega
        refine ap_grow (E := encL) slice23 elem64 (ho5.keep hn6.fr) hs1 (Nat.le_trans hf35.size hn6.fr.size) (by have := ho.1; omega) fun a' n' c' H7 ho7 hf7 hg7 => ?_
        have hbo7 : b ∉ blkL a := fun hk => by have := (ho.ge b hk).1; omega
        have hb7 := (hb5.keep hn6.fr).fr hf7 hbo7
        have hf37 : Fr [b] H1 H7 := (hf35.trans' hn6.fr (T := [b]) (fun k hk _ => hk) (by simp)).trans' hf7 (fun k hk _ => hk) (fun k hk hlt => absurd (ho.ge k hk).1 (by omega))
        have e1 : bl t = lblL (u, v) ++ bl t2 := by
          unfold lblL
          rw [hcut, e5]; simp
        have hq : 2 ≤ (quoteL (bl v)).length := by simp [quoteL]
        have ht1 : t1.size = (quoteL (bl v)).length + t2.size := by rw [← bl_len, e5, List.length_append, bl_len]
        have hsp2 : bl s = headP (xs ++ [(u, v)]) ++ bl t2 := by rw [hsp, e1, headP_add]; simp
        have hc2 : ∀ l, ChkP l → bl s = printL l → ∃ m, l = (xs ++ [(u, v)]) ++ m ∧ bl t2 = restL m := fun l hl e => by
          obtain ⟨y, m, h1, h2, h3⟩ := hc l hl e
          obtain ⟨rfl, h5⟩ := lbl_inj (x := (u, v)) hu61 h3 (e1.symm.trans h2)
          exact ⟨m, by rw [h1]; simp, h5⟩
        have hlen1 : (xs ++ [((u, v) : Lbl)]).length = xs.length + 1 := by simp
        have hn7 := ho7.1
        have hn0 := ho.1
        rw [hlen1] at hn7
        refine take_ok hb7 (fun t3 H8 e8 hb8 hf8 => ?_) fun h8 => ?_
        · have e8 : bl t2 = 44 :: bl t3 := e8
          have ht2 : t2.size = t3.size + 1 := by rw [← bl_len, e8, List.length_cons, bl_len]
          have hbo8 : ∀ ad, a' = some ad → ad.block ∉ [b] := fun ad e hk => by
            have := (ho7.lt ad e).1
            simp at hk; omega
          refine ⟨⟨_, t3, ho7.fr hf8 hbo8, hb8, hf37.trans' hf8 (fun k hk _ => hk) (fun k hk _ => hk), ?_, fun l hl e => ?_, by rw [hlen1]; omega⟩, ?_⟩
          · rw [if_pos rfl, hsp2, e8]
            unfold sepL
            rw [if_neg (by simp)]; simp
          · obtain ⟨m, h1, h2⟩ := hc2 l hl e
            refine ⟨m, h1, ?_⟩
            rw [if_pos rfl]
            intro e0
            subst e0
            rw [e8] at h2
            simp [restL] at h2
          · show (if true = true then s.size + 1 - n' else 0) < (if true = true then s.size + 1 - n else 0)
            rw [if_pos rfl, if_pos rfl]
            omega
        · refine ⟨⟨_, t2, ho7, hb7, hf37, ?_, fun l hl e => ?_, by rw [hlen1]; omega⟩, ?_⟩
          · rw [hsp2]; simp
          · obtain ⟨m, h1, h2⟩ := hc2 l hl e
            refine ⟨m, h1, ?_⟩
            show m = []
            cases m with
            | nil => rfl
            | cons y m => exact absurd h2 (h8 (lblL y ++ restL m))
          · show (if false = true then s.size + 1 - n' else 0) < (if true = true then s.size + 1 - n else 0)
            rw [if_pos rfl]
            simp; omega
  · subst h
    have hsp : bl s = headP xs ++ bl t := by simpa using hsp
    have hcm : ∀ l, ChkP l → bl s = printL l → l = xs := fun l hl e => by
      obtain ⟨m, h1, h2⟩ := hcm l hl e
      have h2 : m = [] := h2
      rw [h1, h2]; simp
    refine ⟨_, hb3.ld0 (by kernel_rfl) rfl, brB_of (fun h => ⟨_, _, _, _, rfl, hno (fun l hl e => ?_) H3 (hend hf3)⟩) (fun h => ?_)⟩
    · have := hcm l hl e
      subst this
      rw [hsp, printL_head] at e
      have : t = ⟨#[125]⟩ := bl_inj (List.append_cancel_left e)
      subst this
      simp at h
    · have h : t = ⟨#[125]⟩ := by rw [beqS] at h; simpa using h
      have hpr : bl s = printL xs := by rw [hsp, printL_head, h]
      refine Check_ok ho.sl (by have := ho.1; omega) fun H4 hf4 => ?_
      by_cases hC : ChkP xs
      · rw [chkI_yes hC]
        exact brB_of (fun h => by simp at h) (fun _ => ⟨_, _, _, _, rfl, hyes xs _ _ _ H4 hC hpr ((ho.keep hf4).base (by omega)) (hend (hf3.trans' hf4 (fun k hk _ => hk) (by simp)))⟩)
      · rw [chkI_no hC]
        exact brB_of (fun _ => ⟨_, _, _, _, rfl, hno (fun l hl e => hC (hcm l hl e ▸ hl)) H4 (hend (hf3.trans' hf4 (fun k hk _ => hk) (by simp)))⟩) (fun h => by simp at h)
end Go.Proofs
set_option linter.unusedVariables false
set_option maxRecDepth 100000
open Go Go.GV
namespace Go.Proofs

theorem ext_at {s : ByteArray} {k : Nat} (h : k < s.size) {c : UInt8} (hc : s[k]? = some c) : s.extract k (k + 1) = ⟨#[c]⟩ := by
  apply bl_inj
  rw [bl_ext]
  rw [bl_get] at hc
  rw [List.take_add_one, hc, List.drop_append, List.drop_of_length_le (by rw [List.length_take]; omega), List.length_take, bl_len, Nat.min_eq_left (by omega)]
  simp [bl]
theorem rQuoted_ok {t : ByteArray} {H : Heap} {K : ByteArray → Int → Heap → Prop} (ht : t.size ≤ 1000000000)
    (hk : ∀ (v : ByteArray) (n : Nat), n ≤ t.size → (∀ v' r, bl t = quoteL v' ++ r → bl v = v' ∧ n = (quoteL v').length) → K v n H) :
    CallH Tryz.prog fn_ref04_Quoted ⟨[.string t]⟩ H fun v H' => ∃ s n, v = .tuple ⟨[.string s, .int .i64 n]⟩ ∧ K s n H' := by
  apply vc_ref04_Quoted
  have hbl := bl_len t
  have bad : (∀ v' r, bl t ≠ quoteL v' ++ r) → ∃ s n, Value.tuple ⟨[.string ⟨#[]⟩, .int .i64 0]⟩ = .tuple ⟨[.string s, .int .i64 n]⟩ ∧ K s n H := fun h => ⟨_, _, rfl, hk ⟨#[]⟩ 0 (by omega) fun v' r e => absurd e (h v' r)⟩
  refine ⟨fun vs H' => H' = H ∧ ∃ c, (bl t)[0]? = some c ∧ c = 34, ?_, ?_⟩
  · refine brB_of (fun h => bad fun v' r e => ?_) (fun h => ?_)
    · have : t.size = 0 := by have := eq_of_beq h; omega
      rw [← hbl, e] at this
      simp [quoteL] at this
    · have h0 : 0 < t.size := by have := ne_of_beq_false h; omega
      obtain ⟨c, h1, h2⟩ := atB_get h0
      rw [bl_get] at h1
      refine chk_true (decide_eq_true (by omega)) ?_
      rw [show Int.toNat 0 = 0 from rfl, ← h2]
      refine brB_of (fun h => bad fun v' r e => ?_) (fun h => ⟨rfl, c, h1, ?_⟩)
      · rw [e] at h1
        simp [quoteL] at h1
        subst h1; simp at h
      · exact UInt8.toNat.inj (by simp at h; show c.toNat = 34; omega)
  rintro J H1 ⟨rfl, c0, hc0, rfl⟩
  refine ⟨fun vs H' => match vs with
      | [.string a, .int _ i] => ∃ k : Nat, i = k ∧ 1 ≤ k ∧ k ≤ t.size + 1 ∧ a.size ≤ k ∧ k ≤ t.size ∧ (∀ v' r, bl t = quoteL v' ++ r → ∃ v2, v' = bl a ++ v2 ∧ (bl t).drop k = bodyL v2 ++ 34 :: r) ∧ H' = H1
      | _ => False,
    fun vs _ => match vs with | [_, .int _ i] => t.size + 2 - i.toNat | _ => 0, ⟨1, rfl, by omega, by omega, by simp [ByteArray.size], ?_, fun v' r e => ⟨v', rfl, by rw [e]; simp [quoteL]⟩, rfl⟩, ?_⟩
  · have := (List.getElem?_eq_some_iff.1 hc0).1; omega
  rintro J a i H2 ⟨k, rfl, hk1, _, hak, hle, hinv, rfl⟩
  have bad2 : (∀ v' r v2, bl t = quoteL v' ++ r → (bl t).drop k ≠ bodyL v2 ++ 34 :: r) → ∃ s n, Value.tuple ⟨[.string ⟨#[]⟩, .int .i64 0]⟩ = .tuple ⟨[.string s, .int .i64 n]⟩ ∧ K s n H2 := fun h => bad fun v' r e => by
    obtain ⟨v2, _, h2⟩ := hinv v' r e
    exact h v' r v2 e h2
  refine brB_of (fun h0 => ?_) (fun h0 => bad2 fun v' r v2 e e2 => ?_)
  rotate_left
  · rw [List.drop_of_length_le (by simp at h0; omega)] at e2
    simp at e2
  have h0' : k < t.size := by simpa using h0
  obtain ⟨c, h1, h2⟩ := atB_get h0'
  have hext := ext_at h0' h1
  rw [bl_get] at h1
  have hdr : (bl t).drop k = c :: (bl t).drop (k + 1) := by
    obtain ⟨h4, h5⟩ := List.getElem?_eq_some_iff.1 h1
    rw [← h5, List.getElem_cons_drop]
  refine chk_true (decide_eq_true (by omega)) ?_
  rw [Int.toNat_natCast, ← h2, succ64 (by omega)]
  refine brB_of (fun h3 => ?_) (fun h3 => brB_of (fun h4 => ?_) (fun h4 => ?_))
  · have h3 : c = 34 := UInt8.toNat.inj (by simp at h3; show c.toNat = 34; omega)
    subst h3
    refine ⟨_, _, rfl, hk a (k + 1) (by omega) fun v' r e => ?_⟩
    obtain ⟨v2, h5, h6⟩ := hinv v' r e
    rw [hdr] at h6
    rcases body_head h6 with ⟨rfl, h7⟩ | ⟨b, v3, _, ⟨h7, h8, _⟩ | ⟨c', h7, _⟩⟩
    · refine ⟨by rw [h5]; simp, ?_⟩
      have hl := congrArg List.length e
      have hl2 := congrArg List.length hdr
      rw [h7] at hl2
      rw [List.length_append] at hl
      rw [List.length_drop, List.length_cons] at hl2
      omega
    · simp at h7; exact absurd h7.1.symm h8
    · simp at h7
  · have h4 : c = 92 := UInt8.toNat.inj (by simp at h4; show c.toNat = 92; omega)
    subst h4
    have hesc : ∀ v' r, bl t = quoteL v' ++ r → ∃ b v3 d, v' = bl a ++ b :: v3 ∧ (bl t).drop (k + 1) = d :: (bodyL v3 ++ 34 :: r) ∧ ((d = 110 ∧ b = 10) ∨ (d = b ∧ (b = 34 ∨ b = 92))) := fun v' r e => by
      obtain ⟨v2, h5, h6⟩ := hinv v' r e
      rw [hdr] at h6
      rcases body_head h6 with ⟨rfl, h7⟩ | ⟨b, v3, rfl, ⟨h7, _, h8, _⟩ | ⟨d, h7, h8⟩⟩
      · simp at h7
      · simp at h7; exact absurd h7.1.symm h8
      · exact ⟨b, v3, d, h5, (List.cons.inj h7).2, h8⟩
    refine brB_of (fun h5 => bad fun v' r e => ?_) (fun h5 => ?_)
    · obtain ⟨b, v3, d, _, h6, _⟩ := hesc v' r e
      rw [List.drop_of_length_le (by simp at h5; omega)] at h6
      simp at h6
    have h5' : k + 1 < t.size := by simp at h5; omega
    obtain ⟨d, h6, h7⟩ := atB_get h5'
    have hext2 := ext_at h5' h6
    rw [bl_get] at h6
    have hdr2 : (bl t).drop (k + 1) = d :: (bl t).drop (k + 1 + 1) := by
      obtain ⟨h4, h5⟩ := List.getElem?_eq_some_iff.1 h6
      rw [← h5, List.getElem_cons_drop]
    refine chk_true (decide_eq_true (by omega)) ?_
    rw [Int.toNat_natCast, ← h7, succ64 (by omega)]
    have one1 : (⟨#[10]⟩ : ByteArray).size = 1 := rfl
    have one2 : (⟨#[d]⟩ : ByteArray).size = 1 := rfl
    refine brB_of (fun h8 => chk_true (decide_eq_true (by omega)) ⟨⟨k + 1 + 1, rfl, by omega, by omega, by rw [size_app]; omega, by omega, fun v' r e => ?_, rfl⟩, ?_⟩) (fun h8 => chk_true (decide_eq_true (by omega)) (chk_true (decide_eq_true ?_) ⟨⟨k + 1 + 1, rfl, by omega, by omega, ?_, by omega, fun v' r e => ?_, rfl⟩, ?_⟩))
    · have h8 : d = 110 := UInt8.toNat.inj (by simp at h8; show d.toNat = 110; omega)
      subst h8
      obtain ⟨b, v3, d, h9, h10, h11⟩ := hesc v' r e
      rw [hdr2] at h10
      obtain ⟨rfl, h12⟩ := List.cons.inj h10
      refine ⟨v3, ?_, h12⟩
      rcases h11 with ⟨_, rfl⟩ | ⟨h, h'⟩
      · rw [h9, bl_app]; simp [bl]
      · subst h; rcases h' with h | h <;> simp at h
    · show t.size + 2 - (((k + 1 + 1 : Nat) : Int)).toNat < t.size + 2 - ((k : Nat) : Int).toNat
      omega
    · (try simp only [Int.toNat_natCast])
      rw [hext2]; omega
    · (try simp only [Int.toNat_natCast])
      rw [hext2, size_app]; omega
    · (try simp only [Int.toNat_natCast])
      rw [hext2]
      obtain ⟨b, v3, d', h9, h10, h11⟩ := hesc v' r e
      rw [hdr2] at h10
      obtain ⟨rfl, h12⟩ := List.cons.inj h10
      refine ⟨v3, ?_, h12⟩
      rcases h11 with ⟨h, _⟩ | ⟨h, h'⟩
      · subst h; simp at h8
      · subst h; rw [h9, bl_app]; simp [bl]
    · show t.size + 2 - (((k + 1 + 1 : Nat) : Int)).toNat < t.size + 2 - ((k : Nat) : Int).toNat
      omega
  · have one2 : (⟨#[c]⟩ : ByteArray).size = 1 := rfl
    refine chk_true (decide_eq_true (by omega)) (chk_true (decide_eq_true ?_) ⟨⟨k + 1, rfl, by omega, by omega, ?_, by omega, fun v' r e => ?_, rfl⟩, ?_⟩)
    · (try simp only [Int.toNat_natCast])
      rw [hext]; omega
    · (try simp only [Int.toNat_natCast])
      rw [hext, size_app]; omega
    · (try simp only [Int.toNat_natCast])
      rw [hext]
      obtain ⟨v2, h5, h6⟩ := hinv v' r e
      rw [hdr] at h6
      rcases body_head h6 with ⟨rfl, h7⟩ | ⟨b, v3, rfl, ⟨h7, h8, _⟩ | ⟨c', h7, _⟩⟩
      · simp at h7; have := h7.1; subst this; simp at h3
      · obtain ⟨rfl, h9⟩ := List.cons.inj h7
        exact ⟨v3, by rw [h5, bl_app]; simp [bl], h9⟩
      · have := (List.cons.inj h7).1
        subst this; simp at h4
    · show t.size + 2 - (((k + 1 : Nat) : Int)).toNat < t.size + 2 - ((k : Nat) : Int).toNat
      omega
end Go.Proofs
set_option linter.unusedVariables false
set_option maxRecDepth 100000
open Go Go.GV
namespace Go.Proofs

theorem lblL_61 (y : Lbl) (r : List UInt8) : lblL y ++ r = bl y.1 ++ 61 :: (quoteL (bl y.2) ++ r) := by unfold lblL; simp
theorem rParse_ok {s : ByteArray} {H : Heap} {K : Option Addr → Nat → Nat → Int → Heap → Prop} (hs : s.size ≤ 1000000000)
    (hno : (∀ l, ChkP l → bl s ≠ printL l) → ∀ H', Fr [] H H' → K none 0 0 11 H')
    (hyes : ∀ l a n c H', ChkP l → bl s = printL l → Own encL 55 H.size H' a n c l → Fr [] H H' → K a n c 0 H') :
    CallH Tryz.prog fn_ref04_Parse ⟨[.string s]⟩ H fun v H' => ∃ a n c e, v = .tuple ⟨[.slice a n c, .int .i64 e]⟩ ∧ K a n c e H' := by
  apply vc_ref04_Parse
  intro b H1 hn1
  have hbl := bl_len s
  have ho1 : Own encL 55 H.size H1 (some ⟨b, 0, none⟩) 0 0 [] := Own.made encL 55 hn1 (Nat.le_refl _)
  refine brB_of (fun h => ⟨_, _, _, _, rfl, hyes [] _ _ _ H1 ⟨by simp, by simp, fun i x y h => by simp at h⟩ ?_ ho1 hn1.fr⟩) (fun h => ?_)
  · rw [beqS] at h
    rw [of_decide_eq_true h]; rfl
  have hne : s ≠ ⟨#[123, 125]⟩ := by rw [beqS] at h; exact of_decide_eq_false h
  refine ⟨fun vs H' => match vs with
      | [.slice a n c, .int _ i] => ∃ (xs : Lbls) (p : Nat), i = p ∧ p ≤ s.size + 1 ∧ xs.length ≤ p ∧ 1 ≤ p ∧ Own encL 55 H.size H' a n c xs ∧ Fr [] H H' ∧ (∀ l, ChkP l → bl s = printL l → (l = xs ∧ p = s.size) ∨ ∃ y m, l = xs ++ y :: m ∧ (bl s).drop p = lblL y ++ restL m)
      | _ => False,
    fun vs _ => match vs with | [_, .int _ i] => s.size + 1 - i.toNat | _ => 0, ⟨[], 1, rfl, by omega, by simp, by omega, ho1, hn1.fr, fun l hl e => ?_⟩, ?_⟩
  · cases l with
    | nil => exact absurd (bl_inj e) hne
    | cons y m => exact .inr ⟨y, m, rfl, by rw [e]; rfl⟩
  rintro J a n c i H2 ⟨xs, p, rfl, hps, hxp, hp1, ho, hf, hcm⟩
  refine brB_of (fun h0 => ?_) (fun h0 => ?_)
  · have h0' : p < s.size := by simpa using h0
    have hcm' : ∀ l, ChkP l → bl s = printL l → ∃ y m, l = xs ++ y :: m ∧ (bl s).drop p = bl y.1 ++ 61 :: (quoteL (bl y.2) ++ restL m) ∧ ∀ b ∈ bl y.1, b ≠ 61 := fun l hl e => by
      rcases hcm l hl e with ⟨_, h⟩ | ⟨y, m, h1, h2⟩
      · omega
      · exact ⟨y, m, h1, by rw [h2, lblL_61], name_noeq (hl.2.1 y (by rw [h1]; simp)).1⟩
    refine ⟨fun vs H' => match vs with
        | [.int _ i] => ∃ k : Nat, i = k ∧ p ≤ k ∧ k ≤ s.size ∧ (∀ b ∈ ((bl s).drop p).take (k - p), b ≠ 61) ∧ H' = H2
        | _ => False,
      fun vs _ => match vs with | [.int _ i] => s.size - i.toNat | _ => 0, ⟨p, rfl, by omega, by omega, by simp, rfl⟩, ?_⟩
    rintro J i H3 ⟨k, rfl, hpk, hks, hu61, rfl⟩
    refine brB_of (fun h1 => ?_) (fun h1 => ?_)
    · have h1' : k < s.size := by simpa using h1
      obtain ⟨ch, h2, h3⟩ := atB_get h1'
      rw [bl_get] at h2
      have h2' : ((bl s).drop p)[k - p]? = some ch := by rw [List.getElem?_drop, show p + (k - p) = k by omega]; exact h2
      refine chk_true (decide_eq_true (by omega)) ?_
      rw [Int.toNat_natCast, ← h3, succ64 (by omega)]
      refine brB_of (fun h4 => ⟨⟨k + 1, rfl, by omega, by omega, ?_, rfl⟩, mu_lt h1'⟩) (fun h4 => ?_)
      · rw [show k + 1 - p = (k - p) + 1 by omega, List.take_add_one, h2']
        intro b hb
        rcases List.mem_append.1 hb with h | h
        · exact hu61 b h
        · simp at h; subst h
          exact fun e => by subst e; simp at h4
      have h4 : ch = 61 := UInt8.toNat.inj (by simp at h4; show ch.toNat = 61; omega)
      subst h4
      have hdr : (bl s).drop p = ((bl s).drop p).take (k - p) ++ 61 :: (bl s).drop (k + 1) := by
        have e1 : ((bl s).drop p).drop (k - p) = 61 :: (bl s).drop (k + 1) := by
          rw [List.drop_drop, show p + (k - p) = k by omega]
          obtain ⟨h4, h5⟩ := List.getElem?_eq_some_iff.1 h2
          rw [← h5, List.getElem_cons_drop]
        rw [← e1, List.take_append_drop]
      refine brB_of (fun h5 => by simp at h5; omega) (fun _ => chk_true (decide_eq_true (by omega)) ?_)
      have htl : bl (s.extract (((k + 1 : Nat) : Int)).toNat ((s.size : Nat) : Int).toNat) = (bl s).drop (k + 1) := by
        simp only [Int.toNat_natCast]
        exact tail_ext (by omega)
      have hsz : (s.extract (((k + 1 : Nat) : Int)).toNat ((s.size : Nat) : Int).toNat).size = s.size - (k + 1) := by
        rw [← bl_len, htl, List.length_drop, hbl]
      refine rQuoted_ok (by omega) fun v m hm hq => ?_
      rw [hsz] at hm
      rw [htl] at hq
      have hcm2 : ∀ l, ChkP l → bl s = printL l → ∃ y r, l = xs ++ y :: r ∧ ((bl s).drop p).take (k - p) = bl y.1 ∧ bl v = bl y.2 ∧ m = (quoteL (bl y.2)).length ∧ (bl s).drop (k + 1) = quoteL (bl y.2) ++ restL r := fun l hl e => by
        obtain ⟨y, r, h5, h6, h7⟩ := hcm' l hl e
        obtain ⟨h8, h9⟩ := cut_first hu61 h7 (hdr.symm.trans h6)
        obtain ⟨h10, h11⟩ := hq _ _ h9
        exact ⟨y, r, h5, h8, h10, h11, h9⟩
      refine brB_of (fun h5 => ⟨_, _, _, _, rfl, hno (fun l hl e => ?_) H3 hf⟩) (fun h5 => ?_)
      · obtain ⟨y, r, _, _, _, h6, _⟩ := hcm2 l hl e
        have := eq_of_beq h5
        simp [quoteL] at h6
        omega
      refine chk_true (decide_eq_true (by omega)) ?_
      have hxs : xs.length ≤ 1000000000 := by omega
      refine ap_one (E := encL) ((s.extract ((p : Nat) : Int).toNat ((k : Nat) : Int).toNat, v) : Lbl) slice23 elem64 ho hf rfl (by have := ho.1; omega) fun _ a' n' c' H4 ho4 hf4 _ => ?_
      have ew : IntKind.i64.wrap (IntKind.i64.wrap (((k + 1 : Nat) : Int) + ((m : Nat) : Int)) + 1) = ((k + 1 + m + 1 : Nat) : Int) := by
        rw [wrap64_of (n := ((k + 1 : Nat) : Int) + ((m : Nat) : Int)) (by omega) (by omega), wrap64_of (by omega) (by omega)]; omega
      rw [ew]
      refine ⟨⟨_, k + 1 + m + 1, rfl, by omega, by simp; omega, by omega, ho4, hf4, fun l hl e => ?_⟩, ?_⟩
      · obtain ⟨y, r, h6, h7, h8, h9, h10⟩ := hcm2 l hl e
        have hy : ((s.extract ((p : Nat) : Int).toNat ((k : Nat) : Int).toNat, v) : Lbl) = y := by
          refine Prod.ext (bl_inj ?_) (bl_inj h8)
          show bl (s.extract ((p : Nat) : Int).toNat ((k : Nat) : Int).toNat) = _
          rw [bl_ext, ← h7, List.take_drop]
          simp only [Int.toNat_natCast]
          rw [show p + (k - p) = k by omega]
        rw [hy]
        have hl2 := congrArg List.length h10
        rw [List.length_drop, hbl, List.length_append, ← h9] at hl2
        have hd2 : (bl s).drop (k + 1 + m + 1) = (restL r).drop 1 := by
          rw [show k + 1 + m + 1 = (k + 1) + (m + 1) by omega, ← List.drop_drop, h10, ← List.drop_drop, h9, List.drop_left]
        cases r with
        | nil => exact .inl ⟨by rw [h6], by simp [restL] at hl2; omega⟩
        | cons z r => exact .inr ⟨z, r, by rw [h6]; simp, by rw [hd2]; rfl⟩
      · show s.size + 1 - (((k + 1 + m + 1 : Nat) : Int)).toNat < s.size + 1 - ((p : Nat) : Int).toNat
        omega
    · have hk : k = s.size := by simp at h1; omega
      subst hk
      refine brB_of (fun _ => ⟨_, _, _, _, rfl, hno (fun l hl e => ?_) H3 hf⟩) (fun h => by simp at h)
      obtain ⟨y, m, _, h2, _⟩ := hcm' l hl e
      have : (61 : UInt8) ∈ ((bl s).drop p).take (s.size - p) := by
        rw [List.take_of_length_le (by rw [List.length_drop, hbl]; omega), h2]; simp
      exact hu61 _ this rfl
  · have hcm' : ∀ l, ChkP l → bl s = printL l → l = xs := fun l hl e => by
      rcases hcm l hl e with ⟨h, _⟩ | ⟨y, m, _, h2⟩
      · exact h
      · rw [List.drop_of_length_le (by simp at h0; omega), lblL_61] at h2
        simp at h2
    refine rPrint_ok ho.sl (fun hC => ?_) fun hC => ?_
    · exact brB_of (fun _ => ⟨_, _, _, _, rfl, hno (fun l hl e => hC (hcm' l hl e ▸ hl)) H2 hf⟩) (fun h => by simp at h)
    · refine brB_of (fun h => by simp at h) (fun _ => brB_of (fun h => ⟨_, _, _, _, rfl, hno (fun l hl e => ?_) H2 hf⟩) (fun h => ⟨_, _, _, _, rfl, hyes xs _ _ _ H2 hC ?_ ho hf⟩))
      · have := hcm' l hl e
        subst this
        have : (⟨(printL l).toArray⟩ : ByteArray) = s := by apply bl_inj; rw [bl_mk, e]
        rw [this] at h
        simp at h
      · rw [beqS] at h
        have h : (⟨(printL xs).toArray⟩ : ByteArray) = s := by simpa using h
        rw [← h, bl_mk]
end Go.Proofs
set_option linter.unusedVariables false
set_option maxRecDepth 100000
open Go Go.GV
namespace Go.Proofs

def foldN (v : Int) : Nat := if 0 ≤ v then (2 * v).toNat else (2 * (-(v + 1)) + 1).toNat
def unfoldN (n : Nat) : Int := if n % 2 = 0 then (n / 2 : Nat) else -((n / 2 : Nat) : Int) - 1
def intL (v : Int) : List UInt8 := uintL (foldN v)
def I64 (v : Int) : Prop := -9223372036854775808 ≤ v ∧ v ≤ 9223372036854775807
theorem foldN_lt {v : Int} (h : I64 v) : foldN v < 18446744073709551616 := by unfold foldN I64 at *; split <;> omega
theorem unfold_fold (v : Int) : unfoldN (foldN v) = v := by unfold unfoldN foldN; split <;> split <;> omega
theorem fold_unfold (n : Nat) : foldN (unfoldN n) = n := by unfold unfoldN foldN; split <;> split <;> omega
theorem unfold_64 {n : Nat} (h : n < 18446744073709551616) : I64 (unfoldN n) := by unfold unfoldN I64; split <;> omega

theorem wrapI_big {n : Int} (h : 9223372036854775808 ≤ n) (h2 : n < 18446744073709551616) : IntKind.i64.wrap n = n - 18446744073709551616 := by
  unfold IntKind.wrap
  simp [IntKind.bits, IntKind.signed]
  omega
theorem xor_ones' {m : Nat} (h : m < 18446744073709551616) : (BitVec.ofInt 64 (m : Int) ^^^ BitVec.ofInt 64 (-1)).toNat = 18446744073709551615 - m := by
  have e : BitVec.ofInt 64 (-1) = BitVec.allOnes 64 := by decide
  rw [e, BitVec.xor_allOnes, BitVec.toNat_not, bvN h]
theorem xor_zero {m : Nat} (h : m < 18446744073709551616) : (BitVec.ofInt 64 (m : Int) ^^^ BitVec.ofInt 64 0).toNat = m := by
  have e : BitVec.ofInt 64 0 = 0#64 := by decide
  rw [e, BitVec.xor_zero, bvN h]

theorem rFold_ok {v : Int} {H : Heap} {K : Int → Heap → Prop} (hv : I64 v) (hk : K (foldN v : Nat) H) : CallH Tryz.prog fn_ref01_Fold ⟨[.int .i64 v]⟩ H fun w H' => ∃ n, w = .int .u64 n ∧ K n H' := by
  apply vc_ref01_Fold
  obtain ⟨h1, h2⟩ := hv
  unfold foldN at hk
  refine brB_of (fun h => ⟨_, rfl, ?_⟩) (fun h => ⟨_, rfl, ?_⟩)
  · have h0 : 0 ≤ v := by simpa using h
    rw [if_pos h0] at hk
    rw [wrapU64 (n := v) (by omega) (by omega), wrapU64 (by omega) (by omega)]
    have : ((2 * v).toNat : Int) = 2 * v := by omega
    rwa [this] at hk
  · have h0 : ¬ 0 ≤ v := by simpa using h
    rw [if_neg h0] at hk
    rw [wrap64_of (n := v + 1) (by omega) (by omega), wrap64_of (by omega) (by omega), wrapU64 (n := 0 - (v + 1)) (by omega) (by omega), wrapU64 (n := 2 * (0 - (v + 1))) (by omega) (by omega), wrapU64 (by omega) (by omega)]
    have : ((2 * (-(v + 1)) + 1).toNat : Int) = 2 * (0 - (v + 1)) + 1 := by omega
    rwa [this] at hk
theorem rInt_ok {v : Int} {H : Heap} {K : ByteArray → Heap → Prop} (hv : I64 v) (hk : ∀ H', Fr [] H H' → K ⟨(intL v).toArray⟩ H') : CallH Tryz.prog fn_ref01_Int ⟨[.int .i64 v]⟩ H fun w H' => ∃ s, w = .string s ∧ K s H' := by
  apply vc_ref01_Int
  exact rFold_ok hv (rUint_ok (foldN_lt hv) fun H' hf => ⟨_, rfl, hk H' hf⟩)
theorem and_one (n : Nat) (h : n < 18446744073709551616) : (BitVec.ofInt 64 (n : Int) &&& BitVec.ofInt 64 1).toNat = n % 2 := by
  have e : BitVec.ofInt 64 1 = 1#64 := by decide
  rw [e, BitVec.toNat_and, bvN h]
  show n &&& 1 = n % 2
  rw [Nat.and_one_is_mod]
theorem Unfold_ok {n : Nat} {H : Heap} {K : Int → Heap → Prop} (hn : n < 18446744073709551616) (hk : K (unfoldN n) H) : CallH Tryz.prog fn_zig_Unfold ⟨[.int .u64 n]⟩ H fun w H' => ∃ v, w = .int .i64 v ∧ K v H' := by
  apply vc_zig_Unfold
  refine ⟨_, rfl, ?_⟩
  unfold unfoldN at hk
  have e1 : Int.fdiv (n : Int) (2 ^ 1) = ((n / 2 : Nat) : Int) := by rw [Int.fdiv_eq_ediv_of_nonneg _ (by decide)]; omega
  rw [e1, and_one n hn, wrapU64 (n := ((n % 2 : Nat) : Int)) (by omega) (by omega), wrap64_of (n := ((n % 2 : Nat) : Int)) (by omega) (by omega), wrap64_of (n := ((n / 2 : Nat) : Int)) (by omega) (by omega)]
  by_cases h0 : n % 2 = 0
  · rw [if_pos h0] at hk
    rw [h0, wrap64_of (n := 0 - ((0 : Nat) : Int)) (by omega) (by omega)]
    show K (IntKind.i64.wrap ((BitVec.ofInt 64 ((n / 2 : Nat) : Int) ^^^ BitVec.ofInt 64 0).toNat : Nat)) H
    rw [xor_zero (by omega), wrap64_of (by omega) (by omega)]
    exact hk
  · rw [if_neg h0] at hk
    have e2 : n % 2 = 1 := by omega
    rw [e2, wrap64_of (n := 0 - ((1 : Nat) : Int)) (by omega) (by omega)]
    show K (IntKind.i64.wrap ((BitVec.ofInt 64 ((n / 2 : Nat) : Int) ^^^ BitVec.ofInt 64 (-1)).toNat : Nat)) H
    rw [xor_ones' (by omega), wrapI_big (by omega) (by omega)]
    have : ((18446744073709551615 - n / 2 : Nat) : Int) - 18446744073709551616 = -((n / 2 : Nat) : Int) - 1 := by omega
    rw [this]; exact hk
theorem rUnfold_ok {n : Nat} {H : Heap} {K : Int → Heap → Prop} (hn : n < 18446744073709551616) (hk : K (unfoldN n) H) : CallH Tryz.prog fn_ref01_Unfold ⟨[.int .u64 n]⟩ H fun w H' => ∃ v, w = .int .i64 v ∧ K v H' := by
  apply vc_ref01_Unfold
  unfold unfoldN at hk
  have e1 : Int.tmod (n : Int) 2 = ((n % 2 : Nat) : Int) := by rw [Int.tmod_eq_emod_of_nonneg (by omega)]; omega
  have e2 : Int.tdiv (n : Int) 2 = ((n / 2 : Nat) : Int) := by rw [Int.tdiv_eq_ediv_of_nonneg (by omega)]; omega
  rw [e1, e2, wrapU64 (n := ((n / 2 : Nat) : Int)) (by omega) (by omega), wrap64_of (n := ((n / 2 : Nat) : Int)) (by omega) (by omega)]
  refine brB_of (fun h => ⟨_, rfl, ?_⟩) (fun h => ⟨_, rfl, ?_⟩)
  · have h0 : n % 2 = 0 := by have := eq_of_beq h; omega
    rwa [if_pos h0] at hk
  · have h0 : ¬ n % 2 = 0 := fun e => by rw [e] at h; simp at h
    rw [if_neg h0] at hk
    rw [wrap64_of (n := 0 - ((n / 2 : Nat) : Int)) (by omega) (by omega), wrap64_of (by omega) (by omega)]
    have : (0 : Int) - ((n / 2 : Nat) : Int) - 1 = -((n / 2 : Nat) : Int) - 1 := by omega
    rw [this]; exact hk
theorem GetInt_ok {s : ByteArray} {at' : Int} {H : Heap} {K : Int → Int → Int → Heap → Prop} (hs : s.size ≤ 100000000000) (hbad : ¬ (0 ≤ at' ∧ at' ≤ s.size) → K 0 0 1 H)
    (hk : ∀ a : Nat, at' = a → a ≤ s.size → ∀ (v : Nat) n e, GU ((bl s).drop a) a v n e → v < 18446744073709551616 → K (unfoldN v) n e H) :
    CallH Tryz.prog fn_zig_GetInt ⟨[.string s, .int .i64 at']⟩ H fun v H' => ∃ n m e, v = .tuple ⟨[.int .i64 n, .int .i64 m, .int .i64 e]⟩ ∧ K n m e H' := by
  apply vc_zig_GetInt
  refine GetUint_ok hs (fun h => ?_) fun a ea ha v n e hg => ?_
  · have := Unfold_ok (n := 0) (H := H) (K := fun w H' => K w 0 1 H') (by omega) (hbad h)
    exact this.mono fun v H' ⟨w, h1, h2⟩ => ⟨w, h1, _, _, _, rfl, h2⟩
  · obtain ⟨m, rfl, hm⟩ : ∃ m : Nat, v = m ∧ m < 18446744073709551616 := by
      rcases hg with ⟨m, h1, h2, _⟩ | ⟨h, _⟩ | ⟨h, _⟩
      · exact ⟨m, h1, h2⟩
      · exact ⟨0, h, by omega⟩
      · exact ⟨0, h, by omega⟩
    have := Unfold_ok (n := m) (H := H) (K := fun w H' => K w n e H') hm (hk a ea ha m n e hg hm)
    exact this.mono fun v H' ⟨w, h1, h2⟩ => ⟨w, h1, _, _, _, rfl, h2⟩
theorem rGetInt_ok {s : ByteArray} {at' : Int} {H : Heap} {K : Int → Int → Int → Heap → Prop} (hs : s.size ≤ 100000000000) (hbad : ¬ (0 ≤ at' ∧ at' ≤ s.size) → K 0 0 1 H)
    (hk : ∀ a : Nat, at' = a → a ≤ s.size → ∀ (v : Nat) n e H', GU ((bl s).drop a) a v n e → v < 18446744073709551616 → Fr [] H H' → K (unfoldN v) n e H') :
    CallH Tryz.prog fn_ref01_GetInt ⟨[.string s, .int .i64 at']⟩ H fun v H' => ∃ n m e, v = .tuple ⟨[.int .i64 n, .int .i64 m, .int .i64 e]⟩ ∧ K n m e H' := by
  apply vc_ref01_GetInt
  refine rGetUint_ok hs (fun h => brB_of (fun _ => ⟨_, _, _, rfl, hbad h⟩) (fun h => by simp at h)) fun a ea ha v n e H' hg hf => ?_
  rcases id hg with ⟨m, rfl, h2, _, _, _, rfl⟩ | ⟨rfl, rfl, rfl, _⟩ | ⟨rfl, rfl, rfl, _⟩
  · refine brB_of (fun h => by simp at h) (fun _ => ?_)
    have := rUnfold_ok (n := m) (H := H') (K := fun w H' => K w n 0 H') h2 (hk a ea ha m n 0 H' hg h2 hf)
    exact this.mono fun v H' ⟨w, h1, h2⟩ => ⟨w, h1, _, _, _, rfl, h2⟩
  · exact brB_of (fun _ => ⟨_, _, _, rfl, hk a ea ha 0 0 10 H' hg (by omega) hf⟩) (fun h => by simp at h)
  · exact brB_of (fun _ => ⟨_, _, _, rfl, hk a ea ha 0 0 11 H' hg (by omega) hf⟩) (fun h => by simp at h)
end Go.Proofs
set_option linter.unusedVariables false
set_option maxRecDepth 100000
open Go Go.GV
namespace Go.Proofs

abbrev Row := Int × Int × Int
def enc3 : Enc Row := ⟨fun x => [.int .i64 x.1, .int .i64 x.2.1, .int .i64 x.2.2], 3, fun _ => rfl, by decide, fun _ v h => by simp at h; rcases h with rfl | rfl | rfl <;> rfl⟩
abbrev Hd := Option Addr × Nat × Nat
structure Rc where
  k : Int
  l : Lbls
  rows : List Row
  tombs : List Row
  at' : Int
abbrev Rm := Int × Hd × Hd × Hd × Int
def rC (m : Rm) : List Value := [.int .i64 m.1, .slice m.2.1.1 m.2.1.2.1 m.2.1.2.2, .slice m.2.2.1.1 m.2.2.1.2.1 m.2.2.1.2.2, .slice m.2.2.2.1.1 m.2.2.2.1.2.1 m.2.2.2.1.2.2, .int .i64 m.2.2.2.2]
structure RcH (H : Heap) (m : Rm) (r : Rc) : Prop where
  k : m.1 = r.k
  l : Sl encL H m.2.1.1 m.2.1.2.1 m.2.1.2.2 r.l
  rows : Sl enc3 H m.2.2.1.1 m.2.2.1.2.1 m.2.2.1.2.2 r.rows
  tombs : Sl enc3 H m.2.2.2.1.1 m.2.2.2.1.2.1 m.2.2.2.1.2.2 r.tombs
  at' : m.2.2.2.2 = r.at'
theorem RcH.keep {H H' : Heap} {m : Rm} {r : Rc} (h : RcH H m r) (hf : Fr [] H H') : RcH H' m r := ⟨h.k, h.l.keep hf, h.rows.keep hf, h.tombs.keep hf, h.at'⟩
def RowP (x : Row) : Prop := (0 ≤ x.1 ∧ x.1 ≤ 1099511627776) ∧ 0 ≤ x.2.1 ∧ x.2.1 ≤ 199
def TombP (x : Row) : Prop := (0 ≤ x.1 ∧ x.1 ≤ 199) ∧ 0 ≤ x.2.1 ∧ x.2.1 < x.2.2 ∧ x.2.2 ≤ 1099511627776
instance (x : Row) : Decidable (RowP x) := inferInstanceAs (Decidable (_ ∧ _))
instance (x : Row) : Decidable (TombP x) := inferInstanceAs (Decidable (_ ∧ _))
structure FineP (r : Rc) : Prop where
  k : 0 ≤ r.k ∧ r.k ≤ 3
  l : r.l ≠ [] → r.k = 0
  rows : r.rows ≠ [] → r.k = 1
  tombs : r.tombs ≠ [] → r.k = 2
  at0 : r.at' ≠ 0 → r.k = 3
  at' : 0 ≤ r.at' ∧ r.at' ≤ 1099511627776
  nr : r.rows.length ≤ 5000
  nt : r.tombs.length ≤ 5000
  row : ∀ x ∈ r.rows, RowP x
  tomb : ∀ x ∈ r.tombs, TombP x
theorem within_ok {n most : Int} {H : Heap} {K : Bool → Heap → Prop} (hk : K (decide (0 ≤ n ∧ n ≤ most)) H) : CallH Tryz.prog fn_wal_within ⟨[.int .i64 n, .int .i64 most]⟩ H fun v H' => ∃ b, v = .bool b ∧ K b H' := by
  apply vc_wal_within
  refine brB_of (fun h => ⟨_, rfl, ?_⟩) (fun h => ⟨_, rfl, ?_⟩)
  · have h0 : 0 ≤ n := by simpa using h
    rwa [show decide (0 ≤ n ∧ n ≤ most) = decide (n ≤ most) from decide_eq_decide.2 ⟨fun h => h.2, fun h => ⟨h0, h⟩⟩] at hk
  · have h0 : ¬ 0 ≤ n := by simpa using h
    rwa [decide_eq_false fun h => h0 h.1] at hk
theorem _root_.Go.GV.Blk.r0 {H : Heap} {b : Nat} {m : Rm} (h : Blk H ⟨b, 0, none⟩ (rC m)) : Ld Tryz.prog 3 H ⟨b, 0, none⟩ (.int .i64 m.1) := h.ld0 (by kernel_rfl) rfl
theorem _root_.Go.GV.Blk.r1 {H : Heap} {b : Nat} {m : Rm} (h : Blk H ⟨b, 0, none⟩ (rC m)) : Ld Tryz.prog 35 H ⟨b, 1, none⟩ (.slice m.2.1.1 m.2.1.2.1 m.2.1.2.2) := h.ldK (j := 1) (by kernel_rfl) rfl
theorem _root_.Go.GV.Blk.r2 {H : Heap} {b : Nat} {m : Rm} (h : Blk H ⟨b, 0, none⟩ (rC m)) : Ld Tryz.prog 36 H ⟨b, 2, none⟩ (.slice m.2.2.1.1 m.2.2.1.2.1 m.2.2.1.2.2) := h.ldK (j := 2) (by kernel_rfl) rfl
theorem _root_.Go.GV.Blk.r3 {H : Heap} {b : Nat} {m : Rm} (h : Blk H ⟨b, 0, none⟩ (rC m)) : Ld Tryz.prog 37 H ⟨b, 3, none⟩ (.slice m.2.2.2.1.1 m.2.2.2.1.2.1 m.2.2.2.1.2.2) := h.ldK (j := 3) (by kernel_rfl) rfl
theorem _root_.Go.GV.Blk.r4 {H : Heap} {b : Nat} {m : Rm} (h : Blk H ⟨b, 0, none⟩ (rC m)) : Ld Tryz.prog 3 H ⟨b, 4, none⟩ (.int .i64 m.2.2.2.2) := h.ldK (j := 4) (by kernel_rfl) rfl
theorem _root_.Go.GV.Blk.i0 {H : Heap} {b : Nat} {x : Row} (h : Blk H ⟨b, 0, none⟩ (enc3.cells x)) : Ld Tryz.prog 3 H ⟨b, 0, none⟩ (.int .i64 x.1) := h.ld0 (by kernel_rfl) rfl
theorem _root_.Go.GV.Blk.i1 {H : Heap} {b : Nat} {x : Row} (h : Blk H ⟨b, 0, none⟩ (enc3.cells x)) : Ld Tryz.prog 3 H ⟨b, 1, none⟩ (.int .i64 x.2.1) := h.ldK (j := 1) (by kernel_rfl) rfl
theorem _root_.Go.GV.Blk.i2 {H : Heap} {b : Nat} {x : Row} (h : Blk H ⟨b, 0, none⟩ (enc3.cells x)) : Ld Tryz.prog 3 H ⟨b, 2, none⟩ (.int .i64 x.2.2) := h.ldK (j := 2) (by kernel_rfl) rfl
theorem ld58 {H : Heap} {ad : Addr} {x : Row} (h : CellsAt H ad (enc3.cells x)) : Ld Tryz.prog 111 H ad (.agg ⟨enc3.cells x⟩) := ld_agg (by kernel_rfl) (by kernel_rfl) h
theorem ld62 {H : Heap} {ad : Addr} {x : Row} (h : CellsAt H ad (enc3.cells x)) : Ld Tryz.prog 115 H ad (.agg ⟨enc3.cells x⟩) := ld_agg (by kernel_rfl) (by kernel_rfl) h
theorem var58 {H : Heap} {x : Row} {zs : List Value} {K : Nat → Heap → Prop} (hz : zs.length = 3)
    (k : ∀ b H', H.size ≤ b → Blk H' ⟨b, 0, none⟩ (enc3.cells x) → Fr [] H H' → K b H') :
    ∀ b H', New H b (.cells ⟨zs⟩ 111) H' → ∃ H'_1, St Tryz.prog 111 H' ⟨b, 0, none⟩ (.agg ⟨enc3.cells x⟩) H'_1 ∧ K b H'_1 :=
  var_blk (by kernel_rfl) (by kernel_rfl) (fun v h => by simp [Value.cells, enc3] at h; rcases h with rfl | rfl | rfl <;> rfl) hz k
theorem var62 {H : Heap} {x : Row} {zs : List Value} {K : Nat → Heap → Prop} (hz : zs.length = 3)
    (k : ∀ b H', H.size ≤ b → Blk H' ⟨b, 0, none⟩ (enc3.cells x) → Fr [] H H' → K b H') :
    ∀ b H', New H b (.cells ⟨zs⟩ 115) H' → ∃ H'_1, St Tryz.prog 115 H' ⟨b, 0, none⟩ (.agg ⟨enc3.cells x⟩) H'_1 ∧ K b H'_1 :=
  var_blk (by kernel_rfl) (by kernel_rfl) (fun v h => by simp [Value.cells, enc3] at h; rcases h with rfl | rfl | rfl <;> rfl) hz k

def Small (m : Rm) : Prop := m.2.1.2.1 ≤ 1000000000 ∧ m.2.2.1.2.1 ≤ 1000000000 ∧ m.2.2.2.1.2.1 ≤ 1000000000
theorem check_ok {H : Heap} {m : Rm} {r : Rc} {K : Bool → Heap → Prop} (h : RcH H m r) (hs : Small m) (hyes : FineP r → ∀ H', Fr [] H H' → K true H') (hno : ¬ FineP r → ∀ H', Fr [] H H' → K false H') :
    CallH Tryz.prog fn_wal_check ⟨[.agg ⟨rC m⟩]⟩ H fun v H' => ∃ b, v = .bool b ∧ K b H' := by
  apply vc_wal_check
  intro b H1 hn1
  have hb : Blk H1 ⟨b, 0, none⟩ (rC m) := hn1.blk
  have h1 := h.keep hn1.fr
  refine ⟨_, _, _, hb.r1, _, _, _, hb.r2, _, _, _, hb.r3, _, hb.r4, ?_⟩
  have hl1 := h.l.len
  have hl2 := h.rows.len
  have hl3 := h.tombs.len
  obtain ⟨s1, s2, s3⟩ := hs
  have bad : ∀ {H' : Heap}, Fr [] H H' → ¬ FineP r → ∃ b, Value.bool false = .bool b ∧ K b H' := fun hf hn => ⟨_, rfl, hno hn _ hf⟩
  intro b1 H2 hn2
  have st : ∀ {vs : List Value} {zs : List Value} {X : Heap → Prop}, H2 = H2 → vs.length = 4 → (∀ v ∈ vs, ∃ x, v = .bool x) → (∀ H', Fr [] H1 H' → Blk H' ⟨b1, 0, none⟩ vs → X H') → ∃ H', St Tryz.prog 156 H2 ⟨b1, 0, none⟩ (.agg ⟨vs⟩) H' ∧ X H' := fun {vs zs X} _ hv hvb hX => by
    refine hn2.blk.st0 (v := .agg ⟨vs⟩) (by show szOf Tryz.prog 156 = vs.length; rw [hv]; kernel_rfl) (by kernel_rfl) (fun x hx => ?_) (by show vs.length ≤ 4; omega) fun H' hb' hf' => hX H' (hn2.fr.keep hf' (fun k hk => by simp at hk; have := hn2.eq; omega)) ?_
    · have hx : x ∈ vs := by simpa [Value.cells] using hx
      obtain ⟨y, rfl⟩ := hvb x hx; rfl
    · have e : ((Value.agg ⟨vs⟩).cells.toList ++ [Value.bool false, .bool false, .bool false, .bool false].drop (Value.agg ⟨vs⟩).cells.toList.length) = vs := by
        show vs ++ [Value.bool false, .bool false, .bool false, .bool false].drop vs.length = vs
        rw [hv]; simp
      rw [e] at hb'; exact hb'
  refine st (zs := []) rfl rfl (fun v hv => by simp only [List.mem_cons, List.not_mem_nil, or_false] at hv; rcases hv with rfl | rfl | rfl | rfl <;> exact ⟨_, rfl⟩) fun H3 hf3 hb3 => ?_
  have hf03 := hn1.fr.keep0 hf3
  have hb0 := hb.keep hf3
  refine ⟨_, _, _, _, hb3.ldA0 (by kernel_rfl) (by kernel_rfl) rfl, ?_⟩
  have own : ∀ n : Nat, n < 4 → ∃ w, Pt Tryz.prog 4 [.bool (decide ((m.2.1.2.1 : Int) > 0)), .bool (decide ((m.2.2.1.2.1 : Int) > 0)), .bool (decide ((m.2.2.2.1.2.1 : Int) > 0)), .bool (m.2.2.2.2 != 0)] (Int.toNat (n : Int) * 1) (.bool w) ∧
      (w = true ↔ (n = 0 ∧ r.l ≠ []) ∨ (n = 1 ∧ r.rows ≠ []) ∨ (n = 2 ∧ r.tombs ≠ []) ∨ (n = 3 ∧ r.at' ≠ 0)) := fun n hn => by
    have e1 : ∀ {α : Type} {l : List α} {k : Nat}, k = l.length → (decide ((k : Int) > 0) = true ↔ l ≠ []) := fun {α l k} e => by
      cases l <;> simp at e <;> simp [e]
    match n, hn with
    | 0, _ => exact ⟨decide ((m.2.1.2.1 : Int) > 0), by unfold Pt; kernel_rfl, by rw [e1 hl1]; simp⟩
    | 1, _ => exact ⟨decide ((m.2.2.1.2.1 : Int) > 0), by unfold Pt; kernel_rfl, by rw [e1 hl2]; simp⟩
    | 2, _ => exact ⟨decide ((m.2.2.2.1.2.1 : Int) > 0), by unfold Pt; kernel_rfl, by rw [e1 hl3]; simp⟩
    | 3, _ => exact ⟨m.2.2.2.2 != 0, by unfold Pt; kernel_rfl, by rw [h.at']; simp⟩
  refine ⟨fun vs H' => match vs with | [.int _ i] => ∃ k : Nat, i = k ∧ k ≤ 4 ∧ (0 < k → r.l ≠ [] → r.k = 0) ∧ (1 < k → r.rows ≠ [] → r.k = 1) ∧ (2 < k → r.tombs ≠ [] → r.k = 2) ∧ (3 < k → r.at' ≠ 0 → r.k = 3) ∧ H' = H3 | _ => False,
    fun vs _ => match vs with | [.int _ i] => 4 - i.toNat | _ => 0, ⟨0, rfl, by omega, by omega, by omega, by omega, by omega, rfl⟩, ?_⟩
  rintro J i H4 ⟨k, rfl, hk4, g1, g2, g3, g4, rfl⟩
  refine brB_of (fun h0 => ?_) (fun h0 => ?_)
  · have h0' : k < 4 := by simp at h0; omega
    refine chk_true (decide_eq_true (by omega)) ?_
    obtain ⟨w, hw, hwi⟩ := own k h0'
    refine ⟨w, hw, ?_⟩
    rw [succ64 (by omega)]
    refine brB_of (fun h2 => ⟨_, hb0.r0, ?_⟩) (fun h2 => ?_)
    · have h2 := hwi.1 h2
      rw [h.k]
      refine brB_of (fun h3 => bad hf03 fun hF => ?_) (fun h3 => ⟨⟨k + 1, rfl, by omega, ?_, ?_, ?_, ?_, rfl⟩, mu_lt h0'⟩)
      · have h3 : (k : Int) ≠ r.k := by simpa using h3
        rcases h2 with ⟨e, h2⟩ | ⟨e, h2⟩ | ⟨e, h2⟩ | ⟨e, h2⟩
        · exact h3 (by rw [hF.l h2, e]; rfl)
        · exact h3 (by rw [hF.rows h2, e]; rfl)
        · exact h3 (by rw [hF.tombs h2, e]; rfl)
        · exact h3 (by rw [hF.at0 h2, e]; rfl)
      all_goals
        have h3 : (k : Int) = r.k := by simpa using h3
        intro hk hne
      · by_cases e : 0 < k
        · exact g1 e hne
        · omega
      · by_cases e : 1 < k
        · exact g2 e hne
        · omega
      · by_cases e : 2 < k
        · exact g3 e hne
        · omega
      · by_cases e : 3 < k
        · exact g4 e hne
        · omega
    · have h2 : ¬ w = true := by simpa using h2
      rw [hwi] at h2
      refine ⟨⟨k + 1, rfl, by omega, fun hk hne => ?_, fun hk hne => ?_, fun hk hne => ?_, fun hk hne => ?_, rfl⟩, mu_lt h0'⟩
      · by_cases e : 0 < k
        · exact g1 e hne
        · exact absurd (.inl ⟨by omega, hne⟩) h2
      · by_cases e : 1 < k
        · exact g2 e hne
        · exact absurd (.inr (.inl ⟨by omega, hne⟩)) h2
      · by_cases e : 2 < k
        · exact g3 e hne
        · exact absurd (.inr (.inr (.inl ⟨by omega, hne⟩))) h2
      · by_cases e : 3 < k
        · exact g4 e hne
        · exact absurd (.inr (.inr (.inr ⟨by omega, hne⟩))) h2
  have hk4' : k = 4 := by simp at h0; omega
  subst hk4'
  refine ⟨_, _, _, hb0.r2, ?_⟩
  refine ⟨fun vs H' => match vs with | [.int _ i] => ∃ k : Nat, i = k ∧ k ≤ m.2.2.1.2.1 ∧ (∀ x ∈ r.rows.take k, RowP x) ∧ Fr [] H4 H' | _ => False,
    fun vs _ => match vs with | [.int _ i] => m.2.2.1.2.1 - i.toNat | _ => 0, ⟨0, rfl, by omega, by simp, Fr.refl _ _⟩, ?_⟩
  rintro J i H5 ⟨k, rfl, hkn, hrow, hf5⟩
  refine brB_of (fun h0 => ?_) (fun h0 => ?_)
  · have h0' : k < m.2.2.1.2.1 := by simpa using h0
    have hx1 : r.rows[k]? = some (r.rows[k]'(by omega)) := by simp
    generalize r.rows[k]'(by omega) = x at hx1
    refine ((h.rows.keep hf03).keep hf5).get rfl hx1 (decide_eq_true (by omega)) fun ad ea hc => ⟨_, _, _, ld58 hc, ?_⟩
    refine var58 rfl fun bx H6 hbx hv hf6 => ⟨_, hv.i0, within_ok ?_⟩
    have hf06 := (hf03.keep0 hf5).keep0 hf6
    refine brB_of (fun h2 => bad hf06 fun hF => ?_) (fun h2 => ⟨_, hv.i1, within_ok (brB_of (fun h3 => bad hf06 fun hF => ?_) (fun h3 => ?_))⟩)
    · have := (hF.row x (List.mem_of_getElem? hx1)).1
      simp [this] at h2
    · have := (hF.row x (List.mem_of_getElem? hx1)).2
      simp [this] at h3
    · rw [succ64 (by omega)]
      refine ⟨⟨k + 1, rfl, by omega, fun y hy => ?_, hf5.keep0 hf6⟩, mu_lt h0'⟩
      rw [List.take_add_one, hx1] at hy
      rcases List.mem_append.1 hy with hy | hy
      · exact hrow y hy
      · simp at hy; subst hy
        exact ⟨of_decide_eq_true (by simpa using h2), of_decide_eq_true (by simpa using h3)⟩
  rw [List.take_of_length_le (by simp at h0; omega)] at hrow
  have hf05 := hf03.keep0 hf5
  have hb5 := hb0.keep hf5
  refine ⟨_, _, _, hb5.r3, ?_⟩
  refine ⟨fun vs H' => match vs with | [.int _ i] => ∃ k : Nat, i = k ∧ k ≤ m.2.2.2.1.2.1 ∧ (∀ x ∈ r.tombs.take k, TombP x) ∧ Fr [] H5 H' | _ => False,
    fun vs _ => match vs with | [.int _ i] => m.2.2.2.1.2.1 - i.toNat | _ => 0, ⟨0, rfl, by omega, by simp, Fr.refl _ _⟩, ?_⟩
  rintro J i H6 ⟨k, rfl, hkn, htomb, hf6⟩
  have hf06 := hf05.keep0 hf6
  refine brB_of (fun h0 => ?_) (fun h0 => ?_)
  · have h0' : k < m.2.2.2.1.2.1 := by simpa using h0
    have hx1 : r.tombs[k]? = some (r.tombs[k]'(by omega)) := by simp
    generalize r.tombs[k]'(by omega) = x at hx1
    have hmem := List.mem_of_getElem? hx1
    refine ⟨fun _ H' => Fr [] H6 H' ∧ TombP x, ?_, ?_⟩
    · refine (h.tombs.keep hf06).get rfl hx1 (decide_eq_true (by omega)) fun ad ea hc => ⟨_, _, _, ld62 hc, ?_⟩
      refine var62 rfl fun bx H7 hbx hv hf7 => ⟨_, hv.i0, within_ok ?_⟩
      have hf07 := hf06.keep0 hf7
      refine brB_of (fun h2 => bad hf07 fun hF => ?_) (fun h2 => ⟨_, hv.i1, brB_of (fun h3 => bad hf07 fun hF => ?_) (fun h3 => ⟨_, hv.i2, _, hv.i1, brB_of (fun h4 => bad hf07 fun hF => ?_) (fun h4 => ⟨_, hv.i2, brB_of (fun h5 => bad hf07 fun hF => ?_) (fun h5 => ⟨hf7, ?_⟩)⟩)⟩)⟩)
      · have := (hF.tomb x hmem).1
        simp [this] at h2
      · have := (hF.tomb x hmem).2.1
        simp at h3; omega
      · have := (hF.tomb x hmem).2.2.1
        simp at h4; omega
      · have := (hF.tomb x hmem).2.2.2
        simp at h5; omega
      · refine ⟨of_decide_eq_true (by simpa using h2), ?_, ?_, ?_⟩
        · simp at h3; omega
        · simp at h4; omega
        · simp at h5; omega
    · rintro J H7 ⟨hf7, hx⟩
      rw [succ64 (by omega)]
      refine ⟨⟨k + 1, rfl, by omega, fun y hy => ?_, hf6.keep0 hf7⟩, mu_lt h0'⟩
      rw [List.take_add_one, hx1] at hy
      rcases List.mem_append.1 hy with hy | hy
      · exact htomb y hy
      · simp at hy; subst hy; exact hx
  rw [List.take_of_length_le (by simp at h0; omega)] at htomb
  have hb6 := hb5.keep hf6
  refine ⟨_, hb6.r0, within_ok (brB_of (fun h2 => ⟨_, hb6.r4, within_ok (brB_of (fun h3 => ⟨_, _, _, hb6.r2, brB_of (fun h4 => ⟨_, _, _, hb6.r3, ?_⟩) (fun h4 => bad hf06 fun hF => ?_)⟩) (fun h3 => bad hf06 fun hF => ?_))⟩) (fun h2 => bad hf06 fun hF => ?_))⟩
  · have h2 := of_decide_eq_true h2
    have h3 := of_decide_eq_true h3
    have h4 : m.2.2.1.2.1 ≤ 5000 := by simp at h4; omega
    rw [h.k] at h2
    rw [h.at'] at h3
    by_cases h5 : m.2.2.2.1.2.1 ≤ 5000
    · rw [decide_eq_true (by omega)]
      exact ⟨_, rfl, hyes ⟨h2, g1 (by omega), g2 (by omega), g3 (by omega), g4 (by omega), h3, by omega, by omega, hrow, htomb⟩ _ hf06⟩
    · rw [decide_eq_false (by omega)]
      exact ⟨_, rfl, hno (fun hF => by have := hF.nt; omega) _ hf06⟩
  · have := hF.nr
    simp at h4; omega
  · have := hF.at'
    rw [h.at'] at h3
    exact absurd this (of_decide_eq_false h3)
  · have := hF.k
    rw [h.k] at h2
    exact absurd this (of_decide_eq_false h2)
end Go.Proofs
set_option linter.unusedVariables false
set_option maxRecDepth 100000
open Go Go.GV
namespace Go.Proofs

theorem app_mk (x y : List UInt8) : ((⟨x.toArray⟩ : ByteArray) ++ ⟨y.toArray⟩) = ⟨(x ++ y).toArray⟩ := by
  apply bl_inj
  rw [bl_app, bl_mk, bl_mk, bl_mk]
def pS (l : Lbls) : ByteArray := ⟨(printL l).toArray⟩
theorem bl_pS (l : Lbls) : bl (pS l) = printL l := by unfold pS; rw [bl_mk]
def U64 (v : Int) : Prop := 0 ≤ v ∧ v < 18446744073709551616
def uL (v : Int) : List UInt8 := uintL v.toNat
theorem uL_len {v : Int} (h : U64 v) : (uL v).length ≤ 10 := uintL_len10 (by unfold U64 at h; omega)
def rowL (x : Row) : List UInt8 := uL x.1 ++ (uL x.2.1 ++ intL x.2.2)
def tombL (x : Row) : List UInt8 := uL x.1 ++ (uL x.2.1 ++ uL x.2.2)
def TypR (r : Rc) : Prop := ∀ x ∈ r.rows, I64 x.2.2
open Classical in
def bodyR (r : Rc) : List UInt8 := if r.k = 0 then textL (pS r.l) else if r.k = 1 then uintL r.rows.length ++ r.rows.flatMap rowL else if r.k = 2 then uintL r.tombs.length ++ r.tombs.flatMap tombL else uL r.at'
def encR (r : Rc) : List UInt8 := uL r.k ++ bodyR r
theorem rowL_len {x : Row} (h : RowP x) (h2 : I64 x.2.2) : (rowL x).length ≤ 30 := by
  unfold rowL
  have h1 := uL_len (v := x.1) ⟨h.1.1, by have := h.1.2; omega⟩
  have h3 := uL_len (v := x.2.1) ⟨h.2.1, by have := h.2.2; omega⟩
  have h4 : (intL x.2.2).length ≤ 10 := uintL_len10 (foldN_lt h2)
  simp only [List.length_append]; omega
theorem tombL_len {x : Row} (h : TombP x) : (tombL x).length ≤ 30 := by
  unfold tombL
  have h1 := uL_len (v := x.1) ⟨h.1.1, by have := h.1.2; omega⟩
  have h3 := uL_len (v := x.2.1) ⟨h.2.1, by have := h.2.2; omega⟩
  have h4 := uL_len (v := x.2.2) ⟨by have := h.2; omega, by have := h.2; omega⟩
  simp only [List.length_append]; omega
theorem flat30 {f : Row → List UInt8} {l : List Row} (h : ∀ x ∈ l, (f x).length ≤ 30) : (l.flatMap f).length ≤ 30 * l.length := by
  induction l with
  | nil => simp
  | cons x l ih =>
    have h1 := h x (by simp)
    have h2 := ih fun y hy => h y (by simp [hy])
    simp only [List.flatMap_cons, List.length_append, List.length_cons]; omega
def headF (f : Row → List UInt8) (l : List Row) (k : Nat) : List UInt8 := uintL l.length ++ (l.take k).flatMap f
theorem headF_len {f : Row → List UInt8} {l : List Row} (h : ∀ x ∈ l, (f x).length ≤ 30) (h2 : l.length ≤ 5000) (k : Nat) : (headF f l k).length ≤ 200000 := by
  unfold headF
  have h1 := uintL_len10 (n := l.length) (by omega)
  have h3 := flat30 (l := l.take k) fun x hx => h x (List.mem_of_mem_take hx)
  rw [List.length_take] at h3
  rw [List.length_append]; omega
theorem headF_snoc {f : Row → List UInt8} {l : List Row} {k : Nat} {x : Row} (h : l[k]? = some x) : headF f l (k + 1) = headF f l k ++ f x := by
  unfold headF
  rw [List.take_add_one, h]; simp
theorem headF_all {f : Row → List UInt8} {l : List Row} {k : Nat} (h : l.length ≤ k) : headF f l k = uintL l.length ++ l.flatMap f := by
  unfold headF; rw [List.take_of_length_le h]
end Go.Proofs
set_option linter.unusedVariables false
set_option maxRecDepth 100000
open Go Go.GV
namespace Go.Proofs

theorem forms_ok {H : Heap} {K : Value → Value → Value → Value → Value → Value → Value → Value → Heap → Prop} (hk : ∀ H', Fr [] H H' → K (.func (.func 70) ⟨[]⟩ ⟨[]⟩) (.func (.func 72) ⟨[]⟩ ⟨[]⟩) (.func (.func 74) ⟨[]⟩ ⟨[]⟩) (.func (.func 76) ⟨[]⟩ ⟨[]⟩) (.func (.func 78) ⟨[]⟩ ⟨[]⟩) (.func (.func 79) ⟨[]⟩ ⟨[]⟩) (.func (.func 80) ⟨[]⟩ ⟨[]⟩) (.func (.func 81) ⟨[]⟩ ⟨[]⟩) H') :
    CallH Tryz.prog fn_wal_forms ⟨[]⟩ H fun v H' => ∃ v_1 v_2 v_3 v_4 v_5 v_6 v_7 v_8, v = .agg ⟨[v_1, v_2, v_3, v_4, v_5, v_6, v_7, v_8]⟩ ∧ K v_1 v_2 v_3 v_4 v_5 v_6 v_7 v_8 H' := by
  apply vc_wal_forms
  intro b H1 hn1
  refine hn1.blk.st0 (v := .agg ⟨_⟩) (by kernel_rfl) (by kernel_rfl) (fun x hx => ?_) (by simp [Value.cells]) fun H2 hb2 hf2 => ?_
  · simp [Value.cells] at hx
    rcases hx with rfl | rfl | rfl | rfl | rfl | rfl | rfl | rfl <;> rfl
  · have hb2' : Blk H2 ⟨b, 0, none⟩ [.func (.func 70) ⟨[]⟩ ⟨[]⟩, .func (.func 72) ⟨[]⟩ ⟨[]⟩, .func (.func 74) ⟨[]⟩ ⟨[]⟩, .func (.func 76) ⟨[]⟩ ⟨[]⟩, .func (.func 78) ⟨[]⟩ ⟨[]⟩, .func (.func 79) ⟨[]⟩ ⟨[]⟩, .func (.func 80) ⟨[]⟩ ⟨[]⟩, .func (.func 81) ⟨[]⟩ ⟨[]⟩] := by simpa [Value.cells] using hb2
    exact ⟨_, _, _, _, _, _, _, _, hb2'.ldA0 (by kernel_rfl) (by kernel_rfl) rfl, _, _, _, _, _, _, _, _, rfl, hk H2 (hn1.fr.keep hf2 (fun k hk => by simp at hk; have := hn1.eq; omega))⟩

theorem bodyR_len {r : Rc} (hF : FineP r) (hT : TypR r) (hC : r.k = 0 → ChkP r.l) : (bodyR r).length ≤ 200000 := by
  unfold bodyR
  split
  · rename_i h
    have := printL_len (hC h)
    unfold textL
    rw [List.length_append, bl_pS]
    have h2 : (pS r.l).size ≤ 700 := by rw [← bl_len, bl_pS]; exact this
    have := uintL_len10 (n := (pS r.l).size) (by omega)
    omega
  · split
    · have := headF_len (f := rowL) (l := r.rows) (fun x hx => rowL_len (hF.row x hx) (hT x hx)) hF.nr r.rows.length
      rwa [headF_all (Nat.le_refl _)] at this
    · split
      · have := headF_len (f := tombL) (l := r.tombs) (fun x hx => tombL_len (hF.tomb x hx)) hF.nt r.tombs.length
        rwa [headF_all (Nat.le_refl _)] at this
      · have := uL_len (v := r.at') ⟨hF.at'.1, by have := hF.at'.2; omega⟩
        omega

end Go.Proofs
set_option linter.unusedVariables false
set_option maxRecDepth 100000
open Go Go.GV
namespace Go.Proofs

end Go.Proofs
set_option linter.unusedVariables false
set_option maxRecDepth 100000
open Go Go.GV
namespace Go.Proofs

theorem time_ok {n : Int} {H : Heap} {K : Bool → Heap → Prop} (hk : K (decide (0 ≤ n ∧ n ≤ 1099511627776)) H) : CallH Tryz.prog fn_ref11_time ⟨[.int .i64 n]⟩ H fun v H' => ∃ b, v = .bool b ∧ K b H' := by
  apply vc_ref11_time
  refine brB_of (fun h => ⟨_, rfl, ?_⟩) (fun h => ⟨_, rfl, ?_⟩)
  · have h0 : 0 ≤ n := by simpa using h
    rwa [show decide (0 ≤ n ∧ n ≤ 1099511627776) = decide (n ≤ 1099511627776) from decide_eq_decide.2 ⟨fun h => h.2, fun h => ⟨h0, h⟩⟩] at hk
  · have h0 : ¬ 0 ≤ n := by simpa using h
    rwa [decide_eq_false fun h => h0 h.1] at hk
theorem id_ok {n : Int} {H : Heap} {K : Bool → Heap → Prop} (hk : K (decide (0 ≤ n ∧ n ≤ 199)) H) : CallH Tryz.prog fn_ref11_id ⟨[.int .i64 n]⟩ H fun v H' => ∃ b, v = .bool b ∧ K b H' := by
  apply vc_ref11_id
  refine brB_of (fun h => ⟨_, rfl, ?_⟩) (fun h => ⟨_, rfl, ?_⟩)
  · have h0 : 0 ≤ n := by simpa using h
    rwa [show decide (0 ≤ n ∧ n ≤ 199) = decide (n < 200) from decide_eq_decide.2 ⟨fun h => by omega, fun h => by omega⟩] at hk
  · have h0 : ¬ 0 ≤ n := by simpa using h
    rwa [decide_eq_false fun h => h0 h.1] at hk
def GG (k : Int) (n1 n2 n3 : Nat) (t : Int) : Prop := (0 ≤ k ∧ k ≤ 3) ∧ (0 < n1 → k = 0) ∧ (0 < n2 → k = 1) ∧ (0 < n3 → k = 2) ∧ (t ≠ 0 → k = 3) ∧ (0 ≤ t ∧ t ≤ 1099511627776) ∧ n2 ≤ 5000 ∧ n3 ≤ 5000
instance (k : Int) (n1 n2 n3 : Nat) (t : Int) : Decidable (GG k n1 n2 n3 t) := by unfold GG; infer_instance
theorem gg_of {r : Rc} {m : Rm} {H : Heap} (h : RcH H m r) : FineP r ↔ GG m.1 m.2.1.2.1 m.2.2.1.2.1 m.2.2.2.1.2.1 m.2.2.2.2 ∧ (∀ x ∈ r.rows, RowP x) ∧ ∀ x ∈ r.tombs, TombP x := by
  have h1 := h.l.len
  have h2 := h.rows.len
  have h3 := h.tombs.len
  have e : ∀ {α : Type} {l : List α} {k : Nat}, k = l.length → (0 < k ↔ l ≠ []) := fun {α l k} e => by cases l <;> simp at e <;> simp [e]
  unfold GG
  rw [e h1, e h2, e h3, h.k, h.at', h2, h3]
  exact ⟨fun f => ⟨⟨f.k, f.l, f.rows, f.tombs, f.at0, f.at', f.nr, f.nt⟩, f.row, f.tomb⟩, fun ⟨⟨a, b, c, d, e, f, g, i⟩, j, k⟩ => ⟨a, b, c, d, e, f, g, i, j, k⟩⟩
theorem ldT0 {H : Heap} {ad : Addr} {x : Row} (h : CellsAt H ad (enc3.cells x)) : Ld Tryz.prog 3 H ad (.int .i64 x.1) := ld_cell (by kernel_rfl) (by have := h 0 _ rfl; simpa [Addr.add] using this)
theorem ldT1 {H : Heap} {ad : Addr} {x : Row} (h : CellsAt H ad (enc3.cells x)) : Ld Tryz.prog 3 H (ad.add 1) (.int .i64 x.2.1) := ld_part (by kernel_rfl) h (j := 1) rfl
theorem ldT2 {H : Heap} {ad : Addr} {x : Row} (h : CellsAt H ad (enc3.cells x)) : Ld Tryz.prog 3 H (ad.add 2) (.int .i64 x.2.2) := ld_part (by kernel_rfl) h (j := 2) rfl
set_option maxHeartbeats 4000000 in
theorem fine_ok {H : Heap} {m : Rm} {r : Rc} {K : Bool → Heap → Prop} (h : RcH H m r) (hs : Small m) (hyes : FineP r → ∀ H', Fr [] H H' → K true H') (hno : ¬ FineP r → ∀ H', Fr [] H H' → K false H') :
    CallH Tryz.prog fn_ref11_fine ⟨[.agg ⟨rC m⟩]⟩ H fun v H' => ∃ b, v = .bool b ∧ K b H' := by
  apply vc_ref11_fine
  intro b H1 hn1
  have hb : Blk H1 ⟨b, 0, none⟩ (rC m) := hn1.blk
  have hl2 := h.rows.len
  have hl3 := h.tombs.len
  have hgg := gg_of h
  obtain ⟨s1, s2, s3⟩ := hs
  have bad : ∀ {H' : Heap}, Fr [] H H' → ¬ FineP r → ∃ b, Value.bool false = .bool b ∧ K b H' := fun hf hn => ⟨_, rfl, hno hn _ hf⟩
  refine ⟨fun _ H' => H' = H1 ∧ GG m.1 m.2.1.2.1 m.2.2.1.2.1 m.2.2.2.1.2.1 m.2.2.2.2, ?_, ?_⟩
  · refine ⟨fun vs H' => vs = [.bool (!decide (GG m.1 m.2.1.2.1 m.2.2.1.2.1 m.2.2.2.1.2.1 m.2.2.2.2))] ∧ H' = H1, ?_, ?_⟩
    · have leaf : ∀ {x : Bool}, (x = !decide (GG m.1 m.2.1.2.1 m.2.2.1.2.1 m.2.2.2.1.2.1 m.2.2.2.2)) → ([Value.bool x] = [.bool (!decide (GG m.1 m.2.1.2.1 m.2.2.1.2.1 m.2.2.2.1.2.1 m.2.2.2.2))] ∧ H1 = H1) := fun e => ⟨by rw [e], rfl⟩
      have r0 := hb.r0
      have r1 := hb.r1
      have r2 := hb.r2
      have r3 := hb.r3
      have r4 := hb.r4
      clear hyes hno bad hgg h hl2 hl3 hn1 hb
      generalize m.1 = k at *
      generalize m.2.2.2.2 = t at *
      generalize m.2.1 = y1 at *
      generalize m.2.2.1 = y2 at *
      generalize m.2.2.2.1 = y3 at *
      obtain ⟨a1, n1, c1⟩ := y1
      obtain ⟨a2, n2, c2⟩ := y2
      obtain ⟨a3, n3, c3⟩ := y3
      dsimp only at *
      repeat' first
        | refine ⟨_, r0, ?_⟩
        | refine ⟨_, _, _, r1, ?_⟩
        | refine ⟨_, _, _, r2, ?_⟩
        | refine ⟨_, _, _, r3, ?_⟩
        | refine ⟨_, r4, ?_⟩
        | refine time_ok ?_
        | refine brB_of (fun hq => ?_) (fun hq => ?_)
        | exact leaf (by
            simp only [decide_eq_true_eq, decide_eq_false_iff_not, bne_iff_ne, ne_eq, bne_eq_false_iff_eq, Bool.not_eq_true', Bool.not_eq_false'] at *
            first
              | (rw [decide_eq_false (by unfold GG; omega)]; rfl)
              | (rw [← decide_not]; exact decide_eq_decide.2 (by unfold GG; omega)))
    · rintro J w H2 ⟨e, rfl⟩
      simp only [List.cons.injEq, Value.bool.injEq, and_true] at e
      subst e
      refine brB_of (fun h2 => bad hn1.fr fun hF => ?_) (fun h2 => ⟨rfl, ?_⟩)
      · have := (hgg.1 hF).1
        simp [this] at h2
      · simpa using h2
  rintro J H2 ⟨rfl, hG⟩
  have hf02 := hn1.fr
  refine ⟨fun vs H' => match vs with | [.int _ i] => ∃ k : Nat, i = k ∧ k ≤ m.2.2.1.2.1 ∧ (∀ x ∈ r.rows.take k, RowP x) ∧ H' = H2 | _ => False,
    fun vs _ => match vs with | [.int _ i] => m.2.2.1.2.1 - i.toNat | _ => 0, ⟨0, rfl, by omega, by simp, rfl⟩, ?_⟩
  rintro J i H5 ⟨k, rfl, hkn, hrow, rfl⟩
  refine ⟨_, _, _, hb.r2, brB_of (fun h0 => ?_) (fun h0 => ?_)⟩
  · have h0' : k < m.2.2.1.2.1 := by simpa using h0
    have hx1 : r.rows[k]? = some (r.rows[k]'(by omega)) := by simp
    generalize r.rows[k]'(by omega) = x at hx1
    refine ⟨_, _, _, hb.r2, (h.rows.keep hf02).get rfl hx1 (decide_eq_true (by omega)) fun ad ea hc => ⟨_, ldT0 hc, time_ok (brB_of (fun h2 => bad hf02 fun hF => ?_) (fun h2 => ⟨_, _, _, hb.r2, (h.rows.keep hf02).get rfl hx1 (decide_eq_true (by omega)) fun ad2 ea2 hc2 => ⟨_, ldT1 hc2, id_ok (brB_of (fun h3 => bad hf02 fun hF => ?_) (fun h3 => ?_))⟩⟩))⟩⟩
    · have := (hF.row x (List.mem_of_getElem? hx1)).1
      simp [this] at h2
    · have := (hF.row x (List.mem_of_getElem? hx1)).2
      simp [this] at h3
    · rw [succ64 (by omega)]
      refine ⟨⟨k + 1, rfl, by omega, fun y hy => ?_, rfl⟩, mu_lt h0'⟩
      rw [List.take_add_one, hx1] at hy
      rcases List.mem_append.1 hy with hy | hy
      · exact hrow y hy
      · simp at hy; subst hy
        exact ⟨of_decide_eq_true (by simpa using h2), of_decide_eq_true (by simpa using h3)⟩
  rw [List.take_of_length_le (by simp at h0; omega)] at hrow
  refine ⟨fun vs H' => match vs with | [.int _ i] => ∃ k : Nat, i = k ∧ k ≤ m.2.2.2.1.2.1 ∧ (∀ x ∈ r.tombs.take k, TombP x) ∧ Fr [] H5 H' | _ => False,
    fun vs _ => match vs with | [.int _ i] => m.2.2.2.1.2.1 - i.toNat | _ => 0, ⟨0, rfl, by omega, by simp, Fr.refl _ _⟩, ?_⟩
  rintro J i H6 ⟨k, rfl, hkn, htomb, hf6⟩
  have hf06 := hf02.keep0 hf6
  have hb6 := hb.keep hf6
  refine ⟨_, _, _, hb6.r3, brB_of (fun h0 => ?_) (fun h0 => ?_)⟩
  · have h0' : k < m.2.2.2.1.2.1 := by simpa using h0
    have hx1 : r.tombs[k]? = some (r.tombs[k]'(by omega)) := by simp
    generalize r.tombs[k]'(by omega) = x at hx1
    have hmem := List.mem_of_getElem? hx1
    refine ⟨fun _ H' => Fr [] H6 H' ∧ TombP x, ?_, ?_⟩
    · refine ⟨_, _, _, hb6.r3, (h.tombs.keep hf06).get rfl hx1 (decide_eq_true (by omega)) fun ad ea hc => ⟨_, _, _, ld62 hc, ?_⟩⟩
      refine var62 rfl fun bx H7 hbx hv hf7 => ⟨_, hv.i0, id_ok ?_⟩
      have hf07 := hf06.keep0 hf7
      refine brB_of (fun h2 => bad hf07 fun hF => ?_) (fun h2 => ⟨_, hv.i1, time_ok (brB_of (fun h3 => bad hf07 fun hF => ?_) (fun h3 => ⟨_, hv.i2, time_ok (brB_of (fun h4 => bad hf07 fun hF => ?_) (fun h4 => ⟨_, hv.i1, _, hv.i2, brB_of (fun h5 => bad hf07 fun hF => ?_) (fun h5 => ⟨hf7, ?_⟩)⟩))⟩))⟩)
      · have := (hF.tomb x hmem).1
        simp [this] at h2
      · have := (hF.tomb x hmem).2
        have h3 : ¬ (0 ≤ x.2.1 ∧ x.2.1 ≤ 1099511627776) := of_decide_eq_false (by simpa only [Bool.not_eq_true'] using h3)
        omega
      · have := (hF.tomb x hmem).2
        have h4 : ¬ (0 ≤ x.2.2 ∧ x.2.2 ≤ 1099511627776) := of_decide_eq_false (by simpa only [Bool.not_eq_true'] using h4)
        omega
      · have := (hF.tomb x hmem).2
        simp at h5; omega
      · have h2 := of_decide_eq_true (by simpa only [Bool.not_eq_false'] using h2)
        have h3 : 0 ≤ x.2.1 ∧ x.2.1 ≤ 1099511627776 := of_decide_eq_true (by simpa only [Bool.not_eq_false'] using h3)
        have h4 : 0 ≤ x.2.2 ∧ x.2.2 ≤ 1099511627776 := of_decide_eq_true (by simpa only [Bool.not_eq_false'] using h4)
        refine ⟨h2, h3.1, ?_, h4.2⟩
        simp at h5; omega
    · rintro J H7 ⟨hf7, hx⟩
      rw [succ64 (by omega)]
      refine ⟨⟨k + 1, rfl, by omega, fun y hy => ?_, hf6.keep0 hf7⟩, mu_lt h0'⟩
      rw [List.take_add_one, hx1] at hy
      rcases List.mem_append.1 hy with hy | hy
      · exact htomb y hy
      · simp at hy; subst hy; exact hx
  · rw [List.take_of_length_le (by simp at h0; omega)] at htomb
    exact ⟨_, rfl, hyes (hgg.2 ⟨hG, hrow, htomb⟩) _ hf06⟩
end Go.Proofs
set_option linter.unusedVariables false
set_option maxRecDepth 100000
open Go Go.GV
namespace Go.Proofs

theorem sl_cell {α : Type} {E : Enc α} {H : Heap} {a : Option Addr} {n c : Nat} {xs : List α} (h : Sl E H a n c xs) {k : Nat} {x : α} (hx : xs[k]? = some x) {ad : Addr} (ha : a = some ad) : CellsAt H (ad.add ((k : Int).toNat * E.sz)) (E.cells x) := by
  obtain ⟨bb, off, e, hc⟩ := h.arr.at hx
  rw [ha] at e
  cases e
  intro j v hv
  rw [Int.toNat_natCast, add_at, add_at]
  exact hc j v hv
theorem ldT3 {H : Heap} {ad : Addr} {x : Row} (h : CellsAt H ad (enc3.cells x)) : Ld Tryz.prog 3 H ((ad.add 1).add 1) (.int .i64 x.2.2) := by
  have := ldT2 h
  rwa [show (ad.add 1).add 1 = ad.add 2 by simp [Addr.add]]
theorem u_ok {v : Int} {H : Heap} {K : ByteArray → Heap → Prop} (hu : U64 v) (hk : ∀ H', Fr [] H H' → K ⟨(uL v).toArray⟩ H') : CallH Tryz.prog fn_ref11_u ⟨[.int .i64 v]⟩ H fun v H' => ∃ s, v = .string s ∧ K s H' := by
  apply vc_ref11_u
  obtain ⟨y, rfl⟩ : ∃ y : Nat, v = y := ⟨v.toNat, by have := hu.1; omega⟩
  have hy : y < 18446744073709551616 := by have := hu.2; omega
  rw [wrapU64 (n := (y : Int)) (by omega) (by omega)]
  exact rUint_ok hy fun H' hf => ⟨_, rfl, hk H' hf⟩
theorem rEncode_ok {H : Heap} {m : Rm} {r : Rc} {K : ByteArray → Int → Heap → Prop} (h : RcH H m r) (hs : Small m) (hT : TypR r)
    (harg : ¬ FineP r → ∀ H', Fr [] H H' → K ⟨#[]⟩ 1 H') (hlab : FineP r → r.k = 0 → ¬ ChkP r.l → ∀ H', Fr [] H H' → K ⟨#[]⟩ 40 H')
    (hyes : FineP r → (r.k = 0 → ChkP r.l) → ∀ H', Fr [] H H' → K ⟨(encR r).toArray⟩ 0 H') :
    CallH Tryz.prog fn_ref11_Encode ⟨[.agg ⟨rC m⟩]⟩ H fun v H' => ∃ s e, v = .tuple ⟨[.string s, .int .i64 e]⟩ ∧ K s e H' := by
  apply vc_ref11_Encode
  intro b H1 hn1
  have hb : Blk H1 ⟨b, 0, none⟩ (rC m) := hn1.blk
  have hf1 := hn1.fr
  refine ⟨_, _, _, _, _, _, _, _, _, _, _, hb.ldA0 (us := rC m) (by kernel_rfl) (by kernel_rfl) rfl, ?_⟩
  refine fine_ok (h.keep hf1) hs (fun hF H2 hf2 => ?_) fun hF H2 hf2 => ?_
  rotate_left
  · exact brB_of (fun _ => ⟨_, _, rfl, harg hF H2 (hf1.keep0 hf2)⟩) (fun h => by cases h)
  have hk := hF.k
  have hb2 := hb.keep hf2
  have hf02 := hf1.keep0 hf2
  refine brB_of (fun h => by cases h) (fun _ => ⟨_, hb2.r0, ?_⟩)
  rw [h.k]
  refine u_ok ⟨hk.1, by omega⟩ fun H3 hf3 => ?_
  have hb3 := hb2.keep hf3
  have hf03 := hf02.keep0 hf3
  have h3 := h.keep hf03
  have hul := uL_len (v := r.k) ⟨hk.1, by omega⟩
  have hsz := size_mk (uL r.k)
  have hl2 := h.rows.len
  have hl3 := h.tombs.len
  have hnr := hF.nr
  have hnt := hF.nt
  refine ⟨_, hb3.r0, ?_⟩
  rw [h.k]
  refine brB_of (fun e => ?_) (fun e0 => brB_of (fun e => ?_) (fun e1 => brB_of (fun e => ?_) (fun e2 => brB_of (fun e => ?_) (fun e3 => ?_))))
  · have e := eq_of_beq e
    have eb : bodyR r = textL (pS r.l) := by unfold bodyR; rw [if_pos e]
    refine ⟨_, _, _, hb3.r1, rPrint_ok h3.l (fun hC => ?_) fun hC => ?_⟩
    · exact brB_of (fun _ => ⟨_, _, rfl, hlab hF e hC H3 hf03⟩) (fun h => by simp at h)
    · refine brB_of (fun h => by simp at h) (fun _ => ?_)
      have := printL_len hC
      have h2 := size_mk (printL r.l)
      refine rText_ok (by omega) fun H4 hf4 => ?_
      have hbl := bodyR_len hF hT fun _ => hC
      have hbs := size_mk (bodyR r)
      rw [show (textL (⟨(printL r.l).toArray⟩ : ByteArray)) = bodyR r from eb.symm]
      refine chk_true (decide_eq_true (by omega)) ⟨_, _, rfl, ?_⟩
      rw [app_mk]
      exact hyes hF (fun _ => hC) H4 (hf03.keep0 hf4)
  · have e := eq_of_beq e
    have eb : bodyR r = uintL r.rows.length ++ r.rows.flatMap rowL := by unfold bodyR; rw [if_neg (by omega), if_pos e]
    have hlen := headF_len (f := rowL) (l := r.rows) (fun x hx => rowL_len (hF.row x hx) (hT x hx)) hnr
    refine ⟨_, _, _, hb3.r2, u_ok ⟨by omega, by omega⟩ fun H4 hf4 => ?_⟩
    have hul2 := uL_len (v := (m.2.2.1.2.1 : Int)) ⟨by omega, by omega⟩
    have hsz2 := size_mk (uL (m.2.2.1.2.1 : Int))
    refine chk_true (decide_eq_true (by omega)) ?_
    rw [app_mk]
    have e1 : uL (m.2.2.1.2.1 : Int) = headF rowL r.rows 0 := by unfold headF uL; simp [hl2]
    rw [e1]
    refine ⟨fun vs H' => match vs with
        | [.string s, .int _ i] => ∃ k : Nat, i = k ∧ k ≤ m.2.2.1.2.1 ∧ s = ⟨(uL r.k ++ headF rowL r.rows k).toArray⟩ ∧ Fr [] H3 H'
        | _ => False,
      fun vs _ => match vs with | [_, .int _ i] => m.2.2.1.2.1 - i.toNat | _ => 0, ⟨0, rfl, by omega, rfl, hf4⟩, ?_⟩
    rintro J s i H5 ⟨k, rfl, hle, rfl, hf5⟩
    have hb5 := hb3.keep hf5
    refine ⟨_, _, _, hb5.r2, brB_of (fun h0 => ?_) (fun h0 => ?_)⟩
    · have h0' : k < m.2.2.1.2.1 := by simpa using h0
      have hx1 : r.rows[k]? = some (r.rows[k]'(by omega)) := by simp
      generalize r.rows[k]'(by omega) = x at hx1
      have hR := hF.row x (List.mem_of_getElem? hx1)
      have hI := hT x (List.mem_of_getElem? hx1)
      have hX : ∀ {H' : Heap}, Fr [] H3 H' → Sl enc3 H' m.2.2.1.1 m.2.2.1.2.1 m.2.2.1.2.2 r.rows := fun hf => h3.rows.keep hf
      refine ⟨_, _, _, hb5.r2, (hX hf5).get rfl hx1 (decide_eq_true (by omega)) fun ad ea hc => ⟨_, ldT0 hc, _, _, _, hb5.r2, (hX hf5).get rfl hx1 (decide_eq_true (by omega)) fun ad1 ea1 hc1 => ⟨_, ldT1 hc1, _, _, _, hb5.r2, (hX hf5).get rfl hx1 (decide_eq_true (by omega)) fun ad2 ea2 hc2 => ⟨_, ldT2 hc2, ?_⟩⟩⟩⟩
      have u1 := uL_len (v := x.1) ⟨hR.1.1, by have := hR.1.2; omega⟩
      have u2 := uL_len (v := x.2.1) ⟨hR.2.1, by have := hR.2.2; omega⟩
      have u3 : (intL x.2.2).length ≤ 10 := uintL_len10 (foldN_lt hI)
      have w1 := size_mk (uL x.1)
      have w2 := size_mk (uL x.2.1)
      have w3 := size_mk (intL x.2.2)
      have w0 := size_mk (uL r.k ++ headF rowL r.rows k)
      have w4 := hlen k
      rw [List.length_append] at w0
      refine u_ok ⟨hR.1.1, by have := hR.1.2; omega⟩ fun H6 hf6 => ?_
      have hf36 := hf5.keep0 hf6
      have hb6 := hb3.keep hf36
      refine ⟨ldT2 (sl_cell (hX hf36) hx1 ea2), hb6.r2, ldT1 (sl_cell (hX hf36) hx1 ea1), hb6.r2, chk_true (decide_eq_true (by omega)) ?_⟩
      refine u_ok ⟨hR.2.1, by have := hR.2.2; omega⟩ fun H7 hf7 => ?_
      have hf37 := hf36.keep0 hf7
      have hb7 := hb3.keep hf37
      refine ⟨ldT2 (sl_cell (hX hf37) hx1 ea2), hb7.r2, chk_true (decide_eq_true (by rw [size_app]; omega)) ?_⟩
      refine rInt_ok hI fun H8 hf8 => ?_
      refine chk_true (decide_eq_true (by rw [size_app, size_app]; omega)) ⟨⟨k + 1, by rw [succ64 (by omega)], by omega, ?_, hf37.keep0 hf8⟩, by rw [succ64 (by omega)]; exact mu_lt h0'⟩
      rw [app_mk, app_mk, app_mk, headF_snoc hx1]
      unfold rowL; simp
    · rw [headF_all (by simp at h0; omega), ← eb]
      exact ⟨_, _, rfl, hyes hF (fun h => by omega) H5 (hf03.keep0 hf5)⟩
  · have e := eq_of_beq e
    have eb : bodyR r = uintL r.tombs.length ++ r.tombs.flatMap tombL := by unfold bodyR; rw [if_neg (by omega), if_neg (by omega), if_pos e]
    have hlen := headF_len (f := tombL) (l := r.tombs) (fun x hx => tombL_len (hF.tomb x hx)) hnt
    refine ⟨_, _, _, hb3.r3, u_ok ⟨by omega, by omega⟩ fun H4 hf4 => ?_⟩
    have hul2 := uL_len (v := (m.2.2.2.1.2.1 : Int)) ⟨by omega, by omega⟩
    have hsz2 := size_mk (uL (m.2.2.2.1.2.1 : Int))
    refine chk_true (decide_eq_true (by omega)) ?_
    rw [app_mk]
    have e1 : uL (m.2.2.2.1.2.1 : Int) = headF tombL r.tombs 0 := by unfold headF uL; simp [hl3]
    rw [e1]
    refine ⟨fun vs H' => match vs with
        | [.string s, .int _ i] => ∃ k : Nat, i = k ∧ k ≤ m.2.2.2.1.2.1 ∧ s = ⟨(uL r.k ++ headF tombL r.tombs k).toArray⟩ ∧ Fr [] H3 H'
        | _ => False,
      fun vs _ => match vs with | [_, .int _ i] => m.2.2.2.1.2.1 - i.toNat | _ => 0, ⟨0, rfl, by omega, rfl, hf4⟩, ?_⟩
    rintro J s i H5 ⟨k, rfl, hle, rfl, hf5⟩
    have hb5 := hb3.keep hf5
    refine ⟨_, _, _, hb5.r3, brB_of (fun h0 => ?_) (fun h0 => ?_)⟩
    · have h0' : k < m.2.2.2.1.2.1 := by simpa using h0
      have hx1 : r.tombs[k]? = some (r.tombs[k]'(by omega)) := by simp
      generalize r.tombs[k]'(by omega) = x at hx1
      have hR := hF.tomb x (List.mem_of_getElem? hx1)
      have hR2 := hR.2
      have hX : ∀ {H' : Heap}, Fr [] H3 H' → Sl enc3 H' m.2.2.2.1.1 m.2.2.2.1.2.1 m.2.2.2.1.2.2 r.tombs := fun hf => h3.tombs.keep hf
      refine ⟨_, _, _, hb5.r3, (hX hf5).get rfl hx1 (decide_eq_true (by omega)) fun ad ea hc => ⟨_, ldT0 hc, _, _, _, hb5.r3, (hX hf5).get rfl hx1 (decide_eq_true (by omega)) fun ad1 ea1 hc1 => ⟨_, ldT1 hc1, _, _, _, hb5.r3, (hX hf5).get rfl hx1 (decide_eq_true (by omega)) fun ad2 ea2 hc2 => ⟨_, ldT3 hc2, ?_⟩⟩⟩⟩
      have u1 := uL_len (v := x.1) ⟨hR.1.1, by have := hR.1.2; omega⟩
      have u2 := uL_len (v := x.2.1) ⟨by omega, by omega⟩
      have u3 := uL_len (v := x.2.2) ⟨by omega, by omega⟩
      have w1 := size_mk (uL x.1)
      have w2 := size_mk (uL x.2.1)
      have w3 := size_mk (uL x.2.2)
      have w0 := size_mk (uL r.k ++ headF tombL r.tombs k)
      have w4 := hlen k
      rw [List.length_append] at w0
      refine u_ok ⟨hR.1.1, by have := hR.1.2; omega⟩ fun H6 hf6 => ?_
      have hf36 := hf5.keep0 hf6
      have hb6 := hb3.keep hf36
      refine ⟨ldT3 (sl_cell (hX hf36) hx1 ea2), hb6.r3, ldT1 (sl_cell (hX hf36) hx1 ea1), hb6.r3, chk_true (decide_eq_true (by omega)) ?_⟩
      refine u_ok ⟨by omega, by omega⟩ fun H7 hf7 => ?_
      have hf37 := hf36.keep0 hf7
      have hb7 := hb3.keep hf37
      refine ⟨ldT3 (sl_cell (hX hf37) hx1 ea2), hb7.r3, chk_true (decide_eq_true (by rw [size_app]; omega)) ?_⟩
      refine u_ok ⟨by omega, by omega⟩ fun H8 hf8 => ?_
      refine chk_true (decide_eq_true (by rw [size_app, size_app]; omega)) ⟨⟨k + 1, by rw [succ64 (by omega)], by omega, ?_, hf37.keep0 hf8⟩, by rw [succ64 (by omega)]; exact mu_lt h0'⟩
      rw [app_mk, app_mk, app_mk, headF_snoc hx1]
      unfold tombL; simp
    · rw [headF_all (by simp at h0; omega), ← eb]
      exact ⟨_, _, rfl, hyes hF (fun h => by omega) H5 (hf03.keep0 hf5)⟩
  · have e := eq_of_beq e
    have eb : bodyR r = uL r.at' := by unfold bodyR; rw [if_neg (by omega), if_neg (by omega), if_neg (by omega)]
    refine ⟨_, hb3.r4, ?_⟩
    rw [h.at']
    refine u_ok ⟨hF.at'.1, by have := hF.at'.2; omega⟩ fun H4 hf4 => ?_
    have hbl := bodyR_len hF hT fun h => by omega
    have hbs := size_mk (bodyR r)
    rw [← eb]
    refine chk_true (decide_eq_true (by omega)) ⟨_, _, rfl, ?_⟩
    rw [app_mk]
    exact hyes hF (fun h => by omega) H4 (hf03.keep0 hf4)
  · exfalso
    have := ne_of_beq_false e0
    have := ne_of_beq_false e1
    have := ne_of_beq_false e2
    have := ne_of_beq_false e3
    omega
end Go.Proofs
set_option linter.unusedVariables false
set_option maxRecDepth 100000
open Go Go.GV
namespace Go.Proofs

def rdC (s : ByteArray) (p : Nat) (ok : Bool) : List Value := [.string s, .int .i64 p, .bool ok]
def NumR (s : ByteArray) (a : Nat) (ok : Bool) (most : Nat) (v : Int) (p : Nat) (ok' : Bool) : Prop :=
  (ok' = true ∧ ok = true ∧ ∃ n : Nat, v = n ∧ n ≤ most ∧ (bl s).drop a = uintL n ++ (bl s).drop p ∧ a < p ∧ p ≤ s.size) ∨ (ok' = false ∧ v = 0 ∧ p = a ∧ (ok = true → ∀ n, n ≤ most → ∀ t, (bl s).drop a ≠ uintL n ++ t))
theorem number_ok {H : Heap} {xb : Nat} {s : ByteArray} {a : Nat} {ok : Bool} {most : Nat} {K : Int → Heap → Prop} (hx : Blk H ⟨xb, 0, none⟩ (rdC s a ok)) (hs : s.size ≤ 100000000000) (ha : a ≤ s.size) (hm : most ≤ 9223372036854775807)
    (hk : ∀ H' v p ok', Blk H' ⟨xb, 0, none⟩ (rdC s p ok') → NumR s a ok most v p ok' → Fr [xb] H H' → K v H') :
    CallH Tryz.prog fn_wal_reader_number ⟨[.pointer (some ⟨xb, 0, none⟩), .int .i64 most]⟩ H fun v H' => ∃ n, v = .int .i64 n ∧ K n H' := by
  apply vc_wal_reader_number
  refine ⟨_, hx.ld0 (by kernel_rfl) rfl, _, hx.ld (by kernel_rfl) (j := 1) rfl, ?_⟩
  refine GetUint_ok hs (fun h => absurd ⟨by omega, by omega⟩ h) fun a' ea ha' v n e hg => ?_
  have ea : a' = a := by omega
  subst ea
  refine ⟨fun _ H' => H' = H ∧ ok = true ∧ e = 0 ∧ v ≤ most, ?_, ?_⟩
  · refine ⟨fun vs H' => H' = H ∧ ∃ w : Bool, vs = [.bool w] ∧ (w = true → ¬ (ok = true ∧ e = 0 ∧ v ≤ most)) ∧ (w = false → ok = true ∧ e = 0 ∧ v ≤ most), ?_, ?_⟩
    · refine ⟨_, hx.ld (by kernel_rfl) (j := 2) rfl, brB_of (fun h => ⟨rfl, true, rfl, fun _ hh => ?_, fun h => by cases h⟩) (fun h => brB_of (fun h2 => ⟨rfl, true, rfl, fun _ hh => ?_, fun h => by cases h⟩) (fun h2 => ⟨rfl, _, rfl, fun h3 hh => ?_, fun h3 => ?_⟩))⟩
      · rw [hh.1] at h; cases h
      · rw [hh.2.1] at h2; simp at h2
      · rw [wrapU64 (by omega) (by omega)] at h3
        have := of_decide_eq_true h3
        omega
      · rw [wrapU64 (by omega) (by omega)] at h3
        have := of_decide_eq_false h3
        exact ⟨by simpa using h, by simpa using h2, by omega⟩
    · rintro J w H1 ⟨rfl, w', e', h1, h2⟩
      simp only [List.cons.injEq, Value.bool.injEq, and_true] at e'
      subst e'
      refine brB_of (fun hw => ?_) (fun hw => ⟨rfl, h2 hw⟩)
      refine hx.st (j := 2) (v := .bool false) (by kernel_rfl) (by kernel_rfl) (fun x hx => by simp [Value.cells] at hx; subst hx; rfl) (by simp [Value.cells, rdC]) fun H2 hx2 hf2 => ⟨_, rfl, hk H2 0 a' false (by simpa [Value.cells, rdC] using hx2) (.inr ⟨rfl, rfl, rfl, fun hok n' hn' t ht => ?_⟩) hf2⟩
      obtain ⟨g1, _, g3⟩ := hg.of (by omega) ht
      exact h1 hw ⟨hok, g3, by omega⟩
  · rintro J H1 ⟨rfl, hok, rfl, hv⟩
    rcases hg with ⟨n', rfl, h1, h2, h3, rfl, _⟩ | ⟨_, _, h, _⟩ | ⟨_, _, h, _⟩
    · refine hx.st (j := 1) (v := .int .i64 ((a' + (uintL n').length : Nat) : Int)) (by kernel_rfl) (by kernel_rfl) (fun x hx => by simp [Value.cells] at hx; subst hx; rfl) (by simp [Value.cells, rdC]) fun H2 hx2 hf2 => ⟨_, rfl, ?_⟩
      rw [wrap64_of (by omega) (by omega)]
      have := uintL_pos n'
      rw [List.length_drop, bl_len] at h3
      refine hk H2 n' (a' + (uintL n').length) true (by subst hok; simpa [Value.cells, rdC] using hx2) (.inl ⟨rfl, hok, n', rfl, by omega, ?_, by omega, by omega⟩) hf2
      rw [List.drop_drop] at h2; exact h2
    · omega
    · omega
end Go.Proofs
set_option linter.unusedVariables false
set_option maxRecDepth 100000
open Go Go.GV
namespace Go.Proofs

def ValR (s : ByteArray) (a : Nat) (ok : Bool) (v : Int) (p : Nat) (ok' : Bool) : Prop :=
  (ok' = true ∧ ok = true ∧ I64 v ∧ (bl s).drop a = intL v ++ (bl s).drop p ∧ a < p ∧ p ≤ s.size) ∨ (ok' = false ∧ v = 0 ∧ p = a ∧ (ok = true → ∀ v, I64 v → ∀ t, (bl s).drop a ≠ intL v ++ t))
theorem rvalue_ok {H : Heap} {xb : Nat} {s : ByteArray} {a : Nat} {ok : Bool} {K : Int → Heap → Prop} (hx : Blk H ⟨xb, 0, none⟩ (rdC s a ok)) (hs : s.size ≤ 100000000000) (ha : a ≤ s.size)
    (hk : ∀ H' v p ok', Blk H' ⟨xb, 0, none⟩ (rdC s p ok') → ValR s a ok v p ok' → Fr [xb] H H' → K v H') :
    CallH Tryz.prog fn_wal_reader_value ⟨[.pointer (some ⟨xb, 0, none⟩)]⟩ H fun v H' => ∃ n, v = .int .i64 n ∧ K n H' := by
  apply vc_wal_reader_value
  refine ⟨_, hx.ld0 (by kernel_rfl) rfl, _, hx.ld (by kernel_rfl) (j := 1) rfl, ?_⟩
  refine GetInt_ok hs (fun h => absurd ⟨by omega, by omega⟩ h) fun a' ea ha' w n e hg hw => ?_
  have ea : a' = a := by omega
  subst ea
  have bad : ¬ (ok = true ∧ e = 0) → ∃ H'_1, St Tryz.prog 4 H (Addr.add ⟨xb, 0, none⟩ 2) (.bool false) H'_1 ∧ ∃ n, Value.int .i64 0 = .int .i64 n ∧ K n H'_1 := fun hn =>
    hx.st (j := 2) (v := .bool false) (by kernel_rfl) (by kernel_rfl) (fun x hx => by simp [Value.cells] at hx; subst hx; rfl) (by simp [Value.cells, rdC]) fun H2 hx2 hf2 => ⟨_, rfl, hk H2 0 a' false (by simpa [Value.cells, rdC] using hx2) (.inr ⟨rfl, rfl, rfl, fun hok v' hv' t ht => by
      obtain ⟨_, _, g3⟩ := hg.of (foldN_lt hv') ht
      exact hn ⟨hok, g3⟩⟩) hf2⟩
  refine ⟨_, hx.ld (by kernel_rfl) (j := 2) rfl, brB_of (fun h => bad fun hh => ?_) (fun h => brB_of (fun h2 => bad fun hh => ?_) (fun h2 => ?_))⟩
  · rw [hh.1] at h; cases h
  · rw [hh.2] at h2; simp at h2
  have hok : ok = true := by simpa using h
  have he : e = 0 := by simpa using h2
  subst he
  rcases hg with ⟨n', e1, h1, h2, h3, rfl, _⟩ | ⟨_, _, h, _⟩ | ⟨_, _, h, _⟩
  · have e1 : w = n' := by omega
    subst e1
    refine hx.st (j := 1) (v := .int .i64 ((a' + (uintL w).length : Nat) : Int)) (by kernel_rfl) (by kernel_rfl) (fun x hx => by simp [Value.cells] at hx; subst hx; rfl) (by simp [Value.cells, rdC]) fun H2 hx2 hf2 => ⟨_, rfl, ?_⟩
    have := uintL_pos w
    rw [List.length_drop, bl_len] at h3
    refine hk H2 (unfoldN w) (a' + (uintL w).length) true (by subst hok; simpa [Value.cells, rdC] using hx2) (.inl ⟨rfl, hok, unfold_64 h1, ?_, by omega, by omega⟩) hf2
    unfold intL
    rw [fold_unfold]
    rw [List.drop_drop] at h2; exact h2
  · omega
  · omega
end Go.Proofs
set_option linter.unusedVariables false
set_option maxRecDepth 100000
open Go Go.GV
namespace Go.Proofs

def RdG {α : Type} (s : ByteArray) (a : Nat) (ok : Bool) (f : α → List UInt8) (G : α → Prop) (x : α) (p : Nat) (ok' : Bool) : Prop :=
  p ≤ s.size ∧ (ok' = true → ok = true ∧ (bl s).drop a = f x ++ (bl s).drop p) ∧ (ok = true → ∀ y t, G y → (bl s).drop a = f y ++ t → ok' = true ∧ y = x ∧ t = (bl s).drop p)
theorem RdG.weak {α : Type} {s : ByteArray} {a : Nat} {ok : Bool} {f : α → List UInt8} {G G' : α → Prop} {x : α} {p : Nat} {ok' : Bool} (h : RdG s a ok f G x p ok') (hg : ∀ y, G' y → G y) : RdG s a ok f G' x p ok' :=
  ⟨h.1, h.2.1, fun ho y t hy e => h.2.2 ho y t (hg y hy) e⟩
theorem RdG.pair {α β : Type} {s : ByteArray} {a p q : Nat} {ok ok' ok'' : Bool} {f : α → List UInt8} {g : β → List UInt8} {G : α → Prop} {G2 : β → Prop} {x : α} {y : β} (h : RdG s a ok f G x p ok') (h' : RdG s p ok' g G2 y q ok'') :
    RdG s a ok (fun z : α × β => f z.1 ++ g z.2) (fun z => G z.1 ∧ G2 z.2) (x, y) q ok'' := by
  refine ⟨h'.1, fun ho => ?_, fun ho z t hz e => ?_⟩
  · obtain ⟨h1, h2⟩ := h'.2.1 ho
    obtain ⟨h3, h4⟩ := h.2.1 h1
    exact ⟨h3, by rw [h4, h2, List.append_assoc]⟩
  · rw [List.append_assoc] at e
    obtain ⟨h1, h2, h3⟩ := h.2.2 ho z.1 _ hz.1 e
    obtain ⟨h4, h5, h6⟩ := h'.2.2 h1 z.2 t hz.2 h3.symm
    exact ⟨h4, by rw [← h2, ← h5], h6⟩
theorem NumR.rd {s : ByteArray} {a p most : Nat} {ok ok' : Bool} {v : Int} (ha : a ≤ s.size) (h : NumR s a ok most v p ok') : RdG s a ok uL (fun v => 0 ≤ v ∧ v ≤ most) v p ok' ∧ (0 ≤ v ∧ v ≤ most) := by
  rcases h with ⟨rfl, rfl, n, rfl, h1, h2, h3, h4⟩ | ⟨rfl, rfl, rfl, h⟩
  · refine ⟨⟨h4, fun _ => ⟨rfl, by rw [h2]; simp [uL]⟩, fun _ y t hy e => ?_⟩, by omega, by omega⟩
    rw [h2] at e
    obtain ⟨e1, e2⟩ := uint_eq (show uintL n ++ (bl s).drop p = uintL y.toNat ++ t from e)
    exact ⟨rfl, by omega, e2.symm⟩
  · exact ⟨⟨ha, (fun h => by cases h), fun ho y t hy e => absurd e (h ho y.toNat (by omega) t)⟩, by omega, by omega⟩
theorem intL_eq {v w : Int} {x y : List UInt8} (e : intL v ++ x = intL w ++ y) : v = w ∧ x = y := by
  obtain ⟨e1, e2⟩ := uint_eq (show uintL (foldN v) ++ x = uintL (foldN w) ++ y from e)
  exact ⟨by rw [← unfold_fold v, e1, unfold_fold], e2⟩
theorem ValR.rd {s : ByteArray} {a p : Nat} {ok ok' : Bool} {v : Int} (ha : a ≤ s.size) (h : ValR s a ok v p ok') : RdG s a ok intL I64 v p ok' ∧ I64 v := by
  rcases h with ⟨rfl, rfl, h1, h2, h3, h4⟩ | ⟨rfl, rfl, rfl, h⟩
  · refine ⟨⟨h4, fun _ => ⟨rfl, h2⟩, fun _ y t hy e => ?_⟩, h1⟩
    rw [h2] at e
    obtain ⟨e1, e2⟩ := intL_eq e
    exact ⟨rfl, e1.symm, e2.symm⟩
  · exact ⟨⟨ha, (fun h => by cases h), fun ho y t hy e => absurd e (h ho y hy t)⟩, by unfold I64; omega⟩

def RdL {α : Type} (s : ByteArray) (f : α → List UInt8) (G : α → Prop) (N a p : Nat) (M : List α) (ok : Bool) : Prop :=
  p ≤ s.size ∧ (ok = true → M.length ≤ N ∧ (bl s).drop a = M.flatMap f ++ (bl s).drop p) ∧ (∀ L t, L.length = N → (∀ y ∈ L, G y) → (bl s).drop a = L.flatMap f ++ t → ok = true ∧ ∃ R, L = M ++ R ∧ (bl s).drop p = R.flatMap f ++ t)
theorem RdL.start {α : Type} {s : ByteArray} {f : α → List UInt8} {G : α → Prop} {N a : Nat} (ha : a ≤ s.size) : RdL s f G N a a [] true :=
  ⟨ha, fun _ => ⟨Nat.zero_le _, by simp⟩, fun L t _ _ e => ⟨rfl, L, rfl, e⟩⟩
theorem RdL.step {α : Type} {s : ByteArray} {f : α → List UInt8} {G : α → Prop} {N a p p' : Nat} {M : List α} {ok ok' : Bool} {x : α} (h : RdL s f G N a p M ok) (hM : M.length < N) (h' : RdG s p ok f G x p' ok') : RdL s f G N a p' (M ++ [x]) ok' := by
  refine ⟨h'.1, fun ho => ?_, fun L t hL hG e => ?_⟩
  · obtain ⟨h1, h2⟩ := h'.2.1 ho
    obtain ⟨h3, h4⟩ := h.2.1 h1
    exact ⟨by simp; omega, by rw [h4, h2]; simp⟩
  · obtain ⟨h1, R, rfl, h3⟩ := h.2.2 L t hL hG e
    cases R with
    | nil => simp at hL; omega
    | cons y R =>
      rw [List.flatMap_cons, List.append_assoc] at h3
      obtain ⟨h4, h5, h6⟩ := h'.2.2 h1 y _ (hG y (by simp)) h3
      exact ⟨h4, R, by rw [h5]; simp, h6.symm⟩
theorem RdL.done {α : Type} {s : ByteArray} {f : α → List UInt8} {G : α → Prop} {N a p : Nat} {M : List α} {ok : Bool} (h : RdL s f G N a p M ok) (hM : ok = true → N ≤ M.length) : RdG s a true (fun L => L.flatMap f) (fun L => L.length = N ∧ ∀ y ∈ L, G y) M p ok ∧ (ok = true → M.length = N) := by
  refine ⟨⟨h.1, fun ho => ⟨rfl, (h.2.1 ho).2⟩, fun _ L t hL e => ?_⟩, fun ho => by have := (h.2.1 ho).1; have := hM ho; omega⟩
  obtain ⟨h1, R, rfl, h3⟩ := h.2.2 L t hL.1 hL.2 e
  have := hM h1
  have hl := hL.1
  rw [List.length_append] at hl
  have : R = [] := List.eq_nil_of_length_eq_zero (by omega)
  subst this
  exact ⟨h1, by simp, by simpa using h3.symm⟩
theorem RdG.list {α : Type} {s : ByteArray} {f : α → List UInt8} {G : α → Prop} {n : Int} {N most a p q : Nat} {M : List α} {ok ok' ok'' : Bool} (e : n = N) (h : RdG s a ok uL (fun v => 0 ≤ v ∧ v ≤ most) n p ok')
    (h' : ok' = true → RdG s p true (fun L => L.flatMap f) (fun L => L.length = N ∧ ∀ y ∈ L, G y) M q ok'' ∧ (ok'' = true → M.length = N)) (hno : ok' = false → ok'' = false ∧ q ≤ s.size) :
    RdG s a ok (fun L => uintL L.length ++ L.flatMap f) (fun L => L.length ≤ most ∧ ∀ y ∈ L, G y) M q ok'' := by
  subst e
  cases ok' with
  | false =>
    obtain ⟨rfl, hq⟩ := hno rfl
    refine ⟨hq, (fun h => by cases h), fun ho y t hy e => ?_⟩
    rw [List.append_assoc] at e
    obtain ⟨h1, _⟩ := h.2.2 ho (y.length : Int) _ ⟨by omega, by omega⟩ (by simpa [uL] using e)
    cases h1
  | true =>
    obtain ⟨h1, h2⟩ := h' rfl
    refine ⟨h1.1, fun ho => ?_, fun ho y t hy e => ?_⟩
    · obtain ⟨_, h3⟩ := h1.2.1 ho
      obtain ⟨h4, h5⟩ := h.2.1 rfl
      refine ⟨h4, ?_⟩
      show _ = (uintL M.length ++ M.flatMap f) ++ _
      rw [h5, h3, h2 ho, List.append_assoc]; simp [uL]
    · rw [List.append_assoc] at e
      obtain ⟨_, h3, h4⟩ := h.2.2 ho (y.length : Int) _ ⟨by omega, by omega⟩ (by simpa [uL] using e)
      obtain ⟨h5, h6, h7⟩ := h1.2.2 rfl y t ⟨by omega, hy.2⟩ h4.symm
      exact ⟨h5, h6, h7⟩

structure GoodR (r : Rc) : Prop where
  fine : FineP r
  typ : TypR r
  chk : r.k = 0 → ChkP r.l
def m0 (k : Int) : Rm := (k, (none, 0, 0), (none, 0, 0), (none, 0, 0), 0)
structure Took (H : Heap) (m : Rm) (s : ByteArray) (a : Nat) (k : Int) (r : Rc) (p : Nat) (ok : Bool) : Prop where
  h : RcH H m r
  kind : r.k = k
  typ : TypR r
  small : Small m
  rd : RdG s a true bodyR (fun y => GoodR y ∧ y.k = k) r p ok
  chk : ok = true → k = 0 → ChkP r.l
def NotIn (m : Rm) (b : Nat) : Prop := (∀ ad, m.2.1.1 = some ad → ad.block ≠ b) ∧ (∀ ad, m.2.2.1.1 = some ad → ad.block ≠ b) ∧ ∀ ad, m.2.2.2.1.1 = some ad → ad.block ≠ b
theorem no_ad {b : Nat} : ∀ ad : Addr, (none : Option Addr) = some ad → ad.block ≠ b := fun ad e => by cases e
theorem not_own {α : Type} {E : Enc α} {t : TypeId} {base : Nat} {H : Heap} {a : Option Addr} {n c : Nat} {xs : List α} (h : Own E t base H a n c xs) {b : Nat} (hb : b < base) : ∀ ad, a = some ad → ad.block ≠ b := fun ad e => by
  have := (h.ge ad.block (by subst e; simp [blkL])).1
  omega
theorem forms8_ok {H : Heap} {rb xb : Nat} {s : ByteArray} {a : Nat} {K : Heap → Prop} (hr : Blk H ⟨rb, 0, none⟩ (rC (m0 3))) (hx : Blk H ⟨xb, 0, none⟩ (rdC s a true)) (hne : rb ≠ xb) (hs : s.size ≤ 100000000000) (ha : a ≤ s.size)
    (hk : ∀ H' m r p ok', Blk H' ⟨rb, 0, none⟩ (rC m) → Blk H' ⟨xb, 0, none⟩ (rdC s p ok') → Took H' m s a 3 r p ok' → (∀ b, b < H.size → NotIn m b) → Fr [xb, rb] H H' → K H') :
    CallH Tryz.prog fn_wal_forms_8 ⟨[.pointer (some ⟨rb, 0, none⟩), .pointer (some ⟨xb, 0, none⟩)]⟩ H fun v H' => v = .tuple ⟨[]⟩ ∧ K H' := by
  apply vc_wal_forms_8
  refine number_ok (most := 1099511627776) hx hs ha (by omega) fun H1 v p ok' hx1 hn hf1 => ?_
  obtain ⟨hrd, hv⟩ := hn.rd ha
  have hr1 := hr.fr hf1 (by simp; exact hne)
  refine hr1.st (j := 4) (v := .int .i64 v) (by kernel_rfl) (by kernel_rfl) (fun x hx => by simp [Value.cells] at hx; subst hx; rfl) (by simp [Value.cells, rC]) fun H2 hr2 hf2 => ⟨rfl, ?_⟩
  refine hk H2 (3, (none, 0, 0), (none, 0, 0), (none, 0, 0), v) ⟨3, [], [], [], v⟩ p ok' (by simpa [Value.cells, rC, m0] using hr2) (hx1.fr hf2 (by simp; exact fun e => hne e.symm)) ?_ (fun b _ => ⟨no_ad, no_ad, no_ad⟩) (hf1.trans' hf2 (fun k hk _ => by simp at hk; simp [hk]) (fun k hk _ => by simp at hk; simp [hk]))
  refine ⟨⟨rfl, Sl.zero, Sl.zero, Sl.zero, rfl⟩, rfl, fun x hx => by simp at hx, ⟨by simp, by simp, by simp⟩, ⟨hrd.1, fun ho => ?_, fun ho y t hy e => ?_⟩, fun _ h => by omega⟩
  · obtain ⟨h1, h2⟩ := hrd.2.1 ho
    refine ⟨rfl, ?_⟩
    rw [h2]; unfold bodyR; rw [if_neg (by simp), if_neg (by simp), if_neg (by simp)]
  · have hyk := hy.2
    have hF := hy.1.fine
    have e2 : bodyR y = uL y.at' := by unfold bodyR; rw [if_neg (by omega), if_neg (by omega), if_neg (by omega)]
    rw [e2] at e
    obtain ⟨h1, h2, h3⟩ := hrd.2.2 rfl y.at' t ⟨hF.at'.1, by have := hF.at'.2; omega⟩ e
    refine ⟨h1, ?_, h3⟩
    have g1 : y.l = [] := Classical.byContradiction fun h => by have := hF.l h; omega
    have g2 : y.rows = [] := Classical.byContradiction fun h => by have := hF.rows h; omega
    have g3 : y.tombs = [] := Classical.byContradiction fun h => by have := hF.tombs h; omega
    cases y
    simp only at g1 g2 g3 hyk h2
    subst g1 g2 g3 hyk h2
    rfl
end Go.Proofs
