/- Turned by a program of mine (port.py) out of the same text of another seat: numbers of types and functions. -/
import Derived.Test.YtijedkfekmopnaaP11v
import Derived.Test.YtijedkfekmopnaaP11p
set_option linter.unusedVariables false
set_option maxRecDepth 100000
open Go Go.GV
namespace Go.Proofs

/-! labels, read -/
def sepL (xs : Lbls) : List UInt8 := if xs = [] then [] else [44]
theorem bl_lblS (x : Lbl) : bl (lblS x) = lblL x := by unfold lblS; rw [bl_mk]
theorem headP_add (xs : Lbls) (x : Lbl) : headP (xs ++ [x]) = headP xs ++ sepL xs ++ lblL x := by
  unfold headP sepL
  cases xs with
  | nil => simp [joinL, bl_lblS]
  | cons y m => simp [joinL, bl_lblS]
theorem printL_head (xs : Lbls) : printL xs = headP xs ++ [125] := by rw [print_join]; rfl
theorem restL_eq : ∀ m : Lbls, restL m = ((m.map lblS).flatMap fun s => [44] ++ bl s) ++ [125]
  | [] => rfl
  | y :: m => by simp only [restL, restL_eq m, List.map_cons, List.flatMap_cons, bl_lblS]; simp
theorem printL_split (xs : Lbls) (y : Lbl) (m : Lbls) : printL (xs ++ y :: m) = headP xs ++ sepL xs ++ (lblL y ++ restL m) := by
  rw [print_join, restL_eq]
  unfold headP sepL
  cases xs with
  | nil => simp [joinL, bl_lblS]
  | cons z xs => simp [joinL, bl_lblS]
theorem headP_split (xs : Lbls) (y : Lbl) (m : Lbls) (h : xs ≠ []) : printL (xs ++ y :: m) = headP xs ++ 44 :: (lblL y ++ restL m) := by
  rw [printL_split]; unfold sepL; rw [if_neg h]; simp

theorem Parse_ok {s : ByteArray} {H : Heap} {K : Option Addr → Nat → Nat → Int → Heap → Prop} (hs : s.size ≤ 1000000000)
    (hno : (∀ l, ChkP l → bl s ≠ printL l) → ∀ H', Fr [] H H' → K none 0 0 11 H')
    (hyes : ∀ l a n c H', ChkP l → bl s = printL l → Own encL 44 H.size H' a n c l → Fr [] H H' → K a n c 0 H') :
    CallH Try.prog fn_label_Parse ⟨[.string s]⟩ H fun v H' => ∃ a n c e, v = .tuple ⟨[.slice a n c, .int .i64 e]⟩ ∧ K a n c e H' := by
  apply vc_label_Parse
  intro b H1 hn1
  have hbH := hn1.eq
  have hbs := hn1.size
  have hend : ∀ {H' : Heap}, Fr [b] H1 H' → Fr [] H H' := fun hf => hn1.fr.keep hf (fun k hk => by simp at hk; omega)
  refine take_ok hn1.blk (fun u H2 hu hb2 hf2 => ?_) fun h => ?_
  rotate_left
  · refine brB_of (fun _ => ⟨_, _, _, _, rfl, hno (fun l hl e => h (joinL [44] (l.map lblS) ++ [125]) ?_) H1 hn1.fr⟩) (fun h => by cases h)
    rw [e, print_join]; rfl
  have hu : bl s = 123 :: bl u := hu
  have hus : u.size + 1 = s.size := by rw [← bl_len, ← bl_len, hu]; rfl
  refine brB_of (fun h => by cases h) (fun _ => ⟨_, hb2.ld0 (by kernel_rfl) rfl, ?_⟩)
  refine brB_of (fun h => ⟨_, _, _, _, rfl, hyes [] none 0 0 H2 ⟨by simp, by simp, fun i x y h => by simp at h⟩ ?_ (Own.nil _ _ _ _) (hend hf2)⟩) (fun hu2 => ?_)
  · rw [beqS] at h
    have h := of_decide_eq_true h
    rw [hu, h]; rfl
  have hu2 : u ≠ ⟨#[125]⟩ := by rw [beqS] at hu2; exact of_decide_eq_false hu2
  refine ⟨fun vs H' => match vs with
      | [.slice a n c, .bool more] => ∃ (xs : Lbls) (t : ByteArray), Own encL 44 H1.size H' a n c xs ∧ Blk H' ⟨b, 0, none⟩ [.string t] ∧ Fr [b] H1 H' ∧ bl s = headP xs ++ (if more then sepL xs else []) ++ bl t ∧ (∀ l, ChkP l → bl s = printL l → ∃ m, l = xs ++ m ∧ (if more then m ≠ [] else m = [])) ∧ xs.length + t.size ≤ s.size
      | _ => False,
    fun vs _ => match vs with | [.slice _ n _, .bool more] => if more then s.size + 1 - n else 0 | _ => 0,
    ⟨[], u, Own.nil _ _ _ _, hb2, hf2, by rw [hu]; rfl, fun l hl e => ⟨l, rfl, ?_⟩, by simp; omega⟩, ?_⟩
  · intro e0
    subst e0
    rw [hu] at e
    exact hu2 (bl_inj (List.cons.inj e).2)
  rintro J a n c more H3 ⟨xs, t, ho, hb3, hf3, hsp, hcm, hsz⟩
  refine brB_of (fun h => ?_) (fun h => ?_)
  · subst h
    rw [if_pos rfl] at hsp
    -- what stands there, if it is labels
    have hc : ∀ l, ChkP l → bl s = printL l → ∃ y m, l = xs ++ y :: m ∧ bl t = lblL y ++ restL m ∧ ∀ b ∈ bl y.1, b ≠ 61 := fun l hl e => by
      obtain ⟨m, rfl, h2⟩ := hcm l hl e
      cases m with
      | nil => exact absurd rfl h2
      | cons y m =>
        rw [hsp, printL_split] at e
        exact ⟨y, m, rfl, List.append_cancel_left e, name_noeq (hl.2.1 y (by simp)).1⟩
    refine ⟨_, hb3.ld0 (by kernel_rfl) rfl, Cut_ok (c := 61) (by omega) (fun u t1 hcut hu61 => ?_) fun hn61 => ?_⟩
    rotate_left
    · refine hb3.st0 (v := .string ⟨#[]⟩) (by kernel_rfl) (by kernel_rfl) (fun x hx => by simp [Value.cells] at hx; subst hx; rfl) (by simp [Value.cells]) fun H4 hb4 hf4 => ?_
      refine value_ok (t := ⟨#[]⟩) hb4 (by simp [ByteArray.size]) (fun v t' H' e => ?_) fun _ H5 hf5 => ?_
      · have e : ([] : List UInt8) = quoteL (bl v) ++ bl t' := e
        simp [quoteL] at e
      · refine brB_of (fun _ => ⟨_, _, _, _, rfl, hno (fun l hl e => ?_) H5 (hend ((hf3.trans' hf4 (fun k hk _ => hk) (fun k hk _ => hk)).trans' hf5 (fun k hk _ => hk) (fun k hk _ => hk)))⟩) (fun h => by cases h)
        obtain ⟨y, m, _, h2, _⟩ := hc l hl e
        rw [h2] at hn61
        exact hn61 (by simp [lblL])
    · refine hb3.st0 (v := .string t1) (by kernel_rfl) (by kernel_rfl) (fun x hx => by simp [Value.cells] at hx; subst hx; rfl) (by simp [Value.cells]) fun H4 hb4 hf4 => ?_
      have hts : t.size = u.size + 1 + t1.size := by rw [← bl_len, hcut]; simp [bl_len]; omega
      have hf34 : Fr [b] H1 H4 := hf3.trans' hf4 (fun k hk _ => hk) (fun k hk _ => hk)
      refine value_ok (t := t1) hb4 (by omega) (fun v t2 H5 e5 hb5 hf5 => ?_) fun hnov H5 hf5 => ?_
      rotate_left
      · refine brB_of (fun _ => ⟨_, _, _, _, rfl, hno (fun l hl e => ?_) H5 (hend (hf34.trans' hf5 (fun k hk _ => hk) (fun k hk _ => hk)))⟩) (fun h => by cases h)
        obtain ⟨y, m, _, h2, h3⟩ := hc l hl e
        unfold lblL at h2
        rw [hcut, List.append_assoc, List.cons_append] at h2
        obtain ⟨_, h4⟩ := cut_first hu61 h3 h2
        exact hnov _ _ h4
      · refine brB_of (fun h => by cases h) (fun _ => ?_)
        have hf35 : Fr [b] H1 H5 := hf34.trans' hf5 (fun k hk _ => hk) (fun k hk _ => hk)
        have hbo : ∀ ad, a = some ad → ad.block ∉ [b] := fun ad e hk => by
          have := (ho.lt ad e).1
          simp at hk; omega
        have ho5 := (ho.fr hf4 hbo).fr hf5 hbo
        intro b5 H6 hn6
        have hs1 : Sl encL H6 (some ⟨b5, 0, none⟩) 1 1 [((u, v) : Lbl)] := sl_one encL (u, v) hn6 rfl
        have hxs : xs.length ≤ 1000000000 := by omega
        refine ap_grow (E := encL) slice23 elem64 (ho5.keep hn6.fr) hs1 (Nat.le_trans hf35.size hn6.fr.size) (by have := ho.1; omega) fun a' n' c' H7 ho7 hf7 hg7 => ?_
        have hbo7 : b ∉ blkL a := fun hk => by have := (ho.ge b hk).1; omega
        have hb7 := (hb5.keep hn6.fr).fr hf7 hbo7
        have hf37 : Fr [b] H1 H7 := (hf35.trans' hn6.fr (T := [b]) (fun k hk _ => hk) (by simp)).trans' hf7 (fun k hk _ => hk) (fun k hk hlt => absurd (ho.ge k hk).1 (by omega))
        have e1 : bl t = lblL (u, v) ++ bl t2 := by
          unfold lblL
          rw [hcut, e5]; simp
        have hq : 2 ≤ (quoteL (bl v)).length := by simp [quoteL]
        have ht1 : t1.size = (quoteL (bl v)).length + t2.size := by rw [← bl_len, e5, List.length_append, bl_len]
        have hsp2 : bl s = headP (xs ++ [(u, v)]) ++ bl t2 := by rw [hsp, e1, headP_add]; simp
        have hc2 : ∀ l, ChkP l → bl s = printL l → ∃ m, l = (xs ++ [(u, v)]) ++ m ∧ bl t2 = restL m := fun l hl e => by
          obtain ⟨y, m, h1, h2, h3⟩ := hc l hl e
          obtain ⟨rfl, h5⟩ := lbl_inj (x := (u, v)) hu61 h3 (e1.symm.trans h2)
          exact ⟨m, by rw [h1]; simp, h5⟩
        have hlen1 : (xs ++ [((u, v) : Lbl)]).length = xs.length + 1 := by simp
        have hn7 := ho7.1
        have hn0 := ho.1
        rw [hlen1] at hn7
        refine take_ok hb7 (fun t3 H8 e8 hb8 hf8 => ?_) fun h8 => ?_
        · have e8 : bl t2 = 44 :: bl t3 := e8
          have ht2 : t2.size = t3.size + 1 := by rw [← bl_len, e8, List.length_cons, bl_len]
          have hbo8 : ∀ ad, a' = some ad → ad.block ∉ [b] := fun ad e hk => by
            have := (ho7.lt ad e).1
            simp at hk; omega
          refine ⟨⟨_, t3, ho7.fr hf8 hbo8, hb8, hf37.trans' hf8 (fun k hk _ => hk) (fun k hk _ => hk), ?_, fun l hl e => ?_, by rw [hlen1]; omega⟩, ?_⟩
          · rw [if_pos rfl, hsp2, e8]
            unfold sepL
            rw [if_neg (by simp)]; simp
          · obtain ⟨m, h1, h2⟩ := hc2 l hl e
            refine ⟨m, h1, ?_⟩
            rw [if_pos rfl]
            intro e0
            subst e0
            rw [e8] at h2
            simp [restL] at h2
          · show (if true = true then s.size + 1 - n' else 0) < (if true = true then s.size + 1 - n else 0)
            rw [if_pos rfl, if_pos rfl]
            omega
        · refine ⟨⟨_, t2, ho7, hb7, hf37, ?_, fun l hl e => ?_, by rw [hlen1]; omega⟩, ?_⟩
          · rw [hsp2]; simp
          · obtain ⟨m, h1, h2⟩ := hc2 l hl e
            refine ⟨m, h1, ?_⟩
            show m = []
            cases m with
            | nil => rfl
            | cons y m => exact absurd h2 (h8 (lblL y ++ restL m))
          · show (if false = true then s.size + 1 - n' else 0) < (if true = true then s.size + 1 - n else 0)
            rw [if_pos rfl]
            simp; omega
  · subst h
    have hsp : bl s = headP xs ++ bl t := by simpa using hsp
    have hcm : ∀ l, ChkP l → bl s = printL l → l = xs := fun l hl e => by
      obtain ⟨m, h1, h2⟩ := hcm l hl e
      have h2 : m = [] := h2
      rw [h1, h2]; simp
    refine ⟨_, hb3.ld0 (by kernel_rfl) rfl, brB_of (fun h => ⟨_, _, _, _, rfl, hno (fun l hl e => ?_) H3 (hend hf3)⟩) (fun h => ?_)⟩
    · have := hcm l hl e
      subst this
      rw [hsp, printL_head] at e
      have : t = ⟨#[125]⟩ := bl_inj (List.append_cancel_left e)
      subst this
      simp at h
    · have h : t = ⟨#[125]⟩ := by rw [beqS] at h; simpa using h
      have hpr : bl s = printL xs := by rw [hsp, printL_head, h]
      refine Check_ok ho.sl (by have := ho.1; omega) fun H4 hf4 => ?_
      by_cases hC : ChkP xs
      · rw [chkI_yes hC]
        exact brB_of (fun h => by simp at h) (fun _ => ⟨_, _, _, _, rfl, hyes xs _ _ _ H4 hC hpr ((ho.keep hf4).base (by omega)) (hend (hf3.trans' hf4 (fun k hk _ => hk) (by simp)))⟩)
      · rw [chkI_no hC]
        exact brB_of (fun _ => ⟨_, _, _, _, rfl, hno (fun l hl e => hC (hcm l hl e ▸ hl)) H4 (hend (hf3.trans' hf4 (fun k hk _ => hk) (by simp)))⟩) (fun h => by simp at h)
end Go.Proofs
