/- A part of a proof: see the last text of this claim. -/
import Derived.Test.YtijedkfekmopnaaP11M
import Derived.Test.YtijedkfekmopnaaGvOpen
set_option linter.unusedVariables false
set_option maxRecDepth 100000
open Go Go.GV
namespace Go.Proofs

abbrev KRec := Int → Option Addr → Nat → Nat → Option Addr → Nat → Nat → Option Addr → Nat → Nat → Int → Bool → Heap → Prop
theorem read_ok {H : Heap} {s : ByteArray} {K : KRec} (hs : s.size ≤ 1000000000)
    (hk : ∀ (m : Rm) r ok H', RcH H' m r → (∀ b, b < H.size → NotIn m b) → Small m → TypR r → CmpR s r ok → Fr [] H H' → K m.1 m.2.1.1 m.2.1.2.1 m.2.1.2.2 m.2.2.1.1 m.2.2.1.2.1 m.2.2.1.2.2 m.2.2.2.1.1 m.2.2.2.1.2.1 m.2.2.2.1.2.2 m.2.2.2.2 ok H') :
    CallH Try.prog fn_ref11_read ⟨[.string s]⟩ H fun v H' => ∃ n a n_1 c a_1 n_2 c_1 a_2 n_3 c_2 n_4 ok, v = .tuple ⟨[.agg ⟨[.int .i64 n, .slice a n_1 c, .slice a_1 n_2 c_1, .slice a_2 n_3 c_2, .int .i64 n_4]⟩, .bool ok]⟩ ∧ K n a n_1 c a_1 n_2 c_1 a_2 n_3 c_2 n_4 ok H' := by
  apply vc_ref11_read
  intro b H1 hn1
  have hs9 : s.size ≤ 100000000000 := by omega
  have eb := hn1.eq
  have sb := hn1.size
  have ret : ∀ {H' : Heap} {m : Rm} {r : Rc} {ok : Bool}, Fr [] H H' → Blk H' ⟨b, 0, none⟩ (rC (m0 0)) → RcH H' m r → (∀ b', b' ≤ b → NotIn m b') → Small m → TypR r → CmpR s r ok →
      ∃ H'_1, St Try.prog 33 H' ⟨b, 0, none⟩ (.agg ⟨rC m⟩) H'_1 ∧ ∃ n a n_2 c a_1 n_3 c_1 a_2 n_4 c_2 n_5, Ld Try.prog 33 H'_1 ⟨b, 0, none⟩ (.agg ⟨[.int .i64 n, .slice a n_2 c, .slice a_1 n_3 c_1, .slice a_2 n_4 c_2, .int .i64 n_5]⟩) ∧
        ∃ n' a' n_1' c' a_1' n_2' c_1' a_2' n_3' c_2' n_4' ok', Value.tuple ⟨[.agg ⟨[.int .i64 n, .slice a n_2 c, .slice a_1 n_3 c_1, .slice a_2 n_4 c_2, .int .i64 n_5]⟩, .bool ok]⟩ = .tuple ⟨[.agg ⟨[.int .i64 n', .slice a' n_1' c', .slice a_1' n_2' c_1', .slice a_2' n_3' c_2', .int .i64 n_4']⟩, .bool ok']⟩ ∧ K n' a' n_1' c' a_1' n_2' c_1' a_2' n_3' c_2' n_4' ok' H'_1 :=
    fun {H' m r ok} hf hb hR hni hsm hT hC => st33 (m := m) hb fun H2 hb2 hf2 => ⟨_, _, _, _, _, _, _, _, _, _, _, hb2.ldA0 (by kernel_rfl) (by kernel_rfl) rfl, _, _, _, _, _, _, _, _, _, _, _, _, rfl,
      hk m r ok H2 (hR.gone hf2 (hni b (Nat.le_refl _))) (fun b' h => hni b' (by omega)) hsm hT hC (hf.keep hf2 (fun k hk => by simp at hk; omega))⟩
  have fail : ∀ {H' : Heap}, Fr [] H H' → Blk H' ⟨b, 0, none⟩ (rC (m0 0)) → (∀ y, GoodR y → bl s ≠ encR y) → _ := fun {H'} hf hb hno =>
    ret (m := m0 0) (r := ⟨0, [], [], [], 0⟩) (ok := false) hf hb ⟨rfl, Sl.zero, Sl.zero, Sl.zero, rfl⟩ (fun _ _ => ⟨no_ad, no_ad, no_ad⟩) ⟨by simp [m0], by simp [m0], by simp [m0]⟩ (fun x hx => by simp at hx) fun y hy e => absurd e (hno y hy)
  have hb1 : Blk H1 ⟨b, 0, none⟩ (rC (m0 0)) := hn1.blk
  refine rnumbers_ok (a := 0) (m := 1) hs9 (Nat.zero_le _) (by omega) (fun hno H2 hf2 => ?_) fun L o n c p H2 hLo hl1 hG hrd hp hf2 => ?_
  · refine brB_of (fun _ => ?_) (fun h => by simp at h)
    refine fail (hn1.fr.keep0 hf2) (hb1.keep hf2) fun y hy e => hno [y.k] (bodyR y) rfl (fun z hz => ?_) (by rw [List.drop_zero, e]; simp [encR])
    simp at hz; subst hz
    exact ⟨hy.fine.k.1, by have := hy.fine.k.2; omega⟩
  obtain ⟨k, rfl⟩ : ∃ k, L = [k] := by cases L with | nil => simp at hl1 | cons k L => cases L with | nil => exact ⟨k, rfl⟩ | cons _ _ => simp at hl1
  have hL := hLo.sl
  have hH : HeadR s k p := headR_of (flat1 hrd)
  have hkk := hG k (by simp)
  refine brB_of (fun h => by simp at h; omega) (fun _ => ?_)
  refine hL.at0 (decide_eq_true (by have := hL.len; simp at this; omega)) fun ad e hld => ⟨_, hld, ?_⟩
  intro b1 H3 hn3
  have e3 := hn3.eq
  have s3 := hn3.size
  have s2 := hf2.size
  have hf03 := (hn1.fr.keep0 hf2).keep0 hn3.fr
  have hb3 := (hb1.keep hf2).keep hn3.fr
  refine st33 (m := m0 k) (m' := m0 0) hn3.blk fun H4 hr4 hf4 => ?_
  have hb4 := hb3.fr hf4 (by simp; omega)
  have hf04 : Fr [] H H4 := hf03.keep hf4 (fun k hk => by simp at hk; omega)
  have s4 := hf04.size
  have lb1 : b1 < H4.size := hr4.lt
  have lb : b < H4.size := hb4.lt
  refine ⟨_, hr4.r0, brB_of (fun h => ?_) (fun h => ?_)⟩
  · -- labels
    have h : k = 0 := by simpa [m0] using h
    subst h
    refine rGetText_ok hs9 (fun h => absurd ⟨by omega, by omega⟩ h) fun a' ea ha' t n' e H5 hg hf5 => ?_
    have ea : a' = p := by omega
    subst ea
    have hts : t.size ≤ 1000000000 := by
      rcases hg with ⟨_, h2, _⟩ | ⟨rfl, _⟩ | ⟨rfl, _⟩
      · have := size64 h2
        rw [List.length_drop, bl_len] at this; omega
      · simp [ByteArray.size]
      · simp [ByteArray.size]
    have key : ∀ y, GoodR y → bl s = encR y → t = pS y.l ∧ e = 0 ∧ ChkP y.l ∧ y = ⟨0, y.l, [], [], 0⟩ := fun y hy ey => by
      obtain ⟨h1, h2⟩ := hH.2 y hy ey
      have hC := hy.chk h1
      have e2 : bodyR y = textL (pS y.l) := by unfold bodyR; rw [if_pos h1]
      rw [e2] at h2
      have := printL_len hC
      obtain ⟨g1, _, g3⟩ := hg.of (t' := pS y.l) (x := []) (by rw [← bl_len, bl_pS]; omega) (by simpa using h2)
      exact ⟨g1, g3, hC, sole0 hy.fine h1⟩
    have main : ∀ (o' : Option Addr) (l' c' : Nat) (xs : Lbls) (f : Int) (H6 : Heap), Sl encL H6 o' l' c' xs → l' ≤ 8 → Fr [] H5 H6 → (∀ ad, o' = some ad → H5.size ≤ ad.block) → ((f = 0 ∧ ChkP xs ∧ bl t = printL xs) ∨ (f ≠ 0 ∧ ∀ l, ChkP l → bl t ≠ printL l)) → _ :=
      fun o' l' c' xs f H6 hxs hl8 hf6 hnew hcase => show ∃ H'_2, St Try.prog 22 H6 ⟨b1, 1, none⟩ (.slice o' l' c') H'_2 ∧ Blk H'_2 ⟨b1, 0, none⟩ (rC (0, (o', l', c'), (none, 0, 0), (none, 0, 0), 0)) ∧ Blk H'_2 ⟨b, 0, none⟩ (rC (m0 0)) ∧ Fr [] H H'_2 ∧ RcH H'_2 (0, (o', l', c'), (none, 0, 0), (none, 0, 0), 0) ⟨0, xs, [], [], 0⟩ ∧ (∀ b', b' ≤ b → NotIn (0, (o', l', c'), (none, 0, 0), (none, 0, 0), 0) b') ∧ CmpR s ⟨0, xs, [], [], 0⟩ (decide (e = 0 ∧ f = 0)) by
        have hr6 := (hr4.keep hf5).keep hf6
        have hb6 := (hb4.keep hf5).keep hf6
        have s5 := hf5.size
        refine hr6.st (j := 1) (v := .slice o' l' c') (by kernel_rfl) (by kernel_rfl) (fun x hx => by simp [Value.cells] at hx; subst hx; rfl) (by simp [Value.cells, rC]) fun H7 hr7 hf7 => ?_
        have hr7' : Blk H7 ⟨b1, 0, none⟩ (rC (0, (o', l', c'), (none, 0, 0), (none, 0, 0), 0)) := by simpa [Value.cells, rC, m0] using hr7
        refine ⟨hr7', hb6.fr hf7 (by simp; omega), ((hf04.keep0 hf5).keep0 hf6).keep hf7 (fun k hk => by simp at hk; omega), ⟨rfl, hxs.fr hf7 (fun ad e => by have := hnew ad e; simp; omega), Sl.zero, Sl.zero, rfl⟩, fun b' hb' => ⟨fun ad e => by have := hnew ad e; omega, no_ad, no_ad⟩, fun y hy ey => ?_⟩
        obtain ⟨g1, g2, g3, g4⟩ := key y hy ey
        have et : bl t = printL y.l := by rw [g1, bl_pS]
        rcases hcase with ⟨hf, hC2, ep⟩ | ⟨_, hno⟩
        · have exs : y.l = xs := print_inj g3.2.1 hC2.2.1 (by rw [← et, ep])
          exact ⟨decide_eq_true ⟨g2, hf⟩, by rw [g4, exs]⟩
        · exact absurd et (hno _ g3)
    refine rParse_ok hts (fun hno H6 hf6 => ?_) fun l' o' n' c' H6 hl el ho hf6 => ?_
    · obtain ⟨H7, h1, h2, h3, h4, h5, h6, h7⟩ := main none 0 0 [] 11 H6 Sl.zero (by omega) hf6 (fun ad e => by cases e) (.inr ⟨by decide, hno⟩)
      refine ⟨H7, h1, _, _, _, _, _, _, _, _, _, _, _, h2.ldA0 (by kernel_rfl) (by kernel_rfl) rfl, ?_⟩
      refine brB_of (fun he => ret (m := (0, (none, 0, 0), (none, 0, 0), (none, 0, 0), 0)) (ok := (11 : Int) == 0) h4 h3 h5 h6 ⟨by simp, by simp, by simp⟩ (fun x hx => by simp at hx) fun y hy ey => ?_)
          (fun he => ret (m := (0, (none, 0, 0), (none, 0, 0), (none, 0, 0), 0)) (ok := false) h4 h3 h5 h6 ⟨by simp, by simp, by simp⟩ (fun x hx => by simp at hx) fun y hy ey => ?_)
      · obtain ⟨g1, g2⟩ := h7 y hy ey
        exact ⟨by have := (of_decide_eq_true g1).2; simp at this <;> simp [this], g2⟩
      · obtain ⟨g1, g2⟩ := h7 y hy ey
        have := (of_decide_eq_true g1).1
        simp [this] at he
    · have hl8 := hl.1
      have hol := ho.1
      obtain ⟨H7, h1, h2, h3, h4, h5, h6, h7⟩ := main o' n' c' l' 0 H6 ho.sl (by omega) hf6 (fun ad e => (ho.lt ad e).1) (.inl ⟨rfl, hl, el⟩)
      refine ⟨H7, h1, _, _, _, _, _, _, _, _, _, _, _, h2.ldA0 (by kernel_rfl) (by kernel_rfl) rfl, ?_⟩
      refine brB_of (fun he => ret (m := (0, (o', n', c'), (none, 0, 0), (none, 0, 0), 0)) (ok := (0 : Int) == 0) h4 h3 h5 h6 ⟨by simp; omega, by simp, by simp⟩ (fun x hx => by simp at hx) fun y hy ey => ?_)
          (fun he => ret (m := (0, (o', n', c'), (none, 0, 0), (none, 0, 0), 0)) (ok := false) h4 h3 h5 h6 ⟨by simp; omega, by simp, by simp⟩ (fun x hx => by simp at hx) fun y hy ey => ?_)
      · obtain ⟨g1, g2⟩ := h7 y hy ey
        exact ⟨by have := (of_decide_eq_true g1).2; simp at this <;> simp [this], g2⟩
      · obtain ⟨g1, g2⟩ := h7 y hy ey
        have := (of_decide_eq_true g1).1
        simp [this] at he
  · have hk0 : k ≠ 0 := by simpa [m0] using h
    refine rnumbers_ok (a := p) (m := 1) hs9 hp (by omega) (fun hno H5 hf5 => ?_) fun L2 o2 n2 c2 q0 H5 hLo2 hl2 hG2 hrd2 hq0 hf5 => ?_
    · refine brB_of (fun _ => ?_) (fun h => by simp at h)
      refine fail (hf04.keep0 hf5) (hb4.keep hf5) fun y hy e => ?_
      obtain ⟨h1, h2⟩ := hH.2 y hy e
      have hF := hy.fine
      have hkk' := hF.k
      rcases (by omega : y.k = 1 ∨ y.k = 2 ∨ y.k = 3) with h3 | h3 | h3
      · have eb : bodyR y = uintL y.rows.length ++ y.rows.flatMap rowL := by unfold bodyR; rw [if_neg (by omega), if_pos h3]
        exact hno [(y.rows.length : Int)] (y.rows.flatMap rowL) rfl (fun z hz => by simp at hz; subst hz; exact ⟨by omega, by have := hF.nr; omega⟩) (by rw [h2, eb]; simp [uL])
      · have eb : bodyR y = uintL y.tombs.length ++ y.tombs.flatMap tombL := by unfold bodyR; rw [if_neg (by omega), if_neg (by omega), if_pos h3]
        exact hno [(y.tombs.length : Int)] (y.tombs.flatMap tombL) rfl (fun z hz => by simp at hz; subst hz; exact ⟨by omega, by have := hF.nt; omega⟩) (by rw [h2, eb]; simp [uL])
      · have eb : bodyR y = uL y.at' := by unfold bodyR; rw [if_neg (by omega), if_neg (by omega), if_neg (by omega)]
        exact hno [y.at'] [] rfl (fun z hz => by simp at hz; subst hz; exact ⟨hF.at'.1, by have := hF.at'.2; omega⟩) (by rw [h2, eb]; simp)
    obtain ⟨w, rfl⟩ : ∃ w, L2 = [w] := by cases L2 with | nil => simp at hl2 | cons k L => cases L with | nil => exact ⟨k, rfl⟩ | cons _ _ => simp at hl2
    have hL2 := hLo2.sl
    have hw := hG2 w (by simp)
    have hrd2 := flat1 hrd2
    have hn2 := hL2.len
    have hr5 := hr4.keep hf5
    have hb5 := hb4.keep hf5
    have hf05 := hf04.keep0 hf5
    refine brB_of (fun h => by simp at h; omega) (fun _ => ?_)
    refine ⟨_, hr5.r0, brB_of (fun h => ?_) (fun h => ?_)⟩
    · -- a time
      have hk3 : k = 3 := by simpa [m0] using h
      subst hk3
      refine hL2.at0 (decide_eq_true (by simp at hn2; omega)) fun ad e hld => ⟨_, hld, ?_⟩
      refine Blk.st (j := 4) hr5 (v := .int .i64 w) (by kernel_rfl) (by kernel_rfl) (fun x hx => by simp [Value.cells] at hx; subst hx; rfl) (by simp [Value.cells, rC]) fun H6 hr6 hf6 => ?_
      have hr6' : Blk H6 ⟨b1, 0, none⟩ (rC (3, (none, 0, 0), (none, 0, 0), (none, 0, 0), w)) := by simpa [Value.cells, rC, m0] using hr6
      refine ⟨_, _, _, _, _, _, _, _, _, _, _, hr6'.ldA0 (by kernel_rfl) (by kernel_rfl) rfl, ?_⟩
      refine ret (m := (3, (none, 0, 0), (none, 0, 0), (none, 0, 0), w)) (r := ⟨3, [], [], [], w⟩) (hf05.keep hf6 (fun k hk => by simp at hk; omega)) (hb5.fr hf6 (by simp; omega)) ⟨rfl, Sl.zero, Sl.zero, Sl.zero, rfl⟩ (fun _ _ => ⟨no_ad, no_ad, no_ad⟩) ⟨by simp, by simp, by simp⟩ (fun x hx => by simp at hx) fun y hy ey => ⟨rfl, ?_⟩
      obtain ⟨h1, h2⟩ := hH.2 y hy ey
      have hF := hy.fine
      have eb : bodyR y = uL y.at' := by unfold bodyR; rw [if_neg (by omega), if_neg (by omega), if_neg (by omega)]
      obtain ⟨_, h3, _⟩ := hrd2.2.2 rfl y.at' [] ⟨hF.at'.1, by have := hF.at'.2; omega⟩ (by rw [h2, eb]; simp)
      rw [sole3 hF h1, h3]
    have hk3 : k ≠ 3 := by simpa [m0] using h
    obtain ⟨N, rfl⟩ : ∃ N : Nat, w = N := ⟨w.toNat, by omega⟩
    have hst := LstR.start ⟨hk0, hk3⟩ hH hrd2
    have em0 : m0 k = memOf k (none, 0, 0) := by unfold m0 memOf; split <;> rfl
    have hne : b ≠ b1 := by omega
    -- the loop
    refine ⟨fun vs H' => match vs with
        | [.int _ q', .int _ i] => ∃ (M : List Row) (q : Nat) (o : Option Addr) (l c : Nat), q' = q ∧ i = M.length ∧ Blk H' ⟨b1, 0, none⟩ (rC (memOf k (o, l, c))) ∧ Blk H' ⟨b, 0, none⟩ (rC (m0 0)) ∧ Own enc3 (if k = 1 then 58 else 62) H5.size H' o l c M ∧ Fr [] H H' ∧ Fr [b1] H5 H' ∧ (∀ x ∈ M, I64 x.2.2) ∧ M.length ≤ 5001 ∧ LstR s k N q M
        | _ => False,
      fun vs _ => match vs with | [_, .int _ i] => 6000 - i.toNat | _ => 0, ⟨[], q0, none, 0, 0, rfl, rfl, by rw [← em0]; exact hr5, hb5, Own.nil _ _ _ _, hf05, Fr.refl _ _, by simp, by simp, hst⟩, ?_⟩
    rintro J q' i H6 ⟨M, q, o, l, c, rfl, rfl, hr6, hb6, ho6, hf06, hf56, hMT, hM5, hls⟩
    have hlM := ho6.1
    have hq := hls.1
    have eg1 : k = 1 → memOf k (o, l, c) = (k, (none, 0, 0), (o, l, c), (none, 0, 0), 0) := fun h => if_pos h
    have eg2 : k ≠ 1 → memOf k (o, l, c) = (k, (none, 0, 0), (none, 0, 0), (o, l, c), 0) := fun h => if_neg h
    have lb5 : b < H5.size := hb5.lt
    have lb15 : b1 < H5.size := hr5.lt
    have hni : ∀ b', b' ≤ b → NotIn (memOf k (o, l, c)) b' := by
      intro b' hb'
      by_cases h1 : k = 1
      · rw [eg1 h1]; exact ⟨no_ad, not_own ho6 (by omega), no_ad⟩
      · rw [eg2 h1]; exact ⟨no_ad, no_ad, not_own ho6 (by omega)⟩
    have hRc : RcH H6 (memOf k (o, l, c)) (recOf k M) := by
      by_cases h1 : k = 1
      · rw [eg1 h1]; unfold recOf; rw [if_pos h1]; exact ⟨rfl, Sl.zero, ho6.sl, Sl.zero, rfl⟩
      · rw [eg2 h1]; unfold recOf; rw [if_neg h1]; exact ⟨rfl, Sl.zero, Sl.zero, ho6.sl, rfl⟩
    have hsm : Small (memOf k (o, l, c)) := by
      by_cases h1 : k = 1
      · rw [eg1 h1]; exact ⟨by simp, by simp; omega, by simp⟩
      · rw [eg2 h1]; exact ⟨by simp, by simp, by simp; omega⟩
    have hTy : TypR (recOf k M) := by
      unfold recOf
      split
      · exact hMT
      · exact fun x hx => by simp at hx
    refine ⟨fun _ H' => H' = H6 ∧ M.length < N ∧ M.length ≤ 5000, ?_, ?_⟩
    · refine (hL2.fr hf56 fun ad e => ?_).at0 (decide_eq_true (by simp at hn2; omega)) fun ad e hld => ⟨_, hld, brB_of (fun h1 => brB_of (fun h2 => ⟨rfl, by simp at h1; omega, by simp at h2; omega⟩) (fun h2 => ?_)) (fun h1 => ?_)⟩
      · have := (hLo2.lt ad e).1
        simp; omega
      · refine ⟨_, _, _, _, _, _, _, _, _, _, _, hr6.ldA0 (by kernel_rfl) (by kernel_rfl) rfl, ret (m := memOf k (o, l, c)) hf06 hb6 hRc hni hsm hTy (hls.done (.inr (by simp at h2; omega)))⟩
      · refine ⟨_, _, _, _, _, _, _, _, _, _, _, hr6.ldA0 (by kernel_rfl) (by kernel_rfl) rfl, ret (m := memOf k (o, l, c)) hf06 hb6 hRc hni hsm hTy (hls.done (.inl (by simp at h1; omega)))⟩
    · rintro J H7 ⟨rfl, hlt, hM5'⟩
      refine ⟨_, hr6.r0, brB_of (fun h1 => ?_) (fun h1 => ?_)⟩
      · have hk1 : k = 1 := by unfold memOf at h1; split at h1 <;> simpa using h1
        subst hk1
        have hLno : (∀ (L : List Int) t, L.length = 2 → (∀ y ∈ L, GT40 y) → (bl s).drop q ≠ L.flatMap uL ++ t) → ∀ y, GoodR y → bl s ≠ encR y := fun hno => hls.bad hlt fun x t hx e => by
          have hx : rowP4 x := hx
          refine hno [x.1, x.2.1] (intL x.2.2 ++ t) rfl (fun z hz => ?_) (by rw [e]; show rowL x ++ t = _; unfold rowL; simp)
          simp at hz
          rcases hz with rfl | rfl
          · exact ⟨hx.1.1, by have := hx.1.2; omega⟩
          · exact ⟨hx.2.1.1, by have := hx.2.1.2; omega⟩
        refine rnumbers_ok (a := q) (m := 2) hs9 hq (by omega) (fun hno H8 hf8 => ?_) fun L3 o3 n3 c3 q1 H8 hLo3 hl3 hG3 hrd3 hq1 hf8 => ?_
        · refine brB_of (fun _ => ?_) (fun h => by simp at h)
          exact fail (hf06.keep0 hf8) (hb6.keep hf8) (hLno hno)
        obtain ⟨v1, v2, rfl⟩ : ∃ v1 v2, L3 = [v1, v2] := two_of hl3
        refine brB_of (fun h => by simp at h; omega) (fun _ => ?_)
        have hrd3 := flat2 hrd3
        have hn3 := hLo3.1
        refine rGetInt_ok hs9 (fun h => absurd ⟨by omega, by omega⟩ h) fun a' ea ha' v n' e H9 hg hv9 hf9 => ?_
        have ea : a' = q1 := by omega
        subst ea
        obtain ⟨g1, g2⟩ := hg.rdi hq1 hv9
        have hf09 := (hf06.keep0 hf8).keep0 hf9
        have hb9 := (hb6.keep hf8).keep hf9
        have hr9 := (hr6.keep hf8).keep hf9
        refine brB_of (fun h => ?_) (fun h => ?_)
        · refine fail hf09 hb9 (hls.bad hlt fun x t hx ex => ?_)
          have hx : rowP4 x := hx
          have ex : (bl s).drop q = rowL x ++ t := ex
          obtain ⟨_, _, h3⟩ := hrd3.2.2 rfl (x.1, x.2.1) (intL x.2.2 ++ t) ⟨⟨hx.1.1, by have := hx.1.2; omega⟩, hx.2.1.1, by have := hx.2.1.2; omega⟩ (by rw [ex]; unfold rowL; simp)
          exact g1 (by simpa using h) x.2.2 t hx.2.2 h3.symm
        have he : e = 0 := by simpa using h
        obtain ⟨p', rfl, hp', hrd4⟩ := g2 he
        have hn3' := (hLo3.keep hf9).sl
        have hr9' := hr9
        rw [eg1 rfl] at hr9'
        refine ⟨_, _, _, hr9'.ldK (j := 2) (by kernel_rfl) rfl, ?_⟩
        refine hn3'.at0 (decide_eq_true (by simp at hn3; omega)) fun ad0 e0 hld0 => ⟨_, hld0, ?_⟩
        refine hn3'.at1 (decide_eq_true (by simp at hn3; omega)) fun ad1 e1 hld1 => ⟨_, hld1, ?_⟩
        intro bx H10 hn10
        have hr10 := hr9'.keep hn10.fr
        refine ⟨hr10.ldK (j := 2) (by kernel_rfl) rfl, ?_⟩
        have ho6' : Own enc3 58 H5.size H7 o l c M := ho6
        have ho10 := ((ho6'.keep hf8).keep hf9).keep hn10.fr
        have s510 : H5.size ≤ H10.size := by have := hf56.size; have := hf8.size; have := hf9.size; have := hn10.size; omega
        refine ap_raw (n := l) slice23r elem58 ho10 (sl_one enc3 ((v1, v2, unfoldN v) : Row) hn10 rfl) s510 (by omega) fun o' l' c' H11 ho11 hf11 => ?_
        have dj : ∀ k, k < H5.size → k ∉ blkL o := fun k hk hb => by have := (ho10.ge k hb).1; omega
        have hr11 := hr10.fr hf11 (dj b1 lb15)
        have hb11 := (hb9.keep hn10.fr).fr hf11 (dj b lb5)
        refine Blk.st (j := 2) hr11 (v := .slice o' l' c') (by kernel_rfl) (by kernel_rfl) (fun x hx => by simp [Value.cells] at hx; subst hx; rfl) (by simp [Value.cells, rC]) fun H12 hr12 hf12 => ?_
        have hr12' : Blk H12 ⟨b1, 0, none⟩ (rC (memOf 1 (o', l', c'))) := by
          have : memOf 1 (o', l', c') = (1, (none, 0, 0), (o', l', c'), (none, 0, 0), 0) := if_pos rfl
          rw [this]
          simpa [Value.cells, rC] using hr12
        have ho12 := ho11.fr hf12 fun ad e => by
          have := (ho11.ge ad.block (by subst e; simp [blkL])).1
          simp; omega
        have hf512 : Fr [b1] H5 H12 := ((((hf56.trans' hf8 (fun k hk _ => hk) (by simp)).trans' hf9 (fun k hk _ => hk) (by simp)).trans' hn10.fr (fun k hk _ => hk) (by simp)).trans' hf11 (fun k hk _ => hk) (fun k hk hlt' => absurd hk (dj k hlt'))).trans' hf12 (fun k hk _ => hk) (fun k hk _ => by simp at hk; simp [hk])
        have hf012 : Fr [] H H12 := hf05.keep hf512 (fun k hk => by simp at hk; omega)
        rw [succ64 (by omega)]
        refine ⟨⟨M ++ [(v1, v2, unfoldN v)], p', o', l', c', rfl, by simp, hr12', hb11.fr hf12 (by simp; omega), ho12, hf012, hf512, fun x hx => ?_, by simp; omega, ?_⟩, mu_lt (by omega)⟩
        · rcases List.mem_append.1 hx with hx | hx
          · exact hMT x hx
          · simp at hx; subst hx; exact unfold_64 hv9
        · refine hls.step hlt ?_
          have hp3 := (hrd3.pair hrd4)
          refine ⟨hp3.1, fun _ => ⟨rfl, by rw [(hp3.2.1 rfl).2]; show _ = rowL _ ++ _; unfold rowL; simp⟩, fun _ y t hy ey => ?_⟩
          have hy : rowP4 y := hy
          have ey : (bl s).drop q = rowL y ++ t := ey
          obtain ⟨_, h3, h4⟩ := hp3.2.2 rfl ((y.1, y.2.1), y.2.2) t ⟨⟨⟨hy.1.1, by have := hy.1.2; omega⟩, hy.2.1.1, by have := hy.2.1.2; show y.2.1 ≤ _; omega⟩, hy.2.2⟩ (by rw [ey]; unfold rowL; simp)
          simp only [Prod.mk.injEq] at h3
          exact ⟨rfl, Prod.ext h3.1.1 (Prod.ext h3.1.2 h3.2), h4⟩
      · have hk1 : k ≠ 1 := by unfold memOf at h1; split at h1 <;> simpa using h1
        have ef : formOf k = tombL := by funext x; unfold formOf; rw [if_neg hk1]
        have eg : goodOf k = fun x => GT40 x.1 ∧ GT40 x.2.1 ∧ GT40 x.2.2 := by funext x; unfold goodOf; rw [if_neg hk1]
        have hLno : (∀ (L : List Int) t, L.length = 3 → (∀ y ∈ L, GT40 y) → (bl s).drop q ≠ L.flatMap uL ++ t) → ∀ y, GoodR y → bl s ≠ encR y := fun hno => hls.bad hlt fun x t hx e => by
          rw [eg] at hx
          rw [ef] at e
          refine hno [x.1, x.2.1, x.2.2] t rfl (fun z hz => ?_) (by rw [e]; unfold tombL; simp)
          simp at hz
          rcases hz with rfl | rfl | rfl
          · exact hx.1
          · exact hx.2.1
          · exact hx.2.2
        refine rnumbers_ok (a := q) (m := 3) hs9 hq (by omega) (fun hno H8 hf8 => ?_) fun L3 o3 n3 c3 q1 H8 hLo3 hl3 hG3 hrd3 hq1 hf8 => ?_
        · refine brB_of (fun _ => ?_) (fun h => by simp at h)
          exact fail (hf06.keep0 hf8) (hb6.keep hf8) (hLno hno)
        obtain ⟨v1, v2, v3, rfl⟩ : ∃ v1 v2 v3, L3 = [v1, v2, v3] := three_of hl3
        refine brB_of (fun h => by simp at h; omega) (fun _ => ?_)
        have hrd3 := flat3 hrd3
        have hn3 := hLo3.1
        have hb9 := hb6.keep hf8
        have hr9' := hr6.keep hf8
        have hn3' := hLo3.sl
        rw [eg2 hk1] at hr9'
        refine ⟨_, _, _, hr9'.ldK (j := 3) (by kernel_rfl) rfl, ?_⟩
        refine hn3'.at0 (decide_eq_true (by simp at hn3; omega)) fun ad0 e0 hld0 => ⟨_, hld0, ?_⟩
        refine hn3'.at1 (decide_eq_true (by simp at hn3; omega)) fun ad1 e1 hld1 => ⟨_, hld1, ?_⟩
        refine hn3'.at2 (decide_eq_true (by simp at hn3; omega)) fun ad2 e2 hld2 => ⟨_, hld2, ?_⟩
        intro bx H10 hn10
        have hr10 := hr9'.keep hn10.fr
        refine ⟨hr10.ldK (j := 3) (by kernel_rfl) rfl, ?_⟩
        have ho6' : Own enc3 62 H5.size H7 o l c M := by rw [if_neg hk1] at ho6; exact ho6
        have ho10 := (ho6'.keep hf8).keep hn10.fr
        have s510 : H5.size ≤ H10.size := by have := hf56.size; have := hf8.size; have := hn10.size; omega
        refine ap_raw (n := l) slice24r elem62 ho10 (sl_one enc3 ((v1, v2, v3) : Row) hn10 rfl) s510 (by omega) fun o' l' c' H11 ho11 hf11 => ?_
        have dj : ∀ k, k < H5.size → k ∉ blkL o := fun k hk hb => by have := (ho10.ge k hb).1; omega
        have hr11 := hr10.fr hf11 (dj b1 lb15)
        have hb11 := (hb9.keep hn10.fr).fr hf11 (dj b lb5)
        refine Blk.st (j := 3) hr11 (v := .slice o' l' c') (by kernel_rfl) (by kernel_rfl) (fun x hx => by simp [Value.cells] at hx; subst hx; rfl) (by simp [Value.cells, rC]) fun H12 hr12 hf12 => ?_
        have hr12' : Blk H12 ⟨b1, 0, none⟩ (rC (memOf k (o', l', c'))) := by
          have : memOf k (o', l', c') = (k, (none, 0, 0), (none, 0, 0), (o', l', c'), 0) := if_neg hk1
          rw [this]
          simpa [Value.cells, rC] using hr12
        have ho12 := ho11.fr hf12 fun ad e => by
          have := (ho11.ge ad.block (by subst e; simp [blkL])).1
          simp; omega
        have hf512 : Fr [b1] H5 H12 := (((hf56.trans' hf8 (fun k hk _ => hk) (by simp)).trans' hn10.fr (fun k hk _ => hk) (by simp)).trans' hf11 (fun k hk _ => hk) (fun k hk hlt' => absurd hk (dj k hlt'))).trans' hf12 (fun k hk _ => hk) (fun k hk _ => by simp at hk; simp [hk])
        have hf012 : Fr [] H H12 := hf05.keep hf512 (fun k hk => by simp at hk; omega)
        rw [succ64 (by omega)]
        refine ⟨⟨M ++ [(v1, v2, v3)], q1, o', l', c', rfl, by simp, hr12', hb11.fr hf12 (by simp; omega), by rw [if_neg hk1]; exact ho12, hf012, hf512, fun x hx => ?_, by simp; omega, ?_⟩, mu_lt (by omega)⟩
        · rcases List.mem_append.1 hx with hx | hx
          · exact hMT x hx
          · simp at hx; subst hx
            obtain ⟨w1, w2⟩ : GT40 v3 := hG3 v3 (by simp)
            show I64 v3
            unfold I64; omega
        · refine hls.step hlt ?_
          rw [ef, eg]
          exact hrd3
end Go.Proofs
