/- A part of a proof: see the last text of this claim. -/
import Derived.Test.YtjclcccjdnllgaaGreatC13o
import Derived.Test.YtjclcccjdnllgaaGreatL16b
set_option linter.unusedVariables false
set_option maxRecDepth 100000
open Go Go.GV
namespace Go.Proofs

structure ChP (c : List Rw) (f : Fn') : Prop where
  P : RowsP c
  ne : c ≠ []
  f : f = fnC c ⟨(blkR c).toArray⟩
theorem blk_at {c : List Rw} {s : ByteArray} {p j : Nat} (hs : bl s = blkR c) (hp : p = (blkTo c j).length) (hj : j < c.length) :
    ∃ r, (bl s).drop p = uintL (rT c j - rT c (j - 1)).toNat ++ (uintL (rAt c j).2.1.toNat ++ (uintL (foldN (rAt c j).2.2) ++ r)) := by
  obtain ⟨r, hr⟩ := rng_split (rowB c) hj
  have hr : blkR c = blkTo c j ++ (rowB c j ++ r) := hr
  refine ⟨r, ?_⟩
  rw [hs, hr, hp]
  simp [rowB, intL]
theorem fread_ok {f : Fn'} {H : Heap} {K : Option Addr → Nat → Nat → Bool → Heap → Prop} (hf : FnP f) (hs : f.2.2.2.size ≤ 100000000000)
    (hno : (∀ c, ChP c f → False) → ∀ H', Fr [] H H' → K none 0 0 false H')
    (hyes : ∀ rows a n c b H', Own encRw 26 H.size H' a n c rows → n ≤ 16 → (∀ x ∈ rows, I64 x.2.2) → Fr [] H H' → (∀ c, ChP c f → rows = c ∧ b = true) → K a n c b H') :
    CallH Tryz.prog fn_runs_fence_read ⟨[.agg ⟨[.int .i64 f.1, .int .i64 f.2.1, .int .i64 f.2.2.1, .string f.2.2.2]⟩]⟩ H fun v H' => ∃ a n c b, v = .tuple ⟨[.slice a n c, .bool b]⟩ ∧ K a n c b H' := by
  apply vc_runs_fence_read
  obtain ⟨hf1, hf2⟩ := hf
  obtain ⟨N, hN⟩ : ∃ N : Nat, f.2.2.1 = N := ⟨f.2.2.1.toNat, by omega⟩
  intro b H1 hn1
  refine ⟨_, hn1.blk.ldK (j := 3) (by kernel_rfl) rfl, ?_⟩
  intro r H2 hn2
  generalize hs' : f.2.2.2 = s at *
  have hsl := bl_len s
  have e1 := hn1.eq
  have e2 := hn2.eq
  have z1 := hn1.size
  have z2 := hn2.size
  have hb2 := hn1.blk.keep hn2.fr
  have f2 : Fr [] H H2 := hn1.fr.keep0 hn2.fr
  rw [hN] at hb2
  rw [hN] at hf2
  have cN : ∀ c, ChP c f → c.length = N ∧ bl s = blkR c ∧ f.1 = rT c 0 ∧ f.2.1 = lastC c + 1 := fun c hc => by
    have h := hc.f
    have h1 := congrArg (fun x : Fn' => x.1) h
    have h2 := congrArg (fun x : Fn' => x.2.1) h
    have h3 := congrArg (fun x : Fn' => x.2.2.1) h
    have h4 := congrArg (fun x : Fn' => x.2.2.2) h
    unfold fnC at h1 h2 h3 h4
    simp only at h1 h2 h3 h4
    rw [hs'] at h4
    exact ⟨by omega, by rw [h4], h1, h2⟩
  refine ⟨_, hb2.ld0 (by kernel_rfl) rfl, _, hb2.ldK (j := 2) (by kernel_rfl) rfl, ?_⟩
  refine ⟨fun vs H' => match vs with | [.slice a n c, .int _ t, .int _ i] => ∃ (rows : List Rw) (p j : Nat), i = j ∧ j ≤ N ∧ rows.length = j ∧ Own encRw 26 H.size H' a n c rows ∧ Blk H' ⟨r, 0, none⟩ [.string s, .int .i64 (p : Int), .bool true] ∧ p ≤ s.size ∧ r ∉ blkL a ∧ b ∉ blkL a ∧ Blk H' ⟨b, 0, none⟩ [.int .i64 f.1, .int .i64 f.2.1, .int .i64 (N : Int), .string s] ∧ Fr [] H H' ∧
      (∀ x ∈ rows, I64 x.2.2) ∧ 0 ≤ t ∧ t ≤ (j + 1) * 1099511627776 ∧ (∀ c, ChP c f → rows = c.take j ∧ p = (blkTo c j).length ∧ t = rT c (j - 1)) | _ => False,
    fun vs _ => match vs with | [_, _, .int _ i] => N - i.toNat | _ => 0,
    ⟨[], 0, 0, rfl, by omega, rfl, Own.nil .., hn2.blk, by omega, by simp [blkL], by simp [blkL], hb2, f2, by simp, by omega, by omega, fun c hc => ⟨by simp, rfl, (cN c hc).2.2.1⟩⟩, ?_⟩
  rintro J a n c t i H3 ⟨rows, p, j, rfl, hj, hlr, o3, hr3, hp, nr, nb, hb3, f3, hv, ht0, ht1, hcmp⟩
  have hn := o3.1
  refine brB_of (fun hlt => ?_) (fun hge => ?_)
  · have hlt : j < N := by simp at hlt; omega
    refine ⟨fun vs H' => match vs with | [.slice a' n' c', .int _ t'] => ∃ (rows' : List Rw) (p' : Nat), rows'.length = j + 1 ∧ Own encRw 26 H.size H' a' n' c' rows' ∧ Blk H' ⟨r, 0, none⟩ [.string s, .int .i64 (p' : Int), .bool true] ∧ p' ≤ s.size ∧ r ∉ blkL a' ∧ b ∉ blkL a' ∧ Blk H' ⟨b, 0, none⟩ [.int .i64 f.1, .int .i64 f.2.1, .int .i64 (N : Int), .string s] ∧ Fr [] H H' ∧
      (∀ x ∈ rows', I64 x.2.2) ∧ 0 ≤ t' ∧ t' ≤ (j + 1 + 1) * 1099511627776 ∧ (∀ c, ChP c f → rows' = c.take (j + 1) ∧ p' = (blkTo c (j + 1)).length ∧ t' = rT c j) | _ => False, ?_, ?_⟩
    · refine number_ok (B := 1099511627776) hr3 hp hs rfl (by omega) (by omega) fun v1 k1 p1 H4 hN1 hp1 hr4 f4 => ?_
      refine number_ok (B := 200) hr4 hp1 hs rfl (by omega) (by omega) fun v2 k2 p2 H5 hN2 hp2 hr5 f5 => ?_
      obtain ⟨m1, rfl, hm1⟩ := hN1.nat (by omega)
      obtain ⟨m2, rfl, hm2⟩ := hN2.nat (by omega)
      refine ⟨_, hr5.ld0 (by kernel_rfl) rfl, _, hr5.ldK (j := 1) (by kernel_rfl) rfl, ?_⟩
      refine GetInt_ok hs (fun h => (h ⟨by omega, by omega⟩).elim) fun a' ea' ha' w n3 e3 hG hw => ?_
      have : a' = p2 := by omega
      subst this
      have f35 : Fr [r] H3 H5 := f4.trans' f5 (fun k hk _ => hk) fun k hk _ => hk
      have et : IntKind.wrap .i64 (t + (m1 : Int)) = t + m1 := wrap64_of (by omega) (by omega)
      rw [et]
      refine var_blk (v := .agg ⟨[.int .i64 (t + m1), .int .i64 (m2 : Int), .int .i64 (unfoldN w)]⟩) (by kernel_rfl) (by kernel_rfl) tri_one (by rfl) fun vb H6 hvl hvb fv => ?_
      have o6 := (o3.fr f35 (blk_of_ne fun k kk hm => by simp at hm; subst hm; exact nr kk)).keep fv
      have f6 : Fr [] H H6 := (f3.keep f35 fun k hk => by simp at hk; omega).keep0 fv
      have hr6 := hr5.keep fv
      have hb6 := (hb3.fr f35 (by simp; omega)).keep fv
      have nums : ∀ c, ChP c f → k2 = true ∧ e3 = 0 ∧ t + m1 = rT c j ∧ (m2 : Int) = (rAt c j).2.1 ∧ unfoldN w = (rAt c j).2.2 ∧ n3 = ((blkTo c (j + 1)).length : Nat) := fun c hc => by
        obtain ⟨c1, c2, c3⟩ := hcmp c hc
        obtain ⟨d1, d2, d3, d4⟩ := cN c hc
        obtain ⟨rr, hd⟩ := blk_at d2 c2 (by omega)
        have hat := hc.P.at (i := j) (by omega)
        have hap := (hc.P.at (i := j - 1) (by omega)).1
        have hmo := hc.P.fine.mono (i := j - 1) (j := j) (by omega) (by omega)
        obtain ⟨u1, u2, u3, u4⟩ := hN1.of rfl (by omega) hd
        obtain ⟨w1, w2, w3, w4⟩ := hN2.of u1 (by omega) u4
        obtain ⟨x1, x2, x3⟩ := hG.of (foldN_lt hat.2.2) w4
        have ew : w = foldN (rAt c j).2.2 := by omega
        refine ⟨w1, x3, by omega, by omega, by rw [ew, unfold_fold], ?_⟩
        rw [x2, w3, u3, c2, blkTo_succ, List.length_append]
        unfold rowB intL
        rw [List.length_append, List.length_append]
        congr 1
        omega
      refine ⟨fun _ H' => k2 = true ∧ e3 = 0 ∧ Fr [] H6 H', ⟨fun vs H' => match vs with | [.bool b'] => (b' = false → k2 = true ∧ e3 = 0) ∧ (b' = true → ∀ c, ChP c f → False) ∧ Fr [] H6 H' | _ => False, ?_, ?_⟩, ?_⟩
      · refine ⟨_, hr6.ldK (j := 2) (by kernel_rfl) rfl, brB_of (fun h => ⟨(fun h => by cases h), fun _ c hc => ?_, Fr.refl _ _⟩) fun h1 => brB_of (fun h => ⟨(fun h => by cases h), fun _ c hc => ?_, Fr.refl _ _⟩) fun h2 => brB_of (fun h0 => ?_) fun h0 => ⟨fun _ => ⟨by simpa using h1, by simpa using h2⟩, (fun h => by cases h), Fr.refl _ _⟩⟩
        · have := (nums c hc).1; rw [this] at h; cases h
        · have := (nums c hc).2.1; rw [this] at h; simp at h
        · have h0 : 0 < j := by simp at h0; omega
          have hs0 := rAt_get (l := rows) (i := j - 1) (by omega)
          refine ⟨_, _, _, hvb.ldA0 (us := [.int .i64 (t + m1), .int .i64 (m2 : Int), .int .i64 (unfoldN w)]) (by kernel_rfl) (by kernel_rfl) rfl, ?_⟩
          have e1' : IntKind.wrap .i64 ((n : Int) - 1) = ((j - 1 : Nat) : Int) := by rw [hn, hlr]; exact pred64 (by omega) h0
          rw [e1']
          refine o6.idx rfl hs0 (decide_eq_true (by omega)) fun ad2 ea2 hc2 => ⟨_, _, _, ldRwA hc2, ?_⟩
          refine behind_ok (x := (t + (m1 : Int), (m2 : Int), unfoldN w)) (y := rAt rows (j - 1)) fun H7 f7 => ⟨fun _ => ⟨by simpa using h1, by simpa using h2⟩, fun hbt c hc => ?_, f7⟩
          obtain ⟨c1, c2, c3⟩ := hcmp c hc
          obtain ⟨q1, q2, q3, q4, q5, q6⟩ := nums c hc
          have hk : kLt (rAt c (j - 1)) (rAt c j) := hc.P.fine.at (by omega) (by have := (cN c hc).1; omega)
          have er : rAt rows (j - 1) = rAt c (j - 1) := by rw [c1]; unfold rAt; rw [List.getElem?_take, if_pos (by omega)]
          rw [er] at hbt
          have : kLt (rAt c (j - 1)) (t + (m1 : Int), (m2 : Int), unfoldN w) := by
            rw [q3, q4, q5]; exact hk
          rw [decide_eq_true this] at hbt; cases hbt
      · rintro J2 b' H7 ⟨hb1', hb2', f7⟩
        refine brB_of (fun h => ⟨_, _, _, _, rfl, hno (hb2' h) _ (f6.keep0 f7)⟩) (fun h => ⟨(hb1' h).1, (hb1' h).2, f7⟩)
      · rintro J2 H7 ⟨hk2, rfl, f7⟩
        obtain ⟨w', ew, hw', hr', hrl', rfl⟩ := hG.ok rfl
        rw [List.length_drop, hsl] at hrl'
        have hr7 := hr6.keep f7
        have h2e : ∀ {X : Heap → Prop}, (∀ H2, Blk H2 ⟨r, 0, none⟩ [.string s, .int .i64 ((a' + (uintL w').length : Nat) : Int), .bool k2] → Fr [r] H7 H2 → X H2) → ∃ H2, St Tryz.prog 3 H7 ⟨r, 1, none⟩ (.int .i64 ((a' + (uintL w').length : Nat) : Int)) H2 ∧ X H2 := fun hk => Blk.set hr7 (j := 1) (by kernel_rfl) (by kernel_rfl) rfl rfl (by simp) fun H2 hb2 hf2 => hk H2 hb2 hf2
        refine h2e fun H8 hr8 f8 => ?_
        have hlt6 : r < H6.size := hr6.lt
        have hvb8 := (hvb.keep f7).fr f8 (by simp; have := hr5.lt; simp at this; omega)
        refine ⟨_, _, _, hvb8.ldA0 (us := [.int .i64 (t + m1), .int .i64 (m2 : Int), .int .i64 (unfoldN w)]) (by kernel_rfl) (by kernel_rfl) rfl, ?_⟩
        intro b9 H9 hn9
        have o8 := ((o6.keep f7).fr f8 (blk_of_ne fun k kk hm => by simp at hm; subst hm; exact nr kk)).keep hn9.fr
        have s6 := f6.size
        have s7 := f7.size
        have s8 := f8.size
        have s9 := hn9.size
        refine ap_grow slice34 elem45 o8 (sl_one encRw (t + (m1 : Int), (m2 : Int), unfoldN w) hn9 rfl) (by omega) (by omega) fun q m d H10 h10 f10 g10 => ?_
        have bH : b < H6.size := hb6.lt
        rw [hk2] at hr8
        refine ⟨rows ++ [(t + (m1 : Int), (m2 : Int), unfoldN w)], a' + (uintL w').length, by simp; omega, h10, (hr8.keep hn9.fr).fr f10 nr, by omega, fun h => (g10 r h).elim nr fun h => by omega, fun h => (g10 b h).elim nb fun h => by omega, ?_, ?_, fun x hx => ?_, by omega, by omega, fun c hc => ?_⟩
        · exact ((((hb6.keep f7).fr f8 (by simp; omega)).keep hn9.fr).fr f10 nb)
        · exact ((((f6.keep0 f7).keep f8 fun k hk => by simp at hk; omega).keep0 hn9.fr).keep f10 fun k hk => (o3.ge k hk).1)
        · rcases List.mem_append.1 hx with h | h
          · exact hv x h
          · simp at h; subst h; exact unfold_64 hw
        · obtain ⟨c1, c2, c3⟩ := hcmp c hc
          obtain ⟨q1, q2, q3, q4, q5, q6⟩ := nums c hc
          refine ⟨?_, by omega, q3⟩
          have hg := rAt_get (l := c) (i := j) (by have := (cN c hc).1; omega)
          rw [List.take_add_one, hg, ← c1]
          have : rAt c j = (t + (m1 : Int), (m2 : Int), unfoldN w) := by
            rw [q3, q4, q5]; rfl
          rw [this]; rfl
    · rintro J2 a' n' c' t' H7 ⟨rows', p', h1, h2, h3, h4, h5, h6, h7, h8, h9, h10, h11, h12⟩
      rw [succ64 (by omega)]
      have hmu : N - ((j + 1 : Nat) : Int).toNat < N - ((j : Nat) : Int).toNat := by omega
      exact ⟨⟨rows', p', j + 1, rfl, by omega, h1, h2, h3, h4, h5, h6, h7, h8, h9, h10, by rw [Int.natCast_add]; exact h11, by rw [Nat.add_sub_cancel]; exact h12⟩, hmu⟩
  · have hjN : j = N := by simp at hge; omega
    subst hjN
    have full : ∀ c, ChP c f → rows = c ∧ p = s.size ∧ t = f.2.1 - 1 ∧ rT rows 0 = f.1 := fun c hc => by
      obtain ⟨c1, c2, c3⟩ := hcmp c hc
      obtain ⟨d1, d2, d3, d4⟩ := cN c hc
      rw [List.take_of_length_le (by omega)] at c1
      have := congrArg List.length d2
      rw [hsl] at this
      refine ⟨c1, ?_, ?_, by rw [c1]; exact d3.symm⟩
      · rw [c2, this]; unfold blkR; rw [d1]
      · rw [c3, d4]; unfold lastC; rw [d1]; omega
    refine ⟨_, hr3.ldK (j := 1) (by kernel_rfl) rfl, _, hr3.ld0 (by kernel_rfl) rfl, brB_of (fun h1 => ?_) fun h1 => ⟨_, _, _, _, rfl, hyes rows _ _ _ _ _ o3 (by omega) hv f3 fun c hc => ?_⟩⟩
    · have hs0 := rAt_get (l := rows) (i := 0) (by omega)
      refine o3.idx (k := 0) rfl hs0 (decide_eq_true (by omega)) fun ad ea hc => ⟨rT rows 0, by have := ldRw0 hc; have e : rT rows 0 = (rAt rows 0).1 := rfl; rw [e]; simpa [Addr.add] using this, _, hb3.ld0 (by kernel_rfl) rfl, brB_of (fun h2 => ⟨_, hb3.ldK (j := 1) (by kernel_rfl) rfl, _, _, _, _, rfl, hyes rows _ _ _ _ _ o3 (by omega) hv f3 fun c hc => ?_⟩) fun h2 => ⟨_, _, _, _, rfl, hyes rows _ _ _ _ _ o3 (by omega) hv f3 fun c hc => ?_⟩⟩
      · obtain ⟨d1, d2, d3, d4⟩ := full c hc
        have ew : IntKind.wrap .i64 (f.2.1 - 1) = f.2.1 - 1 := wrap64_of (by omega) (by omega)
        exact ⟨d1, by rw [ew, d3]; simp⟩
      · obtain ⟨d1, d2, d3, d4⟩ := full c hc
        rw [d4] at h2; simp at h2
    · obtain ⟨d1, d2, d3, d4⟩ := full c hc
      rw [d2] at h1; simp at h1

theorem vF_one {x y z : Int} {s : ByteArray} : ∀ v ∈ (Value.agg ⟨[.int .i64 x, .int .i64 y, .int .i64 z, .string s]⟩).cells.toList, v.oneCell' = true := fun v h => by
  simp [Value.cells] at h; rcases h with rfl | rfl | rfl | rfl <;> rfl
def hasF (f : Fn') (x y : Int) : Bool := decide (max f.1 x < min f.2.1 y)
theorem has_ok {f : Fn'} {x y : Int} {H : Heap} {K : Bool → Heap → Prop} (hk : ∀ H', Fr [] H H' → K (hasF f x y) H') :
    CallH Tryz.prog fn_runs_fence_has ⟨[.agg ⟨[.int .i64 f.1, .int .i64 f.2.1, .int .i64 f.2.2.1, .string f.2.2.2]⟩, .agg ⟨[.int .i64 x, .int .i64 y]⟩]⟩ H fun v H' => ∃ r, v = .bool r ∧ K r H' := by
  apply vc_runs_fence_has
  intro b H1 hn1 b1 H2 hn2
  have h1 := hn1.blk.keep hn2.fr
  have h2 := hn2.blk
  refine ⟨_, h1.ld0 (by kernel_rfl) rfl, _, h2.ld0 (by kernel_rfl) rfl, _, h1.ldK (j := 1) (by kernel_rfl) rfl, _, h2.ldK (j := 1) (by kernel_rfl) rfl, _, rfl, ?_⟩
  have e : decide ((if x > f.1 then x else f.1) < if y < f.2.1 then y else f.2.1) = hasF f x y := decide_eq_decide.2 (by
    rw [Int.max_def, Int.min_def]
    split <;> split <;> split <;> split <;> omega)
  rw [e]
  exact hk H2 (hn1.fr.keep0 hn2.fr)
theorem tells_between {x y : Int} {b : Nat} : TellsR (.func (.func 98) ⟨[]⟩ ⟨[.pointer (some ⟨b, 0, none⟩)]⟩) (fun z => !inRw x y z) (fun H => Blk H ⟨b, 0, none⟩ [.int .i64 x, .int .i64 y]) := by
  intro z H K hg hk
  refine ⟨98, ⟨[]⟩, _, rfl, by kernel_rfl, ?_⟩
  apply vc_runs_Between_1
  intro b1 H1 hn1
  have hk' := hk H1 hn1.fr
  have hg' := hg.keep hn1.fr
  refine ⟨_, hn1.blk.ld0 (by kernel_rfl) rfl, _, hg'.ld0 (by kernel_rfl) rfl, brB_of (fun h => ⟨_, rfl, ?_⟩) (fun h => ⟨_, hn1.blk.ld0 (by kernel_rfl) rfl, _, hg'.ld (j := 1) (by kernel_rfl) rfl, _, rfl, ?_⟩)⟩
  · have h := of_decide_eq_true h
    have e : (!inRw x y z) = true := by unfold inRw; simp; omega
    simp only [e] at hk'
    exact hk'
  · have h := of_decide_eq_false h
    have e : (!inRw x y z) = decide (z.1 ≥ y) := by
      unfold inRw
      have h1 : decide (x ≤ z.1) = true := by simp; omega
      rw [h1, Bool.true_and]
      by_cases h2 : z.1 < y
      · simp [h2]
      · simp [h2]; omega
    simp only [e] at hk'
    exact hk'
theorem fsB_get {l : List Rw} {i j : Nat} (h : i < j) : (fsB l j)[i]? = some (fnC (chR l i) ⟨(blkR (chR l i)).toArray⟩) := by
  unfold fsB; rw [List.getElem?_map, List.getElem?_range h]; rfl
theorem take_ch (l : List Rw) (j : Nat) : l.take (16 * (j + 1)) = l.take (16 * j) ++ chR l j := by
  unfold chR; rw [show 16 * (j + 1) = 16 * j + 16 by omega, List.take_add]
theorem between_ok {s : ByteArray} {x y : Int} {H : Heap} {K : Option Addr → Nat → Nat → Int → Heap → Prop} (hs : s.size ≤ 1000000000)
    (hno : (∀ L, RowsP L → bl s ≠ encR L) → ∀ H', Fr [] H H' → K none 0 0 11 H')
    (hyes : ∀ rows a n c H', Own encRw 26 H.size H' a n c rows → n ≤ 10000 → (∀ z ∈ rows, I64 z.2.2) → Fr [] H H' → (∀ L, RowsP L → bl s = encR L → rows = L.filter (inRw x y)) → K a n c 0 H') :
    CallH Tryz.prog fn_runs_Between ⟨[.string s, .agg ⟨[.int .i64 x, .int .i64 y]⟩]⟩ H fun v H' => ∃ a n c e, v = .tuple ⟨[.slice a n c, .int .i64 e]⟩ ∧ K a n c e H' := by
  apply vc_runs_Between
  intro b H1 hn1
  have e1 := hn1.eq
  have z1 := hn1.size
  refine fences_ok hs (fun hn H2 f2 => brB_of (fun _ => ⟨_, _, _, _, rfl, hno hn H2 (hn1.fr.keep0 f2)⟩) fun h => by cases h) fun fs a n c H2 ho hfs hn f2 hcmp => brB_of (fun h => by cases h) fun _ => ?_
  have f12 := hn1.fr.keep0 f2
  have hln := ho.1
  have s12 := f2.size
  refine ⟨fun vs H' => match vs with | [.slice p m d, .int _ i] => ∃ (rows : List Rw) (j : Nat), i = j ∧ j ≤ n ∧ m ≤ 16 * j ∧ Own encRw 26 H.size H' p m d rows ∧ (∀ z ∈ rows, I64 z.2.2) ∧ Blk H' ⟨b, 0, none⟩ [.int .i64 x, .int .i64 y] ∧ b ∉ blkL p ∧ Dj (blkL p) (blkL a) ∧ Sl encF H' a n c fs ∧ Fr [] H H' ∧ (∀ L, RowsP L → bl s = encR L → rows = (L.take (16 * j)).filter (inRw x y)) | _ => False,
    fun vs _ => match vs with | [_, .int _ i] => n - i.toNat | _ => 0,
    ⟨[], 0, rfl, by omega, by omega, Own.nil .., by simp, hn1.blk.keep f2, by simp [blkL], by intro k hk; simp [blkL] at hk, ho.sl, f12, fun L _ _ => by simp⟩, ?_⟩
  rintro J p m d i H3 ⟨rows, j, rfl, hj, hm, o3, hv, hb3, nb, dj, hsf, f3, hcm⟩
  have hml := o3.1
  refine brB_of (fun hlt => ?_) (fun hge => ?_)
  · have hlt : j < n := by simp at hlt; omega
    obtain ⟨f, hf⟩ := getElem_ex (l := fs) (i := j) (by omega)
    have hfP := hfs f (List.mem_of_getElem? hf)
    rw [succ64 (by omega)]
    have hmu : n - ((j + 1 : Nat) : Int).toNat < n - ((j : Nat) : Int).toNat := by omega
    have chunk : ∀ L, RowsP L → bl s = encR L → ChP (chR L j) f := fun L hP hL => by
      have h1 := hcmp L hP hL
      rw [h1] at hf
      have hjn : j < nC L.length := by
        have := (List.getElem?_eq_some_iff.1 hf).1
        simpa [fsB] using this
      rw [fsB_get hjn] at hf
      exact ⟨hP.ch j, ch_ne (by unfold nC at hjn; omega), (Option.some.inj hf).symm⟩
    refine hsf.get rfl hf (decide_eq_true (by omega)) fun ad ea hc => ⟨_, _, _, _, ld_many (by kernel_rfl) (by kernel_rfl) hc, ?_⟩
    refine var_blk (by kernel_rfl) (by kernel_rfl) vF_one (by rfl) fun vb H4 hvl hvb fv => ?_
    have f4 := f3.keep0 fv
    have ldv : ∀ {H' : Heap}, Fr [] H4 H' → lD 158 H' ⟨vb, 0, none⟩ (.agg ⟨[.int .i64 f.1, .int .i64 f.2.1, .int .i64 f.2.2.1, .string f.2.2.2]⟩) := fun hf' => (hvb.keep hf').ldA0 (us := [.int .i64 f.1, .int .i64 f.2.1, .int .i64 f.2.2.1, .string f.2.2.2]) (by kernel_rfl) (by kernel_rfl) rfl
    refine ⟨_, _, _, _, ldv (Fr.refl _ _), _, _, (hb3.keep fv).ldA0 (us := [.int .i64 x, .int .i64 y]) (by kernel_rfl) (by kernel_rfl) rfl, ?_⟩
    refine has_ok fun H5 f5 => ?_
    have f5' := f4.keep0 f5
    have f35 := fv.keep0 f5
    refine brB_of (fun h => ?_) fun h => ⟨_, _, _, _, ldv f5, ?_⟩
    · have h : hasF f x y = false := by simpa using h
      refine ⟨⟨rows, j + 1, rfl, by omega, by omega, o3.keep f35, hv, hb3.keep f35, nb, dj, hsf.keep f35, f5', fun L hP hL => ?_⟩, hmu⟩
      have hc := chunk L hP hL
      rw [take_ch, List.filter_append, ← hcm L hP hL]
      have : (chR L j).filter (inRw x y) = [] := ch_out hc.P x y (by
        unfold hasF at h
        rw [hc.f] at h
        exact of_decide_eq_false h)
      rw [this, List.append_nil]
    · refine fread_ok hfP.1 (by have := hfP.2; omega) (fun hn' H6 f6 => brB_of (fun _ => ⟨_, _, _, _, rfl, hno (fun L hP hL => hn' _ (chunk L hP hL)) _ (f5'.keep0 f6)⟩) fun h => by cases h) fun rs a2 n2 c2 bb H6 o6 hn2 hv6 f6 hc6 => ?_
      have f6' := f5'.keep0 f6
      refine brB_of (fun h => ⟨_, _, _, _, rfl, hno (fun L hP hL => ?_) _ f6'⟩) fun h => ?_
      · have := (hc6 _ (chunk L hP hL)).2
        rw [this] at h; cases h
      · have f36 := f35.keep0 f6
        have s35 := f35.size
        have s36 := f36.size
        have hb6 := hb3.keep f36
        have hbl := hb3.lt
        have ob : ∀ k ∈ blkL a2, H5.size ≤ k := fun k hk => (o6.ge k hk).1
        refine DeleteFuncR_ok (tells_between (x := x) (y := y) (b := b)) (fun H' hf' => hb6.fr hf' fun hk => by have := ob _ hk; simp at this hbl; omega) o6 (by omega) fun n' H7 o7 hn' f7 => ?_
        simp only [Bool.not_not] at o7
        have o3' := (o3.keep f36).fr f7 (blk_of_ne fun k kk hm => by have := ob k hm; have := (o3.ge k kk).2; omega)
        have s7 := f7.size
        have z3 := f3.size
        refine ap_grow slice34 elem45 o3' o7.sl (by omega) (by omega) fun p' m' d' H8 h8 f8 g8 => ?_
        have hm' := h8.1
        have hnl := o7.1
        have hfl := List.length_filter_le (inRw x y) rs
        have hrl := o6.1
        have fl36 : Fr [] H H7 := f6'.keep f7 fun k hk => by have := ob k hk; have := f5'.size; omega
        have hsf7 := (hsf.keep f36).fr f7 (blk_of_ne fun k kk hm => by
          have h1 := ob k hm
          have h2 := sl_lt hsf (by intro e; rw [e] at hf; simp at hf) k kk
          omega)
        refine ⟨⟨rows ++ rs.filter (inRw x y), j + 1, rfl, by omega, by rw [List.length_append] at hm'; omega, h8, fun z hz => ?_, ?_, fun hk => (g8 b hk).elim nb fun h => by simp at hbl; omega, fun k hk hk2 => ?_, hsf7.fr f8 (blk_of_ne fun k kk hm => dj k hm kk), fl36.keep f8 fun k hk => (o3.ge k hk).1, fun L hP hL => ?_⟩, hmu⟩
        · rcases List.mem_append.1 hz with h | h
          · exact hv z h
          · exact hv6 z (List.mem_filter.1 h).1
        · exact (hb6.fr f7 fun hk => by have := ob _ hk; simp at this hbl; omega).fr f8 nb
        · rcases g8 k hk with h | h
          · exact dj k h hk2
          · have h2 := sl_lt hsf (by intro e; rw [e] at hf; simp at hf) k hk2
            omega
        · rw [take_ch, List.filter_append, ← hcm L hP hL, (hc6 _ (chunk L hP hL)).1]
  · have hjn : j = n := by simp at hge; omega
    subst hjn
    refine ⟨_, _, _, _, rfl, hyes rows _ _ _ _ o3 (by omega) hv f3 fun L hP hL => ?_⟩
    rw [hcm L hP hL]
    have : j = nC L.length := by
      rw [hln, hcmp L hP hL]; simp [fsB]
    rw [List.take_of_length_le (by rw [this]; unfold nC; omega)]
theorem runsDecode_ok {s : ByteArray} {H : Heap} {K : Option Addr → Nat → Nat → Int → Heap → Prop} (hs : s.size ≤ 1000000000)
    (hno : (∀ L, RowsP L → bl s ≠ encR L) → ∀ H', Fr [] H H' → K none 0 0 11 H')
    (hyes : ∀ L a n c H', RowsP L → bl s = encR L → Own encRw 26 H.size H' a n c L → Fr [] H H' → K a n c 0 H') :
    CallH Tryz.prog fn_runs_Decode ⟨[.string s]⟩ H fun v H' => ∃ a n c e, v = .tuple ⟨[.slice a n c, .int .i64 e]⟩ ∧ K a n c e H' := by
  apply vc_runs_Decode
  refine between_ok hs (fun hn H' hf => brB_of (fun _ => ⟨_, _, _, _, rfl, hno hn H' hf⟩) fun h => by cases h) fun rows a n c H1 ho hn hv hf hcmp => brB_of (fun h => by cases h) fun _ => ?_
  refine runsEncode_ok ho.sl hv (by omega) (fun hnP H' hf' => brB_of (fun _ => ⟨_, _, _, _, rfl, hno (fun L hP hL => hnP ?_) _ (hf.keep0 hf')⟩) fun h => by cases h) fun hP H' hf' => brB_of (fun h => by cases h) fun _ => ?_
  · rw [hcmp L hP hL, filter_allR hP]; exact hP
  · by_cases e : s = ⟨(encR rows).toArray⟩
    · rw [sized e.symm]
      exact ⟨_, _, _, _, rfl, hyes rows _ _ _ _ hP (by rw [e]) (ho.keep hf') (hf.keep0 hf')⟩
    · rw [sized_ne (fun h => e h.symm)]
      refine ⟨_, _, _, _, rfl, hno (fun L hP' hL => e ?_) _ (hf.keep0 hf')⟩
      rw [hcmp L hP' hL, filter_allR hP']
      exact bl_inj hL

theorem GU.pos {s : ByteArray} {a : Nat} {v n e : Int} (h : GU ((bl s).drop a) a v n e) (ha : a ≤ s.size) : ∃ a' m : Nat, n = a' ∧ a' ≤ s.size ∧ v = m ∧ m < 18446744073709551616 := by
  have hsl := bl_len s
  rcases h with ⟨m, h1, h2, h3, h4, h5, _⟩ | ⟨h1, h2, _⟩ | ⟨h1, h2, _⟩
  · rw [List.length_drop, hsl] at h4
    exact ⟨a + (uintL m).length, m, h5, by omega, h1, h2⟩
  · exact ⟨0, 0, h2, by omega, h1, by decide⟩
  · exact ⟨0, 0, h2, by omega, h1, by decide⟩
theorem GU.step {s : ByteArray} {a m : Nat} {v n e : Int} {t : List UInt8} (h : GU ((bl s).drop a) a v n e) (hm : m < 18446744073709551616) (hr : (bl s).drop a = uintL m ++ t) : e = 0 ∧ v = m ∧ n = ((a + (uintL m).length : Nat) : Int) ∧ (bl s).drop (a + (uintL m).length) = t := by
  obtain ⟨h1, h2, h3⟩ := h.of hm hr
  exact ⟨h3, h1, h2, drop_pre hr⟩
theorem rnum_ok {s : ByteArray} {at' : Int} {a : Nat} {H : Heap} {K : Int → Int → Int → Heap → Prop} (hs : s.size ≤ 100000000000) (ea : at' = a) (ha : a ≤ s.size)
    (hk : ∀ (m a' : Nat) e H', GU ((bl s).drop a) a m a' e → m < 18446744073709551616 → a' ≤ s.size → Fr [] H H' → K m a' e H') :
    CallH Tryz.prog fn_ref01_GetUint ⟨[.string s, .int .i64 at']⟩ H fun v H' => ∃ n m e, v = .tuple ⟨[.int .u64 n, .int .i64 m, .int .i64 e]⟩ ∧ K n m e H' := by
  refine rGetUint_ok hs (fun h => (h ⟨by omega, by omega⟩).elim) fun a0 ea0 ha0 v n e H' hG hf => ?_
  have : a0 = a := by omega
  subst this
  obtain ⟨a', m, rfl, h1, rfl, h2⟩ := hG.pos ha
  exact hk m a' e H' hG h2 h1 hf
def rgF (f : Fn') : Smp := (f.1, f.2.1)
def ctF (f : Fn') : Int := f.2.2.1
def txF (f : Fn') : ByteArray := f.2.2.2
theorem slice68 : sliceB Tryz.prog 68 112 = true := by kernel_rfl
theorem elem112 : elemB Tryz.prog 112 encS.sz 16 = true := by kernel_rfl
theorem slice113 : sliceB Tryz.prog 113 9 = true := by kernel_rfl
theorem elem9s : elemB Tryz.prog 9 GV.encStr.sz 16 = true := by kernel_rfl
theorem putB_map {s : ByteArray} {p : Nat} {zs : List Int} {fs : List Fn'} {k : Nat} : (putB s p zs fs k).map rgF = fs.map rgF ∧ (putB s p zs fs k).map ctF = fs.map ctF := by
  constructor
  · refine List.ext_getElem? fun i => ?_
    rw [List.getElem?_map, List.getElem?_map]
    by_cases hi : i < fs.length
    · obtain ⟨f, hf⟩ := getElem_ex hi
      rw [putB_get hf, hf]
      split <;> rfl
    · rw [List.getElem?_eq_none (by rw [putB_len]; omega), List.getElem?_eq_none (by omega)]
  · refine List.ext_getElem? fun i => ?_
    rw [List.getElem?_map, List.getElem?_map]
    by_cases hi : i < fs.length
    · obtain ⟨f, hf⟩ := getElem_ex hi
      rw [putB_get hf, hf]
      split <;> rfl
    · rw [List.getElem?_eq_none (by rw [putB_len]; omega), List.getElem?_eq_none (by omega)]
theorem putB_tx {s : ByteArray} {p : Nat} {zs : List Int} {fs : List Fn'} {k : Nat} {f : Fn'} (hf : fs[k]? = some f) : ((putB s p zs fs (k + 1)).map txF).take (k + 1) = ((putB s p zs fs k).map txF).take k ++ [s.extract ((p : Int) + offs zs k).toNat ((p : Int) + offs zs (k + 1)).toNat] := by
  have hk := (List.getElem?_eq_some_iff.1 hf).1
  rw [putB_succ hf, List.map_set, List.take_add_one, List.getElem?_set_self (by rw [List.length_map, putB_len]; exact hk), List.take_set_of_le (Nat.le_refl _)]
  rfl
theorem rfences_ok {s : ByteArray} {H : Heap} {K : Option Addr → Nat → Nat → Option Addr → Nat → Nat → Option Addr → Nat → Nat → Bool → Heap → Prop} (hs : s.size ≤ 1000000000)
    (hno : (∀ L, RowsP L → bl s ≠ encR L) → ∀ H', Fr [] H H' → K none 0 0 none 0 0 none 0 0 false H')
    (hyes : ∀ fs a n c a1 n1 c1 a2 n2 c2 H', Own encS 112 H.size H' a n c (fs.map rgF) → Own GV.encStr 9 H.size H' a1 n1 c1 (fs.map txF) → Own encInt 3 H.size H' a2 n2 c2 (fs.map ctF) → (∀ f ∈ fs, FnP f ∧ f.2.2.2.size ≤ s.size) → n ≤ 313 → Fr [] H H' → (∀ L, RowsP L → bl s = encR L → fs = fsB L (nC L.length)) → K a n c a1 n1 c1 a2 n2 c2 true H') :
    CallH Tryz.prog fn_ref16_fences ⟨[.string s]⟩ H fun v H' => ∃ a n c a1 n1 c1 a2 n2 c2 b, v = .tuple ⟨[.slice a n c, .slice a1 n1 c1, .slice a2 n2 c2, .bool b]⟩ ∧ K a n c a1 n1 c1 a2 n2 c2 b H' := by
  apply vc_ref16_fences
  have hsl := bl_len s
  refine rnum_ok (a := 0) (by omega) rfl (by omega) fun n0 p0 e0 H0 hG0 hn0 hp0 f0 => ?_
  have beg := fun L (hP : RowsP L) (hL : bl s = encR L) => hG0.step (by have := hP.len; omega) (encR_beg hL)
  refine ⟨fun _ H' => H' = H0 ∧ e0 = 0 ∧ n0 ≤ 5000, ?_, ?_⟩
  · refine brB_of (fun h => ⟨_, _, _, _, _, _, _, _, _, _, rfl, hno (fun L hP hL => ?_) _ f0⟩) fun h1 => brB_of (fun h => ⟨_, _, _, _, _, _, _, _, _, _, rfl, hno (fun L hP hL => ?_) _ f0⟩) fun h2 => ⟨rfl, by simpa using h1, by simp at h2; omega⟩
    · have := (beg L hP hL).1; simp at h; omega
    · have := (beg L hP hL).2.1; have := hP.len; simp at h; omega
  rintro J H1 ⟨rfl, rfl, hn5⟩ b H2 hn2 b1 H3 hn3 b2 H4 hn4
  have e2 := hn2.eq
  have e3 := hn3.eq
  have e4 := hn4.eq
  have z2 := hn2.size
  have z3 := hn3.size
  have z4 := hn4.size
  have z0 := f0.size
  have f4 : Fr [] H H4 := ((f0.keep0 hn2.fr).keep0 hn3.fr).keep0 hn4.fr
  have e5 : IntKind.wrap .i64 (n0 : Int) = n0 := wrap64_of (by omega) (by omega)
  rw [e5]
  refine ⟨fun vs H' => match vs with | [.int _ pos, .slice a n c, .slice a' n' c', .slice a2 n2 c2, .int _ all, .int _ left] => ∃ fs zs p j last, pos = ((p : Nat) : Int) ∧ FnS s p0 fs zs all last left p true j ∧ p ≤ s.size ∧ Own encS 112 H.size H' a n c (fs.map rgF) ∧ Own encInt 3 H.size H' a' n' c' zs ∧ Own encInt 3 H.size H' a2 n2 c2 (fs.map ctF) ∧ Dj (blkL a) (blkL a') ∧ Dj (blkL a) (blkL a2) ∧ Dj (blkL a') (blkL a2) ∧ Fr [] H H' ∧ (0 < j → ∃ f, fs[j - 1]? = some f ∧ f.2.1 - 1 = last) ∧ (j = 0 → last = 0) | _ => False,
    fun vs _ => match vs with | [_, _, _, _, _, .int _ left] => left.toNat | _ => 0,
    ⟨[], [], p0, 0, 0, rfl, ⟨⟨rfl, rfl⟩, ⟨by omega, by omega⟩, ⟨rfl, by simp⟩, by simp, by omega, by simp, (fun h => by cases h), fun L hP hL => ?_⟩, hp0, ((Own.made encS 112 hn2 z0).keep hn3.fr).keep hn4.fr, (Own.made encInt 3 hn3 (by omega)).keep hn4.fr, Own.made encInt 3 hn4 (by omega), (by intro k hk hk2; simp [blkL] at hk hk2; omega), (by intro k hk hk2; simp [blkL] at hk hk2; omega), (by intro k hk hk2; simp [blkL] at hk hk2; omega), f4, (fun h => by omega), fun _ => rfl⟩, ?_⟩
  · obtain ⟨q1, q2, q3, q4⟩ := beg L hP hL
    have ep : p0 = 0 + (uintL L.length).length := by omega
    refine ⟨rfl, by omega, by omega, by rw [ep]; exact q4, by simp [hdsR], rfl, rfl, rfl⟩
  rintro J pos a n c a' n' c' a2 n2 c2 all left H5 ⟨fs, zs, p, j, last, rfl, hF, hp, o1, o2, o3, d12, d13, d23, f5, hl1, hl0⟩
  have l1 := o1.1
  have l2 := o2.1
  have l3 := o3.1
  rw [List.length_map] at l1 l3
  have hj1 := hF.len
  have hle := hF.lft
  refine brB_of (fun hpos => ?_) (fun hneg => ?_)
  · have hpos : 0 < left := by simpa using hpos
    have hj : j ≤ 312 := by omega
    refine ⟨fun vs H' => match vs with | [.int _ pos, .slice a n c, .slice a' n' c', .slice a2 n2 c2, .int _ all'] => ∃ fs' zs' p' last', pos = ((p' : Nat) : Int) ∧ FnS s p0 fs' zs' all' last' (left - 16) p' true (j + 1) ∧ p' ≤ s.size ∧ Own encS 112 H.size H' a n c (fs'.map rgF) ∧ Own encInt 3 H.size H' a' n' c' zs' ∧ Own encInt 3 H.size H' a2 n2 c2 (fs'.map ctF) ∧ Dj (blkL a) (blkL a') ∧ Dj (blkL a) (blkL a2) ∧ Dj (blkL a') (blkL a2) ∧ Fr [] H H' ∧ (∃ f, fs'[j]? = some f ∧ f.2.1 - 1 = last') | _ => False, ?_, ?_⟩
    · refine rnum_ok (by omega) rfl hp fun m1 p1 e1 H6 hG1 hm1 hp1 f6 => ?_
      refine rnum_ok (by omega) rfl hp1 fun m2 p2 e2 H7 hG2 hm2 hp2 f7 => ?_
      refine rnum_ok (by omega) rfl hp2 fun m3 p3 e3 H8 hG3 hm3 hp3 f8 => ?_
      have f58 := (f6.keep0 f7).keep0 f8
      have fH8 := f5.keep0 f58
      have nums : ∀ L, RowsP L → bl s = encR L → j < nC L.length ∧ e1 = 0 ∧ e2 = 0 ∧ e3 = 0 ∧ (m1 : Int) = firstC (chR L j) ∧ ((m1 + m2 : Nat) : Int) = lastC (chR L j) ∧ m3 = (blkR (chR L j)).length ∧ p3 = p + (hdR (chR L j)).length ∧ m1 + m2 < 1099511627776 ∧ last ≤ m1 ∧ m3 ≤ s.size := fun L hP hL => by
        obtain ⟨c1, c2, c3, c4, c5, c6, c7, c8⟩ := hF.cmp L hP hL
        have hjn : j < nC L.length := by unfold nC; omega
        have hjL : 16 * j < L.length := by omega
        obtain ⟨t, ht, _⟩ := hdsR_at c4 c5 hjn
        have hch := hP.ch j
        have hcn := ch_ne hjL
        have hfl := hch.first_last hcn
        obtain ⟨u1, u2, u3, u4⟩ := hG1.step (by omega) ht
        have up : p1 = p + (uintL (firstC (chR L j)).toNat).length := by omega
        rw [← up] at u4
        obtain ⟨w1, w2, w3, w4⟩ := hG2.step (by omega) u4
        have wp : p2 = p1 + (uintL (lastC (chR L j) - firstC (chR L j)).toNat).length := by omega
        rw [← wp] at w4
        have hbl : (blkR (chR L j)).length ≤ s.size := by
          have := congrArg List.length (hdsR_end c4 rfl)
          rw [List.length_drop, hsl] at this
          obtain ⟨rr, hr⟩ := rng_split (fun i => blkR (chR L i)) hjn
          have hr : bdsR L (nC L.length) = bdsR L j ++ (blkR (chR L j) ++ rr) := hr
          rw [hr, List.length_append, List.length_append] at this
          omega
        obtain ⟨x1, x2, x3, x4⟩ := hG3.step (by omega) w4
        refine ⟨hjn, u1, w1, x1, by omega, by omega, by omega, ?_, by omega, ?_, by omega⟩
        · have : p3 = p2 + (uintL (blkR (chR L j)).length).length := by omega
          rw [this, wp, up]; unfold hdR; rw [List.length_append, List.length_append]; omega
        · rw [c8]
          split
          · omega
          · have := hP.next (j := j) (by omega) hjL
            omega
      have ewu : IntKind.wrap .u64 (s.size : Int) = s.size := nat_wrapU (by omega)
      refine ⟨fun _ H' => H' = H8 ∧ e1 = 0 ∧ e2 = 0 ∧ e3 = 0 ∧ m1 + m2 < 1099511627776 ∧ m3 ≤ s.size, ⟨fun vs H' => match vs with | [.bool b'] => H' = H8 ∧ (b' = true → ∀ L, RowsP L → bl s = encR L → False) ∧ (b' = false → e1 = 0 ∧ e2 = 0 ∧ e3 = 0 ∧ m1 + m2 < 1099511627776 ∧ m3 ≤ s.size) | _ => False, ?_, ?_⟩, ?_⟩
      · refine brB_of (fun h => ⟨rfl, fun _ L hP hL => ?_, (fun h => by cases h)⟩) fun h1 => brB_of (fun h => ⟨rfl, fun _ L hP hL => ?_, (fun h => by cases h)⟩) fun h2 => brB_of (fun h => ⟨rfl, fun _ L hP hL => ?_, (fun h => by cases h)⟩) fun h3 => brB_of (fun h => ⟨rfl, fun _ L hP hL => ?_, (fun h => by cases h)⟩) fun h4 => brB_of (fun h => ⟨rfl, fun _ L hP hL => ?_, (fun h => by cases h)⟩) fun h5 => ?_
        · have := (nums L hP hL).2.1; simp at h; omega
        · have := (nums L hP hL).2.2.1; simp at h; omega
        · have := (nums L hP hL).2.2.2.1; simp at h; omega
        · have := (nums L hP hL).2.2.2.2.2.2.2.2.1; simp at h; omega
        · have := (nums L hP hL).2.2.2.2.2.2.2.2.1; simp at h; omega
        · have h4 := of_decide_eq_false h4
          have h5 := of_decide_eq_false h5
          have e12 : IntKind.wrap .u64 ((m1 : Int) + (m2 : Int)) = ((m1 + m2 : Nat) : Int) := by rw [← Int.natCast_add, nat_wrapU (by omega)]
          rw [e12, ewu]
          refine brB_of (fun h => ⟨rfl, fun _ L hP hL => ?_, (fun h => by cases h)⟩) fun h6 => ⟨rfl, fun h L hP hL => ?_, fun h => ⟨by simpa using h1, by simpa using h2, by simpa using h3, by simp at h6; omega, by simp at h; omega⟩⟩
          · have := (nums L hP hL).2.2.2.2.2.2.2.2.1; simp at h; omega
          · have := (nums L hP hL).2.2.2.2.2.2.2.2.2.2; simp at h; omega
      · rintro J2 b' H9 ⟨rfl, hb1, hb2⟩
        exact brB_of (fun h => ⟨_, _, _, _, _, _, _, _, _, _, rfl, hno (hb1 h) _ fH8⟩) fun h => ⟨rfl, hb2 h⟩
      · rintro J2 H9 ⟨rfl, rfl, rfl, rfl, hm12, hm3'⟩
        have ew1 : IntKind.wrap .i64 (m1 : Int) = m1 := wrap64_of (by omega) (by omega)
        have o1' := o1.keep f58
        refine ⟨fun _ H' => H' = H9 ∧ last ≤ m1, ⟨fun vs H' => match vs with | [.bool b'] => H' = H9 ∧ b' = decide ((m1 : Int) < last) | _ => False, ?_, ?_⟩, ?_⟩
        · refine brB_of (fun h => ?_) fun h => ⟨rfl, ?_⟩
          · have h0 : 0 < j := by simp at h; omega
            obtain ⟨f, hf, hfl⟩ := hl1 h0
            have en : IntKind.wrap .i64 ((n : Int) - 1) = ((j - 1 : Nat) : Int) := by rw [show n = j by omega]; exact pred64 (by omega) h0
            rw [en, ew1]
            have hfr : (fs.map rgF)[j - 1]? = some (rgF f) := by rw [List.getElem?_map, hf]; rfl
            have hfP := hF.fsp f (List.mem_of_getElem? hf)
            refine o1'.idx rfl hfr (decide_eq_true (by omega)) fun ad ea hc => ⟨_, ld_part (by kernel_rfl) hc (j := 1) rfl, rfl, ?_⟩
            obtain ⟨q1, q2⟩ := hfP
            have : IntKind.wrap .i64 ((rgF f).2 - 1) = last := by
              show IntKind.wrap .i64 (f.2.1 - 1) = last
              rw [wrap64_of (by omega) (by omega)]; exact hfl
            rw [this]
          · have h0 : j = 0 := by simp at h; omega
            rw [hl0 h0]; symm; simp
        · rintro J3 b' H10 ⟨rfl, rfl⟩
          refine brB_of (fun h => ⟨_, _, _, _, _, _, _, _, _, _, rfl, hno (fun L hP hL => ?_) _ fH8⟩) fun h => ⟨rfl, by simp at h; omega⟩
          have := (nums L hP hL).2.2.2.2.2.2.2.2.2.1; simp at h; omega
        · rintro J3 H10 ⟨rfl, hlast⟩ b5 H11 hn11
          have e12 : IntKind.wrap .u64 ((m1 : Int) + (m2 : Int)) = ((m1 + m2 : Nat) : Int) := by rw [← Int.natCast_add, nat_wrapU (by omega)]
          have e13 : IntKind.wrap .i64 (IntKind.wrap .i64 (IntKind.wrap .u64 ((m1 : Int) + (m2 : Int))) + 1) = ((m1 + m2 : Nat) : Int) + 1 := by
            rw [e12, wrap64_of (n := ((m1 + m2 : Nat) : Int)) (by omega) (by omega), wrap64_of (by omega) (by omega)]
          have ew3 : IntKind.wrap .i64 (m3 : Int) = m3 := wrap64_of (by omega) (by omega)
          rw [ew1, e13] at hn11
          rw [ew3]
          have fH11 := fH8.keep0 hn11.fr
          have s11 := fH11.size
          refine ap_grow slice68 elem112 (o1'.keep hn11.fr) (sl_one encS (rgF ((m1 : Int), ((m1 + m2 : Nat) : Int) + 1, (if 16 < left then 16 else left), ⟨#[]⟩)) hn11 rfl) s11 (by omega) fun q m d H12 h12 f12 g12 b6 H13 hn13 => ?_
          have s12 := f12.size
          have s13 := hn13.size
          have o2' := (((o2.keep f58).keep hn11.fr).fr f12 (blk_of_ne fun k kk hm => d12 k hm kk)).keep hn13.fr
          have o3' := (((o3.keep f58).keep hn11.fr).fr f12 (blk_of_ne fun k kk hm => d13 k hm kk)).keep hn13.fr
          refine ap_grow slice24 elem3 o2' (sl_one encInt (m3 : Int) hn13 rfl) (by omega) (by omega) fun q' m' d' H14 h14 f14 g14 b7 H15 hn15 => ?_
          have s14 := f14.size
          have s15 := hn15.size
          have o3'' := (o3'.fr f14 (blk_of_ne fun k kk hm => d23 k hm kk)).keep hn15.fr
          refine ap_grow slice24 elem3 o3'' (sl_one encInt (if 16 < left then 16 else left) hn15 rfl) (by omega) (by omega) fun q2 m2' d2 H16 h16 f16 g16 => ?_
          have i1 : ∀ k ∈ blkL a, k < H5.size := fun k hk => (o1.ge k hk).2
          have i2 : ∀ k ∈ blkL a', k < H5.size := fun k hk => (o2.ge k hk).2
          have i3 : ∀ k ∈ blkL a2, k < H5.size := fun k hk => (o3.ge k hk).2
          have s58 := f58.size
          have s10 := hn11.size
          have gq : ∀ k ∈ blkL q, k ∈ blkL a ∨ H5.size ≤ k ∧ k < H12.size := fun k hk => (g12 k hk).imp id fun h => ⟨by omega, (h12.ge k hk).2⟩
          have gq' : ∀ k ∈ blkL q', k ∈ blkL a' ∨ H12.size ≤ k ∧ k < H14.size := fun k hk => (g14 k hk).imp id fun h => ⟨by omega, (h14.ge k hk).2⟩
          have gq2 : ∀ k ∈ blkL q2, k ∈ blkL a2 ∨ H14.size ≤ k := fun k hk => (g16 k hk).imp id fun h => by omega
          have dq1 : Dj (blkL q) (blkL q') := fun k hk hk2 => by
            rcases gq k hk with h | h <;> rcases gq' k hk2 with h2 | h2
            · exact d12 k h h2
            · have := i1 k h; omega
            · have := i2 k h2; omega
            · omega
          have dq2 : Dj (blkL q) (blkL q2) := fun k hk hk2 => by
            rcases gq k hk with h | h <;> rcases gq2 k hk2 with h2 | h2
            · exact d13 k h h2
            · have := i1 k h; omega
            · have := i3 k h2; omega
            · omega
          have dq3 : Dj (blkL q') (blkL q2) := fun k hk hk2 => by
            rcases gq' k hk with h | h <;> rcases gq2 k hk2 with h2 | h2
            · exact d23 k h h2
            · have := i2 k h; omega
            · have := i3 k h2; omega
            · omega
          have dqa' : Dj (blkL q) (blkL a') := fun k hk hk2 => by
            rcases gq k hk with h | h
            · exact d12 k h hk2
            · have := i2 k hk2; omega
          have dqa2 : Dj (blkL q) (blkL a2) := fun k hk hk2 => by
            rcases gq k hk with h | h
            · exact d13 k h hk2
            · have := i3 k hk2; omega
          have dq'a2 : Dj (blkL q') (blkL a2) := fun k hk hk2 => by
            rcases gq' k hk with h | h
            · exact d23 k h hk2
            · have := i3 k hk2; omega
          have hsum := hF.sm
          have hall : 0 ≤ all := by have := offs_mono hF.zsp 0; omega
          have hmul : ((j + 1 : Nat) : Int) * (s.size : Int) = (j : Int) * s.size + s.size := by rw [Int.natCast_add, Int.add_mul]; simp
          have hmul2 : (j : Int) * (s.size : Int) ≤ 312 * 1000000000 := by
            have h1 : (j : Int) * (s.size : Int) ≤ 312 * (s.size : Int) := Int.mul_le_mul_of_nonneg_right (by omega) (by omega)
            omega
          have ea : IntKind.wrap .i64 (all + (m3 : Int)) = all + m3 := wrap64_of (by omega) (by omega)
          rw [ea]
          refine ⟨fs ++ [((m1 : Int), ((m1 + m2 : Nat) : Int) + 1, (if 16 < left then 16 else left), ⟨#[]⟩)], zs ++ [(m3 : Int)], p3, ((m1 + m2 : Nat) : Int), rfl, ⟨⟨by simp; omega, by simp; omega⟩, ⟨by omega, by omega⟩, ⟨by rw [List.sum_append, ← hsum.1]; simp, by rw [hmul]; omega⟩, fun n hn => ?_, by omega, fun f hf => ?_, (fun h => by cases h), fun L hP hL => ?_⟩, hp3, ?_, (h14.keep hn15.fr).fr f16 (blk_of_ne dq'a2), ?_, dq1, dq2, dq3, ?_, ⟨_, by rw [List.getElem?_append_right (by omega), show j - fs.length = 0 by omega]; rfl, by simp⟩⟩
          · rcases List.mem_append.1 hn with h | h
            · exact hF.zsp n h
            · simp at h; omega
          · rcases List.mem_append.1 hf with h | h
            · exact hF.fsp f h
            · simp at h; subst h
              unfold FnP
              simp only
              split <;> omega
          · obtain ⟨c1, c2, c3, c4, c5, c6, c7, c8⟩ := hF.cmp L hP hL
            obtain ⟨g1, g2, g3, g4, g5, g6, g7, g8, g9, g10, g11⟩ := nums L hP hL
            have hcl := chR_len L j
            refine ⟨rfl, by omega, by omega, c4, ?_, ?_, ?_, ?_⟩
            · rw [g8, c5, hdsR_succ, List.length_append]; omega
            · rw [fsA_succ, ← c6]
              unfold fnC
              rw [← g5, ← g6]
              have : (if 16 < left then (16 : Int) else left) = ((chR L j).length : Int) := by split <;> omega
              rw [this]
            · rw [zsA_succ, ← c7, g7]
            · rw [if_neg (by omega), Nat.add_sub_cancel]; exact g6
          · rw [List.map_append]
            exact (((h12.keep hn13.fr).fr f14 (blk_of_ne dqa')).keep hn15.fr).fr f16 (blk_of_ne dqa2)
          · rw [List.map_append]
            exact h16
          · exact ((((fH11.keep f12 fun k hk => (o1.ge k hk).1).keep0 hn13.fr).keep f14 fun k hk => (o2.ge k hk).1).keep0 hn15.fr).keep f16 fun k hk => (o3.ge k hk).1
    · rintro J2 pos' q m d q' m' d' q2 m2 d2 all' H6 ⟨fs', zs', p', last', rfl, h1, h2, h3, h4, h5, h6, h7, h8, h9, h10⟩
      have el : IntKind.wrap .i64 (left - 16) = left - 16 := wrap64_of (by omega) (by omega)
      rw [el]
      have hmu : (left - 16).toNat < left.toNat := by omega
      exact ⟨⟨fs', zs', p', j + 1, last', rfl, h1, h2, h3, h4, h5, h6, h7, h8, h9, (fun _ => by rw [Nat.add_sub_cancel]; exact h10), fun h => by omega⟩, hmu⟩
  · have hneg : left ≤ 0 := by simpa using hneg
    have fin : ∀ L, RowsP L → bl s = encR L → j = nC L.length ∧ (bl s).drop p = bdsR L (nC L.length) ∧ fs = fsA L (nC L.length) ∧ zs = zsA L (nC L.length) ∧ all = ((s.size - p : Nat) : Int) := fun L hP hL => by
      obtain ⟨c1, c2, c3, c4, c5, c6, c7, c8⟩ := hF.cmp L hP hL
      have hj : j = nC L.length := by unfold nC at c3 ⊢; omega
      rw [hj] at c5 c6 c7
      have hd := hdsR_end c4 c5
      refine ⟨hj, hd, c6, c7, ?_⟩
      rw [hF.sm.1, c7, zsA_sum, ← hd, List.length_drop, hsl]
    have ew : IntKind.wrap .i64 ((s.size : Int) - (p : Int)) = ((s.size - p : Nat) : Int) := by rw [wrap64_of (by omega) (by omega)]; omega
    rw [ew]
    refine brB_of (fun h => ⟨_, _, _, _, _, _, _, _, _, _, rfl, hno (fun L hP hL => ?_) _ f5⟩) fun h => ?_
    · have := (fin L hP hL).2.2.2.2
      rw [this] at h; simp at h
    have hall : all = ((s.size - p : Nat) : Int) := by simpa using h
    intro b3 H6 hn6
    have hsum := hF.sm
    have hj : j ≤ 313 := by omega
    have s5 := f5.size
    have s6 := hn6.size
    have e6 := hn6.eq
    refine ⟨fun vs H' => match vs with | [.int _ at', .slice q m d, .int _ i] => ∃ k : Nat, i = k ∧ k ≤ j ∧ at' = (p : Int) + offs zs k ∧ Own GV.encStr 9 H5.size H' q m d (((putB s p zs fs k).map txF).take k) ∧ Own encS 112 H.size H' a n c (fs.map rgF) ∧ Own encInt 3 H.size H' a' n' c' zs ∧ Own encInt 3 H.size H' a2 n2 c2 (fs.map ctF) ∧ Fr [] H5 H' | _ => False, fun vs _ => match vs with | [_, _, .int _ i] => j - i.toNat | _ => 0,
      ⟨0, rfl, by omega, by simp [offs], by simpa using Own.made GV.encStr 9 hn6 (Nat.le_refl _), o1.keep hn6.fr, o2.keep hn6.fr, o3.keep hn6.fr, hn6.fr⟩, ?_⟩
    rintro J3 at' q m d i H7 ⟨k, rfl, hk, rfl, h1, h2, h3, h4, f7⟩
    have ok1 := offs_mono hF.zsp k
    refine brB_of (fun hlt => ?_) (fun hge => ?_)
    · have hlt : k < j := by simp at hlt; omega
      obtain ⟨z, hz⟩ := getElem_ex (l := zs) (i := k) (by omega)
      obtain ⟨f, hf⟩ := getElem_ex (l := fs) (i := k) (by omega)
      have hz0 := hF.zsp z (List.mem_of_getElem? hz)
      have ok2 := offs_mono hF.zsp (k + 1)
      have ok3 := offs_succ hz
      refine h3.idx rfl hz (decide_eq_true (by omega)) fun ad ea hc => ⟨_, ld_one (by kernel_rfl) hc, ?_⟩
      have ez : IntKind.wrap .i64 ((p : Int) + offs zs k + z) = (p : Int) + offs zs (k + 1) := by rw [wrap64_of (by omega) (by omega)]; omega
      rw [ez]
      refine chk_true (decide_eq_true ⟨by omega, by omega, by omega⟩) ?_
      intro b8 H8 hn8
      have hml := h1.1
      rw [List.length_take, List.length_map, putB_len] at hml
      have s7 := f7.size
      have s8 := hn8.size
      refine ap_grow slice113 elem9s (h1.keep hn8.fr) (sl_one GV.encStr (s.extract ((p : Int) + offs zs k).toNat ((p : Int) + offs zs (k + 1)).toNat) hn8 rfl) (by omega) (by omega) fun q' m' d' H9 h9 f9 g9 => ?_
      have hq : ∀ k ∈ blkL q, H5.size ≤ k := fun k hk => (h1.ge k hk).1
      have lt5 : ∀ {α : Type} {E : Enc α} {t : Nat} {o : Option Addr} {x y : Nat} {l : List α}, Own E t H.size H5 o x y l → ∀ k ∈ blkL o, k ∉ blkL q := fun ho k kk hm => by have := (ho.ge k kk).2; have := hq k hm; omega
      have h2' := (h2.keep hn8.fr).fr f9 (blk_of_ne (lt5 o1))
      have h3' := (h3.keep hn8.fr).fr f9 (blk_of_ne (lt5 o2))
      have h4' := (h4.keep hn8.fr).fr f9 (blk_of_ne (lt5 o3))
      refine h3'.idx rfl hz (decide_eq_true (by omega)) fun ad2 ea2 hc2 => ⟨_, ld_one (by kernel_rfl) hc2, ?_⟩
      rw [ez, succ64 (by omega)]
      have hmu : j - ((k + 1 : Nat) : Int).toNat < j - ((k : Nat) : Int).toNat := by omega
      exact ⟨⟨k + 1, rfl, by omega, rfl, by rw [putB_tx hf]; exact h9, h2', h3', h4', (f7.keep0 hn8.fr).keep f9 hq⟩, hmu⟩
    · have hkj : k = j := by simp at hge; omega
      subst hkj
      obtain ⟨p1, p2⟩ := putB_map (s := s) (p := p) (zs := zs) (fs := fs) (k := k)
      rw [List.take_of_length_le (by rw [List.length_map, putB_len]; omega)] at h1
      refine ⟨_, _, _, _, _, _, _, _, _, _, rfl, hyes (putB s p zs fs k) _ _ _ _ _ _ _ _ _ _ (by rw [p1]; exact h2) (h1.base s5) (by rw [p2]; exact h4) (fun f hf => ?_) (by omega) (f5.keep0 f7) fun L hP hL => ?_⟩
      · unfold putB at hf
        obtain ⟨i, hi, rfl⟩ := List.mem_map.1 hf
        have hi := List.mem_range.1 hi
        obtain ⟨g, hg⟩ := getElem_ex hi
        have hP := hF.fsp g (List.mem_of_getElem? hg)
        simp only [hg, Option.getD_some]
        rw [if_pos (by omega)]
        refine ⟨hP, ?_⟩
        have := bl_len (s.extract ((p : Int) + offs zs i).toNat ((p : Int) + offs zs (i + 1)).toNat)
        rw [bl_ext, List.length_drop, List.length_take, hsl] at this
        simp only
        omega
      · obtain ⟨g1, g2, g3, g4, g5⟩ := fin L hP hL
        rw [g3, g4, g1]
        exact putB_all g2
theorem blocks_ok {s : ByteArray} {H : Heap} {K : Option Addr → Nat → Nat → Int → Heap → Prop} (hs : s.size ≤ 1000000000)
    (hno : (∀ L, RowsP L → bl s ≠ encR L) → ∀ H', Fr [] H H' → K none 0 0 11 H')
    (hyes : ∀ a n c H', Fr [] H H' → (∀ L, RowsP L → bl s = encR L → n = nC L.length) → K a n c 0 H') :
    CallH Tryz.prog fn_ref16_Blocks ⟨[.string s]⟩ H fun v H' => ∃ a n c e, v = .tuple ⟨[.slice a n c, .int .i64 e]⟩ ∧ K a n c e H' := by
  apply vc_ref16_Blocks
  refine rfences_ok hs (fun hn H' hf => brB_of (fun _ => ⟨_, _, _, _, rfl, hno hn H' hf⟩) fun h => by cases h) fun fs a n c a1 n1 c1 a2 n2 c2 H' h1 h2 h3 h4 hn hf hcmp => brB_of (fun h => by cases h) fun _ => ⟨_, _, _, _, rfl, hyes _ _ _ _ hf fun L hP hL => ?_⟩
  have := h1.1
  rw [List.length_map, hcmp L hP hL] at this
  rw [this]; simp [fsB]

theorem rint_ok {s : ByteArray} {at' : Int} {a : Nat} {H : Heap} {K : Int → Int → Int → Heap → Prop} (hs : s.size ≤ 100000000000) (ea : at' = a) (ha : a ≤ s.size)
    (hk : ∀ (w a' : Nat) e H', GU ((bl s).drop a) a w a' e → w < 18446744073709551616 → a' ≤ s.size → Fr [] H H' → K (unfoldN w) a' e H') :
    CallH Tryz.prog fn_ref01_GetInt ⟨[.string s, .int .i64 at']⟩ H fun v H' => ∃ n m e, v = .tuple ⟨[.int .i64 n, .int .i64 m, .int .i64 e]⟩ ∧ K n m e H' := by
  refine rGetInt_ok hs (fun h => (h ⟨by omega, by omega⟩).elim) fun a0 ea0 ha0 w n e H' hG hw hf => ?_
  have : a0 = a := by omega
  subst this
  obtain ⟨a', m, rfl, h1, h2, h3⟩ := hG.pos ha
  exact hk w a' e H' hG hw h1 hf
theorem rread16_ok {f : Fn'} {H : Heap} {K : Option Addr → Nat → Nat → Bool → Heap → Prop} (hf : FnP f) (hs : f.2.2.2.size ≤ 100000000000)
    (hno : (∀ c, ChP c f → False) → ∀ H', Fr [] H H' → K none 0 0 false H')
    (hyes : ∀ rows a n c H', Own encRw 26 H.size H' a n c rows → n ≤ 16 → (∀ x ∈ rows, I64 x.2.2) → Fr [] H H' → (∀ c, ChP c f → rows = c) → K a n c true H') :
    CallH Tryz.prog fn_ref16_read ⟨[.string f.2.2.2, .agg ⟨[.int .i64 f.1, .int .i64 f.2.1]⟩, .int .i64 f.2.2.1]⟩ H fun v H' => ∃ a n c b, v = .tuple ⟨[.slice a n c, .bool b]⟩ ∧ K a n c b H' := by
  apply vc_ref16_read
  obtain ⟨hf1, hf2⟩ := hf
  obtain ⟨N, hN⟩ : ∃ N : Nat, f.2.2.1 = N := ⟨f.2.2.1.toNat, by omega⟩
  generalize hs' : f.2.2.2 = s at *
  have hsl := bl_len s
  intro b H1 hn1 b1 H2 hn2
  have e1 := hn1.eq
  have e2 := hn2.eq
  have z1 := hn1.size
  have z2 := hn2.size
  have hb2 := hn1.blk.keep hn2.fr
  have f2 : Fr [] H H2 := hn1.fr.keep0 hn2.fr
  rw [hN] at hf2 ⊢
  have cN : ∀ c, ChP c f → c.length = N ∧ bl s = blkR c ∧ f.1 = rT c 0 ∧ f.2.1 = lastC c + 1 := fun c hc => by
    have h := hc.f
    have h1 := congrArg (fun x : Fn' => x.1) h
    have h2 := congrArg (fun x : Fn' => x.2.1) h
    have h3 := congrArg (fun x : Fn' => x.2.2.1) h
    have h4 := congrArg (fun x : Fn' => x.2.2.2) h
    unfold fnC at h1 h2 h3 h4
    simp only at h1 h2 h3 h4
    rw [hs'] at h4
    exact ⟨by omega, by rw [h4], h1, h2⟩
  refine ⟨_, hb2.ld0 (by kernel_rfl) rfl, ?_⟩
  refine ⟨fun vs H' => match vs with | [.slice a n c, .int _ t, .int _ pos, .int _ i] => ∃ (rows : List Rw) (p j : Nat), i = j ∧ pos = ((p : Nat) : Int) ∧ j ≤ N ∧ rows.length = j ∧ Own encRw 26 H.size H' a n c rows ∧ p ≤ s.size ∧ b ∉ blkL a ∧ Blk H' ⟨b, 0, none⟩ [.int .i64 f.1, .int .i64 f.2.1] ∧ Fr [] H H' ∧
      (∀ x ∈ rows, I64 x.2.2) ∧ 0 ≤ t ∧ t ≤ (j + 1) * 1099511627776 ∧ (0 < j → rT rows (j - 1) = t) ∧ (∀ c, ChP c f → rows = c.take j ∧ p = (blkTo c j).length ∧ t = rT c (j - 1)) | _ => False,
    fun vs _ => match vs with | [_, _, _, .int _ i] => N - i.toNat | _ => 0,
    ⟨[], 0, 0, rfl, rfl, by omega, rfl, Own.made encRw 26 hn2 (by omega), by omega, by simp [blkL]; omega, hb2, f2, by simp, by omega, by omega, (fun h => by omega), fun c hc => ⟨by simp, rfl, (cN c hc).2.2.1⟩⟩, ?_⟩
  rintro J a n c t pos i H3 ⟨rows, p, j, rfl, rfl, hj, hlr, o3, hp, nb, hb3, f3, hv, ht0, ht1, hlt', hcmp⟩
  have hn := o3.1
  refine brB_of (fun hlt => ?_) (fun hge => ?_)
  · have hlt : j < N := by simp at hlt; omega
    refine rnum_ok hs rfl hp fun m1 p1 e1 H4 hG1 hm1 hp1 f4 => ?_
    refine rnum_ok hs rfl hp1 fun m2 p2 e2 H5 hG2 hm2 hp2 f5 => ?_
    refine rint_ok hs rfl hp2 fun w p3 e3 H6 hG3 hw hp3 f6 => ?_
    have f36 := (f4.keep0 f5).keep0 f6
    have f6' := f3.keep0 f36
    have nums : ∀ c, ChP c f → e1 = 0 ∧ e2 = 0 ∧ e3 = 0 ∧ m1 < 1099511627776 ∧ m2 < 200 ∧ t + m1 = rT c j ∧ (m2 : Int) = (rAt c j).2.1 ∧ unfoldN w = (rAt c j).2.2 ∧ p3 = (blkTo c (j + 1)).length := fun c hc => by
      obtain ⟨c1, c2, c3⟩ := hcmp c hc
      obtain ⟨d1, d2, d3, d4⟩ := cN c hc
      obtain ⟨rr, hd⟩ := blk_at d2 c2 (by omega)
      have hat := hc.P.at (i := j) (by omega)
      have hap := (hc.P.at (i := j - 1) (by omega)).1
      have hmo := hc.P.fine.mono (i := j - 1) (j := j) (by omega) (by omega)
      obtain ⟨u1, u2, u3, u4⟩ := hG1.step (by omega) hd
      have up : p1 = p + (uintL (rT c j - rT c (j - 1)).toNat).length := by omega
      rw [← up] at u4
      obtain ⟨w1, w2, w3, w4⟩ := hG2.step (by omega) u4
      have wp : p2 = p1 + (uintL (rAt c j).2.1.toNat).length := by omega
      rw [← wp] at w4
      obtain ⟨x1, x2, x3, x4⟩ := hG3.step (foldN_lt hat.2.2) w4
      have ew : w = foldN (rAt c j).2.2 := by omega
      refine ⟨u1, w1, x1, by omega, by omega, by omega, by omega, by rw [ew, unfold_fold], ?_⟩
      rw [blkTo_succ, List.length_append, ← c2]
      unfold rowB intL
      rw [List.length_append, List.length_append]
      omega
    refine ⟨fun _ H' => H' = H6 ∧ m1 < 1099511627776 ∧ m2 < 200, ?_, ?_⟩
    · refine brB_of (fun h => ⟨_, _, _, _, rfl, hno (fun c hc => ?_) _ f6'⟩) fun h1 => brB_of (fun h => ⟨_, _, _, _, rfl, hno (fun c hc => ?_) _ f6'⟩) fun h2 => brB_of (fun h => ⟨_, _, _, _, rfl, hno (fun c hc => ?_) _ f6'⟩) fun h3 => brB_of (fun h => ⟨_, _, _, _, rfl, hno (fun c hc => ?_) _ f6'⟩) fun h4 => brB_of (fun h => ⟨_, _, _, _, rfl, hno (fun c hc => ?_) _ f6'⟩) fun h5 => ⟨rfl, by simp at h4; omega, by simp at h5; omega⟩
      · have := (nums c hc).1; simp at h; omega
      · have := (nums c hc).2.1; simp at h; omega
      · have := (nums c hc).2.2.1; simp at h; omega
      · have := (nums c hc).2.2.2.1; simp at h; omega
      · have := (nums c hc).2.2.2.2.1; simp at h; omega
    · rintro J2 H7 ⟨rfl, hm1', hm2'⟩ b9 H9 hn9
      have w1 : IntKind.wrap .i64 (m1 : Int) = m1 := wrap64_of (by omega) (by omega)
      have w2 : IntKind.wrap .i64 (m2 : Int) = m2 := wrap64_of (by omega) (by omega)
      have w3 : IntKind.wrap .i64 (t + (m1 : Int)) = t + m1 := wrap64_of (by omega) (by omega)
      rw [w1, w2, w3] at hn9
      rw [w1, w3]
      have s6 := f6'.size
      have s9 := hn9.size
      refine ap_grow slice34 elem45 ((o3.keep f36).keep hn9.fr) (sl_one encRw (t + (m1 : Int), (m2 : Int), unfoldN w) hn9 rfl) (by omega) (by omega) fun q m d H10 h10 f10 g10 => ?_
      have hb6 := hb3.keep f36
      have bH := hb6.lt
      rw [succ64 (by omega)]
      have hmu : N - ((j + 1 : Nat) : Int).toNat < N - ((j : Nat) : Int).toNat := by omega
      refine ⟨⟨rows ++ [(t + (m1 : Int), (m2 : Int), unfoldN w)], p3, j + 1, rfl, rfl, by omega, by simp; omega, h10, hp3, fun h => (g10 b h).elim nb fun h => by simp at bH; omega, (hb6.keep hn9.fr).fr f10 nb, (f6'.keep0 hn9.fr).keep f10 fun k hk => (o3.ge k hk).1, fun x hx => ?_, by omega, by rw [Int.natCast_add]; omega, fun _ => ?_, fun c hc => ?_⟩, hmu⟩
      · rcases List.mem_append.1 hx with h | h
        · exact hv x h
        · simp at h; subst h; exact unfold_64 hw
      · rw [Nat.add_sub_cancel]
        unfold rT rAt
        rw [List.getElem?_append_right (by omega), hlr, Nat.sub_self]; rfl
      · obtain ⟨c1, c2, c3⟩ := hcmp c hc
        obtain ⟨q1, q2, q3, q4, q5, q6, q7, q8, q9⟩ := nums c hc
        refine ⟨?_, q9, by rw [Nat.add_sub_cancel]; exact q6⟩
        have hg := rAt_get (l := c) (i := j) (by have := (cN c hc).1; omega)
        rw [List.take_add_one, hg, ← c1]
        have : rAt c j = (t + (m1 : Int), (m2 : Int), unfoldN w) := by
          rw [q6, q7, q8]; rfl
        rw [this]; rfl
  · have hjN : j = N := by simp at hge; omega
    subst hjN
    have full : ∀ c, ChP c f → rows = c ∧ p = s.size ∧ t = f.2.1 - 1 ∧ rT rows 0 = f.1 := fun c hc => by
      obtain ⟨c1, c2, c3⟩ := hcmp c hc
      obtain ⟨d1, d2, d3, d4⟩ := cN c hc
      rw [List.take_of_length_le (by omega)] at c1
      have := congrArg List.length d2
      rw [hsl] at this
      refine ⟨c1, ?_, ?_, by rw [c1]; exact d3.symm⟩
      · rw [c2, this]; unfold blkR; rw [d1]
      · rw [c3, d4]; unfold lastC; rw [d1]; omega
    refine ⟨fun _ H' => Fr [] H3 H', ⟨fun vs H' => match vs with | [.bool b'] => (b' = true → ∀ c, ChP c f → False) ∧ Fr [] H3 H' | _ => False, ?_, ?_⟩, ?_⟩
    · refine brB_of (fun h => ⟨fun _ c hc => ?_, Fr.refl _ _⟩) fun h1 => ?_
      · have := (full c hc).2.1
        rw [this] at h; simp at h
      · refine rFine_ok o3.sl (by omega) fun b' H4 hb' f4 => brB_of (fun h => ⟨fun _ c hc => ?_, f4⟩) fun h2 => ?_
        · have := hb'.2 (by rw [(full c hc).1]; exact hc.P.fine)
          rw [this] at h; cases h
        · have hs0 := rAt_get (l := rows) (i := 0) (by omega)
          refine (o3.keep f4).idx (k := 0) rfl hs0 (decide_eq_true (by omega)) fun ad ea hc => ⟨rT rows 0, by have := ldRw0 hc; have e : rT rows 0 = (rAt rows 0).1 := rfl; rw [e]; simpa [Addr.add] using this, _, (hb3.keep f4).ld0 (by kernel_rfl) rfl, brB_of (fun h => ⟨fun _ c hc => ?_, f4⟩) fun h3 => ?_⟩
          · have := (full c hc).2.2.2
            rw [this] at h; simp at h
          · have hs9 := rAt_get (l := rows) (i := j - 1) (by omega)
            rw [pred64 (by omega) (by omega)]
            refine (o3.keep f4).idx rfl hs9 (decide_eq_true (by omega)) fun ad ea hc => ⟨_, ldRw0 hc, _, (hb3.keep f4).ldK (j := 1) (by kernel_rfl) rfl, fun h c hc => ?_, f4⟩
            have ew : IntKind.wrap .i64 (f.2.1 - 1) = f.2.1 - 1 := wrap64_of (by omega) (by omega)
            have h5 : (rAt rows (j - 1)).1 = t := hlt' (by omega)
            rw [ew, h5, (full c hc).2.2.1] at h
            simp at h
    · rintro J2 b' H4 ⟨hb1, f4⟩
      exact brB_of (fun h => ⟨_, _, _, _, rfl, hno (hb1 h) _ (f3.keep0 f4)⟩) fun h => f4
    · rintro J2 H4 f4
      exact ⟨_, _, _, _, rfl, hyes rows _ _ _ _ (o3.keep f4) (by omega) hv (f3.keep0 f4) fun c hc => (full c hc).1⟩
theorem rbetween_ok {s : ByteArray} {x y : Int} {H : Heap} {K : Option Addr → Nat → Nat → Int → Heap → Prop} (hs : s.size ≤ 1000000000)
    (hno : (∀ L, RowsP L → bl s ≠ encR L) → ∀ H', Fr [] H H' → K none 0 0 11 H')
    (hyes : ∀ rows a n c H', Own encRw 26 H.size H' a n c rows → n ≤ 10000 → (∀ z ∈ rows, I64 z.2.2) → Fr [] H H' → (∀ L, RowsP L → bl s = encR L → rows = L.filter (inRw x y)) → K a n c 0 H') :
    CallH Tryz.prog fn_ref16_Between ⟨[.string s, .agg ⟨[.int .i64 x, .int .i64 y]⟩]⟩ H fun v H' => ∃ a n c e, v = .tuple ⟨[.slice a n c, .int .i64 e]⟩ ∧ K a n c e H' := by
  apply vc_ref16_Between
  intro b H1 hn1
  have e1 := hn1.eq
  have z1 := hn1.size
  refine rfences_ok hs (fun hn H2 f2 => brB_of (fun _ => ⟨_, _, _, _, rfl, hno hn H2 (hn1.fr.keep0 f2)⟩) fun h => by cases h) fun fs a n c a1 n1 c1 a2 n2 c2 H2 o1 o2 o3 hfs hn f2 hcmp => brB_of (fun h => by cases h) fun _ => ?_
  have f12 := hn1.fr.keep0 f2
  have l1 := o1.1
  have l2 := o2.1
  have l3 := o3.1
  rw [List.length_map] at l1 l2 l3
  intro b2 H3 hn3
  have z12 := f2.size
  have z3 := hn3.size
  have e3 := hn3.eq
  have f13 : Fr [] H H3 := f12.keep0 hn3.fr
  have hbl : b < H2.size := by omega
  refine ⟨fun vs H' => match vs with | [.slice p m d, .int _ i] => ∃ (rows : List Rw) (j : Nat), i = j ∧ j ≤ n ∧ m ≤ 16 * j ∧ Own encRw 26 H2.size H' p m d rows ∧ (∀ z ∈ rows, I64 z.2.2) ∧ Fr [] H2 H' ∧ (∀ L, RowsP L → bl s = encR L → rows = (L.take (16 * j)).filter (inRw x y)) | _ => False,
    fun vs _ => match vs with | [_, .int _ i] => n - i.toNat | _ => 0,
    ⟨[], 0, rfl, by omega, by omega, Own.made encRw 26 hn3 (Nat.le_refl _), by simp, hn3.fr, fun L _ _ => by simp⟩, ?_⟩
  rintro J p m d i H4 ⟨rows, j, rfl, hj, hm, oR, hv, f4, hcm⟩
  have hml := oR.1
  have hb4 := (hn1.blk.keep f2).keep f4
  have f04 := f12.keep0 f4
  refine brB_of (fun hlt => ?_) (fun hge => ?_)
  · have hlt : j < n := by simp at hlt; omega
    obtain ⟨f, hf⟩ := getElem_ex (l := fs) (i := j) (by omega)
    have hfP := hfs f (List.mem_of_getElem? hf)
    have hr : (fs.map rgF)[j]? = some (rgF f) := by rw [List.getElem?_map, hf]; rfl
    have ht : (fs.map txF)[j]? = some (txF f) := by rw [List.getElem?_map, hf]; rfl
    have hc' : (fs.map ctF)[j]? = some (ctF f) := by rw [List.getElem?_map, hf]; rfl
    rw [succ64 (by omega)]
    have hmu : n - ((j + 1 : Nat) : Int).toNat < n - ((j : Nat) : Int).toNat := by omega
    have chunk : ∀ L, RowsP L → bl s = encR L → ChP (chR L j) f := fun L hP hL => by
      have h1 := hcmp L hP hL
      rw [h1] at hf
      have hjn : j < nC L.length := by
        have := (List.getElem?_eq_some_iff.1 hf).1
        simpa [fsB] using this
      rw [fsB_get hjn] at hf
      exact ⟨hP.ch j, ch_ne (by unfold nC at hjn; omega), (Option.some.inj hf).symm⟩
    have o1' := o1.keep f4
    refine o1'.idx rfl hr (decide_eq_true (by omega)) fun ad ea hc => ⟨_, ldT hc, _, hb4.ld0 (by kernel_rfl) rfl, ?_⟩
    refine o1'.idx rfl hr (decide_eq_true (by omega)) fun ad ea hc => ⟨_, ld_part (by kernel_rfl) hc (j := 1) rfl, _, hb4.ldK (j := 1) (by kernel_rfl) rfl, ?_⟩
    have eh : decide ((if x > (rgF f).1 then x else (rgF f).1) ≥ if y < (rgF f).2 then y else (rgF f).2) = !hasF f x y := by
      have e : hasF f x y = decide ((if x > (rgF f).1 then x else (rgF f).1) < if y < (rgF f).2 then y else (rgF f).2) := decide_eq_decide.2 (by
        show max f.1 x < min f.2.1 y ↔ (if x > f.1 then x else f.1) < if y < f.2.1 then y else f.2.1
        rw [Int.max_def, Int.min_def]
        split <;> split <;> split <;> split <;> omega)
      rw [e, ← decide_not]
      exact decide_eq_decide.2 (by omega)
    rw [eh]
    refine brB_of (fun h => ?_) fun h => ?_
    · have h : hasF f x y = false := by simpa using h
      refine ⟨⟨rows, j + 1, rfl, by omega, by omega, oR, hv, f4, fun L hP hL => ?_⟩, hmu⟩
      have hc := chunk L hP hL
      rw [take_ch, List.filter_append, ← hcm L hP hL]
      have : (chR L j).filter (inRw x y) = [] := ch_out hc.P x y (by
        unfold hasF at h
        rw [hc.f] at h
        exact of_decide_eq_false h)
      rw [this, List.append_nil]
    · refine (o2.keep f4).idx rfl ht (decide_eq_true (by omega)) fun ad ea hc => ⟨_, ld_one (by kernel_rfl) hc, ?_⟩
      refine o1'.idx rfl hr (decide_eq_true (by omega)) fun ad ea hc => ⟨_, _, ld_many (by kernel_rfl) (by kernel_rfl) hc, ?_⟩
      refine (o3.keep f4).idx rfl hc' (decide_eq_true (by omega)) fun ad ea hc => ⟨_, ld_one (by kernel_rfl) hc, ?_⟩
      refine rread16_ok (f := f) hfP.1 (by have := hfP.2; omega) (fun hn' H6 f6 => brB_of (fun _ => ⟨_, _, _, _, rfl, hno (fun L hP hL => hn' _ (chunk L hP hL)) _ (f04.keep0 f6)⟩) fun h => by cases h) fun rs a5 n5 c5 H6 o6 hn5 hv6 f6 hc6 => brB_of (fun h => by cases h) fun _ => ?_
      have hrl := o6.1
      have s4 := f4.size
      have s6 := f6.size
      refine ⟨fun vs H' => match vs with | [.slice p' m' d', .int _ i] => ∃ k : Nat, i = k ∧ k ≤ n5 ∧ m' ≤ m + k ∧ Own encRw 26 H2.size H' p' m' d' (rows ++ (rs.take k).filter (inRw x y)) ∧ Dj (blkL a5) (blkL p') ∧ Own encRw 26 H4.size H' a5 n5 c5 rs ∧ Fr [] H2 H' | _ => False, fun vs _ => match vs with | [_, .int _ i] => n5 - i.toNat | _ => 0,
        ⟨0, rfl, by omega, by omega, by simpa using oR.keep f6, (fun k hk hk2 => by have := (o6.ge k hk).1; have := (oR.ge k hk2).2; omega), o6, f4.keep0 f6⟩, ?_⟩
      rintro J2 p' m' d' i' H7 ⟨k, rfl, hk, hm', o7, dj7, or7, f7⟩
      refine brB_of (fun hlt2 => ?_) (fun hge2 => ?_)
      · have hlt2 : k < n5 := by simp at hlt2; omega
        have hz := rAt_get (l := rs) (i := k) (by omega)
        rw [succ64 (by omega)]
        have hmu2 : n5 - ((k + 1 : Nat) : Int).toNat < n5 - ((k : Nat) : Int).toNat := by omega
        have hb7 := (hn1.blk.keep f2).keep f7
        have htk : (rs.take (k + 1)).filter (inRw x y) = (rs.take k).filter (inRw x y) ++ (if inRw x y (rAt rs k) then [rAt rs k] else []) := by
          rw [List.take_add_one, hz, List.filter_append]
          simp [List.filter_cons]
        refine ⟨fun vs H' => match vs with | [.slice p' m' d'] => m' ≤ m + (k + 1) ∧ Own encRw 26 H2.size H' p' m' d' (rows ++ (rs.take (k + 1)).filter (inRw x y)) ∧ Dj (blkL a5) (blkL p') ∧ Own encRw 26 H4.size H' a5 n5 c5 rs ∧ Fr [] H2 H' | _ => False, ⟨fun vs H' => match vs with | [.bool b'] => H' = H7 ∧ b' = inRw x y (rAt rs k) | _ => False, ?_, ?_⟩, ?_⟩
        · refine ⟨_, hb7.ld0 (by kernel_rfl) rfl, or7.idx rfl hz (decide_eq_true (by omega)) fun ad ea hc => ⟨_, ldRw0 hc, brB_of (fun h1 => ?_) fun h1 => ⟨rfl, ?_⟩⟩⟩
          · refine or7.idx rfl hz (decide_eq_true (by omega)) fun ad ea hc => ⟨_, ldRw0 hc, _, hb7.ldK (j := 1) (by kernel_rfl) rfl, rfl, ?_⟩
            unfold inRw
            rw [h1, Bool.true_and]
          · unfold inRw
            rw [h1, Bool.false_and]
        · rintro J3 b' H8 ⟨rfl, rfl⟩
          refine brB_of (fun h1 => ?_) fun h1 => ⟨by omega, ?_, dj7, or7, f7⟩
          · refine or7.idx rfl hz (decide_eq_true (by omega)) fun ad ea hc => ⟨_, _, _, ldRwA hc, ?_⟩
            intro b9 H9 hn9
            have s7 := f7.size
            have s9 := hn9.size
            refine ap_grow slice34 elem45 (o7.keep hn9.fr) (sl_one encRw (rAt rs k) hn9 rfl) (by omega) (by omega) fun q m2 d2 H10 h10 f10 g10 => ?_
            have hm2 := h10.1
            have hm7 := o7.1
            refine ⟨?_, ?_, fun k' hk' hk2 => ?_, (or7.keep hn9.fr).fr f10 (blk_of_ne dj7), (f7.keep0 hn9.fr).keep f10 fun k' hk' => (o7.ge k' hk').1⟩
            · rw [List.length_append, ← hm7] at hm2; simp at hm2; omega
            · rw [htk, if_pos h1, ← List.append_assoc]; exact h10
            · rcases g10 k' hk2 with h | h
              · exact dj7 k' hk' h
              · have := (or7.ge k' hk').2; omega
          · rw [htk, if_neg (by rw [h1]; simp), List.append_nil]; exact o7
        · rintro J3 q m2 d2 H8 ⟨h1, h2, h3, h4, h5⟩
          exact ⟨⟨k + 1, rfl, by omega, h1, h2, h3, h4, h5⟩, hmu2⟩
      · have hk5 : k = n5 := by simp at hge2; omega
        subst hk5
        rw [List.take_of_length_le (by omega)] at o7
        refine ⟨⟨_, j + 1, rfl, by omega, by omega, o7, fun z hz => ?_, f7, fun L hP hL => ?_⟩, hmu⟩
        · rcases List.mem_append.1 hz with h | h
          · exact hv z h
          · exact hv6 z (List.mem_filter.1 h).1
        · rw [take_ch, List.filter_append, ← hcm L hP hL, hc6 _ (chunk L hP hL)]
  · have hjn : j = n := by simp at hge; omega
    subst hjn
    refine ⟨_, _, _, _, rfl, hyes rows _ _ _ _ (oR.base (by omega)) (by omega) hv f04 fun L hP hL => ?_⟩
    rw [hcm L hP hL]
    have : j = nC L.length := by
      rw [l1, hcmp L hP hL]; simp [fsB]
    rw [List.take_of_length_le (by rw [this]; unfold nC; omega)]
theorem r16Decode_ok {s : ByteArray} {H : Heap} {K : Option Addr → Nat → Nat → Int → Heap → Prop} (hs : s.size ≤ 1000000000)
    (hno : (∀ L, RowsP L → bl s ≠ encR L) → ∀ H', Fr [] H H' → K none 0 0 11 H')
    (hyes : ∀ L a n c H', RowsP L → bl s = encR L → Own encRw 26 H.size H' a n c L → Fr [] H H' → K a n c 0 H') :
    CallH Tryz.prog fn_ref16_Decode ⟨[.string s]⟩ H fun v H' => ∃ a n c e, v = .tuple ⟨[.slice a n c, .int .i64 e]⟩ ∧ K a n c e H' := by
  apply vc_ref16_Decode
  refine rbetween_ok hs (fun hn H' hf => brB_of (fun _ => ⟨_, _, _, _, rfl, hno hn H' hf⟩) fun h => by cases h) fun rows a n c H1 ho hn hv hf hcmp => brB_of (fun h => by cases h) fun _ => ?_
  refine r16Encode_ok ho.sl hv (by omega) (fun hnP H' hf' => brB_of (fun _ => ⟨_, _, _, _, rfl, hno (fun L hP hL => hnP ?_) _ (hf.keep0 hf')⟩) fun h => by cases h) fun hP H' hf' => brB_of (fun h => by cases h) fun _ => ?_
  · rw [hcmp L hP hL, filter_allR hP]; exact hP
  · by_cases e : s = ⟨(encR rows).toArray⟩
    · rw [sized e.symm]
      exact ⟨_, _, _, _, rfl, hyes rows _ _ _ _ hP (by rw [e]) (ho.keep hf') (hf.keep0 hf')⟩
    · rw [sized_ne (fun h => e h.symm)]
      refine ⟨_, _, _, _, rfl, hno (fun L hP' hL => e ?_) _ (hf.keep0 hf')⟩
      rw [hcmp L hP' hL, filter_allR hP']
      exact bl_inj hL

theorem srv_one {i : Int} {a : Option Addr} {n c : Nat} : ∀ v ∈ (Value.agg ⟨[.int .i64 i, .slice a n c]⟩).cells.toList, v.oneCell' = true := fun v h => by
  simp [Value.cells] at h; rcases h with rfl | rfl <;> rfl
theorem majP_of {ss : List Srs} (hR : RightS ss) (h : ∀ (i : Nat) (x : Srs), ss[i]? = some x → (0 ≤ x.1 ∧ x.1 < 200) ∧ SmpP x.2) : MajP ss :=
  ⟨hR, fun s hs => by obtain ⟨i, hi⟩ := List.mem_iff_getElem?.1 hs; exact h i s hi⟩
theorem majEncode_ok {H : Heap} {a : Option Addr} {n c : Nat} {hs : List Sr} {ss : List Srs} {K : ByteArray → Int → Heap → Prop} (hx : Sl encSr H a n c hs) (h1 : SerH H hs ss) (hR : RightS ss) (hn : n ≤ 1000000) (hsl : ∀ s ∈ ss, s.2.length ≤ 1000000) (hv : ∀ s ∈ ss, ∀ x ∈ s.2, I64 x.2)
    (hbad : ¬ MajP ss → ∀ H', Fr [] H H' → K ⟨#[]⟩ 30 H') (hok : MajP ss → ∀ H', Fr [] H H' → K ⟨(encM ss).toArray⟩ 0 H') :
    CallH Tryz.prog fn_major_Encode ⟨[.slice a n c]⟩ H fun v H' => ∃ s e, v = .tuple ⟨[.string s, .int .i64 e]⟩ ∧ K s e H' := by
  apply vc_major_Encode
  have hlen := hx.len
  have hl2 := h1.len
  intro b H2 hn2 b1 H3 hn3
  rw [wrapU_nat (by omega)]
  refine Uint_ok (by omega) fun H4 f4 => ?_
  have e2 := hn2.eq
  have e3 := hn3.eq
  have s2 := hn2.size
  have s3 := hn3.size
  have s4 := f4.size
  have zu := uintL_len10 (n := n) (by omega)
  refine WriteString_ok (((Bld.new hn2).keep hn3.fr).keep f4) (by rw [size_mk]; simp; omega) fun H5 S5 h5 f5 g5 => ?_
  rw [List.nil_append, bl_mk] at h5
  have f15 : Fr [] H H5 := ((hn2.fr.keep0 hn3.fr).keep0 f4).keep f5 fun k hk => by simp at hk; omega
  have hb5 := ((Bld.new hn3).keep f4).fr f5 (by simp; omega)
  have hS5 : ∀ k ∈ S5, k = b ∨ H4.size ≤ k := fun k hk => (g5 k hk).imp (fun h => by simpa using h) id
  refine ⟨fun vs H' => match vs with | [.int _ last, .int _ i] => ∃ (j : Nat) (S1 S2 : List Nat), i = j ∧ j ≤ n ∧ last = (if j = 0 then -1 else (ss[j - 1]?.getD (0, [])).1) ∧ (∀ (i : Nat) (x : Srs), i < j → ss[i]? = some x → (0 ≤ x.1 ∧ x.1 < 200) ∧ SmpP x.2) ∧ BldH H' b S1 (uintL n ++ tblM (ss.take j)) ∧ BldH H' b1 S2 (bdyM (ss.take j)) ∧ Dj S1 S2 ∧ (∀ k ∈ S1, H.size ≤ k) ∧ (∀ k ∈ S2, H.size ≤ k) ∧ Fr [] H H' | _ => False, fun vs _ => match vs with | [_, .int _ i] => n - i.toNat | _ => 0,
    ⟨0, S5, [b1], rfl, by omega, rfl, (fun _ _ h => by omega), by simpa [tblM] using h5, by simpa [bdyM] using hb5, (fun k hk hk2 => by simp at hk2; subst hk2; rcases hS5 _ hk with h | h <;> omega), (fun k hk => (hS5 k hk).elim (fun h => by omega) fun h => by omega), (fun k hk => by simp at hk; omega), f15⟩, ?_⟩
  rintro J last i H6 ⟨j, S1, S2, rfl, hj, rfl, hgood, hb1, hb2, dj, hS1, hS2, f6⟩
  have pre : ∀ x ∈ ss.take j, (0 ≤ x.1 ∧ x.1 < 200) ∧ SmpP x.2 := fun x hx => by
    obtain ⟨i, hi⟩ := List.mem_iff_getElem?.1 hx
    rw [List.getElem?_take] at hi
    split at hi
    · exact hgood i x (by assumption) hi
    · cases hi
  have zt := tblM_len pre
  have zb := bdyM_len fun x hx => (pre x hx).2
  rw [List.length_take] at zt zb
  refine brB_of (fun hlt => ?_) (fun hge => ?_)
  · have hlt : j < n := by simp at hlt; omega
    obtain ⟨m, hm⟩ := getElem_ex (l := hs) (i := j) (by omega)
    obtain ⟨x, hxs, hr⟩ := h1.get hm
    refine (hx.keep f6).get rfl hm (decide_eq_true (by omega)) fun ad ea hc => ⟨_, _, _, _, ld_many (by kernel_rfl) (by kernel_rfl) hc, ?_⟩
    refine var_blk (by kernel_rfl) (by kernel_rfl) srv_one (by rfl) fun vb H7 hvl hvb fv => ⟨_, _, _, hvb.ldK (j := 1) (by kernel_rfl) rfl, ?_⟩
    have f7 := f6.keep0 fv
    have hxl := hsl x (List.mem_of_getElem? hxs)
    have hml := hr.2.len
    have mod : MajP ss → (0 ≤ x.1 ∧ x.1 < 200) ∧ SmpP x.2 := fun h => h.lo x (List.mem_of_getElem? hxs)
    have fail : ¬ SmpP x.2 → ∀ H' e, Fr [] H7 H' → e ≠ 0 → ∃ (M : IV), brB (e != 0) (∃ s e', Value.tuple ⟨[.string { data := #[] }, .int .i64 30]⟩ = .tuple ⟨[.string s, .int .i64 e']⟩ ∧ K s e' H') (M [] H') ∧ ∀ H', ¬ M [] H' := fun hno H' e hf he =>
      ⟨fun _ _ => False, brB_of (fun _ => ⟨_, _, rfl, hbad (fun h => hno (mod h).2) _ (f7.keep0 hf)⟩) (fun h => by simp at h; exact he h), fun _ h => h⟩
    refine Encode_ok (hr.2.keep f7) (hv x (List.mem_of_getElem? hxs)) (by omega) (fun hbig => ?_) (fun _ hnP H8 f8 => ?_) fun hP H8 f8 => ?_
    · refine ⟨fun _ _ => False, brB_of (fun _ => ⟨_, _, rfl, hbad (fun h => ?_) _ f7⟩) (fun h => by simp at h), fun _ _ h => h.elim⟩
      have := (mod h).2.len
      omega
    · exact ⟨fun _ _ => False, brB_of (fun _ => ⟨_, _, rfl, hbad (fun h => hnP (mod h).2) _ (f7.keep0 f8)⟩) (fun h => by simp at h), fun _ _ h => h.elim⟩
    · have f78 := f7.keep0 f8
      have hvb8 := hvb.keep f8
      refine ⟨fun _ H' => H' = H8 ∧ (0 ≤ x.1 ∧ x.1 < 200), brB_of (fun h => by simp at h) fun _ => ⟨_, _, _, hvb8.ldK (j := 1) (by kernel_rfl) rfl, brB_of (fun h => ?_) fun h0 => ⟨_, hvb8.ld0 (by kernel_rfl) rfl, brB_of (fun h => ⟨_, _, rfl, hbad (fun hM => ?_) _ f78⟩) fun h2 => ⟨_, hvb8.ld0 (by kernel_rfl) rfl, brB_of (fun h => ⟨_, _, rfl, hbad (fun hM => ?_) _ f78⟩) fun h3 => ⟨rfl, ?_⟩⟩⟩⟩, ?_⟩
      · exfalso
        have h : x.2 = [] := List.eq_nil_of_length_eq_zero (by simp at h; omega)
        exact (hR.2 x (List.mem_of_getElem? hxs)).1 h
      · have h := of_decide_eq_true h
        have := (mod hM).1
        split at h
        · have := hr.1; omega
        · have hy := List.getElem?_eq_getElem (l := ss) (i := j - 1) (by omega)
          rw [hy, Option.getD_some] at h
          obtain ⟨hjl, ex⟩ := List.getElem?_eq_some_iff.1 hxs
          have hlt := List.pairwise_iff_getElem.1 hR.1 (j - 1) j (by omega) hjl (by omega)
          rw [ex] at hlt
          have := hr.1
          omega
      · have := (mod hM).1
        have := hr.1
        simp at h; omega
      · have h2 := of_decide_eq_false h2
        have h3 := of_decide_eq_false h3
        have := hr.1
        split at h2
        · omega
        · have hy := List.getElem?_eq_getElem (l := ss) (i := j - 1) (by omega)
          rw [hy, Option.getD_some] at h2
          have := (hgood (j - 1) _ (by omega) hy).1
          omega
      · rintro J2 H9 ⟨rfl, hid⟩
        refine ⟨_, hvb8.ld0 (by kernel_rfl) rfl, _, hvb8.ld0 (by kernel_rfl) rfl, ?_⟩
        have em := hr.1
        rw [em, wrapU_of hid.1 (by omega)]
        refine Uint_ok (by omega) fun H10 f10 => ?_
        have ze := encD_len hP
        rw [size_mk, nat_wrapU (n := (encD x.2).length) (by omega)]
        refine Uint_ok (by omega) fun H11 f11 => ?_
        have z1 := uintL_len10 (n := x.1.toNat) (by omega)
        have z2 := uintL_len10 (n := (encD x.2).length) (by omega)
        refine chk_true (decide_eq_true (by rw [size_mk, size_mk]; omega)) ?_
        rw [mk_app]
        have f611 : Fr [] H6 H11 := ((fv.keep0 f8).keep0 f10).keep0 f11
        refine WriteString_ok (hb1.keep f611) (by rw [size_mk, List.length_append, List.length_append]; omega) fun H12 S12 h12 f12 g12 => ?_
        have i1 := (Bld.inS hb1).2
        have i2 := (Bld.inS hb2).2
        have s611 := f611.size
        refine WriteString_ok ((hb2.keep f611).fr f12 fun k hk hk2 => dj k hk2 hk) (by rw [size_mk]; omega) fun H13 S13 h13 f13 g13 => ?_
        rw [bl_mk] at h12 h13
        have s12 := f12.size
        have i12 := (Bld.inS h12).2
        have tk : ss.take (j + 1) = ss.take j ++ [x] := by rw [List.take_add_one, hxs]; rfl
        have gS : ∀ k ∈ S12, k ∈ S1 ∨ H11.size ≤ k := g12
        have dj2 : Dj S12 S2 := fun k hk hk2 => (gS k hk).elim (fun h => dj k h hk2) fun h => by have := i2 k hk2; omega
        rw [succ64 (by omega)]
        have hmu : n - ((j + 1 : Nat) : Int).toNat < n - ((j : Nat) : Int).toNat := by omega
        have s6 := f6.size
        refine ⟨⟨j + 1, S12, S13, rfl, by omega, by rw [if_neg (by omega), Nat.add_sub_cancel, hxs]; rfl, fun i y hi hy => ?_, ?_, ?_, fun k hk hk2 => ?_, fun k hk => (gS k hk).elim (hS1 k) fun h => by omega, fun k hk => (g13 k hk).elim (hS2 k) fun h => by omega, ((f6.keep0 f611).keep f12 hS1).keep f13 hS2⟩, hmu⟩
        · by_cases e : i = j
          · subst e
            rw [hxs] at hy
            cases hy
            exact ⟨hid, hP⟩
          · exact hgood i y (by omega) hy
        · rw [tk, tblM_snoc, ← List.append_assoc]
          exact h12.fr f13 fun k hk hk2 => dj2 k hk hk2
        · rw [tk, bdyM_snoc]; exact h13
        · rcases g13 k hk2 with h | h
          · exact dj2 k hk h
          · have := i12 k hk; omega
  · have hjn : j = n := by simp at hge; omega
    subst hjn
    have hM : MajP ss := majP_of hR fun i x hx => hgood i x (by have := (List.getElem?_eq_some_iff.1 hx).1; omega) hx
    rw [List.take_of_length_le (by omega)] at hb1 hb2
    refine BString_ok hb1 (by rw [List.length_append]; rw [List.take_of_length_le (by omega)] at zt; omega) fun H7 f7 => ?_
    rw [List.take_of_length_le (by omega)] at zt zb
    refine BString_ok (hb2.fr f7 fun k hk hk2 => dj k hk2 hk) (by omega) fun H8 f8 => ?_
    refine chk_true (decide_eq_true (by rw [size_mk, size_mk, List.length_append]; omega)) ⟨_, _, rfl, ?_⟩
    rw [mk_app, List.append_assoc, ← (show encM ss = uintL j ++ (tblM ss ++ bdyM ss) by unfold encM; rw [hlen, hl2])]
    exact hok hM _ ((f6.keep f7 hS1).keep f8 hS2)
theorem r15Encode_ok {H : Heap} {a : Option Addr} {n c : Nat} {hs : List Sr} {ss : List Srs} {K : ByteArray → Int → Heap → Prop} (hx : Sl encSr H a n c hs) (h1 : SerH H hs ss) (hR : RightS ss) (hn : n ≤ 1000000) (hsl : ∀ s ∈ ss, s.2.length ≤ 1000000) (hv : ∀ s ∈ ss, ∀ x ∈ s.2, I64 x.2)
    (hbad : ¬ MajP ss → ∀ H', Fr [] H H' → K ⟨#[]⟩ 30 H') (hok : MajP ss → ∀ H', Fr [] H H' → K ⟨(encM ss).toArray⟩ 0 H') :
    CallH Tryz.prog fn_ref15_Encode ⟨[.slice a n c]⟩ H fun v H' => ∃ s e, v = .tuple ⟨[.string s, .int .i64 e]⟩ ∧ K s e H' := by
  apply vc_ref15_Encode
  have hlen := hx.len
  have hl2 := h1.len
  refine Right_ok hx h1 hR hn (fun s hs => by have := hsl s hs; omega) (brB_of (fun h => by cases h) fun _ => ?_)
  rw [wrapU_nat (by omega)]
  refine rUint_ok (by omega) fun H2 f2 => ?_
  have zu := uintL_len10 (n := n) (by omega)
  refine ⟨fun vs H' => match vs with | [.string s, .string t, .int _ i] => ∃ j : Nat, i = j ∧ j ≤ n ∧ s = ⟨(uintL n ++ tblM (ss.take j)).toArray⟩ ∧ t = ⟨(bdyM (ss.take j)).toArray⟩ ∧ (∀ (i : Nat) (x : Srs), i < j → ss[i]? = some x → (0 ≤ x.1 ∧ x.1 < 200) ∧ SmpP x.2) ∧ Fr [] H H' | _ => False, fun vs _ => match vs with | [_, _, .int _ i] => n - i.toNat | _ => 0,
    ⟨0, rfl, by omega, by simp [tblM], by simp [bdyM], (fun _ _ h => by omega), f2⟩, ?_⟩
  rintro J s t i H6 ⟨j, rfl, hj, rfl, rfl, hgood, f6⟩
  have pre : ∀ x ∈ ss.take j, (0 ≤ x.1 ∧ x.1 < 200) ∧ SmpP x.2 := fun x hx => by
    obtain ⟨i, hi⟩ := List.mem_iff_getElem?.1 hx
    rw [List.getElem?_take] at hi
    split at hi
    · exact hgood i x (by assumption) hi
    · cases hi
  have zt := tblM_len pre
  have zb := bdyM_len fun x hx => (pre x hx).2
  rw [List.length_take] at zt zb
  refine brB_of (fun hlt => ?_) (fun hge => ?_)
  · have hlt : j < n := by simp at hlt; omega
    obtain ⟨m, hm⟩ := getElem_ex (l := hs) (i := j) (by omega)
    obtain ⟨x, hxs, hr⟩ := h1.get hm
    have mod : MajP ss → (0 ≤ x.1 ∧ x.1 < 200) ∧ SmpP x.2 := fun h => h.lo x (List.mem_of_getElem? hxs)
    have hxl := hsl x (List.mem_of_getElem? hxs)
    have hml := hr.2.len
    have em := hr.1
    refine ⟨fun vs H' => vs = [.string ⟨(uintL n ++ tblM (ss.take (j + 1))).toArray⟩, .string ⟨(bdyM (ss.take (j + 1))).toArray⟩] ∧ ((0 ≤ x.1 ∧ x.1 < 200) ∧ SmpP x.2) ∧ Fr [] H H', ?_, ?_⟩
    · refine (hx.keep f6).get rfl hm (decide_eq_true (by omega)) fun ad ea hc => ⟨_, _, _, ld_part (by kernel_rfl) hc (j := 1) rfl, ?_⟩
      refine rEncode_ok (hr.2.keep f6) (hv x (List.mem_of_getElem? hxs)) (by omega) (fun hbig => ?_) (fun _ hnP H8 f8 => ?_) fun hP H8 f8 => ?_
      · refine ⟨fun _ _ => False, brB_of (fun _ => ⟨_, _, rfl, hbad (fun h => ?_) _ f6⟩) (fun h => by simp at h), fun _ _ h => h.elim⟩
        have := (mod h).2.len
        omega
      · exact ⟨fun _ _ => False, brB_of (fun _ => ⟨_, _, rfl, hbad (fun h => hnP (mod h).2) _ (f6.keep0 f8)⟩) (fun h => by simp at h), fun _ _ h => h.elim⟩
      · have f78 := f6.keep0 f8
        refine ⟨fun _ H' => H' = H8 ∧ (0 ≤ x.1 ∧ x.1 < 200), brB_of (fun h => by simp at h) fun _ => ?_, ?_⟩
        · refine (hx.keep f78).get rfl hm (decide_eq_true (by omega)) fun ad ea hc => ⟨m.1, ldSr0 hc, brB_of (fun h => ⟨_, _, rfl, hbad (fun hM => ?_) _ f78⟩) fun h2 => ?_⟩
          · have := (mod hM).1; simp at h; omega
          refine (hx.keep f78).get rfl hm (decide_eq_true (by omega)) fun ad ea hc => ⟨m.1, ldSr0 hc, brB_of (fun h => ⟨_, _, rfl, hbad (fun hM => ?_) _ f78⟩) fun h3 => ⟨rfl, ?_⟩⟩
          · have := (mod hM).1; simp at h; omega
          · simp at h2 h3; omega
        · rintro J2 H9 ⟨rfl, hid⟩
          refine (hx.keep f78).get rfl hm (decide_eq_true (by omega)) fun ad ea hc => ⟨m.1, ldSr0 hc, ?_⟩
          rw [em, wrapU_of hid.1 (by omega)]
          have ze := encD_len hP
          have z1 := uintL_len10 (n := x.1.toNat) (by omega)
          have z2 := uintL_len10 (n := (encD x.2).length) (by omega)
          refine rUint_ok (by omega) fun H10 f10 => ?_
          refine chk_true (decide_eq_true (by rw [size_mk, size_mk, List.length_append]; omega)) ?_
          rw [size_mk (encD x.2), nat_wrapU (n := (encD x.2).length) (by omega)]
          refine rUint_ok (by omega) fun H11 f11 => ?_
          refine chk_true (decide_eq_true (by rw [mk_app, size_mk, size_mk, List.length_append, List.length_append]; omega)) ?_
          refine chk_true (decide_eq_true (by rw [size_mk (bdyM (ss.take j))]; omega)) ⟨?_, ⟨hid, hP⟩, (f78.keep0 f10).keep0 f11⟩
          have tk : ss.take (j + 1) = ss.take j ++ [x] := by rw [List.take_add_one, hxs]; rfl
          rw [mk_app, mk_app, mk_app, tk, tblM_snoc, bdyM_snoc]
          simp
    · rintro J2 s' t' H7 ⟨e, hx2, f7⟩
      simp only [List.cons.injEq, Value.string.injEq, and_true] at e
      obtain ⟨rfl, rfl⟩ := e
      rw [succ64 (by omega)]
      have hmu : n - ((j + 1 : Nat) : Int).toNat < n - ((j : Nat) : Int).toNat := by omega
      refine ⟨⟨j + 1, rfl, by omega, rfl, rfl, fun i y hi hy => ?_, f7⟩, hmu⟩
      by_cases e : i = j
      · subst e
        rw [hxs] at hy
        cases hy
        exact hx2
      · exact hgood i y (by omega) hy
  · have hjn : j = n := by simp at hge; omega
    subst hjn
    have hM : MajP ss := majP_of hR fun i x hx => hgood i x (by have := (List.getElem?_eq_some_iff.1 hx).1; omega) hx
    rw [List.take_of_length_le (by omega)] at zt zb ⊢
    refine chk_true (decide_eq_true (by rw [size_mk, size_mk, List.length_append]; omega)) ⟨_, _, rfl, ?_⟩
    rw [mk_app, List.append_assoc, ← (show encM ss = uintL j ++ (tblM ss ++ bdyM ss) by unfold encM; rw [hlen, hl2])]
    exact hok hM _ f6

def e0 (zs : List Z) (i : Nat) : Rw := (((zs[i]?.getD (0, 0)).1 : Nat), (offZ zs i : Nat), (offZ zs (i + 1) : Nat))
def esK (zs : List Z) (p k : Nat) : List Rw := (List.range zs.length).map fun i => if i < k then (((zs[i]?.getD (0, 0)).1 : Int), ((p + offZ zs i : Nat) : Int), ((p + offZ zs (i + 1) : Nat) : Int)) else e0 zs i
theorem esK_len (zs : List Z) (p k : Nat) : (esK zs p k).length = zs.length := by simp [esK]
theorem esK_get {zs : List Z} {p k i : Nat} (h : i < zs.length) : (esK zs p k)[i]? = some (if i < k then (((zs[i]?.getD (0, 0)).1 : Int), ((p + offZ zs i : Nat) : Int), ((p + offZ zs (i + 1) : Nat) : Int)) else e0 zs i) := by
  unfold esK; rw [List.getElem?_map, List.getElem?_range h]; rfl
theorem esK_succ {zs : List Z} {p k : Nat} (h : k < zs.length) : esK zs p (k + 1) = (esK zs p k).set k (((zs[k]?.getD (0, 0)).1 : Int), ((p + offZ zs k : Nat) : Int), ((p + offZ zs (k + 1) : Nat) : Int)) := by
  refine List.ext_getElem? fun i => ?_
  rw [List.getElem?_set, esK_len]
  by_cases hi : i < zs.length
  · rw [esK_get hi]
    by_cases e : k = i
    · subst e
      rw [if_pos (by omega), if_pos rfl, if_pos h]
    · rw [if_neg e, esK_get hi]
      by_cases h2 : i < k
      · rw [if_pos (by omega), if_pos h2]
      · rw [if_neg (by omega), if_neg h2]
  · rw [if_neg (by omega), List.getElem?_eq_none (by rw [esK_len]; omega), List.getElem?_eq_none (by rw [esK_len]; omega)]
theorem offZ_snoc {zs : List Z} {z : Z} {i : Nat} (h : i ≤ zs.length) : offZ (zs ++ [z]) i = offZ zs i := by
  unfold offZ; rw [List.take_append_of_le_length h]
theorem esK_snoc (zs : List Z) (z : Z) (p : Nat) : esK (zs ++ [z]) p 0 = esK zs p 0 ++ [((z.1 : Int), (sumZ zs : Int), ((sumZ zs + z.2 : Nat) : Int))] := by
  unfold esK
  rw [List.length_append, List.length_cons, List.length_nil, Nat.zero_add, List.range_succ, List.map_append]
  congr 1
  · refine List.map_congr_left fun i hi => ?_
    have hi := List.mem_range.1 hi
    simp only [Nat.not_lt_zero, if_false]
    unfold e0
    rw [offZ_snoc (by omega), offZ_snoc (by omega), List.getElem?_append_left hi]
  · simp only [List.map_cons, List.map_nil, Nat.not_lt_zero, if_false]
    unfold e0
    rw [offZ_snoc (Nat.le_refl _)]
    have e1 : offZ zs zs.length = sumZ zs := by unfold offZ; rw [List.take_length]
    have e2 : offZ (zs ++ [z]) (zs.length + 1) = sumZ zs + z.2 := by
      unfold offZ; rw [List.take_of_length_le (by simp)]; exact sumZ_snoc _ _
    rw [e1, e2]
    simp
structure TbS (s : ByteArray) (n0 : Nat) (zs : List Z) (p : Nat) : Prop where
  snd : bl s = uintL n0 ++ (tabL zs ++ (bl s).drop p)
  pos : p ≤ s.size
  rise : zs.Pairwise fun a b => a.1 < b.1
  lo : ∀ z ∈ zs, z.1 < 200 ∧ z.2 ≤ s.size
  cmp : ∀ zs', TabP s zs' → zs'.length = n0 ∧ zs'.take zs.length = zs
theorem TbS.start {s : ByteArray} {n0 p e : Nat} {v : Int} {n : Int} (h : GU ((bl s).drop 0) 0 v n 0) (hv : v = n0) (hn : n = p) (hp : p ≤ s.size) : TbS s n0 [] p := by
  obtain ⟨m, h1, h2, h3, h4, h5⟩ := h.ok rfl
  have hm : m = n0 := by omega
  subst hm
  rw [List.drop_zero] at h3
  have : p = (uintL m).length := by omega
  subst this
  refine ⟨by simpa [tabL] using h3, hp, List.Pairwise.nil, by simp, fun zs' ht => ⟨?_, rfl⟩⟩
  obtain ⟨r, h6, _⟩ := ht.s
  rw [h3] at h6
  exact (uint_eq h6).1.symm
theorem TbS.next {s : ByteArray} {n0 p : Nat} {zs zs' : List Z} (h : TbS s n0 zs p) (ht : TabP s zs') (hl : zs.length < n0) : ∃ z r, zs'[zs.length]? = some z ∧ (bl s).drop p = uintL z.1 ++ (uintL z.2 ++ r) ∧ (∀ y, zs.getLast? = some y → y.1 < z.1) ∧ z.1 < 200 ∧ z.2 ≤ s.size := by
  obtain ⟨c1, c2⟩ := h.cmp zs' ht
  obtain ⟨z, tl, rfl⟩ : ∃ z tl, zs' = zs ++ z :: tl := ⟨zs'[zs.length]'(by omega), zs'.drop (zs.length + 1), by
    conv => lhs; rw [← List.take_append_drop zs.length zs', c2, List.drop_eq_getElem_cons (by omega)]⟩
  have hz : (zs ++ z :: tl)[zs.length]? = some z := by rw [List.getElem?_append_right (Nat.le_refl _), Nat.sub_self]; rfl
  obtain ⟨r, h6, h7⟩ := ht.s
  have h2 := (uint_eq (h6.symm.trans h.snd)).2
  rw [tabL_app, List.append_assoc] at h2
  have h3 := List.append_cancel_left h2
  rw [tabL_cons] at h3
  refine ⟨z, tabL tl ++ r, hz, by rw [← h3]; simp only [List.append_assoc], fun y hy => ?_, ht.lo _ (List.mem_of_getElem? hz), ?_⟩
  · have hr := ht.rise
    rw [List.pairwise_append] at hr
    exact hr.2.2 y (List.mem_of_getLast? hy) z (by simp)
  · have h8 := offZ_succ hz
    have h9 := offZ_le (zs ++ z :: tl) (zs.length + 1)
    have := ht.size
    omega
theorem TbS.more {s : ByteArray} {n0 p p' : Nat} {zs : List Z} {z : Z} (h : TbS s n0 zs p) (hl : zs.length < n0) (hp : (bl s).drop p = uintL z.1 ++ (uintL z.2 ++ (bl s).drop p')) (hp' : p' ≤ s.size) (hr : ∀ y, zs.getLast? = some y → y.1 < z.1) (hz : z.1 < 200 ∧ z.2 ≤ s.size) : TbS s n0 (zs ++ [z]) p' := by
  refine ⟨?_, hp', ?_, fun x hx => ?_, fun zs' ht => ?_⟩
  · rw [tabL_snoc]
    have := h.snd
    rw [hp] at this
    rw [List.append_assoc, List.append_assoc]; exact this
  · rw [List.pairwise_append]
    refine ⟨h.rise, List.pairwise_singleton _ _, fun a ha b hb => ?_⟩
    simp at hb; subst hb
    cases hg : zs.getLast? with
    | none =>
      have := List.getLast?_eq_none_iff.1 hg
      rw [this] at ha; cases ha
    | some y =>
      have hy := hr y hg
      obtain ⟨ys, e⟩ := List.getLast?_eq_some_iff.1 hg
      have hrise := h.rise
      rw [e, List.pairwise_append] at hrise
      rw [e] at ha
      rcases List.mem_append.1 ha with h1 | h1
      · exact Nat.lt_trans (hrise.2.2 a h1 y (by simp)) hy
      · simp at h1; rw [h1]; exact hy
  · rcases List.mem_append.1 hx with h1 | h1
    · exact h.lo x h1
    · simp at h1; rw [h1]; exact hz
  · obtain ⟨c1, c2⟩ := h.cmp zs' ht
    obtain ⟨w, r, q1, q2, _⟩ := h.next ht hl
    rw [hp] at q2
    obtain ⟨e1, q3⟩ := uint_eq q2
    obtain ⟨e2, q4⟩ := uint_eq q3
    refine ⟨c1, ?_⟩
    rw [List.length_append, List.length_cons, List.length_nil, Nat.zero_add, List.take_add_one, c2, q1]
    have : w = z := Prod.ext e1.symm e2.symm
    rw [this]; rfl
theorem TbS.done {s : ByteArray} {n0 p : Nat} {zs : List Z} (h : TbS s n0 zs p) (hl : zs.length = n0) : (sumZ zs = s.size - p → TabP s zs ∧ p = posZ zs) ∧ (∀ zs', TabP s zs' → sumZ zs = s.size - p) := by
  have hsl := bl_len s
  have hlen := congrArg List.length h.snd
  rw [hsl, List.length_append, List.length_append, List.length_drop, hsl] at hlen
  have hp := h.pos
  refine ⟨fun hs => ⟨⟨h.rise, fun z hz => (h.lo z hz).1, (bl s).drop p, by rw [hl]; exact h.snd, by rw [List.length_drop, hsl]; omega⟩, by unfold posZ; rw [hl]; omega⟩, fun zs' ht => ?_⟩
  obtain ⟨c1, c2⟩ := h.cmp zs' ht
  have : zs' = zs := by rw [← c2, hl, ← c1, List.take_length]
  subst this
  have := ht.size
  unfold posZ at this
  rw [hl] at this
  omega
theorem slice98 : sliceB Tryz.prog 98 151 = true := by kernel_rfl
theorem elem151 : elemB Tryz.prog 151 encRw.sz 24 = true := by kernel_rfl
theorem getLast_at {zs : List Z} {y : Z} (h : zs.getLast? = some y) : zs[zs.length - 1]? = some y := by rw [List.getLast?_eq_getElem?] at h; exact h
theorem sumZ_le {zs : List Z} {m : Nat} (h : ∀ z ∈ zs, z.2 ≤ m) : sumZ zs ≤ zs.length * m := by
  induction zs with
  | nil => simp [sumZ]
  | cons z zs ih =>
    have := h z (by simp)
    have := ih fun w hw => h w (by simp [hw])
    unfold sumZ at *
    rw [List.map_cons, List.sum_cons, List.length_cons, Nat.add_mul]
    omega
theorem table_ok {s : ByteArray} {H : Heap} {K : Option Addr → Nat → Nat → Bool → Heap → Prop} (hs : s.size ≤ 1000000000)
    (hno : (∀ zs, ¬ TabP s zs) → ∀ a n c H', Fr [] H H' → K a n c false H')
    (hyes : ∀ zs a n c H', TabP s zs → Own encRw 151 H.size H' a n c (esK zs (posZ zs) zs.length) → Fr [] H H' → K a n c true H') :
    CallH Tryz.prog fn_major_table ⟨[.string s]⟩ H fun v H' => ∃ a n c b, v = .tuple ⟨[.slice a n c, .bool b]⟩ ∧ K a n c b H' := by
  apply vc_major_table
  have hsl := bl_len s
  refine GetUint_ok (by omega) (fun h => (h ⟨by omega, by omega⟩).elim) fun a0 ea0 ha0 v n1 e1 hG1 => ?_
  have : a0 = 0 := by omega
  subst this
  obtain ⟨p0, n0, rfl, hp0, rfl, hn0⟩ := hG1.pos ha0
  refine ⟨fun _ H' => H' = H ∧ e1 = 0 ∧ n0 ≤ 200, ?_, ?_⟩
  · refine brB_of (fun h => ⟨_, _, _, _, rfl, hno (fun zs ht => ?_) _ _ _ _ (Fr.refl _ _)⟩) fun h1 => brB_of (fun h => ⟨_, _, _, _, rfl, hno (fun zs ht => ?_) _ _ _ _ (Fr.refl _ _)⟩) fun h2 => ⟨rfl, by simpa using h1, by simp at h2; omega⟩
    · obtain ⟨r, h1, _⟩ := ht.s
      have := hG1.of (n := zs.length) (by have := ht.len; omega) (by rw [List.drop_zero]; exact h1)
      simp at h; omega
    · obtain ⟨r, h1, _⟩ := ht.s
      have := hG1.of (n := zs.length) (by have := ht.len; omega) (by rw [List.drop_zero]; exact h1)
      have := ht.len
      simp at h; omega
  rintro J H1 ⟨rfl, rfl, hn200⟩
  refine ⟨fun vs H' => match vs with | [.int _ pos, .slice a n c, .int _ last, .int _ all, .int _ i] => ∃ (zs : List Z) (p : Nat), pos = ((p : Nat) : Int) ∧ i = ((zs.length : Nat) : Int) ∧ zs.length ≤ n0 ∧ TbS s n0 zs p ∧ all = ((sumZ zs : Nat) : Int) ∧ last = (match zs.getLast? with | some y => (y.1 : Int) | none => -1) ∧ Own encRw 151 H1.size H' a n c (esK zs 0 0) ∧ Fr [] H1 H' | _ => False, fun vs _ => match vs with | [_, _, _, _, .int _ i] => n0 - i.toNat | _ => 0,
    ⟨[], p0, rfl, rfl, by simp, TbS.start (e := 0) hG1 rfl rfl hp0, rfl, rfl, Own.nil .., Fr.refl _ _⟩, ?_⟩
  rintro J pos a n c last all i H2 ⟨zs, p, rfl, rfl, hzl, hT, rfl, rfl, ho, f2⟩
  have hnl := ho.1
  rw [esK_len] at hnl
  have hsum := sumZ_le fun z hz => (hT.lo z hz).2
  have hzl200 : zs.length ≤ 200 := by omega
  have hsum2 : sumZ zs ≤ 200000000000 := Nat.le_trans hsum (Nat.le_trans (Nat.mul_le_mul hzl200 hs) (by omega))
  refine brB_of (fun hlt => ?_) (fun hge => ?_)
  · have hlt : zs.length < n0 := by simp at hlt; omega
    refine GetUint_ok (by omega) (fun h => (h ⟨by omega, by have := hT.pos; omega⟩).elim) fun a1 ea1 ha1 v1 n1 e1 hG1 => ?_
    have : a1 = p := by omega
    subst this
    obtain ⟨p1, m1, rfl, hp1, rfl, hm1⟩ := hG1.pos ha1
    refine GetUint_ok (by omega) (fun h => (h ⟨by omega, by omega⟩).elim) fun a2 ea2 ha2 v2 n2 e2 hG2 => ?_
    have : a2 = p1 := by omega
    subst this
    obtain ⟨p2, m2, rfl, hp2, rfl, hm2⟩ := hG2.pos ha2
    have nums : ∀ zs', TabP s zs' → e1 = 0 ∧ e2 = 0 ∧ m1 < 200 ∧ m2 ≤ s.size ∧ (∀ y, zs.getLast? = some y → y.1 < m1) := fun zs' ht => by
      obtain ⟨z, r, q1, q2, q3, q4, q5⟩ := hT.next ht hlt
      obtain ⟨u1, u2, u3, u4⟩ := hG1.step (by omega) q2
      have : a2 = a1 + (uintL z.1).length := by omega
      rw [← this] at u4
      obtain ⟨w1, w2, w3, w4⟩ := hG2.step (by omega) u4
      refine ⟨u1, w1, by omega, by omega, fun y hy => by have := q3 y hy; omega⟩
    have no : (∀ zs', ¬ TabP s zs') → ∃ a n c b, Value.tuple ⟨[.slice none 0 0, .bool false]⟩ = .tuple ⟨[.slice a n c, .bool b]⟩ ∧ K a n c b H2 := fun h => ⟨_, _, _, _, rfl, hno h _ _ _ _ f2⟩
    have ewu : IntKind.wrap .u64 (s.size : Int) = s.size := nat_wrapU (by omega)
    refine ⟨fun _ H' => H' = H2 ∧ e1 = 0 ∧ e2 = 0 ∧ m1 < 200 ∧ m2 ≤ s.size ∧ (∀ y, zs.getLast? = some y → y.1 < m1), ?_, ?_⟩
    · refine brB_of (fun h => no fun zs' ht => ?_) fun h1 => brB_of (fun h => no fun zs' ht => ?_) fun h2 => brB_of (fun h => no fun zs' ht => ?_) fun h3 => ?_
      · have := (nums zs' ht).1; simp at h; omega
      · have := (nums zs' ht).2.1; simp at h; omega
      · have := (nums zs' ht).2.2.1; simp at h; omega
      · have h3 := of_decide_eq_false h3
        have ew1 : IntKind.wrap .i64 (m1 : Int) = m1 := wrap64_of (by omega) (by omega)
        rw [ew1, ewu]
        refine brB_of (fun h => no fun zs' ht => ?_) fun h4 => brB_of (fun h => no fun zs' ht => ?_) fun h5 => ⟨rfl, by simpa using h1, by simpa using h2, by omega, by simp at h5; omega, fun y hy => ?_⟩
        · have h6 := (nums zs' ht).2.2.2.2
          have h := of_decide_eq_true h
          cases hg : zs.getLast? with
          | none => rw [hg] at h; simp only at h; omega
          | some y => rw [hg] at h; simp only at h; have := h6 y hg; omega
        · have := (nums zs' ht).2.2.2.1; simp at h; omega
        · have h4 := of_decide_eq_false h4
          rw [hy] at h4
          simp only at h4
          omega
    · rintro J2 H3 ⟨rfl, rfl, rfl, hm1', hm2', hrise⟩ b H4 hn4
      have ew1 : IntKind.wrap .i64 (m1 : Int) = m1 := wrap64_of (by omega) (by omega)
      have ew2 : IntKind.wrap .i64 (m2 : Int) = m2 := wrap64_of (by omega) (by omega)
      have ew3 : IntKind.wrap .i64 (((sumZ zs : Nat) : Int) + (m2 : Int)) = ((sumZ zs + m2 : Nat) : Int) := by rw [wrap64_of (by omega) (by omega)]; rfl
      rw [ew1, ew2, ew3] at hn4
      rw [ew1, ew2, ew3]
      have s2 := f2.size
      have s4 := hn4.size
      have hsn := esK_snoc zs (m1, m2) 0
      refine ap_grow slice98 elem151 (ho.keep hn4.fr) (sl_one encRw ((m1 : Int), (sumZ zs : Int), ((sumZ zs + m2 : Nat) : Int)) hn4 rfl) (by omega) (by omega) fun q m d H5 h5 f5 g5 => ?_
      have ei : IntKind.wrap .u64 (((zs.length : Nat) : Int) + 1) = ((zs.length + 1 : Nat) : Int) := nat_wrapU (n := zs.length + 1) (by omega)
      rw [ei]
      have hmu : n0 - ((zs.length + 1 : Nat) : Int).toNat < n0 - ((zs.length : Nat) : Int).toNat := by omega
      obtain ⟨k1, x1, x2, x3, x4, x5⟩ := hG1.ok rfl
      obtain ⟨k2, y1, y2, y3, y4, y5⟩ := hG2.ok rfl
      have hd : (bl s).drop a1 = uintL m1 ++ (uintL m2 ++ (bl s).drop p2) := by
        have e1 : k1 = m1 := by omega
        have e2 : k2 = m2 := by omega
        subst e1; subst e2
        rw [List.drop_drop] at x3 y3
        have ea : a1 + (uintL k1).length = a2 := by omega
        have eb : a2 + (uintL k2).length = p2 := by omega
        rw [ea] at x3
        rw [eb] at y3
        rw [x3, y3]
      refine ⟨⟨zs ++ [(m1, m2)], p2, rfl, by simp, by simp; omega, hT.more hlt hd hp2 hrise ⟨hm1', hm2'⟩, by rw [sumZ_snoc], by simp, by rw [hsn]; exact h5, (f2.keep0 hn4.fr).keep f5 fun k hk => (ho.ge k hk).1⟩, hmu⟩
  · have hz0 : zs.length = n0 := by simp at hge; omega
    obtain ⟨d1, d2⟩ := hT.done hz0
    have hpp := hT.pos
    refine ⟨fun vs H' => match vs with | [.int _ i] => ∃ k : Nat, i = k ∧ k ≤ n ∧ Own encRw 151 H1.size H' a n c (esK zs p k) ∧ Fr [] H1 H' | _ => False, fun vs _ => match vs with | [.int _ i] => n - i.toNat | _ => 0,
      ⟨0, rfl, by omega, ?_, f2⟩, ?_⟩
    · have : esK zs p 0 = esK zs 0 0 := by unfold esK; simp
      rw [this]; exact ho
    rintro J i H3 ⟨k, rfl, hk, h3, f3⟩
    refine brB_of (fun hlt => ?_) (fun hge2 => ?_)
    · have hlt : k < n := by simp at hlt; omega
      have hgk := esK_get (zs := zs) (p := p) (k := k) (i := k) (by omega)
      rw [if_neg (by omega)] at hgk
      have o1 := offZ_le zs k
      have o2 := offZ_le zs (k + 1)
      have ew1 : IntKind.wrap .i64 (((offZ zs k : Nat) : Int) + (p : Int)) = ((p + offZ zs k : Nat) : Int) := by rw [wrap64_of (by omega) (by omega)]; omega
      have ew2 : IntKind.wrap .i64 (((offZ zs (k + 1) : Nat) : Int) + (p : Int)) = ((p + offZ zs (k + 1) : Nat) : Int) := by rw [wrap64_of (by omega) (by omega)]; omega
      refine h3.idx rfl hgk (decide_eq_true (by omega)) fun ad ea hc => ⟨_, ldRw1 hc, ?_⟩
      have e01 : (e0 zs k).2.1 = ((offZ zs k : Nat) : Int) := rfl
      rw [e01, ew1]
      refine h3.idx rfl hgk (decide_eq_true (by omega)) fun ad2 ea2 hc2 => ?_
      refine own_st h3 ea2 rfl hgk (j := 1) (x' := ((e0 zs k).1, ((p + offZ zs k : Nat) : Int), (e0 zs k).2.2)) (by kernel_rfl) (by kernel_rfl) (fun x hx => by simp [Value.cells] at hx; subst hx; rfl) (by show 1 + 1 ≤ 3; omega) rfl fun H4 h4 f4 => ?_
      have hgk4 : ((esK zs p k).set k ((e0 zs k).1, ((p + offZ zs k : Nat) : Int), (e0 zs k).2.2))[k]? = some ((e0 zs k).1, ((p + offZ zs k : Nat) : Int), (e0 zs k).2.2) := by rw [List.getElem?_set_self (by rw [esK_len]; omega)]
      refine h4.idx rfl hgk4 (decide_eq_true (by omega)) fun ad3 ea3 hc3 => ⟨_, ldRw2 hc3, ?_⟩
      have e02 : (e0 zs k).2.2 = ((offZ zs (k + 1) : Nat) : Int) := rfl
      simp only
      rw [e02, ew2]
      rw [e02] at hgk4 h4
      refine h4.idx rfl hgk4 (decide_eq_true (by omega)) fun ad4 ea4 hc4 => ?_
      refine own_st h4 ea4 rfl hgk4 (j := 2) (x' := ((e0 zs k).1, ((p + offZ zs k : Nat) : Int), ((p + offZ zs (k + 1) : Nat) : Int))) (by kernel_rfl) (by kernel_rfl) (fun x hx => by simp [Value.cells] at hx; subst hx; rfl) (by show 2 + 1 ≤ 3; omega) rfl fun H5 h5 f5 => ?_
      rw [List.set_set] at h5
      rw [succ64 (by omega)]
      have hmu : n - ((k + 1 : Nat) : Int).toNat < n - ((k : Nat) : Int).toNat := by omega
      exact ⟨⟨k + 1, rfl, by omega, by rw [esK_succ (by omega)]; exact h5, (f3.keep f4 fun k hk => (h3.ge k hk).1).keep f5 fun k hk => (h4.ge k hk).1⟩, hmu⟩
    · have hkn : k = n := by simp at hge2; omega
      subst hkn
      have ew : IntKind.wrap .i64 ((s.size : Int) - (p : Int)) = ((s.size - p : Nat) : Int) := by rw [wrap64_of (by omega) (by omega)]; omega
      rw [ew]
      by_cases hall : sumZ zs = s.size - p
      · obtain ⟨t1, t2⟩ := d1 hall
        have : (((sumZ zs : Nat) : Int) == ((s.size - p : Nat) : Int)) = true := by rw [hall]; simp
        rw [this]
        refine ⟨_, _, _, _, rfl, hyes zs _ _ _ _ t1 ?_ f3⟩
        rw [← t2, ← hnl]; exact h3
      · have : (((sumZ zs : Nat) : Int) == ((s.size - p : Nat) : Int)) = false := by
          have : ¬ ((sumZ zs : Nat) : Int) = ((s.size - p : Nat) : Int) := by omega
          simpa using this
        rw [this]
        exact ⟨_, _, _, _, rfl, hno (fun zs' ht => hall (d2 zs' ht)) _ _ _ _ f3⟩
end Go.Proofs
