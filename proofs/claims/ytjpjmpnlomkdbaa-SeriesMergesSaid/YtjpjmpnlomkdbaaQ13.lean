/- A part of a proof: see the last text of this claim. -/
import Derived.Test.YtjpjmpnlomkdbaaP13c
set_option linter.unusedVariables false
open Go Go.GV
namespace Go.Proofs

theorem Cut_ok {ra : Option Addr} {rn rc : Nat} {xs : List Smp} {a b c : Int} {H : Heap} (hx : Sl encS H ra rn rc xs) :
    CallH Try.prog fn_law13_SeriesCut ⟨[.slice ra rn rc, .int .i64 a, .int .i64 b, .int .i64 c]⟩ H fun v H' => v = .bool true ∧ Fr [] H H' := by
  apply vc_law13_SeriesCut
  refine brB_of (fun _ => ⟨rfl, Fr.refl _ _⟩) (fun g => ?_)
  generalize hlo : (if c < if b < a then b else a then c else if b < a then b else a) = lo
  generalize hhi : (if c > if b > a then b else a then c else if b > a then b else a) = hi
  generalize hmid : (if (if c < if b > a then b else a then c else if b > a then b else a) > if b < a then b else a then if c < if b > a then b else a then c else if b > a then b else a else if b < a then b else a) = mid
  have h1 : lo ≤ mid := by split at hmid <;> split at hlo <;> (repeat' split at *) <;> omega
  have h2 : mid ≤ hi := by split at hmid <;> split at hhi <;> (repeat' split at *) <;> omega
  clear hlo hhi hmid
  refine rising_ok hx fun la ln lc H1 L hL hr hn1 hf1 => ?_
  refine In_ok hL.sl (by omega) fun pa pn pc H2 hp hf2 => ?_
  have hL2 := hL.keep hf2
  refine In_ok hL2.sl (by omega) fun qa qn qc H3 hq hf3 => ?_
  have hL3 := hL2.keep hf3
  have hp3 := hp.keep hf3
  have hpn : pn ≤ 100 := by have h := hp.1; have := List.length_filter_le (inR lo mid) L; have := hL.1; omega
  have hqn : qn ≤ 100 := by have h := hq.1; have := List.length_filter_le (inR mid hi) L; have := hL.1; omega
  intro b0 H4 hn4
  have ho0 : Own encS 26 H3.size H4 (some ⟨b0, 0, none⟩) 0 0 [] := Own.made encS 26 hn4 (Nat.le_refl _)
  refine ap_own (E := encS) slice22 elem26 ho0 hn4.fr (hp3.keep hn4.fr).sl (by omega) fun oa on oc H5 ho hf5 _ => ?_
  have hon := ho.1
  have hpl := hp.1
  simp only [List.nil_append] at ho hon
  refine ap_own (E := encS) slice22 elem26 ho hf5 (hq.keep hf5).sl (by omega) fun oa on oc H6 ho hf6 _ => ?_
  have hL6 := hL3.keep hf6
  have hon2 := ho.1
  have hql := hq.1
  rw [List.length_append] at hon2
  refine In_ok hL6.sl (by omega) fun ba bn bc H7 hb hf7 => ?_
  refine Same_ok (ho.keep hf7).sl hb.sl (by omega) ?_
  rw [cut_parts h1 h2 hr, decide_eq_true rfl]
  refine brB_of (fun h => by cases h) (fun _ => ?_)
  refine Rises_ok (xs := []) Sl.zero (by omega) fun H8 hf8 => ?_
  refine brB_of (fun h => by simp [Ris] at h) (fun _ => ?_)
  have hL8 := (hL6.keep hf7).keep hf8
  refine Out_ok hL8.sl (by omega) fun ua un uc H9 hu hf9 => ?_
  have hL9 := hL8.keep hf9
  refine Out_ok hL9.sl (by omega) fun va vn vc H10 hv hf10 => ?_
  have hvn : vn ≤ 100 := by have h := hv.1; have := List.length_filter_le (fun x => !inR lo mid x) L; have := hL.1; omega
  have hun : un ≤ 100 := by have h := hu.1; have := List.length_filter_le (fun x => !inR lo hi x) L; have := hL.1; omega
  refine Out_ok hv.sl (by omega) fun wa wn wc H11 hw hf11 => ?_
  rw [out_parts h1 h2] at hw
  refine Same_ok ((hu.keep hf10).keep hf11).sl hw.sl (by omega) ?_
  rw [decide_eq_true rfl]
  refine brB_of (fun _ => ?_) (fun h => by cases h)
  have hf311 : Fr [] H3 H11 := ((((hf6.keep0 hf7).keep0 hf8).keep0 hf9).keep0 hf10).keep0 hf11
  refine rIn_ok (hL3.keep hf311).sl (by omega) fun ya yn yc H12 hy hf12 => ?_
  refine Same_ok ((hp3.keep hf311).keep hf12).sl hy.sl (by omega) ?_
  rw [decide_eq_true rfl]
  exact ⟨rfl, (((hf1.keep0 hf2).keep0 hf3).keep0 hf311).keep0 hf12⟩

theorem Merges_ok {aa ba : Option Addr} {an ac bn bc : Nat} {xs ys : List Smp} {f t : Int} {H : Heap} (ha : Sl encS H aa an ac xs) (hb : Sl encS H ba bn bc ys) :
    CallH Try.prog fn_law13_SeriesMerges ⟨[.slice aa an ac, .slice ba bn bc, vR f t]⟩ H fun v H' => v = .bool true ∧ Fr [] H H' := by
  apply vc_law13_SeriesMerges
  intro b0 H0 hn0
  refine brB_of (fun _ => ⟨rfl, hn0.fr⟩) (fun g1 => brB_of (fun _ => ⟨rfl, hn0.fr⟩) (fun g2 => ?_))
  simp only [decide_eq_false_iff_not, gt_iff_lt, Int.not_lt] at g1 g2
  have ha0 := ha.keep hn0.fr
  have hb0 := hb.keep hn0.fr
  refine rising_ok ha0 fun xa xn xc H1 X hX hrX hxn hf1 => rising_ok (hb0.keep hf1) fun ya yn yc H2 Y hY hrY hyn hf2 => ?_
  have hX2 := hX.keep hf2
  refine Merge_ok hX2.sl hY.sl (by omega) fun ma mn mc H3 hM hf3 => ?_
  have hf03 := ((hf1.keep0 hf2).keep0 hf3)
  have hmn : mn ≤ 200 := by have h := hM.1; have := len_mrg X Y; have := hX.1; have := hY.1; omega
  refine Rises_ok (ha0.keep hf03) (by omega) fun H4 hf4 => ?_
  refine rRises_ok (ha0.keep (hf03.keep0 hf4)) (by omega) ?_
  refine brB_of (fun h => by simp at h) (fun _ => ?_)
  have hf24 := hf3.keep0 hf4
  refine rMerge_ok (hX2.keep hf24).sl (hY.keep hf24).sl hrX hrY (by omega) fun na nn nc H5 hN hf5 => ?_
  have hf35 := hf4.keep0 hf5
  have hM5 := hM.keep hf35
  refine Same_ok hM5.sl hN.sl (by omega) ?_
  rw [decide_eq_true rfl]
  refine brB_of (fun h => by cases h) (fun _ => ?_)
  have hrM : Ris (mrg X Y) := ris_mrg X Y hrX hrY
  refine Rises_ok hM5.sl (by omega) fun H6 hf6 => ?_
  rw [decide_eq_true hrM]
  refine brB_of (fun h => by cases h) (fun _ => ?_)
  have hf06 : Fr [] H0 H6 := ((hf03.keep0 hf35).keep0 hf6)
  have hM6 := hM5.keep hf6
  have rd : ∀ {Hx : Heap}, Fr [] H6 Hx → Ld Try.prog 31 Hx ⟨b0, 0, none⟩ (vR f t) := fun hf => (hn0.blk.keep (hf06.keep0 hf)).ldAK (j := 0) (us := [.int .i64 f, .int .i64 t]) (by kernel_rfl) (by kernel_rfl) rfl
  refine ⟨_, _, rd (Fr.refl _ _), In_ok hM6.sl (by omega) fun pa pn pc H7 hP hf7 => ⟨_, _, rd hf7, ?_⟩⟩
  have hM7 := hM6.keep hf7
  refine Out_ok hM7.sl (by omega) fun qa qn qc H8 hQ hf8 => ⟨_, _, rd (hf7.keep0 hf8), ?_⟩
  have hM8 := hM7.keep hf8
  have hpn : pn ≤ 200 := by have h := hP.1; have := List.length_filter_le (inR f t) (mrg X Y); have := hM.1; omega
  have hqn : qn ≤ 200 := by have h := hQ.1; have := List.length_filter_le (fun x => !inR f t x) (mrg X Y); have := hM.1; omega
  refine rIn_ok hM8.sl (by omega) fun ra rn rc H9 hR hf9 => ?_
  have hP9 := (hP.keep hf8).keep hf9
  refine Same_ok hP9.sl hR.sl (by omega) ?_
  rw [decide_eq_true rfl]
  refine brB_of (fun _ => ?_) (fun h => by cases h)
  have hM9 := hM8.keep hf9
  refine ⟨_, _, rd ((hf7.keep0 hf8).keep0 hf9), rOut_ok hM9.sl (by omega) fun sa sn sc H10 hS hf10 => ?_⟩
  have hQ10 := (hQ.keep hf9).keep hf10
  refine Same_ok hQ10.sl hS.sl (by omega) ?_
  rw [decide_eq_true rfl]
  refine brB_of (fun _ => ?_) (fun h => by cases h)
  refine Merge_ok (hP9.keep hf10).sl hQ10.sl (by omega) fun ta tn tc H11 hT hf11 => ?_
  rw [filter_split (inR f t) hrM] at hT
  refine Same_ok hT.sl ((hM9.keep hf10).keep hf11).sl (by have := hT.1; have := hM.1; omega) ?_
  rw [decide_eq_true rfl]
  refine brB_of (fun _ => ⟨?_, ?_⟩) (fun h => by cases h)
  · rw [wrap64_of (by omega) (by omega)]
    have h1 := hP.1
    have h2 := hQ.1
    have h3 := hM.1
    have h4 := len_split (inR f t) (mrg X Y)
    have : ((pn : Int) + (qn : Int)) = mn := by omega
    simp [this]
  · exact hn0.fr.keep0 (((((hf06.keep0 hf7).keep0 hf8).keep0 hf9).keep0 hf10).keep0 hf11)

/-- One step through two lists that are merged. -/
theorem Wins_ok {aa ba : Option Addr} {an ac bn bc : Nat} {xs ys : List Smp} {H : Heap} (ha : Sl encS H aa an ac xs) (hb : Sl encS H ba bn bc ys) :
    CallH Try.prog fn_law13_SeriesWins ⟨[.slice aa an ac, .slice ba bn bc]⟩ H fun v H' => v = .bool true ∧ Fr [] H H' := by
  apply vc_law13_SeriesWins
  refine brB_of (fun _ => ⟨rfl, Fr.refl _ _⟩) (fun g1 => brB_of (fun _ => ⟨rfl, Fr.refl _ _⟩) (fun g2 => ?_))
  refine rising_ok ha fun xa xn xc H1 X hX hrX hxn hf1 => rising_ok (hb.keep hf1) fun ya yn yc H2 Y hY hrY hyn hf2 => ?_
  have hX2 := hX.keep hf2
  refine Merge_ok hX2.sl hY.sl (by omega) fun ma mn mc H3 hM hf3 => ?_
  have hf03 := ((hf1.keep0 hf2).keep0 hf3)
  have hlX := hX.1
  have hlY := hY.1
  have hlM := hM.1
  have hmn : mn ≤ 200 := by have := len_mrg X Y; omega
  have hX3 := (hX2.keep hf3).sl
  have hY3 := (hY.keep hf3).sl
  have hM3 := hM.sl
  refine ⟨fun vs H' => match vs with | [.int _ k, .int _ j, .int _ i] => ∃ (k' j' i' : Nat), k = k' ∧ j = j' ∧ i = i' ∧ k' ≤ xn ∧ j' ≤ yn ∧ i' ≤ mn ∧ (mrg X Y).drop i' = mrg (X.drop k') (Y.drop j') ∧ H' = H3 | _ => False,
    fun vs _ => match vs with | [_, _, .int _ i] => mn - i.toNat | _ => 0, ⟨0, 0, 0, rfl, rfl, rfl, by omega, by omega, by omega, rfl, rfl⟩, ?_⟩
  rintro J k j i H' ⟨k', j', i', rfl, rfl, rfl, hk, hj, hi, he, rfl⟩
  refine brB_of (fun h0 => ?_) (fun h0 => ?_)
  · have h0' : i' < mn := by simpa using h0
    have hm1 : (mrg X Y)[i']? = some ((mrg X Y)[i']'(by omega)) := by simp
    have hmd : (mrg X Y).drop i' = (mrg X Y)[i']'(by omega) :: (mrg X Y).drop (i' + 1) := List.drop_eq_getElem_cons (by omega)
    generalize (mrg X Y)[i']'(by omega) = z at hm1 hmd
    rw [hmd] at he
    -- what the two have there
    obtain ⟨fi, se, hfi, hse, hone, hz2, hz1, hrest⟩ : ∃ (fi se : Bool), (if h : k' < xn then fi = ((X[k']'(by omega)).1 == z.1) else fi = false) ∧ (if h : j' < yn then se = ((Y[j']'(by omega)).1 == z.1) else se = false) ∧
        (fi = true ∨ se = true) ∧ (se = true → Y[j']? = some z) ∧ (se = false → X[k']? = some z) ∧ (mrg X Y).drop (i' + 1) = mrg (X.drop (k' + fi.toNat)) (Y.drop (j' + se.toNat)) := by
      by_cases hk1 : k' < xn
      · have hx1 : X.drop k' = X[k']'(by omega) :: X.drop (k' + 1) := List.drop_eq_getElem_cons (by omega)
        have hx2 : X[k']? = some (X[k']'(by omega)) := by simp
        by_cases hj1 : j' < yn
        · have hy1 : Y.drop j' = Y[j']'(by omega) :: Y.drop (j' + 1) := List.drop_eq_getElem_cons (by omega)
          have hy2 : Y[j']? = some (Y[j']'(by omega)) := by simp
          refine ⟨_, _, by rw [dif_pos hk1], by rw [dif_pos hj1], ?_⟩
          rw [hx1, hy1] at he
          generalize X[k']'(by omega) = x at *
          generalize Y[j']'(by omega) = y at *
          rw [mrg_cons] at he
          split at he
          · rename_i hlt
            injection he with e1 e2
            subst e1
            have n1 : (y.1 == z.1) = false := by simp; omega
            rw [n1]
            simp only [beq_self_eq_true, Bool.toNat_true, Bool.toNat_false, Nat.add_zero]
            exact ⟨.inl trivial, fun h => by simp at h, fun _ => hx2, by rw [e2, hy1]⟩
          · split at he
            · rename_i hne heq
              injection he with e1 e2
              subst e1
              have n1 : (x.1 == z.1) = true := by simp [heq]
              rw [n1]
              simp only [beq_self_eq_true, Bool.toNat_true]
              exact ⟨.inl trivial, fun _ => hy2, fun h => by simp at h, by rw [e2]⟩
            · rename_i hne heq
              injection he with e1 e2
              subst e1
              have n1 : (x.1 == z.1) = false := by simp; omega
              rw [n1]
              simp only [beq_self_eq_true, Bool.toNat_true, Bool.toNat_false, Nat.add_zero]
              exact ⟨.inr trivial, fun _ => hy2, fun h => by simp at h, by rw [e2, hx1]⟩
        · have hyn : Y.drop j' = [] := List.drop_eq_nil_of_le (by omega)
          refine ⟨_, false, by rw [dif_pos hk1], by rw [dif_neg hj1], ?_⟩
          rw [hx1, hyn, mrg_nil'] at he
          injection he with e1 e2
          subst e1
          simp only [beq_self_eq_true, Bool.toNat_true, Bool.toNat_false, Nat.add_zero]
          exact ⟨.inl trivial, fun h => by simp at h, fun _ => hx2, by rw [hyn, mrg_nil', e2]⟩
      · have hxn : X.drop k' = [] := List.drop_eq_nil_of_le (by omega)
        rw [hxn, mrg_nil] at he
        by_cases hj1 : j' < yn
        · have hy1 : Y.drop j' = Y[j']'(by omega) :: Y.drop (j' + 1) := List.drop_eq_getElem_cons (by omega)
          have hy2 : Y[j']? = some (Y[j']'(by omega)) := by simp
          refine ⟨false, _, by rw [dif_neg hk1], by rw [dif_pos hj1], ?_⟩
          rw [hy1] at he
          injection he with e1 e2
          subst e1
          simp only [beq_self_eq_true, Bool.toNat_true, Bool.toNat_false, Nat.add_zero]
          exact ⟨.inr trivial, fun _ => hy2, fun h => by simp at h, by rw [hxn, mrg_nil, e2]⟩
        · have hyn0 : Y.drop j' = [] := List.drop_eq_nil_of_le (by omega)
          rw [hyn0] at he
          cases he
    refine ⟨fun vs H'' => vs = [.bool fi] ∧ H'' = H', ?_, ?_⟩
    · refine brB_of (fun h1 => ?_) (fun h1 => ⟨?_, rfl⟩)
      · have hk1 : k' < xn := by simpa using h1
        rw [dif_pos hk1] at hfi
        refine hX3.get rfl (show X[k']? = some (X[k']'(by omega)) by simp) (decide_eq_true (by omega)) fun ad ea hc => ⟨_, ldT hc, ?_⟩
        refine hM3.get rfl hm1 (decide_eq_true (by omega)) fun ad ea hc => ⟨_, ldT hc, by rw [hfi], rfl⟩
      · rw [dif_neg (by simpa using h1)] at hfi
        rw [hfi]
    rintro J1 b1 H'' ⟨hb1, rfl⟩
    have hb1' : b1 = fi := by simpa using hb1
    subst hb1'
    refine ⟨fun vs H'3 => vs = [.bool se] ∧ H'3 = H'', ?_, ?_⟩
    · refine brB_of (fun h1 => ?_) (fun h1 => ⟨?_, rfl⟩)
      · have hj1 : j' < yn := by simpa using h1
        rw [dif_pos hj1] at hse
        refine hY3.get rfl (show Y[j']? = some (Y[j']'(by omega)) by simp) (decide_eq_true (by omega)) fun ad ea hc => ⟨_, ldT hc, ?_⟩
        refine hM3.get rfl hm1 (decide_eq_true (by omega)) fun ad ea hc => ⟨_, ldT hc, by rw [hse], rfl⟩
      · rw [dif_neg (by simpa using h1)] at hse
        rw [hse]
    rintro J1 b2 H'3 ⟨hb1, rfl⟩
    have hb1' : b2 = se := by simpa using hb1
    subst hb1'
    have hkX : b1 = true → k' < xn := fun h => by
      by_cases hk1 : k' < xn
      · exact hk1
      · rw [dif_neg hk1] at hfi; rw [hfi] at h; cases h
    have hjY : b2 = true → j' < yn := fun h => by
      by_cases hk1 : j' < yn
      · exact hk1
      · rw [dif_neg hk1] at hse; rw [hse] at h; cases h
    have hk2 : b2 = false → k' < xn := fun h => by have := (List.getElem?_eq_some_iff.1 (hz1 h)).1; omega
    have eqz : (!(z.1 == z.1 && (z.2 == z.2 && true))) = false := by simp
    have hY2 : ∀ {Q : Addr → Prop}, b2 = true → (∀ ad, ya = some ad → CellsAt H'3 (ad.add ((j' : Int).toNat * encS.sz)) (encS.cells z) → Q ad) → exSome ya fun ad => chk (decide ((0 : Int) ≤ j' ∧ (j' : Int) < yn)) (Q ad) := fun h hK => hY3.get rfl (hz2 h) (decide_eq_true (by have := hjY h; omega)) hK
    have hX2' : ∀ {Q : Addr → Prop}, b2 = false → (∀ ad, xa = some ad → CellsAt H'3 (ad.add ((k' : Int).toNat * encS.sz)) (encS.cells z) → Q ad) → exSome xa fun ad => chk (decide ((0 : Int) ≤ k' ∧ (k' : Int) < xn)) (Q ad) := fun h hK => hX3.get rfl (hz1 h) (decide_eq_true (by have := hk2 h; omega)) hK
    refine ⟨fun _ H4 => H4 = H'3, ?_, ?_⟩
    · cases b2 with
      | true =>
        have both : exSome ma fun ad => chk (decide ((0 : Int) ≤ i' ∧ (i' : Int) < mn)) (∃ n_6 n_7, Ld Try.prog 26 H'3 (ad.add ((i' : Int).toNat * 2)) (.agg ⟨[.int .i64 n_6, .int .i64 n_7]⟩) ∧ exSome ya fun ad => chk (decide ((0 : Int) ≤ j' ∧ (j' : Int) < yn)) (∃ n_8 n_9, Ld Try.prog 26 H'3 (ad.add ((j' : Int).toNat * 2)) (.agg ⟨[.int .i64 n_8, .int .i64 n_9]⟩) ∧ (n_6 == n_8 && (n_7 == n_9 && true)) = true)) :=
          hM3.get rfl hm1 (decide_eq_true (by omega)) fun ad ea hc => ⟨_, _, ldS hc, hY2 rfl fun bd eb hd => ⟨_, _, ldS hd, by simp⟩⟩
        have go : exSome ma fun ad => chk (decide ((0 : Int) ≤ i' ∧ (i' : Int) < mn)) (∃ n_6 n_7, Ld Try.prog 26 H'3 (ad.add ((i' : Int).toNat * 2)) (.agg ⟨[.int .i64 n_6, .int .i64 n_7]⟩) ∧ exSome ya fun ad => chk (decide ((0 : Int) ≤ j' ∧ (j' : Int) < yn)) (∃ n_8 n_9, Ld Try.prog 26 H'3 (ad.add ((j' : Int).toNat * 2)) (.agg ⟨[.int .i64 n_8, .int .i64 n_9]⟩) ∧ brB (!(n_6 == n_8 && (n_7 == n_9 && true))) (Value.bool false = .bool true ∧ Fr [] H H'3) (H'3 = H'3))) :=
          hM3.get rfl hm1 (decide_eq_true (by omega)) fun ad ea hc => ⟨_, _, ldS hc, hY2 rfl fun bd eb hd => ⟨_, _, ldS hd, brB_of (fun h => by simp at h) (fun _ => rfl)⟩⟩
        cases b1 with
        | true => exact go
        | false => exact go
      | false =>
        have hb1t : b1 = true := by rcases hone with h | h; exact h; cases h
        subst hb1t
        have go : exSome ma fun ad => chk (decide ((0 : Int) ≤ i' ∧ (i' : Int) < mn)) (∃ n_6 n_7, Ld Try.prog 26 H'3 (ad.add ((i' : Int).toNat * 2)) (.agg ⟨[.int .i64 n_6, .int .i64 n_7]⟩) ∧ exSome xa fun ad => chk (decide ((0 : Int) ≤ k' ∧ (k' : Int) < xn)) (∃ n_8 n_9, Ld Try.prog 26 H'3 (ad.add ((k' : Int).toNat * 2)) (.agg ⟨[.int .i64 n_8, .int .i64 n_9]⟩) ∧ brB (!(n_6 == n_8 && (n_7 == n_9 && true))) (Value.bool false = .bool true ∧ Fr [] H H'3) (H'3 = H'3))) :=
          hM3.get rfl hm1 (decide_eq_true (by omega)) fun ad ea hc => ⟨_, _, ldS hc, hX2' rfl fun bd eb hd => ⟨_, _, ldS hd, brB_of (fun h => by simp at h) (fun _ => rfl)⟩⟩
        exact go
    · rintro J4 H4 rfl
      refine ⟨fun vs H5 => vs = [.int .i64 ((k' + b1.toNat : Nat) : Int)] ∧ H5 = H4, ?_, ?_⟩
      · refine brB_of (fun h => ⟨?_, rfl⟩) (fun h => ⟨?_, rfl⟩)
        · rw [succ64 (by omega), h]; rfl
        · rw [h]; rfl
      · rintro J5 k5 H5 ⟨hk5, rfl⟩
        have hk5' : k5 = ((k' + b1.toNat : Nat) : Int) := by simpa using hk5
        subst hk5'
        rw [succ64 (by omega), succ64 (by omega)]
        have hkb : k' + b1.toNat ≤ xn := by
          cases hb : b1 with
          | true => have := hkX hb; simp; omega
          | false => simpa using hk
        refine brB_of (fun h => ⟨⟨_, j' + 1, i' + 1, rfl, rfl, rfl, hkb, by have := hjY h; omega, by omega, ?_, rfl⟩, mu_lt h0'⟩) (fun h => ⟨⟨_, j', i' + 1, rfl, rfl, rfl, hkb, hj, by omega, ?_, rfl⟩, mu_lt h0'⟩)
        · rw [h] at hrest; exact hrest
        · rw [h] at hrest; exact hrest
  · have e1 : (mrg X Y).drop i' = [] := List.drop_eq_nil_of_le (by simp at h0; omega)
    rw [e1] at he
    have hend : k' = xn ∧ j' = yn := by
      have hX0 : X.drop k' = [] ∧ Y.drop j' = [] := by
        generalize X.drop k' = u at he
        generalize Y.drop j' = w at he
        cases u with
        | nil => rw [mrg_nil] at he; exact ⟨rfl, he.symm⟩
        | cons x u =>
          cases w with
          | nil => rw [mrg_nil'] at he; cases he
          | cons y w =>
            rw [mrg_cons] at he
            split at he
            · cases he
            · split at he <;> cases he
      have h1 := List.drop_eq_nil_iff.1 hX0.1
      have h2 := List.drop_eq_nil_iff.1 hX0.2
      omega
    obtain ⟨rfl, rfl⟩ := hend
    refine brB_of (fun _ => brB_of (fun _ => ?_) (fun h => by simp at h)) (fun h => by simp at h)
    refine Merge_ok hX3 hX3 (by omega) fun ta tn tc H4 hT hf4 => ?_
    rw [mrg_self] at hT
    refine Same_ok hT.sl (hX3.keep hf4) (by have := hT.1; omega) ?_
    rw [decide_eq_true rfl]
    refine brB_of (fun _ => ?_) (fun h => by cases h)
    refine Rises_ok (hM3.keep hf4) (by omega) fun H5 hf5 => ?_
    rw [decide_eq_true (ris_mrg X Y hrX hrY)]
    exact ⟨rfl, (hf03.keep0 hf4).keep0 hf5⟩
end Go.Proofs
