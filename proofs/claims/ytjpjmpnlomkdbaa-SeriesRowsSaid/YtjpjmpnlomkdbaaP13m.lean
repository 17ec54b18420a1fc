/- A part of a proof: see the last text of this claim. -/
import Derived.Test.YtjpjmpnlomkdbaaP13l
set_option linter.unusedVariables false
set_option maxRecDepth 100000
open Go Go.GV
namespace Go.Proofs

theorem var45 {H : Heap} {x : Rw} {zs : List Value} {K : Nat → Heap → Prop} (hz : zs.length = 3)
    (k : ∀ b H', H.size ≤ b → Blk H' ⟨b, 0, none⟩ (encRw.cells x) → Fr [] H H' → K b H') :
    ∀ b H', New H b (.cells ⟨zs⟩ 45) H' → ∃ H'_1, St Try.prog 45 H' ⟨b, 0, none⟩ (.agg ⟨encRw.cells x⟩) H'_1 ∧ K b H'_1 :=
  var_blk (by kernel_rfl) (by kernel_rfl) (fun v h => by simp [Value.cells, encRw] at h; rcases h with rfl | rfl | rfl <;> rfl) hz k
theorem nodup_le : ∀ {l m : List Int}, l.Nodup → (∀ x ∈ l, x ∈ m) → l.length ≤ m.length
  | [], m, _, _ => Nat.zero_le _
  | x :: l, m, h, hs => by
    have hd := List.nodup_cons.1 h
    have hx := hs x (by simp)
    have ih := nodup_le (m := m.erase x) hd.2 fun y hy => (List.mem_erase_of_ne (fun e => hd.1 (by subst e; exact hy))).2 (hs y (by simp [hy]))
    rw [List.length_erase_of_mem hx] at ih
    have := List.length_pos_of_mem hx
    simp; omega
theorem ofId_ne {rows : List Rw} {id : Int} (h : ofId rows id ≠ []) : id ∈ rows.map (·.2.1) := by
  obtain ⟨y, hy⟩ := List.exists_mem_of_ne_nil _ h
  unfold ofId at hy
  obtain ⟨x, hx, _⟩ := List.mem_map.1 hy
  have := List.mem_filter.1 hx
  exact List.mem_map.2 ⟨x, this.1, of_decide_eq_true this.2⟩
theorem Mor.len {H : Heap} {base r it ck : Nat} {L : List (Ent Int)} {rows : List Rw} {seen : Array Nat} {o : Option Addr} {l c : Nat} {ms : List Sr} {ss : List Srs} (h : Mor H base r it ck L (ofId rows) seen o l c ms ss) : ms.length ≤ rows.length := by
  have := nodup_le (m := rows.map (·.2.1)) h.nd fun x hx => by
    obtain ⟨m, hm, rfl⟩ := List.mem_map.1 hx
    obtain ⟨e, he, hk, _⟩ := (h.key m.1).1 ⟨m, hm, rfl⟩
    rw [← hk]; exact ofId_ne (h.ne e he)
  simpa using this
theorem Put_ok {H : Heap} {la : Option Addr} {ln lc : Nat} {hs : List Sr} {ss : List Srs} {ra : Option Addr} {rn rc : Nat} {rows : List Rw} {K : Option Addr → Nat → Nat → Heap → Prop} (hx : Sl encSr H la ln lc hs) (hS : SerH H hs ss) (hR : RightS ss) (hrw : Sl encRw H ra rn rc rows)
    (hln : ln ≤ 1000000) (hrn : rn ≤ 1000000) (hsl : ∀ s ∈ ss, s.2.length ≤ 1000000)
    (hk : ∀ a' n' c' H' hs', Own encSr 68 H.size H' a' n' c' hs' → SerH H' hs' (putR ss rows) → Fr [] H H' → K a' n' c' H') :
    CallH Try.prog fn_series_Put ⟨[.slice la ln lc, .slice ra rn rc]⟩ H fun v H' => ∃ a n c, v = .slice a n c ∧ K a n c H' := by
  apply vc_series_Put
  intro b H1 hn1
  have hbH := hn1.eq
  have hrl := hrw.len
  have hll := hx.len
  have hssl : ss.length = ln := by rw [hll]; exact hS.len.symm
  -- the rows are grouped
  refine ⟨fun vs H' => match vs with
      | [.int _ i] => ∃ (k ck : Nat) (L : List (Ent Int)), i = k ∧ k ≤ rn ∧ MapR MT H' b ck L ∧ Grp H' H.size b L (ofId (rows.take k)) ∧ (∀ id, (ofId (rows.take k) id).length ≤ k) ∧ Fr [] H H'
      | _ => False,
    fun vs _ => match vs with | [.int _ i] => rn - i.toNat | _ => 0, ⟨0, 0, [], rfl, by omega, MapR.new MT hn1, (Grp.start _ _ _).ext fun j => rfl, fun id => Nat.le_refl _, hn1.fr⟩, ?_⟩
  rintro J i H2 ⟨k, ck, L, rfl, hkn, hm, hG, hGl, hf⟩
  refine brB_of (fun h0 => ?_) (fun h0 => ?_)
  · have h0' : k < rn := by simpa using h0
    have hx1 : rows[k]? = some (rows[k]'(by omega)) := by simp
    generalize rows[k]'(by omega) = x at hx1
    refine (hrw.keep hf).get rfl hx1 (decide_eq_true (by omega)) fun ad ea hc => ⟨_, _, _, ldRw hc, ?_⟩
    refine var45 rfl fun b1 H3 hb1 hB hf3 => ?_
    have hm3 := hm.keep MT hf3
    have hG3 := hG.keep hf3
    have hf03 := hf.keep0 hf3
    have s03 := hf03.size
    have hbl : b < H3.size := hm3.lt
    -- what is there of this series
    obtain ⟨a, n, c, elk, ho2, hS1, hS0, hnl⟩ : ∃ a n c, (getL x.2.1 L).getD (.slice none 0 0) = .slice a n c ∧ Own encS 26 H.size H2 a n c (ofId (rows.take k) x.2.1) ∧ (∀ a' n' c', getL x.2.1 L = some (.slice a' n' c') → blkL a = blkL a') ∧ (getL x.2.1 L = none → blkL a = []) ∧ n ≤ k := by
      cases hl : getL x.2.1 L with
      | none => exact ⟨none, 0, 0, rfl, by rw [hG.no _ hl]; exact Own.nil _ _ _ _, (fun _ _ _ h => by cases h), fun _ => rfl, by omega⟩
      | some v =>
        obtain ⟨a, n, c, rfl, h2, _, _⟩ := hG.ent _ _ hl
        exact ⟨a, n, c, rfl, h2, (fun _ _ _ h => by cases h; rfl), (fun h => by cases h), by rw [h2.1]; exact hGl _⟩
    have ho := ho2.keep hf3
    have hlk : ∀ {H' : Heap}, Fr [] H3 H' → Rd Try.prog (Instr.lookup 63 (.map (some b)) (.int .i64 x.2.1) false) H' (.slice a n c) := fun hf' => by
      have := lookup_map MT M63 Z22 (hm3.keep MT hf') x.2.1
      rw [elk] at this; exact this
    refine ⟨_, hB.ldK (j := 1) (by kernel_rfl) rfl, _, hB.ldK (j := 1) (by kernel_rfl) rfl, a, n, c, hlk (Fr.refl _ _), _, hB.ld0 (by kernel_rfl) rfl, _, hB.ldK (j := 2) (by kernel_rfl) rfl, ?_⟩
    intro b2 H4 hn4
    have hB4 := hB.keep hn4.fr
    have s4 := hn4.size
    refine ⟨hlk hn4.fr, hB4.ldK (j := 1) (by kernel_rfl) rfl, hB4.ldK (j := 1) (by kernel_rfl) rfl, ?_⟩
    have ho4 := ho.keep hn4.fr
    refine ap_grow slice22 elem26 ho4 (sl_one encS ((x.1, x.2.2) : Smp) hn4 rfl) (by omega) (by omega) fun a' n' c' H5 ho5 hf5 hg5 => ?_
    have hbd : b ∉ blkL a := fun hk' => by
      cases hl : getL x.2.1 L with
      | none => rw [hS0 hl] at hk'; cases hk'
      | some v =>
        obtain ⟨a2, n2, c2, rfl, _, _, h4⟩ := hG3.ent _ _ hl
        rw [hS1 _ _ _ hl] at hk'; exact h4 hk'
    have hB5 : Blk H5 ⟨b1, 0, none⟩ (encRw.cells x) := hB4.fr hf5 fun hk' => by
      have := ho2.bIn _ hk'
      simp at this; omega
    refine ⟨hB5.ldK (j := 1) (by kernel_rfl) rfl, ?_⟩
    have hm5 := (hm3.keep MT hn4.fr).fr MT hf5 hbd
    refine put_map MT M63 hm5 x.2.1 fun H6 hm6 hf6 => ?_
    rw [succ64 (by omega)]
    have hG6 := (hG3.keep hn4.fr).put (ck := ck) hf5 (fun a'' n'' c'' hl => (hS1 a'' n'' c'' hl)) hS0 ho5 (by omega) hg5 hf6
    have etk : rows.take (k + 1) = rows.take k ++ [x] := by rw [List.take_add_one, hx1]; rfl
    refine ⟨⟨k + 1, _, _, rfl, by omega, hm6, hG6.ext fun j => ?_, fun id => ?_, ?_⟩, mu_lt h0'⟩
    · rw [etk, ofId_snoc]
      by_cases e : j = x.2.1
      · subst e; rw [if_pos rfl, if_pos rfl]
      · rw [if_neg e, if_neg (fun h => e h.symm)]; simp
    · rw [etk, ofId_snoc, List.length_append]
      have := hGl id
      split <;> simp <;> omega
    · refine ((hf03.keep0 hn4.fr).keep hf5 fun k hk' => (ho4.ge k hk').1).keep hf6 fun k hk' => ?_
      simp at hk'; omega
  have hkn' : k = rn := by simp at h0; omega
  subst hkn'
  rw [List.take_of_length_le (by omega)] at hG hGl
  refine range_map MT M63 hm fun it H3 hn3 => ?_
  have hM0 := Mor.start hG hm hn3
  have s3 := hn3.size
  have hf03 := hf.keep0 hn3.fr
  have hbs : H.size ≤ b := by omega
  have hits : H.size ≤ it := by have := hn3.eq; have := hf.size; omega
  refine ⟨fun vs H' => match vs with
      | [.slice o l c] => ∃ seen ms ss', Mor H' H.size b it ck L (ofId rows) seen o l c ms ss' ∧ Fr [] H H'
      | _ => False,
    fun _ H' => pendH H' b it, ⟨#[], [], [], hM0, hf03⟩, ?_⟩
  rintro J o l c H4 ⟨seen, ms, ss', hM, hf4⟩
  refine next_map MT hM.map hM.itr (fun hall => ?_) fun e he hns H5 hi5 hf5 => ?_
  · have hml : l ≤ 1000000 := by have := hM.mo.1; have := hM.len; omega
    have hol := hM.mo.1
    refine SortSr_ok hM.mo (by omega) fun H5 ys ho5 hp hpw hf5 => ?_
    obtain ⟨ss1, hp1, hA⟩ := All2.perm hp hM.msr
    have hf05 : Fr [] H H5 := hf4.keep hf5 fun k hk => (hM.mo.ge k hk).1
    have hyl := ho5.1
    have hyd : ∀ m ∈ ys, Dj (blkL o) (blkL m.2.1) ∧ ∃ e ∈ L, e.1 = m.1 := fun m hm => by
      obtain ⟨e, he, hk', hs'⟩ := (hM.key m.1).1 ⟨m, hp.mem_iff.1 hm, rfl⟩
      obtain ⟨s, _, _, g2, _⟩ := hA.mem hm
      rw [g2, ← hk']
      exact ⟨hM.od e he, e, he, rfl⟩
    have hS5 : SerH H5 ys ss1 := hA.mono fun m s hm hs hr => ⟨hr.1, sl_fr hr.2.2.1.sl hf5 (hyd m hm).1.symm⟩
    have hFin : ∀ s ∈ ss1, FinP (ofId rows s.1) s.2 := fun s hs => by
      obtain ⟨m, _, g1, _, _, g4⟩ := hA.mem' hs
      rw [← g1]; exact g4
    have hypw : ys.Pairwise fun a b => a.1 < b.1 := by
      have hnd : (ys.map (·.1)).Nodup := (hp.map _).nodup_iff.2 hM.nd
      refine (hpw.and (List.pairwise_map.1 hnd)).imp fun {x y} h => ?_
      have h1 : ¬ y.1 < x.1 := fun hh => h.1 (cmpI_neg.2 hh)
      have h2 := h.2
      omega
    have hpw1 : ss1.Pairwise fun a b => a.1 < b.1 := by
      have : ∀ {ys : List Sr} {ss1 : List Srs}, SerH H5 ys ss1 → ys.Pairwise (fun a b => a.1 < b.1) → ss1.Pairwise fun a b => a.1 < b.1 := by
        intro ys ss1 h
        induction h with
        | nil => intro _; exact List.Pairwise.nil
        | cons h1 h2 ih =>
          intro hh
          have hh' := List.pairwise_cons.1 hh
          refine List.pairwise_cons.2 ⟨fun s hs => ?_, ih hh'.2⟩
          obtain ⟨x, hx, e⟩ := All2.mem' h2 hs
          rw [← h1.1, ← e.1]; exact hh'.1 x hx
      exact this hS5 hypw
    have hs1l : ss1.length = l := by rw [hyl, hS5.len]
    have hs1n : ∀ s ∈ ss1, s.2.length ≤ 1000000 := fun s hs => by
      obtain ⟨ys', _, h2, h3⟩ := hFin s hs
      have h4 := dd_len none ys'
      have h5 := h2.length
      have h6 := hGl s.1
      rw [h3]; unfold dd
      rw [List.length_reverse] at h5; omega
    have hRm : RightS (ss1.map (updS ss)) := by
      refine ⟨List.pairwise_map.2 (hpw1.imp fun h => h), fun s hs => ?_⟩
      obtain ⟨s0, hs0, rfl⟩ := List.mem_map.1 hs
      have hF := hFin s0 hs0
      obtain ⟨m, hm, g1, _⟩ := hA.mem' hs0
      obtain ⟨e, he, hk'⟩ := (hyd m hm).2
      have hne : s0.2 ≠ [] := hF.ne (by rw [← g1, ← hk']; exact hM.ne e he)
      exact ⟨mrg_ne hne (atS_ris hR _) hF.ris, ris_mrg _ _ (atS_ris hR _) hF.ris⟩
    have hput : mrgC cfP ss (ss1.map (updS ss)) = putR ss rows := by
      refine put_eq hR hRm (fun id => ⟨?_, fun hne => ?_⟩) fun s hs t => ?_
      · rintro ⟨s, hs, rfl⟩
        obtain ⟨s0, hs0, rfl⟩ := List.mem_map.1 hs
        obtain ⟨m, hm, g1, _⟩ := hA.mem' hs0
        obtain ⟨e, he, hk'⟩ := (hyd m hm).2
        show ofId rows s0.1 ≠ []
        rw [← g1, ← hk']; exact hM.ne e he
      · cases hl : getL id L with
        | none => exact absurd (hG.no id hl) hne
        | some v =>
          obtain ⟨bb, hb⟩ := mem_getL hl
          obtain ⟨m, hm, hk'⟩ := (hM.key id).2 ⟨_, hb, rfl, hall _ hb⟩
          obtain ⟨s, hs, g1, _⟩ := hA.mem (hp.mem_iff.2 hm)
          exact ⟨_, List.mem_map.2 ⟨s, hs, rfl⟩, by show s.1 = id; rw [← g1, hk']⟩
      · obtain ⟨s0, hs0, rfl⟩ := List.mem_map.1 hs
        have hF := hFin s0 hs0
        show valL (mrg (atS ss s0.1) s0.2) t = _
        rw [valL_mrg _ _ _ (atS_ris hR _) hF.ris, hF.val, atS_val]
        rfl
    have hpll := putR_len (rows := rows) hsl
    -- each group is merged with what was there
    refine ⟨fun vs H' => match vs with
        | [.int _ i] => ∃ (k : Nat) (ws : List Sr), i = k ∧ k ≤ l ∧ Own encSr 68 H.size H' o l c ws ∧ SerH H' ws ((ss1.take k).map (updS ss) ++ ss1.drop k) ∧ (∀ m ∈ ws, Dj (blkL o) (blkL m.2.1)) ∧ Fr [] H H'
        | _ => False,
      fun vs _ => match vs with | [.int _ i] => l - i.toNat | _ => 0, ⟨0, ys, rfl, by omega, ho5, hS5, fun m hm => (hyd m hm).1, hf05⟩, ?_⟩
    rintro J i H6 ⟨k, ws, rfl, hkl, ho6, hS6, hd6, hf6⟩
    have hwl := ho6.1
    refine brB_of (fun h1 => ?_) (fun h1 => ?_)
    · have h1' : k < l := by simpa using h1
      have hs0 : ss1[k]? = some (ss1[k]'(by omega)) := by simp
      generalize ss1[k]'(by omega) = s at hs0
      have hsm := List.mem_of_getElem? hs0
      obtain ⟨u1, u2⟩ := take_upd (f := updS ss) hs0
      obtain ⟨x, hx0, hxr⟩ := All2.get' hS6 u1
      have hxm := List.mem_of_getElem? hx0
      refine ho6.sl.get rfl hx0 (decide_eq_true (by omega)) fun ad ea hc => ⟨_, _, _, _, ldSr hc, ?_⟩
      refine Search_ok byS (t := x) (hx.keep hf6) (by omega) (hS.pw hR.1) (fun kk y H7 hy hyx hf7 => ?_) (fun hno mm H7 hf7 => ?_)
      · refine brB_of (fun _ => ?_) (fun h => by cases h)
        have hf07 := hf6.keep0 hf7
        obtain ⟨t, ht, htr⟩ := (hS.keep hf07).get hy
        have hkl2 := (List.getElem?_eq_some_iff.1 hy).1
        have htm := hsl t (List.mem_of_getElem? ht)
        have hsn := hs1n s hsm
        have e1 := htr.2.len
        have e2 := hxr.2.len
        refine (hx.keep hf07).get rfl hy (decide_eq_true (by omega)) fun ad ea hc => ⟨_, _, _, ldSr1 hc, ?_⟩
        have ho7 := ho6.keep hf7
        refine ho7.sl.get rfl hx0 (decide_eq_true (by omega)) fun ad ea hc => ⟨_, _, _, ldSr1 hc, ?_⟩
        refine Merge_ok htr.2 (hxr.2.keep hf7) (by omega) fun a' n' c' H8 ho8 hf8 => ?_
        obtain ⟨ad, ea⟩ : ∃ ad, o = some ad := by
          cases o with
          | none =>
            obtain ⟨_, ⟨_, h0, _⟩ | ⟨_, _, e, _⟩⟩ := ho6
            · omega
            · cases e
          | some ad => exact ⟨ad, rfl⟩
        refine exSome_of ea (chk_true (decide_eq_true (by omega)) ?_)
        refine own_st (x' := ((x.1, (a', n', c')) : Sr)) (j := 1) (ho7.keep hf8) ea rfl hx0 (by kernel_rfl) (by kernel_rfl) (by simp [Value.cells, Value.oneCell']) (Nat.le_refl 2) rfl fun H9 ho9 hf9 => ?_
        have hS8 := (hS6.keep hf7).keep hf8
        have hne : ∀ m ∈ ws, ∀ q, Sl encS H8 m.2.1 m.2.2.1 m.2.2.2 q → Sl encS H9 m.2.1 m.2.2.1 m.2.2.2 q := fun m hm q hq => sl_fr hq hf9 (hd6 m hm).symm
        have hda : Dj (blkL o) (blkL a') := fun k hk hk' => by
          have h2 := (ho8.ge k hk').1
          have h3 := ho7.bIn k hk
          omega
        rw [succ64 (by omega)]
        refine ⟨⟨k + 1, _, rfl, by omega, ho9, ?_, fun m hm => ?_, ?_⟩, mu_lt h1'⟩
        · rw [← u2]
          refine All2.set (hS8.mono fun m s' hm _ hr => ⟨hr.1, hne m hm _ hr.2⟩) ⟨hxr.1, ?_⟩
          have e3 : atS ss s.1 = t.2 := by rw [← hxr.1, ← hyx, htr.1]; exact atS_get hR.1 ht
          show Sl encS H9 a' n' c' (mrg (atS ss s.1) s.2)
          rw [e3]
          exact sl_fr ho8.sl hf9 hda.symm
        · rcases List.mem_or_eq_of_mem_set hm with hm | rfl
          · exact hd6 m hm
          · exact hda
        · exact (hf07.keep0 hf8).keep hf9 fun k hk => (ho6.ge k hk).1
      · refine brB_of (fun h => by cases h) (fun _ => ?_)
        rw [succ64 (by omega)]
        refine ⟨⟨k + 1, ws, rfl, by omega, ho6.keep hf7, ?_, hd6, hf6.keep0 hf7⟩, mu_lt h1'⟩
        have e3 : updS ss s = s := by
          unfold updS
          rw [atS_none fun s' hs' e => ?_, mrg_nil]
          obtain ⟨y, hy, e4⟩ := All2.mem' hS hs'
          exact hno y hy (by rw [e4.1, e, hxr.1])
        rw [← u2, e3]
        have : ((ss1.take k).map (updS ss) ++ ss1.drop k).set k s = (ss1.take k).map (updS ss) ++ ss1.drop k := by
          obtain ⟨hk2, e5⟩ := List.getElem?_eq_some_iff.1 u1
          rw [← e5, List.set_getElem_self]
        rw [this]; exact hS6.keep hf7
    · have hkl' : k = l := by simp at h1; omega
      subst hkl'
      rw [List.take_of_length_le (by omega), List.drop_of_length_le (by omega), List.append_nil] at hS6
      refine mergeS_ok byS (hx.keep hf6) ho6.sl (by omega) fun a7 n7 c7 H7 ho7 hf7 => ?_
      have hS7 : SerH H7 (mrgC cfSr hs ws) (putR ss rows) := by rw [← hput]; exact ((hS.keep hf6).merge hS6).keep hf7
      have hRp := (right_putR (rows := rows) hR).1
      have hf07 := hf6.keep0 hf7
      have s67 := hf6.size
      have hn7 : n7 = (putR ss rows).length := by rw [ho7.1]; exact hS7.len
      have live : ∀ {m : Sr} {H' : Heap}, m ∈ mrgC cfSr hs ws → Dj (blkL a7) (blkL m.2.1) := fun {m H'} hm k hk hk' => by
        have h2 := (ho7.ge k hk).1
        have hS6' := ((hS.keep hf6).merge hS6)
        rw [hput] at hS6'
        obtain ⟨s, hs', hr⟩ := All2.mem hS6' hm
        have := sl_lt hr.2 (hRp.2 s hs').1 k hk'
        omega
      refine ⟨fun vs H' => match vs with
          | [.int _ i] => ∃ (k : Nat) (ws' : List Sr), i = k ∧ k ≤ n7 ∧ Own encSr 68 H6.size H' a7 n7 c7 ws' ∧ SerH H' ws' (putR ss rows) ∧ (∀ m ∈ ws', Dj (blkL a7) (blkL m.2.1)) ∧ Fr [] H6 H'
          | _ => False,
        fun vs _ => match vs with | [.int _ i] => n7 - i.toNat | _ => 0, ⟨0, _, rfl, by omega, ho7, hS7, fun m hm => live (H' := H7) hm, hf7⟩, ?_⟩
      rintro J i H8 ⟨k, ws', rfl, hk7, ho8, hS8, hd8, hf8⟩
      have hwl' := ho8.1
      refine brB_of (fun h2 => ?_) (fun h2 => ⟨_, _, _, rfl, hk a7 n7 c7 H8 ws' (ho8.base s67) hS8 (hf6.keep0 hf8)⟩)
      have h2' : k < n7 := by simpa using h2
      have hs0 : (putR ss rows)[k]? = some ((putR ss rows)[k]'(by omega)) := by simp
      generalize (putR ss rows)[k]'(by omega) = s at hs0
      obtain ⟨x, hx0, hxr⟩ := All2.get' hS8 hs0
      have hsn := hpll.2 s (List.mem_of_getElem? hs0)
      have e2 := hxr.2.len
      refine ho8.sl.get rfl hx0 (decide_eq_true (by omega)) fun ad ea hc => ⟨_, _, _, ldSr1 hc, ?_⟩
      refine Clone_ok hxr.2 (by omega) fun a' n' c' H9 ho9 hf9 => ?_
      obtain ⟨ad, ea⟩ : ∃ ad, a7 = some ad := by
        cases a7 with
        | none =>
          obtain ⟨_, ⟨_, h0, _⟩ | ⟨_, _, e, _⟩⟩ := ho8
          · omega
          · cases e
        | some ad => exact ⟨ad, rfl⟩
      refine exSome_of ea (chk_true (decide_eq_true (by omega)) ?_)
      refine own_st (x' := ((x.1, (a', n', c')) : Sr)) (j := 1) (ho8.keep hf9) ea rfl hx0 (by kernel_rfl) (by kernel_rfl) (by simp [Value.cells, Value.oneCell']) (Nat.le_refl 2) rfl fun H10 ho10 hf10 => ?_
      have hda : Dj (blkL a7) (blkL a') := fun k hk hk' => by
        have h3 := (ho9.ge k hk').1
        have h4 := ho8.bIn k hk
        omega
      rw [succ64 (by omega)]
      refine ⟨⟨k + 1, _, rfl, by omega, ho10, ?_, fun m hm => ?_, ?_⟩, mu_lt h2'⟩
      · have es : (putR ss rows).set k s = putR ss rows := by
          obtain ⟨hk2, e5⟩ := List.getElem?_eq_some_iff.1 hs0
          rw [← e5, List.set_getElem_self]
        rw [← es]
        refine All2.set ((hS8.keep hf9).mono fun m s' hm _ hr => ⟨hr.1, sl_fr hr.2 hf10 (hd8 m hm).symm⟩) ⟨hxr.1, ?_⟩
        exact sl_fr ho9.sl hf10 hda.symm
      · rcases List.mem_or_eq_of_mem_set hm with hm | rfl
        · exact hd8 m hm
        · exact hda
      · exact (hf8.keep0 hf9).keep hf10 fun k hk => (ho8.ge k hk).1
  · obtain ⟨n, c', e1, ho⟩ := hM.un e he hns
    have hm5 := hM.map.fr MT hf5 (by simp; exact hM.ro.2.2)
    have ho5 := own_fr ho hf5 (fun k hk hk' => by simp at hk'; subst hk'; exact (hM.ra e he).2 hk)
    have hnn : n ≤ 1000000 := by have := ho.1; have := hGl e.1; omega
    refine entry_map MT hm5 hi5 he rfl ⟨_, rfl, _, _, _, e1, ?_⟩
    refine Reverse_ok ho5 (by omega) fun H6 ho6 hf6 => ?_
    refine SortStable_ok byT ho6 (by omega) fun H7 ys ho7 hs7 hst7 hf7 => ?_
    refine Compact_ok tells_eq ho7 (by omega) fun n' H8 ho8 hn8 hf8 => ?_
    have hF : FinP (ofId rows e.1) (dd ys) := ⟨ys, hs7, hst7, rfl⟩
    have hf58 : Fr (blkL (adL L e.1)) H5 H8 := (hf6.trans' hf7 (fun _ h _ => h) (fun _ h _ => h)).trans' hf8 (fun _ h _ => h) (fun _ h _ => h)
    intro b9 H9 hn9
    have s45 := hf5.size
    have s58 := hf58.size
    have s9 := hn9.size
    have s04 := hf4.size
    have itlt : it < H4.size := lt_of_get hM.itr
    have mo9 : Own encSr 68 H.size H9 o l c ms := by
      refine (own_fr (own_fr hM.mo hf5 fun k hk hk' => ?_) hf58 (hM.od e he)).keep hn9.fr
      simp at hk'; subst hk'; exact hM.ro.2.1 hk
    have hml : l ≤ 1000000 := by have := hM.mo.1; have := hM.len; omega
    refine ap_grow slice37 elem68 mo9 (sl_one encSr ((e.1, (adL L e.1, n', c')) : Sr) hn9 rfl) (by omega) (by omega) fun o' l' d' H10 ho10 hf10 hg10 => ?_
    have hM' := hM.step he hns hi5 hf5 hf58 ho8 hF hn9.fr ho10 hf10 hg10
    refine ⟨⟨_, _, _, hM', ?_⟩, ?_⟩
    · refine (((hf4.keep hf5 fun k hk => by simp at hk; omega).keep hf58 fun k hk => (ho5.ge k hk).1).keep0 hn9.fr).keep hf10 fun k hk => (mo9.ge k hk).1
    · show pendH H10 b it < pendH H4 b it
      rw [pendH_eq MT hM'.map hM'.itr, pendH_eq MT hM.map hM.itr]
      exact pendB_push (List.mem_map_of_mem (f := fun x : Ent Int => x.2.2) he) hns
end Go.Proofs
