/- A part of a proof: see the last text of this claim. -/
import Derived.Test.YtddfciphdbdemaaP07j
set_option linter.unusedVariables false
set_option maxRecDepth 100000
open Go Go.GV
namespace Go.Proofs

/-! a range over no map -/
theorem range_nil {P : Program} {mt kt e : TypeId} {H : Heap} {K : Option Addr → Heap → Prop} (hm : P.underlying mt = some (.map kt e))
    (hk : ∀ b H', New H b (.mapIter none 0 #[] 0) H' → K (some ⟨b, 0, none⟩) H') : SemWp P (Instr.range mt (.map none)) H fun v H' => ∃ a, v = .pointer a ∧ K a H' := by
  intro E d
  refine ⟨_, H.push (.mapIter none 0 #[] 0), d, ?_, _, rfl, hk H.size _ ⟨rfl, rfl⟩⟩
  simp [Instr.range, run_underlying' hm]
  exact ⟨rfl, rfl⟩
theorem next_nil {P : Program} {it : Nat} {ty : TypeId} {H : Heap} {X : Value → Heap → Prop} (hi : H[it]? = some (.mapIter none 0 #[] 0)) (hk : X (.tuple ⟨[.bool false]⟩) H) :
    SemWp P (Instr.next (.pointer (some ⟨it, 0, none⟩)) false ty) H X := by
  intro E d
  have hr : (mkW E H d).heap[it]? = some (.mapIter none 0 #[] 0) := hi
  refine ⟨_, H, d, ?_, hk⟩
  simp [Instr.next, getObj, Sem.run, hr]

theorem nodup_len {α : Type} [DecidableEq α] : ∀ {l m : List α}, l.Nodup → (∀ x ∈ l, x ∈ m) → l.length ≤ m.length
  | [], _, _, _ => Nat.zero_le _
  | a :: l, m, hn, h => by
    have hn' := List.nodup_cons.1 hn
    have ha := h a (by simp)
    have h2 := nodup_len (l := l) (m := m.erase a) hn'.2 fun x hx => by
      rw [List.mem_erase_of_ne (fun e => hn'.1 (by rw [← e]; exact hx))]
      exact h x (by simp [hx])
    rw [List.length_erase_of_mem ha] at h2
    have := List.length_pos_of_mem ha
    simp only [List.length_cons]
    omega
theorem idsL_len (L : List Lbls) (nm v : ByteArray) : (idsL L nm v).length ≤ L.length := by
  unfold idsL
  rw [List.length_map]
  exact Nat.le_trans (List.length_filter_le _ _) (by simp)

/-! wishes -/
def WishS (H0 : Heap) (W : ByteArray → Bool) (wish : Value) : Prop := ∀ (s : ByteArray) (H : Heap) (K : Bool → Heap → Prop), Fr [] H0 H → (∀ H', Fr [] H H' → K (W s) H') → CallV Try.prog wish [.string s] H fun v H' => ∃ r, v = .bool r ∧ K r H'
theorem wishAny (H : Heap) : WishS H (fun _ => true) (.func (.func 77) ⟨[]⟩ ⟨[]⟩) := fun s H K hf hk => ⟨77, ⟨[]⟩, ⟨[]⟩, rfl, by kernel_rfl, by
  apply vc_index_Index_of_2
  exact ⟨_, rfl, hk H (Fr.refl _ _)⟩⟩
theorem wishOne {H0 : Heap} {x : Mat} {m : Mch} {b : Nat} (hm : MatH H0 x m) (hb : MatB H0 b x) : WishS H0 (oneV m) (.func (.func 72) ⟨[]⟩ ⟨[.pointer (some ⟨b, 0, none⟩)]⟩) := fun s H K hf hk => ⟨72, ⟨[]⟩, ⟨[.pointer (some ⟨b, 0, none⟩)]⟩, rfl, by kernel_rfl, by
  apply vc_index_Index_of_1
  have hb1 := hb.keep hf
  refine ⟨_, _, _, _, _, _, hb1.lA, _, hb1.l1, ?_⟩
  intro b2 H2 hn2
  have hs : Sl encL H2 (some ⟨b2, 0, none⟩) 1 1 [((x.2.1, s) : Lbl)] := sl_one encL (x.2.1, s) hn2 rfl
  refine One_ok ((hm.keep hf).keep hn2.fr) hs (by omega) fun H3 hf3 => ⟨_, rfl, ?_⟩
  have e : getV [((x.2.1, s) : Lbl)] m.2.1 = s := by rw [hm.name]; simp [getV]
  rw [e]
  exact hk H3 (hn2.fr.keep0 hf3)⟩

theorem elem40 : elemB Try.prog 40 1 24 = true := by kernel_rfl
theorem slice128 : sliceB Try.prog 128 40 = true := by kernel_rfl
theorem every_ok {H : Heap} {xb : Nat} {U : List Nat} {L : List Lbls} {K : Option Addr → Nat → Nat → Heap → Prop} (h : IdxH H xb U L)
    (hk : ∀ a' n' c' H', Own encInt 3 H.size H' a' n' c' ((List.range L.length).map fun k : Nat => (k : Int)) → Fr [] H H' → K a' n' c' H') :
    CallH Try.prog fn_index_Index_every ⟨[.pointer (some ⟨xb, 0, none⟩)]⟩ H fun v H' => ∃ a n c, v = .slice a n c ∧ K a n c H' := by
  apply vc_index_Index_every
  obtain ⟨hw, a0, n0, c0, hs, rk, rh, mF, vF, hp, hnv⟩ := h
  have e : n0 = L.length := by rw [hp.all.1, hp.lls.1]
  have hlen := hw.len
  refine ⟨_, _, _, (lookKey hp).ld0 (by kernel_rfl) rfl, ?_⟩
  refine ⟨fun vs H' => match vs with | [.slice a n c, .int _ i] => ∃ k : Nat, i = k ∧ k ≤ n0 ∧ Own encInt 3 H.size H' a n c ((List.range k).map fun k : Nat => (k : Int)) ∧ Fr [] H H' | _ => False,
    fun vs _ => match vs with | [_, .int _ i] => n0 - i.toNat | _ => 0, ⟨0, rfl, by omega, Own.nil _ _ _ _, Fr.refl _ _⟩, ?_⟩
  rintro J a n c i H2 ⟨k, rfl, hle, ho, hf⟩
  refine brB_of (fun h0 => ?_) (fun h0 => ⟨_, _, _, rfl, ?_⟩)
  · have h0' : k < n0 := by simpa using h0
    have hol := ho.1
    simp at hol
    refine ap_one (E := encInt) (k : Int) slice40 elem3 ho hf rfl (by omega) fun _ o2 p2 q2 H4 hw2 hf2 _ => ?_
    rw [succ64 (by omega)]
    refine ⟨⟨k + 1, rfl, by omega, ?_, hf2⟩, mu_lt h0'⟩
    rw [List.range_succ, List.map_append]; exact hw2
  · have hkn : k = n0 := by simp at h0; omega
    subst hkn
    rw [e] at ho
    exact hk _ _ _ _ ho hf

theorem some_ok {H : Heap} {xb : Nat} {U : List Nat} {L : List Lbls} {nm : ByteArray} {W : ByteArray → Bool} {wish : Value} {K : Option Addr → Nat → Nat → Heap → Prop} (h : IdxH H xb U L) (hW : WishS H W wish)
    (hk : ∀ a' n' c' H' os, Own encInt 3 H.size H' a' n' c' os → SetL os (fun z => ∃ v, W v = true ∧ z ∈ idsL L nm v) → n' ≤ 100000 → Fr [] H H' → K a' n' c' H') :
    CallH Try.prog fn_index_Index_some ⟨[.pointer (some ⟨xb, 0, none⟩), .string nm, wish]⟩ H fun v H' => ∃ a n c, v = .slice a n c ∧ K a n c H' := by
  apply vc_index_Index_some
  obtain ⟨hw, a0, n0, c0, hs, rk, rh, mF, vF, hp, hnv⟩ := h
  have hlen := hw.len
  refine ⟨_, (lookKey hp).ld (by kernel_rfl) (j := 2) rfl, (mF nm), hp.has.top.look u70 z76 _ (by cases mF nm <;> rfl), ?_⟩
  -- what the lists come to
  have fin : ∀ {a : Option Addr} {n c : Nat} {H1 : Heap} {hs : List Hd} {vs : List ByteArray}, Own encH 40 H.size H1 a n c hs → LIs H hs (vs.map (idsL L nm)) → vs.length ≤ 200 → (∀ v ∈ vs, W v = true) → (∀ v, W v = true → idsL L nm v ≠ [] → v ∈ vs) → Fr [] H H1 →
      CallH Try.prog 94 ⟨[.slice a n c]⟩ H1 fun v H' => ∃ a n c, v = .slice a n c ∧ ∃ a_1 n_1 c_1, Value.slice a n c = .slice a_1 n_1 c_1 ∧ K a_1 n_1 c_1 H' := by
    intro a n c H1 hs vs ho hl hv hvW hall hf
    have htot : (vs.map (idsL L nm)).flatten.length ≤ 200 * vs.length := by
      clear hl hvW hall hv
      induction vs with
      | nil => simp
      | cons v vs ih =>
        have := idsL_len L nm v
        simp only [List.map_cons, List.flatten_cons, List.length_append, List.length_cons]
        omega
    have hn : n = vs.length := by rw [ho.1, hl.len, List.length_map]
    refine Union_ok n (Nat.le_refl _) ho.sl (hl.keep hf) (by omega) (by omega) fun a' n' c' H' os h1 h2 h3 h4 => ⟨_, _, _, rfl, hk a' n' c' H' os (h1.base hf.size) (h2.iff fun z => ?_) (by omega) (hf.keep0 h4)⟩
    refine ⟨fun ⟨l, hl', hz⟩ => ?_, fun ⟨v, hv, hz⟩ => ⟨_, List.mem_map.2 ⟨v, hall v hv (fun e => by rw [e] at hz; cases hz), rfl⟩, hz⟩⟩
    obtain ⟨v, hv, rfl⟩ := List.mem_map.1 hl'
    exact ⟨v, hvW v hv, hz⟩
  cases hmF : mF nm with
  | none =>
    refine range_nil u76 fun b H1 hn1 => ?_
    have hno : ∀ v, idsL L nm v = [] := fun v => hp.has.no nm v (by
      cases hv : vF nm v with
      | none => rfl
      | some x => exact absurd hmF (hp.has.out nm v x hv))
    refine ⟨fun vs H' => vs = [.slice none 0 0] ∧ H' = H1, fun _ _ => 0, ⟨rfl, rfl⟩, ?_⟩
    rintro J a n c H2 ⟨e, rfl⟩
    simp only [List.cons.injEq, Value.slice.injEq, and_true] at e
    obtain ⟨rfl, rfl, rfl⟩ := e
    refine next_nil hn1.get (.inl ⟨rfl, fin (hs := []) (vs := []) (Own.nil _ _ _ _) ⟨rfl, fun i h l e => by simp at e, by simp⟩ (by simp) (by simp) (fun v _ h => absurd (hno v) h) hn1.fr⟩)
  | some r =>
  obtain ⟨ck, L', hmap, hget⟩ := hp.has.inner nm r hmF
  -- so many values
  have hkeys : ∀ v, v ∈ L'.map (·.1) → v ∈ L.map fun l => getV l nm := fun v hv => by
    have hg : getL v L' ≠ none := fun e => getL_none_iff.1 e hv
    rw [hget v] at hg
    dsimp only at hg
    cases hvF : vF nm v with
    | none => rw [hvF] at hg; exact absurd rfl hg
    | some x =>
      have h2 := (hp.has.own nm v x hvF).2
      obtain ⟨z, hz⟩ := List.exists_mem_of_ne_nil _ h2
      obtain ⟨k, l, e, hk1, hm⟩ := ((idsL_set L nm v).2 z).1 hz
      exact List.mem_map.2 ⟨l, List.mem_of_getElem? hk1, getV_hit (hw.chk l (List.mem_of_getElem? hk1)) hm⟩
  have hL' : L'.length ≤ 200 := by
    have := nodup_len hmap.wf.keys hkeys
    simp at this
    omega
  refine range_map TS u76 hmap fun it H1 hn1 => ?_
  have hit : H.size ≤ it := by have := hn1.eq; omega
  refine ⟨fun vs H' => match vs with
      | [.slice a n c] => ∃ (seen : Array Nat) (hs : List Hd) (vs : List ByteArray), H'[it]? = some (.mapIter (some r) ck seen ck) ∧ Own encH 40 H.size H' a n c hs ∧ it ∉ blkL a ∧ LIs H hs (vs.map (idsL L nm)) ∧ vs.Nodup ∧ (∀ v ∈ vs, W v = true ∧ ∃ x ∈ L', x.1 = v ∧ x.2.2 ∈ seen) ∧ (∀ x ∈ L', x.2.2 ∈ seen → W x.1 = true → x.1 ∈ vs) ∧ Fr [] H H'
      | _ => False,
    fun _ H' => pendH H' r it, ⟨#[], [], [], hn1.get, Own.nil _ _ _ _, by simp [blkL], ⟨rfl, fun i h l e => by simp at e, by simp⟩, by simp, by simp, by simp, hn1.fr⟩, ?_⟩
  rintro J a n c H2 ⟨seen, hs2, vs, hi2, ho, hito, hl, hnd, hvs, hall, hf2⟩
  have hmap2 := MapR.keep TS hmap hf2
  have hvlen : vs.length ≤ L'.length := by
    have := nodup_len (l := vs) (m := L'.map (·.1)) hnd fun v hv => by
      obtain ⟨_, x, hx, e, _⟩ := hvs v hv
      exact List.mem_map.2 ⟨x, hx, e⟩
    simpa using this
  refine next_map TS hmap2 hi2 (fun hend => ?_) fun x hx hns H3 hi3 hf3 => ?_
  · refine fin ho hl (by omega) (fun v hv => (hvs v hv).1) (fun v hv hne => ?_) hf2
    cases hg : getL v L' with
    | none =>
      rw [hget v] at hg
      dsimp only at hg
      cases hvF : vF nm v with
      | none => exact absurd (hp.has.no nm v hvF) hne
      | some y => rw [hvF] at hg; cases hg
    | some y =>
      obtain ⟨b, hb⟩ := mem_getL hg
      exact hall _ hb (hend _ hb) hv
  · have hf3' : Fr [] H H3 := hf2.keep hf3 (fun k hk => by simp at hk; omega)
    refine entry_map TS (MapR.keep TS hmap hf3') hi3 hx rfl ?_
    have hgx : getL x.1 L' = some x.2.1 := by
      obtain ⟨x1, x2, x3⟩ := x
      exact getL_mem hmap.wf hx
    rw [hget] at hgx
    dsimp only at hgx
    cases hvF : vF nm x.1 with
    | none => rw [hvF] at hgx; cases hgx
    | some y =>
    rw [hvF] at hgx
    simp only [Option.map_some, Option.some.injEq] at hgx
    have hown := (hp.has.own nm x.1 y hvF).1
    refine ⟨x.1, rfl, y.1, y.2.1, y.2.2, hgx.symm, hW x.1 H3 _ hf3' fun H4 hf4 => ?_⟩
    have hf4' := hf3'.keep0 hf4
    have hnx : x.1 ∉ vs := fun hv => by
      obtain ⟨_, x', hx', e, hs'⟩ := hvs _ hv
      have : x' = x := ent_key hmap.wf hx' hx e
      subst this
      exact hns hs'
    have hi4 : H4[it]? = some (.mapIter (some r) ck (seen.push x.2.2) ck) := hf4.get0 hi3
    have ho4 : Own encH 40 H.size H4 a n c hs2 := (own_fr ho hf3 (fun k hk => by simp; exact fun e => hito (e ▸ hk))).keep hf4
    have hpend : pendB (seen.push x.2.2) (L'.map (·.2.2)) < pendH H2 r it := by
      rw [pendH_eq TS hmap2 hi2]
      exact pendB_push (List.mem_map.2 ⟨x, hx, rfl⟩) hns
    refine brB_of (fun hb => ?_) (fun hb => ⟨⟨_, hs2, vs, hi4, ho4, hito, hl, hnd, fun v hv => ⟨(hvs v hv).1, ?_⟩, fun x' hx' hs' hW' => ?_, hf4'⟩, ?_⟩)
    · have hoL := ho4.1
      have hhs : hs2.length = vs.length := by rw [hl.len, List.length_map]
      intro b5 H5 hn5
      have hs1 : Sl encH H5 (some ⟨b5, 0, none⟩) 1 1 [y] := sl_one encH y hn5 rfl
      have hi5 := hn5.fr.get0 hi4
      have itlt : it < H5.size := lt_of_get hi5
      refine ap_grow (E := encH) slice128 elem40 (ho4.keep hn5.fr) hs1 (by have := hf4'.size; have := hn5.size; omega) (by omega) fun o2 p2 q2 H6 h6 hf6 hg6 => ?_
      have hi6 : H6[it]? = some (.mapIter (some r) ck (seen.push x.2.2) ck) := hf6.get hi5 hito
      have hito6 : it ∉ blkL o2 := fun hk => by
        rcases hg6 it hk with h | h
        · exact hito h
        · omega
      have hf6' : Fr [] H H6 := (hf4'.keep0 hn5.fr).keep hf6 fun k hk => (ho4.ge k hk).1
      refine ⟨⟨_, hs2 ++ [y], vs ++ [x.1], hi6, h6, hito6, ⟨by simp [hhs], fun i h l hx' hl' => ?_, fun l hl' => ?_⟩, ?_, fun v hv => ?_, fun x' hx' hs' hW' => ?_, hf6'⟩, ?_⟩
      · rw [List.map_append] at hl'
        rcases Nat.lt_or_ge i hs2.length with h1 | h1
        · rw [List.getElem?_append_left h1] at hx'
          rw [List.getElem?_append_left (by rw [List.length_map, ← hhs]; exact h1)] at hl'
          exact hl.at' i h l hx' hl'
        · rw [List.getElem?_append_right h1] at hx'
          rw [List.getElem?_append_right (by rw [List.length_map, ← hhs]; exact h1), List.length_map, ← hhs] at hl'
          have h0 : i - hs2.length = 0 := by
            have := (List.getElem?_eq_some_iff.1 hx').1
            simpa using this
          rw [h0] at hx' hl'
          simp at hx' hl'
          subst hx' hl'
          exact hown.sl
      · obtain ⟨v, _, rfl⟩ := List.mem_map.1 hl'
        exact (idsL_set L nm v).1
      · rw [List.nodup_append]
        exact ⟨hnd, by simp, fun a ha b hb => by simp at hb; subst hb; exact fun e => hnx (e ▸ ha)⟩
      · rcases List.mem_append.1 hv with hv | hv
        · obtain ⟨h1, x', hx', e, hs'⟩ := hvs v hv
          exact ⟨h1, x', hx', e, by simp [hs']⟩
        · simp at hv; subst hv
          exact ⟨hb, x, hx, rfl, by simp⟩
      · rcases Array.mem_push.1 hs' with h1 | h1
        · simp [hall x' hx' h1 hW']
        · have : x' = x := ent_born hmap.wf hx' hx h1
          subst this; simp
      · show pendH H6 r it < pendH H2 r it
        rw [pendH_eq TS (MapR.keep TS hmap hf6') hi6]; exact hpend
    · obtain ⟨_, x', hx', e, hs'⟩ := hvs v hv
      exact ⟨x', hx', e, by simp [hs']⟩
    · rcases Array.mem_push.1 hs' with h1 | h1
      · exact hall x' hx' h1 hW'
      · have : x' = x := ent_born hmap.wf hx' hx h1
        subst this
        rw [hb] at hW'; cases hW'
    · show pendH H4 r it < pendH H2 r it
      rw [pendH_eq TS (MapR.keep TS hmap hf4') hi4]; exact hpend

theorem of_ok {H : Heap} {xb : Nat} {U : List Nat} {L : List Lbls} {x : Mat} {m : Mch} {K : Option Addr → Nat → Nat → Heap → Prop} (h : IdxH H xb U L) (hm : MatH H x m)
    (hk : ∀ a' n' c' H' os, Own encInt 3 H.size H' a' n' c' os → SetL os (Hit L m) → n' ≤ 1000000 → Fr [] H H' → K a' n' c' H') :
    CallH Try.prog fn_index_Index_of ⟨[.pointer (some ⟨xb, 0, none⟩), vM x]⟩ H fun v H' => ∃ a n c, v = .slice a n c ∧ K a n c H' := by
  apply vc_index_Index_of
  intro b H1 hn1
  have hb1 : MatB H1 b x := hn1.blk
  have hw := h.1
  have hlen := hw.len
  have h1 := h.keep hn1.fr
  have hm1 := hm.keep hn1.fr
  refine ⟨_, hb1.l1, some_ok h1 (wishOne hm1 hb1) fun a2 n2 c2 H2 o2 ho2 hs2 hn2 hf2 => ?_⟩
  rw [← hm.name] at hs2
  refine wishOne hm1 hb1 ⟨#[]⟩ H2 _ hf2 fun H3 hf3 => ?_
  have hf13 := hf2.keep0 hf3
  have hb3 := hb1.keep hf13
  have ho3 := ho2.keep hf3
  refine brB_of (fun he => ⟨_, hb3.l1, ?_⟩) (fun he => ⟨_, _, _, rfl, hk a2 n2 c2 H3 o2 (ho3.base hn1.fr.size) (hs2.iff fun z => ?_) (by omega) (hn1.fr.keep0 hf13)⟩)
  · have h3 := h1.keep hf13
    refine every_ok h3 fun a4 n4 c4 H4 ho4 hf4 => ?_
    have hb4 := hb3.keep hf4
    have h4 := h3.keep hf4
    refine ⟨hb4.l1, some_ok h4 (wishAny H4) fun a5 n5 c5 H5 o5 ho5 hs5 hn5 hf5 => ?_⟩
    rw [← hm.name] at hs5
    have ho4' := ho4.keep hf5
    have hn4 := ho4.1
    rw [List.length_map, List.length_range] at hn4
    refine Not_ok ho4'.sl ho5.sl (by omega) fun a6 n6 c6 H6 ho6 hf6 => ?_
    have hn6 := ho6.1
    have hl6 := mrgW_len (w := wNot) ((List.range L.length).map fun k : Nat => (k : Int)) o5
    have hl5 := ho5.1
    rw [List.length_map, List.length_range] at hl6
    have ho3' := ((ho3.keep hf4).keep hf5).keep hf6
    refine Or_ok ho3'.sl ho6.sl (by omega) fun a7 n7 c7 H7 ho7 hf7 => ⟨_, _, _, rfl, hk a7 n7 c7 H7 _ (ho7.base (by have := hn1.fr.size; have := hf13.size; have := hf4.size; have := hf5.size; have := hf6.size; omega)) ((hs2.or ((every_set L.length).not hs5)).iff fun z => ?_) ?_ ?_⟩
    · rw [← hit_iff hw m z]
      simp only [he, true_and]
    · have := mrgW_len (w := wOr) o2 (mrgW wNot ((List.range L.length).map fun k : Nat => (k : Int)) o5)
      have := ho7.1
      have := ho2.1
      omega
    · exact hn1.fr.keep0 ((((hf13.keep0 hf4).keep0 hf5).keep0 hf6).keep0 hf7)
  · rw [← hit_iff hw m z]
    simp [he]
end Go.Proofs
