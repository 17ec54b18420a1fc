/- A part of a proof: see the last text of this claim. -/
import Derived.Test.YtijedkfekmopnaaP11P
set_option linter.unusedVariables false
set_option maxRecDepth 100000
open Go Go.GV
namespace Go.Proofs

theorem sl_rec {H H' : Heap} {b : Nat} {t : TypeId} (m : Rm) (h : New H b (.cells ⟨rC m⟩ t) H') : Sl encR5 H' (some ⟨b, 0, none⟩) 1 1 [m] := sl_one encR5 m h rfl
theorem encR_len {r : Rc} (h : GoodR r) : (encR r).length ≤ 200010 := by
  have h1 := bodyR_len h.fine h.typ h.chk
  have h2 := uL_len (v := r.k) ⟨h.fine.k.1, by have := h.fine.k.2; omega⟩
  unfold encR
  rw [List.length_append]; omega
theorem encR_pos (r : Rc) : 0 < (encR r).length := by
  have := uintL_pos r.k.toNat
  unfold encR uL
  rw [List.length_append]; omega
theorem RcsH.eq {H : Heap} {ms : List Rm} {m : Rm} {r : Rc} (h : RcH H m r) (e : ms = [m]) : RcsH H ms [r] := by subst e; exact RcsH.one h
theorem Encodes_ok {H : Heap} {m : Rm} {r : Rc} (hR : RcH H m r) (hT : TypR r) : CallH Try.prog 3 ⟨[.agg ⟨rC m⟩]⟩ H fun v H' => v = .bool true ∧ Fr [] H H' := by
  apply vc_law11_WalEncodes
  intro b H1 hn1
  have hb1 : Blk H1 ⟨b, 0, none⟩ (rC m) := hn1.blk
  refine ⟨_, _, _, _, _, _, _, _, _, _, _, hb1.ldA0 (by kernel_rfl) (by kernel_rfl) rfl, ?_⟩
  intro b1 H2 hn2
  have hsl := sl_rec m hn2
  have hf2 := hn1.fr.keep0 hn2.fr
  have hR2 := hR.keep hf2
  have hb2 := hb1.keep hn2.fr
  refine heavy_ok hsl (fun m' hm => by simp at hm; subst hm; exact ⟨_, hR2.l⟩) (by omega) (brB_of (fun _ => ⟨rfl, hf2⟩) (fun h => by cases h)) fun hL _ => brB_of (fun h => by cases h) (fun _ => ?_)
  have hLm := hL m (by simp)
  have hsm : Small m := ⟨by have := hLm.1; omega, by have := hLm.2.1; omega, by have := hLm.2.2; omega⟩
  refine ⟨_, _, _, _, _, _, _, _, _, _, _, hb2.ldA0 (by kernel_rfl) (by kernel_rfl) rfl, ?_⟩
  refine Encode_ok hR2 hsm hT (fun hF H3 hf3 => ?_) (fun hF h0 hl H3 hf3 => ?_) fun hF hl H3 hf3 => ?_
  · -- refused
    have hsl3 := hsl.keep hf3
    refine theirs_ok hsl3 (by omega) fun o l d H4 ho4 hf4 => ?_
    have hol := ho4.1
    have hl1 : l = 1 := by simpa using hol
    subst hl1
    refine ho4.sl.head (decide_eq_true (by omega)) fun ad e' hc => ⟨_, _, _, _, _, _, _, _, _, _, _, ldR33 hc, ?_⟩
    have hR4 := hR2.keep (hf3.keep0 hf4)
    have hf04 := (hf2.keep0 hf3).keep0 hf4
    refine rEncode_ok hR4 hsm hT (fun _ H5 hf5 => ?_) (fun hF' h0 hl H5 hf5 => absurd hF' hF) fun hF' hl H5 hf5 => absurd hF' hF
    · refine ⟨fun _ H' => H' = H5, brB_of (fun h => by simp at h) (fun _ => brB_of (fun h => by simp at h) (fun _ => rfl)), fun J H6 e6 => ?_⟩
      subst e6
      refine brB_of (fun _ => ?_) (fun h => by simp at h)
      refine Encode_ok (m := m0 4) (r := ⟨4, [], [], [], 0⟩) ⟨rfl, Sl.zero, Sl.zero, Sl.zero, rfl⟩ ⟨by simp [m0], by simp [m0], by simp [m0]⟩ (fun x hx => by simp at hx) (fun _ H7 hf7 => ?_) (fun hF _ _ H7 hf7 => ?_) fun hF _ H7 hf7 => ?_
      · exact brB_of (fun _ => ⟨rfl, (hf04.keep0 hf5).keep0 hf7⟩) (fun h => by simp at h)
      · have := hF.k.2; simp at this
      · have := hF.k.2; simp at this
  · -- labels that are not right
    have hsl3 := hsl.keep hf3
    refine theirs_ok hsl3 (by omega) fun o l d H4 ho4 hf4 => ?_
    have hol := ho4.1
    have hl1 : l = 1 := by simpa using hol
    subst hl1
    refine ho4.sl.head (decide_eq_true (by omega)) fun ad e' hc => ⟨_, _, _, _, _, _, _, _, _, _, _, ldR33 hc, ?_⟩
    have hR4 := hR2.keep (hf3.keep0 hf4)
    have hf04 := (hf2.keep0 hf3).keep0 hf4
    refine rEncode_ok hR4 hsm hT (fun hF' H5 hf5 => absurd hF hF') (fun _ _ _ H5 hf5 => ?_) fun hF' hl' H5 hf5 => absurd (hl' h0) hl
    · refine ⟨fun _ H' => H' = H5, brB_of (fun h => by simp at h) (fun _ => brB_of (fun h => by simp at h) (fun _ => rfl)), fun J H6 e6 => ?_⟩
      subst e6
      refine brB_of (fun _ => ?_) (fun h => by simp at h)
      refine Encode_ok (m := m0 4) (r := ⟨4, [], [], [], 0⟩) ⟨rfl, Sl.zero, Sl.zero, Sl.zero, rfl⟩ ⟨by simp [m0], by simp [m0], by simp [m0]⟩ (fun x hx => by simp at hx) (fun _ H7 hf7 => ?_) (fun hF _ _ H7 hf7 => ?_) fun hF _ H7 hf7 => ?_
      · exact brB_of (fun _ => ⟨rfl, (hf04.keep0 hf5).keep0 hf7⟩) (fun h => by simp at h)
      · have := hF.k.2; simp at this
      · have := hF.k.2; simp at this
  · -- encoded
    have hG : GoodR r := ⟨hF, hT, hl⟩
    have hlen := encR_len hG
    have hpos := encR_pos r
    have hsz := size_mk (encR r)
    have hsl3 := hsl.keep hf3
    refine theirs_ok hsl3 (by omega) fun o l d H4 ho4 hf4 => ?_
    have hol := ho4.1
    have hl1 : l = 1 := by simpa using hol
    subst hl1
    refine ho4.sl.head (decide_eq_true (by omega)) fun ad e' hc => ⟨_, _, _, _, _, _, _, _, _, _, _, ldR33 hc, ?_⟩
    have hR4 := hR2.keep (hf3.keep0 hf4)
    have hf04 := (hf2.keep0 hf3).keep0 hf4
    refine rEncode_ok hR4 hsm hT (fun hF' H5 hf5 => absurd hF hF') (fun _ h0 hl' H5 hf5 => absurd (hl h0) hl') fun hF' hl' H5 hf5 => ?_
    refine ⟨fun _ H' => H' = H5, brB_of (fun h => by simp at h) (fun _ => brB_of (fun h => by simp at h) (fun _ => rfl)), fun J H6 e6 => ?_⟩
    subst e6
    refine brB_of (fun h => by simp at h) (fun _ => ?_)
    refine Decode_ok (s := ⟨(encR r).toArray⟩) (by omega) (fun hno H7 hf7 => absurd (by rw [bl_mk]) (hno r hG)) fun r' m' H7 hG' e' hR' hsm' hf7 => ?_
    rw [bl_mk] at e'
    have er := hG.inj hG' e'
    subst er
    intro b5 H8 hn8
    refine st26 (m := m') (m' := m0 0) hn8.blk fun H9 hb9 hf9 => ⟨_, _, _, _, _, _, _, _, _, _, _, hb9.ldA0 (by kernel_rfl) (by kernel_rfl) rfl, ?_⟩
    have hf79 : Fr [] H7 H9 := hn8.fr.keep hf9 (fun k hk => by simp at hk; have := hn8.eq; omega)
    intro b6 H10 hn10
    refine brB_of (fun _ => ?_) (fun h => by simp at h)
    have hs6 := sl_rec m' hn10
    have hf7a := hf79.keep0 hn10.fr
    refine theirs_ok hs6 (by omega) fun o1 l1 d1 H11 ho11 hf11 => ?_
    have hfall : Fr [] H6 H11 := (hf7.keep0 hf7a).keep0 hf11
    refine theirs_ok (((hsl3.keep hf4).keep hf5).keep hfall) (by omega) fun o2 l2 d2 H12 ho12 hf12 => ?_
    have hx1 := (ho11.keep hf12).sl
    have hx1l := hx1.len
    refine rSame_ok hx1 ho12.sl (RcsH.one (((hR'.keep hf7a).keep hf11).keep hf12)) (RcsH.one (((hR4.keep hf5).keep hfall).keep hf12)) (by simp at hx1l; omega) (fun m9 hm9 => by simp at hm9; subst hm9; exact hsm') fun H13 hf13 => ?_
    refine brB_of (fun _ => ⟨?_, (((hf04.keep0 hf5).keep0 hfall).keep0 hf12).keep0 hf13⟩) (fun h => by cases h)
    rw [decide_eq_true (by omega)]
theorem Decodes_ok {H : Heap} {s : ByteArray} : CallH Try.prog 4 ⟨[.string s]⟩ H fun v H' => v = .bool true ∧ Fr [] H H' := by
  apply vc_law11_WalDecodes
  refine brB_of (fun _ => ⟨rfl, Fr.refl _ _⟩) (fun hs => ?_)
  have hs : s.size ≤ 1000000000 := by simp at hs; omega
  have none_ok : ∀ y, GoodR y → bl (⟨#[]⟩ : ByteArray) ≠ encR y := fun y hy e => by
    have := encR_pos y
    rw [← e] at this
    simp [bl] at this
  have zero : ∀ {H' : Heap}, RcH H' (m0 0) ⟨0, [], [], [], 0⟩ := ⟨rfl, Sl.zero, Sl.zero, Sl.zero, rfl⟩
  have szero : Small (m0 0) := ⟨by simp [m0], by simp [m0], by simp [m0]⟩
  refine Decode_ok hs (fun hno H1 hf1 => ?_) fun r m H1 hG es hR hsm hf1 => ?_
  · -- no record's bytes
    intro b H2 hn2
    refine st26 (m := m0 0) (m' := m0 0) hn2.blk fun H3 hb3 hf3 => ?_
    have hf13 : Fr [] H1 H3 := hn2.fr.keep hf3 (fun k hk => by simp at hk; have := hn2.eq; omega)
    refine rDecode_ok hs (fun _ H4 hf4 => ?_) fun r4 m4 H4 hG4 e4 => absurd e4 (hno r4 hG4)
    intro b1 H5 hn5
    refine st33 (m := m0 0) (m' := m0 0) hn5.blk fun H6 hc6 hf6 => ?_
    have hf46 : Fr [] H4 H6 := hn5.fr.keep hf6 (fun k hk => by simp at hk; have := hn5.eq; omega)
    have hb6 := (hb3.keep hf4).keep hf46
    refine ⟨_, _, _, _, _, _, _, _, _, _, _, hb6.ldA0 (by kernel_rfl) (by kernel_rfl) rfl, ?_⟩
    intro b2 H7 hn7
    refine ⟨_, _, _, _, _, _, _, _, _, _, _, (hc6.keep hn7.fr).ldA0 (by kernel_rfl) (by kernel_rfl) rfl, ?_⟩
    intro b3 H8 hn8
    have hs2 := (sl_rec (m0 0) hn7).keep hn8.fr
    have hs3 := sl_rec (m0 0) hn8
    have hb8 := (hb6.keep hn7.fr).keep hn8.fr
    have hf08 : Fr [] H H8 := ((((hf1.keep0 hf13).keep0 hf4).keep0 hf46).keep0 hn7.fr).keep0 hn8.fr
    refine Decode_ok (by simp [ByteArray.size]) (fun _ H9 hf9 => ?_) fun r9 m9 H9 hG9 e9 => absurd e9 (none_ok r9 hG9)
    intro b4 H10 hn10
    refine st26 (m := m0 0) (m' := m0 0) hn10.blk fun H11 hb11 hf11 => ?_
    have hf811 : Fr [] H8 H11 := hf9.keep0 (hn10.fr.keep hf11 (fun k hk => by simp at hk; have := hn10.eq; omega))
    have hb11' := hb8.keep hf811
    refine ⟨fun _ H' => Fr [] H11 H', ?_, ?_⟩
    · refine brB_of (fun h => by simp at h) (fun _ => ?_)
      refine theirs_ok (hs2.keep hf811) (by omega) fun o1 l1 d1 H12 ho12 hf12 => ?_
      have hl12 := ho12.1
      refine rSame_ok ho12.sl ((hs3.keep hf811).keep hf12) (RcsH.one (r := ⟨0, [], [], [], 0⟩) ?_) (RcsH.one ?_) (by simp at hl12; omega) (fun m9 hm9 => by simp at hm9; subst hm9; exact szero) fun H13 hf13' => ?_
      · exact zero
      · exact zero
      · exact brB_of (fun h => by simp at h) (fun _ => brB_of (fun h => by simp at h) (fun _ => hf12.keep0 hf13'))
    · intro J H12 hf12
      have hb12 := hb11'.keep hf12
      have hf012 := (hf08.keep0 hf811).keep0 hf12
      refine ⟨_, _, _, _, _, _, _, _, _, _, _, hb12.ldA0 (by kernel_rfl) (by kernel_rfl) rfl, ?_⟩
      have fin : ∀ {s' : ByteArray} {e : Int} {H' : Heap}, Fr [] H12 H' → brB ((11 : Int) != 0) (Value.bool true = .bool true ∧ Fr [] H H') (brB (e == 0) (Value.bool (s'.toList == s.toList) = .bool true ∧ Fr [] H H') (Value.bool false = .bool true ∧ Fr [] H H')) := fun hf' => brB_of (fun _ => ⟨rfl, hf012.keep0 hf'⟩) (fun h => by simp at h)
      exact Encode_ok zero szero (fun x hx => by simp at hx) (fun _ H13 hf13 => fin hf13) (fun _ _ _ H13 hf13 => fin hf13) fun _ _ H13 hf13 => fin hf13
  · -- a record's bytes
    intro b H2 hn2
    refine st26 (m := m) (m' := m0 0) hn2.blk fun H3 hb3 hf3 => ?_
    have hf13 : Fr [] H1 H3 := hn2.fr.keep hf3 (fun k hk => by simp at hk; have := hn2.eq; omega)
    refine rDecode_ok hs (fun hno H4 hf4 => absurd es (hno r hG)) fun r' m' H4 hG4 e4 hR' hsm4 hf4 => ?_
    have er := hG.inj hG4 (es.symm.trans e4)
    subst er
    intro b1 H5 hn5
    refine st33 (m := m') (m' := m0 0) hn5.blk fun H6 hc6 hf6 => ?_
    have hf46 : Fr [] H4 H6 := hn5.fr.keep hf6 (fun k hk => by simp at hk; have := hn5.eq; omega)
    have hb6 := (hb3.keep hf4).keep hf46
    refine ⟨_, _, _, _, _, _, _, _, _, _, _, hb6.ldA0 (by kernel_rfl) (by kernel_rfl) rfl, ?_⟩
    intro b2 H7 hn7
    refine ⟨_, _, _, _, _, _, _, _, _, _, _, (hc6.keep hn7.fr).ldA0 (by kernel_rfl) (by kernel_rfl) rfl, ?_⟩
    intro b3 H8 hn8
    have hs2 := (sl_rec (m) hn7).keep hn8.fr
    have hs3 := sl_rec (m') hn8
    have hb8 := (hb6.keep hn7.fr).keep hn8.fr
    have hf08 : Fr [] H H8 := ((((hf1.keep0 hf13).keep0 hf4).keep0 hf46).keep0 hn7.fr).keep0 hn8.fr
    refine Decode_ok (by simp [ByteArray.size]) (fun _ H9 hf9 => ?_) fun r9 m9 H9 hG9 e9 => absurd e9 (none_ok r9 hG9)
    intro b4 H10 hn10
    refine st26 (m := m0 0) (m' := m0 0) hn10.blk fun H11 hb11 hf11 => ?_
    have hf811 : Fr [] H8 H11 := hf9.keep0 (hn10.fr.keep hf11 (fun k hk => by simp at hk; have := hn10.eq; omega))
    have hb11' := hb8.keep hf811
    refine ⟨fun _ H' => Fr [] H11 H', ?_, ?_⟩
    · refine brB_of (fun h => by simp at h) (fun _ => ?_)
      refine theirs_ok (hs2.keep hf811) (by omega) fun o1 l1 d1 H12 ho12 hf12 => ?_
      have hl12 := ho12.1
      refine rSame_ok ho12.sl ((hs3.keep hf811).keep hf12) (RcsH.one (r := r) ?_) (RcsH.one ?_) (by simp at hl12; omega) (fun m9 hm9 => by simp at hm9; subst hm9; exact hsm) fun H13 hf13' => ?_
      · exact ((((((hR.keep hf13).keep hf4).keep hf46).keep hn7.fr).keep hn8.fr).keep hf811).keep hf12
      · exact (((((hR'.keep hf46).keep hn7.fr).keep hn8.fr).keep hf811).keep hf12)
      · exact brB_of (fun h => by simp at h) (fun _ => brB_of (fun h => by simp at h) (fun _ => hf12.keep0 hf13'))
    · intro J H12 hf12
      have hb12 := hb11'.keep hf12
      have hf012 := (hf08.keep0 hf811).keep0 hf12
      refine ⟨_, _, _, _, _, _, _, _, _, _, _, hb12.ldA0 (by kernel_rfl) (by kernel_rfl) rfl, ?_⟩
      refine Encode_ok ((((((((hR.keep hf13).keep hf4).keep hf46).keep hn7.fr).keep hn8.fr).keep hf811).keep hf12)) hsm hG.typ (fun hF H13 hf13 => absurd hG.fine hF) (fun _ h0 hl H13 hf13 => absurd (hG.chk h0) hl) fun _ _ H13 hf13 => ?_
      refine brB_of (fun h => by simp at h) (fun _ => brB_of (fun _ => ⟨?_, hf012.keep0 hf13⟩) (fun h => by simp at h))
      have : (⟨(encR r).toArray⟩ : ByteArray) = s := bl_inj (by rw [bl_mk, es])
      rw [this]; simp
end Go.Proofs
