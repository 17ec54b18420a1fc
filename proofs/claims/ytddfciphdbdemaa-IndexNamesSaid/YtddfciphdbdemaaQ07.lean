/- A part of a proof: see the last text of this claim. -/
import Derived.Test.YtddfciphdbdemaaP07h
import Derived.Test.YtddfciphdbdemaaVc07L
set_option linter.unusedVariables false
set_option maxRecDepth 100000
open Go Go.GV
namespace Go.Proofs

noncomputable def madeL (L : List Lbls) : List Lbls := L.foldl addL []
theorem madeL_take {L : List Lbls} {k : Nat} {l : Lbls} (h : L[k]? = some l) : madeL (L.take (k + 1)) = addL (madeL (L.take k)) l := by
  unfold madeL
  rw [List.take_add_one, h]
  simp [List.foldl_append]
theorem idx_in {H : Heap} {xb : Nat} {U : List Nat} {L : List Lbls} (h : IdxH H xb U L) : In H U := by
  obtain ⟨hw, a0, n0, c0, hs, rk, rh, mF, vF, hp, hnv⟩ := h
  exact hp.inn
theorem ref_in {H : Heap} {xb : Nat} {U : List Nat} {L : List Lbls} (h : RefH H xb U L) : In H U := by
  obtain ⟨_, _, _, _, _, _, _, _, _, h⟩ := h
  exact h

/-- Two indexes, the program's and the reference's, of the same labels, beside each other. -/
structure Both (H0 H : Heap) (xb yb : Nat) (U V : List Nat) (L : List Lbls) : Prop where
  idx : IdxH H xb U L
  ref : RefH H yb V L
  dj : Dj U V
  gU : ∀ k ∈ U, H0.size ≤ k
  gV : ∀ k ∈ V, H0.size ≤ k
  fr : Fr [] H0 H
theorem Both.keep {H0 H H' : Heap} {xb yb : Nat} {U V : List Nat} {L : List Lbls} (h : Both H0 H xb yb U V L) (hf : Fr [] H H') : Both H0 H' xb yb U V L :=
  ⟨h.idx.keep hf, h.ref.keep hf, h.dj, h.gU, h.gV, h.fr.keep0 hf⟩
/-- An Add at the program's, then at the reference's. -/
theorem Both.addX {H0 H H' : Heap} {xb yb : Nat} {U V U' : List Nat} {L L' : List Lbls} (h : Both H0 H xb yb U V L) (hx : IdxH H' xb U' L') (hf : Fr U H H') (hg : Grow H U U') : RefH H' yb V L ∧ Dj U' V ∧ (∀ k ∈ U', H0.size ≤ k) ∧ Fr [] H0 H' :=
  ⟨h.ref.fr hf (fun k hk hk' => h.dj k hk' hk), h.dj.grow hg (ref_in h.ref), fun k hk => by
    rcases hg k hk with h1 | h1
    · exact h.gU k h1
    · exact Nat.le_trans h.fr.size h1, h.fr.keep hf h.gU⟩

theorem Add_both {H0 H : Heap} {xb yb : Nat} {U V : List Nat} {L : List Lbls} {a : Option Addr} {n c : Nat} {l : Lbls} {K : Int → Int → Heap → Prop} (h : Both H0 H xb yb U V L) (hx : Sl encL H a n c l) (hn : n ≤ 1000000000)
    (hsep : l ≠ [] → ∀ ad, a = some ad → ad.block ∉ U)
    (hk : ∀ H' U', IdxH H' xb U' (addL L l) → RefH H' yb V L → Dj U' V → (∀ k ∈ U', H0.size ≤ k) → Fr U H H' → Fr [] H0 H' → K (addI L l) (addE L l) H') :
    CallH Try.prog fn_index_Index_Add ⟨[.pointer (some ⟨xb, 0, none⟩), .slice a n c]⟩ H fun v H' => ∃ i e, v = .tuple ⟨[.int .i64 i, .int .i64 e]⟩ ∧ K i e H' :=
  Add_ok h.idx hx hn hsep fun H' U' h1 h2 h3 => by
    obtain ⟨h4, h5, h6, h7⟩ := h.addX h1 h2 h3
    exact hk H' U' h1 h4 h5 h6 h2 h7

theorem made_ok {H : Heap} {a : Option Addr} {n c : Nat} {hs : List Hd} {L : List Lbls} {K : Option Addr → Option Addr → Bool → Heap → Prop} (hx : Sl encH H a n c hs) (hl : LLs H hs L) (hL : Light L)
    (hk : ∀ H' xb yb U V, Both H H' xb yb U V (madeL L) → K (some ⟨xb, 0, none⟩) (some ⟨yb, 0, none⟩) true H') :
    CallH Try.prog fn_law07_made ⟨[.slice a n c]⟩ H fun v H' => ∃ x y b, v = .tuple ⟨[.pointer x, .pointer y, .bool b]⟩ ∧ K x y b H' := by
  apply vc_law07_made
  have e0 : n = L.length := by rw [hx.len, hl.1]
  have hL1 := hL.1
  refine New_ok fun H1 xb U hi1 hU hf1 => rNew_ok fun H2 yb V hr2 hV hf2 => ?_
  refine brB_of (fun h => by simp at h) (fun _ => ?_)
  have hb2 : Both H H2 xb yb U V [] := ⟨hi1.keep hf2, hr2, fun k hk hk' => by have := hV k hk'; have := idx_in hi1 k hk; omega, hU, fun k hk => Nat.le_trans hf1.size (hV k hk), hf1.keep0 hf2⟩
  refine ⟨fun vs H' => match vs with
      | [.int _ i] => ∃ (k : Nat) (U V : List Nat), i = k ∧ k ≤ n ∧ Both H H' xb yb U V (madeL (L.take k))
      | _ => False,
    fun vs _ => match vs with | [.int _ i] => n - i.toNat | _ => 0, ⟨0, U, V, rfl, by omega, hb2⟩, ?_⟩
  rintro J i H3 ⟨k, U, V, rfl, hle, hb⟩
  refine brB_of (fun h0 => ?_) (fun h0 => ?_)
  · have h0' : k < n := by simpa using h0
    have hx1 : hs[k]? = some (hs[k]'(by have := hx.len; omega)) := by simp
    have hl1 : L[k]? = some (L[k]'(by omega)) := by simp
    generalize hs[k]'(by have := hx.len; omega) = hd at hx1
    generalize L[k]'(by omega) = l at hl1
    have hs1 := hl.2 _ _ _ hx1 hl1
    have hl4 := (hL.2 l (List.mem_of_getElem? hl1)).1
    have hsl := hs1.len
    refine (hx.keep hb.fr).get rfl hx1 (decide_eq_true (by omega)) fun ad ea hc => ⟨_, _, _, ldH hc, ?_⟩
    refine Add_both hb (hs1.keep hb.fr) (by omega) (sl_not hs1 hb.gU) fun H4 U4 h1 h2 h3 h4 h5 h6 => ?_
    refine (hx.keep h6).get rfl hx1 (decide_eq_true (by omega)) fun ad ea hc => ⟨_, _, _, ldH hc, ?_⟩
    refine rAdd_ok h2 hb.idx.1 (hs1.keep h6) fun H5 V5 h7 h8 h9 => ?_
    refine brB_of (fun h => by simp at h) (fun _ => brB_of (fun h => by simp at h) (fun _ => ?_))
    rw [succ64 (by omega)]
    refine ⟨⟨k + 1, U4, V5, rfl, by omega, ?_⟩, mu_lt h0'⟩
    rw [madeL_take hl1]
    have dj5 : Dj V5 U4 := h3.symm.grow h9 (idx_in h1)
    refine ⟨h1.fr h8 (fun k hk hk' => h3 k hk hk'), h7, dj5.symm, h4, fun k hk => ?_, h6.keep h8 hb.gV⟩
    rcases h9 k hk with h | h
    · exact hb.gV k h
    · exact Nat.le_trans h6.size h
  · have hkn : L.take k = L := List.take_of_length_le (by simp at h0; omega)
    rw [hkn] at hb
    refine Len_ok hb.idx (rLen_ok hb.ref ?_)
    rw [show ((((madeL L).length : Nat) : Int) == ((madeL L).length : Nat)) = true by simp]
    exact ⟨_, _, _, rfl, hk H3 xb yb U V hb⟩

theorem addL_same {L : List Lbls} {l : Lbls} (h : l ∈ L) : addL L l = L := if_neg fun hh => hh.2.1 h

theorem Adds_ok {aa ba : Option Addr} {an ac bn bc : Nat} {hs : List Hd} {L : List Lbls} {one : Lbls} {H : Heap} (ha : Sl encH H aa an ac hs) (hl : LLs H hs L) (ho : Sl encL H ba bn bc one) :
    CallH Try.prog fn_law07_IndexAdds ⟨[.slice aa an ac, .slice ba bn bc]⟩ H fun v H' => v = .bool true ∧ Fr [] H H' := by
  apply vc_law07_IndexAdds
  intro b0 H0 hn0
  have ha0 := ha.keep hn0.fr
  have hl0 := hl.keep hn0.fr
  have ho0 := ho.keep hn0.fr
  have hs1 : Sl encH H0 (some ⟨b0, 0, none⟩) 1 1 [((ba, bn, bc) : Hd)] := sl_one encH (ba, bn, bc) hn0 rfl
  have hls1 : LLs H0 [((ba, bn, bc) : Hd)] [one] := ⟨rfl, fun i x l hx hl => by
    match i, hx, hl with
    | 0, hx, hl => simp at hx hl; subst hx hl; exact ho0⟩
  refine ⟨fun _ H' => H' = H0 ∧ Light L ∧ Light [one], ?_, ?_⟩
  · refine heavy_ok ha0 hl0 ⟨rfl, hn0.fr⟩ fun hL => heavy_ok hs1 hls1 ⟨rfl, hn0.fr⟩ fun hL1 => ⟨rfl, hL, hL1⟩
  rintro J H1 ⟨rfl, hL, hL1⟩
  have hone : bn ≤ 1000000000 := by have := (hL1.2 one (by simp)).1; have := ho.len; omega
  refine made_ok ha0 hl0 hL fun H2 xb yb U V hb => ?_
  refine brB_of (fun h => by cases h) (fun _ => ?_)
  have hW := hb.idx.1
  generalize madeL L = M at hb hW
  have hlen := hW.len
  refine ⟨fun vs H' => match vs with
      | [.int _ i] => ∃ (k : Nat) (U : List Nat), i = (k : Int) - 1 ∧ k ≤ M.length + 2 ∧ Both H1 H' xb yb U V M
      | _ => False,
    fun vs _ => match vs with | [.int _ i] => M.length + 2 - (i + 1).toNat | _ => 0, ⟨0, U, rfl, by omega, hb⟩, ?_⟩
  rintro J i H3 ⟨k, U, rfl, hle, hb⟩
  refine rLen_ok hb.ref (brB_of (fun h0 => ?_) (fun h0 => ?_))
  · have h0' : (k : Int) - 1 ≤ M.length := by simpa using h0
    refine ⟨fun _ H' => ∃ U, Both H1 H' xb yb U V M, ?_, ?_⟩
    · refine Labels_ok hb.idx fun a1 n1 c1 H4 hl1 hf4 => ?_
      have hb4 := hb.keep hf4
      refine rLabels_ok hb4.ref hW fun a2 n2 c2 H5 hl2 hf5 => ?_
      have hb5 := hb4.keep hf5
      have hlen1 : n1 ≤ 1000000000 := by
        have := hl1.1
        split at this
        · cases hg : M[((k : Int) - 1).toNat]? with
          | none => rw [List.getD_eq_getElem?_getD, hg] at this; simp at this; omega
          | some m => rw [List.getD_eq_getElem?_getD, hg] at this; simp at this; have := (hW.chk m (List.mem_of_getElem? hg)).1; omega
        · simp at this; omega
      refine Same_ok (hl1.keep hf5).sl hl2.sl hlen1 ?_
      rw [decide_eq_true rfl]
      refine brB_of (fun h => by cases h) (fun _ => ?_)
      refine ⟨fun vs H' => vs = [.bool (decide (1 ≤ k ∧ k - 1 < M.length))] ∧ Both H1 H' xb yb U V M, ?_, ?_⟩
      · refine brB_of (fun h1 => rLen_ok hb5.ref ⟨?_, hb5⟩) (fun h1 => ⟨?_, hb5⟩)
        · congr 2; exact decide_eq_decide.2 (by simp at h1; omega)
        · congr 2; exact (decide_eq_false (by simp at h1; omega)).symm
      rintro J bb H6 ⟨hbb, hb6⟩
      simp only [List.cons.injEq, Value.bool.injEq, and_true] at hbb
      subst hbb
      refine brB_of (fun h1 => ?_) (fun h1 => ⟨U, hb6⟩)
      have h1' := of_decide_eq_true h1
      have hm1 : M[k - 1]? = some (M[k - 1]'(by omega)) := by simp
      generalize M[k - 1]'(by omega) = m at hm1
      have hg : (if (0 : Int) ≤ (k : Int) - 1 then M.getD ((k : Int) - 1).toNat [] else []) = m := by
        rw [if_pos (by omega), List.getD_eq_getElem?_getD, show ((k : Int) - 1).toNat = k - 1 by omega, hm1]; rfl
      have hm8 := (hW.chk m (List.mem_of_getElem? hm1)).1
      refine rLabels_ok hb6.ref hW fun a3 n3 c3 H7 hl3 hf7 => ?_
      rw [hg] at hl3
      have hb7 := hb6.keep hf7
      refine Find_ok hb7.idx hl3.sl (by have := hl3.1; omega) fun H8 hf8 => ?_
      have hb8 := hb7.keep hf8
      refine rLabels_ok hb8.ref hW fun a4 n4 c4 H9 hl4 hf9 => ?_
      rw [hg] at hl4
      have hb9 := hb8.keep hf9
      refine Add_both hb9 hl4.sl (by have := hl4.1; omega) (fun _ ad e hk => ?_) fun H10 U10 g1 g2 g3 g4 g5 g6 => ?_
      · have := (hl4.ge ad.block (by simp [e, blkL])).1
        have := idx_in hb8.idx _ hk
        omega
      · have hmem := List.mem_of_getElem? hm1
        have hpos := posL_get hW.nodup hm1
        have eI : addI M m = ((k : Int) - 1) := by unfold addI; rw [if_pos (hW.chk m hmem), hpos]; simp only; omega
        have eE : addE M m = 0 := by unfold addE; rw [if_pos (hW.chk m hmem), hpos]
        rw [addL_same hmem] at g1
        unfold posI
        rw [eI, eE, hpos]
        refine brB_of (fun h => by simp at h; omega) (fun _ => brB_of (fun h => by simp at h) (fun _ => brB_of (fun h => by simp at h) (fun _ => brB_of (fun h => by simp at h) (fun _ => ⟨U10, g1, g2, g3, g4, hb9.gV, g6⟩))))
    · rintro J H6 ⟨U, hb6⟩
      rw [show IntKind.i64.wrap ((k : Int) - 1 + 1) = ((k + 1 : Nat) : Int) - 1 by rw [wrap64_of (by omega) (by omega)]; omega]
      refine ⟨⟨k + 1, U, rfl, by omega, hb6⟩, ?_⟩
      show M.length + 2 - (((k + 1 : Nat) : Int) - 1 + 1).toNat < M.length + 2 - ((k : Int) - 1 + 1).toNat
      omega
  · refine Find_ok hb.idx (ho0.keep hb.fr) hone fun H4 hf4 => ?_
    have hb4 := hb.keep hf4
    refine rFind_ok hb4.ref hW (ho0.keep hb4.fr) ?_
    refine Add_both (l := []) hb4 Sl.zero (by omega) (fun h => absurd rfl h) fun H5 U5 g1 g2 g3 g4 g5 g6 => ?_
    have hC0 : ChkP [] := ⟨by simp, by simp, fun i x y h => by simp at h⟩
    have hI : 0 ≤ addI M [] := by unfold addI; rw [if_pos hC0]; split <;> (try split) <;> omega
    have hE : addE M [] ≠ 40 := by unfold addE; rw [if_pos hC0]; split <;> (try split) <;> omega
    have hLen : M.length ≤ (addL M []).length ∧ 0 < (addL M []).length := by
      unfold addL
      split
      · simp
      · rename_i h
        refine ⟨Nat.le_refl _, ?_⟩
        cases hM : M with
        | nil => rw [hM] at h; simp at h; exact absurd hC0 h
        | cons m M' => simp
    refine brB_of (fun _ => brB_of (fun _ => ?_) (fun h => by rw [beq_self_eq_true] at h; cases h)) (fun h => by rw [beq_self_eq_true] at h; cases h)
    refine Len_ok g1 (rLen_ok g2 (brB_of (fun _ => brB_of (fun _ => brB_of (fun _ => Len_ok g1 ⟨?_, hn0.fr.keep0 g6⟩) (fun h => by simp at h; exact absurd h hE)) (fun h => by simp at h; omega)) (fun h => by simp at h; omega)))
    rw [decide_eq_true (by omega)]
end Go.Proofs
