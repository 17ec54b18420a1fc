/- Turned by a program of mine (portall.py) out of the same text of another seat. -/
import Derived.Test.YtjclcccjdnllgaaGreatC13f
import Derived.Test.YtjclcccjdnllgaaGreatGvOpen
import Derived.Shelf.SlSortCmp.WholeK
import Derived.Shelf.SlSortCmp.NoneTotal
import Derived.Shelf.SlGeneric
import Derived.Ground.SlsfProg
import Derived.Test.YtjclcccjdnllgaaGreatProg
set_option linter.unusedVariables false
set_option maxRecDepth 100000
open Go Go.GV
namespace Go.Proofs

theorem rw_ext {a b : Rw} (h1 : a.1 = b.1) (h2 : a.2.1 = b.2.1) (h3 : a.2.2 = b.2.2) : a = b := Prod.ext h1 (Prod.ext h2 h3)
theorem blk_inj {c d : List Rw} (hc : RowsP c) (hd : RowsP d) (hl : c.length = d.length) (hf : firstC c = firstC d) (h : blkR c = blkR d) : c = d := by
  have key : ∀ j, j ≤ c.length → (∀ i, i < j → rAt c i = rAt d i) ∧ blkTo c j = blkTo d j := by
    intro j
    induction j with
    | zero => exact fun _ => ⟨fun i h => by omega, rfl⟩
    | succ j ih =>
      intro hj
      obtain ⟨h1, h2⟩ := ih (by omega)
      obtain ⟨r, hr⟩ := rng_split (rowB c) (i := j) (m := c.length) (by omega)
      obtain ⟨q, hq⟩ := rng_split (rowB d) (i := j) (m := d.length) (by omega)
      have hr : blkR c = blkTo c j ++ (rowB c j ++ r) := hr
      have hq : blkR d = blkTo d j ++ (rowB d j ++ q) := hq
      rw [hr, hq, h2] at h
      have h := List.append_cancel_left h
      have h3 := h
      unfold rowB intL at h3
      simp only [List.append_assoc] at h3
      obtain ⟨e1, h3⟩ := uint_eq h3
      obtain ⟨e2, h3⟩ := uint_eq h3
      obtain ⟨e3, h3⟩ := uint_eq h3
      have ac := hc.at (i := j) (by omega)
      have ad := hd.at (i := j) (by omega)
      have mc := hc.fine.mono (i := j - 1) (j := j) (by omega) (by omega)
      have md := hd.fine.mono (i := j - 1) (j := j) (by omega) (by omega)
      have ep : rT c (j - 1) = rT d (j - 1) := by
        by_cases h0 : j = 0
        · subst h0; exact hf
        · unfold rT; rw [h1 (j - 1) (by omega)]
      have e4 : foldN (rAt c j).2.2 = foldN (rAt d j).2.2 := e3
      have : rAt c j = rAt d j := by
        refine rw_ext ?_ (by omega) (by rw [← unfold_fold (rAt c j).2.2, e4, unfold_fold])
        show rT c j = rT d j
        omega
      refine ⟨fun i hi => ?_, ?_⟩
      · by_cases e : i = j
        · subst e; exact this
        · exact h1 i (by omega)
      · have e1' : rT c j = rT d j := by unfold rT; rw [this]
        rw [blkTo_succ, blkTo_succ, h2]
        unfold rowB
        rw [e1', ep, this]
  refine List.ext_getElem? fun i => ?_
  by_cases hi : i < c.length
  · rw [rAt_get hi, rAt_get (by omega), (key c.length (Nat.le_refl _)).1 i hi]
  · rw [List.getElem?_eq_none (by omega), List.getElem?_eq_none (by omega)]
theorem encR_inj {l m : List Rw} (hl : RowsP l) (hm : RowsP m) (h : encR l = encR m) : l = m := by
  unfold encR at h
  obtain ⟨hlen, h⟩ := uint_eq h
  rw [← hlen] at h
  generalize hn : nC l.length = n at *
  have hch : ∀ i, i < n → 16 * i < l.length := fun i hi => by rw [← hn] at hi; unfold nC at hi; omega
  have heads : ∀ j, j ≤ n → (∀ i, i < j → firstC (chR l i) = firstC (chR m i) ∧ (blkR (chR l i)).length = (blkR (chR m i)).length) ∧ hdsR l j = hdsR m j := by
    intro j
    induction j with
    | zero => exact fun _ => ⟨fun i h => by omega, rfl⟩
    | succ j ih =>
      intro hj
      obtain ⟨h1, h2⟩ := ih (by omega)
      obtain ⟨r, hr⟩ := rng_split (fun i => hdR (chR l i)) (i := j) (m := n) (by omega)
      obtain ⟨q, hq⟩ := rng_split (fun i => hdR (chR m i)) (i := j) (m := n) (by omega)
      have hr : hdsR l n = hdsR l j ++ (hdR (chR l j) ++ r) := hr
      have hq : hdsR m n = hdsR m j ++ (hdR (chR m j) ++ q) := hq
      rw [hr, hq, h2] at h
      simp only [List.append_assoc] at h
      have h3 := List.append_cancel_left h
      unfold hdR at h3
      simp only [List.append_assoc] at h3
      obtain ⟨e1, h3⟩ := uint_eq h3
      obtain ⟨e2, h3⟩ := uint_eq h3
      obtain ⟨e3, h3⟩ := uint_eq h3
      have f1 := (hl.ch j).first_last (ch_ne (hch j (by omega)))
      have f2 := (hm.ch j).first_last (ch_ne (by rw [← hlen]; exact hch j (by omega)))
      refine ⟨fun i hi => ?_, ?_⟩
      · by_cases e : i = j
        · subst e; exact ⟨by omega, e3⟩
        · exact h1 i (by omega)
      · rw [hdsR_succ, hdsR_succ, h2]
        unfold hdR
        rw [e1, e2, e3]
  have hh := heads n (Nat.le_refl _)
  rw [hh.2] at h
  have hb := List.append_cancel_left h
  have bodies : ∀ j, j ≤ n → (∀ i, i < j → blkR (chR l i) = blkR (chR m i)) ∧ bdsR l j = bdsR m j := by
    intro j
    induction j with
    | zero => exact fun _ => ⟨fun i h => by omega, rfl⟩
    | succ j ih =>
      intro hj
      obtain ⟨h1, h2⟩ := ih (by omega)
      obtain ⟨r, hr⟩ := rng_split (fun i => blkR (chR l i)) (i := j) (m := n) (by omega)
      obtain ⟨q, hq⟩ := rng_split (fun i => blkR (chR m i)) (i := j) (m := n) (by omega)
      have hr : bdsR l n = bdsR l j ++ (blkR (chR l j) ++ r) := hr
      have hq : bdsR m n = bdsR m j ++ (blkR (chR m j) ++ q) := hq
      rw [hr, hq, h2] at hb
      have h3 := List.append_cancel_left hb
      have e := (List.append_inj h3 (hh.1 j (by omega)).2).1
      refine ⟨fun i hi => ?_, by rw [bdsR_succ, bdsR_succ, h2, e]⟩
      by_cases e' : i = j
      · subst e'; exact e
      · exact h1 i (by omega)
  have chs : ∀ i, i < n → chR l i = chR m i := fun i hi =>
    blk_inj (hl.ch i) (hm.ch i) (by rw [chR_len, chR_len, hlen]) (hh.1 i hi).1 ((bodies n (Nat.le_refl _)).1 i hi)
  rw [← all_ch l, ← all_ch m, ← hlen, hn]
  have : ∀ n', n' ≤ n → (List.range n').flatMap (chR l) = (List.range n').flatMap (chR m) := by
    intro n'
    induction n' with
    | zero => exact fun _ => rfl
    | succ k ih =>
      intro hk
      rw [List.range_succ, List.flatMap_append, List.flatMap_append, ih (by omega)]
      simp [chs k (by omega)]
  exact this n (Nat.le_refl _)

structure MajP (ss : List Srs) : Prop where
  right : RightS ss
  lo : ∀ s ∈ ss, (0 ≤ s.1 ∧ s.1 < 200) ∧ SmpP s.2
def tblM (ss : List Srs) : List UInt8 := ss.flatMap fun s => uintL s.1.toNat ++ uintL (encD s.2).length
def bdyM (ss : List Srs) : List UInt8 := ss.flatMap fun s => encD s.2
def encM (ss : List Srs) : List UInt8 := uintL ss.length ++ (tblM ss ++ bdyM ss)
theorem rise_len {l : List Int} (hp : l.Pairwise (· < ·)) {a b : Int} (h : ∀ x ∈ l, a ≤ x ∧ x < b) : l.length ≤ (b - a).toNat := by
  induction l generalizing a with
  | nil => simp
  | cons x l ih =>
    have h1 := h x (by simp)
    have := ih (List.pairwise_cons.1 hp).2 (a := x + 1) fun y hy => ⟨by have := (List.pairwise_cons.1 hp).1 y hy; omega, (h y (by simp [hy])).2⟩
    rw [List.length_cons]; omega
theorem MajP.len {ss : List Srs} (h : MajP ss) : ss.length ≤ 200 := by
  have := rise_len (l := ss.map (·.1)) (a := 0) (b := 200) (by rw [List.pairwise_map]; exact h.right.1) fun x hx => by
    obtain ⟨s, hs, rfl⟩ := List.mem_map.1 hx
    exact (h.lo s hs).1
  simpa using this
theorem tailL_len (l : List Smp) : (tailL l).length ≤ 2 + 176 * l.length := by
  unfold tailL
  split
  · simp
  · rw [List.length_cons, List.length_cons]
    have h1 := pack_len (bitsTo l (bestN (tsL l)) (bestN (vsL l)) (l.length - 1))
    have h2 := bitsTo_len l (bestN_le (tsL l)) (bestN_le (vsL l)) (l.length - 1)
    omega
theorem encD_len {l : List Smp} (h : SmpP l) : (encD l).length ≤ 1000000 := by
  unfold encD
  rw [List.length_append, List.length_append]
  have h1 := uintL_len10 (n := l.length) (by have := h.len; omega)
  have h2 := headL_len h
  have h3 := tailL_len l
  have := h.len
  omega
theorem bdyM_len {ss : List Srs} (h : ∀ s ∈ ss, SmpP s.2) : (bdyM ss).length ≤ 1000000 * ss.length := by
  induction ss with
  | nil => simp [bdyM]
  | cons s ss ih =>
    unfold bdyM at ih ⊢
    rw [List.flatMap_cons, List.length_append, List.length_cons]
    have := encD_len (h s (by simp))
    have := ih fun x hx => h x (by simp [hx])
    omega
theorem tblM_len {ss : List Srs} (h : ∀ s ∈ ss, (0 ≤ s.1 ∧ s.1 < 200) ∧ SmpP s.2) : (tblM ss).length ≤ 20 * ss.length := by
  induction ss with
  | nil => simp [tblM]
  | cons s ss ih =>
    unfold tblM at ih ⊢
    rw [List.flatMap_cons, List.length_append, List.length_append, List.length_cons]
    have h0 := h s (by simp)
    have h1 := uintL_len10 (n := s.1.toNat) (by omega)
    have h2 := uintL_len10 (n := (encD s.2).length) (by have := encD_len h0.2; omega)
    have := ih fun x hx => h x (by simp [hx])
    omega
theorem tblM_snoc (ss : List Srs) (s : Srs) : tblM (ss ++ [s]) = tblM ss ++ (uintL s.1.toNat ++ uintL (encD s.2).length) := by unfold tblM; rw [List.flatMap_append]; simp
theorem bdyM_snoc (ss : List Srs) (s : Srs) : bdyM (ss ++ [s]) = bdyM ss ++ encD s.2 := by unfold bdyM; rw [List.flatMap_append]; simp
abbrev Z := Nat × Nat
def tabL (zs : List Z) : List UInt8 := zs.flatMap fun z => uintL z.1 ++ uintL z.2
def sumZ (zs : List Z) : Nat := (zs.map (·.2)).sum
structure TabP (s : ByteArray) (zs : List Z) : Prop where
  rise : zs.Pairwise fun a b => a.1 < b.1
  lo : ∀ z ∈ zs, z.1 < 200
  s : ∃ r, bl s = uintL zs.length ++ (tabL zs ++ r) ∧ r.length = sumZ zs
theorem TabP.len {s : ByteArray} {zs : List Z} (h : TabP s zs) : zs.length ≤ 200 := by
  have := rise_len (l := zs.map fun z => (z.1 : Int)) (a := 0) (b := 200) (by rw [List.pairwise_map]; exact h.rise.imp fun h => by omega) fun x hx => by
    obtain ⟨z, hz, rfl⟩ := List.mem_map.1 hx
    have := h.lo z hz
    omega
  simpa using this
theorem tabL_snoc (zs : List Z) (z : Z) : tabL (zs ++ [z]) = tabL zs ++ (uintL z.1 ++ uintL z.2) := by unfold tabL; rw [List.flatMap_append]; simp
theorem tabL_cons (z : Z) (zs : List Z) : tabL (z :: zs) = uintL z.1 ++ (uintL z.2 ++ tabL zs) := by unfold tabL; rw [List.flatMap_cons]; simp
theorem tabL_app (a b : List Z) : tabL (a ++ b) = tabL a ++ tabL b := by unfold tabL; rw [List.flatMap_append]
theorem sumZ_snoc (zs : List Z) (z : Z) : sumZ (zs ++ [z]) = sumZ zs + z.2 := by unfold sumZ; simp
theorem sumZ_app (a b : List Z) : sumZ (a ++ b) = sumZ a + sumZ b := by unfold sumZ; simp
theorem tabL_inj : ∀ {a b : List Z} {x y : List UInt8}, a.length = b.length → tabL a ++ x = tabL b ++ y → a = b ∧ x = y
  | [], [], _, _, _, h => ⟨rfl, h⟩
  | [], _ :: _, _, _, hl, _ => by simp at hl
  | _ :: _, [], _, _, hl, _ => by simp at hl
  | z :: a, w :: b, x, y, hl, h => by
    rw [tabL_cons, tabL_cons] at h
    simp only [List.append_assoc] at h
    obtain ⟨e1, h⟩ := uint_eq h
    obtain ⟨e2, h⟩ := uint_eq h
    obtain ⟨e3, e4⟩ := tabL_inj (by simpa using hl) h
    exact ⟨by rw [e3, Prod.ext e1 e2], e4⟩
theorem TabP.uniq {s : ByteArray} {zs zs' : List Z} (h : TabP s zs) (h' : TabP s zs') : zs = zs' := by
  obtain ⟨r, h1, _⟩ := h.s
  obtain ⟨r', h2, _⟩ := h'.s
  rw [h1] at h2
  obtain ⟨e1, h2⟩ := uint_eq h2
  exact (tabL_inj e1 h2).1
def zsM (ss : List Srs) : List Z := ss.map fun s => (s.1.toNat, (encD s.2).length)
theorem tabL_zsM (ss : List Srs) : tabL (zsM ss) = tblM ss := by
  unfold tabL zsM tblM
  rw [List.flatMap_map]
theorem sumZ_zsM (ss : List Srs) : sumZ (zsM ss) = (bdyM ss).length := by
  unfold sumZ zsM bdyM
  rw [List.length_flatMap, List.map_map]; rfl
theorem MajP.tab {ss : List Srs} {s : ByteArray} (h : MajP ss) (hs : bl s = encM ss) : TabP s (zsM ss) := by
  refine ⟨?_, fun z hz => ?_, bdyM ss, ?_, (sumZ_zsM ss).symm⟩
  · unfold zsM
    rw [List.pairwise_map]
    refine List.Pairwise.imp_of_mem (fun ha hb hlt => ?_) h.right.1
    have := (h.lo _ ha).1
    have := (h.lo _ hb).1
    simp only
    omega
  · unfold zsM at hz
    obtain ⟨x, hx, rfl⟩ := List.mem_map.1 hz
    have := (h.lo x hx).1
    simp only
    omega
  · rw [hs, tabL_zsM]
    unfold encM
    rw [show (zsM ss).length = ss.length by simp [zsM]]
def posZ (zs : List Z) : Nat := (uintL zs.length).length + (tabL zs).length
def offZ (zs : List Z) (i : Nat) : Nat := sumZ (zs.take i)
theorem offZ_succ {zs : List Z} {i : Nat} {z : Z} (h : zs[i]? = some z) : offZ zs (i + 1) = offZ zs i + z.2 := by
  unfold offZ; rw [List.take_add_one, h]; exact sumZ_snoc _ _
theorem offZ_le (zs : List Z) (i : Nat) : offZ zs i ≤ sumZ zs := by
  have := sumZ_app (zs.take i) (zs.drop i)
  rw [List.take_append_drop] at this
  unfold offZ; omega
theorem TabP.size {s : ByteArray} {zs : List Z} (h : TabP s zs) : posZ zs + sumZ zs = s.size := by
  obtain ⟨r, h1, h2⟩ := h.s
  have := congrArg List.length h1
  rw [bl_len, List.length_append, List.length_append] at this
  unfold posZ; omega
theorem TabP.drop {s : ByteArray} {zs : List Z} (h : TabP s zs) : ∃ r, (bl s).drop (posZ zs) = r ∧ r.length = sumZ zs ∧ bl s = uintL zs.length ++ (tabL zs ++ r) := by
  obtain ⟨r, h1, h2⟩ := h.s
  refine ⟨r, ?_, h2, h1⟩
  have := drop_pre (l := bl s) (k := 0) (x := uintL zs.length) (y := tabL zs ++ r) (by rw [List.drop_zero]; exact h1)
  have := drop_pre this
  unfold posZ
  rwa [Nat.zero_add] at this
def pieceZ (s : ByteArray) (zs : List Z) (i : Nat) : ByteArray := s.extract (posZ zs + offZ zs i) (posZ zs + offZ zs (i + 1))
theorem bl_piece {s : ByteArray} {zs : List Z} {i : Nat} {z : Z} (h : zs[i]? = some z) : bl (pieceZ s zs i) = (((bl s).drop (posZ zs)).drop (offZ zs i)).take z.2 := by
  unfold pieceZ
  rw [bl_ext, offZ_succ h, List.drop_take, List.drop_drop, show posZ zs + (offZ zs i + z.2) - (posZ zs + offZ zs i) = z.2 by omega]
theorem bdyM_piece : ∀ {ss : List Srs} {i : Nat} {x : Srs}, ss[i]? = some x → ((bdyM ss).drop (offZ (zsM ss) i)).take (encD x.2).length = encD x.2
  | [], _, _, h => by simp at h
  | y :: ss, 0, x, h => by
    simp at h; subst h
    unfold bdyM
    rw [List.flatMap_cons]
    have : offZ (zsM (y :: ss)) 0 = 0 := by simp [offZ, sumZ]
    rw [this, List.drop_zero, List.take_left]
  | y :: ss, i + 1, x, h => by
    have ih := bdyM_piece (ss := ss) (i := i) (by simpa using h)
    have e : offZ (zsM (y :: ss)) (i + 1) = (encD y.2).length + offZ (zsM ss) i := by simp [offZ, zsM, sumZ]
    have e2 : bdyM (y :: ss) = encD y.2 ++ bdyM ss := by unfold bdyM; rw [List.flatMap_cons]
    rw [e, e2, ← List.drop_drop, List.drop_left]
    exact ih
theorem MajP.piece {ss : List Srs} {s : ByteArray} (h : MajP ss) (hs : bl s = encM ss) {i : Nat} {x : Srs} (hx : ss[i]? = some x) : bl (pieceZ s (zsM ss) i) = encD x.2 := by
  have hz : (zsM ss)[i]? = some (x.1.toNat, (encD x.2).length) := by unfold zsM; rw [List.getElem?_map, hx]; rfl
  rw [bl_piece hz]
  obtain ⟨r, h1, h2, h3⟩ := (h.tab hs).drop
  have : r = bdyM ss := by
    rw [hs] at h3
    unfold encM at h3
    rw [tabL_zsM, show (zsM ss).length = ss.length by simp [zsM]] at h3
    exact (List.append_cancel_left (List.append_cancel_left h3)).symm
  rw [h1, this]
  exact bdyM_piece hx
theorem encM_of {s : ByteArray} {zs : List Z} {ss : List Srs} (h : TabP s zs) (hl : ss.length = zs.length) (hss : ∀ i z x, zs[i]? = some z → ss[i]? = some x → x.1 = z.1 ∧ bl (pieceZ s zs i) = encD x.2) : bl s = encM ss := by
  obtain ⟨r, h1, h2, h3⟩ := h.drop
  have hz : ∀ i z, zs[i]? = some z → (((r.drop (offZ zs i)).take z.2).length = z.2) := fun i z hz => by
    have a1 := offZ_succ hz
    have a2 := offZ_le zs (i + 1)
    rw [List.length_take, List.length_drop]
    omega
  have key : ∀ j, j ≤ zs.length → zs.take j = zsM (ss.take j) ∧ r.take (offZ zs j) = bdyM (ss.take j) := by
    intro j
    induction j with
    | zero => exact fun _ => ⟨rfl, by simp [offZ, sumZ, bdyM]⟩
    | succ j ih =>
      intro hj
      obtain ⟨i1, i2⟩ := ih (by omega)
      have g1 := List.getElem?_eq_getElem (l := zs) (i := j) (by omega)
      have g2 := List.getElem?_eq_getElem (l := ss) (i := j) (by omega)
      obtain ⟨q1, q2⟩ := hss j _ _ g1 g2
      rw [bl_piece g1, h1] at q2
      have q3 := hz j _ g1
      rw [q2] at q3
      refine ⟨?_, ?_⟩
      · rw [List.take_add_one, List.take_add_one, g1, g2, i1]
        unfold zsM
        rw [List.map_append]
        simp only [Option.toList_some, List.map_cons, List.map_nil]
        congr 2
        exact Prod.ext (by simp only; omega) q3.symm
      · rw [List.take_add_one, g2]
        simp only [Option.toList_some]
        rw [bdyM_snoc, ← i2, ← q2, offZ_succ g1, List.take_add]
  have k := key zs.length (Nat.le_refl _)
  rw [List.take_of_length_le (Nat.le_refl _), List.take_of_length_le (by omega)] at k
  have e : offZ zs zs.length = r.length := by unfold offZ; rw [List.take_of_length_le (Nat.le_refl _), h2]
  rw [e, List.take_of_length_le (Nat.le_refl _)] at k
  rw [h3, k.2, ← hl]
  unfold encM
  rw [← tabL_zsM, ← k.1]
theorem encM_inj {ss ts : List Srs} (hs : MajP ss) (ht : MajP ts) (h : encM ss = encM ts) : ss = ts := by
  let s : ByteArray := ⟨(encM ss).toArray⟩
  have h1 : bl s = encM ss := bl_mk _
  have h2 : bl s = encM ts := by rw [h1, h]
  have hu := (hs.tab h1).uniq (ht.tab h2)
  have hl : ss.length = ts.length := by
    have := congrArg List.length hu
    simpa [zsM] using this
  refine List.ext_getElem? fun i => ?_
  by_cases hi : i < ss.length
  · have g1 := List.getElem?_eq_getElem hi
    have g2 := List.getElem?_eq_getElem (l := ts) (i := i) (by omega)
    have p1 := hs.piece h1 g1
    have p2 := ht.piece h2 g2
    rw [← hu, p1] at p2
    have m1 := hs.lo _ (List.mem_of_getElem? g1)
    have m2 := ht.lo _ (List.mem_of_getElem? g2)
    have e := encD_inj m1.2 m2.2 (x := []) (y := []) p2
    have ei := congrArg (fun l => l[i]?) hu
    unfold zsM at ei
    simp only [List.getElem?_map, g1, g2, Option.map_some, Option.some.injEq, Prod.mk.injEq] at ei
    rw [g1, g2]
    congr 1
    exact Prod.ext (by omega) e
  · rw [List.getElem?_eq_none (by omega), List.getElem?_eq_none (by omega)]

inductive All2 {α β : Type} (R : α → β → Prop) : List α → List β → Prop
  | nil : All2 R [] []
  | cons {x y xs ys} : R x y → All2 R xs ys → All2 R (x :: xs) (y :: ys)
section
variable {α β : Type} {R : α → β → Prop}
theorem All2.len {xs : List α} {ys : List β} (h : All2 R xs ys) : xs.length = ys.length := by
  induction h with
  | nil => rfl
  | cons _ _ ih => simp [ih]
theorem All2.mono {R' : α → β → Prop} {xs : List α} {ys : List β} (h : All2 R xs ys) (hr : ∀ x y, x ∈ xs → y ∈ ys → R x y → R' x y) : All2 R' xs ys := by
  induction h with
  | nil => exact .nil
  | cons h1 _ ih => exact .cons (hr _ _ (by simp) (by simp) h1) (ih fun x y hx hy => hr x y (by simp [hx]) (by simp [hy]))
theorem All2.app {xs xs' : List α} {ys ys' : List β} (h : All2 R xs ys) (h' : All2 R xs' ys') : All2 R (xs ++ xs') (ys ++ ys') := by
  induction h with
  | nil => exact h'
  | cons h1 _ ih => exact .cons h1 ih
theorem All2.get {xs : List α} {ys : List β} (h : All2 R xs ys) {i : Nat} {x : α} (hx : xs[i]? = some x) : ∃ y, ys[i]? = some y ∧ R x y := by
  induction h generalizing i with
  | nil => simp at hx
  | cons h1 _ ih =>
    cases i with
    | zero => simp at hx; subst hx; exact ⟨_, rfl, h1⟩
    | succ i => simp at hx; simpa using ih hx
theorem All2.get' {xs : List α} {ys : List β} (h : All2 R xs ys) {i : Nat} {y : β} (hy : ys[i]? = some y) : ∃ x, xs[i]? = some x ∧ R x y := by
  induction h generalizing i with
  | nil => simp at hy
  | cons h1 _ ih =>
    cases i with
    | zero => simp at hy; subst hy; exact ⟨_, rfl, h1⟩
    | succ i => simp at hy; simpa using ih hy
theorem All2.set {xs : List α} {ys : List β} (h : All2 R xs ys) {i : Nat} {x : α} {y : β} (hr : R x y) : All2 R (xs.set i x) (ys.set i y) := by
  induction h generalizing i with
  | nil => exact .nil
  | cons h1 h2 ih =>
    cases i with
    | zero => exact .cons hr h2
    | succ i => exact .cons h1 ih
theorem All2.mem {xs : List α} {ys : List β} (h : All2 R xs ys) {x : α} (hx : x ∈ xs) : ∃ y ∈ ys, R x y := by
  obtain ⟨i, hi⟩ := List.getElem?_of_mem hx
  obtain ⟨y, hy, hr⟩ := h.get hi
  exact ⟨y, List.mem_of_getElem? hy, hr⟩
theorem All2.mem' {xs : List α} {ys : List β} (h : All2 R xs ys) {y : β} (hy : y ∈ ys) : ∃ x ∈ xs, R x y := by
  obtain ⟨i, hi⟩ := List.getElem?_of_mem hy
  obtain ⟨x, hx, hr⟩ := h.get' hi
  exact ⟨x, List.mem_of_getElem? hx, hr⟩
end
theorem All2.perm {α β : Type} {R : α → β → Prop} : ∀ {xs xs' : List α} {ys : List β}, xs'.Perm xs → All2 R xs ys → ∃ ys', ys'.Perm ys ∧ All2 R xs' ys' := by
  intro xs xs' ys hp
  induction hp generalizing ys with
  | nil => intro h; exact ⟨ys, List.Perm.refl _, h⟩
  | cons x _ ih =>
    intro h
    cases h with
    | cons h1 h2 =>
      obtain ⟨ys', p, q⟩ := ih h2
      exact ⟨_ :: ys', List.Perm.cons _ p, .cons h1 q⟩
  | swap x y l =>
    intro h
    cases h with
    | cons h1 h2 =>
      cases h2 with
      | cons h3 h4 => exact ⟨_, List.Perm.swap _ _ _, .cons h3 (.cons h1 h4)⟩
  | trans _ _ ih1 ih2 =>
    intro h
    obtain ⟨ys1, p1, q1⟩ := ih2 h
    obtain ⟨ys2, p2, q2⟩ := ih1 q1
    exact ⟨ys2, p2.trans p1, q2⟩

def SerR (H : Heap) (x : Sr) (s : Srs) : Prop := x.1 = s.1 ∧ Sl encS H x.2.1 x.2.2.1 x.2.2.2 s.2
def SerH (H : Heap) (hs : List Sr) (ss : List Srs) : Prop := All2 (SerR H) hs ss
theorem SerH.keep {H H' : Heap} {hs : List Sr} {ss : List Srs} (h : SerH H hs ss) (hf : Fr [] H H') : SerH H' hs ss := All2.mono h fun x y _ _ hr => ⟨hr.1, hr.2.keep hf⟩
theorem SerH.merge {H : Heap} : ∀ {hs hs' : List Sr} {ss ss' : List Srs}, SerH H hs ss → SerH H hs' ss' → SerH H (mrgC cfSr hs hs') (mrgC cfP ss ss')
  | [], hs', ss, ss', h, h' => by
    cases h
    rw [mrgC_nil, mrgC_nil]; exact h'
  | x :: hs, [], ss, ss', h, h' => by
    cases h'
    rw [mrgC_nil', mrgC_nil']; exact h
  | x :: hs, y :: hs', ss, ss', h, h' => by
    cases h with
    | cons h1 h2 =>
      cases h' with
      | cons h1' h2' =>
        rename_i s ss s' ss'
        have e : cfSr x y = cfP s s' := by unfold cfSr cfP; rw [h1.1, h1'.1]
        rw [mrgC_cons, mrgC_cons, e]
        split
        · exact .cons h1 (SerH.merge h2 (.cons h1' h2'))
        · split
          · exact .cons h1' (SerH.merge h2 h2')
          · exact .cons h1' (SerH.merge (.cons h1 h2) h2')
termination_by hs hs' => hs.length + hs'.length
theorem SerH.pw {H : Heap} {hs : List Sr} {ss : List Srs} (h : SerH H hs ss) (hr : ss.Pairwise fun a b => a.1 < b.1) : hs.Pairwise fun a b => a.1 < b.1 := by
  induction h with
  | nil => exact List.Pairwise.nil
  | cons h1 h2 ih =>
    have hr' := List.pairwise_cons.1 hr
    refine List.pairwise_cons.2 ⟨fun x hx => ?_, ih hr'.2⟩
    obtain ⟨y, hy, e⟩ := All2.mem h2 hx
    rw [h1.1, e.1]; exact hr'.1 y hy

noncomputable abbrev MT : KeyT Tryz.prog 3 Int := keyInt Tryz.underlying3
theorem M63 : Tryz.prog.underlying 123 = some (.map 3 90) := Tryz.underlying123
theorem Z22 : zeroOf Tryz.prog 90 = some (.slice none 0 0) := by kernel_rfl
structure Grp (H : Heap) (base r : Nat) (L : List (Ent Int)) (G : Int → List Smp) : Prop where
  ent : ∀ id v, getL id L = some v → ∃ a n c, v = .slice a n c ∧ Own encS 107 base H a n c (G id) ∧ G id ≠ [] ∧ r ∉ blkL a
  dj : ∀ id id' a n c a' n' c', id ≠ id' → getL id L = some (.slice a n c) → getL id' L = some (.slice a' n' c') → Dj (blkL a) (blkL a')
  no : ∀ id, getL id L = none → G id = []
theorem Grp.start (H : Heap) (base r : Nat) : Grp H base r [] (fun _ => []) := ⟨fun id v h => (by simp [getL] at h), fun id id' a n c a' n' c' _ h => (by simp [getL] at h), fun _ _ => rfl⟩
theorem _root_.Go.GV.Own.bIn {α : Type} {E : Enc α} {t : TypeId} {base : Nat} {H : Heap} {a : Option Addr} {n c : Nat} {xs : List α} (h : Own E t base H a n c xs) : ∀ k ∈ blkL a, k < H.size := fun k hk => (h.ge k hk).2
theorem own_fr {α : Type} {E : Enc α} {t : TypeId} {base : Nat} {H H' : Heap} {a : Option Addr} {n c : Nat} {xs : List α} {S : List Nat} (h : Own E t base H a n c xs) (hf : Fr S H H') (hd : Dj (blkL a) S) : Own E t base H' a n c xs :=
  h.fr hf fun ad e => hd ad.block (by subst e; simp [blkL])
theorem sl_fr {α : Type} {E : Enc α} {H H' : Heap} {a : Option Addr} {n c : Nat} {xs : List α} {S : List Nat} (h : Sl E H a n c xs) (hf : Fr S H H') (hd : Dj (blkL a) S) : Sl E H' a n c xs :=
  h.fr hf fun ad e => hd ad.block (by subst e; simp [blkL])

theorem Grp.put {H H' H'' : Heap} {base r ck : Nat} {L : List (Ent Int)} {G : Int → List Smp} {id : Int} {a' : Option Addr} {n' c' : Nat} {x : Smp} {S : List Nat} (h : Grp H base r L G)
    (hf : Fr S H H') (hS : ∀ a n c, getL id L = some (.slice a n c) → S = blkL a) (hS0 : getL id L = none → S = []) (ho : Own encS 107 base H' a' n' c' (G id ++ [x])) (hr : r < H.size)
    (hg : Grow H S (blkL a')) (hf2 : Fr [r] H' H'') : Grp H'' base r (putL id (.slice a' n' c') ck L) (fun j => if j = id then G id ++ [x] else G j) := by
  have hra : r ∉ blkL a' := fun hk => by
    rcases hg r hk with h1 | h1
    · cases hl : getL id L with
      | none => rw [hS0 hl] at h1; cases h1
      | some v =>
        obtain ⟨a, n, c, rfl, _, _, h4⟩ := h.ent id v hl
        rw [hS a n c hl] at h1; exact h4 h1
    · omega
  have dS : ∀ j a n c, j ≠ id → getL j L = some (.slice a n c) → Dj (blkL a) S := fun j a n c hj hl => by
    cases hl' : getL id L with
    | none => rw [hS0 hl']; exact fun _ _ => by simp
    | some v =>
      obtain ⟨a2, n2, c2, rfl, _, _, _⟩ := h.ent id v hl'
      rw [hS a2 n2 c2 hl']; exact h.dj j id a n c a2 n2 c2 hj hl hl'
  have dA : ∀ j a n c, j ≠ id → getL j L = some (.slice a n c) → Dj (blkL a) (blkL a') := fun j a n c hj hl k hk hk' => by
    rcases hg k hk' with h1 | h1
    · exact dS j a n c hj hl k hk h1
    · obtain ⟨_, _, _, e, h2, _⟩ := h.ent j _ hl
      cases e
      have := h2.bIn k hk; omega
  refine ⟨fun j v hj => ?_, fun j j' a n c a2 n2 c2 hne hj hj' => ?_, fun j hj => ?_⟩
  · rw [getL_putL] at hj
    by_cases e : j = id
    · subst e
      rw [if_pos rfl] at hj
      cases hj
      rw [if_pos rfl]
      exact ⟨_, _, _, rfl, own_fr ho hf2 (fun k hk hk' => by simp at hk'; subst hk'; exact hra hk), by simp, hra⟩
    · rw [if_neg e] at hj
      rw [if_neg e]
      obtain ⟨a, n, c, rfl, h2, h3, h4⟩ := h.ent j v hj
      exact ⟨a, n, c, rfl, own_fr (own_fr h2 hf (dS j a n c e hj)) hf2 (fun k hk hk' => by simp at hk'; subst hk'; exact h4 hk), h3, h4⟩
  · rw [getL_putL] at hj hj'
    by_cases e : j = id
    · subst e
      rw [if_pos rfl] at hj
      cases hj
      rw [if_neg (fun e => hne e.symm)] at hj'
      exact (dA j' a2 n2 c2 (fun e => hne e.symm) hj').symm
    · rw [if_neg e] at hj
      by_cases e' : j' = id
      · subst e'
        rw [if_pos rfl] at hj'
        cases hj'
        exact dA j a n c e hj
      · rw [if_neg e'] at hj'
        exact h.dj j j' a n c a2 n2 c2 hne hj hj'
  · rw [getL_putL] at hj
    by_cases e : j = id
    · rw [if_pos e] at hj; cases hj
    · rw [if_neg e] at hj
      rw [if_neg e]; exact h.no j hj
theorem Grp.ext {H : Heap} {base r : Nat} {L : List (Ent Int)} {G G' : Int → List Smp} (h : Grp H base r L G) (e : ∀ j, G j = G' j) : Grp H base r L G' := by
  have : G = G' := funext e
  subst this; exact h
theorem Grp.keep {H H' : Heap} {base r : Nat} {L : List (Ent Int)} {G : Int → List Smp} (h : Grp H base r L G) (hf : Fr [] H H') : Grp H' base r L G :=
  ⟨fun id v hv => by obtain ⟨a, n, c, e, h2, h3, h4⟩ := h.ent id v hv; exact ⟨a, n, c, e, h2.keep hf, h3, h4⟩, h.dj, h.no⟩

def adL (L : List (Ent Int)) (id : Int) : Option Addr := match getL id L with | some (.slice a _ _) => a | _ => none
theorem adL_of {L : List (Ent Int)} {id : Int} {a : Option Addr} {n c : Nat} (h : getL id L = some (.slice a n c)) : adL L id = a := by unfold adL; rw [h]

structure Mor (H : Heap) (base r it ck : Nat) (L : List (Ent Int)) (G : Int → List Smp) (seen : Array Nat) (o : Option Addr) (l c : Nat) (ms : List Sr) (ss : List Srs) : Prop where
  map : MapR MT H r ck L
  itr : H[it]? = some (.mapIter (some r) ck seen ck)
  un : ∀ e ∈ L, e.2.2 ∉ seen → ∃ n c, e.2.1 = .slice (adL L e.1) n c ∧ Own encS 107 base H (adL L e.1) n c (G e.1)
  msr : All2 (fun m s => m.1 = s.1 ∧ m.2.1 = adL L m.1 ∧ Own encS 107 base H m.2.1 m.2.2.1 m.2.2.2 s.2 ∧ FinP (G m.1) s.2) ms ss
  key : ∀ id, (∃ m ∈ ms, m.1 = id) ↔ ∃ e ∈ L, e.1 = id ∧ e.2.2 ∈ seen
  nd : (ms.map (·.1)).Nodup
  mo : Own encSr 92 base H o l c ms
  od : ∀ e ∈ L, Dj (blkL o) (blkL (adL L e.1))
  dj : ∀ e ∈ L, ∀ e' ∈ L, e.1 ≠ e'.1 → Dj (blkL (adL L e.1)) (blkL (adL L e'.1))
  ro : r ∉ blkL o ∧ it ∉ blkL o ∧ r ≠ it
  ra : ∀ e ∈ L, r ∉ blkL (adL L e.1) ∧ it ∉ blkL (adL L e.1)
  ne : ∀ e ∈ L, G e.1 ≠ []
theorem Mor.start {H H' : Heap} {base r it ck : Nat} {L : List (Ent Int)} {G : Int → List Smp} (h : Grp H base r L G) (hm : MapR MT H r ck L) (hn : New H it (.mapIter (some r) ck #[] ck) H') : Mor H' base r it ck L G #[] none 0 0 [] [] := by
  have hi := hn.eq
  have hg : ∀ e ∈ L, ∃ a n c, e.2.1 = .slice a n c ∧ getL e.1 L = some (.slice a n c) ∧ Own encS 107 base H a n c (G e.1) ∧ G e.1 ≠ [] ∧ r ∉ blkL a := fun e he => by
    have h1 := getL_mem hm.wf (k := e.1) (v := e.2.1) (b := e.2.2) he
    obtain ⟨a, n, c, e1, h2, h3, h4⟩ := h.ent _ _ h1
    exact ⟨a, n, c, e1, by rw [← e1]; exact h1, h2, h3, h4⟩
  refine ⟨hm.keep MT hn.fr, hn.get, fun e he _ => ?_, .nil, fun id => by simp, by simp, Own.nil _ _ _ _, fun e _ k hk => by simp [blkL] at hk, fun e he e' he' hne => ?_, ⟨by simp [blkL], by simp [blkL], by have := hm.lt; omega⟩, fun e he => ?_, fun e he => ?_⟩
  · obtain ⟨a, n, c, e1, e2, h2, _⟩ := hg e he
    rw [adL_of e2]
    exact ⟨n, c, e1, h2.keep hn.fr⟩
  · obtain ⟨a, n, c, _, e2, _⟩ := hg e he
    obtain ⟨a', n', c', _, e2', _⟩ := hg e' he'
    rw [adL_of e2, adL_of e2']
    exact h.dj _ _ _ _ _ _ _ _ hne e2 e2'
  · obtain ⟨a, n, c, _, e2, h2, _, h4⟩ := hg e he
    rw [adL_of e2]
    exact ⟨h4, fun hk => by have := h2.bIn it hk; omega⟩
  · obtain ⟨a, n, c, _, e2, h2, h3, h4⟩ := hg e he
    exact h3

theorem Mor.step {H H1 H4 H5 H6 : Heap} {base r it ck : Nat} {L : List (Ent Int)} {G : Int → List Smp} {seen : Array Nat} {o : Option Addr} {l c : Nat} {ms : List Sr} {ss : List Srs} {e : Ent Int} {n' c' : Nat} {f : List Smp} {o' : Option Addr} {l' d' : Nat}
    (h : Mor H base r it ck L G seen o l c ms ss) (he : e ∈ L) (hns : e.2.2 ∉ seen) (hi : H1[it]? = some (.mapIter (some r) ck (seen.push e.2.2) ck)) (hf1 : Fr [it] H H1) (hf2 : Fr (blkL (adL L e.1)) H1 H4)
    (ho4 : Own encS 107 base H4 (adL L e.1) n' c' f) (hF : FinP (G e.1) f) (hf5 : Fr [] H4 H5) (ho6 : Own encSr 92 base H6 o' l' d' (ms ++ [(e.1, (adL L e.1, n', c'))])) (hf6 : Fr (blkL o) H5 H6) (hg : Grow H5 (blkL o) (blkL o')) :
    Mor H6 base r it ck L G (seen.push e.2.2) o' l' d' (ms ++ [(e.1, (adL L e.1, n', c'))]) (ss ++ [(e.1, f)]) := by
  have hw := h.map.wf
  have s1 := hf1.size
  have s2 := hf2.size
  have s5 := hf5.size
  have hit : it < H.size := lt_of_get h.itr
  have hr : r < H.size := h.map.lt
  have r1 : r ∉ blkL (adL L e.1) := (h.ra e he).1
  have i1 : it ∉ blkL (adL L e.1) := (h.ra e he).2
  have own : ∀ {a : Option Addr} {p q : Nat} {xs : List Smp}, Own encS 107 base H a p q xs → it ∉ blkL a → Dj (blkL a) (blkL (adL L e.1)) → Dj (blkL o) (blkL a) → Own encS 107 base H6 a p q xs := fun ho h1 h2 h3 =>
    own_fr ((own_fr (own_fr ho hf1 (fun k hk hk' => by simp at hk'; subst hk'; exact h1 hk)) hf2 h2).keep hf5) hf6 h3.symm
  have hdiff : ∀ e' ∈ L, e'.2.2 ≠ e.2.2 → e'.1 ≠ e.1 := fun e' he' hne hk => hne (by rw [ent_key hw he' he hk])
  have hgl : ∀ {T : List Nat}, Dj (blkL o) T → (∀ k ∈ T, k < H5.size) → Dj (blkL o') T := fun hd hT k hk hk' => by
    rcases hg k hk with h1 | h1
    · exact hd k h1 hk'
    · have := hT k hk'; omega
  refine ⟨((h.map.fr MT hf1 (by simp; exact h.ro.2.2)).fr MT hf2 r1 |>.keep MT hf5).fr MT hf6 h.ro.1, ?_, fun e' he' hns' => ?_, ?_, fun id => ?_, ?_, ho6, fun e' he' => ?_, h.dj, ⟨?_, ?_, h.ro.2.2⟩, h.ra, h.ne⟩
  · exact hf6.get (hf5.get0 (hf2.get hi i1)) h.ro.2.1
  · have hne : e'.2.2 ≠ e.2.2 := fun hk => hns' (by rw [hk]; simp)
    have hns2 : e'.2.2 ∉ seen := fun hk => hns' (by simp [hk])
    obtain ⟨n, c, e1, h2⟩ := h.un e' he' hns2
    exact ⟨n, c, e1, own h2 (h.ra e' he').2 (h.dj e' he' e he (hdiff e' he' hne)) (h.od e' he')⟩
  · refine (h.msr.mono fun m s hm hs hR => ?_).app (.cons ⟨rfl, rfl, own_fr (ho4.keep hf5) hf6 (h.od e he).symm, hF⟩ .nil)
    obtain ⟨g1, g2, g3, g4⟩ := hR
    obtain ⟨e', he', hk, hs'⟩ := (h.key m.1).1 ⟨m, hm, rfl⟩
    have hne : e'.1 ≠ e.1 := fun hk' => hns (by rw [← ent_key hw he' he hk']; exact hs')
    refine ⟨g1, g2, own g3 ?_ ?_ ?_, g4⟩
    · rw [g2, ← hk]; exact (h.ra e' he').2
    · rw [g2, ← hk]; exact h.dj e' he' e he hne
    · rw [g2, ← hk]; exact h.od e' he'
  · constructor
    · rintro ⟨m, hm, rfl⟩
      rcases List.mem_append.1 hm with hm | hm
      · obtain ⟨e', he', hk, hs'⟩ := (h.key m.1).1 ⟨m, hm, rfl⟩
        exact ⟨e', he', hk, by simp [hs']⟩
      · simp at hm; subst hm
        exact ⟨e, he, rfl, by simp⟩
    · rintro ⟨e', he', rfl, hs'⟩
      by_cases hk : e'.2.2 = e.2.2
      · have := ent_born hw he' he hk
        subst this
        exact ⟨_, List.mem_append_right _ (List.mem_singleton.2 rfl), rfl⟩
      · have hs2 : e'.2.2 ∈ seen := by simpa [hk] using hs'
        obtain ⟨m, hm, hk'⟩ := (h.key e'.1).2 ⟨e', he', rfl, hs2⟩
        exact ⟨m, List.mem_append_left _ hm, hk'⟩
  · rw [List.map_append, List.nodup_append]
    refine ⟨h.nd, by simp, fun a ha b hb hab => ?_⟩
    simp at hb
    subst hb
    obtain ⟨m, hm, hk⟩ := List.mem_map.1 ha
    obtain ⟨e', he', hk', hs'⟩ := (h.key m.1).1 ⟨m, hm, rfl⟩
    exact hns (by rw [← ent_key hw he' he (by rw [hk', hk, hab])]; exact hs')
  · refine hgl (h.od e' he') fun k hk => ?_
    by_cases hs' : e'.2.2 ∈ seen
    · obtain ⟨m, hm, hk'⟩ := (h.key e'.1).2 ⟨e', he', rfl, hs'⟩
      obtain ⟨s, _, g1, g2, g3, _⟩ := h.msr.mem hm
      rw [← hk', ← g2] at hk
      have := g3.bIn k hk; omega
    · obtain ⟨_, _, _, h2⟩ := h.un e' he' hs'
      have := h2.bIn k hk; omega
  · intro hk
    rcases hg r hk with h1 | h1
    · exact h.ro.1 h1
    · omega
  · intro hk
    rcases hg it hk with h1 | h1
    · exact h.ro.2.1 h1
    · omega
end Go.Proofs
set_option linter.unusedVariables false
open Go Go.GV Go.Proofs Go.Shelf Go.Sort
namespace Go.GV

section
variable {α : Type} [Inhabited α]
theorem flatK_flat (E : Enc α) (d : Array α) : (flatK E.cells E.sz d).toList = d.toList.flatMap E.cells := by
  apply List.ext_getElem?
  intro t
  have hp := E.pos
  by_cases ht : t < d.size * E.sz
  · have h1 : t / E.sz < d.size := by
      rw [Nat.div_lt_iff_lt_mul hp]; exact ht
    have h2 : t % E.sz < E.sz := Nat.mod_lt _ hp
    have hx : d.toList[t / E.sz]? = some d[t / E.sz]! := by
      rw [Array.getElem?_toList, getElem!_pos d _ h1]; simp [h1]
    have hv : (E.cells d[t / E.sz]!)[t % E.sz]? = some (E.cells d[t / E.sz]!)[t % E.sz]! := by
      have : t % E.sz < (E.cells d[t / E.sz]!).length := by rw [E.len]; exact h2
      rw [getElem!_pos (E.cells d[t / E.sz]!) (t % E.sz) this]; simp [this]
    have h3 := flatMap_get E d.toList (t / E.sz) _ hx (t % E.sz) _ hv
    rw [Nat.mul_comm, Nat.div_add_mod] at h3
    rw [h3, ← get_flatK E.cells E.sz d t ht]
    have h4 : t < (flatK E.cells E.sz d).size := by rw [size_flatK]; exact ht
    rw [Array.getElem?_toList, getElem!_pos (flatK E.cells E.sz d) t h4]
    simp
  · rw [List.getElem?_eq_none (by rw [Array.length_toList, size_flatK]; omega), List.getElem?_eq_none (by rw [flatMap_len, Array.length_toList]; omega)]

theorem grown_of {E : Env} {H : Heap} {d : Dr E} (W : World) (hW : W.heap.size ≤ H.size) (hf : Fr [] W.heap H) (h1 : E.tape = W.tape) (h2 : E.os = W.os) (h3 : E.output = W.output) (h4 : W.drawn ≤ d.1) : ∃ q os', mkW E H d = grow (W.drewN q) os' := by
  refine ⟨d.1 - W.drawn, H.extract W.heap.size H.size, ?_⟩
  have hH : H = W.heap ++ H.extract W.heap.size H.size := by
    apply Array.ext_getElem?
    intro i
    by_cases hi : i < W.heap.size
    · rw [Array.getElem?_append_left hi]
      exact hf.block i hi (by simp)
    · rw [Array.getElem?_append_right (by omega), Array.getElem?_extract]
      by_cases h5 : i < H.size
      · rw [if_pos (by omega)]
        congr 1; omega
      · rw [if_neg (by omega), Array.getElem?_eq_none (by omega)]
  unfold mkW grow World.drewN
  have hd : W.drawn + (d.1 - W.drawn) = d.1 := by omega
  simp only [hd, ← hH, h1, h2, h3]

theorem sortK_ok {P : Program} {ρ : Ren} (L : SlLaysF0.n6 P ρ) {kf g : FuncId} (hkf : ρ.f 6 = kf) {E : Enc α} {t : TypeId} (ht : ρ.t 24 = t) (aE : isAggT P t = true) (aU : ∃ d, P.underlying t = some d) (hsz : szOf P t = E.sz) (hinf : (P.info? t).isSome = true)
    (cf : α → α → Int) (hO : SWO (ltOf cf)) (eg : ∀ args w, (callFunc g args).run P w = .ok (.enter g args) w)
    (hc : ∀ (x y : α) (H : Heap) (K : Int → Heap → Prop), (∀ H', Fr [] H H' → K (cf x y) H') → CallH P g ⟨[.agg ⟨E.cells x⟩, .agg ⟨E.cells y⟩]⟩ H fun v H' => ∃ n, v = .int .i64 n ∧ K n H')
    {base : Nat} {H : Heap} {a : Option Addr} {n c : Nat} {xs : List α} {K : Heap → Prop} (ho : Own E t base H a n c xs) (hn : n < 4611686018427387904)
    (hk : ∀ H' ys, Own E t base H' a n c ys → ys.Perm xs → ys.Pairwise (fun x y => ¬ cf y x < 0) → Fr (blkL a) H H' → K H') :
    CallH P kf ⟨[.slice a n c, .func (.func g) #[] #[]]⟩ H fun v H' => v = .tuple ⟨[]⟩ ∧ K H' := by
  subst hkf
  intro Ev d
  have hl := ho.1
  obtain ⟨_, ⟨rfl, h0, hc0⟩ | ⟨b, cur, rfl, hb, hh, hcc, hm, hs, htk⟩⟩ := id ho
  · have := AnyF.slices_SortFunc_none L none c (.func (.func g) #[] #[]) (mkW Ev H d)
    rw [h0]
    refine this.mono ?_
    rintro e w' ⟨rfl, rfl⟩
    have hx : xs = [] := List.eq_nil_of_length_eq_zero (by omega)
    subst hx
    exact ⟨_, H, d, rfl, rfl, rfl, hk H [] (by simpa using ho) (List.Perm.refl _) List.Pairwise.nil (Fr.refl _ _)⟩
  · have hb' : (mkW Ev H d).heap[b]? = some (.cells cur t (0, 0)) := hh
    obtain ⟨du, hu⟩ := aU
    have hflat : (flatK E.cells E.sz xs.toArray).toList = xs.flatMap E.cells := by rw [flatK_flat]
    have hfs : (flatK E.cells E.sz xs.toArray).size = n * E.sz := by rw [size_flatK, hl]; simp
    have hncur : n * E.sz ≤ cur.size := by rw [hs]; exact Nat.mul_le_mul_right _ hcc
    have hH : HoldsK E.cells E.sz (mkW Ev H d) b 0 xs.toArray := by
      intro j hj
      rw [hfs] at hj
      refine ⟨?_, by simp [World.frozen?, hb']⟩
      have h1 : (cur.toList.take (n * E.sz))[j]? = (flatK E.cells E.sz xs.toArray).toList[j]? := by rw [htk, hflat]
      rw [List.getElem?_take_of_lt hj] at h1
      simp only [World.cell?, hb', Nat.zero_add]
      simp only [Option.isSome_none, Bool.false_eq_true, if_false]
      rw [← Array.getElem?_toList, h1, Array.getElem?_toList]
      have : j < (flatK E.cells E.sz xs.toArray).size := by rw [hfs]; exact hj
      rw [getElem!_pos (flatK E.cells E.sz xs.toArray) j this]
      simp
    have hcmp : CmpLays P g #[] E.cells E.sz cf b 0 xs.toArray.size (mkW Ev H d) := by
      intro m os dk hdk x y
      generalize hWg : sortWorldK E.cells E.sz (mkW Ev H d) b 0 m dk os = W
      have hcall := hc x y W.heap (fun r H' => r = cf x y ∧ Fr [] W.heap H') (fun H' hf => ⟨rfl, hf⟩) ⟨W.tape, W.os, W.output, W.drawn⟩ ⟨W.drawn, Nat.le_refl _⟩
      rw [← mkW_eta W] at hcall
      refine hcall.mono ?_
      rintro e w' ⟨v, H', d', rfl, rfl, r, rfl, rfl, hf⟩
      exact ⟨rfl, grown_of W hf.size hf rfl rfl rfl d'.2⟩
    have hrun := AnyQ.slices_SortFunc L E.sz (fun w => by rw [ht]; rw [run_isAgg hu]; rw [aE]) (fun w => by
      rw [ht]
      cases hi : P.info? t with
      | none => rw [hi] at hinf; cases hinf
      | some i => rw [sizeOf_run hi]; congr 1; simpa [szOf, hi] using hsz) E.cells E.len E.one cf hO g #[] b 0 c xs.toArray (mkW Ev H d) eg hcmp hH (lt_of_get hh) (by simpa using by omega)
    have hsize : xs.toArray.size = n := by simp [hl]
    rw [hsize] at hrun
    refine hrun.mono ?_
    rintro e w' ⟨rfl, d', m, os, hperm, hsorted, rfl⟩
    obtain ⟨hp1, _, hp3⟩ := hperm
    have hd's : d'.size = n := by rw [hp1]; simp [hl]
    have hpm : d'.toList.Perm xs := by
      have e1 : d'.extract 0 n = d' := by rw [← hd's]; simp
      have e2 : xs.toArray.extract 0 n = xs.toArray := by rw [← hsize]; simp
      rw [e1, e2] at hp3
      simpa using hp3
    have hflat' : (flatK E.cells E.sz d').toList = d'.toList.flatMap E.cells := flatK_flat E d'
    have hfs' : (flatK E.cells E.sz d').size = n * E.sz := by rw [size_flatK, hd's]
    have hblt : b < H.size := lt_of_get hh
    refine ⟨_, (sortWorldK E.cells E.sz (mkW Ev H d) b 0 m d' os).heap, ⟨d.1 + m, Nat.le_trans d.2 (Nat.le_add_right _ _)⟩, rfl, rfl, rfl, hk _ d'.toList ?_ hpm ?_ ?_⟩
    · refine ⟨by rw [Array.length_toList, hd's], .inr ⟨b, putCells id 0 (flatK E.cells E.sz d') cur, rfl, hb, ?_, hcc, hm, by simp [putCells, hs], ?_⟩⟩
      · show (grow (putRow id (Sort.ahead (mkW Ev H d) m) b 0 (flatK E.cells E.sz d')) os).heap[b]? = _
        have hh' : H[b]? = some (.cells cur t (0, 0)) := hh
        simp only [grow, putRow, mapBlock, Sort.ahead, mkW]
        rw [Array.getElem?_append_left (by simpa using hblt), Array.getElem?_modify]
        simp [hh', onCells]
      · rw [← hflat']
        apply List.ext_getElem?
        intro j
        by_cases hj : j < n * E.sz
        · rw [List.getElem?_take_of_lt hj, Array.getElem?_toList, Array.getElem?_toList]
          have h5 : j < (flatK E.cells E.sz d').size := by rw [hfs']; exact hj
          have h6 : j < cur.size := by omega
          simp only [putCells, Array.getElem?_mapIdx, Nat.zero_add, Nat.zero_le, true_and, Nat.sub_zero]
          rw [Array.getElem?_eq_getElem h6]
          simp only [Option.map_some, h5, if_true, id]
          rw [getElem!_pos (flatK E.cells E.sz d') j h5, Array.getElem?_eq_getElem h5]
        · rw [List.getElem?_take_eq_none (by omega), List.getElem?_eq_none (by rw [Array.length_toList, hfs']; omega)]
    · rw [List.pairwise_iff_getElem]
      intro i j h1 h2 hij
      have := hsorted i j (Nat.zero_le _) hij (by rw [← hd's]; simpa using h2)
      have e1 : d'[i]! = d'.toList[i] := by rw [getElem!_pos d' i (by simpa using h1)]; simp
      have e2 : d'[j]! = d'.toList[j] := by rw [getElem!_pos d' j (by simpa using h2)]; simp
      rw [e1, e2] at this
      simpa [ltOf] using this
    · refine ⟨?_, fun k hk hn => ?_⟩
      · show H.size ≤ (grow (putRow id (Sort.ahead (mkW Ev H d) m) b 0 (flatK E.cells E.sz d')) os).heap.size
        simp [grow, putRow, mapBlock, Sort.ahead, mkW]
      · show (grow (putRow id (Sort.ahead (mkW Ev H d) m) b 0 (flatK E.cells E.sz d')) os).heap[k]? = _
        have hkb : b ≠ k := by simp [blkL] at hn; exact fun e => hn e.symm
        simp only [grow, putRow, mapBlock, Sort.ahead, mkW]
        rw [Array.getElem?_append_left (by simpa using hk), Array.getElem?_modify]
        simp [hkb]
end
end Go.GV
namespace Go.Proofs
open Go.Shelf
def Tryz.sortSr_ren : Go.Shelf.Ren := ⟨fun | 6 => 77 | 15 => 113 | 14 => 112 | 28 => 139 | 29 => 140 | 20 => 131 | 21 => 132 | 22 => 133 | 23 => 134 | 24 => 135 | 25 => 136 | 26 => 137 | 27 => 138 | 46 => 151 | 47 => 152 | 48 => 153 | 49 => 154 | 50 => 155 | 57 => 164 | n => n, fun | 22 => 52 | 24 => 92 | 25 => 130 | 3 => 3 | 39 => 137 | 0 => 0 | 53 => 206 | 55 => 89 | 4 => 4 | 46 => 200 | 45 => 199 | 50 => 132 | 5 => 5 | 9 => 9 | 66 => 215 | 70 => 219 | 76 => 227 | 77 => 228 | n => n, fun | n => n⟩
theorem Tryz.sortSr : Go.Proofs.SlLaysF0.n6 Tryz.prog Tryz.sortSr_ren := {
  mixed := by kernel_rfl
  f6 := ⟨Tryz.f77.name, by decide, Tryz.func77.trans (congrArg some (by kernel_rfl))⟩
  f14 := ⟨Tryz.f112.name, by decide, Tryz.func112.trans (congrArg some (by kernel_rfl))⟩
  f15 := Tryz.func113.trans (congrArg some (by kernel_rfl))
  f20 := ⟨Tryz.f131.name, by decide, Tryz.func131.trans (congrArg some (by kernel_rfl))⟩
  f21 := ⟨Tryz.f132.name, by decide, Tryz.func132.trans (congrArg some (by kernel_rfl))⟩
  f22 := ⟨Tryz.f133.name, by decide, Tryz.func133.trans (congrArg some (by kernel_rfl))⟩
  f23 := ⟨Tryz.f134.name, by decide, Tryz.func134.trans (congrArg some (by kernel_rfl))⟩
  f24 := ⟨Tryz.f135.name, by decide, Tryz.func135.trans (congrArg some (by kernel_rfl))⟩
  f25 := ⟨Tryz.f136.name, by decide, Tryz.func136.trans (congrArg some (by kernel_rfl))⟩
  f26 := ⟨Tryz.f137.name, by decide, Tryz.func137.trans (congrArg some (by kernel_rfl))⟩
  f27 := ⟨Tryz.f138.name, by decide, Tryz.func138.trans (congrArg some (by kernel_rfl))⟩
  f28 := Tryz.func139.trans (congrArg some (by kernel_rfl))
  f29 := Tryz.func140.trans (congrArg some (by kernel_rfl))
  f46 := ⟨Tryz.f151.name, by decide, Tryz.func151.trans (congrArg some (by kernel_rfl))⟩
  f47 := Tryz.func152.trans (congrArg some (by kernel_rfl))
  f48 := Tryz.func153.trans (congrArg some (by kernel_rfl))
  f49 := ⟨Tryz.f154.name, by decide, Tryz.func154.trans (congrArg some (by kernel_rfl))⟩
  f50 := ⟨Tryz.f155.name, by decide, Tryz.func155.trans (congrArg some (by kernel_rfl))⟩
  f57 := ⟨Tryz.f164.name, by decide, Tryz.func164.trans (congrArg some (by kernel_rfl))⟩
  t0 := Tryz.underlying0
  a0 := Tryz.isAgg0
  z0 := Tryz.sizeOf0
  v0 := Tryz.zeroValue0
  t3 := Tryz.underlying3
  a3 := Tryz.isAgg3
  z3 := Tryz.sizeOf3
  v3 := Tryz.zeroValue3
  t4 := Tryz.underlying4
  a4 := Tryz.isAgg4
  z4 := Tryz.sizeOf4
  v4 := Tryz.zeroValue4
  t5 := Tryz.underlying5
  a5 := Tryz.isAgg5
  z5 := Tryz.sizeOf5
  v5 := Tryz.zeroValue5
  t9 := Tryz.underlying9
  a9 := Tryz.isAgg9
  z9 := Tryz.sizeOf9
  v9 := Tryz.zeroValue9
  t22 := Tryz.underlying52
  a22 := Tryz.isAgg52
  z22 := Tryz.sizeOf52
  v22 := Tryz.zeroValue52
  t25 := Tryz.underlying130
  a25 := Tryz.isAgg130
  z25 := Tryz.sizeOf130
  v25 := Tryz.zeroValue130
  t39 := Tryz.underlying137
  a39 := Tryz.isAgg137
  z39 := Tryz.sizeOf137
  v39 := Tryz.zeroValue137
  t45 := Tryz.underlying199
  a45 := Tryz.isAgg199
  z45 := Tryz.sizeOf199
  v45 := Tryz.zeroValue199
  t46 := Tryz.underlying200
  a46 := Tryz.isAgg200
  z46 := Tryz.sizeOf200
  v46 := Tryz.zeroValue200
  t50 := Tryz.underlying132
  a50 := Tryz.isAgg132
  z50 := Tryz.sizeOf132
  v50 := Tryz.zeroValue132
  t53 := Tryz.underlying206
  a53 := Tryz.isAgg206
  z53 := Tryz.sizeOf206
  v53 := Tryz.zeroValue206
  t55 := Tryz.underlying89
  a55 := Tryz.isAgg89
  z55 := Tryz.sizeOf89
  v55 := Tryz.zeroValue89
  t66 := Tryz.underlying215
  a66 := Tryz.isAgg215
  z66 := Tryz.sizeOf215
  v66 := Tryz.zeroValue215
  t70 := Tryz.underlying219
  a70 := Tryz.isAgg219
  z70 := Tryz.sizeOf219
  v70 := Tryz.zeroValue219
  t76 := Tryz.underlying227
  a76 := Tryz.isAgg227
  z76 := Tryz.sizeOf227
  v76 := Tryz.zeroValue227
  t77 := Tryz.underlying228
  a77 := Tryz.isAgg228
  z77 := Tryz.sizeOf228
  v77 := Tryz.zeroValue228 }

theorem sl_lt {α : Type} {E : Enc α} {H : Heap} {a : Option Addr} {n c : Nat} {xs : List α} (h : Sl E H a n c xs) (hx : xs ≠ []) : ∀ k ∈ blkL a, k < H.size := fun k hk => by
  obtain ⟨b, off, rfl, hb⟩ := h.arr.lt hx
  simp [blkL] at hk; omega
def atS (ss : List Srs) (id : Int) : List Smp := match ss with | [] => [] | s :: ss => if s.1 = id then s.2 else atS ss id
theorem atS_val (ss : List Srs) (id t : Int) : valQ (atS ss id) t = valS ss id t := by
  induction ss with
  | nil => rfl
  | cons s ss ih =>
    show valQ (if s.1 = id then s.2 else atS ss id) t = if s.1 = id then valQ s.2 t else valS ss id t
    split
    · rfl
    · exact ih
theorem atS_none {ss : List Srs} {id : Int} (h : ∀ s ∈ ss, s.1 ≠ id) : atS ss id = [] := by
  induction ss with
  | nil => rfl
  | cons s ss ih =>
    show (if s.1 = id then s.2 else atS ss id) = []
    rw [if_neg (h s (by simp))]; exact ih fun x hx => h x (by simp [hx])
theorem atS_get {ss : List Srs} (hp : ss.Pairwise fun a b => a.1 < b.1) {k : Nat} {s : Srs} (h : ss[k]? = some s) : atS ss s.1 = s.2 := by
  induction ss generalizing k with
  | nil => simp at h
  | cons x ss ih =>
    have hp' := List.pairwise_cons.1 hp
    show (if x.1 = s.1 then x.2 else atS ss s.1) = s.2
    cases k with
    | zero => simp at h; subst h; rw [if_pos rfl]
    | succ k =>
      simp at h
      have := hp'.1 s (List.mem_of_getElem? h)
      rw [if_neg (by omega)]; exact ih hp'.2 h
theorem atS_ris {ss : List Srs} (h : RightS ss) (id : Int) : Ris (atS ss id) := by
  induction ss with
  | nil => exact Ris.nil
  | cons x ss ih =>
    obtain ⟨_, h2, h3⟩ := RightS.cons.1 h
    show Ris (if x.1 = id then x.2 else atS ss id)
    split
    · exact h2.2
    · exact ih h3
def updS (ss : List Srs) (s : Srs) : Srs := (s.1, mrg (atS ss s.1) s.2)
theorem put1_len {x : Rw} {m : Nat} : ∀ {ss : List Srs}, (∀ s ∈ ss, s.2.length ≤ m) → (put1 ss x).length ≤ ss.length + 1 ∧ ∀ s ∈ put1 ss x, s.2.length ≤ m + 1
  | [], _ => ⟨Nat.le_refl _, fun s hs => by simp [put1] at hs; subst hs; simp⟩
  | y :: ss, h => by
    unfold put1
    split
    · refine ⟨by simp, fun s hs => ?_⟩
      rcases List.mem_cons.1 hs with rfl | hs
      · simp
      · have := h s hs; omega
    · split
      · refine ⟨by simp, fun s hs => ?_⟩
        rcases List.mem_cons.1 hs with rfl | hs
        · have h1 := len_mrg y.2 [(x.1, x.2.2)]
          have h2 := h y (by simp)
          simp at h1
          show (mrg y.2 [(x.1, x.2.2)]).length ≤ m + 1
          omega
        · have := h s (by simp [hs]); omega
      · obtain ⟨i1, i2⟩ := put1_len (x := x) (ss := ss) fun s hs => h s (by simp [hs])
        refine ⟨by simp; omega, fun s hs => ?_⟩
        rcases List.mem_cons.1 hs with rfl | hs
        · have := h s (by simp); omega
        · exact i2 s hs
theorem putR_len {m : Nat} : ∀ {rows : List Rw} {ss : List Srs}, (∀ s ∈ ss, s.2.length ≤ m) → (putR ss rows).length ≤ ss.length + rows.length ∧ ∀ s ∈ putR ss rows, s.2.length ≤ m + rows.length
  | [], ss, h => ⟨by simp [putR], fun s hs => by have := h s hs; simp; omega⟩
  | x :: rows, ss, h => by
    obtain ⟨i1, i2⟩ := put1_len (x := x) h
    obtain ⟨j1, j2⟩ := putR_len (m := m + 1) (rows := rows) (ss := put1 ss x) i2
    refine ⟨?_, fun s hs => ?_⟩
    · show (putR (put1 ss x) rows).length ≤ _
      simp; omega
    · have := j2 s hs
      simp; omega
theorem cfSr_neg {x y : Sr} : cfSr x y < 0 ↔ x.1 < y.1 := cmpI_neg
theorem swoS : Go.Sort.SWO (ltOf cfSr) where
  irrefl x := by simp only [ltOf, decide_eq_false_iff_not, cfSr_neg]; omega
  trans x y z h1 h2 := by simp only [ltOf, decide_eq_true_eq, cfSr_neg] at *; omega
  ntrans x y z h1 h2 := by simp only [ltOf, decide_eq_false_iff_not, cfSr_neg] at *; omega
theorem SortSr_ok {base : Nat} {H : Heap} {a : Option Addr} {n c : Nat} {xs : List Sr} {K : Heap → Prop} (ho : Own encSr 92 base H a n c xs) (hn : n ≤ 1000000000)
    (hk : ∀ H' ys, Own encSr 92 base H' a n c ys → ys.Perm xs → ys.Pairwise (fun x y => ¬ cfSr y x < 0) → Fr (blkL a) H H' → K H') :
    CallH Tryz.prog 77 ⟨[.slice a n c, .func (.func 75) #[] #[]]⟩ H fun v H' => v = .tuple ⟨[]⟩ ∧ K H' :=
  sortK_ok Tryz.sortSr (kf := 77) rfl (E := encSr) (t := 92) rfl (by kernel_rfl) ⟨_, Tryz.underlying92⟩ (by kernel_rfl) (by kernel_rfl) cfSr swoS (enters_of Tryz.func75 (by kernel_rfl) rfl) (fun x y H K hk => byId_ok hk) ho (by omega) hk
theorem take_upd {f : Srs → Srs} {l : List Srs} {k : Nat} {s : Srs} (h : l[k]? = some s) : ((l.take k).map f ++ l.drop k)[k]? = some s ∧ ((l.take k).map f ++ l.drop k).set k (f s) = (l.take (k + 1)).map f ++ l.drop (k + 1) := by
  obtain ⟨hk, rfl⟩ := List.getElem?_eq_some_iff.1 h
  have hl : ((l.take k).map f).length = k := by simp; omega
  have hd : l.drop k = l[k] :: l.drop (k + 1) := List.drop_eq_getElem_cons hk
  refine ⟨?_, ?_⟩
  · rw [List.getElem?_append_right (by omega), hl, hd]; simp
  · rw [List.set_append_right _ _ (by omega), hl, hd, Nat.sub_self, List.set_cons_zero, List.take_add_one, h, List.map_append]
    simp

def foldU (us : List (List Rw)) : List Srs := us.foldl putR []
theorem foldU_snoc (us : List (List Rw)) (u : List Rw) : foldU (us ++ [u]) = putR (foldU us) u := by unfold foldU; rw [List.foldl_append]; rfl
theorem foldU_right (us : List (List Rw)) : RightS (foldU us) := by
  have key : ∀ (us : List (List Rw)) (ss : List Srs), RightS ss → RightS (us.foldl putR ss) := by
    intro us
    induction us with
    | nil => exact fun ss h => h
    | cons u us ih => exact fun ss h => ih _ (right_putR h).1
  exact key us [] RightS.nil
theorem valQ_rev {l : List Smp} (h : Ris l) (t : Int) : valQ l.reverse t = valQ l t := by
  cases hv : valQ l t with
  | none =>
    rw [valQ_none] at hv ⊢
    exact fun x hx => hv x (List.mem_reverse.1 hx)
  | some v =>
    have hm := valQ_mem hv
    cases hr : valQ l.reverse t with
    | none =>
      rw [valQ_none] at hr
      exact absurd rfl (hr (t, v) (List.mem_reverse.2 hm))
    | some w =>
      have h2 := List.mem_reverse.1 (valQ_mem hr)
      have := valQ_ris h h2
      simp only at this
      rw [hv] at this
      rw [this]
theorem ofId_own (s : Srs) (i : Int) : ofId (ownR s) i = if s.1 = i then s.2 else [] := by
  unfold ofId ownR
  by_cases h : s.1 = i
  · rw [if_pos h, List.filter_eq_self.2 (fun x hx => by
      obtain ⟨p, _, rfl⟩ := List.mem_map.1 hx
      simp [h]), List.map_map]
    exact List.map_id' _
  · rw [if_neg h, List.filter_eq_nil_iff.2 (fun x hx => by
      obtain ⟨p, _, rfl⟩ := List.mem_map.1 hx
      simp [h])]
    rfl
theorem valS_snoc {a : List Srs} {s : Srs} (h : ∀ x ∈ a, x.1 ≠ s.1) (id t : Int) : valS (a ++ [s]) id t = if s.1 = id then valQ s.2 t else valS a id t := by
  induction a with
  | nil => rfl
  | cons x a ih =>
    rw [List.cons_append, valS_cons, valS_cons, ih fun y hy => h y (by simp [hy])]
    by_cases h1 : x.1 = id
    · rw [if_pos h1, if_pos h1, if_neg (fun e => h x (by simp) (by rw [h1, e]))]
    · rw [if_neg h1, if_neg h1]
theorem RightS.take {ss : List Srs} (h : RightS ss) (i : Nat) : RightS (ss.take i) := ⟨h.1.sublist (List.take_sublist _ _), fun s hs => h.2 s (List.mem_of_mem_take hs)⟩
theorem foldU_own {ss : List Srs} (h : RightS ss) : ∀ i, foldU ((ss.map ownR).take i) = ss.take i := by
  intro i
  induction i with
  | zero => simp [foldU]
  | succ i ih =>
    by_cases hi : i < ss.length
    · have hs := List.getElem?_eq_getElem hi
      rw [List.take_add_one, List.take_add_one, List.getElem?_map, hs]
      simp only [Option.map_some, Option.toList_some]
      rw [foldU_snoc, ih]
      generalize ss[i] = s at hs
      have hsR := h.2 s (List.mem_of_getElem? hs)
      have hid := ids_take h hs
      have h2 := h.take (i + 1)
      rw [List.take_add_one, hs] at h2
      simp only [Option.toList_some] at h2
      refine right_eq (right_putR (h.take i)).1 h2 fun id t => ?_
      rw [(right_putR (h.take i)).2, valS_snoc hid, ofId_own]
      by_cases e : s.1 = id
      · rw [if_pos e, if_pos e, valQ_rev hsR.2]
        have : valS (ss.take i) id t = none := valS_none fun x hx => by rw [← e]; exact hid x hx
        rw [this]
        cases valQ s.2 t <;> rfl
      · rw [if_neg e, if_neg e]
        simp [valQ_nil]
    · rw [List.take_of_length_le (by rw [List.length_map]; omega), List.take_of_length_le (by omega)]
      rw [List.take_of_length_le (by rw [List.length_map]; omega), List.take_of_length_le (by omega)] at ih
      exact ih
def chsR (rows : List Rw) : List (List Rw) := (List.range (nC rows.length)).map (chR rows)
theorem chsR_len (rows : List Rw) : (chsR rows).length = nC rows.length := by simp [chsR]
theorem chsR_get {rows : List Rw} {i : Nat} (h : i < nC rows.length) : (chsR rows)[i]? = some (chR rows i) := by unfold chsR; rw [List.getElem?_map, List.getElem?_range h]; rfl
theorem foldU_ch (rows : List Rw) : ∀ i, i ≤ nC rows.length → foldU ((chsR rows).take i) = putR [] (rows.take (16 * i)) := by
  intro i
  induction i with
  | zero => intro _; simp [foldU, putR]
  | succ i ih =>
    intro hi
    rw [List.take_add_one, chsR_get (by omega)]
    simp only [Option.toList_some]
    rw [foldU_snoc, ih (by omega), putR_app]
    unfold chR
    rw [show 16 * (i + 1) = 16 * i + 16 by omega, List.take_add]
def ReadR (lay : Int) (s : ByteArray) (rows : List Rw) (e : Int) : Prop :=
  (e = 0 ∧ ((lay = 0 ∧ ∃ ss, MajP ss ∧ bl s = encM ss ∧ RowsOf ss rows) ∨ (lay = 1 ∧ RowsP rows ∧ bl s = encR rows))) ∨
  (rows = [] ∧ ((lay = 0 ∧ e = 11 ∧ ∀ ss, MajP ss → bl s ≠ encM ss) ∨ (lay = 1 ∧ e = 11 ∧ ∀ L, RowsP L → bl s ≠ encR L) ∨ (lay ≠ 0 ∧ lay ≠ 1 ∧ e = 1)))
theorem ReadR.uniq {lay : Int} {s : ByteArray} {rows rows' : List Rw} {e e' : Int} (h : ReadR lay s rows e) (h' : ReadR lay s rows' e') : rows = rows' ∧ e = e' := by
  rcases h with ⟨rfl, ⟨hl, ss, h1, h2, h3⟩ | ⟨hl, h1, h2⟩⟩ | ⟨rfl, ⟨hl, he, h1⟩ | ⟨hl, he, h1⟩ | ⟨hl, hl2, he⟩⟩ <;>
  rcases h' with ⟨rfl, ⟨kl, tt, k1, k2, k3⟩ | ⟨kl, k1, k2⟩⟩ | ⟨rfl, ⟨kl, ke, k1⟩ | ⟨kl, ke, k1⟩ | ⟨kl, kl2, ke⟩⟩ <;> try omega
  · have := encM_inj h1 k1 (by rw [← h2, k2])
    subst this
    exact ⟨h3.eq k3, rfl⟩
  · exact absurd h2 (k1 ss h1)
  · exact ⟨encR_inj h1 k1 (by rw [← h2, k2]), rfl⟩
  · exact absurd h2 (k1 rows h1)
  · exact absurd k2 (h1 tt k1)
  · exact ⟨rfl, by omega⟩
  · exact absurd k2 (h1 rows' k1)
  · exact ⟨rfl, by omega⟩
  · exact ⟨rfl, by omega⟩
open Classical in
noncomputable def writeF (lay : Int) (rows : List Rw) : ByteArray × Int :=
  if lay = 0 then (if FineR rows ∧ MajP (putR [] rows) then (⟨(encM (putR [] rows)).toArray⟩, 0) else (⟨#[]⟩, 30))
  else if lay = 1 then (if RowsP rows then (⟨(encR rows).toArray⟩, 0) else (⟨#[]⟩, 30)) else (⟨#[]⟩, 1)
theorem putR_I64 {rows : List Rw} (hF : FineR rows) (hv : ∀ x ∈ rows, I64 x.2.2) : ∀ s ∈ putR [] rows, ∀ x ∈ s.2, I64 x.2 := fun s hs x hx => by
  have h := (rows_split hF).2 (x.1, s.1, x.2)
  have : ((x.1, s.1, x.2) : Rw) ∈ rows := h.2 ⟨s, hs, ownR_mem.2 ⟨rfl, hx⟩⟩
  exact hv _ this
theorem putR_bound (rows : List Rw) : (putR [] rows).length ≤ rows.length ∧ ∀ s ∈ putR [] rows, s.2.length ≤ rows.length := by
  have := putR_len (m := 0) (rows := rows) (ss := []) (fun s h => by cases h)
  exact ⟨by simpa using this.1, fun s hs => by simpa using this.2 s hs⟩
def UnitsU (lay : Int) (s : ByteArray) (us : List (List Rw)) (rows : List Rw) : Prop :=
  (lay = 0 ∧ ∃ ss, MajP ss ∧ bl s = encM ss ∧ RowsOf ss rows ∧ us = ss.map ownR) ∨ (lay = 1 ∧ RowsP rows ∧ bl s = encR rows ∧ us = chsR rows)
theorem UnitsU.read {lay : Int} {s : ByteArray} {us : List (List Rw)} {rows : List Rw} (h : UnitsU lay s us rows) : ReadR lay s rows 0 := by
  rcases h with ⟨hl, ss, h1, h2, h3, _⟩ | ⟨hl, h1, h2, _⟩
  · exact .inl ⟨rfl, .inl ⟨hl, ss, h1, h2, h3⟩⟩
  · exact .inl ⟨rfl, .inr ⟨hl, h1, h2⟩⟩
theorem UnitsU.fin {lay : Int} {s : ByteArray} {us : List (List Rw)} {rows : List Rw} (h : UnitsU lay s us rows) : RowsOf (foldU us) rows := by
  rcases h with ⟨hl, ss, h1, h2, h3, rfl⟩ | ⟨hl, h1, h2, rfl⟩
  · have := foldU_own h1.right ss.length
    rw [List.take_of_length_le (by rw [List.length_map]; exact Nat.le_refl _), List.take_length] at this
    rw [this]; exact h3
  · have := foldU_ch rows (nC rows.length) (Nat.le_refl _)
    rw [List.take_of_length_le (by rw [chsR_len]; exact Nat.le_refl _), List.take_of_length_le (by unfold nC; omega)] at this
    rw [this]; exact rows_split h1.fine
theorem UnitsU.bound {lay : Int} {s : ByteArray} {us : List (List Rw)} {rows : List Rw} (h : UnitsU lay s us rows) : us.length ≤ 5000 ∧ (∀ u ∈ us, u ≠ [] ∧ u.length ≤ 5000) ∧ ∀ i, (foldU (us.take i)).length ≤ 5000 ∧ ∀ s ∈ foldU (us.take i), s.2.length ≤ 5000 := by
  rcases h with ⟨hl, ss, h1, h2, h3, rfl⟩ | ⟨hl, h1, h2, rfl⟩
  · have hlen := h1.len
    refine ⟨by rw [List.length_map]; omega, fun u hu => ?_, fun i => ?_⟩
    · obtain ⟨x, hx, rfl⟩ := List.mem_map.1 hu
      have hne := (h1.right.2 x hx).1
      have := (h1.lo x hx).2.len
      refine ⟨fun e => hne ?_, by unfold ownR; rw [List.length_map]; omega⟩
      unfold ownR at e
      exact List.map_eq_nil_iff.1 e
    · rw [foldU_own h1.right]
      refine ⟨by rw [List.length_take]; omega, fun x hx => ?_⟩
      exact (h1.lo x (List.mem_of_mem_take hx)).2.len
  · have hlen := h1.len
    have hn := nC_le hlen
    refine ⟨by rw [chsR_len]; omega, fun u hu => ?_, fun i => ?_⟩
    · unfold chsR at hu
      obtain ⟨i, hi, rfl⟩ := List.mem_map.1 hu
      have hi := List.mem_range.1 hi
      refine ⟨ch_ne (by unfold nC at hi; omega), by rw [chR_len]; omega⟩
    · by_cases hi : i ≤ nC rows.length
      · rw [foldU_ch rows i hi]
        have hb := putR_bound (rows.take (16 * i))
        have hl : (rows.take (16 * i)).length ≤ 5000 := by rw [List.length_take]; omega
        exact ⟨by omega, fun s hs => by have := hb.2 s hs; omega⟩
      · rw [List.take_of_length_le (by rw [chsR_len]; omega)]
        have := foldU_ch rows (nC rows.length) (Nat.le_refl _)
        rw [List.take_of_length_le (by rw [chsR_len]; exact Nat.le_refl _), List.take_of_length_le (by unfold nC; omega)] at this
        rw [this]
        have hb := putR_bound rows
        exact ⟨by omega, fun s hs => by have := hb.2 s hs; omega⟩
def UnitsR (lay : Int) (s : ByteArray) (n e : Int) : Prop :=
  (e = 0 ∧ ∃ us rows, UnitsU lay s us rows ∧ n = us.length) ∨ (n = 0 ∧ ((lay = 0 ∧ e = 11 ∧ ∀ ss, MajP ss → bl s ≠ encM ss) ∨ (lay = 1 ∧ e = 11 ∧ ∀ L, RowsP L → bl s ≠ encR L) ∨ (lay ≠ 0 ∧ lay ≠ 1 ∧ e = 1)))
theorem UnitsU.uniq {lay : Int} {s : ByteArray} {us us' : List (List Rw)} {rows rows' : List Rw} (h : UnitsU lay s us rows) (h' : UnitsU lay s us' rows') : us = us' ∧ rows = rows' := by
  have hr := (h.read.uniq h'.read).1
  subst hr
  refine ⟨?_, rfl⟩
  rcases h with ⟨hl, ss, h1, h2, h3, rfl⟩ | ⟨hl, h1, h2, rfl⟩ <;> rcases h' with ⟨kl, tt, k1, k2, k3, rfl⟩ | ⟨kl, k1, k2, rfl⟩ <;> try omega
  · rw [encM_inj h1 k1 (by rw [← h2, k2])]
  · rfl
theorem UnitsR.uniq {lay : Int} {s : ByteArray} {n n' e e' : Int} (h : UnitsR lay s n e) (h' : UnitsR lay s n' e') : n = n' ∧ e = e' := by
  have no : ∀ {us rows}, UnitsU lay s us rows → ((lay = 0 ∧ (∀ ss, MajP ss → bl s ≠ encM ss)) ∨ (lay = 1 ∧ (∀ L, RowsP L → bl s ≠ encR L)) ∨ (lay ≠ 0 ∧ lay ≠ 1)) → False := by
    intro us rows h hn
    rcases h with ⟨hl, ss, h1, h2, _⟩ | ⟨hl, h1, h2, _⟩ <;> rcases hn with ⟨kl, k1⟩ | ⟨kl, k1⟩ | ⟨kl, kl2⟩ <;> try omega
    · exact k1 ss h1 h2
    · exact k1 rows h1 h2
  rcases h with ⟨rfl, us, rows, h1, rfl⟩ | ⟨rfl, h1⟩ <;> rcases h' with ⟨rfl, us', rows', k1, rfl⟩ | ⟨rfl, k1⟩
  · rw [(h1.uniq k1).1]; exact ⟨rfl, rfl⟩
  · exact (no h1 (k1.imp (fun h => ⟨h.1, h.2.2⟩) (Or.imp (fun h => ⟨h.1, h.2.2⟩) fun h => ⟨h.1, h.2.1⟩))).elim
  · exact (no k1 (h1.imp (fun h => ⟨h.1, h.2.2⟩) (Or.imp (fun h => ⟨h.1, h.2.2⟩) fun h => ⟨h.1, h.2.1⟩))).elim
  · refine ⟨rfl, ?_⟩
    rcases h1 with ⟨hl, he, _⟩ | ⟨hl, he, _⟩ | ⟨hl, hl2, he⟩ <;> rcases k1 with ⟨kl, ke, _⟩ | ⟨kl, ke, _⟩ | ⟨kl, kl2, ke⟩ <;> omega

theorem var45 {H : Heap} {x : Rw} {zs : List Value} {K : Nat → Heap → Prop} (hz : zs.length = 3)
    (k : ∀ b H', H.size ≤ b → Blk H' ⟨b, 0, none⟩ (encRw.cells x) → Fr [] H H' → K b H') :
    ∀ b H', New H b (.cells ⟨zs⟩ 26) H' → ∃ H'_1, St Tryz.prog 26 H' ⟨b, 0, none⟩ (.agg ⟨encRw.cells x⟩) H'_1 ∧ K b H'_1 :=
  var_blk (by kernel_rfl) (by kernel_rfl) (fun v h => by simp [Value.cells, encRw] at h; rcases h with rfl | rfl | rfl <;> rfl) hz k
theorem nodup_le : ∀ {l m : List Int}, l.Nodup → (∀ x ∈ l, x ∈ m) → l.length ≤ m.length
  | [], m, _, _ => Nat.zero_le _
  | x :: l, m, h, hs => by
    have hd := List.nodup_cons.1 h
    have hx := hs x (by simp)
    have ih := nodup_le (m := m.erase x) hd.2 fun y hy => (List.mem_erase_of_ne (fun e => hd.1 (by subst e; exact hy))).2 (hs y (by simp [hy]))
    rw [List.length_erase_of_mem hx] at ih
    have := List.length_pos_of_mem hx
    simp; omega
theorem ofId_ne {rows : List Rw} {id : Int} (h : ofId rows id ≠ []) : id ∈ rows.map (·.2.1) := by
  obtain ⟨y, hy⟩ := List.exists_mem_of_ne_nil _ h
  unfold ofId at hy
  obtain ⟨x, hx, _⟩ := List.mem_map.1 hy
  have := List.mem_filter.1 hx
  exact List.mem_map.2 ⟨x, this.1, of_decide_eq_true this.2⟩
theorem Mor.len {H : Heap} {base r it ck : Nat} {L : List (Ent Int)} {rows : List Rw} {seen : Array Nat} {o : Option Addr} {l c : Nat} {ms : List Sr} {ss : List Srs} (h : Mor H base r it ck L (ofId rows) seen o l c ms ss) : ms.length ≤ rows.length := by
  have := nodup_le (m := rows.map (·.2.1)) h.nd fun x hx => by
    obtain ⟨m, hm, rfl⟩ := List.mem_map.1 hx
    obtain ⟨e, he, hk, _⟩ := (h.key m.1).1 ⟨m, hm, rfl⟩
    rw [← hk]; exact ofId_ne (h.ne e he)
  simpa using this
theorem Put_ok {H : Heap} {la : Option Addr} {ln lc : Nat} {hs : List Sr} {ss : List Srs} {ra : Option Addr} {rn rc : Nat} {rows : List Rw} {K : Option Addr → Nat → Nat → Heap → Prop} (hx : Sl encSr H la ln lc hs) (hS : SerH H hs ss) (hR : RightS ss) (hrw : Sl encRw H ra rn rc rows)
    (hln : ln ≤ 1000000) (hrn : rn ≤ 1000000) (hsl : ∀ s ∈ ss, s.2.length ≤ 1000000)
    (hk : ∀ a' n' c' H' hs', Own encSr 92 H.size H' a' n' c' hs' → SerH H' hs' (putR ss rows) → (∀ m ∈ hs', ∀ q ∈ blkL m.2.1, H.size ≤ q) → Fr [] H H' → K a' n' c' H') :
    CallH Tryz.prog fn_series_Put ⟨[.slice la ln lc, .slice ra rn rc]⟩ H fun v H' => ∃ a n c, v = .slice a n c ∧ K a n c H' := by
  apply vc_series_Put
  intro b H1 hn1
  have hbH := hn1.eq
  have hrl := hrw.len
  have hll := hx.len
  have hssl : ss.length = ln := by rw [hll]; exact hS.len.symm
  refine ⟨fun vs H' => match vs with
      | [.int _ i] => ∃ (k ck : Nat) (L : List (Ent Int)), i = k ∧ k ≤ rn ∧ MapR MT H' b ck L ∧ Grp H' H.size b L (ofId (rows.take k)) ∧ (∀ id, (ofId (rows.take k) id).length ≤ k) ∧ Fr [] H H'
      | _ => False,
    fun vs _ => match vs with | [.int _ i] => rn - i.toNat | _ => 0, ⟨0, 0, [], rfl, by omega, MapR.new MT hn1, (Grp.start _ _ _).ext fun j => rfl, fun id => Nat.le_refl _, hn1.fr⟩, ?_⟩
  rintro J i H2 ⟨k, ck, L, rfl, hkn, hm, hG, hGl, hf⟩
  refine brB_of (fun h0 => ?_) (fun h0 => ?_)
  · have h0' : k < rn := by simpa using h0
    have hx1 : rows[k]? = some (rows[k]'(by omega)) := by simp
    generalize rows[k]'(by omega) = x at hx1
    refine (hrw.keep hf).get rfl hx1 (decide_eq_true (by omega)) fun ad ea hc => ⟨_, _, _, ldRw hc, ?_⟩
    refine var45 rfl fun b1 H3 hb1 hB hf3 => ?_
    have hm3 := hm.keep MT hf3
    have hG3 := hG.keep hf3
    have hf03 := hf.keep0 hf3
    have s03 := hf03.size
    have hbl : b < H3.size := hm3.lt
    obtain ⟨a, n, c, elk, ho2, hS1, hS0, hnl⟩ : ∃ a n c, (getL x.2.1 L).getD (.slice none 0 0) = .slice a n c ∧ Own encS 107 H.size H2 a n c (ofId (rows.take k) x.2.1) ∧ (∀ a' n' c', getL x.2.1 L = some (.slice a' n' c') → blkL a = blkL a') ∧ (getL x.2.1 L = none → blkL a = []) ∧ n ≤ k := by
      cases hl : getL x.2.1 L with
      | none => exact ⟨none, 0, 0, rfl, by rw [hG.no _ hl]; exact Own.nil _ _ _ _, (fun _ _ _ h => by cases h), fun _ => rfl, by omega⟩
      | some v =>
        obtain ⟨a, n, c, rfl, h2, _, _⟩ := hG.ent _ _ hl
        exact ⟨a, n, c, rfl, h2, (fun _ _ _ h => by cases h; rfl), (fun h => by cases h), by rw [h2.1]; exact hGl _⟩
    have ho := ho2.keep hf3
    have hlk : ∀ {H' : Heap}, Fr [] H3 H' → Rd Tryz.prog (Instr.lookup 123 (.map (some b)) (.int .i64 x.2.1) false) H' (.slice a n c) := fun hf' => by
      have := lookup_map MT M63 Z22 (hm3.keep MT hf') x.2.1
      rw [elk] at this; exact this
    refine ⟨_, hB.ldK (j := 1) (by kernel_rfl) rfl, _, hB.ldK (j := 1) (by kernel_rfl) rfl, a, n, c, hlk (Fr.refl _ _), _, hB.ld0 (by kernel_rfl) rfl, _, hB.ldK (j := 2) (by kernel_rfl) rfl, ?_⟩
    intro b2 H4 hn4
    have hB4 := hB.keep hn4.fr
    have s4 := hn4.size
    refine ⟨hlk hn4.fr, hB4.ldK (j := 1) (by kernel_rfl) rfl, hB4.ldK (j := 1) (by kernel_rfl) rfl, ?_⟩
    have ho4 := ho.keep hn4.fr
    refine ap_grow slice22 elem26 ho4 (sl_one encS ((x.1, x.2.2) : Smp) hn4 rfl) (by omega) (by omega) fun a' n' c' H5 ho5 hf5 hg5 => ?_
    have hbd : b ∉ blkL a := fun hk' => by
      cases hl : getL x.2.1 L with
      | none => rw [hS0 hl] at hk'; cases hk'
      | some v =>
        obtain ⟨a2, n2, c2, rfl, _, _, h4⟩ := hG3.ent _ _ hl
        rw [hS1 _ _ _ hl] at hk'; exact h4 hk'
    have hB5 : Blk H5 ⟨b1, 0, none⟩ (encRw.cells x) := hB4.fr hf5 fun hk' => by
      have := ho2.bIn _ hk'
      simp at this; omega
    refine ⟨hB5.ldK (j := 1) (by kernel_rfl) rfl, ?_⟩
    have hm5 := (hm3.keep MT hn4.fr).fr MT hf5 hbd
    refine put_map MT M63 hm5 x.2.1 fun H6 hm6 hf6 => ?_
    rw [succ64 (by omega)]
    have hG6 := (hG3.keep hn4.fr).put (ck := ck) hf5 (fun a'' n'' c'' hl => (hS1 a'' n'' c'' hl)) hS0 ho5 (by omega) hg5 hf6
    have etk : rows.take (k + 1) = rows.take k ++ [x] := by rw [List.take_add_one, hx1]; rfl
    refine ⟨⟨k + 1, _, _, rfl, by omega, hm6, hG6.ext fun j => ?_, fun id => ?_, ?_⟩, mu_lt h0'⟩
    · rw [etk, ofId_snoc]
      by_cases e : j = x.2.1
      · subst e; rw [if_pos rfl, if_pos rfl]
      · rw [if_neg e, if_neg (fun h => e h.symm)]; simp
    · rw [etk, ofId_snoc, List.length_append]
      have := hGl id
      split <;> simp <;> omega
    · refine ((hf03.keep0 hn4.fr).keep hf5 fun k hk' => (ho4.ge k hk').1).keep hf6 fun k hk' => ?_
      simp at hk'; omega
  have hkn' : k = rn := by simp at h0; omega
  subst hkn'
  rw [List.take_of_length_le (by omega)] at hG hGl
  refine range_map MT M63 hm fun it H3 hn3 => ?_
  have hM0 := Mor.start hG hm hn3
  have s3 := hn3.size
  have hf03 := hf.keep0 hn3.fr
  have hbs : H.size ≤ b := by omega
  have hits : H.size ≤ it := by have := hn3.eq; have := hf.size; omega
  refine ⟨fun vs H' => match vs with
      | [.slice o l c] => ∃ seen ms ss', Mor H' H.size b it ck L (ofId rows) seen o l c ms ss' ∧ Fr [] H H'
      | _ => False,
    fun _ H' => pendH H' b it, ⟨#[], [], [], hM0, hf03⟩, ?_⟩
  rintro J o l c H4 ⟨seen, ms, ss', hM, hf4⟩
  refine next_map MT hM.map hM.itr (fun hall => ?_) fun e he hns H5 hi5 hf5 => ?_
  · have hml : l ≤ 1000000 := by have := hM.mo.1; have := hM.len; omega
    have hol := hM.mo.1
    refine SortSr_ok hM.mo (by omega) fun H5 ys ho5 hp hpw hf5 => ?_
    obtain ⟨ss1, hp1, hA⟩ := All2.perm hp hM.msr
    have hf05 : Fr [] H H5 := hf4.keep hf5 fun k hk => (hM.mo.ge k hk).1
    have hyl := ho5.1
    have hyd : ∀ m ∈ ys, Dj (blkL o) (blkL m.2.1) ∧ ∃ e ∈ L, e.1 = m.1 := fun m hm => by
      obtain ⟨e, he, hk', hs'⟩ := (hM.key m.1).1 ⟨m, hp.mem_iff.1 hm, rfl⟩
      obtain ⟨s, _, _, g2, _⟩ := hA.mem hm
      rw [g2, ← hk']
      exact ⟨hM.od e he, e, he, rfl⟩
    have hS5 : SerH H5 ys ss1 := hA.mono fun m s hm hs hr => ⟨hr.1, sl_fr hr.2.2.1.sl hf5 (hyd m hm).1.symm⟩
    have hFin : ∀ s ∈ ss1, FinP (ofId rows s.1) s.2 := fun s hs => by
      obtain ⟨m, _, g1, _, _, g4⟩ := hA.mem' hs
      rw [← g1]; exact g4
    have hypw : ys.Pairwise fun a b => a.1 < b.1 := by
      have hnd : (ys.map (·.1)).Nodup := (hp.map _).nodup_iff.2 hM.nd
      refine (hpw.and (List.pairwise_map.1 hnd)).imp fun {x y} h => ?_
      have h1 : ¬ y.1 < x.1 := fun hh => h.1 (cmpI_neg.2 hh)
      have h2 := h.2
      omega
    have hpw1 : ss1.Pairwise fun a b => a.1 < b.1 := by
      have : ∀ {ys : List Sr} {ss1 : List Srs}, SerH H5 ys ss1 → ys.Pairwise (fun a b => a.1 < b.1) → ss1.Pairwise fun a b => a.1 < b.1 := by
        intro ys ss1 h
        induction h with
        | nil => intro _; exact List.Pairwise.nil
        | cons h1 h2 ih =>
          intro hh
          have hh' := List.pairwise_cons.1 hh
          refine List.pairwise_cons.2 ⟨fun s hs => ?_, ih hh'.2⟩
          obtain ⟨x, hx, e⟩ := All2.mem' h2 hs
          rw [← h1.1, ← e.1]; exact hh'.1 x hx
      exact this hS5 hypw
    have hs1l : ss1.length = l := by rw [hyl, hS5.len]
    have hs1n : ∀ s ∈ ss1, s.2.length ≤ 1000000 := fun s hs => by
      obtain ⟨ys', _, h2, h3⟩ := hFin s hs
      have h4 := dd_len none ys'
      have h5 := h2.length
      have h6 := hGl s.1
      rw [h3]; unfold dd
      rw [List.length_reverse] at h5; omega
    have hRm : RightS (ss1.map (updS ss)) := by
      refine ⟨List.pairwise_map.2 (hpw1.imp fun h => h), fun s hs => ?_⟩
      obtain ⟨s0, hs0, rfl⟩ := List.mem_map.1 hs
      have hF := hFin s0 hs0
      obtain ⟨m, hm, g1, _⟩ := hA.mem' hs0
      obtain ⟨e, he, hk'⟩ := (hyd m hm).2
      have hne : s0.2 ≠ [] := hF.ne (by rw [← g1, ← hk']; exact hM.ne e he)
      exact ⟨mrg_ne hne (atS_ris hR _) hF.ris, ris_mrg _ _ (atS_ris hR _) hF.ris⟩
    have hput : mrgC cfP ss (ss1.map (updS ss)) = putR ss rows := by
      refine put_eq hR hRm (fun id => ⟨?_, fun hne => ?_⟩) fun s hs t => ?_
      · rintro ⟨s, hs, rfl⟩
        obtain ⟨s0, hs0, rfl⟩ := List.mem_map.1 hs
        obtain ⟨m, hm, g1, _⟩ := hA.mem' hs0
        obtain ⟨e, he, hk'⟩ := (hyd m hm).2
        show ofId rows s0.1 ≠ []
        rw [← g1, ← hk']; exact hM.ne e he
      · cases hl : getL id L with
        | none => exact absurd (hG.no id hl) hne
        | some v =>
          obtain ⟨bb, hb⟩ := mem_getL hl
          obtain ⟨m, hm, hk'⟩ := (hM.key id).2 ⟨_, hb, rfl, hall _ hb⟩
          obtain ⟨s, hs, g1, _⟩ := hA.mem (hp.mem_iff.2 hm)
          exact ⟨_, List.mem_map.2 ⟨s, hs, rfl⟩, by show s.1 = id; rw [← g1, hk']⟩
      · obtain ⟨s0, hs0, rfl⟩ := List.mem_map.1 hs
        have hF := hFin s0 hs0
        show valQ (mrg (atS ss s0.1) s0.2) t = _
        rw [valQ_mrg _ _ _ (atS_ris hR _) hF.ris, hF.val, atS_val]
        rfl
    have hpll := putR_len (rows := rows) hsl
    refine ⟨fun vs H' => match vs with
        | [.int _ i] => ∃ (k : Nat) (ws : List Sr), i = k ∧ k ≤ l ∧ Own encSr 92 H.size H' o l c ws ∧ SerH H' ws ((ss1.take k).map (updS ss) ++ ss1.drop k) ∧ (∀ m ∈ ws, Dj (blkL o) (blkL m.2.1)) ∧ Fr [] H H'
        | _ => False,
      fun vs _ => match vs with | [.int _ i] => l - i.toNat | _ => 0, ⟨0, ys, rfl, by omega, ho5, hS5, fun m hm => (hyd m hm).1, hf05⟩, ?_⟩
    rintro J i H6 ⟨k, ws, rfl, hkl, ho6, hS6, hd6, hf6⟩
    have hwl := ho6.1
    refine brB_of (fun h1 => ?_) (fun h1 => ?_)
    · have h1' : k < l := by simpa using h1
      have hs0 : ss1[k]? = some (ss1[k]'(by omega)) := by simp
      generalize ss1[k]'(by omega) = s at hs0
      have hsm := List.mem_of_getElem? hs0
      obtain ⟨u1, u2⟩ := take_upd (f := updS ss) hs0
      obtain ⟨x, hx0, hxr⟩ := All2.get' hS6 u1
      have hxm := List.mem_of_getElem? hx0
      refine ho6.sl.get rfl hx0 (decide_eq_true (by omega)) fun ad ea hc => ⟨_, _, _, _, ldSr hc, ?_⟩
      refine Search_ok byS (t := x) (hx.keep hf6) (by omega) (hS.pw hR.1) (fun kk y H7 hy hyx hf7 => ?_) (fun hno mm H7 hf7 => ?_)
      · refine brB_of (fun _ => ?_) (fun h => by cases h)
        have hf07 := hf6.keep0 hf7
        obtain ⟨t, ht, htr⟩ := (hS.keep hf07).get hy
        have hkl2 := (List.getElem?_eq_some_iff.1 hy).1
        have htm := hsl t (List.mem_of_getElem? ht)
        have hsn := hs1n s hsm
        have e1 := htr.2.len
        have e2 := hxr.2.len
        refine (hx.keep hf07).get rfl hy (decide_eq_true (by omega)) fun ad ea hc => ⟨_, _, _, ldSr1 hc, ?_⟩
        have ho7 := ho6.keep hf7
        refine ho7.sl.get rfl hx0 (decide_eq_true (by omega)) fun ad ea hc => ⟨_, _, _, ldSr1 hc, ?_⟩
        refine Merge_ok htr.2 (hxr.2.keep hf7) (by omega) fun a' n' c' H8 ho8 hf8 => ?_
        obtain ⟨ad, ea⟩ : ∃ ad, o = some ad := by
          cases o with
          | none =>
            obtain ⟨_, ⟨_, h0, _⟩ | ⟨_, _, e, _⟩⟩ := ho6
            · omega
            · cases e
          | some ad => exact ⟨ad, rfl⟩
        refine exSome_of ea (chk_true (decide_eq_true (by omega)) ?_)
        refine own_st (x' := ((x.1, (a', n', c')) : Sr)) (j := 1) (ho7.keep hf8) ea rfl hx0 (by kernel_rfl) (by kernel_rfl) (by simp [Value.cells, Value.oneCell']) (Nat.le_refl 2) rfl fun H9 ho9 hf9 => ?_
        have hS8 := (hS6.keep hf7).keep hf8
        have hne : ∀ m ∈ ws, ∀ q, Sl encS H8 m.2.1 m.2.2.1 m.2.2.2 q → Sl encS H9 m.2.1 m.2.2.1 m.2.2.2 q := fun m hm q hq => sl_fr hq hf9 (hd6 m hm).symm
        have hda : Dj (blkL o) (blkL a') := fun k hk hk' => by
          have h2 := (ho8.ge k hk').1
          have h3 := ho7.bIn k hk
          omega
        rw [succ64 (by omega)]
        refine ⟨⟨k + 1, _, rfl, by omega, ho9, ?_, fun m hm => ?_, ?_⟩, mu_lt h1'⟩
        · rw [← u2]
          refine All2.set (hS8.mono fun m s' hm _ hr => ⟨hr.1, hne m hm _ hr.2⟩) ⟨hxr.1, ?_⟩
          have e3 : atS ss s.1 = t.2 := by rw [← hxr.1, ← hyx, htr.1]; exact atS_get hR.1 ht
          show Sl encS H9 a' n' c' (mrg (atS ss s.1) s.2)
          rw [e3]
          exact sl_fr ho8.sl hf9 hda.symm
        · rcases List.mem_or_eq_of_mem_set hm with hm | rfl
          · exact hd6 m hm
          · exact hda
        · exact (hf07.keep0 hf8).keep hf9 fun k hk => (ho6.ge k hk).1
      · refine brB_of (fun h => by cases h) (fun _ => ?_)
        rw [succ64 (by omega)]
        refine ⟨⟨k + 1, ws, rfl, by omega, ho6.keep hf7, ?_, hd6, hf6.keep0 hf7⟩, mu_lt h1'⟩
        have e3 : updS ss s = s := by
          unfold updS
          rw [atS_none fun s' hs' e => ?_, mrg_nil]
          obtain ⟨y, hy, e4⟩ := All2.mem' hS hs'
          exact hno y hy (by rw [e4.1, e, hxr.1])
        rw [← u2, e3]
        have : ((ss1.take k).map (updS ss) ++ ss1.drop k).set k s = (ss1.take k).map (updS ss) ++ ss1.drop k := by
          obtain ⟨hk2, e5⟩ := List.getElem?_eq_some_iff.1 u1
          rw [← e5, List.set_getElem_self]
        rw [this]; exact hS6.keep hf7
    · have hkl' : k = l := by simp at h1; omega
      subst hkl'
      rw [List.take_of_length_le (by omega), List.drop_of_length_le (by omega), List.append_nil] at hS6
      refine mergeS_ok byS (hx.keep hf6) ho6.sl (by omega) fun a7 n7 c7 H7 ho7 hf7 => ?_
      have hS7 : SerH H7 (mrgC cfSr hs ws) (putR ss rows) := by rw [← hput]; exact ((hS.keep hf6).merge hS6).keep hf7
      have hRp := (right_putR (rows := rows) hR).1
      have hf07 := hf6.keep0 hf7
      have s67 := hf6.size
      have hn7 : n7 = (putR ss rows).length := by rw [ho7.1]; exact hS7.len
      have live : ∀ {m : Sr} {H' : Heap}, m ∈ mrgC cfSr hs ws → Dj (blkL a7) (blkL m.2.1) := fun {m H'} hm k hk hk' => by
        have h2 := (ho7.ge k hk).1
        have hS6' := ((hS.keep hf6).merge hS6)
        rw [hput] at hS6'
        obtain ⟨s, hs', hr⟩ := All2.mem hS6' hm
        have := sl_lt hr.2 (hRp.2 s hs').1 k hk'
        omega
      refine ⟨fun vs H' => match vs with
          | [.int _ i] => ∃ (k : Nat) (ws' : List Sr), i = k ∧ k ≤ n7 ∧ Own encSr 92 H6.size H' a7 n7 c7 ws' ∧ SerH H' ws' (putR ss rows) ∧ (∀ m ∈ ws', Dj (blkL a7) (blkL m.2.1)) ∧ (∀ j m, j < k → ws'[j]? = some m → ∀ q ∈ blkL m.2.1, H.size ≤ q) ∧ Fr [] H6 H'
          | _ => False,
        fun vs _ => match vs with | [.int _ i] => n7 - i.toNat | _ => 0, ⟨0, _, rfl, by omega, ho7, hS7, fun m hm => live (H' := H7) hm, (fun j m hj => absurd hj (Nat.not_lt_zero _)), hf7⟩, ?_⟩
      rintro J i H8 ⟨k, ws', rfl, hk7, ho8, hS8, hd8, hfr8, hf8⟩
      have hwl' := ho8.1
      refine brB_of (fun h2 => ?_) (fun h2 => ⟨_, _, _, rfl, hk a7 n7 c7 H8 ws' (ho8.base s67) hS8 (fun m hm q hq => by
        obtain ⟨j, hj⟩ := List.mem_iff_getElem?.1 hm
        have hjl := (List.getElem?_eq_some_iff.1 hj).1
        have h2' : ¬ k < n7 := by simpa using h2
        exact hfr8 j m (by omega) hj q hq) (hf6.keep0 hf8)⟩)
      have h2' : k < n7 := by simpa using h2
      have hs0 : (putR ss rows)[k]? = some ((putR ss rows)[k]'(by omega)) := by simp
      generalize (putR ss rows)[k]'(by omega) = s at hs0
      obtain ⟨x, hx0, hxr⟩ := All2.get' hS8 hs0
      have hsn := hpll.2 s (List.mem_of_getElem? hs0)
      have e2 := hxr.2.len
      refine ho8.sl.get rfl hx0 (decide_eq_true (by omega)) fun ad ea hc => ⟨_, _, _, ldSr1 hc, ?_⟩
      refine Clone_ok hxr.2 (by omega) fun a' n' c' H9 ho9 hf9 => ?_
      obtain ⟨ad, ea⟩ : ∃ ad, a7 = some ad := by
        cases a7 with
        | none =>
          obtain ⟨_, ⟨_, h0, _⟩ | ⟨_, _, e, _⟩⟩ := ho8
          · omega
          · cases e
        | some ad => exact ⟨ad, rfl⟩
      refine exSome_of ea (chk_true (decide_eq_true (by omega)) ?_)
      refine own_st (x' := ((x.1, (a', n', c')) : Sr)) (j := 1) (ho8.keep hf9) ea rfl hx0 (by kernel_rfl) (by kernel_rfl) (by simp [Value.cells, Value.oneCell']) (Nat.le_refl 2) rfl fun H10 ho10 hf10 => ?_
      have hda : Dj (blkL a7) (blkL a') := fun k hk hk' => by
        have h3 := (ho9.ge k hk').1
        have h4 := ho8.bIn k hk
        omega
      rw [succ64 (by omega)]
      refine ⟨⟨k + 1, _, rfl, by omega, ho10, ?_, fun m hm => ?_, fun j m hj hm q hq => ?_, ?_⟩, mu_lt h2'⟩
      · have es : (putR ss rows).set k s = putR ss rows := by
          obtain ⟨hk2, e5⟩ := List.getElem?_eq_some_iff.1 hs0
          rw [← e5, List.set_getElem_self]
        rw [← es]
        refine All2.set ((hS8.keep hf9).mono fun m s' hm _ hr => ⟨hr.1, sl_fr hr.2 hf10 (hd8 m hm).symm⟩) ⟨hxr.1, ?_⟩
        exact sl_fr ho9.sl hf10 hda.symm
      · rcases List.mem_or_eq_of_mem_set hm with hm | rfl
        · exact hd8 m hm
        · exact hda
      · by_cases e : j = k
        · subst e
          rw [List.getElem?_set_self (by omega)] at hm
          cases hm
          have h3 := (ho9.ge q hq).1
          have h4 := hf8.size
          omega
        · rw [List.getElem?_set_ne (fun h => e h.symm)] at hm
          exact hfr8 j m (by omega) hm q hq
      · exact (hf8.keep0 hf9).keep hf10 fun k hk => (ho8.ge k hk).1
  · obtain ⟨n, c', e1, ho⟩ := hM.un e he hns
    have hm5 := hM.map.fr MT hf5 (by simp; exact hM.ro.2.2)
    have ho5 := own_fr ho hf5 (fun k hk hk' => by simp at hk'; subst hk'; exact (hM.ra e he).2 hk)
    have hnn : n ≤ 1000000 := by have := ho.1; have := hGl e.1; omega
    refine entry_map MT hm5 hi5 he rfl ⟨_, rfl, _, _, _, e1, ?_⟩
    refine Reverse_ok ho5 (by omega) fun H6 ho6 hf6 => ?_
    refine SortStable_ok byT ho6 (by omega) fun H7 ys ho7 hs7 hst7 hf7 => ?_
    refine Compact_ok tells_eq ho7 (by omega) fun n' H8 ho8 hn8 hf8 => ?_
    have hF : FinP (ofId rows e.1) (dd ys) := ⟨ys, hs7, hst7, rfl⟩
    have hf58 : Fr (blkL (adL L e.1)) H5 H8 := (hf6.trans' hf7 (fun _ h _ => h) (fun _ h _ => h)).trans' hf8 (fun _ h _ => h) (fun _ h _ => h)
    intro b9 H9 hn9
    have s45 := hf5.size
    have s58 := hf58.size
    have s9 := hn9.size
    have s04 := hf4.size
    have itlt : it < H4.size := lt_of_get hM.itr
    have mo9 : Own encSr 92 H.size H9 o l c ms := by
      refine (own_fr (own_fr hM.mo hf5 fun k hk hk' => ?_) hf58 (hM.od e he)).keep hn9.fr
      simp at hk'; subst hk'; exact hM.ro.2.1 hk
    have hml : l ≤ 1000000 := by have := hM.mo.1; have := hM.len; omega
    refine ap_grow slice37 elem68 mo9 (sl_one encSr ((e.1, (adL L e.1, n', c')) : Sr) hn9 rfl) (by omega) (by omega) fun o' l' d' H10 ho10 hf10 hg10 => ?_
    have hM' := hM.step he hns hi5 hf5 hf58 ho8 hF hn9.fr ho10 hf10 hg10
    refine ⟨⟨_, _, _, hM', ?_⟩, ?_⟩
    · refine (((hf4.keep hf5 fun k hk => by simp at hk; omega).keep hf58 fun k hk => (ho5.ge k hk).1).keep0 hn9.fr).keep hf10 fun k hk => (mo9.ge k hk).1
    · show pendH H10 b it < pendH H4 b it
      rw [pendH_eq MT hM'.map hM'.itr, pendH_eq MT hM.map hM.itr]
      exact pendB_push (List.mem_map_of_mem (f := fun x : Ent Int => x.2.2) he) hns

theorem elem62 : elemB Tryz.prog 117 2 32 = true := by kernel_rfl
theorem slice35 : sliceB Tryz.prog 62 117 = true := by kernel_rfl
theorem ldSr62 {H : Heap} {ad : Addr} {x : Sr} (h : CellsAt H ad (encSr.cells x)) : Ld Tryz.prog 117 H ad (vSr x) := ld_many (by kernel_rfl) (by kernel_rfl) h
theorem Right_ok {H : Heap} {a : Option Addr} {n c : Nat} {hs : List Sr} {ss : List Srs} {K : Bool → Heap → Prop} (hx : Sl encSr H a n c hs) (h1 : SerH H hs ss) (hR : RightS ss) (hn : n ≤ 1000000) (hsl : ∀ s ∈ ss, s.2.length ≤ 1000000000) (hk : K true H) :
    CallH Tryz.prog fn_ref13_Right ⟨[.slice a n c]⟩ H fun v H' => ∃ r, v = .bool r ∧ K r H' := by
  apply vc_ref13_Right
  have e1 := hx.len
  have e3 := h1.len
  have hpw := h1.pw hR.1
  refine ⟨fun vs H' => match vs with | [.int _ i] => ∃ k : Nat, i = k ∧ k ≤ n ∧ H' = H | _ => False, fun vs _ => match vs with | [.int _ i] => n - i.toNat | _ => 0, ⟨0, rfl, by omega, rfl⟩, ?_⟩
  rintro J i H1 ⟨k, rfl, hkn, rfl⟩
  refine brB_of (fun h0 => ?_) (fun h0 => ⟨_, rfl, hk⟩)
  have h0' : k < n := by simpa using h0
  have hx1 : hs[k]? = some (hs[k]'(by omega)) := by simp
  generalize hs[k]'(by omega) = x at hx1
  obtain ⟨s, hs1, r1⟩ := h1.get hx1
  have l1 := r1.2.len
  have l2 := hsl s (List.mem_of_getElem? hs1)
  have hs2 := hR.2 s (List.mem_of_getElem? hs1)
  have l3 := List.length_pos_iff.2 hs2.1
  refine ⟨fun _ H' => H' = H1, ?_, fun J H2 e => by subst e; rw [succ64 (by omega)]; exact ⟨⟨k + 1, rfl, by omega, rfl⟩, mu_lt h0'⟩⟩
  refine hx.get rfl hx1 (decide_eq_true (by omega)) fun ad ea hc => ⟨_, _, _, ldSr1 hc, brB_of (fun h => by simp at h; omega) (fun _ => ?_)⟩
  refine hx.get rfl hx1 (decide_eq_true (by omega)) fun ad ea hc => ⟨_, _, _, ldSr1 hc, rRises_ok r1.2 (by omega) ?_⟩
  refine brB_of (fun h => by rw [decide_eq_true hs2.2] at h; cases h) (fun _ => brB_of (fun h2 => ?_) (fun _ => rfl))
  have hk0 : 0 < k := by simpa using h2
  rw [pred64 (by omega) hk0]
  have hy1 : hs[k - 1]? = some (hs[k - 1]'(by omega)) := by simp
  generalize hs[k - 1]'(by omega) = y at hy1
  have hyx : y.1 < x.1 := by
    obtain ⟨hi, e⟩ := List.getElem?_eq_some_iff.1 hy1
    obtain ⟨hj, e'⟩ := List.getElem?_eq_some_iff.1 hx1
    rw [← e, ← e']
    exact List.pairwise_iff_getElem.1 hpw (k - 1) k hi hj (by omega)
  refine hx.get rfl hx1 (decide_eq_true (by omega)) fun ad ea hc => ⟨_, ldSr0 hc, hx.get rfl hy1 (decide_eq_true (by omega)) fun ad ea hc => ⟨_, ldSr0 hc, ?_⟩⟩
  exact brB_of (fun h => by have := of_decide_eq_true h; omega) (fun _ => rfl)

def rpS (x : Rw) (done : Bool) : List Srs → List Srs
  | [] => if done then [] else [(x.2.1, [(x.1, x.2.2)])]
  | s :: ss => (if done = false ∧ s.1 > x.2.1 then [(x.2.1, [(x.1, x.2.2)])] else []) ++ ((if s.1 = x.2.1 then (x.2.1, mrg s.2 [(x.1, x.2.2)]) else s) :: rpS x (if s.1 = x.2.1 then true else if done = false ∧ s.1 > x.2.1 then true else done) ss)
theorem rpS_done {x : Rw} : ∀ {ss : List Srs}, (∀ s ∈ ss, s.1 ≠ x.2.1) → rpS x true ss = ss
  | [], _ => rfl
  | s :: ss, h => by
    unfold rpS
    rw [if_neg (by simp), if_neg (h s (by simp)), if_neg (h s (by simp)), if_neg (by simp), rpS_done fun y hy => h y (by simp [hy])]
    rfl
theorem rpS_put {x : Rw} : ∀ {ss : List Srs}, ss.Pairwise (fun a b => a.1 < b.1) → rpS x false ss = put1 ss x
  | [], _ => rfl
  | s :: ss, h => by
    have h' := List.pairwise_cons.1 h
    unfold rpS put1
    by_cases h1 : x.2.1 < s.1
    · rw [if_pos ⟨rfl, h1⟩, if_pos h1, if_neg (by omega), if_neg (by omega), if_pos ⟨rfl, h1⟩, rpS_done fun y hy => by have := h'.1 y hy; omega]
      rfl
    · rw [if_neg (fun hh => h1 hh.2), if_neg h1]
      by_cases h2 : s.1 = x.2.1
      · rw [if_pos h2, if_pos h2, if_pos h2, rpS_done fun y hy => by have := h'.1 y hy; omega, ← h2]
        rfl
      · rw [if_neg h2, if_neg h2, if_neg h2, if_neg (fun hh => h1 hh.2), rpS_put h'.2]
        rfl
structure SerO (base : Nat) (H : Heap) (o : Option Addr) (l d : Nat) (hs : List Sr) (ss : List Srs) : Prop where
  own : Own encSr 117 base H o l d hs
  ser : SerH H hs ss
  dj : ∀ m ∈ hs, Dj (blkL o) (blkL m.2.1)
  ne : ∀ s ∈ ss, s.2 ≠ []
theorem SerO.keep {base : Nat} {H H' : Heap} {o : Option Addr} {l d : Nat} {hs : List Sr} {ss : List Srs} (h : SerO base H o l d hs ss) (hf : Fr [] H H') : SerO base H' o l d hs ss := ⟨h.own.keep hf, h.ser.keep hf, h.dj, h.ne⟩
theorem SerO.push {H0 H : Heap} {o : Option Addr} {l d : Nat} {hs : List Sr} {ss : List Srs} {ty t' : TypeId} {vs : List Value} {K : Nat → Option Addr → Nat → Nat → Heap → Prop} (m : Sr) (s : Srs) (h : SerO H0.size H o l d hs ss) (hf : Fr [] H0 H) (hr : SerR H m s) (hn : s.2 ≠ []) (hd : Dj (blkL o) (blkL m.2.1)) (hv : vs = encSr.cells m) (hl : l ≤ 1000000000)
    (hk : ∀ b o' l' d' H', SerO H0.size H' o' l' d' (hs ++ [m]) (ss ++ [s]) → Fr [] H0 H' → l' = l + 1 → K b o' l' d' H') :
    ∀ b H1, New H b (.cells ⟨vs⟩ t') H1 → SemWp Tryz.prog (Builtin.append_ ⟨[62, 62]⟩ ty ⟨[.slice o l d, .slice (some ⟨b, 0, none⟩) 1 1]⟩) H1 fun v H' => ∃ a n c, v = .slice a n c ∧ K b a n c H' := fun b H1 hn1 => by
  have s1 := hn1.size
  have s0 := hf.size
  refine ap_grow slice35 elem62 (h.own.keep hn1.fr) (sl_one encSr m hn1 hv) (by omega) (by omega) fun o' l' d' H2 ho2 hf2 hg2 => ?_
  have hl2 := ho2.1
  have hl1 := h.own.1
  simp at hl2
  have hdj : ∀ m' s', SerR H m' s' → s'.2 ≠ [] → Dj (blkL o) (blkL m'.2.1) → Dj (blkL o') (blkL m'.2.1) := fun m' s' hr' hn' hd' k hk hk' => by
    rcases hg2 k hk with h1 | h1
    · exact hd' k h1 hk'
    · have := sl_lt hr'.2 hn' k hk'; omega
  refine hk b o' l' d' H2 ⟨ho2, All2.app ?_ (.cons ⟨hr.1, sl_fr (hr.2.keep hn1.fr) hf2 hd.symm⟩ .nil), fun m' hm' => ?_, fun s' hs' => ?_⟩ ((hf.keep0 hn1.fr).keep hf2 fun k hk => ((h.own.keep hn1.fr).ge k hk).1) (by omega)
  · exact (h.ser.keep hn1.fr).mono fun m' s' hm' _ hr' => ⟨hr'.1, sl_fr hr'.2 hf2 (h.dj m' hm').symm⟩
  · rcases List.mem_append.1 hm' with hm' | hm'
    · obtain ⟨s', hs', hr'⟩ := All2.mem h.ser hm'
      exact hdj m' s' hr' (h.ne s' hs') (h.dj m' hm')
    · simp at hm'; subst hm'
      exact hdj m' s hr hn hd
  · rcases List.mem_append.1 hs' with hs' | hs'
    · exact h.ne s' hs'
    · simp at hs'; subst hs'; exact hn
theorem rPut_ok {H : Heap} {la : Option Addr} {ln lc : Nat} {hs : List Sr} {ss : List Srs} {ra : Option Addr} {rn rc : Nat} {rows : List Rw} {K : Option Addr → Nat → Nat → Heap → Prop} (hx : Sl encSr H la ln lc hs) (hS : SerH H hs ss) (hR : RightS ss) (hrw : Sl encRw H ra rn rc rows)
    (hln : ln ≤ 1000000) (hrn : rn ≤ 1000000) (hsl : ∀ s ∈ ss, s.2.length ≤ 1000000)
    (hk : ∀ a' n' c' H' hs', Sl encSr H' a' n' c' hs' → SerH H' hs' (putR ss rows) → Fr [] H H' → K a' n' c' H') :
    CallH Tryz.prog fn_ref13_Put ⟨[.slice la ln lc, .slice ra rn rc]⟩ H fun v H' => ∃ a n c, v = .slice a n c ∧ K a n c H' := by
  apply vc_ref13_Put
  have hrl := hrw.len
  have hll := hx.len
  have hssl : ss.length = ln := by rw [hll]; exact hS.len.symm
  refine ⟨fun vs H' => match vs with
      | [.slice a n c, .int _ i] => ∃ (k : Nat) (hs' : List Sr) (ss' : List Srs), i = k ∧ k ≤ rn ∧ Sl encSr H' a n c hs' ∧ SerH H' hs' ss' ∧ RightS ss' ∧ putR ss' (rows.drop k) = putR ss rows ∧ n ≤ 1000000 + k ∧ (∀ s ∈ ss', s.2.length ≤ 1000000 + k) ∧ Fr [] H H'
      | _ => False,
    fun vs _ => match vs with | [_, .int _ i] => rn - i.toNat | _ => 0, ⟨0, hs, ss, rfl, by omega, hx, hS, hR, rfl, by omega, by simpa using hsl, Fr.refl _ _⟩, ?_⟩
  rintro J a n c i H1 ⟨k, hs1, ss1, rfl, hkn, hx1, hS1, hR1, hput, hn1, hl1, hf1⟩
  refine brB_of (fun h0 => ?_) (fun h0 => ⟨_, _, _, rfl, ?_⟩)
  rotate_left
  · rw [List.drop_of_length_le (by simp at h0; omega)] at hput
    exact hk a n c H1 hs1 hx1 (by rw [← hput]; exact hS1) hf1
  have h0' : k < rn := by simpa using h0
  have hr1 : rows[k]? = some (rows[k]'(by omega)) := by simp
  have hdr : rows.drop k = rows[k]'(by omega) :: rows.drop (k + 1) := List.drop_eq_getElem_cons (by omega)
  generalize rows[k]'(by omega) = x at hr1 hdr
  refine (hrw.keep hf1).get rfl hr1 (decide_eq_true (by omega)) fun ad ea hc => ⟨_, _, _, ldRw hc, ?_⟩
  refine var45 rfl fun b H2 hb hB hf2 => ⟨_, hB.ld0 (by kernel_rfl) rfl, _, hB.ldK (j := 2) (by kernel_rfl) rfl, ?_⟩
  intro b1 H3 hn3
  have ho1 : Sl encS H3 (some ⟨b1, 0, none⟩) 1 1 [(x.1, x.2.2)] := sl_one encS ((x.1, x.2.2) : Smp) hn3 rfl
  intro b2 H4 hn4
  have hf13 := hf2.keep0 hn3.fr
  have hB3 := hB.keep hn3.fr
  have hlen1 := hx1.len
  have hsl1 := hS1.len
  have e3 := hn3.eq
  have s3 := hn3.size
  have s13 := hf13.size
  have hput1 := rpS_put (x := x) hR1.1
  obtain ⟨hp1, hp2⟩ := put1_len (x := x) hl1
  obtain ⟨hp3, _⟩ := right_put1 (x := x) hR1
  refine ⟨fun vs H' => match vs with
      | [.slice o l d, .bool w, .int _ i] => ∃ (j : Nat) (hs2 : List Sr) (ss2 : List Srs), i = j ∧ j ≤ n ∧ SerO H3.size H' o l d hs2 ss2 ∧ ss2 ++ rpS x w (ss1.drop j) = put1 ss1 x ∧ l ≤ 2 * j ∧ Fr [] H3 H'
      | _ => False,
    fun vs _ => match vs with | [_, _, .int _ i] => n - i.toNat | _ => 0, ⟨0, [], [], rfl, by omega, ⟨Own.made _ _ hn4 (Nat.le_refl _), .nil, by simp, by simp⟩, hput1, by omega, hn4.fr⟩, ?_⟩
  rintro J o l d w i H5 ⟨j, hs2, ss2, rfl, hjn, ho5, hrp, hl5, hf5⟩
  have hf15 := hf13.keep0 hf5
  have hlx : ∀ {H' : Heap}, Fr [] H3 H' → Ld Tryz.prog 3 H' ⟨b, 1, none⟩ (.int .i64 x.2.1) := fun hf => (hB3.keep hf).ldK (j := 1) (by kernel_rfl) rfl
  have newS : ∀ {H' : Heap}, Fr [] H3 H' → SerR H' (x.2.1, (some ⟨b1, 0, none⟩, 1, 1)) (x.2.1, [(x.1, x.2.2)]) := fun hf => ⟨rfl, ho1.keep hf⟩
  have djOld : ∀ {o : Option Addr} {l d : Nat} {hs : List Sr} {ss : List Srs} {H' : Heap} {a : Option Addr}, SerO H3.size H' o l d hs ss → (∀ k ∈ blkL a, k < H3.size) → Dj (blkL o) (blkL a) := fun h ha k hk hk' => by
    have := (h.own.ge k hk).1
    have := ha k hk'; omega
  have newD : ∀ k ∈ blkL (some (⟨b1, 0, none⟩ : Addr)), k < H3.size := fun k hk => by simp [blkL] at hk; omega
  refine brB_of (fun h1 => ?_) (fun h1 => ?_)
  · have h1' : j < n := by simpa using h1
    have hs0 : ss1[j]? = some (ss1[j]'(by omega)) := by simp
    have hdj : ss1.drop j = ss1[j]'(by omega) :: ss1.drop (j + 1) := List.drop_eq_getElem_cons (by omega)
    generalize ss1[j]'(by omega) = s at hs0 hdj
    obtain ⟨y, hy0, hyr⟩ := All2.get' hS1 hs0
    have hsn := hl1 s (List.mem_of_getElem? hs0)
    have hsr := hR1.2 s (List.mem_of_getElem? hs0)
    rw [hdj] at hrp
    unfold rpS at hrp
    have hyl := hyr.2.len
    have hyd : ∀ k ∈ blkL y.2.1, k < H3.size := fun k hk => by have := sl_lt hyr.2 hsr.1 k hk; omega
    refine ⟨fun vs H' => match vs with
        | [.slice o l d, .bool w'] => ∃ hs3 ss3, SerO H3.size H' o l d hs3 ss3 ∧ ss3 ++ rpS x w' (ss1.drop (j + 1)) = put1 ss1 x ∧ l ≤ 2 * (j + 1) ∧ Fr [] H3 H'
        | _ => False, ?_, ?_⟩
    · -- ahead of it, perhaps
      refine ⟨fun vs H' => match vs with
          | [.slice o l d, .bool w'] => ∃ hs3 ss3, SerO H3.size H' o l d hs3 ss3 ∧ ss3 ++ ((if s.1 = x.2.1 then (x.2.1, mrg s.2 [(x.1, x.2.2)]) else s) :: rpS x (if s.1 = x.2.1 then true else w') (ss1.drop (j + 1))) = put1 ss1 x ∧ l ≤ 2 * j + 1 ∧ Fr [] H3 H'
          | _ => False, ?_, ?_⟩
      · refine ⟨fun vs H' => vs = [.bool (!w && decide (s.1 > x.2.1))] ∧ H' = H5, ?_, ?_⟩
        · refine brB_of (fun h2 => ?_) (fun h2 => ⟨?_, rfl⟩)
          · refine (hx1.keep hf15).get rfl hy0 (decide_eq_true (by omega)) fun ad ea hc => ⟨_, ldSr0 hc, _, hlx hf5, ?_, rfl⟩
            rw [h2, hyr.1]; simp
          · rw [h2]; simp
        · rintro J w2 H6 ⟨e6, rfl⟩
          simp only [List.cons.injEq, Value.bool.injEq, and_true] at e6
          subst e6
          refine brB_of (fun h2 => ?_) (fun h2 => ?_)
          · have h2' : w = false ∧ s.1 > x.2.1 := by simpa using h2
            refine ⟨_, hlx hf5, ?_⟩
            refine SerO.push (x.2.1, (some ⟨b1, 0, none⟩, 1, 1)) (x.2.1, [(x.1, x.2.2)]) ho5 hf5 (newS hf5) (by simp) (djOld ho5 newD) rfl (by omega) fun _ o' l' d' H7 ho7 hf7 el => ⟨_, _, ho7, ?_, by omega, hf7⟩
            rw [if_pos h2', if_pos h2'] at hrp
            rw [← hrp]; simp
          · have h2' : ¬ (w = false ∧ s.1 > x.2.1) := by simpa using h2
            rw [if_neg h2', if_neg h2'] at hrp
            exact ⟨hs2, ss2, ho5, hrp, by omega, hf5⟩
      · rintro J o l d w' H6 ⟨hs3, ss3, ho6, hrp6, hl6, hf6⟩
        have hf16 := hf13.keep0 hf6
        refine (hx1.keep hf16).get rfl hy0 (decide_eq_true (by omega)) fun ad ea hc => ⟨_, ldSr0 hc, _, hlx hf6, ?_⟩
        rw [hyr.1]
        refine brB_of (fun h2 => ⟨_, hlx hf6, ?_⟩) (fun h2 => ?_)
        · have h2' : s.1 = x.2.1 := by simpa using h2
          rw [if_pos h2', if_pos h2'] at hrp6
          refine (hx1.keep hf16).get rfl hy0 (decide_eq_true (by omega)) fun ad ea hc => ⟨_, _, _, ldSr1 hc, ?_⟩
          refine rMerge_ok (hyr.2.keep hf16) (ho1.keep hf6) hsr.2 (ris_one _) (by omega) fun a' n' c' H7 ho7 hf7 => ⟨hlx (hf6.keep0 hf7), ?_⟩
          refine SerO.push (x.2.1, (a', n', c')) (x.2.1, mrg s.2 [(x.1, x.2.2)]) (ho6.keep hf7) (hf6.keep0 hf7) ⟨rfl, ho7.sl⟩ (mrg_ne (by simp) hsr.2 (ris_one _)) (fun k hk hk' => ?_) rfl (by omega) fun _ o' l' d' H8 ho8 hf8 el => ⟨_, _, ho8, ?_, by omega, hf8⟩
          · have := ho6.own.bIn k hk
            have := (ho7.ge k hk').1
            omega
          · rw [← hrp6]; simp
        · have h2' : ¬ s.1 = x.2.1 := by simpa using h2
          rw [if_neg h2', if_neg h2'] at hrp6
          refine (hx1.keep hf16).get rfl hy0 (decide_eq_true (by omega)) fun ad ea hc => ⟨_, _, _, _, ldSr62 hc, ?_⟩
          refine SerO.push y s ho6 hf6 ⟨hyr.1, hyr.2.keep hf16⟩ hsr.1 (djOld ho6 hyd) rfl (by omega) fun _ o' l' d' H8 ho8 hf8 el => ⟨_, _, ho8, ?_, by omega, hf8⟩
          rw [← hrp6]; simp
    · rintro J o l d w' H6 ⟨hs3, ss3, ho6, hrp6, hl6, hf6⟩
      rw [succ64 (by omega)]
      exact ⟨⟨j + 1, hs3, ss3, rfl, by omega, ho6, hrp6, by omega, hf6⟩, mu_lt h1'⟩
  · rw [List.drop_of_length_le (by simp at h1; omega)] at hrp
    unfold rpS at hrp
    have fin : ∀ {o' : Option Addr} {l' d' : Nat} {hs' : List Sr} {H' : Heap}, SerO H3.size H' o' l' d' hs' (put1 ss1 x) → Fr [] H3 H' → (∃ (k_1 : Nat) (hs'_1 : List Sr) (ss' : List Srs), IntKind.i64.wrap ((k : Int) + 1) = k_1 ∧ k_1 ≤ rn ∧ Sl encSr H' o' l' d' hs'_1 ∧ SerH H' hs'_1 ss' ∧ RightS ss' ∧ putR ss' (rows.drop k_1) = putR ss rows ∧ l' ≤ 1000000 + k_1 ∧ (∀ s ∈ ss', s.2.length ≤ 1000000 + k_1) ∧ Fr [] H H') ∧ rn - (IntKind.i64.wrap ((k : Int) + 1)).toNat < rn - ((k : Nat) : Int).toNat := fun {o' l' d' hs' H'} h hf => by
      rw [succ64 (by omega)]
      refine ⟨⟨k + 1, hs', put1 ss1 x, rfl, by omega, h.own.sl, h.ser, hp3, ?_, ?_, hp2, (hf1.keep0 hf13).keep0 hf⟩, by omega⟩
      · rw [← hput, hdr]; rfl
      · have := h.ser.len
        have := h.own.1
        omega
    refine brB_of (fun h2 => ⟨_, hlx hf5, ?_⟩) (fun h2 => ?_)
    · have h2' : w = false := by simpa using h2
      rw [h2', if_neg (by simp)] at hrp
      refine SerO.push (x.2.1, (some ⟨b1, 0, none⟩, 1, 1)) (x.2.1, [(x.1, x.2.2)]) ho5 hf5 (newS hf5) (by simp) (djOld ho5 newD) rfl (by omega) fun _ o' l' d' H7 ho7 hf7 el => ?_
      rw [hrp] at ho7
      exact fin ho7 hf7
    · have h2' : w = true := by simpa using h2
      rw [h2', if_pos rfl, List.append_nil] at hrp
      rw [hrp] at ho5
      exact fin ho5 hf5
end Go.Proofs
