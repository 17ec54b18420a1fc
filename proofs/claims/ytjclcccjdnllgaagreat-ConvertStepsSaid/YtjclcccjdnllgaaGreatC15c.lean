/- A part of a proof: see the last text of this claim. -/
import Derived.Test.YtjclcccjdnllgaaGreatC16g
import Derived.Test.YtjclcccjdnllgaaGreatC03e
import Derived.Test.YtjclcccjdnllgaaGreatL16b
set_option linter.unusedVariables false
set_option maxRecDepth 100000
open Go Go.GV
namespace Go.Proofs

theorem esK_full {zs : List Z} {p i : Nat} {z : Z} (h : zs[i]? = some z) : (esK zs p zs.length)[i]? = some ((z.1 : Int), ((p + offZ zs i : Nat) : Int), ((p + offZ zs (i + 1) : Nat) : Int)) := by
  have hi := (List.getElem?_eq_some_iff.1 h).1
  rw [esK_get hi, if_pos hi, h]; rfl
theorem parts_ok {H : Heap} {a : Option Addr} {n c l b b1 : Nat} {s : ByteArray} {zs : List Z} {I : Nat → List Nat → Heap → Prop} {Stop K : Heap → Prop} {S : List Nat} (hb1 : Blk H ⟨b1, 0, none⟩ [.slice a n c]) (hb : Blk H ⟨b, 0, none⟩ [.string s]) (hx : Sl encRw H a n c (esK zs (posZ zs) zs.length)) (hT : TabP s zs) (hs : s.size ≤ 1000000000)
    (hin : In H S) (hd : b ∉ S ∧ b1 ∉ S ∧ ∀ k ∈ blkL a, k ∉ S) (h0 : I 0 S H) (stab : ∀ i S H1 H2, I i S H1 → Fr [] H1 H2 → I i S H2)
    (step : ∀ i S H1 z, zs[i]? = some z → In H1 S → I i S H1 → YieldH Tryz.prog l [.int .i64 (z.1 : Int), .string (pieceZ s zs i)] H1 fun v H2 => (v = .bool true ∧ ∃ S2, I (i + 1) S2 H2 ∧ Fr S H1 H2 ∧ Grow H1 S S2 ∧ In H2 S2) ∨ (v = .bool false ∧ Stop H2))
    (fin : ∀ S1 H1, I zs.length S1 H1 → In H1 S1 → Fr S H H1 → K H1) (stop : ∀ H1, Stop H1 → K H1) :
    CallV Tryz.prog (.func (.func 91) ⟨[]⟩ ⟨[.pointer (some ⟨b1, 0, none⟩), .pointer (some ⟨b, 0, none⟩)]⟩) [.func (.yield l) ⟨[]⟩ ⟨[]⟩] H fun v H' => v = .tuple ⟨[]⟩ ∧ K H' := by
  refine ⟨91, ⟨[]⟩, _, rfl, by kernel_rfl, ?_⟩
  apply vc_major_parts_1
  have hn : n = zs.length := by have := hx.len; rw [esK_len] at this; exact this
  have hzl := hT.len
  refine ⟨_, _, _, hb1.ld0 (by kernel_rfl) rfl, ?_⟩
  refine ⟨fun vs H' => match vs with | [.int _ i] => ∃ (j : Nat) (S2 : List Nat), i = j ∧ j ≤ n ∧ I j S2 H' ∧ Fr S H H' ∧ Grow H S S2 ∧ In H' S2 | _ => False, fun vs _ => match vs with | [.int _ i] => n - i.toNat | _ => 0,
    ⟨0, S, rfl, by omega, h0, Fr.refl _ _, Grow.refl _ _, hin⟩, ?_⟩
  rintro J i H1 ⟨j, S2, rfl, hj, hI, hf, hg, hin2⟩
  have hx1 := hx.fr hf (blk_of_ne hd.2.2)
  refine brB_of (fun hlt => ?_) (fun hge => ?_)
  · have hlt : j < n := by simp at hlt; omega
    obtain ⟨z, hz⟩ := getElem_ex (l := zs) (i := j) (by omega)
    have he := esK_full (p := posZ zs) hz
    refine hx1.get rfl he (decide_eq_true (by omega)) fun ad ea hc => ⟨_, _, _, ld_many (by kernel_rfl) (by kernel_rfl) hc, ?_⟩
    refine var_blk (by kernel_rfl) (by kernel_rfl) tri_one (by rfl) fun v H2 hvl hv fv => ⟨_, hv.ld0 (by kernel_rfl) rfl, _, ((hb.fr hf hd.1).keep fv).ld0 (by kernel_rfl) rfl, _, hv.ldK (j := 1) (by kernel_rfl) rfl, _, hv.ldK (j := 2) (by kernel_rfl) rfl, ?_⟩
    have o1 := offZ_succ hz
    have o2 := offZ_le zs (j + 1)
    have hsz := hT.size
    refine chk_true (decide_eq_true (show 0 ≤ ((posZ zs + offZ zs j : Nat) : Int) ∧ ((posZ zs + offZ zs j : Nat) : Int) ≤ ((posZ zs + offZ zs (j + 1) : Nat) : Int) ∧ ((posZ zs + offZ zs (j + 1) : Nat) : Int) ≤ (s.size : Int) from ⟨by omega, by omega, by omega⟩)) ?_
    simp only
    rw [Int.toNat_natCast, Int.toNat_natCast]
    refine .inr ⟨l, rfl, (step j S2 H2 z hz (hin2.le fv.size) (stab _ _ _ _ hI fv)).mono fun v H3 => ?_⟩
    rintro (⟨rfl, S3, hI3, hf3, hg3, hin3⟩ | ⟨rfl, hst⟩)
    · rw [succ64 (by omega)]
      have hmu : n - ((j + 1 : Nat) : Int).toNat < n - ((j : Nat) : Int).toNat := by omega
      refine ⟨true, rfl, brB_of (fun h => by simp at h) fun _ => ⟨⟨j + 1, S3, rfl, by omega, hI3, ?_, ?_, hin3⟩, hmu⟩⟩
      · have hfv : Fr S H H2 := hf.trans' fv (fun k hk _ => hk) (by simp)
        exact hfv.trans' hf3 (fun k hk _ => hk) fun k hk hl => (hg k hk).elim id fun h => by omega
      · exact hg.trans hf.size fun k hk => (hg3 k hk).imp id fun h => by have := fv.size; omega
    · exact ⟨false, rfl, brB_of (fun _ => ⟨trivial, stop _ hst⟩) fun h => by simp at h⟩
  · have : j = n := by simp at hge; omega
    subst this
    exact ⟨rfl, fin S2 H1 (by rw [← hn]; exact hI) hin2 hf⟩
theorem mread_ok {s : ByteArray} {H : Heap} {K : Option Addr → Nat → Nat → Int → Heap → Prop} (hs : s.size ≤ 100000000000)
    (hno : (∀ L, SmpP L → bl s = encD L → L = []) → ∀ H', Fr [] H H' → K none 0 0 11 H')
    (hyes : ∀ L a n c H', SmpP L → L ≠ [] → bl s = encD L → Own encS 107 H.size H' a n c L → Fr [] H H' → K a n c 0 H') :
    CallH Tryz.prog fn_major_read ⟨[.string s]⟩ H fun v H' => ∃ a n c e, v = .tuple ⟨[.slice a n c, .int .i64 e]⟩ ∧ K a n c e H' := by
  apply vc_major_read
  refine Decode_ok hs (fun hn H' hf => brB_of (fun _ => ⟨_, _, _, _, rfl, hno (fun L hP hL => absurd hL (hn L hP)) _ hf⟩) fun h => by cases h) fun L a n c H' hP hL ho hf => brB_of (fun h => by cases h) fun _ => ?_
  have hl := ho.1
  refine brB_of (fun h => ⟨_, _, _, _, rfl, hno (fun L' hP' hL' => ?_) _ hf⟩) fun h => ⟨_, _, _, _, rfl, hyes L _ _ _ _ hP (by intro e; rw [e] at hl; simp at hl; simp at h; omega) hL ho hf⟩
  have : L = [] := List.eq_nil_of_length_eq_zero (by simp at h; omega)
  subst this
  exact encD_inj hP' hP (x := []) (y := []) (by rw [← hL', hL])
def GotM (s : ByteArray) (zs : List Z) (ss : List Srs) : Prop := ∀ (j : Nat) (x : Srs), ss[j]? = some x → (∃ z, zs[j]? = some z ∧ x.1 = (z.1 : Int)) ∧ x.2 ≠ [] ∧ SmpP x.2 ∧ bl (pieceZ s zs j) = encD x.2
theorem GotM.maj {s : ByteArray} {zs : List Z} {ss : List Srs} (h : GotM s zs ss) (hT : TabP s zs) (hl : ss.length = zs.length) : MajP ss ∧ bl s = encM ss := by
  refine ⟨⟨⟨?_, fun x hx => ?_⟩, fun x hx => ?_⟩, encM_of hT hl fun i z x hz hx => ?_⟩
  · refine List.pairwise_iff_getElem.2 fun i j hi hj hij => ?_
    obtain ⟨⟨z, hz, e⟩, _⟩ := h i _ (List.getElem?_eq_getElem hi)
    obtain ⟨⟨w, hw, e'⟩, _⟩ := h j _ (List.getElem?_eq_getElem hj)
    obtain ⟨hi', ez⟩ := List.getElem?_eq_some_iff.1 hz
    obtain ⟨hj', ew⟩ := List.getElem?_eq_some_iff.1 hw
    have := List.pairwise_iff_getElem.1 hT.rise i j hi' hj' hij
    rw [ez, ew] at this
    omega
  · obtain ⟨i, hi⟩ := List.mem_iff_getElem?.1 hx
    obtain ⟨_, h1, h2, _⟩ := h i x hi
    exact ⟨h1, h2.ris⟩
  · obtain ⟨i, hi⟩ := List.mem_iff_getElem?.1 hx
    obtain ⟨⟨z, hz, e⟩, h1, h2, _⟩ := h i x hi
    have := hT.lo z (List.mem_of_getElem? hz)
    exact ⟨by omega, h2⟩
  · obtain ⟨⟨w, hw, e⟩, h1, h2, h3⟩ := h i x hx
    rw [hz] at hw
    cases hw
    exact ⟨e, h3⟩
theorem GotM.bad {s : ByteArray} {zs : List Z} {i : Nat} {z : Z} (hT : TabP s zs) (hz : zs[i]? = some z) (h : ∀ L, SmpP L → bl (pieceZ s zs i) = encD L → L = []) : ∀ ss, MajP ss → bl s ≠ encM ss := fun ss hM hs => by
  have hu := hT.uniq (hM.tab hs)
  have hi := (List.getElem?_eq_some_iff.1 hz).1
  have hl : zs.length = ss.length := by rw [hu]; simp [zsM]
  have hx := List.getElem?_eq_getElem (l := ss) (i := i) (by omega)
  have hp := hM.piece hs hx
  rw [← hu] at hp
  exact (hM.right.2 _ (List.mem_of_getElem? hx)).1 (h _ (hM.lo _ (List.mem_of_getElem? hx)).2 hp)
theorem piece_le {s : ByteArray} {zs : List Z} {i : Nat} : (pieceZ s zs i).size ≤ s.size := by
  have h1 := bl_len s
  have := bl_len (pieceZ s zs i)
  unfold pieceZ at this
  rw [bl_ext, List.length_drop, List.length_take, h1] at this
  unfold pieceZ
  omega
structure MajI (s : ByteArray) (zs : List Z) (l D b b1 b3 : Nat) (R0 : Loop) (H0 : Heap) (i : Nat) (S : List Nat) (H : Heap) : Prop where
  fr : Fr [] H0 H
  lp : Lp H l R0 .ready none
  dq : Dq H D
  it : ∃ a n c hs ss, Blk H ⟨b3, 0, none⟩ [.slice a n c] ∧ Own encSr 92 H0.size H a n c hs ∧ SerH H hs ss ∧ ss.length = i ∧ GotM s zs ss ∧ Blk H ⟨b, 0, none⟩ [.slice none 0 0] ∧ Blk H ⟨b1, 0, none⟩ [.int .i64 0] ∧ S = b3 :: l :: D :: b :: b1 :: blkL a ∧ S.Nodup ∧ (∀ m ∈ hs, ∀ k ∈ blkL m.2.1, k ∉ S)
  lo : ∀ k ∈ S, H0.size ≤ k
structure MajX (s : ByteArray) (l D b b1 : Nat) (R0 : Loop) (H0 : Heap) (H : Heap) : Prop where
  fr : Fr [] H0 H
  lp : Lp H l R0 .done (some .ret)
  dq : Dq H D
  b : Blk H ⟨b, 0, none⟩ [.slice none 0 0]
  b1 : Blk H ⟨b1, 0, none⟩ [.int .i64 11]
  no : ∀ ss, MajP ss → bl s ≠ encM ss
theorem SerR.fr {H H' : Heap} {S : List Nat} {m : Sr} {x : Srs} (h : SerR H m x) (hf : Fr S H H') (hd : ∀ k ∈ blkL m.2.1, k ∉ S) : SerR H' m x := ⟨h.1, h.2.fr hf (blk_of_ne hd)⟩
theorem SerH.fr {H H' : Heap} {S : List Nat} {hs : List Sr} {ss : List Srs} (h : SerH H hs ss) (hf : Fr S H H') (hd : ∀ m ∈ hs, ∀ k ∈ blkL m.2.1, k ∉ S) : SerH H' hs ss := h.mono fun m x hm _ hr => SerR.fr hr hf (hd m hm)
theorem majDecode_ok {s : ByteArray} {H : Heap} {K : Option Addr → Nat → Nat → Int → Heap → Prop} (hs : s.size ≤ 1000000000)
    (hno : (∀ ss, MajP ss → bl s ≠ encM ss) → ∀ H', Fr [] H H' → K none 0 0 11 H')
    (hyes : ∀ ss hs a n c H', MajP ss → bl s = encM ss → Sl encSr H' a n c hs → SerH H' hs ss → Fr [] H H' → K a n c 0 H') :
    CallH Tryz.prog fn_major_Decode ⟨[.string s]⟩ H fun v H' => ∃ a n c e, v = .tuple ⟨[.slice a n c, .int .i64 e]⟩ ∧ K a n c e H' := by
  apply vc_major_Decode
  intro b H1 hn1 b1 H2 hn2
  have e1 := hn1.eq
  have e2 := hn2.eq
  have z1 := hn1.size
  have z2 := hn2.size
  have f02 : Fr [] H H2 := hn1.fr.keep0 hn2.fr
  have hb := hn1.blk.keep hn2.fr
  have hb1 := hn2.blk
  refine table_ok hs (fun hn a n c H3 f3 => brB_of (fun _ => ?_) fun h => by cases h) fun zs a n c H3 hT ho f3 => brB_of (fun h => by cases h) fun _ => ?_
  · have z3 := f3.size
    refine (hb.keep f3).st0 (v := .slice none 0 0) (by kernel_rfl) (by kernel_rfl) one_slice (by simp [Value.cells]) fun H4 hb4 f4 => ?_
    refine ((hb1.keep f3).fr f4 (by simp; omega)).st0 (v := .int .i64 11) (by kernel_rfl) (by kernel_rfl) (fun x hx => by simp [Value.cells] at hx; subst hx; rfl) (by simp [Value.cells]) fun H5 hb5 f5 => ?_
    refine ⟨_, _, _, (hb4.fr f5 (by simp; omega)).ld0 (by kernel_rfl) rfl, _, hb5.ld0 (by kernel_rfl) rfl, _, _, _, _, rfl, hno (fun ss hM hss => hn _ (hM.tab hss)) _ ?_⟩
    exact ((f02.keep0 f3).keep f4 fun k hk => by simp at hk; omega).keep f5 fun k hk => by simp at hk; omega
  · have z3 := f3.size
    intro b3 H4 hn4
    apply vc_major_parts
    intro c1 H5 hn5 c2 H6 hn6
    refine ⟨_, rfl, fun D l R0 H7 hnl hY => ?_⟩
    obtain ⟨f67, lp7, dq7, eD, el, z7⟩ := hnl.out
    have e4 := hn4.eq
    have e5 := hn5.eq
    have e6 := hn6.eq
    have z4 := hn4.size
    have z5 := hn5.size
    have z6 := hn6.size
    have f47 : Fr [] H4 H7 := (hn5.fr.keep0 hn6.fr).keep0 f67
    have f37 := hn4.fr.keep0 f47
    have f27 := f3.keep0 f37
    have f07 := f02.keep0 f27
    have hnz : n = zs.length := by have := ho.1; rw [esK_len] at this; exact this
    have hal : ∀ k ∈ blkL a, H2.size ≤ k ∧ k < H3.size := fun k hk => ho.ge k hk
    have nd : (b3 :: l :: D :: b :: b1 :: blkL (none : Option Addr)).Nodup := by
      simp only [List.nodup_cons, List.mem_cons, blkL, List.not_mem_nil, or_false, not_or]
      refine ⟨⟨by omega, by omega, by omega, by omega⟩, ⟨by omega, by omega, by omega⟩, ⟨by omega, by omega⟩, by omega, by simp, List.nodup_nil⟩
    have hS0 : ∀ k ∈ [b3, l, D, b, b1], H.size ≤ k ∧ k < H7.size ∧ k ≠ c1 ∧ k ≠ c2 ∧ k ∉ blkL a := fun k hk => by
      simp only [List.mem_cons, List.mem_nil_iff, or_false] at hk
      refine ⟨by omega, by omega, by omega, by omega, fun hk2 => ?_⟩
      have := hal k hk2
      omega
    refine CallV.mono (parts_ok (b1 := c2) (b := c1) (K := fun H9 => (∃ S1, MajI s zs l D b b1 b3 R0 H zs.length S1 H9) ∨ MajX s l D b b1 R0 H H9) (hn6.blk.keep f67) ((hn5.blk.keep hn6.fr).keep f67) (ho.sl.keep f37) hT hs (S := [b3, l, D, b, b1]) (fun k hk => (hS0 k hk).2.1) ⟨fun hk => (hS0 c1 hk).2.2.1 rfl, fun hk => (hS0 c2 hk).2.2.2.1 rfl, fun k hk hk2 => (hS0 k hk2).2.2.2.2 hk⟩ (I := MajI s zs l D b b1 b3 R0 H) (Stop := MajX s l D b b1 R0 H) ?_ ?_ ?_ (fun S1 H9 hT _ _ => .inl ⟨S1, hT⟩) (fun H9 hx => .inr hx)) fun v H9 => ?_
    · exact ⟨f07, lp7, dq7, ⟨none, 0, 0, [], [], hn4.blk.keep f47, Own.nil .., .nil, rfl, (fun j x h => by simp at h), hb.keep f27, hb1.keep f27, rfl, nd, (fun m hm => by cases hm)⟩, fun k hk => (hS0 k hk).1⟩
    · rintro i S Ha Hb ⟨h1, h2, h3, ⟨p, m, d, hs', ss, q1, q2, q3, q4, q5, q6, q7, q8, q9, q10⟩, h5⟩ hf
      exact ⟨h1.keep0 hf, h2.fr hf (by simp), h3.fr hf (by simp), ⟨p, m, d, hs', ss, q1.keep hf, q2.keep hf, q3.keep hf, q4, q5, q6.keep hf, q7.keep hf, q8, q9, q10⟩, h5⟩
    · rintro i S H9 z hz hin ⟨h1, h2, h3, ⟨p, m, d, hs', ss, q1, q2, q3, q4, q5, q6, q7, q8, q9, q10⟩, h5⟩
      have fL := setLp_fr H9 l R0 .busy none
      have sL := setLp_size H9 l R0 .busy none
      have nd := q9
      rw [q8] at nd
      simp only [List.nodup_cons, List.mem_cons, not_or] at nd
      obtain ⟨⟨n31, n3D, n3b, n3b1, n3p⟩, ⟨nlD, nlb, nlb1, nlp⟩, ⟨nDb, nDb1, nDp⟩, ⟨nbb1, nbp⟩, nb1p, _⟩ := nd
      have inS : ∀ k ∈ [b3, l, D, b, b1], k ∈ S := fun k hk => by rw [q8]; exact List.mem_append_left (blkL p) hk
      have lS : l ∈ S := inS l (by simp)
      refine hY _ _ H9 (fun v H2 => (v = .bool true ∧ ∃ S2, MajI s zs l D b b1 b3 R0 H (i + 1) S2 H2 ∧ Fr S H9 H2 ∧ Grow H9 S S2 ∧ In H2 S2) ∨ (v = .bool false ∧ MajX s l D b b1 R0 H H2)) h2 ⟨h2, ?_⟩
      have hbL := q6.fr fL (by simpa using fun e => nlb e.symm)
      have hb1L := q7.fr fL (by simpa using fun e => nlb1 e.symm)
      have hb3L := q1.fr fL (by simpa using n31)
      have hDL := h3.fr fL (by simpa using fun e => nlD e.symm)
      have lpL : Lp (setLp H9 l R0 .busy none) l R0 .busy none := setLp_get h2.lt
      have hpl := piece_le (s := s) (zs := zs) (i := i)
      refine mread_ok (by omega) (fun hbad H10 f10 => brB_of (fun _ => ?_) fun h => by cases h) fun L a5 n5 c5 H10 hP hne hL o10 f10 => brB_of (fun h => by cases h) fun _ => ?_
      · refine (hbL.keep f10).st0 (v := .slice none 0 0) (by kernel_rfl) (by kernel_rfl) one_slice (by simp [Value.cells]) fun H11 hb11 f11 => ?_
        refine ((hb1L.keep f10).fr f11 (by simpa using fun e => nbb1 e.symm)).st0 (v := .int .i64 11) (by kernel_rfl) (by kernel_rfl) (fun x hx => by simp [Value.cells] at hx; subst hx; rfl) (by simp [Value.cells]) fun H12 hb12 f12 => ?_
        have lp12 : Lp H12 l R0 .busy none := ((lpL.fr f10 (by simp)).fr f11 (by simpa using nlb)).fr f12 (by simpa using nlb1)
        have fE := setLp_fr H12 l R0 .done (some .ret)
        refine ⟨lp12, .inr ⟨rfl, ?_, setLp_get lp12.lt, (((hDL.fr f10 (by simp)).fr f11 (by simpa using nDb)).fr f12 (by simpa using nDb1)).fr fE (by simpa using fun e => nlD e.symm), (hb11.fr f12 (by simpa using nbb1)).fr fE (by simpa using fun e => nlb e.symm), hb12.fr fE (by simpa using fun e => nlb1 e.symm), GotM.bad hT hz hbad⟩⟩
        exact ((((h1.keep fL fun k hk => by simp at hk; subst hk; exact h5 _ lS).keep0 f10).keep f11 fun k hk => by simp at hk; subst hk; exact h5 _ (inS _ (by simp))).keep f12 fun k hk => by simp at hk; subst hk; exact h5 _ (inS _ (by simp))).keep fE fun k hk => by simp at hk; subst hk; exact h5 _ lS
      · refine ⟨p, m, d, (hb3L.keep f10).ld0 (by kernel_rfl) rfl, ?_⟩
        intro b9 H11 hn11
        have qL := q2.fr fL (blk_of_ne fun k kk hm => nlp (by simp at hm; subst hm; exact kk))
        have o11 := (qL.keep f10).keep hn11.fr
        have z9 := h1.size
        have z10 := f10.size
        have z11 := hn11.size
        have hl2 := q3.len
        have hml := q2.1
        have hzl := hT.len
        have hiz := (List.getElem?_eq_some_iff.1 hz).1
        refine ap_grow slice37 elem68 o11 (sl_one encSr ((z.1 : Int), a5, n5, c5) hn11 rfl) (by omega) (by omega) fun q m2 d2 H12 h12 f12 g12 => ?_
        have hb312 := ((hb3L.keep f10).keep hn11.fr).fr f12 n3p
        have lpS : ∀ k ∈ blkL p, k ∈ S := fun k hk => by rw [q8]; simp [hk]
        refine hb312.st0 (v := .slice q m2 d2) (by kernel_rfl) (by kernel_rfl) one_slice (by simp [Value.cells]) fun H13 hb13 f13 => ?_
        have lp13 : Lp H13 l R0 .busy none := (((lpL.fr f10 (by simp)).fr hn11.fr (by simp)).fr f12 nlp).fr f13 (by simpa using fun e => n31 e.symm)
        have fE := setLp_fr H13 l R0 .ready none
        have sE := setLp_size H13 l R0 .ready none
        have hq : ∀ k ∈ blkL q, k ∈ blkL p ∨ H9.size ≤ k := fun k hk => (g12 k hk).imp id fun h => by omega
        have hinS := hin
        have ndq : (b3 :: l :: D :: b :: b1 :: blkL q).Nodup := by
          have key : ∀ x ∈ [b3, l, D, b, b1], x ∉ blkL p → x ∉ blkL q := fun x hx hnp hxq => (hq x hxq).elim hnp fun h => by have := hin x (inS x hx); omega
          simp only [List.nodup_cons, List.mem_cons, not_or]
          exact ⟨⟨n31, n3D, n3b, n3b1, key b3 (by simp) n3p⟩, ⟨nlD, nlb, nlb1, key l (by simp) nlp⟩, ⟨nDb, nDb1, key D (by simp) nDp⟩, ⟨nbb1, key b (by simp) nbp⟩, key b1 (by simp) nb1p, blkL_nodup _⟩
        have ndq' := ndq
        simp only [List.nodup_cons, List.mem_cons, not_or] at ndq'
        obtain ⟨⟨_, _, _, _, m3p⟩, ⟨_, _, _, mlp⟩, ⟨_, _, mDp⟩, ⟨_, mbp⟩, mb1p, _⟩ := ndq'
        have F : Fr S H9 (setLp H13 l R0 .ready none) := ((((fL.trans' f10 (T := S) (fun k hk _ => by simp at hk; subst hk; exact lS) (by simp)).trans' hn11.fr (fun k hk _ => hk) (by simp)).trans' f12 (fun k hk _ => hk) fun k hk _ => lpS k hk).trans' f13 (fun k hk _ => hk) fun k hk _ => by simp at hk; subst hk; exact inS _ (by simp)).trans' fE (fun k hk _ => hk) fun k hk _ => by simp at hk; subst hk; exact lS
        have z12 := f12.size
        have z13 := f13.size
        have a5n : ∀ k ∈ blkL a5, H9.size ≤ k ∧ k < H10.size := fun k hk => by have := o10.ge k hk; omega
        have dn : ∀ m ∈ hs' ++ [((z.1 : Int), a5, n5, c5)], ∀ k ∈ blkL m.2.1, k ∉ b3 :: l :: D :: b :: b1 :: blkL q := fun m hm k hk hk2 => by
          rcases List.mem_append.1 hm with h | h
          · have h3 := q10 m h k hk
            have hk2' : k ∈ [b3, l, D, b, b1] ∨ k ∈ blkL q := by simpa [or_assoc] using hk2
            rcases hk2' with h4 | h4
            · exact h3 (inS k h4)
            · rcases g12 k h4 with h5 | h5
              · exact h3 (lpS k h5)
              · obtain ⟨x, _, hr⟩ := q3.mem h
                by_cases hx : x.2 = []
                · -- an empty series has no block that counts
                  exfalso
                  obtain ⟨j, hj⟩ := List.mem_iff_getElem?.1 (by assumption : x ∈ ss)
                  exact (q5 j x hj).2.1 hx
                · have := sl_lt hr.2 hx k hk
                  omega
          · simp at h; subst h
            have hk5 := a5n k hk
            have hk2' : k ∈ [b3, l, D, b, b1] ∨ k ∈ blkL q := by simpa [or_assoc] using hk2
            rcases hk2' with h4 | h4
            · have := hin k (inS k h4); omega
            · rcases g12 k h4 with h5 | h5
              · have := hin k (lpS k h5); omega
              · omega
        refine ⟨lp13, .inl ⟨rfl, b3 :: l :: D :: b :: b1 :: blkL q, ⟨h1.keep F h5, setLp_get lp13.lt, ?_, ⟨q, m2, d2, hs' ++ [((z.1 : Int), a5, n5, c5)], ss ++ [((z.1 : Int), L)], ?_, ?_, ?_, by simp; omega, fun j x hx => ?_, ?_, ?_, rfl, ndq, dn⟩, fun k hk => ?_⟩, F, fun k hk => ?_, fun k hk => ?_⟩⟩
        · exact ((((hDL.fr f10 (by simp)).fr hn11.fr (by simp)).fr f12 nDp).fr f13 (by simpa using fun e => n3D e.symm)).fr fE (by simpa using fun e => nlD e.symm)
        · simpa [Value.cells] using hb13.fr fE (by simpa using n31)
        · exact (h12.fr f13 (blk_of_ne fun k kk hm => m3p (by simp at hm; subst hm; exact kk))).fr fE (blk_of_ne fun k kk hm => mlp (by simp at hm; subst hm; exact kk))
        · refine All2.app (SerH.fr q3 F fun m hm k hk => q10 m hm k hk) (.cons ⟨rfl, ?_⟩ .nil)
          have hmem : ((z.1 : Int), a5, n5, c5) ∈ hs' ++ [((z.1 : Int), a5, n5, c5)] := by simp
          have hno : ∀ k ∈ blkL a5, k ∉ [b3, l] ∧ k ∉ blkL p := fun k hk => by
            have h := dn _ hmem k hk
            refine ⟨fun hh => h (by simp only [List.mem_cons, List.mem_nil_iff, or_false] at hh; rcases hh with rfl | rfl <;> simp), fun hh => ?_⟩
            have := hin k (lpS k hh)
            have := a5n k hk
            omega
          exact (((o10.sl.keep hn11.fr).fr f12 (blk_of_ne fun k kk => (hno k kk).2)).fr f13 (blk_of_ne fun k kk hm => (hno k kk).1 (by simp at hm; simp [hm]))).fr fE (blk_of_ne fun k kk hm => (hno k kk).1 (by simp at hm; simp [hm]))
        · rcases Nat.lt_or_ge j ss.length with h | h
          · rw [List.getElem?_append_left h] at hx
            exact q5 j x hx
          · rw [List.getElem?_append_right h] at hx
            have h0 : j - ss.length = 0 := by
              rcases Nat.eq_zero_or_pos (j - ss.length) with h' | h'
              · exact h'
              · rw [List.getElem?_eq_none (by simp; omega)] at hx; cases hx
            rw [h0] at hx
            simp at hx
            subst hx
            have : j = i := by omega
            subst this
            exact ⟨⟨z, hz, rfl⟩, hne, hP, hL⟩
        · exact ((((hbL.keep f10).keep hn11.fr).fr f12 nbp).fr f13 (by simpa using fun e => n3b e.symm)).fr fE (by simpa using fun e => nlb e.symm)
        · exact ((((hb1L.keep f10).keep hn11.fr).fr f12 nb1p).fr f13 (by simpa using fun e => n3b1 e.symm)).fr fE (by simpa using fun e => nlb1 e.symm)
        · have hk' : k ∈ [b3, l, D, b, b1] ∨ k ∈ blkL q := by simpa [or_assoc] using hk
          rcases hk' with h | h
          · exact h5 k (inS k h)
          · exact (h12.ge k h).1
        · have hk' : k ∈ [b3, l, D, b, b1] ∨ k ∈ blkL q := by simpa [or_assoc] using hk
          rcases hk' with h | h
          · exact .inl (inS k h)
          · exact (hq k h).imp (lpS k) id
        · have hk' : k ∈ [b3, l, D, b, b1] ∨ k ∈ blkL q := by simpa [or_assoc] using hk
          rcases hk' with h | h
          · have := hin k (inS k h); omega
          · have := (h12.ge k h).2; omega
    · rintro ⟨rfl, ⟨S, h1, h2, h3, ⟨p, m, d, hs', ss, q1, q2, q3, q4, q5, q6, q7, q8, q9, q10⟩, h5⟩ | ⟨h1, h2, h3, h4, h5, h6⟩⟩
      · have nd := q9
        rw [q8] at nd
        simp only [List.nodup_cons, List.mem_cons, not_or] at nd
        obtain ⟨⟨n31, n3D, n3b, n3b1, n3p⟩, ⟨nlD, nlb, nlb1, nlp⟩, ⟨nDb, nDb1, nDp⟩, ⟨nbb1, nbp⟩, nb1p, _⟩ := nd
        have inS : ∀ k ∈ [b3, l, D, b, b1], k ∈ S := fun k hk => by rw [q8]; exact List.mem_append_left (blkL p) hk
        have fE := setLp_fr H9 l R0 .exhausted none
        refine .inl ⟨h2, p, m, d, (q1.fr fE (by simpa using n31)).ld0 (by kernel_rfl) rfl, ?_⟩
        refine (q6.fr fE (by simpa using fun e => nlb e.symm)).st0 (v := .slice p m d) (by kernel_rfl) (by kernel_rfl) one_slice (by simp [Value.cells]) fun H10 hb10 f10 => ?_
        refine ((q7.fr fE (by simpa using fun e => nlb1 e.symm)).fr f10 (by simpa using fun e => nbb1 e.symm)).st0 (v := .int .i64 0) (by kernel_rfl) (by kernel_rfl) (fun x hx => by simp [Value.cells] at hx; subst hx; rfl) (by simp [Value.cells]) fun H11 hb11 f11 => ?_
        have fD := shutD_fr H11 D
        have dq11 := ((h3.fr fE (by simpa using fun e => nlD e.symm)).fr f10 (by simpa using nDb)).fr f11 (by simpa using nDb1)
        have hb11' := hb10.fr f11 (by simpa using nbb1)
        have F : Fr [b3, l, D, b, b1] H9 (shutD H11 D) := ((fE.trans' f10 (T := [b3, l, D, b, b1]) (fun k hk _ => by simp at hk; subst hk; simp) (fun k hk _ => by simp at hk; subst hk; simp)).trans' f11 (fun k hk _ => hk) (fun k hk _ => by simp at hk; subst hk; simp)).trans' fD (fun k hk _ => hk) (fun k hk _ => by simp at hk; subst hk; simp)
        obtain ⟨hM, hE⟩ := GotM.maj q5 hT q4
        refine ⟨dq11, _, _, _, (hb11'.fr fD (by simpa using fun e => nDb e.symm)).ld0 (by kernel_rfl) rfl, _, (hb11.fr fD (by simpa using fun e => nDb1 e.symm)).ld0 (by kernel_rfl) rfl, _, _, _, _, rfl, hyes ss hs' _ _ _ _ hM hE (q2.sl.fr F (blk_of_ne fun k kk hm => ?_)) (SerH.fr q3 F fun m hm k hk hm2 => q10 m hm k hk (inS k hm2)) (h1.keep F fun k hk => h5 k (inS k hk))⟩
        simp only [List.mem_cons, List.mem_nil_iff, or_false] at hm
        rcases hm with rfl | rfl | rfl | rfl | rfl
        · exact n3p kk
        · exact nlp kk
        · exact nDp kk
        · exact nbp kk
        · exact nb1p kk
      · have fE := setLp_fr H9 l R0 .exhausted (some .ret)
        have hlD : l ≠ D := by omega
        have hlb : l ≠ b := by omega
        have hlb1 : l ≠ b1 := by omega
        have hDb : D ≠ b := by omega
        have hDb1 : D ≠ b1 := by omega
        have fD := shutD_fr (setLp H9 l R0 .exhausted (some .ret)) D
        refine .inr ⟨h2, h3.fr fE (by simpa using fun e => hlD e.symm), _, _, _, ((h4.fr fE (by simpa using fun e => hlb e.symm)).fr fD (by simpa using fun e => hDb e.symm)).ld0 (by kernel_rfl) rfl, _, ((h5.fr fE (by simpa using fun e => hlb1 e.symm)).fr fD (by simpa using fun e => hDb1 e.symm)).ld0 (by kernel_rfl) rfl, _, _, _, _, rfl, hno h6 _ ?_⟩
        exact (h1.keep fE fun k hk => by simp at hk; omega).keep fD fun k hk => by simp at hk; omega

theorem rread_ok {s : ByteArray} {H : Heap} {K : Option Addr → Nat → Nat → Bool → Heap → Prop} (hs : s.size ≤ 100000000000)
    (hno : (∀ L, SmpP L → bl s ≠ encD L) → ∀ H', Fr [] H H' → K none 0 0 false H')
    (hyes : ∀ l a n c H', Own encS 107 H.size H' a n c l → n ≤ 5000 → (∀ x ∈ l, I64 x.2) → (∀ L, SmpP L → bl s = encD L → l = L) → Fr [] H H' → K a n c true H') :
    CallH Tryz.prog fn_ref03_read ⟨[.string s]⟩ H fun v H' => ∃ a n c b, v = .tuple ⟨[.slice a n c, .bool b]⟩ ∧ K a n c b H' := by
  apply vc_ref03_read
  have hsl := bl_len s
  refine rGetUint_ok hs (fun h => (h ⟨by omega, by omega⟩).elim) fun a0 ea0 ha0 v n1 e1 H0 hG1 f0 => ?_
  have : a0 = 0 := by omega
  subst this
  have eb := fun L (hP : SmpP L) (hL : bl s = encD L) => encD_beg hP hL hG1
  refine ⟨fun _ H' => H' = H0 ∧ e1 = 0 ∧ v ≤ 5000, ?_, ?_⟩
  · refine brB_of (fun h => ⟨_, _, _, _, rfl, hno (fun L hP hL => ?_) _ f0⟩) fun h1 => brB_of (fun h => ⟨_, _, _, _, rfl, hno (fun L hP hL => ?_) _ f0⟩) fun h2 => ⟨rfl, by simpa using h1, by simp at h2; omega⟩
    · have := (eb L hP hL).2.1; simp at h; omega
    · have := (eb L hP hL).1; have := hP.len; simp at h; omega
  rintro J H1 ⟨rfl, rfl, hv5⟩ b H2 hn2
  have f2 := f0.keep0 hn2.fr
  obtain ⟨N, rfl, hm, hr, hrl, rfl⟩ := hG1.ok rfl
  rw [List.drop_zero] at hr hrl
  rw [Nat.zero_add] at *
  have hO0 : Own encS 107 H.size H2 (some ⟨b, 0, none⟩) 0 0 [] := Own.made encS 107 hn2 f0.size
  refine brB_of (fun h0 => ⟨_, _, _, _, rfl, hyes [] _ _ _ _ hO0 (by omega) (by simp) (fun L hP hL => ?_) f2⟩) fun h0 => ?_
  · have := (eb L hP hL).1
    have : N = 0 := by simp at h0; omega
    exact (List.eq_nil_of_length_eq_zero (by omega)).symm
  have hN1 : 1 ≤ N := by simp at h0; omega
  generalize ha1 : (uintL N).length = a1 at *
  have eb1 : ∀ L, SmpP L → bl s = encD L → L.length = N ∧ L ≠ [] ∧ (bl s).drop a1 = uintL (tAt L 0).toNat ++ (intL (vAt L 0) ++ tailL L) ∧ L[0]? = some (tAt L 0, vAt L 0) ∧ (0 ≤ tAt L 0 ∧ tAt L 0 < 1099511627776) ∧ I64 (vAt L 0) := fun L hP hL => by
    obtain ⟨q1, q2, q3, q4⟩ := eb L hP hL
    have hlN : L.length = N := by omega
    have hne : L ≠ [] := by intro e; rw [e] at hlN; simp at hlN; omega
    rw [hlN, ha1, headL_cons hne, List.append_assoc] at q4
    exact ⟨hlN, hne, q4, smp_at (by omega), hP.at (by omega)⟩
  refine rGetUint_ok hs (fun h => (h ⟨by omega, by omega⟩).elim) fun a' ea' ha' T n2 e2 H3 hG2 f3 => ?_
  have : a' = a1 := by omega
  subst this
  have f3' := f2.keep0 f3
  have hI : ∀ (w n3 e3 : Int) H4, Fr [] H H4 → (e2 = 0 → ∃ w' : Nat, ∃ a'' : Nat, n2 = a'' ∧ w = unfoldN w' ∧ w' < 18446744073709551616 ∧ GU ((bl s).drop a'') a'' w' n3 e3) → 
      ∃ (M : IV), brB (e2 != 0) (∃ a n c b, Value.tuple ⟨[.slice none 0 0, .bool false]⟩ = .tuple ⟨[.slice a n c, .bool b]⟩ ∧ K a n c b H4) (brB (e3 != 0) (∃ a n c b, Value.tuple ⟨[.slice none 0 0, .bool false]⟩ = .tuple ⟨[.slice a n c, .bool b]⟩ ∧ K a n c b H4) (brB (decide (T ≥ 1099511627776)) (∃ a n c b, Value.tuple ⟨[.slice none 0 0, .bool false]⟩ = .tuple ⟨[.slice a n c, .bool b]⟩ ∧ K a n c b H4) (M [] H4))) ∧
        ∀ H', M [] H' → H' = H4 ∧ ∃ t : Nat, T = t ∧ t < 1099511627776 ∧ ∃ a3 : Nat, n3 = a3 ∧ a3 ≤ s.size ∧ I64 w ∧ ∀ L, SmpP L → bl s = encD L → L.length = N ∧ L[0]? = some ((t : Int), w) ∧ (bl s).drop a3 = tailL L := by
    intro w n3 e3 H4 f4 hG
    refine ⟨fun _ H' => H' = H4 ∧ e2 = 0 ∧ e3 = 0 ∧ T < 1099511627776, ?_, ?_⟩
    · refine brB_of (fun h => ⟨_, _, _, _, rfl, hno (fun L hP hL => ?_) _ f4⟩) fun h1 => brB_of (fun h => ⟨_, _, _, _, rfl, hno (fun L hP hL => ?_) _ f4⟩) fun h2 => brB_of (fun h => ⟨_, _, _, _, rfl, hno (fun L hP hL => ?_) _ f4⟩) fun h3 => ⟨rfl, by simpa using h1, by simpa using h2, by simp at h3; omega⟩
      · obtain ⟨q1, q2, q3, q4, q5, q6⟩ := eb1 L hP hL
        exact hG2.bad (by simpa using h) (by omega) q3
      · obtain ⟨q1, q2, q3, q4, q5, q6⟩ := eb1 L hP hL
        obtain ⟨w', a'', ea, ew, hw', hG3⟩ := hG (by simpa using h1)
        have h4 := (hG2.of (by omega) q3).2.1
        have h5 := drop_pre q3
        have : a'' = a' + (uintL (tAt L 0).toNat).length := by omega
        subst this
        exact hG3.bad (by simpa using h) (foldN_lt q6) h5
      · obtain ⟨q1, q2, q3, q4, q5, q6⟩ := eb1 L hP hL
        have := (hG2.of (by omega) q3).1
        simp at h; omega
    · rintro H' ⟨rfl, rfl, rfl, hT⟩
      refine ⟨rfl, ?_⟩
      obtain ⟨w', a'', ea, ew, hw', hG3⟩ := hG rfl
      obtain ⟨t, rfl, ht, hr2, hrl2, ea2⟩ := hG2.ok rfl
      obtain ⟨w2, ew2, hw2, hr3, hrl3, ea3⟩ := hG3.ok rfl
      have : w2 = w' := by omega
      subst this
      rw [List.length_drop, hsl] at hrl2 hrl3
      have hp := uintL_pos w2
      refine ⟨t, rfl, by omega, _, ea3, by omega, by rw [ew]; exact unfold_64 hw', fun L hP hL => ?_⟩
      obtain ⟨q1, q2, q3, q4, q5, q6⟩ := eb1 L hP hL
      have h1 := (hG2.of (by omega) q3).1
      have e : (tAt L 0).toNat = t := by omega
      have h5 := drop_pre q3
      have : a'' = a' + (uintL (tAt L 0).toNat).length := by rw [e]; omega
      rw [← this] at h5
      have h6 := (hG3.of (foldN_lt q6) h5).1
      have e2 : foldN (vAt L 0) = w2 := by omega
      have h7 := drop_pre (x := uintL (foldN (vAt L 0))) h5
      rw [e2] at h7
      refine ⟨q1, ?_, h7⟩
      rw [q4, show tAt L 0 = (t : Int) by omega, ew, ← e2, unfold_fold]
  refine rGetInt_ok hs (fun h => ?_) fun a'' ea'' ha'' w' n3 e3 H4 hG3 hw f4 => ?_
  · have hv := hI 0 0 1 H3 f3' (fun he => absurd h (by
      obtain ⟨t, _, _, _, hrl2, rfl⟩ := hG2.ok he
      rw [List.length_drop, hsl] at hrl2
      omega))
    obtain ⟨M, h1, h2⟩ := hv
    refine ⟨fun vs H' => False, ?_, fun _ _ h => h.elim⟩
    cases he : (e2 != 0) with
    | true => rw [he] at h1; exact h1
    | false =>
      exfalso
      refine h ?_
      obtain ⟨t, _, _, _, hrl2, rfl⟩ := hG2.ok (by simpa using he)
      rw [List.length_drop, hsl] at hrl2
      omega
  · have hf4 := f3'.keep0 f4
    obtain ⟨M, h1, h2⟩ := hI (unfoldN w') n3 e3 H4 hf4 (fun _ => ⟨w', a'', ea'', rfl, hw, hG3⟩)
    refine ⟨M, h1, fun J H5 hM => ?_⟩
    obtain ⟨rfl, t, rfl, ht, a3, rfl, ha3, hvw, hcm⟩ := h2 H5 hM
    have ewt : IntKind.wrap .i64 ((t : Nat) : Int) = t := wrap64_of (by omega) (by omega)
    rw [ewt]
    intro b1 H6 hn6
    have f26 : Fr [] H2 H6 := (f3.keep0 f4).keep0 hn6.fr
    have s6 := f2.size
    have s26 := f26.size
    refine ap_grow slice22 elem26 (hO0.keep f26) (sl_one encS ((t : Int), unfoldN w') hn6 rfl) (by omega) (by omega) fun p m d H7 h7 f7 g7 => ?_
    rw [List.nil_append] at h7
    have hm1 : m = 1 := h7.1
    subst hm1
    have f27 : Fr [b] H2 H7 := (f26.mono (by simp)).trans' f7 (fun k hk _ => hk) fun k hk _ => by simpa [blkL] using hk
    have hbH : H.size ≤ b := by have := hn2.eq; have := f0.size; omega
    have f7' : Fr [] H H7 := f2.keep f27 fun k hk => by simp at hk; omega
    have hpl : ∀ k ∈ blkL p, H.size ≤ k := fun k hk => (h7.ge k hk).1
    refine brB_of (fun hN => ⟨_, _, _, _, rfl, hyes _ _ _ _ _ h7 (by omega) (fun x hx => by simp at hx; subst hx; exact hvw) (fun L hP hL => ?_) f7'⟩) fun hN => ?_
    · obtain ⟨q1, q2, q3⟩ := hcm L hP hL
      have hN : N = 1 := by simp at hN; omega
      rw [hN] at q1
      cases L with
      | nil => simp at q1
      | cons x L => simp at q2 q1; subst q1; rw [q2]
    have hN2 : 2 ≤ N := by simp at hN; omega
    have e2 : IntKind.wrap .i64 ((a3 : Int) + 2) = ((a3 + 2 : Nat) : Int) := by rw [wrap64_of (by omega) (by omega)]; rfl
    have ea31 : IntKind.wrap .i64 ((a3 : Int) + 1) = ((a3 + 1 : Nat) : Int) := succ64 (by omega)
    rw [e2]
    have hyp : ∀ L, SmpP L → bl s = encD L → a3 + 2 ≤ s.size ∧ HypB (atB s a3) (atB s (a3 + 1)) (s.extract (a3 + 2) s.size) N ((t : Int), unfoldN w') L := fun L hP hL => by
      obtain ⟨q1, q2, q3⟩ := hcm L hP hL
      exact tail_hyp hP q1 hN2 q2 q3
    refine brB_of (fun h => ⟨_, _, _, _, rfl, hno (fun L hP hL => ?_) _ f7'⟩) fun h => ?_
    · have := (hyp L hP hL).1
      simp at h; omega
    have h2' : a3 + 2 ≤ s.size := by simp at h; omega
    refine chk_true (decide_eq_true ⟨by omega, by omega, by omega⟩) ?_
    rw [Int.toNat_natCast, Int.toNat_natCast]
    have hsz : (s.extract (a3 + 2) s.size).size ≤ s.size := by rw [size_ext]; omega
    generalize hs2 : s.extract (a3 + 2) s.size = s2 at *
    refine rRead02_ok fun r H8 hr8 hb8 f8 => ?_
    have hrH : H.size ≤ r := by have := f7'.size; omega
    have f8' := f7'.keep0 f8
    have hrp : r ∉ blkL p := fun hk => by have := (h7.ge r hk).2; omega
    refine ⟨fun vs H' => match vs with | [.slice p m d, .int _ dd] => ∃ (l : List Smp) (q : Nat) , m = l.length ∧ RdS (atB s a3) (atB s (a3 + 1)) N s2 ((t : Int), unfoldN w') r H.size H' p m d l dd q ∧ Fr [] H H' | _ => False, fun vs _ => match vs with | [.slice _ m _, _] => N - m | _ => 0,
      ⟨[((t : Int), unfoldN w')], 0, rfl, ⟨h7.keep f8, hb8, hrp, by simp; omega, by omega, by omega, ?_, fun x hx => by simp at hx; subst hx; exact hvw, fun L hL => ⟨?_, rfl, rfl⟩⟩, f8'⟩, ?_⟩
    · have : tAt [((t : Int), unfoldN w')] ([((t : Int), unfoldN w')].length - 1) = t := rfl
      rw [this]; omega
    · have := hL.fst
      cases L with
      | nil => simp at this
      | cons y L => simp at this; subst this; simp
    rintro J p m d dd H2 ⟨l, q, rfl, hS, f2⟩
    have hl := hS.len
    have noS : (∀ L, HypB (atB s a3) (atB s (a3 + 1)) s2 N ((t : Int), unfoldN w') L → False) → ∀ H', Fr [] H H' → K none 0 0 false H' := fun h H' hf => hno (fun L hP hL => h L (hyp L hP hL).2) H' hf
    rw [wrapU_nat (by omega)]
    refine brB_of (fun hlt => ?_) (fun hge => ?_)
    · have hlt : l.length < N := by simp at hlt; omega
      have frG : ∀ {X Y : Heap}, Fr [] H X → Fr [r] X Y → Fr [] H Y := fun h1 h2 => h1.keep h2 fun k hk => by simp at hk; omega
      refine chk_true (decide_eq_true ⟨by omega, by omega⟩) ?_
      rw [Int.toNat_natCast, atB_i64]
      refine rRice_rd hS.rd rfl hS.pb (by omega) fun n1 e1 p1 H3 hR1 hp1 hb3 f3 => ?_
      rw [ea31]
      refine chk_true (decide_eq_true ⟨by omega, by omega⟩) ?_
      rw [Int.toNat_natCast, atB_i64]
      refine rRice_rd hb3 rfl hp1 (by omega) fun n2 e2 p2 H4 hR2 hp2 hb4 f4 => ?_
      have f4' := frG (frG f2 f3) f4
      have fr4 : Fr [r] H2 H4 := f3.trans' f4 (fun k hk _ => hk) fun k hk _ => hk
      obtain ⟨v1, rfl, hv1⟩ := hR1.nat
      obtain ⟨v2, rfl, hv2⟩ := hR2.nat
      have o4 := hS.own.fr fr4 (blk_of_ne fun k kk hm => by simp at hm; subst hm; exact hS.rn kk)
      have nx := fun L (hL : HypB (atB s a3) (atB s (a3 + 1)) s2 N ((t : Int), unfoldN w') L) => hL.next (j := l.length - 1) (by have := hL.len; omega) (hS.cmp L hL).2.1 hR1 hR2
      have mo := fun L (hL : HypB (atB s a3) (atB s (a3 + 1)) s2 N ((t : Int), unfoldN w') L) => hL.smp hl.1 hlt (hS.cmp L hL).1 (hS.cmp L hL).2.2
      refine ⟨fun _ H' => H' = H4, brB_of (fun h => ⟨_, _, _, _, rfl, noS (fun L hL => ?_) _ f4'⟩) fun h => brB_of (fun h => ⟨_, _, _, _, rfl, noS (fun L hL => ?_) _ f4'⟩) fun h => rfl, ?_⟩
      · have := (nx L hL).1; simp at h; omega
      · have := (nx L hL).2.1; simp at h; omega
      rintro J2 H5' rfl
      have e1' : IntKind.wrap .i64 (((l.length : Nat) : Int) - 1) = ((l.length - 1 : Nat) : Int) := pred64 (by omega) (by omega)
      rw [e1']
      refine o4.idx rfl (ldS_last hl.1) (decide_eq_true (by omega)) fun ad ea hc => ⟨_, _, ldS hc, ?_⟩
      refine var_blk (by kernel_rfl) (by kernel_rfl) pair_one (by rfl) fun vb H5 hvl hvb fv => ?_
      have f5 := f4'.keep0 fv
      refine rUnfold_ok hv1 ⟨fun _ H' => H' = H5 ∧ unfoldN v1 ≤ 1099511627776 ∧ -1099511627776 ≤ unfoldN v1, ?_, ?_⟩
      · refine brB_of (fun h => ⟨_, _, _, _, rfl, noS (fun L hL => ?_) _ f5⟩) fun h3 => brB_of (fun h => ⟨_, _, _, _, rfl, noS (fun L hL => ?_) _ f5⟩) fun h4 => ⟨rfl, ?_, ?_⟩
        · have e := (nx L hL).2.2.1
          have := mo L hL
          have ev : v1 = tN L (l.length - 1) := by omega
          rw [← ev] at this
          simp at h; omega
        · have e := (nx L hL).2.2.1
          have := mo L hL
          have ev : v1 = tN L (l.length - 1) := by omega
          rw [← ev] at this
          simp at h; omega
        · simp at h3; omega
        · simp at h4; omega
      · rintro J3 H6 ⟨rfl, hm1, hm2⟩
        have hdd := hS.db
        have ed : IntKind.wrap .i64 (dd + unfoldN v1) = dd + unfoldN v1 := wrap64_of (by omega) (by omega)
        rw [ed]
        have hla := hS.last
        have hla2 := hla.1
        refine ⟨fun vs H' => H' = H6 ∧ 1 ≤ dd + unfoldN v1 ∧ dd + unfoldN v1 ≤ 1099511627776 ∧ tAt l (l.length - 1) + (dd + unfoldN v1) < 1099511627776, ?_, ?_⟩
        · refine brB_of (fun h => ⟨_, _, _, _, rfl, noS (fun L hL => ?_) _ f5⟩) fun h1 => brB_of (fun h => ⟨_, _, _, _, rfl, noS (fun L hL => ?_) _ f5⟩) fun h2 => ⟨_, hvb.ld0 (by kernel_rfl) rfl, ?_⟩
          · have e := (nx L hL).2.2.1
            have := mo L hL
            have ev : v1 = tN L (l.length - 1) := by omega
            rw [← ev] at this
            simp at h; omega
          · have e := (nx L hL).2.2.1
            have := mo L hL
            have ev : v1 = tN L (l.length - 1) := by omega
            rw [← ev] at this
            simp at h; omega
          · have h1 := of_decide_eq_false h1
            have h2 := of_decide_eq_false h2
            have et : IntKind.wrap .i64 (tAt l (l.length - 1) + (dd + unfoldN v1)) = tAt l (l.length - 1) + (dd + unfoldN v1) := wrap64_of (by omega) (by omega)
            simp only
            rw [et]
            refine brB_of (fun h => ⟨_, _, _, _, rfl, noS (fun L hL => ?_) _ f5⟩) fun h3 => ⟨trivial, by omega, by omega, by simp at h3; omega⟩
            have e := (nx L hL).2.2.1
            have := mo L hL
            have ev : v1 = tN L (l.length - 1) := by omega
            rw [← ev] at this
            simp at h; omega
        · rintro J4 H7 ⟨rfl, hd1, hd2, hT⟩
          refine ⟨_, hvb.ld0 (by kernel_rfl) rfl, _, hvb.ldK (j := 1) (by kernel_rfl) rfl, ?_⟩
          refine rUnfold_ok hv2 ⟨hvb.ldK (j := 1) (by kernel_rfl) rfl, hvb.ld0 (by kernel_rfl) rfl, ?_⟩
          have et : IntKind.wrap .i64 (tAt l (l.length - 1) + (dd + unfoldN v1)) = tAt l (l.length - 1) + (dd + unfoldN v1) := wrap64_of (by omega) (by omega)
          simp only
          rw [et]
          intro b9 H9 hn9
          have s9 := f5.size
          have s10 := hn9.size
          refine ap_grow slice22 elem26 ((o4.keep fv).keep hn9.fr) (sl_one encS (tAt l (l.length - 1) + (dd + unfoldN v1), IntKind.i64.wrap (vAt l (l.length - 1) + unfoldN v2)) hn9 rfl) (by omega) (by omega) fun p' m' d' H10 h10 f10 g10 => ?_
          have hm' := h10.1
          have hrl : r < H7.size := Nat.lt_of_lt_of_le hb4.lt fv.size
          have hnr : r ∉ blkL p' := fun hk => (g10 r hk).elim hS.rn fun h => by omega
          have hmo := hS.more hlt hR1 hR2 rfl rfl hv2 hp2 ⟨hd1, hd2⟩ hT h10 (((hb4.keep fv).keep hn9.fr).fr f10 hS.rn) hnr
          refine ⟨⟨_, p2, hm', hmo, (f5.keep0 hn9.fr).keep f10 fun k hk => (hS.own.ge k hk).1⟩, ?_⟩
          show N - m' < N - l.length
          rw [hm', List.length_append]; simp; omega
    · have hlN : l.length = N := by simp at hge; omega
      refine ⟨_, _, _, _, rfl, hyes l _ _ _ _ hS.own (by omega) hS.v (fun L hP hL => (hS.all hlN (hyp L hP hL).2).1) f2⟩
theorem rDecode_ok {s : ByteArray} {H : Heap} {K : Option Addr → Nat → Nat → Int → Heap → Prop} (hs : s.size ≤ 100000000000)
    (hno : (∀ L, SmpP L → bl s ≠ encD L) → ∀ H', Fr [] H H' → K none 0 0 11 H')
    (hyes : ∀ L a n c H', SmpP L → bl s = encD L → Own encS 107 H.size H' a n c L → Fr [] H H' → K a n c 0 H') :
    CallH Tryz.prog fn_ref03_Decode ⟨[.string s]⟩ H fun v H' => ∃ a n c e, v = .tuple ⟨[.slice a n c, .int .i64 e]⟩ ∧ K a n c e H' := by
  apply vc_ref03_Decode
  refine rread_ok hs (fun hn H' hf => brB_of (fun _ => ⟨_, _, _, _, rfl, hno hn H' hf⟩) fun h => by cases h) fun l a n c H1 ho hn hv hcmp hf => brB_of (fun h => by cases h) fun _ => ?_
  have hl := ho.1
  refine rEncode_ok ho.sl hv (by omega) (fun h => by omega) (fun _ hnP H' hf' => brB_of (fun _ => ⟨_, _, _, _, rfl, hno (fun L hP hL => hnP ?_) _ (hf.keep0 hf')⟩) fun h => by cases h) fun hP H' hf' => brB_of (fun h => by cases h) fun _ => ?_
  · rw [hcmp L hP hL]; exact hP
  · by_cases e : s = ⟨(encD l).toArray⟩
    · rw [sized e.symm]
      exact ⟨_, _, _, _, rfl, hyes l _ _ _ _ hP (by rw [e]) (ho.keep hf') (hf.keep0 hf')⟩
    · rw [sized_ne (fun h => e h.symm)]
      refine ⟨_, _, _, _, rfl, hno (fun L hP' hL => e ?_) _ (hf.keep0 hf')⟩
      rw [hcmp L hP' hL]
      exact bl_inj hL

def idZ (zs : List Z) : List Int := zs.map fun z => (z.1 : Int)
def szZ (zs : List Z) : List Int := zs.map fun z => (z.2 : Int)
def txZ (s : ByteArray) (zs : List Z) (k : Nat) : List ByteArray := (List.range k).map fun i => s.extract (posZ zs + offZ zs i) (posZ zs + offZ zs (i + 1))
theorem txZ_succ (s : ByteArray) (zs : List Z) (k : Nat) : txZ s zs (k + 1) = txZ s zs k ++ [pieceZ s zs k] := by unfold txZ; rw [List.range_succ, List.map_append]; rfl
theorem txZ_get {s : ByteArray} {zs : List Z} {k i : Nat} (h : i < k) : (txZ s zs k)[i]? = some (pieceZ s zs i) := by unfold txZ; rw [List.getElem?_map, List.getElem?_range h]; rfl
theorem rtable_ok {s : ByteArray} {H : Heap} {K : Option Addr → Nat → Nat → Option Addr → Nat → Nat → Bool → Heap → Prop} (hs : s.size ≤ 1000000000)
    (hno : (∀ zs, ¬ TabP s zs) → ∀ H', Fr [] H H' → K none 0 0 none 0 0 false H')
    (hyes : ∀ zs a n c a1 n1 c1 H', TabP s zs → Own encInt 3 H.size H' a n c (idZ zs) → Own GV.encStr 9 H.size H' a1 n1 c1 (txZ s zs zs.length) → Fr [] H H' → K a n c a1 n1 c1 true H') :
    CallH Tryz.prog fn_ref15_table ⟨[.string s]⟩ H fun v H' => ∃ a n c a1 n1 c1 b, v = .tuple ⟨[.slice a n c, .slice a1 n1 c1, .bool b]⟩ ∧ K a n c a1 n1 c1 b H' := by
  apply vc_ref15_table
  have hsl := bl_len s
  refine rnum_ok (by omega) (a := 0) rfl (by omega) fun n0 p0 e1 H0 hG1 hn0 hp0 f0 => ?_
  refine ⟨fun _ H' => H' = H0 ∧ e1 = 0 ∧ n0 ≤ 200, ?_, ?_⟩
  · refine brB_of (fun h => ⟨_, _, _, _, _, _, _, rfl, hno (fun zs ht => ?_) _ f0⟩) fun h1 => brB_of (fun h => ⟨_, _, _, _, _, _, _, rfl, hno (fun zs ht => ?_) _ f0⟩) fun h2 => ⟨rfl, by simpa using h1, by simp at h2; omega⟩
    · obtain ⟨r, h1, _⟩ := ht.s
      have := hG1.of (n := zs.length) (by have := ht.len; omega) (by rw [List.drop_zero]; exact h1)
      simp at h; omega
    · obtain ⟨r, h1, _⟩ := ht.s
      have := hG1.of (n := zs.length) (by have := ht.len; omega) (by rw [List.drop_zero]; exact h1)
      have := ht.len
      simp at h; omega
  rintro J H1 ⟨rfl, rfl, hn200⟩ b H2 hn2 b1 H3 hn3
  have z0 := f0.size
  have z2 := hn2.size
  have z3 := hn3.size
  have e2 := hn2.eq
  have e3 := hn3.eq
  have f3 : Fr [] H H3 := (f0.keep0 hn2.fr).keep0 hn3.fr
  refine ⟨fun vs H' => match vs with | [.int _ pos, .slice a n c, .slice a' n' c', .int _ all, .int _ i] => ∃ (zs : List Z) (p : Nat), pos = ((p : Nat) : Int) ∧ i = ((zs.length : Nat) : Int) ∧ zs.length ≤ n0 ∧ TbS s n0 zs p ∧ all = ((sumZ zs : Nat) : Int) ∧ Own encInt 3 H.size H' a n c (idZ zs) ∧ Own encInt 3 H.size H' a' n' c' (szZ zs) ∧ Dj (blkL a) (blkL a') ∧ Fr [] H H' | _ => False, fun vs _ => match vs with | [_, _, _, _, .int _ i] => n0 - i.toNat | _ => 0,
    ⟨[], p0, rfl, rfl, by simp, TbS.start (e := 0) hG1 rfl rfl hp0, rfl, (Own.made encInt 3 hn2 z0).keep hn3.fr, Own.made encInt 3 hn3 (by omega), (by intro k hk hk2; simp [blkL] at hk hk2; omega), f3⟩, ?_⟩
  rintro J pos a n c a' n' c' all i H4 ⟨zs, p, rfl, rfl, hzl, hT, rfl, o1, o2, dj, f4⟩
  have hn1l := o1.1
  have hn2l := o2.1
  unfold idZ at hn1l
  unfold szZ at hn2l
  rw [List.length_map] at hn1l hn2l
  have hsum := sumZ_le fun z hz => (hT.lo z hz).2
  have hzl200 : zs.length ≤ 200 := by omega
  have hsum2 : sumZ zs ≤ 200000000000 := Nat.le_trans hsum (Nat.le_trans (Nat.mul_le_mul hzl200 hs) (by omega))
  refine brB_of (fun hlt => ?_) (fun hge => ?_)
  · have hlt : zs.length < n0 := by simp at hlt; omega
    refine ⟨fun vs H' => match vs with | [.int _ pos, .slice a n c, .slice a' n' c', .int _ all] => ∃ (z : Z) (p' : Nat), pos = ((p' : Nat) : Int) ∧ TbS s n0 (zs ++ [z]) p' ∧ all = ((sumZ (zs ++ [z]) : Nat) : Int) ∧ Own encInt 3 H.size H' a n c (idZ (zs ++ [z])) ∧ Own encInt 3 H.size H' a' n' c' (szZ (zs ++ [z])) ∧ Dj (blkL a) (blkL a') ∧ Fr [] H H' | _ => False, ?_, ?_⟩
    · refine rnum_ok (by omega) rfl hT.pos fun m1 p1 e1 H5 hG1 hm1 hp1 f5 => ?_
      refine rnum_ok (by omega) rfl hp1 fun m2 p2 e2 H6 hG2 hm2 hp2 f6 => ?_
      have f46 := f5.keep0 f6
      have f6' := f4.keep0 f46
      have nums : ∀ zs', TabP s zs' → e1 = 0 ∧ e2 = 0 ∧ m1 < 200 ∧ m2 ≤ s.size ∧ (∀ y, zs.getLast? = some y → y.1 < m1) := fun zs' ht => by
        obtain ⟨z, r, q1, q2, q3, q4, q5⟩ := hT.next ht hlt
        obtain ⟨u1, u2, u3, u4⟩ := hG1.step (by omega) q2
        have : p1 = p + (uintL z.1).length := by omega
        rw [← this] at u4
        obtain ⟨w1, w2, w3, w4⟩ := hG2.step (by omega) u4
        refine ⟨u1, w1, by omega, by omega, fun y hy => by have := q3 y hy; omega⟩
      have ewu : IntKind.wrap .u64 (s.size : Int) = s.size := nat_wrapU (by omega)
      refine ⟨fun _ H' => H' = H6 ∧ e1 = 0 ∧ e2 = 0 ∧ m1 < 200 ∧ m2 ≤ s.size ∧ (∀ y, zs.getLast? = some y → y.1 < m1), ⟨fun vs H' => match vs with | [.bool b'] => H' = H6 ∧ (b' = true → ∀ zs', ¬ TabP s zs') ∧ (b' = false → e1 = 0 ∧ e2 = 0 ∧ m1 < 200 ∧ m2 ≤ s.size ∧ (∀ y, zs.getLast? = some y → y.1 < m1)) | _ => False, ?_, ?_⟩, ?_⟩
      · refine brB_of (fun h => ⟨rfl, fun _ zs' ht => ?_, (fun h => by cases h)⟩) fun h1 => brB_of (fun h => ⟨rfl, fun _ zs' ht => ?_, (fun h => by cases h)⟩) fun h2 => brB_of (fun h => ⟨rfl, fun _ zs' ht => ?_, (fun h => by cases h)⟩) fun h3 => ?_
        · have := (nums zs' ht).1; simp at h; omega
        · have := (nums zs' ht).2.1; simp at h; omega
        · have := (nums zs' ht).2.2.1; simp at h; omega
        · have h3 := of_decide_eq_false h3
          rw [ewu]
          have last : (∀ y, zs.getLast? = some y → y.1 < m1) → (fun vs H' => match vs with | [.bool b'] => H' = H6 ∧ (b' = true → ∀ zs', ¬ TabP s zs') ∧ (b' = false → e1 = 0 ∧ e2 = 0 ∧ m1 < 200 ∧ m2 ≤ s.size ∧ (∀ y, zs.getLast? = some y → y.1 < m1)) | _ => False : IV) [.bool (decide ((m2 : Int) > (s.size : Int)))] H6 := fun hr =>
            ⟨rfl, fun h zs' ht => by have := (nums zs' ht).2.2.2.1; simp at h; omega, fun h => ⟨by simpa using h1, by simpa using h2, by omega, by simp at h; omega, hr⟩⟩
          refine brB_of (fun h0 => ?_) fun h0 => last fun y hy => ?_
          · have hz0 : 0 < zs.length := by simp at h0; omega
            obtain ⟨y, hy⟩ : ∃ y, zs.getLast? = some y := by
              cases hg : zs.getLast? with
              | none => rw [List.getLast?_eq_none_iff] at hg; rw [hg] at hz0; simp at hz0
              | some y => exact ⟨y, rfl⟩
            have hyi : (idZ zs)[zs.length - 1]? = some (y.1 : Int) := by unfold idZ; rw [List.getElem?_map, getLast_at hy]; rfl
            have en : IntKind.wrap .i64 ((n : Int) - 1) = ((zs.length - 1 : Nat) : Int) := by rw [hn1l]; exact pred64 (by omega) hz0
            have ew1 : IntKind.wrap .i64 (m1 : Int) = m1 := wrap64_of (by omega) (by omega)
            rw [en, ew1]
            refine (o1.keep f46).idx rfl hyi (decide_eq_true (by omega)) fun ad ea hc => ⟨_, ld_one (by kernel_rfl) hc, brB_of (fun h => ⟨rfl, fun _ zs' ht => ?_, (fun h => by cases h)⟩) fun h4 => last fun y' hy' => ?_⟩
            · have := (nums zs' ht).2.2.2.2 y hy; simp at h; omega
            · rw [hy] at hy'; cases hy'
              simp at h4; omega
          · have : zs.length = 0 := by simp at h0; omega
            have : zs = [] := List.eq_nil_of_length_eq_zero this
            rw [this] at hy; simp at hy
      · rintro J2 b' H7 ⟨rfl, hb1, hb2⟩
        exact brB_of (fun h => ⟨_, _, _, _, _, _, _, rfl, hno (hb1 h) _ f6'⟩) fun h => ⟨rfl, hb2 h⟩
      · rintro J2 H7 ⟨rfl, rfl, rfl, hm1', hm2', hrise⟩ b5 H8 hn8
        have ew1 : IntKind.wrap .i64 (m1 : Int) = m1 := wrap64_of (by omega) (by omega)
        have ew2 : IntKind.wrap .i64 (m2 : Int) = m2 := wrap64_of (by omega) (by omega)
        have ew3 : IntKind.wrap .i64 (((sumZ zs : Nat) : Int) + (m2 : Int)) = ((sumZ zs + m2 : Nat) : Int) := by rw [wrap64_of (by omega) (by omega)]; rfl
        rw [ew1] at hn8
        rw [ew2, ew3]
        have s6 := f6'.size
        have s46 := f46.size
        have s8 := hn8.size
        refine ap_grow slice24 elem3 ((o1.keep f46).keep hn8.fr) (sl_one encInt (m1 : Int) hn8 rfl) (by omega) (by omega) fun q m d H9 h9 f9 g9 b6 H10 hn10 => ?_
        have s9 := f9.size
        have s10 := hn10.size
        have o2' := (((o2.keep f46).keep hn8.fr).fr f9 (blk_of_ne fun k kk hm => dj k hm kk)).keep hn10.fr
        refine ap_grow slice24 elem3 o2' (sl_one encInt (m2 : Int) hn10 rfl) (by omega) (by omega) fun q' m' d' H11 h11 f11 g11 => ?_
        have i1 : ∀ k ∈ blkL a, k < H4.size := fun k hk => (o1.ge k hk).2
        have i2 : ∀ k ∈ blkL a', k < H4.size := fun k hk => (o2.ge k hk).2
        have dq : Dj (blkL q) (blkL a') := fun k hk hk2 => by
          rcases g9 k hk with h | h
          · exact dj k h hk2
          · have := i2 k hk2; omega
        obtain ⟨k1, x1, x2, x3, x4, x5⟩ := hG1.ok rfl
        obtain ⟨k2, y1, y2, y3, y4, y5⟩ := hG2.ok rfl
        have hd : (bl s).drop p = uintL m1 ++ (uintL m2 ++ (bl s).drop p2) := by
          have e1 : k1 = m1 := by omega
          have e2 : k2 = m2 := by omega
          subst e1; subst e2
          rw [List.drop_drop] at x3 y3
          have ea : p + (uintL k1).length = p1 := by omega
          have eb : p1 + (uintL k2).length = p2 := by omega
          rw [ea] at x3
          rw [eb] at y3
          rw [x3, y3]
        refine ⟨(m1, m2), p2, rfl, hT.more hlt hd hp2 hrise ⟨hm1', hm2'⟩, by rw [sumZ_snoc], ?_, ?_, fun k hk hk2 => ?_, ?_⟩
        · unfold idZ at h9 ⊢
          rw [List.map_append]
          exact (h9.keep hn10.fr).fr f11 (blk_of_ne dq)
        · unfold szZ at h11 ⊢
          rw [List.map_append]
          exact h11
        · rcases g11 k hk2 with h | h
          · exact dq k hk h
          · have := (h9.ge k hk).2; omega
        · exact (((f6'.keep0 hn8.fr).keep f9 fun k hk => (o1.ge k hk).1).keep0 hn10.fr).keep f11 fun k hk => (o2.ge k hk).1
    · rintro J2 pos' q m d q' m' d' all' H5 ⟨z, p', rfl, h1, rfl, h2, h3, h4, h5⟩
      have ei : IntKind.wrap .u64 (((zs.length : Nat) : Int) + 1) = ((zs.length + 1 : Nat) : Int) := nat_wrapU (n := zs.length + 1) (by omega)
      rw [ei]
      have hmu : n0 - ((zs.length + 1 : Nat) : Int).toNat < n0 - ((zs.length : Nat) : Int).toNat := by omega
      exact ⟨⟨zs ++ [z], p', rfl, by simp, by simp; omega, h1, rfl, h2, h3, h4, h5⟩, hmu⟩
  · have hz0 : zs.length = n0 := by simp at hge; omega
    obtain ⟨d1, d2⟩ := hT.done hz0
    have hpp := hT.pos
    have ew : IntKind.wrap .i64 ((s.size : Int) - (p : Int)) = ((s.size - p : Nat) : Int) := by rw [wrap64_of (by omega) (by omega)]; omega
    rw [ew]
    refine brB_of (fun h => ⟨_, _, _, _, _, _, _, rfl, hno (fun zs' ht => ?_) _ f4⟩) fun h => ?_
    · rw [d2 zs' ht] at h; simp at h
    have hall : sumZ zs = s.size - p := by
      have : ((sumZ zs : Nat) : Int) = ((s.size - p : Nat) : Int) := by simpa using h
      omega
    obtain ⟨tP, ep⟩ := d1 hall
    intro b3 H5 hn5
    have z4 := f4.size
    have z5 := hn5.size
    refine ⟨fun vs H' => match vs with | [.int _ at', .slice q m d, .int _ i] => ∃ k : Nat, i = k ∧ k ≤ zs.length ∧ at' = ((posZ zs + offZ zs k : Nat) : Int) ∧ Own GV.encStr 9 H4.size H' q m d (txZ s zs k) ∧ Fr [] H4 H' | _ => False, fun vs _ => match vs with | [_, _, .int _ i] => zs.length - i.toNat | _ => 0,
      ⟨0, rfl, by omega, by rw [ep]; simp [offZ, sumZ], Own.made GV.encStr 9 hn5 (Nat.le_refl _), hn5.fr⟩, ?_⟩
    rintro J3 at' q m d i H6 ⟨k, rfl, hk, rfl, h1, f6⟩
    refine brB_of (fun hlt => ?_) (fun hge2 => ?_)
    · have hlt : k < zs.length := by simp at hlt; omega
      obtain ⟨z, hz⟩ := getElem_ex (l := zs) (i := k) hlt
      have hzi : (szZ zs)[k]? = some (z.2 : Int) := by unfold szZ; rw [List.getElem?_map, hz]; rfl
      have o2' := offZ_succ hz
      have ole := offZ_le zs (k + 1)
      have hsz := tP.size
      refine (o2.keep f6).idx rfl hzi (decide_eq_true (by omega)) fun ad ea hc => ⟨_, ld_one (by kernel_rfl) hc, ?_⟩
      have ez : IntKind.wrap .i64 (((posZ zs + offZ zs k : Nat) : Int) + (z.2 : Int)) = ((posZ zs + offZ zs (k + 1) : Nat) : Int) := by rw [wrap64_of (by omega) (by omega)]; omega
      rw [ez]
      refine chk_true (decide_eq_true ⟨by omega, by omega, by omega⟩) ?_
      rw [Int.toNat_natCast, Int.toNat_natCast]
      intro b8 H8 hn8
      have hml := h1.1
      have s6 := f6.size
      have s8 := hn8.size
      refine ap_grow slice113 elem9s (h1.keep hn8.fr) (sl_one GV.encStr (pieceZ s zs k) hn8 rfl) (by omega) (by rw [hml]; simp [txZ]; omega) fun q' m' d' H9 h9 f9 g9 => ?_
      have f69 : Fr [] H4 H9 := (f6.keep0 hn8.fr).keep f9 fun k hk => (h1.ge k hk).1
      refine (o2.keep f69).idx rfl hzi (decide_eq_true (by omega)) fun ad2 ea2 hc2 => ⟨_, ld_one (by kernel_rfl) hc2, ?_⟩
      rw [ez, succ64 (by omega)]
      have hmu : zs.length - ((k + 1 : Nat) : Int).toNat < zs.length - ((k : Nat) : Int).toNat := by omega
      exact ⟨⟨k + 1, rfl, by omega, rfl, by rw [txZ_succ]; exact h9, f69⟩, hmu⟩
    · have hkj : k = zs.length := by simp at hge2; omega
      subst hkj
      exact ⟨_, _, _, _, _, _, _, rfl, hyes zs _ _ _ _ _ _ _ tP (o1.keep f6) (h1.base z4) (f4.keep0 f6)⟩
theorem rIDs_ok {s : ByteArray} {H : Heap} {K : Option Addr → Nat → Nat → Int → Heap → Prop} (hs : s.size ≤ 1000000000)
    (hno : (∀ zs, ¬ TabP s zs) → ∀ H', Fr [] H H' → K none 0 0 11 H') (hyes : ∀ zs a n c H', TabP s zs → n = zs.length → Fr [] H H' → K a n c 0 H') :
    CallH Tryz.prog fn_ref15_IDs ⟨[.string s]⟩ H fun v H' => ∃ a n c e, v = .tuple ⟨[.slice a n c, .int .i64 e]⟩ ∧ K a n c e H' := by
  apply vc_ref15_IDs
  refine rtable_ok hs (fun hn H' hf => brB_of (fun _ => ⟨_, _, _, _, rfl, hno hn H' hf⟩) fun h => by cases h) fun zs a n c a1 n1 c1 H' hT o1 o2 hf => brB_of (fun h => by cases h) fun _ => ⟨_, _, _, _, rfl, hyes zs _ _ _ _ hT ?_ hf⟩
  have := o1.1
  unfold idZ at this
  rwa [List.length_map] at this
theorem rFind_ok {s : ByteArray} {id : Int} {zs : List Z} {i : Nat} {z : Z} {H : Heap} {K : Option Addr → Nat → Nat → Int → Heap → Prop} (hs : s.size ≤ 1000000000) (hT : TabP s zs) (hz : zs[i]? = some z) (hid : id = z.1)
    (hno : (∀ L, SmpP L → bl (pieceZ s zs i) = encD L → L = []) → ∀ H', Fr [] H H' → K none 0 0 11 H')
    (hyes : ∀ L a n c H', SmpP L → L ≠ [] → bl (pieceZ s zs i) = encD L → Own encS 107 H.size H' a n c L → Fr [] H H' → K a n c 0 H') :
    CallH Tryz.prog fn_ref15_Find ⟨[.string s, .int .i64 id]⟩ H fun v H' => ∃ a n c e, v = .tuple ⟨[.slice a n c, .int .i64 e]⟩ ∧ K a n c e H' := by
  apply vc_ref15_Find
  refine rtable_ok hs (fun hn H' hf => (hn zs hT).elim) fun zs' a n c a1 n1 c1 H1 hT' o1 o2 f1 => brB_of (fun h => by cases h) fun _ => ?_
  have : zs' = zs := hT'.uniq hT
  subst this
  have hzl := hT.len
  have hi := (List.getElem?_eq_some_iff.1 hz).1
  have l1 := o1.1
  have l2 := o2.1
  unfold idZ at l1
  rw [List.length_map] at l1
  have l2 : n1 = zs'.length := by rw [l2]; simp [txZ]
  have ids : ∀ {j : Nat} {w : Z}, zs'[j]? = some w → (idZ zs')[j]? = some (w.1 : Int) := fun h => by unfold idZ; rw [List.getElem?_map, h]; rfl
  refine ⟨fun vs H' => match vs with | [.int _ x] => ∃ j : Nat, x = j ∧ j ≤ i ∧ H' = H1 | _ => False, fun vs _ => match vs with | [.int _ x] => n - x.toNat | _ => 0, ⟨0, rfl, by omega, rfl⟩, ?_⟩
  rintro J x H2 ⟨j, rfl, hj, rfl⟩
  refine brB_of (fun hlt => ?_) (fun hge => by simp at hge; omega)
  obtain ⟨w, hw⟩ := getElem_ex (l := zs') (i := j) (by omega)
  refine o1.idx rfl (ids hw) (decide_eq_true (by omega)) fun ad ea hc => ⟨_, ld_one (by kernel_rfl) hc, brB_of (fun h => ?_) fun h => ?_⟩
  · have h : (w.1 : Int) = id := by simpa using h
    have hji : j = i := by
      rcases Nat.lt_or_ge j i with hlt' | hge'
      · exfalso
        obtain ⟨q1, q2⟩ := List.getElem?_eq_some_iff.1 hw
        obtain ⟨q3, q4⟩ := List.getElem?_eq_some_iff.1 hz
        have := List.pairwise_iff_getElem.1 hT.rise j i q1 q3 hlt'
        rw [q2, q4] at this
        omega
      · omega
    subst hji
    have hpl := piece_le (s := s) (zs := zs') (i := j)
    refine o2.idx rfl (txZ_get hi) (decide_eq_true (by omega)) fun ad2 ea2 hc2 => ⟨_, ld_one (by kernel_rfl) hc2, ?_⟩
    refine rDecode_ok (by omega) (fun hn H' hf => brB_of (fun _ => ⟨_, _, _, _, rfl, hno (fun L hP hL => absurd hL (hn L hP)) _ (f1.keep0 hf)⟩) fun h => by cases h) fun L a n c H' hP hL ho hf => brB_of (fun h => by cases h) fun _ => ?_
    have hl := ho.1
    refine brB_of (fun h => ⟨_, _, _, _, rfl, hno (fun L' hP' hL' => ?_) _ (f1.keep0 hf)⟩) fun h => ⟨_, _, _, _, rfl, hyes L _ _ _ _ hP (by intro e; rw [e] at hl; simp at hl; simp at h; omega) hL (ho.base f1.size) (f1.keep0 hf)⟩
    have : L = [] := List.eq_nil_of_length_eq_zero (by simp at h; omega)
    subst this
    exact encD_inj hP' hP (x := []) (y := []) (by rw [← hL', hL])
  · have h : ¬ (w.1 : Int) = id := by simpa using h
    have hji : j ≠ i := by
      intro e
      subst e
      rw [hz] at hw
      cases hw
      exact h hid.symm
    rw [succ64 (by omega)]
    have hmu : n - ((j + 1 : Nat) : Int).toNat < n - ((j : Nat) : Int).toNat := by simp at hlt; omega
    exact ⟨⟨j + 1, rfl, by omega, rfl⟩, hmu⟩
theorem r15Decode_ok {s : ByteArray} {H : Heap} {K : Option Addr → Nat → Nat → Int → Heap → Prop} (hs : s.size ≤ 1000000000)
    (hno : (∀ ss, MajP ss → bl s ≠ encM ss) → ∀ H', Fr [] H H' → K none 0 0 11 H')
    (hyes : ∀ ss hs a n c H', MajP ss → bl s = encM ss → Sl encSr H' a n c hs → SerH H' hs ss → Fr [] H H' → K a n c 0 H') :
    CallH Tryz.prog fn_ref15_Decode ⟨[.string s]⟩ H fun v H' => ∃ a n c e, v = .tuple ⟨[.slice a n c, .int .i64 e]⟩ ∧ K a n c e H' := by
  apply vc_ref15_Decode
  refine rtable_ok hs (fun hn H' hf => brB_of (fun _ => ⟨_, _, _, _, rfl, hno (fun ss hM hss => hn _ (hM.tab hss)) H' hf⟩) fun h => by cases h) fun zs a n c a1 n1 c1 H1 hT o1 o2 f1 => brB_of (fun h => by cases h) fun _ => ?_
  have hzl := hT.len
  have l1 := o1.1
  unfold idZ at l1
  rw [List.length_map] at l1
  have ids : ∀ {j : Nat} {w : Z}, zs[j]? = some w → (idZ zs)[j]? = some (w.1 : Int) := fun h => by unfold idZ; rw [List.getElem?_map, h]; rfl
  intro b H2 hn2
  have z1 := f1.size
  have z2 := hn2.size
  refine ⟨fun vs H' => match vs with | [.slice q m d, .int _ i] => ∃ (hs' : List Sr) (ss : List Srs), i = ((ss.length : Nat) : Int) ∧ ss.length ≤ zs.length ∧ Own encSr 117 H1.size H' q m d hs' ∧ SerH H' hs' ss ∧ GotM s zs ss ∧ (∀ m ∈ hs', ∀ k ∈ blkL m.2.1, k ∉ blkL q) ∧ Fr [] H1 H' | _ => False, fun vs _ => match vs with | [_, .int _ i] => zs.length - i.toNat | _ => 0,
    ⟨[], [], rfl, by simp, Own.made encSr 117 hn2 (Nat.le_refl _), .nil, (fun j x h => by simp at h), (fun m hm => by cases hm), hn2.fr⟩, ?_⟩
  rintro J q m d i H3 ⟨hs', ss, rfl, hl, h1, h2, h3, h4, f3⟩
  have hml := h1.1
  have hl2 := h2.len
  refine brB_of (fun hlt => ?_) (fun hge => ?_)
  · have hlt : ss.length < zs.length := by simp at hlt; omega
    obtain ⟨z, hz⟩ := getElem_ex (l := zs) (i := ss.length) hlt
    refine (o1.keep f3).idx rfl (ids hz) (decide_eq_true (by omega)) fun ad ea hc => ⟨_, ld_one (by kernel_rfl) hc, ?_⟩
    refine rFind_ok hs hT hz rfl (fun hbad H' hf => brB_of (fun _ => ⟨_, _, _, _, rfl, hno (GotM.bad hT hz hbad) _ ((f1.keep0 f3).keep0 hf)⟩) fun h => by cases h) fun L a5 n5 c5 H4 hP hne hL o4 f4 => brB_of (fun h => by cases h) fun _ => ?_
    refine ((o1.keep f3).keep f4).idx rfl (ids hz) (decide_eq_true (by omega)) fun ad2 ea2 hc2 => ⟨_, ld_one (by kernel_rfl) hc2, ?_⟩
    intro b5 H5 hn5
    have z3 := f3.size
    have z4 := f4.size
    have z5 := hn5.size
    refine ap_grow slice35 elem62 ((h1.keep f4).keep hn5.fr) (sl_one encSr ((z.1 : Int), a5, n5, c5) hn5 rfl) (by omega) (by omega) fun q' m' d' H6 h6 f6 g6 => ?_
    have ei : IntKind.wrap .i64 (((ss.length : Nat) : Int) + 1) = ((ss.length + 1 : Nat) : Int) := succ64 (by omega)
    rw [ei]
    have hmu : zs.length - ((ss.length + 1 : Nat) : Int).toNat < zs.length - ((ss.length : Nat) : Int).toNat := by omega
    have i1 : ∀ k ∈ blkL q, k < H3.size := fun k hk => (h1.ge k hk).2
    refine ⟨⟨hs' ++ [((z.1 : Int), a5, n5, c5)], ss ++ [((z.1 : Int), L)], by simp, by simp; omega, h6, All2.app (SerH.fr ((h2.keep f4).keep hn5.fr) f6 h4) (.cons ⟨rfl, ?_⟩ .nil), fun j x hx => ?_, fun x hx k hk hk2 => ?_, ((f3.keep0 f4).keep0 hn5.fr).keep f6 fun k hk => (h1.ge k hk).1⟩, hmu⟩
    · exact (o4.sl.keep hn5.fr).fr f6 (blk_of_ne fun k kk hk => by have := i1 k hk; have := (o4.ge k kk).1; omega)
    · rcases Nat.lt_or_ge j ss.length with h | h
      · rw [List.getElem?_append_left h] at hx
        exact h3 j x hx
      · rw [List.getElem?_append_right h] at hx
        have h0 : j - ss.length = 0 := by
          rcases Nat.eq_zero_or_pos (j - ss.length) with h' | h'
          · exact h'
          · rw [List.getElem?_eq_none (by simp; omega)] at hx; cases hx
        rw [h0] at hx
        simp at hx
        subst hx
        have : j = ss.length := by omega
        subst this
        exact ⟨⟨z, hz, rfl⟩, hne, hP, hL⟩
    · rcases List.mem_append.1 hx with h | h
      · rcases g6 k hk2 with h5 | h5
        · exact h4 x h k hk h5
        · obtain ⟨y, hy, hr⟩ := h2.mem h
          obtain ⟨j, hj⟩ := List.mem_iff_getElem?.1 hy
          have := sl_lt hr.2 (h3 j y hj).2.1 k hk
          omega
      · simp at h; subst h
        have h9 := o4.ge k hk
        rcases g6 k hk2 with h5 | h5
        · have := i1 k h5; omega
        · omega
  · have hle : ss.length = zs.length := by simp at hge; omega
    obtain ⟨hM, hE⟩ := GotM.maj h3 hT hle
    refine r15Encode_ok h1.sl h2 hM.right (by omega) (fun x hx => by have := (hM.lo x hx).2.len; omega) (fun x hx y hy => (hM.lo x hx).2.v y hy) (fun hn => (hn hM).elim) fun _ H' hf => brB_of (fun h => by cases h) fun _ => ?_
    rw [sized (s := ⟨(encM ss).toArray⟩) (t := s) (bl_inj (by rw [bl_mk, hE]))]
    exact ⟨_, _, _, _, rfl, hyes ss hs' _ _ _ _ hM hE (h1.sl.keep hf) (h2.keep hf) ((f1.keep0 f3).keep0 hf)⟩

theorem Split_ok {H : Heap} {a : Option Addr} {n c : Nat} {rows : List Rw} {K : Option Addr → Nat → Nat → Heap → Prop} (hx : Sl encRw H a n c rows) (hn : n ≤ 1000000)
    (hk : ∀ a' n' c' H' hs', Sl encSr H' a' n' c' hs' → SerH H' hs' (putR [] rows) → Fr [] H H' → K a' n' c' H') :
    CallH Tryz.prog fn_series_Split ⟨[.slice a n c]⟩ H fun v H' => ∃ a n c, v = .slice a n c ∧ K a n c H' := by
  apply vc_series_Split
  exact Put_ok Sl.zero .nil RightS.nil hx (by omega) hn (fun s h => by cases h) fun a' n' c' H' hs' h1 h2 _ hf => ⟨_, _, _, rfl, hk _ _ _ _ _ h1.sl h2 hf⟩
theorem rSplit_ok {H : Heap} {a : Option Addr} {n c : Nat} {rows : List Rw} {K : Option Addr → Nat → Nat → Heap → Prop} (hx : Sl encRw H a n c rows) (hn : n ≤ 1000000)
    (hk : ∀ a' n' c' H' hs', Sl encSr H' a' n' c' hs' → SerH H' hs' (putR [] rows) → Fr [] H H' → K a' n' c' H') :
    CallH Tryz.prog fn_ref13_Split ⟨[.slice a n c]⟩ H fun v H' => ∃ a n c, v = .slice a n c ∧ K a n c H' := by
  apply vc_ref13_Split
  exact rPut_ok Sl.zero .nil RightS.nil hx (by omega) hn (fun s h => by cases h) fun a' n' c' H' hs' h1 h2 hf => ⟨_, _, _, rfl, hk _ _ _ _ _ h1 h2 hf⟩
theorem MajP.small {ss : List Srs} (h : MajP ss) : ∀ s ∈ ss, s.2.length ≤ 10000 := fun s hs => by have := (h.lo s hs).2.len; omega
theorem RowsOf.no {rows : List Rw} (h : RowsOf [] rows) : rows = [] := h.eq RowsOf.nil
theorem Read_ok {lay : Int} {s : ByteArray} {H : Heap} {K : Option Addr → Nat → Nat → Int → Heap → Prop} (hs : s.size ≤ 1000000000)
    (hk : ∀ rows a n c e H', ReadR lay s rows e → Sl encRw H' a n c rows → n ≤ 2000000 → Fr [] H H' → K a n c e H') :
    CallH Tryz.prog fn_convert_Read ⟨[.int .i64 lay, .string s]⟩ H fun v H' => ∃ a n c e, v = .tuple ⟨[.slice a n c, .int .i64 e]⟩ ∧ K a n c e H' := by
  apply vc_convert_Read
  refine brB_of (fun h => ?_) fun h => brB_of (fun h1 => ?_) fun h1 => ?_
  · have h0 : lay = 0 := by simpa using h
    refine majDecode_ok hs (fun hno H1 f1 => ?_) fun ss hs' a n c H1 hM hb hx hS f1 => ?_
    · refine Rows_ok (hs := []) (ss := []) Sl.zero .nil RightS.nil (by omega) (fun s h => by cases h) fun a' n' c' H2 rows o2 hro hn f2 => ⟨_, _, _, _, rfl, hk rows _ _ _ _ _ (.inr ⟨hro.no, .inl ⟨h0, rfl, hno⟩⟩) o2.sl (by omega) (f1.keep0 f2)⟩
    · have hl := hM.len
      have hnl : n = ss.length := hx.len.trans hS.len
      refine Rows_ok hx hS hM.right (by omega) hM.small fun a' n' c' H2 rows o2 hro hn f2 => ⟨_, _, _, _, rfl, hk rows _ _ _ _ _ (.inl ⟨rfl, .inl ⟨h0, ss, hM, hb, hro⟩⟩) o2.sl (by omega) (f1.keep0 f2)⟩
  · have h1 : lay = 1 := by simpa using h1
    refine runsDecode_ok hs (fun hno H1 f1 => ⟨_, _, _, _, rfl, hk [] _ _ _ _ _ (.inr ⟨rfl, .inr (.inl ⟨h1, rfl, hno⟩)⟩) Sl.zero (by omega) f1⟩) fun L a n c H1 hP hb o1 f1 => ⟨_, _, _, _, rfl, hk L _ _ _ _ _ (.inl ⟨rfl, .inr ⟨h1, hP, hb⟩⟩) o1.sl (by have := hP.len; have := o1.1; omega) f1⟩
  · exact ⟨_, _, _, _, rfl, hk [] _ _ _ _ _ (.inr ⟨rfl, .inr (.inr ⟨by simpa using h, by simpa using h1, rfl⟩)⟩) Sl.zero (by omega) (Fr.refl _ _)⟩
theorem rRead19_ok {lay : Int} {s : ByteArray} {H : Heap} {K : Option Addr → Nat → Nat → Int → Heap → Prop} (hs : s.size ≤ 1000000000)
    (hk : ∀ rows a n c e H', ReadR lay s rows e → Sl encRw H' a n c rows → n ≤ 2000000 → Fr [] H H' → K a n c e H') :
    CallH Tryz.prog fn_ref19_Read ⟨[.int .i64 lay, .string s]⟩ H fun v H' => ∃ a n c e, v = .tuple ⟨[.slice a n c, .int .i64 e]⟩ ∧ K a n c e H' := by
  apply vc_ref19_Read
  refine brB_of (fun h => ?_) fun h => brB_of (fun h1 => ?_) fun h1 => ?_
  · have h0 : lay = 0 := by simpa using h
    refine r15Decode_ok hs (fun hno H1 f1 => brB_of (fun _ => ⟨_, _, _, _, rfl, hk [] _ _ _ _ _ (.inr ⟨rfl, .inl ⟨h0, rfl, hno⟩⟩) Sl.zero (by omega) f1⟩) fun h => by cases h) fun ss hs' a n c H1 hM hb hx hS f1 => brB_of (fun h => by cases h) fun _ => ?_
    have hl := hM.len
    have hnl : n = ss.length := hx.len.trans hS.len
    refine rRows_ok hx hS hM.right (by omega) hM.small fun a' n' c' H2 rows o2 hro hn f2 => ⟨_, _, _, _, rfl, hk rows _ _ _ _ _ (.inl ⟨rfl, .inl ⟨h0, ss, hM, hb, hro⟩⟩) o2 (by omega) (f1.keep0 f2)⟩
  · have h1 : lay = 1 := by simpa using h1
    refine r16Decode_ok hs (fun hno H1 f1 => ⟨_, _, _, _, rfl, hk [] _ _ _ _ _ (.inr ⟨rfl, .inr (.inl ⟨h1, rfl, hno⟩)⟩) Sl.zero (by omega) f1⟩) fun L a n c H1 hP hb o1 f1 => ⟨_, _, _, _, rfl, hk L _ _ _ _ _ (.inl ⟨rfl, .inr ⟨h1, hP, hb⟩⟩) o1.sl (by have := hP.len; have := o1.1; omega) f1⟩
  · exact ⟨_, _, _, _, rfl, hk [] _ _ _ _ _ (.inr ⟨rfl, .inr (.inr ⟨by simpa using h, by simpa using h1, rfl⟩)⟩) Sl.zero (by omega) (Fr.refl _ _)⟩
open Classical in
theorem writeF0 {rows : List Rw} (hF : FineR rows) (hM : MajP (putR [] rows)) : writeF 0 rows = (⟨(encM (putR [] rows)).toArray⟩, 0) := by unfold writeF; rw [if_pos rfl, if_pos ⟨hF, hM⟩]
open Classical in
theorem writeF0' {rows : List Rw} (h : ¬ (FineR rows ∧ MajP (putR [] rows))) : writeF 0 rows = (⟨#[]⟩, 30) := by unfold writeF; rw [if_pos rfl, if_neg h]
open Classical in
theorem writeF1 {rows : List Rw} (h : RowsP rows) : writeF 1 rows = (⟨(encR rows).toArray⟩, 0) := by unfold writeF; rw [if_neg (by decide), if_pos rfl, if_pos h]
open Classical in
theorem writeF1' {rows : List Rw} (h : ¬ RowsP rows) : writeF 1 rows = (⟨#[]⟩, 30) := by unfold writeF; rw [if_neg (by decide), if_pos rfl, if_neg h]
open Classical in
theorem writeF2 {lay : Int} {rows : List Rw} (h0 : lay ≠ 0) (h1 : lay ≠ 1) : writeF lay rows = (⟨#[]⟩, 1) := by unfold writeF; rw [if_neg h0, if_neg h1]
theorem Write_ok {lay : Int} {H : Heap} {a : Option Addr} {n c : Nat} {rows : List Rw} {K : ByteArray → Int → Heap → Prop} (hx : Sl encRw H a n c rows) (hv : ∀ x ∈ rows, I64 x.2.2) (hn : n ≤ 1000000000) (h0n : lay = 0 → n ≤ 1000000)
    (hk : ∀ H', Fr [] H H' → K (writeF lay rows).1 (writeF lay rows).2 H') :
    CallH Tryz.prog fn_convert_Write ⟨[.int .i64 lay, .slice a n c]⟩ H fun v H' => ∃ s e, v = .tuple ⟨[.string s, .int .i64 e]⟩ ∧ K s e H' := by
  apply vc_convert_Write
  refine ⟨fun vs H' => ∃ b : Bool, vs = [.bool b] ∧ (b = true ↔ lay = 0 ∧ ¬ FineR rows) ∧ Fr [] H H', ?_, ?_⟩
  · refine brB_of (fun h => ?_) fun h => ⟨false, rfl, by simp at h; simp [h], Fr.refl _ _⟩
    have h0 : lay = 0 := by simpa using h
    refine cright_ok hx hn fun b H1 hb f1 => ⟨!b, rfl, ?_, f1⟩
    rw [← hb]; simp [h0]
  · rintro J b H1 ⟨b', hvs, hb, f1⟩
    cases hvs
    have hx1 := hx.keep f1
    have hl := hx.len
    refine brB_of (fun h => ?_) fun h => brB_of (fun h0 => ?_) fun h0 => brB_of (fun h1 => ?_) fun h1 => ?_
    · obtain ⟨rfl, hF⟩ := hb.1 h
      have := hk H1 f1
      rw [writeF0' fun hh => hF hh.1] at this
      exact ⟨_, _, rfl, this⟩
    · have h0 : lay = 0 := by simpa using h0
      subst h0
      have hn0 := h0n rfl
      have hF : FineR rows := Classical.byContradiction fun hh => by rw [hb.2 ⟨rfl, hh⟩] at h; cases h
      have hbd := putR_bound rows
      refine Split_ok hx1 hn0 fun a' n' c' H2 hs' hx2 hS2 f2 => ?_
      have hnl := hx2.len
      have hsl := hS2.len
      refine majEncode_ok hx2 hS2 (right_putR RightS.nil).1 (by omega) (fun s hs => by have := hbd.2 s hs; omega) (putR_I64 hF hv) (fun hM H3 f3 => ?_) fun hM H3 f3 => ?_
      · have := hk H3 ((f1.keep0 f2).keep0 f3)
        rw [writeF0' fun hh => hM hh.2] at this
        exact ⟨_, _, rfl, this⟩
      · have := hk H3 ((f1.keep0 f2).keep0 f3)
        rw [writeF0 hF hM] at this
        exact ⟨_, _, rfl, this⟩
    · have h1 : lay = 1 := by simpa using h1
      subst h1
      refine runsEncode_ok hx1 hv hn (fun hM H3 f3 => ?_) fun hM H3 f3 => ?_
      · have := hk H3 (f1.keep0 f3)
        rw [writeF1' hM] at this
        exact ⟨_, _, rfl, this⟩
      · have := hk H3 (f1.keep0 f3)
        rw [writeF1 hM] at this
        exact ⟨_, _, rfl, this⟩
    · have := hk H1 f1
      rw [writeF2 (by simpa using h0) (by simpa using h1)] at this
      exact ⟨_, _, rfl, this⟩
theorem rWrite19_ok {lay : Int} {H : Heap} {a : Option Addr} {n c : Nat} {rows : List Rw} {K : ByteArray → Int → Heap → Prop} (hx : Sl encRw H a n c rows) (hv : ∀ x ∈ rows, I64 x.2.2) (hn : n ≤ 1000000000) (h0n : lay = 0 → n ≤ 1000000)
    (hk : ∀ H', Fr [] H H' → K (writeF lay rows).1 (writeF lay rows).2 H') :
    CallH Tryz.prog fn_ref19_Write ⟨[.int .i64 lay, .slice a n c]⟩ H fun v H' => ∃ s e, v = .tuple ⟨[.string s, .int .i64 e]⟩ ∧ K s e H' := by
  apply vc_ref19_Write
  refine brB_of (fun h0 => ?_) fun h0 => brB_of (fun h1 => ?_) fun h1 => ?_
  · have h0 : lay = 0 := by simpa using h0
    subst h0
    have hn0 := h0n rfl
    refine rFine_ok hx hn fun b H1 hb f1 => brB_of (fun h => ?_) fun h => ?_
    · have hF : ¬ FineR rows := fun hh => by rw [hb.2 hh] at h; cases h
      have := hk H1 f1
      rw [writeF0' fun hh => hF hh.1] at this
      exact ⟨_, _, rfl, this⟩
    · have hF : FineR rows := hb.1 (by simpa using h)
      have hbd := putR_bound rows
      have hl := hx.len
      refine rSplit_ok (hx.keep f1) hn0 fun a' n' c' H2 hs' hx2 hS2 f2 => ?_
      have hnl := hx2.len
      have hsl := hS2.len
      refine r15Encode_ok hx2 hS2 (right_putR RightS.nil).1 (by omega) (fun s hs => by have := hbd.2 s hs; omega) (putR_I64 hF hv) (fun hM H3 f3 => ?_) fun hM H3 f3 => ?_
      · have := hk H3 ((f1.keep0 f2).keep0 f3)
        rw [writeF0' fun hh => hM hh.2] at this
        exact ⟨_, _, rfl, this⟩
      · have := hk H3 ((f1.keep0 f2).keep0 f3)
        rw [writeF0 hF hM] at this
        exact ⟨_, _, rfl, this⟩
  · have h1 : lay = 1 := by simpa using h1
    subst h1
    refine r16Encode_ok hx hv hn (fun hM H3 f3 => ?_) fun hM H3 f3 => ?_
    · have := hk H3 f3
      rw [writeF1' hM] at this
      exact ⟨_, _, rfl, this⟩
    · have := hk H3 f3
      rw [writeF1 hM] at this
      exact ⟨_, _, rfl, this⟩
  · have := hk H (Fr.refl _ _)
    rw [writeF2 (by simpa using h0) (by simpa using h1)] at this
    exact ⟨_, _, rfl, this⟩

theorem rowsOf_ex {ss : List Srs} (h : RightS ss) : ∃ rows, RowsOf ss rows := by
  have key : ∀ k, k ≤ ss.length → ∃ rows, RowsOf (ss.take k) rows := by
    intro k
    induction k with
    | zero => exact fun _ => ⟨[], RowsOf.nil⟩
    | succ k ih =>
      intro hk
      obtain ⟨rows, hr⟩ := ih (by omega)
      exact ⟨_, RowsOf.step h (List.getElem?_eq_getElem hk) hr⟩
  obtain ⟨rows, hr⟩ := key ss.length (Nat.le_refl _)
  rw [List.take_length] at hr
  exact ⟨rows, hr⟩
theorem nC64 {n : Nat} (h : n ≤ 1000000000) : IntKind.i64.wrap (Int.tdiv (IntKind.i64.wrap ((n : Int) + 15)) 16) = ((nC n : Nat) : Int) := by
  rw [wrap64_of (n := (n : Int) + 15) (by omega) (by omega), Int.tdiv_eq_ediv_of_nonneg (by omega)]
  unfold nC
  rw [wrap64_of (by omega) (by omega)]
  omega
def EachI (H : Heap) (v : Value) (us : List (List Rw)) : Prop :=
  (∃ b a n c hs ss, v = .func (.func 52) ⟨[]⟩ ⟨[.pointer (some ⟨b, 0, none⟩)]⟩ ∧ Blk H ⟨b, 0, none⟩ [.slice a n c] ∧ Sl encSr H a n c hs ∧ SerH H hs ss ∧ MajP ss ∧ us = ss.map ownR) ∨
  (∃ b b1 a n c rows, v = .func (.func 53) ⟨[]⟩ ⟨[.pointer (some ⟨b1, 0, none⟩), .pointer (some ⟨b, 0, none⟩)]⟩ ∧ Blk H ⟨b, 0, none⟩ [.slice a n c] ∧ Blk H ⟨b1, 0, none⟩ [.int .i64 ((nC rows.length : Nat) : Int)] ∧ Sl encRw H a n c rows ∧ RowsP rows ∧ us = chsR rows)
theorem units_ok {lay : Int} {s : ByteArray} {H : Heap} {K : Int → Value → Int → Heap → Prop} (hs : s.size ≤ 1000000000)
    (hno : ∀ e v H', e ≠ 0 → UnitsR lay s 0 e → Fr [] H H' → K 0 v e H')
    (hyes : ∀ us rows v H', UnitsU lay s us rows → EachI H' v us → Fr [] H H' → K us.length v 0 H') :
    CallH Tryz.prog fn_convert_units ⟨[.int .i64 lay, .string s]⟩ H fun v H' => ∃ n f e, v = .tuple ⟨[.int .i64 n, f, .int .i64 e]⟩ ∧ K n f e H' := by
  apply vc_convert_units
  refine brB_of (fun h => ?_) fun h => brB_of (fun h1 => ?_) fun h1 => ?_
  · have h0 : lay = 0 := by simpa using h
    refine majDecode_ok hs (fun hn H1 f1 => ?_) fun ss hs' a n c H1 hM hb hx hS f1 => ?_
    · refine var_blk (v := .slice none 0 0) (by kernel_rfl) (by kernel_rfl) one_slice rfl fun b H2 hbl hB f2 => ⟨_, _, _, hB.ld0 (by kernel_rfl) rfl, ?_⟩
      exact ⟨_, _, _, rfl, hno 11 _ _ (by decide) (.inr ⟨rfl, .inl ⟨h0, rfl, hn⟩⟩) (f1.keep0 f2)⟩
    · refine var_blk (v := .slice a n c) (by kernel_rfl) (by kernel_rfl) one_slice rfl fun b H2 hbl hB f2 => ⟨_, _, _, hB.ld0 (by kernel_rfl) rfl, ?_⟩
      obtain ⟨rows, hr⟩ := rowsOf_ex hM.right
      have := hyes (ss.map ownR) rows (.func (.func 52) ⟨[]⟩ ⟨[.pointer (some ⟨b, 0, none⟩)]⟩) H2 (.inl ⟨h0, ss, hM, hb, hr, rfl⟩) (.inl ⟨b, a, n, c, hs', ss, rfl, hB, hx.keep f2, hS.keep f2, hM, rfl⟩) (f1.keep0 f2)
      have hnl : n = (ss.map ownR).length := by rw [List.length_map]; exact hx.len.trans hS.len
      rw [← hnl] at this
      exact ⟨_, _, _, rfl, this⟩
  · have h1 : lay = 1 := by simpa using h1
    refine runsDecode_ok hs (fun hn H1 f1 => ?_) fun L a n c H1 hP hb o1 f1 => ?_
    · refine var_blk (v := .slice none 0 0) (by kernel_rfl) (by kernel_rfl) one_slice rfl fun b H2 hbl hB f2 => ⟨_, _, _, hB.ld0 (by kernel_rfl) rfl, ?_⟩
      refine var_blk (v := .int .i64 _) (by kernel_rfl) (by kernel_rfl) (fun x hx => by simp [Value.cells] at hx; subst hx; rfl) rfl fun b1 H3 hbl1 hB1 f3 => ⟨_, hB1.ld0 (by kernel_rfl) rfl, ?_⟩
      exact ⟨_, _, _, rfl, hno 11 _ _ (by decide) (.inr ⟨rfl, .inr (.inl ⟨h1, rfl, hn⟩)⟩) ((f1.keep0 f2).keep0 f3)⟩
    · refine var_blk (v := .slice a n c) (by kernel_rfl) (by kernel_rfl) one_slice rfl fun b H2 hbl hB f2 => ⟨_, _, _, hB.ld0 (by kernel_rfl) rfl, ?_⟩
      have hl := hP.len
      have hn := o1.1
      rw [nC64 (by omega)]
      refine var_blk (v := .int .i64 _) (by kernel_rfl) (by kernel_rfl) (fun x hx => by simp [Value.cells] at hx; subst hx; rfl) rfl fun b1 H3 hbl1 hB1 f3 => ⟨_, hB1.ld0 (by kernel_rfl) rfl, ?_⟩
      subst hn
      have := hyes (chsR L) L (.func (.func 53) ⟨[]⟩ ⟨[.pointer (some ⟨b1, 0, none⟩), .pointer (some ⟨b, 0, none⟩)]⟩) H3 (.inr ⟨h1, hP, hb, rfl⟩) (.inr ⟨b, b1, a, _, c, L, rfl, hB.keep f3, hB1, (o1.sl.keep f2).keep f3, hP, rfl⟩) ((f1.keep0 f2).keep0 f3)
      rw [chsR_len] at this
      exact ⟨_, _, _, rfl, this⟩
  · exact ⟨_, _, _, rfl, hno 1 _ _ (by decide) (.inr ⟨rfl, .inr (.inr ⟨by simpa using h, by simpa using h1, rfl⟩)⟩) (Fr.refl _ _)⟩
theorem Units_ok {lay : Int} {s : ByteArray} {H : Heap} {K : Int → Int → Heap → Prop} (hs : s.size ≤ 1000000000) (hk : ∀ n e H', UnitsR lay s n e → Fr [] H H' → K n e H') :
    CallH Tryz.prog fn_convert_Units ⟨[.int .i64 lay, .string s]⟩ H fun v H' => ∃ n e, v = .tuple ⟨[.int .i64 n, .int .i64 e]⟩ ∧ K n e H' := by
  apply vc_convert_Units
  exact units_ok hs (fun e v H' he hU hf => ⟨_, _, rfl, hk _ _ _ hU hf⟩) fun us rows v H' hU _ hf => ⟨_, _, rfl, hk _ _ _ (.inl ⟨rfl, us, rows, hU, rfl⟩) hf⟩
theorem rUnits_ok {lay : Int} {s : ByteArray} {H : Heap} {K : Int → Int → Heap → Prop} (hs : s.size ≤ 1000000000) (hk : ∀ n e H', UnitsR lay s n e → Fr [] H H' → K n e H') :
    CallH Tryz.prog fn_ref19_Units ⟨[.int .i64 lay, .string s]⟩ H fun v H' => ∃ n e, v = .tuple ⟨[.int .i64 n, .int .i64 e]⟩ ∧ K n e H' := by
  apply vc_ref19_Units
  refine rRead19_ok hs fun rows a n c e H1 hR hx hn f1 => ?_
  rcases hR with ⟨rfl, hR⟩ | ⟨rfl, hR⟩
  · refine brB_of (fun h => by cases h) fun _ => ?_
    rcases hR with ⟨h0, ss, hM, hb, hr⟩ | ⟨h1, hP, hb⟩
    · refine brB_of (fun _ => ?_) fun h => by simp [h0] at h
      refine rIDs_ok hs (fun hno => absurd (hM.tab hb) (hno _)) fun zs a n c H2 hT hnz f2 => ⟨_, _, rfl, hk _ _ _ (.inl ⟨rfl, ss.map ownR, rows, .inl ⟨h0, ss, hM, hb, hr, rfl⟩, ?_⟩) (f1.keep0 f2)⟩
      rw [hnz, hT.uniq (hM.tab hb)]
      simp [zsM]
    · refine brB_of (fun h => by simp [h1] at h) fun _ => ?_
      refine blocks_ok hs (fun hno => absurd hb (hno _ hP)) fun a n c H2 f2 hnC => ⟨_, _, rfl, hk _ _ _ (.inl ⟨rfl, chsR rows, rows, .inr ⟨h1, hP, hb, rfl⟩, ?_⟩) (f1.keep0 f2)⟩
      rw [hnC rows hP hb, chsR_len]
  · have he : e ≠ 0 := by rcases hR with ⟨_, h, _⟩ | ⟨_, h, _⟩ | ⟨_, _, h⟩ <;> omega
    exact brB_of (fun _ => ⟨_, _, rfl, hk _ _ _ (.inr ⟨rfl, hR⟩) f1⟩) fun h => by simp at h; exact absurd h he

def encHd : Enc Hd := ⟨fun x => [.slice x.1 x.2.1 x.2.2], 1, fun _ => rfl, by decide, fun _ v h => by simp at h; subst h; rfl⟩
theorem elem22 : elemB Tryz.prog 22 1 24 = true := by kernel_rfl
theorem slice73 : sliceB Tryz.prog 73 22 = true := by kernel_rfl
def ChU (H : Heap) (m : Hd) (u : List Rw) : Prop := Sl encRw H m.1 m.2.1 m.2.2 u
structure BegI (us : List (List Rw)) (l D b : Nat) (R0 : Loop) (H0 : Heap) (i : Nat) (S : List Nat) (H : Heap) : Prop where
  fr : Fr [] H0 H
  lp : Lp H l R0 .ready none
  dq : Dq H D
  it : ∃ a n c hd, Blk H ⟨b, 0, none⟩ [.slice a n c] ∧ Own encHd 22 H0.size H a n c hd ∧ All2 (ChU H) hd (us.take i) ∧ S = b :: l :: D :: blkL a ∧ S.Nodup ∧ (∀ m ∈ hd, ∀ k ∈ blkL m.1, k ∉ S ∧ k < H.size)
  lo : ∀ k ∈ S, H0.size ≤ k ∧ k < H.size
theorem BegI.keep {us : List (List Rw)} {l D b : Nat} {R0 : Loop} {H0 H H' : Heap} {i : Nat} {S : List Nat} (h : BegI us l D b R0 H0 i S H) (hf : Fr [] H H') : BegI us l D b R0 H0 i S H' := by
  obtain ⟨h1, h2, h3, ⟨a, n, c, hd, q1, q2, q3, q4, q5, q6⟩, h5⟩ := h
  have sz := hf.size
  exact ⟨h1.keep0 hf, h2.fr hf (by simp), h3.fr hf (by simp), ⟨a, n, c, hd, q1.keep hf, q2.keep hf, q3.mono fun m u _ _ hr => Sl.keep hr hf, q4, q5, fun m hm k hk => ⟨(q6 m hm k hk).1, by have := (q6 m hm k hk).2; omega⟩⟩, fun k hk => ⟨(h5 k hk).1, by have := (h5 k hk).2; omega⟩⟩
theorem cut_ch {rows : List Rw} {j n : Nat} (hn : n = rows.length) (hj : j < nC n) : (rows.take (min (16 * j + 16) n)).drop (16 * j) = chR rows j := by
  unfold chR
  rw [List.drop_take]
  have hl : (rows.drop (16 * j)).length = n - 16 * j := by rw [List.length_drop, hn]
  by_cases h : 16 * j + 16 ≤ n
  · rw [Nat.min_eq_left h, show 16 * j + 16 - 16 * j = 16 by omega]
  · rw [Nat.min_eq_right (by omega), List.take_of_length_le (by omega), List.take_of_length_le (by omega)]
theorem each_ok {us : List (List Rw)} {l D b : Nat} {R0 : Loop} {H0 H : Heap} {S : List Nat} {v : Value} {K : Heap → Prop} (hE : EachI H0 v us) (h0 : BegI us l D b R0 H0 0 S H)
    (step : ∀ i S H1 u a n c, us[i]? = some u → BegI us l D b R0 H0 i S H1 → Sl encRw H1 a n c u → u ≠ [] → (∀ k ∈ blkL a, k ∉ S) → YieldH Tryz.prog l [.slice a n c] H1 fun v H2 => v = .bool true ∧ ∃ S2, BegI us l D b R0 H0 (i + 1) S2 H2)
    (fin : ∀ S1 H1, BegI us l D b R0 H0 us.length S1 H1 → K H1) :
    CallV Tryz.prog v [.func (.yield l) ⟨[]⟩ ⟨[]⟩] H fun x H' => K H' := by
  rcases hE with ⟨b1, a, n, c, hs, ss, rfl, hB, hx, hS, hM, rfl⟩ | ⟨b1, b2, a, n, c, rows, rfl, hB, hB2, hx, hP, rfl⟩
  · refine ⟨52, ⟨[]⟩, _, rfl, by kernel_rfl, ?_⟩
    apply vc_convert_units_1
    have hn : n = ss.length := hx.len.trans hS.len
    have hl := hM.len
    refine ⟨_, _, _, (hB.keep h0.fr).ld0 (by kernel_rfl) rfl, ?_⟩
    refine ⟨fun vs H' => match vs with | [.int _ i] => ∃ (j : Nat) (S2 : List Nat), i = j ∧ j ≤ n ∧ BegI (ss.map ownR) l D b R0 H0 j S2 H' | _ => False, fun vs _ => match vs with | [.int _ i] => n - i.toNat | _ => 0,
      ⟨0, S, rfl, by omega, h0⟩, ?_⟩
    rintro J i H1 ⟨j, S2, rfl, hj, hI⟩
    refine brB_of (fun hlt => ?_) (fun hge => ?_)
    · have hlt : j < n := by simp at hlt; omega
      obtain ⟨s, hs0⟩ := getElem_ex (l := ss) (i := j) (by omega)
      obtain ⟨y, hy0, hyr⟩ := All2.get' (hS.keep hI.fr) hs0
      have hsm := List.mem_of_getElem? hs0
      have hu : (ss.map ownR)[j]? = some (ownR s) := by rw [List.getElem?_map, hs0]; rfl
      have hne : ownR s ≠ [] := fun e => (hM.right.2 s hsm).1 (by unfold ownR at e; exact List.map_eq_nil_iff.1 e)
      refine (hx.keep hI.fr).get rfl hy0 (decide_eq_true (by omega)) fun ad ea hc => ⟨_, _, _, _, ldSr hc, ?_⟩
      refine var_blk (v := vSr y) (by kernel_rfl) (by kernel_rfl) (by simp [Value.cells, Value.oneCell']) rfl fun b3 H2 hb3 hB3 hf2 => ?_
      have hB3 : Blk H2 ⟨b3, 0, none⟩ (encSr.cells y) := hB3
      refine ⟨_, _, _, _, hB3.ldA0 (us := encSr.cells y) (by kernel_rfl) (by kernel_rfl) rfl, ?_⟩
      intro b4 H3 hn3
      have f13 := hf2.keep0 hn3.fr
      refine Rows_ok (ss := [s]) (sl_one encSr y hn3 rfl) (.cons ⟨hyr.1, hyr.2.keep f13⟩ .nil) ⟨List.pairwise_singleton _ _, fun x hx => by simp at hx; subst hx; exact hM.right.2 _ hsm⟩ (by omega) (fun x hx => by simp at hx; subst hx; exact hM.small _ hsm) fun a5 n5 c5 H4 rows o4 hro hn4 f4 => ?_
      have hrows : rows = ownR s := hro.eq ⟨ownR_fine (hM.right.2 s hsm).2, fun x => by simp⟩
      subst hrows
      have f14 := f13.keep0 f4
      refine .inr ⟨l, rfl, (step j S2 H4 _ _ _ _ hu (hI.keep f14) o4.sl hne fun k hk hk2 => ?_).mono fun v H5 => ?_⟩
      · have := (o4.ge k hk).1
        have := (hI.lo k hk2).2
        have := f13.size
        omega
      · rintro ⟨rfl, S3, hI3⟩
        rw [succ64 (by omega)]
        have hmu : n - ((j + 1 : Nat) : Int).toNat < n - ((j : Nat) : Int).toNat := by omega
        exact ⟨true, rfl, brB_of (fun h => by simp at h) fun _ => ⟨⟨j + 1, S3, rfl, by omega, hI3⟩, hmu⟩⟩
    · have : j = n := by simp at hge; omega
      subst this
      exact fin S2 H1 (by rw [List.length_map, ← hn]; exact hI)
  · refine ⟨53, ⟨[]⟩, _, rfl, by kernel_rfl, ?_⟩
    apply vc_convert_units_2
    have hn : n = rows.length := hx.len
    have hl := hP.len
    refine ⟨_, (hB2.keep h0.fr).ld0 (by kernel_rfl) rfl, ?_⟩
    have hnc := nC_le hl
    refine ⟨fun vs H' => match vs with | [.int _ i] => ∃ (j : Nat) (S2 : List Nat), i = j ∧ j ≤ nC rows.length ∧ BegI (chsR rows) l D b R0 H0 j S2 H' | _ => False, fun vs _ => match vs with | [.int _ i] => nC rows.length - i.toNat | _ => 0,
      ⟨0, S, rfl, by omega, h0⟩, ?_⟩
    rintro J i H1 ⟨j, S2, rfl, hj, hI⟩
    refine brB_of (fun hlt => ?_) (fun hge => ?_)
    · have hlt : j < nC rows.length := by simp at hlt; omega
      have hcap := hx.cap
      have hjn : 16 * j < n := by unfold nC at hlt; omega
      have w1 : IntKind.i64.wrap (16 * (j : Int)) = ((16 * j : Nat) : Int) := by rw [wrap64_of (by omega) (by omega)]; omega
      have w2 : IntKind.i64.wrap (((16 * j : Nat) : Int) + 16) = ((16 * j + 16 : Nat) : Int) := by rw [wrap64_of (by omega) (by omega)]; omega
      refine ⟨_, _, _, (hB.keep hI.fr).ld0 (by kernel_rfl) rfl, _, _, _, (hB.keep hI.fr).ld0 (by kernel_rfl) rfl, ?_⟩
      rw [w1, w2]
      have w3 : (if (n : Int) < ((16 * j + 16 : Nat) : Int) then (n : Int) else ((16 * j + 16 : Nat) : Int)) = ((min (16 * j + 16) n : Nat) : Int) := by split <;> omega
      rw [w3]
      refine chk_true (decide_eq_true ⟨by omega, by omega, by omega⟩) ?_
      rw [Int.toNat_natCast, Int.toNat_natCast]
      have hcut := Sl.cut (hx.keep hI.fr) (k := 16 * j) (m := min (16 * j + 16) n) (by omega) (by omega)
      rw [cut_ch hn (by rw [hn]; exact hlt)] at hcut
      refine .inr ⟨l, rfl, (step j S2 H1 _ _ _ _ (chsR_get hlt) hI hcut (ch_ne (by omega)) fun k hk hk2 => ?_).mono fun v H5 => ?_⟩
      · have h1 := slA_blk hk
        have := sl_lt hx (fun e => by rw [e] at hn; simp at hn; omega) k h1
        have := (hI.lo k hk2).1
        omega
      · rintro ⟨rfl, S3, hI3⟩
        rw [succ64 (by omega)]
        have hmu : nC rows.length - ((j + 1 : Nat) : Int).toNat < nC rows.length - ((j : Nat) : Int).toNat := by omega
        exact ⟨true, rfl, brB_of (fun h => by simp at h) fun _ => ⟨⟨j + 1, S3, rfl, by omega, hI3⟩, hmu⟩⟩
    · have : j = nC rows.length := by simp at hge; omega
      subst this
      exact fin S2 H1 (by rw [chsR_len]; exact hI)
structure WorkI (H : Heap) (w b : Nat) (X : List Nat) (lay : Int) (us : List (List Rw)) (ss : List Srs) : Prop where
  ne : w ≠ b
  wX : w ∈ X ∧ b ∈ X
  lX : ∀ k ∈ X, k < H.size
  it : ∃ la ln lc hs al an ac hd, Blk H ⟨w, 0, none⟩ [.int .i64 lay, .int .i64 us.length, .func (.func 42) ⟨[]⟩ ⟨[.pointer (some ⟨b, 0, none⟩)]⟩, .slice la ln lc] ∧ Blk H ⟨b, 0, none⟩ [.slice al an ac] ∧
    Sl encSr H la ln lc hs ∧ SerH H hs ss ∧ (∀ k ∈ blkL la, k ∉ X ∧ k < H.size) ∧ (∀ m ∈ hs, ∀ k ∈ blkL m.2.1, k ∉ X ∧ k < H.size) ∧
    Sl encHd H al an ac hd ∧ All2 (ChU H) hd us ∧ (∀ k ∈ blkL al, k ∉ X ∧ k < H.size) ∧ (∀ m ∈ hd, ∀ k ∈ blkL m.1, k ∉ X ∧ k < H.size)
theorem WorkI.keep {H H' : Heap} {w b : Nat} {X : List Nat} {lay : Int} {us : List (List Rw)} {ss : List Srs} (h : WorkI H w b X lay us ss) (hf : Fr [] H H') : WorkI H' w b X lay us ss := by
  obtain ⟨h1, h2, h3, la, ln, lc, hs, al, an, ac, hd, q1, q2, q3, q4, q5, q6, q7, q8, q9, q10⟩ := h
  have sz := hf.size
  have up : ∀ {k : Nat}, k ∉ X ∧ k < H.size → k ∉ X ∧ k < H'.size := fun h => ⟨h.1, by omega⟩
  exact ⟨h1, h2, fun k hk => by have := h3 k hk; omega, la, ln, lc, hs, al, an, ac, hd, q1.keep hf, q2.keep hf, q3.keep hf, q4.keep hf, fun k hk => up (q5 k hk), fun m hm k hk => up (q6 m hm k hk), q7.keep hf, q8.mono fun m u _ _ hr => Sl.keep hr hf, fun k hk => up (q9 k hk), fun m hm k hk => up (q10 m hm k hk)⟩
theorem WorkI.more {H H' : Heap} {w b r : Nat} {X : List Nat} {lay : Int} {us : List (List Rw)} {ss : List Srs} (h : WorkI H w b X lay us ss) (hf : Fr [] H H') (h1 : H.size ≤ r) (h2 : r < H'.size) : WorkI H' w b (r :: X) lay us ss := by
  obtain ⟨g1, g2, g3, la, ln, lc, hs, al, an, ac, hd, q1, q2, q3, q4, q5, q6, q7, q8, q9, q10⟩ := h
  have sz := hf.size
  have up : ∀ {k : Nat}, k ∉ X ∧ k < H.size → k ∉ r :: X ∧ k < H'.size := fun {k} h => ⟨fun hk => by rcases List.mem_cons.1 hk with e | e; omega; exact h.1 e, by omega⟩
  exact ⟨g1, ⟨by simp [g2.1], by simp [g2.2]⟩, fun k hk => by rcases List.mem_cons.1 hk with e | e; omega; have := g3 k e; omega, la, ln, lc, hs, al, an, ac, hd, q1.keep hf, q2.keep hf, q3.keep hf, q4.keep hf, fun k hk => up (q5 k hk), fun m hm k hk => up (q6 m hm k hk), q7.keep hf, q8.mono fun m u _ _ hr => Sl.keep hr hf, fun k hk => up (q9 k hk), fun m hm k hk => up (q10 m hm k hk)⟩
theorem WorkI.fr {H H' : Heap} {w b : Nat} {X S : List Nat} {lay : Int} {us : List (List Rw)} {ss : List Srs} (h : WorkI H w b X lay us ss) (hf : Fr S H H') (hS : ∀ k ∈ S, k ∈ X ∧ k ≠ w ∧ k ≠ b) : WorkI H' w b X lay us ss := by
  obtain ⟨h1, h2, h3, la, ln, lc, hs, al, an, ac, hd, q1, q2, q3, q4, q5, q6, q7, q8, q9, q10⟩ := h
  have sz := hf.size
  have up : ∀ {k : Nat}, k ∉ X ∧ k < H.size → k ∉ X ∧ k < H'.size := fun h => ⟨h.1, by omega⟩
  have no : ∀ {p : Option Addr}, (∀ k ∈ blkL p, k ∉ X ∧ k < H.size) → ∀ ad, p = some ad → ad.block ∉ S := fun {p} h => blk_of_ne fun k kk hm => (h k kk).1 (hS k hm).1
  exact ⟨h1, h2, fun k hk => by have := h3 k hk; omega, la, ln, lc, hs, al, an, ac, hd, q1.fr hf fun hm => (hS w hm).2.1 rfl, q2.fr hf fun hm => (hS b hm).2.2 rfl, q3.fr hf (no q5), SerH.fr q4 hf fun m hm k hk hm2 => (q6 m hm k hk).1 (hS k hm2).1, fun k hk => up (q5 k hk), fun m hm k hk => up (q6 m hm k hk), q7.fr hf (no q9), q8.mono fun m u hm _ hr => Sl.fr hr hf (no (q10 m hm)), fun k hk => up (q9 k hk), fun m hm k hk => up (q10 m hm k hk)⟩
theorem Begin_ok {lay : Int} {s : ByteArray} {H : Heap} {K : Option Addr → Int → Heap → Prop} (hs : s.size ≤ 1000000000)
    (hno : ∀ e H', e ≠ 0 → UnitsR lay s 0 e → Fr [] H H' → K none e H')
    (hyes : ∀ us rows w b H', UnitsU lay s us rows → WorkI H' w b [w, b] lay us [] → H.size ≤ w → H.size ≤ b → Fr [] H H' → K (some ⟨w, 0, none⟩) 0 H') :
    CallH Tryz.prog fn_convert_Begin ⟨[.int .i64 lay, .string s]⟩ H fun v H' => ∃ p e, v = .tuple ⟨[.pointer p, .int .i64 e]⟩ ∧ K p e H' := by
  apply vc_convert_Begin
  refine units_ok hs (fun e v H1 he hU f1 => brB_of (fun _ => ⟨_, _, rfl, hno e H1 he hU f1⟩) fun h => absurd (by simpa using h) he) fun us rows v H1 hU hE f1 => brB_of (fun h => by cases h) fun _ => ?_
  have hbd := hU.bound.1
  intro b H2 hn2 D l R0 H3 hnl hY
  obtain ⟨f23, lp3, dq3, eD, el, z3⟩ := hnl.out
  have e2 := hn2.eq
  have z2 := hn2.size
  have s1 := f1.size
  have nd : (b :: l :: D :: blkL (none : Option Addr)).Nodup := by
    simp only [List.nodup_cons, List.mem_cons, blkL, List.not_mem_nil, or_false, not_or]
    refine ⟨⟨by omega, by omega⟩, by omega, by simp, List.nodup_nil⟩
  refine each_ok (l := l) (D := D) (b := b) (R0 := R0) (S := [b, l, D]) hE ?_ ?_ ?_
  · exact ⟨hn2.fr.keep0 f23, lp3, dq3, ⟨none, 0, 0, [], hn2.blk.keep f23, Own.nil .., .nil, rfl, nd, fun m hm => by cases hm⟩, fun k hk => by simp only [List.mem_cons, List.mem_nil_iff, or_false] at hk; omega⟩
  · rintro i S H9 u a n c hu ⟨h1, h2, h3, ⟨p, m, d, hd, q1, q2, q3, q4, q5, q6⟩, h5⟩ hx hne hk
    have fL := setLp_fr H9 l R0 .busy none
    have sL := setLp_size H9 l R0 .busy none
    have nd := q5
    rw [q4] at nd
    simp only [List.nodup_cons, List.mem_cons, not_or] at nd
    obtain ⟨⟨nbl, nbD, nbp⟩, ⟨nlD, nlp⟩, nDp, _⟩ := nd
    have inS : ∀ k ∈ [b, l, D], k ∈ S := fun k hk => by rw [q4]; exact List.mem_append_left (blkL p) hk
    have lpS : ∀ k ∈ blkL p, k ∈ S := fun k hk => by rw [q4]; simp [hk]
    have lS : l ∈ S := inS l (by simp)
    have hbL := q1.fr fL (by simpa using nbl)
    have hDL := h3.fr fL (by simpa using fun e => nlD e.symm)
    have lpL : Lp (setLp H9 l R0 .busy none) l R0 .busy none := setLp_get h2.lt
    refine hY a n c H9 (fun v H2 => v = .bool true ∧ ∃ S2, BegI us l D b R0 H1 (i + 1) S2 H2) h2 ⟨h2, p, m, d, hbL.ld0 (by kernel_rfl) rfl, fun b9 H10 hn10 => ?_⟩
    have qL := q2.fr fL (blk_of_ne fun k kk hm => nlp (by simp at hm; subst hm; exact kk))
    have o10 := qL.keep hn10.fr
    have z10 := hn10.size
    have s9 := h1.size
    have hil := (List.getElem?_eq_some_iff.1 hu).1
    have hml := q2.1
    have hq3 := q3.len
    rw [List.length_take] at hq3
    refine ap_grow slice73 elem22 o10 (sl_one encHd ((a, n, c) : Hd) hn10 rfl) (by omega) (by omega) fun q m2 d2 H11 o11 f11 g11 => ?_
    have hb11 := (hbL.keep hn10.fr).fr f11 nbp
    refine hb11.st0 (v := .slice q m2 d2) (by kernel_rfl) (by kernel_rfl) one_slice (by simp [Value.cells]) fun H12 hb12 f12 => ?_
    have lp12 : Lp H12 l R0 .busy none := ((lpL.fr hn10.fr (by simp)).fr f11 nlp).fr f12 (by simpa using fun e => nbl e.symm)
    have fE := setLp_fr H12 l R0 .ready none
    have sE := setLp_size H12 l R0 .ready none
    have z11 := f11.size
    have z12 := f12.size
    have hq : ∀ k ∈ blkL q, k ∈ blkL p ∨ H9.size < k := fun k hk => (g11 k hk).imp id fun h => by omega
    have hin : ∀ k ∈ S, k < H9.size := fun k hk => (h5 k hk).2
    have key : ∀ x ∈ [b, l, D], x ∉ blkL p → x ∉ blkL q := fun x hx hnp hxq => (hq x hxq).elim hnp fun h => by have := hin x (inS x hx); omega
    have ndq : (b :: l :: D :: blkL q).Nodup := by
      simp only [List.nodup_cons, List.mem_cons, not_or]
      exact ⟨⟨nbl, nbD, key b (by simp) nbp⟩, ⟨nlD, key l (by simp) nlp⟩, key D (by simp) nDp, blkL_nodup _⟩
    have F : Fr S H9 (setLp H12 l R0 .ready none) := (((fL.trans' hn10.fr (T := S) (fun k hk _ => by simp at hk; subst hk; exact lS) (by simp)).trans' f11 (fun k hk _ => hk) fun k hk _ => lpS k hk).trans' f12 (fun k hk _ => hk) fun k hk _ => by simp at hk; subst hk; exact inS _ (by simp)).trans' fE (fun k hk _ => hk) fun k hk _ => by simp at hk; subst hk; exact lS
    have hlt := sl_lt hx hne
    have dn : ∀ m ∈ hd ++ [((a, n, c) : Hd)], ∀ k ∈ blkL m.1, k ∉ S ∧ k < H9.size := fun m hm k hk2 => by
      rcases List.mem_append.1 hm with h | h
      · exact q6 m h k hk2
      · simp at h; subst h
        exact ⟨hk k hk2, hlt k hk2⟩
    refine ⟨lp12, rfl, b :: l :: D :: blkL q, h1.keep F fun k hk => (h5 k hk).1, setLp_get lp12.lt, ?_, ⟨q, m2, d2, hd ++ [((a, n, c) : Hd)], ?_, ?_, ?_, rfl, ndq, fun m hm k hk => ?_⟩, fun k hk => ?_⟩
    · exact (((hDL.fr hn10.fr (by simp)).fr f11 nDp).fr f12 (by simpa using fun e => nbD e.symm)).fr fE (by simpa using fun e => nlD e.symm)
    · simpa [Value.cells] using hb12.fr fE (by simpa using nbl)
    · exact (o11.fr f12 (blk_of_ne fun k kk hm => key b (by simp) nbp (by simp at hm; subst hm; exact kk))).fr fE (blk_of_ne fun k kk hm => key l (by simp) nlp (by simp at hm; subst hm; exact kk))
    · rw [List.take_add_one, hu]
      refine All2.app (q3.mono fun m u hm _ hr => Sl.fr hr F (blk_of_ne fun k kk => (q6 m hm k kk).1)) (.cons (Sl.fr hx F (blk_of_ne hk)) .nil)
    · have h := dn m hm k hk
      refine ⟨fun hk2 => ?_, by omega⟩
      have hk2' : k ∈ [b, l, D] ∨ k ∈ blkL q := by simpa [or_assoc] using hk2
      rcases hk2' with h4 | h4
      · exact h.1 (inS k h4)
      · rcases hq k h4 with h6 | h6
        · exact h.1 (lpS k h6)
        · omega
    · have hk' : k ∈ [b, l, D] ∨ k ∈ blkL q := by simpa [or_assoc] using hk
      rcases hk' with h | h
      · have := h5 k (inS k h); omega
      · have := (o11.ge k h); omega
  · rintro S H9 ⟨h1, h2, h3, ⟨p, m, d, hd, q1, q2, q3, q4, q5, q6⟩, h5⟩
    have nd := q5
    rw [q4] at nd
    simp only [List.nodup_cons, List.mem_cons, not_or] at nd
    obtain ⟨⟨nbl, nbD, nbp⟩, ⟨nlD, nlp⟩, nDp, _⟩ := nd
    have inS : ∀ k ∈ [b, l, D], k ∈ S := fun k hk => by rw [q4]; exact List.mem_append_left (blkL p) hk
    have lpS : ∀ k ∈ blkL p, k ∈ S := fun k hk => by rw [q4]; simp [hk]
    have fE := setLp_fr H9 l R0 .exhausted none
    have sE := setLp_size H9 l R0 .exhausted none
    refine .inl ⟨h2, fun w H10 hn10 => ?_⟩
    have ew := hn10.eq
    have sw := hn10.size
    have s9 := h1.size
    have hbw : b < H9.size := (h5 b (inS b (by simp))).2
    have hDw : D < H9.size := (h5 D (inS D (by simp))).2
    refine hn10.blk.st (j := 2) (v := .func (.func 42) ⟨[]⟩ ⟨[.pointer (some ⟨b, 0, none⟩)]⟩) (by kernel_rfl) (by kernel_rfl) (fun x hx => by simp [Value.cells] at hx; subst hx; rfl) (by simp [Value.cells]) fun H11 hB11 f11 => ?_
    have hD11 : Dq H11 D := ((h3.fr fE (by simpa using fun e => nlD e.symm)).fr hn10.fr (by simp)).fr f11 (by simp; omega)
    have fD := shutD_fr H11 D
    have F : Fr [l, w, D] H9 (shutD H11 D) := ((fE.trans' hn10.fr (T := [l, w, D]) (fun k hk _ => by simp at hk; subst hk; simp) (by simp)).trans' f11 (fun k hk _ => hk) (fun k hk _ => by simp at hk; subst hk; simp)).trans' fD (fun k hk _ => hk) (fun k hk _ => by simp at hk; subst hk; simp)
    rw [List.take_length] at q3
    have f19 := f1.keep0 h1
    refine ⟨hD11, _, _, rfl, hyes us rows w b _ hU ⟨by omega, ⟨by simp, by simp⟩, ?_, none, 0, 0, [], p, m, d, hd, ?_, ?_, Sl.zero, .nil, (fun k hk => by cases hk), (fun m hm => by cases hm), ?_, ?_, fun k hk => ?_, fun m hm k hk => ?_⟩ (by omega) (by have := (h5 b (inS b (by simp))).1; omega) ?_⟩
    · intro k hk
      have := F.size
      have := f11.size
      have := fD.size
      simp only [List.mem_cons, List.mem_nil_iff, or_false] at hk
      omega
    · have := hB11.fr fD (by simp; omega)
      simpa [Value.cells] using this
    · refine q1.fr F ?_
      simp only [List.mem_cons, List.mem_nil_iff, or_false, not_or]
      exact ⟨nbl, by omega, nbD⟩
    · refine q2.sl.fr F (blk_of_ne fun k kk hm => ?_)
      have := (q2.ge k kk).2
      simp only [List.mem_cons, List.mem_nil_iff, or_false] at hm
      rcases hm with rfl | rfl | rfl
      · exact nlp kk
      · omega
      · exact nDp kk
    · refine q3.mono fun m u hm _ hr => Sl.fr hr F (blk_of_ne fun k kk hm2 => ?_)
      have h := q6 m hm k kk
      simp only [List.mem_cons, List.mem_nil_iff, or_false] at hm2
      rcases hm2 with rfl | rfl | rfl
      · exact h.1 (inS _ (by simp))
      · omega
      · exact h.1 (inS _ (by simp))
    · have := (q2.ge k hk).2
      have sF := F.size
      refine ⟨fun e => ?_, by omega⟩
      simp only [List.mem_cons, List.mem_nil_iff, or_false] at e
      rcases e with e | e
      · omega
      · exact nbp (by rw [← e]; exact hk)
    · have h := q6 m hm k hk
      have sF := F.size
      refine ⟨fun e => ?_, by omega⟩
      simp only [List.mem_cons, List.mem_nil_iff, or_false] at e
      rcases e with e | e
      · omega
      · exact h.1 (by rw [e]; exact inS _ (by simp))
    · refine f19.keep F fun k hk => ?_
      simp only [List.mem_cons, List.mem_nil_iff, or_false] at hk
      by_cases e : k = w
      · omega
      · have hkS : k ∈ S := inS k (by simp only [List.mem_cons, List.mem_nil_iff, or_false]; omega)
        have := (h5 k hkS).1
        omega
end Go.Proofs
