/- A part of a proof: see the last text of this claim. -/
import Derived.Test.YtjclcccjdnllgaaGreatC16e
import Derived.Test.YtjclcccjdnllgaaGreatC13i
set_option linter.unusedVariables false
set_option maxRecDepth 100000
open Go Go.GV
namespace Go.Proofs


theorem srv_one {i : Int} {a : Option Addr} {n c : Nat} : ∀ v ∈ (Value.agg ⟨[.int .i64 i, .slice a n c]⟩).cells.toList, v.oneCell' = true := fun v h => by
  simp [Value.cells] at h; rcases h with rfl | rfl <;> rfl
theorem majP_of {ss : List Srs} (hR : RightS ss) (h : ∀ (i : Nat) (x : Srs), ss[i]? = some x → (0 ≤ x.1 ∧ x.1 < 200) ∧ SmpP x.2) : MajP ss :=
  ⟨hR, fun s hs => by obtain ⟨i, hi⟩ := List.mem_iff_getElem?.1 hs; exact h i s hi⟩
theorem majEncode_ok {H : Heap} {a : Option Addr} {n c : Nat} {hs : List Sr} {ss : List Srs} {K : ByteArray → Int → Heap → Prop} (hx : Sl encSr H a n c hs) (h1 : SerH H hs ss) (hR : RightS ss) (hn : n ≤ 1000000) (hsl : ∀ s ∈ ss, s.2.length ≤ 1000000) (hv : ∀ s ∈ ss, ∀ x ∈ s.2, I64 x.2)
    (hbad : ¬ MajP ss → ∀ H', Fr [] H H' → K ⟨#[]⟩ 30 H') (hok : MajP ss → ∀ H', Fr [] H H' → K ⟨(encM ss).toArray⟩ 0 H') :
    CallH Tryz.prog fn_major_Encode ⟨[.slice a n c]⟩ H fun v H' => ∃ s e, v = .tuple ⟨[.string s, .int .i64 e]⟩ ∧ K s e H' := by
  apply vc_major_Encode
  have hlen := hx.len
  have hl2 := h1.len
  intro b H2 hn2 b1 H3 hn3
  rw [wrapU_nat (by omega)]
  refine Uint_ok (by omega) fun H4 f4 => ?_
  have e2 := hn2.eq
  have e3 := hn3.eq
  have s2 := hn2.size
  have s3 := hn3.size
  have s4 := f4.size
  have zu := uintL_len10 (n := n) (by omega)
  refine WriteString_ok (((Bld.new hn2).keep hn3.fr).keep f4) (by rw [size_mk]; simp; omega) fun H5 S5 h5 f5 g5 => ?_
  rw [List.nil_append, bl_mk] at h5
  have f15 : Fr [] H H5 := ((hn2.fr.keep0 hn3.fr).keep0 f4).keep f5 fun k hk => by simp at hk; omega
  have hb5 := ((Bld.new hn3).keep f4).fr f5 (by simp; omega)
  have hS5 : ∀ k ∈ S5, k = b ∨ H4.size ≤ k := fun k hk => (g5 k hk).imp (fun h => by simpa using h) id
  refine ⟨fun vs H' => match vs with | [.int _ last, .int _ i] => ∃ (j : Nat) (S1 S2 : List Nat), i = j ∧ j ≤ n ∧ last = (if j = 0 then -1 else (ss[j - 1]?.getD (0, [])).1) ∧ (∀ (i : Nat) (x : Srs), i < j → ss[i]? = some x → (0 ≤ x.1 ∧ x.1 < 200) ∧ SmpP x.2) ∧ BldH H' b S1 (uintL n ++ tblM (ss.take j)) ∧ BldH H' b1 S2 (bdyM (ss.take j)) ∧ Dj S1 S2 ∧ (∀ k ∈ S1, H.size ≤ k) ∧ (∀ k ∈ S2, H.size ≤ k) ∧ Fr [] H H' | _ => False, fun vs _ => match vs with | [_, .int _ i] => n - i.toNat | _ => 0,
    ⟨0, S5, [b1], rfl, by omega, rfl, (fun _ _ h => by omega), by simpa [tblM] using h5, by simpa [bdyM] using hb5, (fun k hk hk2 => by simp at hk2; subst hk2; rcases hS5 _ hk with h | h <;> omega), (fun k hk => (hS5 k hk).elim (fun h => by omega) fun h => by omega), (fun k hk => by simp at hk; omega), f15⟩, ?_⟩
  rintro J last i H6 ⟨j, S1, S2, rfl, hj, rfl, hgood, hb1, hb2, dj, hS1, hS2, f6⟩
  have pre : ∀ x ∈ ss.take j, (0 ≤ x.1 ∧ x.1 < 200) ∧ SmpP x.2 := fun x hx => by
    obtain ⟨i, hi⟩ := List.mem_iff_getElem?.1 hx
    rw [List.getElem?_take] at hi
    split at hi
    · exact hgood i x (by assumption) hi
    · cases hi
  have zt := tblM_len pre
  have zb := bdyM_len fun x hx => (pre x hx).2
  rw [List.length_take] at zt zb
  refine brB_of (fun hlt => ?_) (fun hge => ?_)
  · have hlt : j < n := by simp at hlt; omega
    obtain ⟨m, hm⟩ := getElem_ex (l := hs) (i := j) (by omega)
    obtain ⟨x, hxs, hr⟩ := h1.get hm
    refine (hx.keep f6).get rfl hm (decide_eq_true (by omega)) fun ad ea hc => ⟨_, _, _, _, ld_many (by kernel_rfl) (by kernel_rfl) hc, ?_⟩
    refine var_blk (by kernel_rfl) (by kernel_rfl) srv_one (by rfl) fun vb H7 hvl hvb fv => ⟨_, _, _, hvb.ldK (j := 1) (by kernel_rfl) rfl, ?_⟩
    have f7 := f6.keep0 fv
    have hxl := hsl x (List.mem_of_getElem? hxs)
    have hml := hr.2.len
    have mod : MajP ss → (0 ≤ x.1 ∧ x.1 < 200) ∧ SmpP x.2 := fun h => h.lo x (List.mem_of_getElem? hxs)
    have fail : ¬ SmpP x.2 → ∀ H' e, Fr [] H7 H' → e ≠ 0 → ∃ (M : IV), brB (e != 0) (∃ s e', Value.tuple ⟨[.string { data := #[] }, .int .i64 30]⟩ = .tuple ⟨[.string s, .int .i64 e']⟩ ∧ K s e' H') (M [] H') ∧ ∀ H', ¬ M [] H' := fun hno H' e hf he =>
      ⟨fun _ _ => False, brB_of (fun _ => ⟨_, _, rfl, hbad (fun h => hno (mod h).2) _ (f7.keep0 hf)⟩) (fun h => by simp at h; exact he h), fun _ h => h⟩
    refine Encode_ok (hr.2.keep f7) (hv x (List.mem_of_getElem? hxs)) (by omega) (fun hbig => ?_) (fun _ hnP H8 f8 => ?_) fun hP H8 f8 => ?_
    · refine ⟨fun _ _ => False, brB_of (fun _ => ⟨_, _, rfl, hbad (fun h => ?_) _ f7⟩) (fun h => by simp at h), fun _ _ h => h.elim⟩
      have := (mod h).2.len
      omega
    · exact ⟨fun _ _ => False, brB_of (fun _ => ⟨_, _, rfl, hbad (fun h => hnP (mod h).2) _ (f7.keep0 f8)⟩) (fun h => by simp at h), fun _ _ h => h.elim⟩
    · have f78 := f7.keep0 f8
      have hvb8 := hvb.keep f8
      refine ⟨fun _ H' => H' = H8 ∧ (0 ≤ x.1 ∧ x.1 < 200), brB_of (fun h => by simp at h) fun _ => ⟨_, _, _, hvb8.ldK (j := 1) (by kernel_rfl) rfl, brB_of (fun h => ?_) fun h0 => ⟨_, hvb8.ld0 (by kernel_rfl) rfl, brB_of (fun h => ⟨_, _, rfl, hbad (fun hM => ?_) _ f78⟩) fun h2 => ⟨_, hvb8.ld0 (by kernel_rfl) rfl, brB_of (fun h => ⟨_, _, rfl, hbad (fun hM => ?_) _ f78⟩) fun h3 => ⟨rfl, ?_⟩⟩⟩⟩, ?_⟩
      · exfalso
        have h : x.2 = [] := List.eq_nil_of_length_eq_zero (by simp at h; omega)
        exact (hR.2 x (List.mem_of_getElem? hxs)).1 h
      · have h := of_decide_eq_true h
        have := (mod hM).1
        split at h
        · have := hr.1; omega
        · have hy := List.getElem?_eq_getElem (l := ss) (i := j - 1) (by omega)
          rw [hy, Option.getD_some] at h
          obtain ⟨hjl, ex⟩ := List.getElem?_eq_some_iff.1 hxs
          have hlt := List.pairwise_iff_getElem.1 hR.1 (j - 1) j (by omega) hjl (by omega)
          rw [ex] at hlt
          have := hr.1
          omega
      · have := (mod hM).1
        have := hr.1
        simp at h; omega
      · have h2 := of_decide_eq_false h2
        have h3 := of_decide_eq_false h3
        have := hr.1
        split at h2
        · omega
        · have hy := List.getElem?_eq_getElem (l := ss) (i := j - 1) (by omega)
          rw [hy, Option.getD_some] at h2
          have := (hgood (j - 1) _ (by omega) hy).1
          omega
      · rintro J2 H9 ⟨rfl, hid⟩
        refine ⟨_, hvb8.ld0 (by kernel_rfl) rfl, _, hvb8.ld0 (by kernel_rfl) rfl, ?_⟩
        have em := hr.1
        rw [em, wrapU_of hid.1 (by omega)]
        refine Uint_ok (by omega) fun H10 f10 => ?_
        have ze := encD_len hP
        rw [size_mk, nat_wrapU (n := (encD x.2).length) (by omega)]
        refine Uint_ok (by omega) fun H11 f11 => ?_
        have z1 := uintL_len10 (n := x.1.toNat) (by omega)
        have z2 := uintL_len10 (n := (encD x.2).length) (by omega)
        refine chk_true (decide_eq_true (by rw [size_mk, size_mk]; omega)) ?_
        rw [mk_app]
        have f611 : Fr [] H6 H11 := ((fv.keep0 f8).keep0 f10).keep0 f11
        refine WriteString_ok (hb1.keep f611) (by rw [size_mk, List.length_append, List.length_append]; omega) fun H12 S12 h12 f12 g12 => ?_
        have i1 := (Bld.inS hb1).2
        have i2 := (Bld.inS hb2).2
        have s611 := f611.size
        refine WriteString_ok ((hb2.keep f611).fr f12 fun k hk hk2 => dj k hk2 hk) (by rw [size_mk]; omega) fun H13 S13 h13 f13 g13 => ?_
        rw [bl_mk] at h12 h13
        have s12 := f12.size
        have i12 := (Bld.inS h12).2
        have tk : ss.take (j + 1) = ss.take j ++ [x] := by rw [List.take_add_one, hxs]; rfl
        have gS : ∀ k ∈ S12, k ∈ S1 ∨ H11.size ≤ k := g12
        have dj2 : Dj S12 S2 := fun k hk hk2 => (gS k hk).elim (fun h => dj k h hk2) fun h => by have := i2 k hk2; omega
        rw [succ64 (by omega)]
        have hmu : n - ((j + 1 : Nat) : Int).toNat < n - ((j : Nat) : Int).toNat := by omega
        have s6 := f6.size
        refine ⟨⟨j + 1, S12, S13, rfl, by omega, by rw [if_neg (by omega), Nat.add_sub_cancel, hxs]; rfl, fun i y hi hy => ?_, ?_, ?_, fun k hk hk2 => ?_, fun k hk => (gS k hk).elim (hS1 k) fun h => by omega, fun k hk => (g13 k hk).elim (hS2 k) fun h => by omega, ((f6.keep0 f611).keep f12 hS1).keep f13 hS2⟩, hmu⟩
        · by_cases e : i = j
          · subst e
            rw [hxs] at hy
            cases hy
            exact ⟨hid, hP⟩
          · exact hgood i y (by omega) hy
        · rw [tk, tblM_snoc, ← List.append_assoc]
          exact h12.fr f13 fun k hk hk2 => dj2 k hk hk2
        · rw [tk, bdyM_snoc]; exact h13
        · rcases g13 k hk2 with h | h
          · exact dj2 k hk h
          · have := i12 k hk; omega
  · have hjn : j = n := by simp at hge; omega
    subst hjn
    have hM : MajP ss := majP_of hR fun i x hx => hgood i x (by have := (List.getElem?_eq_some_iff.1 hx).1; omega) hx
    rw [List.take_of_length_le (by omega)] at hb1 hb2
    refine BString_ok hb1 (by rw [List.length_append]; rw [List.take_of_length_le (by omega)] at zt; omega) fun H7 f7 => ?_
    rw [List.take_of_length_le (by omega)] at zt zb
    refine BString_ok (hb2.fr f7 fun k hk hk2 => dj k hk2 hk) (by omega) fun H8 f8 => ?_
    refine chk_true (decide_eq_true (by rw [size_mk, size_mk, List.length_append]; omega)) ⟨_, _, rfl, ?_⟩
    rw [mk_app, List.append_assoc, ← (show encM ss = uintL j ++ (tblM ss ++ bdyM ss) by unfold encM; rw [hlen, hl2])]
    exact hok hM _ ((f6.keep f7 hS1).keep f8 hS2)
theorem r15Encode_ok {H : Heap} {a : Option Addr} {n c : Nat} {hs : List Sr} {ss : List Srs} {K : ByteArray → Int → Heap → Prop} (hx : Sl encSr H a n c hs) (h1 : SerH H hs ss) (hR : RightS ss) (hn : n ≤ 1000000) (hsl : ∀ s ∈ ss, s.2.length ≤ 1000000) (hv : ∀ s ∈ ss, ∀ x ∈ s.2, I64 x.2)
    (hbad : ¬ MajP ss → ∀ H', Fr [] H H' → K ⟨#[]⟩ 30 H') (hok : MajP ss → ∀ H', Fr [] H H' → K ⟨(encM ss).toArray⟩ 0 H') :
    CallH Tryz.prog fn_ref15_Encode ⟨[.slice a n c]⟩ H fun v H' => ∃ s e, v = .tuple ⟨[.string s, .int .i64 e]⟩ ∧ K s e H' := by
  apply vc_ref15_Encode
  have hlen := hx.len
  have hl2 := h1.len
  refine Right_ok hx h1 hR hn (fun s hs => by have := hsl s hs; omega) (brB_of (fun h => by cases h) fun _ => ?_)
  rw [wrapU_nat (by omega)]
  refine rUint_ok (by omega) fun H2 f2 => ?_
  have zu := uintL_len10 (n := n) (by omega)
  refine ⟨fun vs H' => match vs with | [.string s, .string t, .int _ i] => ∃ j : Nat, i = j ∧ j ≤ n ∧ s = ⟨(uintL n ++ tblM (ss.take j)).toArray⟩ ∧ t = ⟨(bdyM (ss.take j)).toArray⟩ ∧ (∀ (i : Nat) (x : Srs), i < j → ss[i]? = some x → (0 ≤ x.1 ∧ x.1 < 200) ∧ SmpP x.2) ∧ Fr [] H H' | _ => False, fun vs _ => match vs with | [_, _, .int _ i] => n - i.toNat | _ => 0,
    ⟨0, rfl, by omega, by simp [tblM], by simp [bdyM], (fun _ _ h => by omega), f2⟩, ?_⟩
  rintro J s t i H6 ⟨j, rfl, hj, rfl, rfl, hgood, f6⟩
  have pre : ∀ x ∈ ss.take j, (0 ≤ x.1 ∧ x.1 < 200) ∧ SmpP x.2 := fun x hx => by
    obtain ⟨i, hi⟩ := List.mem_iff_getElem?.1 hx
    rw [List.getElem?_take] at hi
    split at hi
    · exact hgood i x (by assumption) hi
    · cases hi
  have zt := tblM_len pre
  have zb := bdyM_len fun x hx => (pre x hx).2
  rw [List.length_take] at zt zb
  refine brB_of (fun hlt => ?_) (fun hge => ?_)
  · have hlt : j < n := by simp at hlt; omega
    obtain ⟨m, hm⟩ := getElem_ex (l := hs) (i := j) (by omega)
    obtain ⟨x, hxs, hr⟩ := h1.get hm
    have mod : MajP ss → (0 ≤ x.1 ∧ x.1 < 200) ∧ SmpP x.2 := fun h => h.lo x (List.mem_of_getElem? hxs)
    have hxl := hsl x (List.mem_of_getElem? hxs)
    have hml := hr.2.len
    have em := hr.1
    refine ⟨fun vs H' => vs = [.string ⟨(uintL n ++ tblM (ss.take (j + 1))).toArray⟩, .string ⟨(bdyM (ss.take (j + 1))).toArray⟩] ∧ ((0 ≤ x.1 ∧ x.1 < 200) ∧ SmpP x.2) ∧ Fr [] H H', ?_, ?_⟩
    · refine (hx.keep f6).get rfl hm (decide_eq_true (by omega)) fun ad ea hc => ⟨_, _, _, ld_part (by kernel_rfl) hc (j := 1) rfl, ?_⟩
      refine rEncode_ok (hr.2.keep f6) (hv x (List.mem_of_getElem? hxs)) (by omega) (fun hbig => ?_) (fun _ hnP H8 f8 => ?_) fun hP H8 f8 => ?_
      · refine ⟨fun _ _ => False, brB_of (fun _ => ⟨_, _, rfl, hbad (fun h => ?_) _ f6⟩) (fun h => by simp at h), fun _ _ h => h.elim⟩
        have := (mod h).2.len
        omega
      · exact ⟨fun _ _ => False, brB_of (fun _ => ⟨_, _, rfl, hbad (fun h => hnP (mod h).2) _ (f6.keep0 f8)⟩) (fun h => by simp at h), fun _ _ h => h.elim⟩
      · have f78 := f6.keep0 f8
        refine ⟨fun _ H' => H' = H8 ∧ (0 ≤ x.1 ∧ x.1 < 200), brB_of (fun h => by simp at h) fun _ => ?_, ?_⟩
        · refine (hx.keep f78).get rfl hm (decide_eq_true (by omega)) fun ad ea hc => ⟨m.1, ldSr0 hc, brB_of (fun h => ⟨_, _, rfl, hbad (fun hM => ?_) _ f78⟩) fun h2 => ?_⟩
          · have := (mod hM).1; simp at h; omega
          refine (hx.keep f78).get rfl hm (decide_eq_true (by omega)) fun ad ea hc => ⟨m.1, ldSr0 hc, brB_of (fun h => ⟨_, _, rfl, hbad (fun hM => ?_) _ f78⟩) fun h3 => ⟨rfl, ?_⟩⟩
          · have := (mod hM).1; simp at h; omega
          · simp at h2 h3; omega
        · rintro J2 H9 ⟨rfl, hid⟩
          refine (hx.keep f78).get rfl hm (decide_eq_true (by omega)) fun ad ea hc => ⟨m.1, ldSr0 hc, ?_⟩
          rw [em, wrapU_of hid.1 (by omega)]
          have ze := encD_len hP
          have z1 := uintL_len10 (n := x.1.toNat) (by omega)
          have z2 := uintL_len10 (n := (encD x.2).length) (by omega)
          refine rUint_ok (by omega) fun H10 f10 => ?_
          refine chk_true (decide_eq_true (by rw [size_mk, size_mk, List.length_append]; omega)) ?_
          rw [size_mk (encD x.2), nat_wrapU (n := (encD x.2).length) (by omega)]
          refine rUint_ok (by omega) fun H11 f11 => ?_
          refine chk_true (decide_eq_true (by rw [mk_app, size_mk, size_mk, List.length_append, List.length_append]; omega)) ?_
          refine chk_true (decide_eq_true (by rw [size_mk (bdyM (ss.take j))]; omega)) ⟨?_, ⟨hid, hP⟩, (f78.keep0 f10).keep0 f11⟩
          have tk : ss.take (j + 1) = ss.take j ++ [x] := by rw [List.take_add_one, hxs]; rfl
          rw [mk_app, mk_app, mk_app, tk, tblM_snoc, bdyM_snoc]
          simp
    · rintro J2 s' t' H7 ⟨e, hx2, f7⟩
      simp only [List.cons.injEq, Value.string.injEq, and_true] at e
      obtain ⟨rfl, rfl⟩ := e
      rw [succ64 (by omega)]
      have hmu : n - ((j + 1 : Nat) : Int).toNat < n - ((j : Nat) : Int).toNat := by omega
      refine ⟨⟨j + 1, rfl, by omega, rfl, rfl, fun i y hi hy => ?_, f7⟩, hmu⟩
      by_cases e : i = j
      · subst e
        rw [hxs] at hy
        cases hy
        exact hx2
      · exact hgood i y (by omega) hy
  · have hjn : j = n := by simp at hge; omega
    subst hjn
    have hM : MajP ss := majP_of hR fun i x hx => hgood i x (by have := (List.getElem?_eq_some_iff.1 hx).1; omega) hx
    rw [List.take_of_length_le (by omega)] at zt zb ⊢
    refine chk_true (decide_eq_true (by rw [size_mk, size_mk, List.length_append]; omega)) ⟨_, _, rfl, ?_⟩
    rw [mk_app, List.append_assoc, ← (show encM ss = uintL j ++ (tblM ss ++ bdyM ss) by unfold encM; rw [hlen, hl2])]
    exact hok hM _ f6

def e0 (zs : List Z) (i : Nat) : Rw := (((zs[i]?.getD (0, 0)).1 : Nat), (offZ zs i : Nat), (offZ zs (i + 1) : Nat))
def esK (zs : List Z) (p k : Nat) : List Rw := (List.range zs.length).map fun i => if i < k then (((zs[i]?.getD (0, 0)).1 : Int), ((p + offZ zs i : Nat) : Int), ((p + offZ zs (i + 1) : Nat) : Int)) else e0 zs i
theorem esK_len (zs : List Z) (p k : Nat) : (esK zs p k).length = zs.length := by simp [esK]
theorem esK_get {zs : List Z} {p k i : Nat} (h : i < zs.length) : (esK zs p k)[i]? = some (if i < k then (((zs[i]?.getD (0, 0)).1 : Int), ((p + offZ zs i : Nat) : Int), ((p + offZ zs (i + 1) : Nat) : Int)) else e0 zs i) := by
  unfold esK; rw [List.getElem?_map, List.getElem?_range h]; rfl
theorem esK_succ {zs : List Z} {p k : Nat} (h : k < zs.length) : esK zs p (k + 1) = (esK zs p k).set k (((zs[k]?.getD (0, 0)).1 : Int), ((p + offZ zs k : Nat) : Int), ((p + offZ zs (k + 1) : Nat) : Int)) := by
  refine List.ext_getElem? fun i => ?_
  rw [List.getElem?_set, esK_len]
  by_cases hi : i < zs.length
  · rw [esK_get hi]
    by_cases e : k = i
    · subst e
      rw [if_pos (by omega), if_pos rfl, if_pos h]
    · rw [if_neg e, esK_get hi]
      by_cases h2 : i < k
      · rw [if_pos (by omega), if_pos h2]
      · rw [if_neg (by omega), if_neg h2]
  · rw [if_neg (by omega), List.getElem?_eq_none (by rw [esK_len]; omega), List.getElem?_eq_none (by rw [esK_len]; omega)]
theorem offZ_snoc {zs : List Z} {z : Z} {i : Nat} (h : i ≤ zs.length) : offZ (zs ++ [z]) i = offZ zs i := by
  unfold offZ; rw [List.take_append_of_le_length h]
theorem esK_snoc (zs : List Z) (z : Z) (p : Nat) : esK (zs ++ [z]) p 0 = esK zs p 0 ++ [((z.1 : Int), (sumZ zs : Int), ((sumZ zs + z.2 : Nat) : Int))] := by
  unfold esK
  rw [List.length_append, List.length_cons, List.length_nil, Nat.zero_add, List.range_succ, List.map_append]
  congr 1
  · refine List.map_congr_left fun i hi => ?_
    have hi := List.mem_range.1 hi
    simp only [Nat.not_lt_zero, if_false]
    unfold e0
    rw [offZ_snoc (by omega), offZ_snoc (by omega), List.getElem?_append_left hi]
  · simp only [List.map_cons, List.map_nil, Nat.not_lt_zero, if_false]
    unfold e0
    rw [offZ_snoc (Nat.le_refl _)]
    have e1 : offZ zs zs.length = sumZ zs := by unfold offZ; rw [List.take_length]
    have e2 : offZ (zs ++ [z]) (zs.length + 1) = sumZ zs + z.2 := by
      unfold offZ; rw [List.take_of_length_le (by simp)]; exact sumZ_snoc _ _
    rw [e1, e2]
    simp
structure TbS (s : ByteArray) (n0 : Nat) (zs : List Z) (p : Nat) : Prop where
  snd : bl s = uintL n0 ++ (tabL zs ++ (bl s).drop p)
  pos : p ≤ s.size
  rise : zs.Pairwise fun a b => a.1 < b.1
  lo : ∀ z ∈ zs, z.1 < 200 ∧ z.2 ≤ s.size
  cmp : ∀ zs', TabP s zs' → zs'.length = n0 ∧ zs'.take zs.length = zs
theorem TbS.start {s : ByteArray} {n0 p e : Nat} {v : Int} {n : Int} (h : GU ((bl s).drop 0) 0 v n 0) (hv : v = n0) (hn : n = p) (hp : p ≤ s.size) : TbS s n0 [] p := by
  obtain ⟨m, h1, h2, h3, h4, h5⟩ := h.ok rfl
  have hm : m = n0 := by omega
  subst hm
  rw [List.drop_zero] at h3
  have : p = (uintL m).length := by omega
  subst this
  refine ⟨by simpa [tabL] using h3, hp, List.Pairwise.nil, by simp, fun zs' ht => ⟨?_, rfl⟩⟩
  obtain ⟨r, h6, _⟩ := ht.s
  rw [h3] at h6
  exact (uint_eq h6).1.symm
theorem TbS.next {s : ByteArray} {n0 p : Nat} {zs zs' : List Z} (h : TbS s n0 zs p) (ht : TabP s zs') (hl : zs.length < n0) : ∃ z r, zs'[zs.length]? = some z ∧ (bl s).drop p = uintL z.1 ++ (uintL z.2 ++ r) ∧ (∀ y, zs.getLast? = some y → y.1 < z.1) ∧ z.1 < 200 ∧ z.2 ≤ s.size := by
  obtain ⟨c1, c2⟩ := h.cmp zs' ht
  obtain ⟨z, tl, rfl⟩ : ∃ z tl, zs' = zs ++ z :: tl := ⟨zs'[zs.length]'(by omega), zs'.drop (zs.length + 1), by
    conv => lhs; rw [← List.take_append_drop zs.length zs', c2, List.drop_eq_getElem_cons (by omega)]⟩
  have hz : (zs ++ z :: tl)[zs.length]? = some z := by rw [List.getElem?_append_right (Nat.le_refl _), Nat.sub_self]; rfl
  obtain ⟨r, h6, h7⟩ := ht.s
  have h2 := (uint_eq (h6.symm.trans h.snd)).2
  rw [tabL_app, List.append_assoc] at h2
  have h3 := List.append_cancel_left h2
  rw [tabL_cons] at h3
  refine ⟨z, tabL tl ++ r, hz, by rw [← h3]; simp only [List.append_assoc], fun y hy => ?_, ht.lo _ (List.mem_of_getElem? hz), ?_⟩
  · have hr := ht.rise
    rw [List.pairwise_append] at hr
    exact hr.2.2 y (List.mem_of_getLast? hy) z (by simp)
  · have h8 := offZ_succ hz
    have h9 := offZ_le (zs ++ z :: tl) (zs.length + 1)
    have := ht.size
    omega
theorem TbS.more {s : ByteArray} {n0 p p' : Nat} {zs : List Z} {z : Z} (h : TbS s n0 zs p) (hl : zs.length < n0) (hp : (bl s).drop p = uintL z.1 ++ (uintL z.2 ++ (bl s).drop p')) (hp' : p' ≤ s.size) (hr : ∀ y, zs.getLast? = some y → y.1 < z.1) (hz : z.1 < 200 ∧ z.2 ≤ s.size) : TbS s n0 (zs ++ [z]) p' := by
  refine ⟨?_, hp', ?_, fun x hx => ?_, fun zs' ht => ?_⟩
  · rw [tabL_snoc]
    have := h.snd
    rw [hp] at this
    rw [List.append_assoc, List.append_assoc]; exact this
  · rw [List.pairwise_append]
    refine ⟨h.rise, List.pairwise_singleton _ _, fun a ha b hb => ?_⟩
    simp at hb; subst hb
    cases hg : zs.getLast? with
    | none =>
      have := List.getLast?_eq_none_iff.1 hg
      rw [this] at ha; cases ha
    | some y =>
      have hy := hr y hg
      obtain ⟨ys, e⟩ := List.getLast?_eq_some_iff.1 hg
      have hrise := h.rise
      rw [e, List.pairwise_append] at hrise
      rw [e] at ha
      rcases List.mem_append.1 ha with h1 | h1
      · exact Nat.lt_trans (hrise.2.2 a h1 y (by simp)) hy
      · simp at h1; rw [h1]; exact hy
  · rcases List.mem_append.1 hx with h1 | h1
    · exact h.lo x h1
    · simp at h1; rw [h1]; exact hz
  · obtain ⟨c1, c2⟩ := h.cmp zs' ht
    obtain ⟨w, r, q1, q2, _⟩ := h.next ht hl
    rw [hp] at q2
    obtain ⟨e1, q3⟩ := uint_eq q2
    obtain ⟨e2, q4⟩ := uint_eq q3
    refine ⟨c1, ?_⟩
    rw [List.length_append, List.length_cons, List.length_nil, Nat.zero_add, List.take_add_one, c2, q1]
    have : w = z := Prod.ext e1.symm e2.symm
    rw [this]; rfl
theorem TbS.done {s : ByteArray} {n0 p : Nat} {zs : List Z} (h : TbS s n0 zs p) (hl : zs.length = n0) : (sumZ zs = s.size - p → TabP s zs ∧ p = posZ zs) ∧ (∀ zs', TabP s zs' → sumZ zs = s.size - p) := by
  have hsl := bl_len s
  have hlen := congrArg List.length h.snd
  rw [hsl, List.length_append, List.length_append, List.length_drop, hsl] at hlen
  have hp := h.pos
  refine ⟨fun hs => ⟨⟨h.rise, fun z hz => (h.lo z hz).1, (bl s).drop p, by rw [hl]; exact h.snd, by rw [List.length_drop, hsl]; omega⟩, by unfold posZ; rw [hl]; omega⟩, fun zs' ht => ?_⟩
  obtain ⟨c1, c2⟩ := h.cmp zs' ht
  have : zs' = zs := by rw [← c2, hl, ← c1, List.take_length]
  subst this
  have := ht.size
  unfold posZ at this
  rw [hl] at this
  omega
theorem slice98 : sliceB Tryz.prog 98 151 = true := by kernel_rfl
theorem elem151 : elemB Tryz.prog 151 encRw.sz 24 = true := by kernel_rfl
theorem sumZ_le {zs : List Z} {m : Nat} (h : ∀ z ∈ zs, z.2 ≤ m) : sumZ zs ≤ zs.length * m := by
  induction zs with
  | nil => simp [sumZ]
  | cons z zs ih =>
    have := h z (by simp)
    have := ih fun w hw => h w (by simp [hw])
    unfold sumZ at *
    rw [List.map_cons, List.sum_cons, List.length_cons, Nat.add_mul]
    omega
theorem table_ok {s : ByteArray} {H : Heap} {K : Option Addr → Nat → Nat → Bool → Heap → Prop} (hs : s.size ≤ 1000000000)
    (hno : (∀ zs, ¬ TabP s zs) → ∀ a n c H', Fr [] H H' → K a n c false H')
    (hyes : ∀ zs a n c H', TabP s zs → Own encRw 151 H.size H' a n c (esK zs (posZ zs) zs.length) → Fr [] H H' → K a n c true H') :
    CallH Tryz.prog fn_major_table ⟨[.string s]⟩ H fun v H' => ∃ a n c b, v = .tuple ⟨[.slice a n c, .bool b]⟩ ∧ K a n c b H' := by
  apply vc_major_table
  have hsl := bl_len s
  refine GetUint_ok (by omega) (fun h => (h ⟨by omega, by omega⟩).elim) fun a0 ea0 ha0 v n1 e1 hG1 => ?_
  have : a0 = 0 := by omega
  subst this
  obtain ⟨p0, n0, rfl, hp0, rfl, hn0⟩ := hG1.pos ha0
  refine ⟨fun _ H' => H' = H ∧ e1 = 0 ∧ n0 ≤ 200, ?_, ?_⟩
  · refine brB_of (fun h => ⟨_, _, _, _, rfl, hno (fun zs ht => ?_) _ _ _ _ (Fr.refl _ _)⟩) fun h1 => brB_of (fun h => ⟨_, _, _, _, rfl, hno (fun zs ht => ?_) _ _ _ _ (Fr.refl _ _)⟩) fun h2 => ⟨rfl, by simpa using h1, by simp at h2; omega⟩
    · obtain ⟨r, h1, _⟩ := ht.s
      have := hG1.of (n := zs.length) (by have := ht.len; omega) (by rw [List.drop_zero]; exact h1)
      simp at h; omega
    · obtain ⟨r, h1, _⟩ := ht.s
      have := hG1.of (n := zs.length) (by have := ht.len; omega) (by rw [List.drop_zero]; exact h1)
      have := ht.len
      simp at h; omega
  rintro J H1 ⟨rfl, rfl, hn200⟩
  refine ⟨fun vs H' => match vs with | [.int _ pos, .slice a n c, .int _ last, .int _ all, .int _ i] => ∃ (zs : List Z) (p : Nat), pos = ((p : Nat) : Int) ∧ i = ((zs.length : Nat) : Int) ∧ zs.length ≤ n0 ∧ TbS s n0 zs p ∧ all = ((sumZ zs : Nat) : Int) ∧ last = (match zs.getLast? with | some y => (y.1 : Int) | none => -1) ∧ Own encRw 151 H1.size H' a n c (esK zs 0 0) ∧ Fr [] H1 H' | _ => False, fun vs _ => match vs with | [_, _, _, _, .int _ i] => n0 - i.toNat | _ => 0,
    ⟨[], p0, rfl, rfl, by simp, TbS.start (e := 0) hG1 rfl rfl hp0, rfl, rfl, Own.nil .., Fr.refl _ _⟩, ?_⟩
  rintro J pos a n c last all i H2 ⟨zs, p, rfl, rfl, hzl, hT, rfl, rfl, ho, f2⟩
  have hnl := ho.1
  rw [esK_len] at hnl
  have hsum := sumZ_le fun z hz => (hT.lo z hz).2
  have hzl200 : zs.length ≤ 200 := by omega
  have hsum2 : sumZ zs ≤ 200000000000 := Nat.le_trans hsum (Nat.le_trans (Nat.mul_le_mul hzl200 hs) (by omega))
  refine brB_of (fun hlt => ?_) (fun hge => ?_)
  · have hlt : zs.length < n0 := by simp at hlt; omega
    refine GetUint_ok (by omega) (fun h => (h ⟨by omega, by have := hT.pos; omega⟩).elim) fun a1 ea1 ha1 v1 n1 e1 hG1 => ?_
    have : a1 = p := by omega
    subst this
    obtain ⟨p1, m1, rfl, hp1, rfl, hm1⟩ := hG1.pos ha1
    refine GetUint_ok (by omega) (fun h => (h ⟨by omega, by omega⟩).elim) fun a2 ea2 ha2 v2 n2 e2 hG2 => ?_
    have : a2 = p1 := by omega
    subst this
    obtain ⟨p2, m2, rfl, hp2, rfl, hm2⟩ := hG2.pos ha2
    have nums : ∀ zs', TabP s zs' → e1 = 0 ∧ e2 = 0 ∧ m1 < 200 ∧ m2 ≤ s.size ∧ (∀ y, zs.getLast? = some y → y.1 < m1) := fun zs' ht => by
      obtain ⟨z, r, q1, q2, q3, q4, q5⟩ := hT.next ht hlt
      obtain ⟨u1, u2, u3, u4⟩ := hG1.step (by omega) q2
      have : a2 = a1 + (uintL z.1).length := by omega
      rw [← this] at u4
      obtain ⟨w1, w2, w3, w4⟩ := hG2.step (by omega) u4
      refine ⟨u1, w1, by omega, by omega, fun y hy => by have := q3 y hy; omega⟩
    have no : (∀ zs', ¬ TabP s zs') → ∃ a n c b, Value.tuple ⟨[.slice none 0 0, .bool false]⟩ = .tuple ⟨[.slice a n c, .bool b]⟩ ∧ K a n c b H2 := fun h => ⟨_, _, _, _, rfl, hno h _ _ _ _ f2⟩
    have ewu : IntKind.wrap .u64 (s.size : Int) = s.size := nat_wrapU (by omega)
    refine ⟨fun _ H' => H' = H2 ∧ e1 = 0 ∧ e2 = 0 ∧ m1 < 200 ∧ m2 ≤ s.size ∧ (∀ y, zs.getLast? = some y → y.1 < m1), ?_, ?_⟩
    · refine brB_of (fun h => no fun zs' ht => ?_) fun h1 => brB_of (fun h => no fun zs' ht => ?_) fun h2 => brB_of (fun h => no fun zs' ht => ?_) fun h3 => ?_
      · have := (nums zs' ht).1; simp at h; omega
      · have := (nums zs' ht).2.1; simp at h; omega
      · have := (nums zs' ht).2.2.1; simp at h; omega
      · have h3 := of_decide_eq_false h3
        have ew1 : IntKind.wrap .i64 (m1 : Int) = m1 := wrap64_of (by omega) (by omega)
        rw [ew1, ewu]
        refine brB_of (fun h => no fun zs' ht => ?_) fun h4 => brB_of (fun h => no fun zs' ht => ?_) fun h5 => ⟨rfl, by simpa using h1, by simpa using h2, by omega, by simp at h5; omega, fun y hy => ?_⟩
        · have h6 := (nums zs' ht).2.2.2.2
          have h := of_decide_eq_true h
          cases hg : zs.getLast? with
          | none => rw [hg] at h; simp only at h; omega
          | some y => rw [hg] at h; simp only at h; have := h6 y hg; omega
        · have := (nums zs' ht).2.2.2.1; simp at h; omega
        · have h4 := of_decide_eq_false h4
          rw [hy] at h4
          simp only at h4
          omega
    · rintro J2 H3 ⟨rfl, rfl, rfl, hm1', hm2', hrise⟩ b H4 hn4
      have ew1 : IntKind.wrap .i64 (m1 : Int) = m1 := wrap64_of (by omega) (by omega)
      have ew2 : IntKind.wrap .i64 (m2 : Int) = m2 := wrap64_of (by omega) (by omega)
      have ew3 : IntKind.wrap .i64 (((sumZ zs : Nat) : Int) + (m2 : Int)) = ((sumZ zs + m2 : Nat) : Int) := by rw [wrap64_of (by omega) (by omega)]; rfl
      rw [ew1, ew2, ew3] at hn4
      rw [ew1, ew2, ew3]
      have s2 := f2.size
      have s4 := hn4.size
      have hsn := esK_snoc zs (m1, m2) 0
      refine ap_grow slice98 elem151 (ho.keep hn4.fr) (sl_one encRw ((m1 : Int), (sumZ zs : Int), ((sumZ zs + m2 : Nat) : Int)) hn4 rfl) (by omega) (by omega) fun q m d H5 h5 f5 g5 => ?_
      have ei : IntKind.wrap .u64 (((zs.length : Nat) : Int) + 1) = ((zs.length + 1 : Nat) : Int) := nat_wrapU (n := zs.length + 1) (by omega)
      rw [ei]
      have hmu : n0 - ((zs.length + 1 : Nat) : Int).toNat < n0 - ((zs.length : Nat) : Int).toNat := by omega
      obtain ⟨k1, x1, x2, x3, x4, x5⟩ := hG1.ok rfl
      obtain ⟨k2, y1, y2, y3, y4, y5⟩ := hG2.ok rfl
      have hd : (bl s).drop a1 = uintL m1 ++ (uintL m2 ++ (bl s).drop p2) := by
        have e1 : k1 = m1 := by omega
        have e2 : k2 = m2 := by omega
        subst e1; subst e2
        rw [List.drop_drop] at x3 y3
        have ea : a1 + (uintL k1).length = a2 := by omega
        have eb : a2 + (uintL k2).length = p2 := by omega
        rw [ea] at x3
        rw [eb] at y3
        rw [x3, y3]
      refine ⟨⟨zs ++ [(m1, m2)], p2, rfl, by simp, by simp; omega, hT.more hlt hd hp2 hrise ⟨hm1', hm2'⟩, by rw [sumZ_snoc], by simp, by rw [hsn]; exact h5, (f2.keep0 hn4.fr).keep f5 fun k hk => (ho.ge k hk).1⟩, hmu⟩
  · have hz0 : zs.length = n0 := by simp at hge; omega
    obtain ⟨d1, d2⟩ := hT.done hz0
    have hpp := hT.pos
    refine ⟨fun vs H' => match vs with | [.int _ i] => ∃ k : Nat, i = k ∧ k ≤ n ∧ Own encRw 151 H1.size H' a n c (esK zs p k) ∧ Fr [] H1 H' | _ => False, fun vs _ => match vs with | [.int _ i] => n - i.toNat | _ => 0,
      ⟨0, rfl, by omega, ?_, f2⟩, ?_⟩
    · have : esK zs p 0 = esK zs 0 0 := by unfold esK; simp
      rw [this]; exact ho
    rintro J i H3 ⟨k, rfl, hk, h3, f3⟩
    refine brB_of (fun hlt => ?_) (fun hge2 => ?_)
    · have hlt : k < n := by simp at hlt; omega
      have hgk := esK_get (zs := zs) (p := p) (k := k) (i := k) (by omega)
      rw [if_neg (by omega)] at hgk
      have o1 := offZ_le zs k
      have o2 := offZ_le zs (k + 1)
      have ew1 : IntKind.wrap .i64 (((offZ zs k : Nat) : Int) + (p : Int)) = ((p + offZ zs k : Nat) : Int) := by rw [wrap64_of (by omega) (by omega)]; omega
      have ew2 : IntKind.wrap .i64 (((offZ zs (k + 1) : Nat) : Int) + (p : Int)) = ((p + offZ zs (k + 1) : Nat) : Int) := by rw [wrap64_of (by omega) (by omega)]; omega
      refine h3.idx rfl hgk (decide_eq_true (by omega)) fun ad ea hc => ⟨_, ldRw1 hc, ?_⟩
      have e01 : (e0 zs k).2.1 = ((offZ zs k : Nat) : Int) := rfl
      rw [e01, ew1]
      refine h3.idx rfl hgk (decide_eq_true (by omega)) fun ad2 ea2 hc2 => ?_
      refine own_st h3 ea2 rfl hgk (j := 1) (x' := ((e0 zs k).1, ((p + offZ zs k : Nat) : Int), (e0 zs k).2.2)) (by kernel_rfl) (by kernel_rfl) (fun x hx => by simp [Value.cells] at hx; subst hx; rfl) (by show 1 + 1 ≤ 3; omega) rfl fun H4 h4 f4 => ?_
      have hgk4 : ((esK zs p k).set k ((e0 zs k).1, ((p + offZ zs k : Nat) : Int), (e0 zs k).2.2))[k]? = some ((e0 zs k).1, ((p + offZ zs k : Nat) : Int), (e0 zs k).2.2) := by rw [List.getElem?_set_self (by rw [esK_len]; omega)]
      refine h4.idx rfl hgk4 (decide_eq_true (by omega)) fun ad3 ea3 hc3 => ⟨_, ldRw2 hc3, ?_⟩
      have e02 : (e0 zs k).2.2 = ((offZ zs (k + 1) : Nat) : Int) := rfl
      simp only
      rw [e02, ew2]
      rw [e02] at hgk4 h4
      refine h4.idx rfl hgk4 (decide_eq_true (by omega)) fun ad4 ea4 hc4 => ?_
      refine own_st h4 ea4 rfl hgk4 (j := 2) (x' := ((e0 zs k).1, ((p + offZ zs k : Nat) : Int), ((p + offZ zs (k + 1) : Nat) : Int))) (by kernel_rfl) (by kernel_rfl) (fun x hx => by simp [Value.cells] at hx; subst hx; rfl) (by show 2 + 1 ≤ 3; omega) rfl fun H5 h5 f5 => ?_
      rw [List.set_set] at h5
      rw [succ64 (by omega)]
      have hmu : n - ((k + 1 : Nat) : Int).toNat < n - ((k : Nat) : Int).toNat := by omega
      exact ⟨⟨k + 1, rfl, by omega, by rw [esK_succ (by omega)]; exact h5, (f3.keep f4 fun k hk => (h3.ge k hk).1).keep f5 fun k hk => (h4.ge k hk).1⟩, hmu⟩
    · have hkn : k = n := by simp at hge2; omega
      subst hkn
      have ew : IntKind.wrap .i64 ((s.size : Int) - (p : Int)) = ((s.size - p : Nat) : Int) := by rw [wrap64_of (by omega) (by omega)]; omega
      rw [ew]
      by_cases hall : sumZ zs = s.size - p
      · obtain ⟨t1, t2⟩ := d1 hall
        have : (((sumZ zs : Nat) : Int) == ((s.size - p : Nat) : Int)) = true := by rw [hall]; simp
        rw [this]
        refine ⟨_, _, _, _, rfl, hyes zs _ _ _ _ t1 ?_ f3⟩
        rw [← t2, ← hnl]; exact h3
      · have : (((sumZ zs : Nat) : Int) == ((s.size - p : Nat) : Int)) = false := by
          have : ¬ ((sumZ zs : Nat) : Int) = ((s.size - p : Nat) : Int) := by omega
          simpa using this
        rw [this]
        exact ⟨_, _, _, _, rfl, hno (fun zs' ht => hall (d2 zs' ht)) _ _ _ _ f3⟩

theorem esK_full {zs : List Z} {p i : Nat} {z : Z} (h : zs[i]? = some z) : (esK zs p zs.length)[i]? = some ((z.1 : Int), ((p + offZ zs i : Nat) : Int), ((p + offZ zs (i + 1) : Nat) : Int)) := by
  have hi := (List.getElem?_eq_some_iff.1 h).1
  rw [esK_get hi, if_pos hi, h]; rfl
theorem parts_ok {H : Heap} {a : Option Addr} {n c l b b1 : Nat} {s : ByteArray} {zs : List Z} {I : Nat → List Nat → Heap → Prop} {Stop K : Heap → Prop} {S : List Nat} (hb1 : Blk H ⟨b1, 0, none⟩ [.slice a n c]) (hb : Blk H ⟨b, 0, none⟩ [.string s]) (hx : Sl encRw H a n c (esK zs (posZ zs) zs.length)) (hT : TabP s zs) (hs : s.size ≤ 1000000000)
    (hin : In H S) (hd : b ∉ S ∧ b1 ∉ S ∧ ∀ k ∈ blkL a, k ∉ S) (h0 : I 0 S H) (stab : ∀ i S H1 H2, I i S H1 → Fr [] H1 H2 → I i S H2)
    (step : ∀ i S H1 z, zs[i]? = some z → In H1 S → I i S H1 → YieldH Tryz.prog l [.int .i64 (z.1 : Int), .string (pieceZ s zs i)] H1 fun v H2 => (v = .bool true ∧ ∃ S2, I (i + 1) S2 H2 ∧ Fr S H1 H2 ∧ Grow H1 S S2 ∧ In H2 S2) ∨ (v = .bool false ∧ Stop H2))
    (fin : ∀ S1 H1, I zs.length S1 H1 → In H1 S1 → Fr S H H1 → K H1) (stop : ∀ H1, Stop H1 → K H1) :
    CallV Tryz.prog (.func (.func 91) ⟨[]⟩ ⟨[.pointer (some ⟨b1, 0, none⟩), .pointer (some ⟨b, 0, none⟩)]⟩) [.func (.yield l) ⟨[]⟩ ⟨[]⟩] H fun v H' => v = .tuple ⟨[]⟩ ∧ K H' := by
  refine ⟨91, ⟨[]⟩, _, rfl, by kernel_rfl, ?_⟩
  apply vc_major_parts_1
  have hn : n = zs.length := by have := hx.len; rw [esK_len] at this; exact this
  have hzl := hT.len
  refine ⟨_, _, _, hb1.ld0 (by kernel_rfl) rfl, ?_⟩
  refine ⟨fun vs H' => match vs with | [.int _ i] => ∃ (j : Nat) (S2 : List Nat), i = j ∧ j ≤ n ∧ I j S2 H' ∧ Fr S H H' ∧ Grow H S S2 ∧ In H' S2 | _ => False, fun vs _ => match vs with | [.int _ i] => n - i.toNat | _ => 0,
    ⟨0, S, rfl, by omega, h0, Fr.refl _ _, Grow.refl _ _, hin⟩, ?_⟩
  rintro J i H1 ⟨j, S2, rfl, hj, hI, hf, hg, hin2⟩
  have hx1 := hx.fr hf (blk_of_ne hd.2.2)
  refine brB_of (fun hlt => ?_) (fun hge => ?_)
  · have hlt : j < n := by simp at hlt; omega
    obtain ⟨z, hz⟩ := getElem_ex (l := zs) (i := j) (by omega)
    have he := esK_full (p := posZ zs) hz
    refine hx1.get rfl he (decide_eq_true (by omega)) fun ad ea hc => ⟨_, _, _, ld_many (by kernel_rfl) (by kernel_rfl) hc, ?_⟩
    refine var_blk (by kernel_rfl) (by kernel_rfl) tri_one (by rfl) fun v H2 hvl hv fv => ⟨_, hv.ld0 (by kernel_rfl) rfl, _, ((hb.fr hf hd.1).keep fv).ld0 (by kernel_rfl) rfl, _, hv.ldK (j := 1) (by kernel_rfl) rfl, _, hv.ldK (j := 2) (by kernel_rfl) rfl, ?_⟩
    have o1 := offZ_succ hz
    have o2 := offZ_le zs (j + 1)
    have hsz := hT.size
    refine chk_true (decide_eq_true (show 0 ≤ ((posZ zs + offZ zs j : Nat) : Int) ∧ ((posZ zs + offZ zs j : Nat) : Int) ≤ ((posZ zs + offZ zs (j + 1) : Nat) : Int) ∧ ((posZ zs + offZ zs (j + 1) : Nat) : Int) ≤ (s.size : Int) from ⟨by omega, by omega, by omega⟩)) ?_
    simp only
    rw [Int.toNat_natCast, Int.toNat_natCast]
    refine .inr ⟨l, rfl, (step j S2 H2 z hz (hin2.le fv.size) (stab _ _ _ _ hI fv)).mono fun v H3 => ?_⟩
    rintro (⟨rfl, S3, hI3, hf3, hg3, hin3⟩ | ⟨rfl, hst⟩)
    · rw [succ64 (by omega)]
      have hmu : n - ((j + 1 : Nat) : Int).toNat < n - ((j : Nat) : Int).toNat := by omega
      refine ⟨true, rfl, brB_of (fun h => by simp at h) fun _ => ⟨⟨j + 1, S3, rfl, by omega, hI3, ?_, ?_, hin3⟩, hmu⟩⟩
      · have hfv : Fr S H H2 := hf.trans' fv (fun k hk _ => hk) (by simp)
        exact hfv.trans' hf3 (fun k hk _ => hk) fun k hk hl => (hg k hk).elim id fun h => by omega
      · exact hg.trans hf.size fun k hk => (hg3 k hk).imp id fun h => by have := fv.size; omega
    · exact ⟨false, rfl, brB_of (fun _ => ⟨trivial, stop _ hst⟩) fun h => by simp at h⟩
  · have : j = n := by simp at hge; omega
    subst this
    exact ⟨rfl, fin S2 H1 (by rw [← hn]; exact hI) hin2 hf⟩
theorem mread_ok {s : ByteArray} {H : Heap} {K : Option Addr → Nat → Nat → Int → Heap → Prop} (hs : s.size ≤ 100000000000)
    (hno : (∀ L, SmpP L → bl s = encD L → L = []) → ∀ H', Fr [] H H' → K none 0 0 11 H')
    (hyes : ∀ L a n c H', SmpP L → L ≠ [] → bl s = encD L → Own encS 107 H.size H' a n c L → Fr [] H H' → K a n c 0 H') :
    CallH Tryz.prog fn_major_read ⟨[.string s]⟩ H fun v H' => ∃ a n c e, v = .tuple ⟨[.slice a n c, .int .i64 e]⟩ ∧ K a n c e H' := by
  apply vc_major_read
  refine Decode_ok hs (fun hn H' hf => brB_of (fun _ => ⟨_, _, _, _, rfl, hno (fun L hP hL => absurd hL (hn L hP)) _ hf⟩) fun h => by cases h) fun L a n c H' hP hL ho hf => brB_of (fun h => by cases h) fun _ => ?_
  have hl := ho.1
  refine brB_of (fun h => ⟨_, _, _, _, rfl, hno (fun L' hP' hL' => ?_) _ hf⟩) fun h => ⟨_, _, _, _, rfl, hyes L _ _ _ _ hP (by intro e; rw [e] at hl; simp at hl; simp at h; omega) hL ho hf⟩
  have : L = [] := List.eq_nil_of_length_eq_zero (by simp at h; omega)
  subst this
  exact encD_inj hP' hP (x := []) (y := []) (by rw [← hL', hL])
def GotM (s : ByteArray) (zs : List Z) (ss : List Srs) : Prop := ∀ (j : Nat) (x : Srs), ss[j]? = some x → (∃ z, zs[j]? = some z ∧ x.1 = (z.1 : Int)) ∧ x.2 ≠ [] ∧ SmpP x.2 ∧ bl (pieceZ s zs j) = encD x.2
theorem GotM.maj {s : ByteArray} {zs : List Z} {ss : List Srs} (h : GotM s zs ss) (hT : TabP s zs) (hl : ss.length = zs.length) : MajP ss ∧ bl s = encM ss := by
  refine ⟨⟨⟨?_, fun x hx => ?_⟩, fun x hx => ?_⟩, encM_of hT hl fun i z x hz hx => ?_⟩
  · refine List.pairwise_iff_getElem.2 fun i j hi hj hij => ?_
    obtain ⟨⟨z, hz, e⟩, _⟩ := h i _ (List.getElem?_eq_getElem hi)
    obtain ⟨⟨w, hw, e'⟩, _⟩ := h j _ (List.getElem?_eq_getElem hj)
    obtain ⟨hi', ez⟩ := List.getElem?_eq_some_iff.1 hz
    obtain ⟨hj', ew⟩ := List.getElem?_eq_some_iff.1 hw
    have := List.pairwise_iff_getElem.1 hT.rise i j hi' hj' hij
    rw [ez, ew] at this
    omega
  · obtain ⟨i, hi⟩ := List.mem_iff_getElem?.1 hx
    obtain ⟨_, h1, h2, _⟩ := h i x hi
    exact ⟨h1, h2.ris⟩
  · obtain ⟨i, hi⟩ := List.mem_iff_getElem?.1 hx
    obtain ⟨⟨z, hz, e⟩, h1, h2, _⟩ := h i x hi
    have := hT.lo z (List.mem_of_getElem? hz)
    exact ⟨by omega, h2⟩
  · obtain ⟨⟨w, hw, e⟩, h1, h2, h3⟩ := h i x hx
    rw [hz] at hw
    cases hw
    exact ⟨e, h3⟩
theorem GotM.bad {s : ByteArray} {zs : List Z} {i : Nat} {z : Z} (hT : TabP s zs) (hz : zs[i]? = some z) (h : ∀ L, SmpP L → bl (pieceZ s zs i) = encD L → L = []) : ∀ ss, MajP ss → bl s ≠ encM ss := fun ss hM hs => by
  have hu := hT.uniq (hM.tab hs)
  have hi := (List.getElem?_eq_some_iff.1 hz).1
  have hl : zs.length = ss.length := by rw [hu]; simp [zsM]
  have hx := List.getElem?_eq_getElem (l := ss) (i := i) (by omega)
  have hp := hM.piece hs hx
  rw [← hu] at hp
  exact (hM.right.2 _ (List.mem_of_getElem? hx)).1 (h _ (hM.lo _ (List.mem_of_getElem? hx)).2 hp)
theorem piece_le {s : ByteArray} {zs : List Z} {i : Nat} : (pieceZ s zs i).size ≤ s.size := by
  have h1 := bl_len s
  have := bl_len (pieceZ s zs i)
  unfold pieceZ at this
  rw [bl_ext, List.length_drop, List.length_take, h1] at this
  unfold pieceZ
  omega
structure MajI (s : ByteArray) (zs : List Z) (l D b b1 b3 : Nat) (R0 : Loop) (H0 : Heap) (i : Nat) (S : List Nat) (H : Heap) : Prop where
  fr : Fr [] H0 H
  lp : Lp H l R0 .ready none
  dq : Dq H D
  it : ∃ a n c hs ss, Blk H ⟨b3, 0, none⟩ [.slice a n c] ∧ Own encSr 92 H0.size H a n c hs ∧ SerH H hs ss ∧ ss.length = i ∧ GotM s zs ss ∧ Blk H ⟨b, 0, none⟩ [.slice none 0 0] ∧ Blk H ⟨b1, 0, none⟩ [.int .i64 0] ∧ S = b3 :: l :: D :: b :: b1 :: blkL a ∧ S.Nodup ∧ (∀ m ∈ hs, ∀ k ∈ blkL m.2.1, k ∉ S)
  lo : ∀ k ∈ S, H0.size ≤ k
structure MajX (s : ByteArray) (l D b b1 : Nat) (R0 : Loop) (H0 : Heap) (H : Heap) : Prop where
  fr : Fr [] H0 H
  lp : Lp H l R0 .done (some .ret)
  dq : Dq H D
  b : Blk H ⟨b, 0, none⟩ [.slice none 0 0]
  b1 : Blk H ⟨b1, 0, none⟩ [.int .i64 11]
  no : ∀ ss, MajP ss → bl s ≠ encM ss
theorem SerR.fr {H H' : Heap} {S : List Nat} {m : Sr} {x : Srs} (h : SerR H m x) (hf : Fr S H H') (hd : ∀ k ∈ blkL m.2.1, k ∉ S) : SerR H' m x := ⟨h.1, h.2.fr hf (blk_of_ne hd)⟩
theorem SerH.fr {H H' : Heap} {S : List Nat} {hs : List Sr} {ss : List Srs} (h : SerH H hs ss) (hf : Fr S H H') (hd : ∀ m ∈ hs, ∀ k ∈ blkL m.2.1, k ∉ S) : SerH H' hs ss := h.mono fun m x hm _ hr => SerR.fr hr hf (hd m hm)
theorem majDecode_ok {s : ByteArray} {H : Heap} {K : Option Addr → Nat → Nat → Int → Heap → Prop} (hs : s.size ≤ 1000000000)
    (hno : (∀ ss, MajP ss → bl s ≠ encM ss) → ∀ H', Fr [] H H' → K none 0 0 11 H')
    (hyes : ∀ ss hs a n c H', MajP ss → bl s = encM ss → Sl encSr H' a n c hs → SerH H' hs ss → Fr [] H H' → K a n c 0 H') :
    CallH Tryz.prog fn_major_Decode ⟨[.string s]⟩ H fun v H' => ∃ a n c e, v = .tuple ⟨[.slice a n c, .int .i64 e]⟩ ∧ K a n c e H' := by
  apply vc_major_Decode
  intro b H1 hn1 b1 H2 hn2
  have e1 := hn1.eq
  have e2 := hn2.eq
  have z1 := hn1.size
  have z2 := hn2.size
  have f02 : Fr [] H H2 := hn1.fr.keep0 hn2.fr
  have hb := hn1.blk.keep hn2.fr
  have hb1 := hn2.blk
  refine table_ok hs (fun hn a n c H3 f3 => brB_of (fun _ => ?_) fun h => by cases h) fun zs a n c H3 hT ho f3 => brB_of (fun h => by cases h) fun _ => ?_
  · have z3 := f3.size
    refine (hb.keep f3).st0 (v := .slice none 0 0) (by kernel_rfl) (by kernel_rfl) one_slice (by simp [Value.cells]) fun H4 hb4 f4 => ?_
    refine ((hb1.keep f3).fr f4 (by simp; omega)).st0 (v := .int .i64 11) (by kernel_rfl) (by kernel_rfl) (fun x hx => by simp [Value.cells] at hx; subst hx; rfl) (by simp [Value.cells]) fun H5 hb5 f5 => ?_
    refine ⟨_, _, _, (hb4.fr f5 (by simp; omega)).ld0 (by kernel_rfl) rfl, _, hb5.ld0 (by kernel_rfl) rfl, _, _, _, _, rfl, hno (fun ss hM hss => hn _ (hM.tab hss)) _ ?_⟩
    exact ((f02.keep0 f3).keep f4 fun k hk => by simp at hk; omega).keep f5 fun k hk => by simp at hk; omega
  · have z3 := f3.size
    intro b3 H4 hn4
    apply vc_major_parts
    intro c1 H5 hn5 c2 H6 hn6
    refine ⟨_, rfl, fun D l R0 H7 hnl hY => ?_⟩
    obtain ⟨f67, lp7, dq7, eD, el, z7⟩ := hnl.out
    have e4 := hn4.eq
    have e5 := hn5.eq
    have e6 := hn6.eq
    have z4 := hn4.size
    have z5 := hn5.size
    have z6 := hn6.size
    have f47 : Fr [] H4 H7 := (hn5.fr.keep0 hn6.fr).keep0 f67
    have f37 := hn4.fr.keep0 f47
    have f27 := f3.keep0 f37
    have f07 := f02.keep0 f27
    have hnz : n = zs.length := by have := ho.1; rw [esK_len] at this; exact this
    have hal : ∀ k ∈ blkL a, H2.size ≤ k ∧ k < H3.size := fun k hk => ho.ge k hk
    have nd : (b3 :: l :: D :: b :: b1 :: blkL (none : Option Addr)).Nodup := by
      simp only [List.nodup_cons, List.mem_cons, blkL, List.not_mem_nil, or_false, not_or]
      refine ⟨⟨by omega, by omega, by omega, by omega⟩, ⟨by omega, by omega, by omega⟩, ⟨by omega, by omega⟩, by omega, by simp, List.nodup_nil⟩
    have hS0 : ∀ k ∈ [b3, l, D, b, b1], H.size ≤ k ∧ k < H7.size ∧ k ≠ c1 ∧ k ≠ c2 ∧ k ∉ blkL a := fun k hk => by
      simp only [List.mem_cons, List.mem_nil_iff, or_false] at hk
      refine ⟨by omega, by omega, by omega, by omega, fun hk2 => ?_⟩
      have := hal k hk2
      omega
    refine CallV.mono (parts_ok (b1 := c2) (b := c1) (K := fun H9 => (∃ S1, MajI s zs l D b b1 b3 R0 H zs.length S1 H9) ∨ MajX s l D b b1 R0 H H9) (hn6.blk.keep f67) ((hn5.blk.keep hn6.fr).keep f67) (ho.sl.keep f37) hT hs (S := [b3, l, D, b, b1]) (fun k hk => (hS0 k hk).2.1) ⟨fun hk => (hS0 c1 hk).2.2.1 rfl, fun hk => (hS0 c2 hk).2.2.2.1 rfl, fun k hk hk2 => (hS0 k hk2).2.2.2.2 hk⟩ (I := MajI s zs l D b b1 b3 R0 H) (Stop := MajX s l D b b1 R0 H) ?_ ?_ ?_ (fun S1 H9 hT _ _ => .inl ⟨S1, hT⟩) (fun H9 hx => .inr hx)) fun v H9 => ?_
    · exact ⟨f07, lp7, dq7, ⟨none, 0, 0, [], [], hn4.blk.keep f47, Own.nil .., .nil, rfl, (fun j x h => by simp at h), hb.keep f27, hb1.keep f27, rfl, nd, (fun m hm => by cases hm)⟩, fun k hk => (hS0 k hk).1⟩
    · rintro i S Ha Hb ⟨h1, h2, h3, ⟨p, m, d, hs', ss, q1, q2, q3, q4, q5, q6, q7, q8, q9, q10⟩, h5⟩ hf
      exact ⟨h1.keep0 hf, h2.fr hf (by simp), h3.fr hf (by simp), ⟨p, m, d, hs', ss, q1.keep hf, q2.keep hf, q3.keep hf, q4, q5, q6.keep hf, q7.keep hf, q8, q9, q10⟩, h5⟩
    · rintro i S H9 z hz hin ⟨h1, h2, h3, ⟨p, m, d, hs', ss, q1, q2, q3, q4, q5, q6, q7, q8, q9, q10⟩, h5⟩
      have fL := setLp_fr H9 l R0 .busy none
      have sL := setLp_size H9 l R0 .busy none
      have nd := q9
      rw [q8] at nd
      simp only [List.nodup_cons, List.mem_cons, not_or] at nd
      obtain ⟨⟨n31, n3D, n3b, n3b1, n3p⟩, ⟨nlD, nlb, nlb1, nlp⟩, ⟨nDb, nDb1, nDp⟩, ⟨nbb1, nbp⟩, nb1p, _⟩ := nd
      have inS : ∀ k ∈ [b3, l, D, b, b1], k ∈ S := fun k hk => by rw [q8]; exact List.mem_append_left (blkL p) hk
      have lS : l ∈ S := inS l (by simp)
      refine hY _ _ H9 (fun v H2 => (v = .bool true ∧ ∃ S2, MajI s zs l D b b1 b3 R0 H (i + 1) S2 H2 ∧ Fr S H9 H2 ∧ Grow H9 S S2 ∧ In H2 S2) ∨ (v = .bool false ∧ MajX s l D b b1 R0 H H2)) h2 ⟨h2, ?_⟩
      have hbL := q6.fr fL (by simpa using fun e => nlb e.symm)
      have hb1L := q7.fr fL (by simpa using fun e => nlb1 e.symm)
      have hb3L := q1.fr fL (by simpa using n31)
      have hDL := h3.fr fL (by simpa using fun e => nlD e.symm)
      have lpL : Lp (setLp H9 l R0 .busy none) l R0 .busy none := setLp_get h2.lt
      have hpl := piece_le (s := s) (zs := zs) (i := i)
      refine mread_ok (by omega) (fun hbad H10 f10 => brB_of (fun _ => ?_) fun h => by cases h) fun L a5 n5 c5 H10 hP hne hL o10 f10 => brB_of (fun h => by cases h) fun _ => ?_
      · refine (hbL.keep f10).st0 (v := .slice none 0 0) (by kernel_rfl) (by kernel_rfl) one_slice (by simp [Value.cells]) fun H11 hb11 f11 => ?_
        refine ((hb1L.keep f10).fr f11 (by simpa using fun e => nbb1 e.symm)).st0 (v := .int .i64 11) (by kernel_rfl) (by kernel_rfl) (fun x hx => by simp [Value.cells] at hx; subst hx; rfl) (by simp [Value.cells]) fun H12 hb12 f12 => ?_
        have lp12 : Lp H12 l R0 .busy none := ((lpL.fr f10 (by simp)).fr f11 (by simpa using nlb)).fr f12 (by simpa using nlb1)
        have fE := setLp_fr H12 l R0 .done (some .ret)
        refine ⟨lp12, .inr ⟨rfl, ?_, setLp_get lp12.lt, (((hDL.fr f10 (by simp)).fr f11 (by simpa using nDb)).fr f12 (by simpa using nDb1)).fr fE (by simpa using fun e => nlD e.symm), (hb11.fr f12 (by simpa using nbb1)).fr fE (by simpa using fun e => nlb e.symm), hb12.fr fE (by simpa using fun e => nlb1 e.symm), GotM.bad hT hz hbad⟩⟩
        exact ((((h1.keep fL fun k hk => by simp at hk; subst hk; exact h5 _ lS).keep0 f10).keep f11 fun k hk => by simp at hk; subst hk; exact h5 _ (inS _ (by simp))).keep f12 fun k hk => by simp at hk; subst hk; exact h5 _ (inS _ (by simp))).keep fE fun k hk => by simp at hk; subst hk; exact h5 _ lS
      · refine ⟨p, m, d, (hb3L.keep f10).ld0 (by kernel_rfl) rfl, ?_⟩
        intro b9 H11 hn11
        have qL := q2.fr fL (blk_of_ne fun k kk hm => nlp (by simp at hm; subst hm; exact kk))
        have o11 := (qL.keep f10).keep hn11.fr
        have z9 := h1.size
        have z10 := f10.size
        have z11 := hn11.size
        have hl2 := q3.len
        have hml := q2.1
        have hzl := hT.len
        have hiz := (List.getElem?_eq_some_iff.1 hz).1
        refine ap_grow slice37 elem68 o11 (sl_one encSr ((z.1 : Int), a5, n5, c5) hn11 rfl) (by omega) (by omega) fun q m2 d2 H12 h12 f12 g12 => ?_
        have hb312 := ((hb3L.keep f10).keep hn11.fr).fr f12 n3p
        have lpS : ∀ k ∈ blkL p, k ∈ S := fun k hk => by rw [q8]; simp [hk]
        refine hb312.st0 (v := .slice q m2 d2) (by kernel_rfl) (by kernel_rfl) one_slice (by simp [Value.cells]) fun H13 hb13 f13 => ?_
        have lp13 : Lp H13 l R0 .busy none := (((lpL.fr f10 (by simp)).fr hn11.fr (by simp)).fr f12 nlp).fr f13 (by simpa using fun e => n31 e.symm)
        have fE := setLp_fr H13 l R0 .ready none
        have sE := setLp_size H13 l R0 .ready none
        have hq : ∀ k ∈ blkL q, k ∈ blkL p ∨ H9.size ≤ k := fun k hk => (g12 k hk).imp id fun h => by omega
        have hinS := hin
        have ndq : (b3 :: l :: D :: b :: b1 :: blkL q).Nodup := by
          have key : ∀ x ∈ [b3, l, D, b, b1], x ∉ blkL p → x ∉ blkL q := fun x hx hnp hxq => (hq x hxq).elim hnp fun h => by have := hin x (inS x hx); omega
          simp only [List.nodup_cons, List.mem_cons, not_or]
          exact ⟨⟨n31, n3D, n3b, n3b1, key b3 (by simp) n3p⟩, ⟨nlD, nlb, nlb1, key l (by simp) nlp⟩, ⟨nDb, nDb1, key D (by simp) nDp⟩, ⟨nbb1, key b (by simp) nbp⟩, key b1 (by simp) nb1p, blkL_nodup _⟩
        have ndq' := ndq
        simp only [List.nodup_cons, List.mem_cons, not_or] at ndq'
        obtain ⟨⟨_, _, _, _, m3p⟩, ⟨_, _, _, mlp⟩, ⟨_, _, mDp⟩, ⟨_, mbp⟩, mb1p, _⟩ := ndq'
        have F : Fr S H9 (setLp H13 l R0 .ready none) := ((((fL.trans' f10 (T := S) (fun k hk _ => by simp at hk; subst hk; exact lS) (by simp)).trans' hn11.fr (fun k hk _ => hk) (by simp)).trans' f12 (fun k hk _ => hk) fun k hk _ => lpS k hk).trans' f13 (fun k hk _ => hk) fun k hk _ => by simp at hk; subst hk; exact inS _ (by simp)).trans' fE (fun k hk _ => hk) fun k hk _ => by simp at hk; subst hk; exact lS
        have z12 := f12.size
        have z13 := f13.size
        have a5n : ∀ k ∈ blkL a5, H9.size ≤ k ∧ k < H10.size := fun k hk => by have := o10.ge k hk; omega
        have dn : ∀ m ∈ hs' ++ [((z.1 : Int), a5, n5, c5)], ∀ k ∈ blkL m.2.1, k ∉ b3 :: l :: D :: b :: b1 :: blkL q := fun m hm k hk hk2 => by
          rcases List.mem_append.1 hm with h | h
          · have h3 := q10 m h k hk
            have hk2' : k ∈ [b3, l, D, b, b1] ∨ k ∈ blkL q := by simpa [or_assoc] using hk2
            rcases hk2' with h4 | h4
            · exact h3 (inS k h4)
            · rcases g12 k h4 with h5 | h5
              · exact h3 (lpS k h5)
              · obtain ⟨x, _, hr⟩ := q3.mem h
                by_cases hx : x.2 = []
                · -- an empty series has no block that counts
                  exfalso
                  obtain ⟨j, hj⟩ := List.mem_iff_getElem?.1 (by assumption : x ∈ ss)
                  exact (q5 j x hj).2.1 hx
                · have := sl_lt hr.2 hx k hk
                  omega
          · simp at h; subst h
            have hk5 := a5n k hk
            have hk2' : k ∈ [b3, l, D, b, b1] ∨ k ∈ blkL q := by simpa [or_assoc] using hk2
            rcases hk2' with h4 | h4
            · have := hin k (inS k h4); omega
            · rcases g12 k h4 with h5 | h5
              · have := hin k (lpS k h5); omega
              · omega
        refine ⟨lp13, .inl ⟨rfl, b3 :: l :: D :: b :: b1 :: blkL q, ⟨h1.keep F h5, setLp_get lp13.lt, ?_, ⟨q, m2, d2, hs' ++ [((z.1 : Int), a5, n5, c5)], ss ++ [((z.1 : Int), L)], ?_, ?_, ?_, by simp; omega, fun j x hx => ?_, ?_, ?_, rfl, ndq, dn⟩, fun k hk => ?_⟩, F, fun k hk => ?_, fun k hk => ?_⟩⟩
        · exact ((((hDL.fr f10 (by simp)).fr hn11.fr (by simp)).fr f12 nDp).fr f13 (by simpa using fun e => n3D e.symm)).fr fE (by simpa using fun e => nlD e.symm)
        · simpa [Value.cells] using hb13.fr fE (by simpa using n31)
        · exact (h12.fr f13 (blk_of_ne fun k kk hm => m3p (by simp at hm; subst hm; exact kk))).fr fE (blk_of_ne fun k kk hm => mlp (by simp at hm; subst hm; exact kk))
        · refine All2.app (SerH.fr q3 F fun m hm k hk => q10 m hm k hk) (.cons ⟨rfl, ?_⟩ .nil)
          have hmem : ((z.1 : Int), a5, n5, c5) ∈ hs' ++ [((z.1 : Int), a5, n5, c5)] := by simp
          have hno : ∀ k ∈ blkL a5, k ∉ [b3, l] ∧ k ∉ blkL p := fun k hk => by
            have h := dn _ hmem k hk
            refine ⟨fun hh => h (by simp only [List.mem_cons, List.mem_nil_iff, or_false] at hh; rcases hh with rfl | rfl <;> simp), fun hh => ?_⟩
            have := hin k (lpS k hh)
            have := a5n k hk
            omega
          exact (((o10.sl.keep hn11.fr).fr f12 (blk_of_ne fun k kk => (hno k kk).2)).fr f13 (blk_of_ne fun k kk hm => (hno k kk).1 (by simp at hm; simp [hm]))).fr fE (blk_of_ne fun k kk hm => (hno k kk).1 (by simp at hm; simp [hm]))
        · rcases Nat.lt_or_ge j ss.length with h | h
          · rw [List.getElem?_append_left h] at hx
            exact q5 j x hx
          · rw [List.getElem?_append_right h] at hx
            have h0 : j - ss.length = 0 := by
              rcases Nat.eq_zero_or_pos (j - ss.length) with h' | h'
              · exact h'
              · rw [List.getElem?_eq_none (by simp; omega)] at hx; cases hx
            rw [h0] at hx
            simp at hx
            subst hx
            have : j = i := by omega
            subst this
            exact ⟨⟨z, hz, rfl⟩, hne, hP, hL⟩
        · exact ((((hbL.keep f10).keep hn11.fr).fr f12 nbp).fr f13 (by simpa using fun e => n3b e.symm)).fr fE (by simpa using fun e => nlb e.symm)
        · exact ((((hb1L.keep f10).keep hn11.fr).fr f12 nb1p).fr f13 (by simpa using fun e => n3b1 e.symm)).fr fE (by simpa using fun e => nlb1 e.symm)
        · have hk' : k ∈ [b3, l, D, b, b1] ∨ k ∈ blkL q := by simpa [or_assoc] using hk
          rcases hk' with h | h
          · exact h5 k (inS k h)
          · exact (h12.ge k h).1
        · have hk' : k ∈ [b3, l, D, b, b1] ∨ k ∈ blkL q := by simpa [or_assoc] using hk
          rcases hk' with h | h
          · exact .inl (inS k h)
          · exact (hq k h).imp (lpS k) id
        · have hk' : k ∈ [b3, l, D, b, b1] ∨ k ∈ blkL q := by simpa [or_assoc] using hk
          rcases hk' with h | h
          · have := hin k (inS k h); omega
          · have := (h12.ge k h).2; omega
    · rintro ⟨rfl, ⟨S, h1, h2, h3, ⟨p, m, d, hs', ss, q1, q2, q3, q4, q5, q6, q7, q8, q9, q10⟩, h5⟩ | ⟨h1, h2, h3, h4, h5, h6⟩⟩
      · have nd := q9
        rw [q8] at nd
        simp only [List.nodup_cons, List.mem_cons, not_or] at nd
        obtain ⟨⟨n31, n3D, n3b, n3b1, n3p⟩, ⟨nlD, nlb, nlb1, nlp⟩, ⟨nDb, nDb1, nDp⟩, ⟨nbb1, nbp⟩, nb1p, _⟩ := nd
        have inS : ∀ k ∈ [b3, l, D, b, b1], k ∈ S := fun k hk => by rw [q8]; exact List.mem_append_left (blkL p) hk
        have fE := setLp_fr H9 l R0 .exhausted none
        refine .inl ⟨h2, p, m, d, (q1.fr fE (by simpa using n31)).ld0 (by kernel_rfl) rfl, ?_⟩
        refine (q6.fr fE (by simpa using fun e => nlb e.symm)).st0 (v := .slice p m d) (by kernel_rfl) (by kernel_rfl) one_slice (by simp [Value.cells]) fun H10 hb10 f10 => ?_
        refine ((q7.fr fE (by simpa using fun e => nlb1 e.symm)).fr f10 (by simpa using fun e => nbb1 e.symm)).st0 (v := .int .i64 0) (by kernel_rfl) (by kernel_rfl) (fun x hx => by simp [Value.cells] at hx; subst hx; rfl) (by simp [Value.cells]) fun H11 hb11 f11 => ?_
        have fD := shutD_fr H11 D
        have dq11 := ((h3.fr fE (by simpa using fun e => nlD e.symm)).fr f10 (by simpa using nDb)).fr f11 (by simpa using nDb1)
        have hb11' := hb10.fr f11 (by simpa using nbb1)
        have F : Fr [b3, l, D, b, b1] H9 (shutD H11 D) := ((fE.trans' f10 (T := [b3, l, D, b, b1]) (fun k hk _ => by simp at hk; subst hk; simp) (fun k hk _ => by simp at hk; subst hk; simp)).trans' f11 (fun k hk _ => hk) (fun k hk _ => by simp at hk; subst hk; simp)).trans' fD (fun k hk _ => hk) (fun k hk _ => by simp at hk; subst hk; simp)
        obtain ⟨hM, hE⟩ := GotM.maj q5 hT q4
        refine ⟨dq11, _, _, _, (hb11'.fr fD (by simpa using fun e => nDb e.symm)).ld0 (by kernel_rfl) rfl, _, (hb11.fr fD (by simpa using fun e => nDb1 e.symm)).ld0 (by kernel_rfl) rfl, _, _, _, _, rfl, hyes ss hs' _ _ _ _ hM hE (q2.sl.fr F (blk_of_ne fun k kk hm => ?_)) (SerH.fr q3 F fun m hm k hk hm2 => q10 m hm k hk (inS k hm2)) (h1.keep F fun k hk => h5 k (inS k hk))⟩
        simp only [List.mem_cons, List.mem_nil_iff, or_false] at hm
        rcases hm with rfl | rfl | rfl | rfl | rfl
        · exact n3p kk
        · exact nlp kk
        · exact nDp kk
        · exact nbp kk
        · exact nb1p kk
      · have fE := setLp_fr H9 l R0 .exhausted (some .ret)
        have hlD : l ≠ D := by omega
        have hlb : l ≠ b := by omega
        have hlb1 : l ≠ b1 := by omega
        have hDb : D ≠ b := by omega
        have hDb1 : D ≠ b1 := by omega
        have fD := shutD_fr (setLp H9 l R0 .exhausted (some .ret)) D
        refine .inr ⟨h2, h3.fr fE (by simpa using fun e => hlD e.symm), _, _, _, ((h4.fr fE (by simpa using fun e => hlb e.symm)).fr fD (by simpa using fun e => hDb e.symm)).ld0 (by kernel_rfl) rfl, _, ((h5.fr fE (by simpa using fun e => hlb1 e.symm)).fr fD (by simpa using fun e => hDb1 e.symm)).ld0 (by kernel_rfl) rfl, _, _, _, _, rfl, hno h6 _ ?_⟩
        exact (h1.keep fE fun k hk => by simp at hk; omega).keep fD fun k hk => by simp at hk; omega
end Go.Proofs
