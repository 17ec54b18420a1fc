/- Turned by a program of mine (portall.py) out of the same text of another seat. -/
import Derived.Test.YtjclcccjdnllgaaGreatC02h
import Derived.Test.YtjclcccjdnllgaaGreatL02
import Derived.Test.YtjclcccjdnllgaaGreatVcC
set_option linter.unusedVariables false
set_option maxRecDepth 100000
open Go Go.GV
namespace Go.Proofs

structure TwoR (xs : List Smp) (base : Nat) (H : Heap) (a : Option Addr) (n c : Nat) (a' : Option Addr) (n' c' : Nat) (i : Nat) : Prop where
  own : Own encN 89 base H a n c ((tsL xs).take i)
  own' : Own encN 89 base H a' n' c' ((vsL xs).take i)
  dj : ∀ k ∈ blkL a, k ∉ blkL a'
theorem rEncode_ok {H : Heap} {a : Option Addr} {n c : Nat} {xs : List Smp} {K : ByteArray → Int → Heap → Prop} (hx : Sl encS H a n c xs) (hv : ∀ x ∈ xs, I64 x.2) (hn : n ≤ 1000000000)
    (hbig : 5000 < n → K ⟨#[]⟩ 1 H) (hbad : n ≤ 5000 → ¬ SmpP xs → ∀ H', Fr [] H H' → K ⟨#[]⟩ 30 H') (hok : SmpP xs → ∀ H', Fr [] H H' → K ⟨(encD xs).toArray⟩ 0 H') :
    CallH Tryz.prog fn_ref03_Encode ⟨[.slice a n c]⟩ H fun v H' => ∃ s e, v = .tuple ⟨[.string s, .int .i64 e]⟩ ∧ K s e H' := by
  apply vc_ref03_Encode
  have hlen := hx.len
  refine brB_of (fun h => ⟨_, _, rfl, hbig (by simp at h; omega)⟩) (fun h => ?_)
  have hn5 : n ≤ 5000 := by simp at h; omega
  clear h
  refine ⟨fun vs H' => match vs with | [.int _ i] => ∃ j : Nat, i = j ∧ j ≤ n ∧ okTo xs j ∧ H' = H | _ => False, fun vs _ => match vs with | [.int _ i] => n - i.toNat | _ => 0,
    ⟨0, rfl, by omega, okTo_zero _, rfl⟩, ?_⟩
  rintro J i H1 ⟨j, rfl, hj, hok1, rfl⟩
  refine brB_of (fun hlt => ?_) (fun hge => ?_)
  · have hlt : j < n := by simp at hlt; omega
    have hs := smp_at (l := xs) (i := j) (by omega)
    refine ⟨fun _ H' => H' = H1 ∧ (0 ≤ tAt xs j ∧ tAt xs j < 1099511627776) ∧ (0 < j → tAt xs (j - 1) < tAt xs j), ⟨fun vs H' => match vs with | [.bool b] => H' = H1 ∧ (b = false ↔ (0 ≤ tAt xs j ∧ tAt xs j < 1099511627776) ∧ (0 < j → tAt xs (j - 1) < tAt xs j)) | _ => False, ?_, ?_⟩, ?_⟩
    · refine hx.get rfl hs (decide_eq_true (by omega)) fun ad ea hc => ⟨_, ldT hc, ?_⟩
      refine brB_of (fun h => ⟨rfl, by simp at h; simp; omega⟩) fun h => ?_
      have h := of_decide_eq_false h
      refine hx.get rfl hs (decide_eq_true (by omega)) fun ad ea hc => ⟨_, ldT hc, ?_⟩
      refine brB_of (fun h2 => ⟨rfl, by simp at h2; simp; omega⟩) fun h2 => ?_
      have h2 := of_decide_eq_false h2
      simp only at h h2
      refine brB_of (fun h0 => ?_) fun h0 => ⟨rfl, ?_⟩
      · have h0 : 0 < j := by simp at h0; omega
        have hs0 := smp_at (l := xs) (i := j - 1) (by omega)
        refine hx.get rfl hs (decide_eq_true (by omega)) fun ad ea hc => ⟨_, ldT hc, ?_⟩
        rw [pred64 (by omega) h0]
        refine hx.get rfl hs0 (decide_eq_true (by omega)) fun ad ea hc => ⟨_, ldT hc, rfl, ?_⟩
        simp only [decide_eq_false_iff_not]
        omega
      · have : j = 0 := by simp at h0; omega
        subst this
        simp
        omega
    · rintro J b H2 ⟨rfl, hb⟩
      refine brB_of (fun h => ⟨_, _, rfl, hbad hn5 (fun hP => ?_) H2 (Fr.refl _ _)⟩) (fun h => ⟨rfl, hb.1 h⟩)
      have := hb.2 (hP.okTo j (by omega))
      rw [this] at h
      cases h
    · rintro J H2 ⟨rfl, h1, h2⟩
      rw [succ64 (by omega)]
      have hmu : n - ((j + 1 : Nat) : Int).toNat < n - ((j : Nat) : Int).toNat := by omega
      exact ⟨⟨j + 1, rfl, by omega, okTo_succ hok1 h1 h2, rfl⟩, hmu⟩
  · have : j = n := by simp at hge; omega
    subst this
    have hP : SmpP xs := smpP_of (by omega) (by rw [← hlen]; exact hok1) hv
    have hok := hok hP
    rw [nat_wrapU (n := j) (by omega)]
    refine rUint_ok (by omega) fun H2 f2 => ?_
    refine brB_of (fun hz => ⟨_, _, rfl, ?_⟩) (fun hpos => ?_)
    · have hj0 : j = 0 := by simp at hz; omega
      subst hj0
      have e : xs = [] := List.eq_nil_of_length_eq_zero (by omega)
      subst e
      have e : encD [] = uintL 0 := by simp [encD, headL, tailL]
      rw [← e]
      exact hok _ f2
    · have hpos : 0 < j := by simp at hpos; omega
      have hs := smp_at (l := xs) (i := 0) (by omega)
      have h0 := hP.at (i := 0) (by omega)
      refine (hx.keep f2).get (k := 0) rfl hs (decide_eq_true (by omega)) fun ad ea hc => ⟨tAt xs 0, by have := ldT hc; simpa [Addr.add] using this, ?_⟩
      refine (hx.keep f2).get (k := 0) rfl hs (decide_eq_true (by omega)) fun ad2 ea2 hc2 => ⟨vAt xs 0, by have := ld_part (P := Tryz.prog) (t := 3) (by kernel_rfl) hc2 (j := 1) rfl; simpa [Addr.add] using this, ?_⟩
      have eT : tAt xs 0 = (((tAt xs 0).toNat : Nat) : Int) := by omega
      rw [show IntKind.wrap .u64 (tAt xs 0) = IntKind.wrap .u64 (((tAt xs 0).toNat : Nat) : Int) by rw [← eT], nat_wrapU (n := (tAt xs 0).toNat) (by omega)]
      refine rUint_ok (by omega) fun H3 g3 => ⟨by have := ld_part (P := Tryz.prog) (t := 3) (by kernel_rfl) (hc2.keep g3) (j := 1) rfl; simpa [Addr.add] using this, ?_⟩
      have f3 := f2.keep0 g3
      have z1 := uintL_len10 (n := j) (by omega)
      have z2 := uintL_len10 (n := (tAt xs 0).toNat) (by omega)
      have z3 := uintL_len10 (foldN_lt h0.2)
      refine chk_true (decide_eq_true (by rw [size_mk, size_mk]; omega)) ?_
      refine rInt_ok h0.2 fun H4 g4 => ?_
      have f4 := f3.keep0 g4
      have ehd : headL xs = uintL (tAt xs 0).toNat ++ intL (vAt xs 0) := by
        cases xs with
        | nil => simp at hs
        | cons x l => rfl
      have ej : uintL j = uintL xs.length := by rw [← hlen]
      rw [mk_app, mk_app, List.append_assoc, ← ehd, ej]
      rw [ej] at z1
      have zh := headL_len hP
      refine chk_true (decide_eq_true (by rw [size_mk, size_mk, List.length_append]; unfold intL; omega)) (brB_of (fun h1 => ⟨_, _, rfl, ?_⟩) (fun h1 => ?_))
      · have : tailL xs = [] := by unfold tailL; rw [if_pos (by simp at h1; omega)]
        have e : encD xs = uintL xs.length ++ headL xs := by unfold encD; rw [this, List.append_nil]
        rw [← e]
        exact hok _ f4
      · have h2 : 2 ≤ xs.length := by simp at h1; omega
        intro b H5 hn5' b1 H6 hn6
        have s4 := f4.size
        have eb := hn5'.eq
        have eb1 := hn6.eq
        have s5 := hn5'.size
        refine ⟨fun vs H' => match vs with | [.slice p m d, .slice p' m' d', .int _ ah, .int _ i] => ∃ q : Nat, i = ((q + 1 : Nat) : Int) ∧ q + 1 ≤ j ∧ ah = aAt xs q ∧ TwoR xs H1.size H' p m d p' m' d' q ∧ Fr [] H1 H' | _ => False, fun vs _ => match vs with | [_, _, _, .int _ i] => j - i.toNat | _ => 0,
          ⟨0, rfl, by omega, rfl, ⟨(Own.made encN 89 hn5' (by omega)).keep hn6.fr, Own.made encN 89 hn6 (by omega), fun k hk hk2 => by simp [blkL] at hk hk2; omega⟩, (f4.keep0 hn5'.fr).keep0 hn6.fr⟩, ?_⟩
        rintro J3 p m d p' m' d' ah i H7 ⟨q, rfl, hq, rfl, ⟨o1, o2, od⟩, f7⟩
        have hm := o1.1
        have hm' := o2.1
        rw [List.length_take, tsL_len] at hm
        rw [List.length_take, vsL_len] at hm'
        refine brB_of (fun hlt => ?_) (fun hge => ?_)
        · have hlt : q + 1 < xs.length := by simp at hlt; omega
          have hsq := smp_at (l := xs) (i := q) (by omega)
          have hsq1 := smp_at (l := xs) (i := q + 1) (by omega)
          have e1 : IntKind.wrap .i64 (((q + 1 : Nat) : Int) - 1) = ((q : Nat) : Int) := by rw [wrap64_of (by omega) (by omega)]; omega
          rw [e1, succ64 (by omega)]
          refine (hx.keep f7).get rfl hsq1 (decide_eq_true (by omega)) fun ad3 ea3 hc3 => ⟨_, ldT hc3, ?_⟩
          refine (hx.keep f7).get rfl hsq (decide_eq_true (by omega)) fun ad4 ea4 hc4 => ⟨_, ldT hc4, ?_⟩
          have hdi := hP.dist (i := q) (by omega)
          have hah := hP.ahead (i := q) (by omega)
          have e3 : IntKind.wrap .i64 (tAt xs (q + 1) - tAt xs q) = dAt xs q := wrap64_of (n := dAt xs q) (by omega) (by omega)
          have e4 : IntKind.wrap .i64 (dAt xs q - aAt xs q) = dAt xs q - aAt xs q := wrap64_of (by omega) (by omega)
          rw [e3, e4]
          refine rFold_ok ⟨by omega, by omega⟩ fun b3 H8 hn8 => ?_
          have f8 := f7.keep0 hn8.fr
          refine ap_grow slice138 elem89 (o1.keep hn8.fr) (sl_one encN (tN xs q) hn8 rfl) (by have := f8.size; omega) (by omega) fun p2 m2 d2 H9 h9 g9 w9 => ?_
          have f9 : Fr [] H1 H9 := f8.keep g9 fun k hk => (o1.ge k hk).1
          refine (hx.keep f9).get rfl hsq1 (decide_eq_true (by omega)) fun ad5 ea5 hc5 => ⟨_, ld_part (by kernel_rfl) hc5 (j := 1) rfl, ?_⟩
          refine (hx.keep f9).get rfl hsq (decide_eq_true (by omega)) fun ad6 ea6 hc6 => ⟨_, ld_part (by kernel_rfl) hc6 (j := 1) rfl, ?_⟩
          refine rFold_ok (wrap_I64 _) fun b4 H10 hn10 => ?_
          have f10 := f9.keep0 hn10.fr
          have o2' := ((o2.keep hn8.fr).fr g9 (blk_of_ne fun k kk hm => od k hm kk)).keep hn10.fr
          refine ap_grow slice138 elem89 o2' (sl_one encN (vN xs q) hn10 rfl) (by have := f10.size; omega) (by omega) fun p3 m3 d3 H11 h11 g11 w11 => ?_
          have s8 := hn8.size
          have s10 := hn10.size
          have s9 := g9.size
          have djn : ∀ k ∈ blkL p2, k ∉ blkL p' := fun k hk hk2 => (w9 k hk).elim (fun h => od k h hk2) fun h => by have := (o2.ge k hk2).2; omega
          have t1 := tsL_get hlt
          have t2 := vsL_get hlt
          have hmu : j - ((q + 1 + 1 : Nat) : Int).toNat < j - ((q + 1 : Nat) : Int).toNat := by omega
          refine ⟨⟨q + 1, rfl, by omega, by unfold aAt; rw [if_neg (by omega)]; rfl, ⟨?_, ?_, fun k hk hk2 => ?_⟩, f10.keep g11 fun k hk => (o2'.ge k hk).1⟩, hmu⟩
          · rw [List.take_add_one, t1]
            exact (h9.keep hn10.fr).fr g11 (blk_of_ne djn)
          · rw [List.take_add_one, t2]; exact h11
          · rcases w11 k hk2 with h | h
            · exact djn k hk h
            · have := (h9.ge k hk).2; omega
        · have hqj : q + 1 = j := by simp at hge; omega
          rw [List.take_of_length_le (by rw [tsL_len]; omega)] at o1
          rw [List.take_of_length_le (by rw [vsL_len]; omega)] at o2
          refine rBest_ok o1.sl (tN_all hP) (by omega) fun H10 f10 => ?_
          refine rBest_ok (o2.keep f10).sl (vN_all xs) (by omega) fun H11 f11 => ?_
          refine rNew02_ok fun w H12 hw hW f12 => ?_
          have fX12 : Fr [] H7 H12 := (f10.keep0 f11).keep0 f12
          have hA := bestN_le (tsL xs)
          have hB := bestN_le (vsL xs)
          have sX11 := (f10.keep0 f11).size
          refine ⟨fun vs H' => match vs with | [.int _ i] => ∃ (q : Nat) (S' : List Nat), i = q ∧ q ≤ j - 1 ∧ RwH H' w S' (bitsTo xs (bestN (tsL xs)) (bestN (vsL xs)) q) ∧ Fr [] H7 H' ∧ (∀ k ∈ S', H7.size ≤ k) | _ => False, fun vs _ => match vs with | [.int _ i] => j - i.toNat | _ => 0,
            ⟨0, [w], rfl, by omega, hW, fX12, fun k hk => by simp at hk; omega⟩, ?_⟩
          rintro J2 i H13 ⟨q2, S', rfl, hq2, hWq, fq, hSq⟩
          have hbl := bitsTo_len xs hA hB q2
          refine brB_of (fun hlt => ?_) (fun hge => ?_)
          · have hqm : q2 < m := by simp at hlt; omega
            refine (o1.keep fq).idx rfl (tsL_get (l := xs) (i := q2) (by omega)) (decide_eq_true (by omega)) fun ad3 ea3 hc3 => ⟨_, ld_one (by kernel_rfl) hc3, ?_⟩
            refine rWRice_ok hWq rfl rfl hA (hP.tN (by omega)) (by omega) fun H14 S14 hW14 f14 g14 => ?_
            have fq14 : Fr [] H7 H14 := fq.keep f14 hSq
            refine (o2.keep fq14).idx rfl (vsL_get (l := xs) (i := q2) (by omega)) (decide_eq_true (by omega)) fun ad4 ea4 hc4 => ⟨_, ld_one (by kernel_rfl) hc4, ?_⟩
            have hcl := codeB_le (n := tN xs q2) hA
            have hs14 : ∀ k ∈ S14, H7.size ≤ k := fun k hk => (g14 k hk).elim (hSq k) fun h => by have := fq.size; omega
            refine rWRice_ok hW14 rfl rfl hB (vN_lt _ _) (by rw [List.length_append]; omega) fun H15 S15 hW15 f15 g15 => ?_
            rw [succ64 (by omega)]
            have hmu : j - ((q2 + 1 : Nat) : Int).toNat < j - ((q2 : Nat) : Int).toNat := by omega
            exact ⟨⟨q2 + 1, S15, rfl, by omega, by rw [bitsTo_succ, ← List.append_assoc]; exact hW15, fq14.keep f15 hs14, fun k hk => (g15 k hk).elim (hs14 k) fun h => by have := fq14.size; omega⟩, hmu⟩
          · have : q2 = j - 1 := by simp at hge; omega
            subst this
            have zt : tailL xs = UInt8.ofNat (bestN (tsL xs)) :: UInt8.ofNat (bestN (vsL xs)) :: pack (bitsTo xs (bestN (tsL xs)) (bestN (vsL xs)) (j - 1)) := by
              unfold tailL; rw [if_neg (by omega), hlen]
            have ze : (⟨(uintL xs.length ++ headL xs).toArray⟩ : ByteArray) ++ ⟨[UInt8.ofNat (bestN (tsL xs)), UInt8.ofNat (bestN (vsL xs))].toArray⟩ ++ ⟨(pack (bitsTo xs (bestN (tsL xs)) (bestN (vsL xs)) (j - 1))).toArray⟩ = ⟨(encD xs).toArray⟩ := by
              rw [mk_app, mk_app]
              unfold encD
              rw [zt]; simp
            have zp := pack_le (bitsTo xs (bestN (tsL xs)) (bestN (vsL xs)) (j - 1))
            have zz : (uintL xs.length ++ headL xs).length ≤ 30 := by rw [List.length_append]; omega
            have zs1 : (⟨(uintL xs.length ++ headL xs).toArray⟩ : ByteArray).size + (⟨[UInt8.ofNat (bestN (tsL xs)), UInt8.ofNat (bestN (vsL xs))].toArray⟩ : ByteArray).size ≤ 9223372036854775807 := by
              rw [size_mk, size_mk]; simp only [List.length_cons, List.length_nil]; omega
            have zs2 : ((⟨(uintL xs.length ++ headL xs).toArray⟩ : ByteArray) ++ ⟨[UInt8.ofNat (bestN (tsL xs)), UInt8.ofNat (bestN (vsL xs))].toArray⟩).size + (⟨(pack (bitsTo xs (bestN (tsL xs)) (bestN (vsL xs)) (j - 1))).toArray⟩ : ByteArray).size ≤ 9223372036854775807 := by
              rw [mk_app, size_mk, size_mk, List.length_append]; simp only [List.length_cons, List.length_nil]; omega
            have fin : ∀ H', Fr [] H7 H' → ∃ s e, Value.tuple ⟨[.string (⟨(uintL xs.length ++ headL xs).toArray⟩ ++ ⟨[UInt8.ofNat (bestN (tsL xs)), UInt8.ofNat (bestN (vsL xs))].toArray⟩ ++ ⟨(pack (bitsTo xs (bestN (tsL xs)) (bestN (vsL xs)) (j - 1))).toArray⟩), .int .i64 0]⟩ = .tuple ⟨[.string s, .int .i64 e]⟩ ∧ K s e H' := fun H' hf => by
              refine ⟨_, _, rfl, ?_⟩
              rw [ze]
              exact hok _ (f7.keep0 hf)
            have keepR : ∀ {H'}, Fr [] H13 H' → RwH H' w S' (bitsTo xs (bestN (tsL xs)) (bestN (vsL xs)) (j - 1)) := fun hf => by
              obtain ⟨o, l, c, r1, r2, r3, r4⟩ := hWq.it
              exact ⟨o, l, c, r1.keep hf, r2.keep hf, r3, r4⟩
            refine ⟨fun b5 H14 hn14 => ⟨?_, ?_⟩, ?_⟩
            · refine ab_str hA hB hn14 (S := []) (Fr.refl _ _) (fun k hk => by simp at hk) (chk_true (decide_eq_true zs1) ?_)
              exact rBytes_ok (keepR hn14.fr) (by omega) fun H15 f15 => chk_true (decide_eq_true zs2) (fin H15 ((fq.keep0 hn14.fr).keep0 f15))
            · refine rBytes_ok (keepR hn14.fr) (by omega) fun H15 f15 => ?_
              exact ab_str hA hB hn14 f15 (fun k hk => by simp at hk) (chk_true (decide_eq_true zs1) (chk_true (decide_eq_true zs2) (fin H15 ((fq.keep0 hn14.fr).keep0 f15))))
            · refine rBytes_ok hWq (by omega) fun H15 f15 b5 H16 hn16 => ?_
              exact ab_str hA hB hn16 (S := []) (Fr.refl _ _) (fun k hk => by simp at hk) (chk_true (decide_eq_true zs1) (chk_true (decide_eq_true zs2) (fin H16 ((fq.keep0 f15).keep0 hn16.fr))))

def RdR (R : List Bool) (k p : Nat) (n e : Int) (p' : Nat) : Prop :=
  (∃ v m : Nat, n = v ∧ v < 18446744073709551616 ∧ e = 0 ∧ k ≤ 40 ∧ riceP (R.drop p) k = some (v, m) ∧ p' = p + m) ∨ (n = 0 ∧ e ≠ 0 ∧ p' = p ∧ (k > 40 ∨ riceP (R.drop p) k = none))
theorem RdR.nat {R : List Bool} {k p p' : Nat} {n e : Int} (h : RdR R k p n e p') : ∃ v : Nat, n = v ∧ v < 18446744073709551616 := by
  rcases h with ⟨v, m, h1, h2, _⟩ | ⟨h1, _⟩
  · exact ⟨v, h1, h2⟩
  · exact ⟨0, h1, by decide⟩
theorem RdR.of {R r : List Bool} {k p p' v : Nat} {n e : Int} (h : RdR R k p n e p') (hk : k ≤ 40) (hv : v < 18446744073709551616) (hr : R.drop p = codeB v k ++ r) : e = 0 ∧ n = v ∧ p' = p + (codeB v k).length := by
  have hc := rice_code (k := k) hv r
  rw [← hr] at hc
  rcases h with ⟨w, m, h1, h2, h3, h4, h5, h6⟩ | ⟨_, _, _, h | h⟩
  · rw [hc] at h5
    obtain ⟨rfl, rfl⟩ := Prod.mk.inj (Option.some.inj h5)
    exact ⟨h3, h1, h6⟩
  · omega
  · rw [hc] at h; cases h
theorem Rice_rd {H : Heap} {r : Nat} {s : ByteArray} {kk : Int} {a k : Nat} {K : Int → Int → Heap → Prop} (hb : Blk H ⟨r, 0, none⟩ [.string s, .int .i64 (a : Int)]) (ek : kk = k) (ha : a ≤ 8 * s.size) (hs : s.size ≤ 1000000000000)
    (hk : ∀ n e p' H', RdR (bitsL (bl s)) k a n e p' → p' ≤ 8 * s.size → Blk H' ⟨r, 0, none⟩ [.string s, .int .i64 (p' : Int)] → Fr [r] H H' → K n e H') :
    CallH Tryz.prog fn_rice_Reader_Rice ⟨[.pointer (some ⟨r, 0, none⟩), .int .i64 kk]⟩ H fun v H' => ∃ n e, v = .tuple ⟨[.int .u64 n, .int .i64 e]⟩ ∧ K n e H' :=
  Rice_ok hb rfl ek ha hs (fun h e he => hk 0 e a H (.inr ⟨rfl, he, rfl, h⟩) ha hb (Fr.refl _ _)) fun h40 n m H' h1 h2 h3 h4 h5 => hk n 0 (a + m) H' (.inl ⟨n, m, rfl, h2, rfl, h40, h1, rfl⟩) h3 h4 h5
theorem rRice_rd {H : Heap} {r : Nat} {s : ByteArray} {kk : Int} {a k : Nat} {K : Int → Int → Heap → Prop} (hb : Blk H ⟨r, 0, none⟩ [.string s, .int .i64 (a : Int)]) (ek : kk = k) (ha : a ≤ 8 * s.size) (hs : s.size ≤ 1000000000000)
    (hk : ∀ n e p' H', RdR (bitsL (bl s)) k a n e p' → p' ≤ 8 * s.size → Blk H' ⟨r, 0, none⟩ [.string s, .int .i64 (p' : Int)] → Fr [r] H H' → K n e H') :
    CallH Tryz.prog fn_ref02_Reader_Rice ⟨[.pointer (some ⟨r, 0, none⟩), .int .i64 kk]⟩ H fun v H' => ∃ n e, v = .tuple ⟨[.int .u64 n, .int .i64 e]⟩ ∧ K n e H' :=
  rRice_ok hb ek ha hs (fun h e H' he hb' hf => hk 0 e a H' (.inr ⟨rfl, he, rfl, h⟩) ha hb' hf) fun h40 n m H' h1 h2 h3 h4 h5 => hk n 0 (a + m) H' (.inl ⟨n, m, rfl, h2, rfl, h40, h1, rfl⟩) h3 h4 h5
structure HypB (A B : Nat) (s2 : ByteArray) (N : Nat) (x0 : Smp) (L : List Smp) : Prop where
  P : SmpP L
  len : L.length = N
  fst : L[0]? = some x0
  A40 : A ≤ 40
  B40 : B ≤ 40
  bits : ∃ m, m < 8 ∧ bitsL (bl s2) = bitsTo L A B (N - 1) ++ List.replicate m false
theorem HypB.next {A B N p p1 p2 j : Nat} {s2 : ByteArray} {x0 : Smp} {L : List Smp} {n1 e1 n2 e2 : Int} (hL : HypB A B s2 N x0 L) (hj : j + 1 < N) (hp : p = (bitsTo L A B j).length) (h1 : RdR (bitsL (bl s2)) A p n1 e1 p1) (h2 : RdR (bitsL (bl s2)) B p1 n2 e2 p2) :
    e1 = 0 ∧ e2 = 0 ∧ n1 = (tN L j : Nat) ∧ n2 = (vN L j : Nat) ∧ p2 = (bitsTo L A B (j + 1)).length := by
  obtain ⟨m, _, hb⟩ := hL.bits
  obtain ⟨r, hr⟩ := bitsTo_split L A B (i := j) (m := N - 1) (by omega)
  rw [hr] at hb
  have hlen := hL.len
  have d1 : (bitsL (bl s2)).drop p = codeB (tN L j) A ++ (codeB (vN L j) B ++ (r ++ List.replicate m false)) := by
    rw [hb, hp]; simp
  obtain ⟨q1, q2, q3⟩ := h1.of hL.A40 (hL.P.tN (i := j) (by omega)) d1
  have d2 : (bitsL (bl s2)).drop p1 = codeB (vN L j) B ++ (r ++ List.replicate m false) := by
    rw [q3, ← List.drop_drop, d1]; simp
  obtain ⟨q4, q5, q6⟩ := h2.of hL.B40 (vN_lt L j) d2
  refine ⟨q1, q4, q2, q5, ?_⟩
  rw [q6, q3, hp, bitsTo_succ, List.length_append, List.length_append]; omega
structure RdS (A B N : Nat) (s2 : ByteArray) (x0 : Smp) (r base : Nat) (H : Heap) (a : Option Addr) (n c : Nat) (l : List Smp) (d : Int) (p : Nat) : Prop where
  own : Own encS 107 base H a n c l
  rd : Blk H ⟨r, 0, none⟩ [.string s2, .int .i64 (p : Int)]
  rn : r ∉ blkL a
  len : 1 ≤ l.length ∧ l.length ≤ N
  pb : p ≤ 8 * s2.size
  db : 0 ≤ d ∧ d ≤ 1099511627776
  last : 0 ≤ tAt l (l.length - 1) ∧ tAt l (l.length - 1) < 1099511627776
  v : ∀ x ∈ l, I64 x.2
  cmp : ∀ L, HypB A B s2 N x0 L → l = L.take l.length ∧ p = (bitsTo L A B (l.length - 1)).length ∧ d = aAt L (l.length - 1)
theorem tAt_take {L : List Smp} {m i : Nat} (h : i < m) : tAt (L.take m) i = tAt L i := by unfold tAt; rw [List.getElem?_take, if_pos h]
theorem vAt_take {L : List Smp} {m i : Nat} (h : i < m) : vAt (L.take m) i = vAt L i := by unfold vAt; rw [List.getElem?_take, if_pos h]
theorem HypB.smp {A B N : Nat} {s2 : ByteArray} {x0 : Smp} {L l : List Smp} (hL : HypB A B s2 N x0 L) (h1 : 1 ≤ l.length) (hj : l.length < N) (hl : l = L.take l.length) {d : Int} (hd : d = aAt L (l.length - 1)) :
    d + unfoldN (tN L (l.length - 1)) = dAt L (l.length - 1) ∧ 1 ≤ d + unfoldN (tN L (l.length - 1)) ∧ d + unfoldN (tN L (l.length - 1)) < 1099511627776 ∧ tAt l (l.length - 1) + (d + unfoldN (tN L (l.length - 1))) < 1099511627776 ∧
      -1099511627776 < unfoldN (tN L (l.length - 1)) ∧ unfoldN (tN L (l.length - 1)) < 1099511627776 ∧
      L[l.length]? = some (tAt l (l.length - 1) + (d + unfoldN (tN L (l.length - 1))), IntKind.i64.wrap (vAt l (l.length - 1) + unfoldN (vN L (l.length - 1)))) := by
  have hlen := hL.len
  have e1 : tAt l (l.length - 1) = tAt L (l.length - 1) := by rw [hl, List.length_take, tAt_take (by omega)]
  have e2 : vAt l (l.length - 1) = vAt L (l.length - 1) := by rw [hl, List.length_take, vAt_take (by omega)]
  have hn := next_smp hL.P (i := l.length - 1) (by omega)
  have hdi := hL.P.dist (i := l.length - 1) (by omega)
  have hmo := hL.P.more (i := l.length - 1) (by omega)
  have h2 := (hL.P.at (i := l.length - 1 + 1) (by omega)).1
  have eu : unfoldN (tN L (l.length - 1)) = dAt L (l.length - 1) - aAt L (l.length - 1) := by unfold tN; rw [unfold_fold]
  have e3 : l.length - 1 + 1 = l.length := by omega
  have ed : tAt L (l.length - 1) + dAt L (l.length - 1) = tAt L (l.length - 1 + 1) := by unfold dAt; omega
  rw [e3] at hn
  refine ⟨by rw [eu, hd]; omega, by rw [eu, hd]; omega, by rw [eu, hd]; omega, by rw [eu, hd, e1]; omega, by rw [eu]; omega, by rw [eu]; omega, ?_⟩
  rw [e1, e2, hd]; exact hn
theorem zeros_val : ∀ m, valB (List.replicate m false) = 0 := fun m => by
  induction m with
  | zero => rfl
  | succ m ih => rw [List.replicate_succ, valB_cons, ih]; simp
theorem RdS.all {A B N r base n c p : Nat} {s2 : ByteArray} {x0 : Smp} {H : Heap} {a : Option Addr} {l : List Smp} {d : Int} (h : RdS A B N s2 x0 r base H a n c l d p) (hl : l.length = N) {L : List Smp} (hL : HypB A B s2 N x0 L) :
    l = L ∧ ((bitsL (bl s2)).drop p).length < 8 ∧ valB ((bitsL (bl s2)).drop p) = 0 := by
  obtain ⟨h1, h2, h3⟩ := h.cmp L hL
  obtain ⟨m, hm, hb⟩ := hL.bits
  have hlen := hL.len
  refine ⟨by rw [h1, List.take_of_length_le (by omega)], ?_⟩
  have : (bitsL (bl s2)).drop p = List.replicate m false := by
    rw [hb, h2, hl]; simp
  rw [this, List.length_replicate, zeros_val]
  exact ⟨hm, rfl⟩
theorem RdS.more {A B N r base n c p p1 p2 : Nat} {s2 : ByteArray} {x0 : Smp} {H H' : Heap} {a : Option Addr} {n' c' : Nat} {a' : Option Addr} {l : List Smp} {d n1 e1 n2 e2 : Int} {v1 v2 : Nat} (h : RdS A B N s2 x0 r base H a n c l d p) (hlt : l.length < N)
    (h1 : RdR (bitsL (bl s2)) A p n1 e1 p1) (h2 : RdR (bitsL (bl s2)) B p1 n2 e2 p2) (hv1 : n1 = v1) (hv2 : n2 = v2) (hv2' : v2 < 18446744073709551616) (hp2 : p2 ≤ 8 * s2.size)
    (hd : 1 ≤ d + unfoldN v1 ∧ d + unfoldN v1 ≤ 1099511627776) (hT : tAt l (l.length - 1) + (d + unfoldN v1) < 1099511627776)
    (ho : Own encS 107 base H' a' n' c' (l ++ [(tAt l (l.length - 1) + (d + unfoldN v1), IntKind.i64.wrap (vAt l (l.length - 1) + unfoldN v2))])) (hr : Blk H' ⟨r, 0, none⟩ [.string s2, .int .i64 (p2 : Int)]) (hrn : r ∉ blkL a') :
    RdS A B N s2 x0 r base H' a' n' c' (l ++ [(tAt l (l.length - 1) + (d + unfoldN v1), IntKind.i64.wrap (vAt l (l.length - 1) + unfoldN v2))]) (d + unfoldN v1) p2 := by
  have hl := h.len
  have hlast := h.last
  refine ⟨ho, hr, hrn, by simp; omega, hp2, by omega, ?_, ?_, ?_⟩
  · have : tAt (l ++ [(tAt l (l.length - 1) + (d + unfoldN v1), IntKind.i64.wrap (vAt l (l.length - 1) + unfoldN v2))]) ((l ++ [(tAt l (l.length - 1) + (d + unfoldN v1), IntKind.i64.wrap (vAt l (l.length - 1) + unfoldN v2))]).length - 1) = tAt l (l.length - 1) + (d + unfoldN v1) := by
      rw [List.length_append]
      unfold tAt
      simp
    rw [this]
    omega
  · intro x hx
    rcases List.mem_append.1 hx with hx | hx
    · exact h.v x hx
    · simp at hx; subst hx; exact wrap_I64 _
  · intro L hL
    obtain ⟨q1, q2, q3⟩ := h.cmp L hL
    have hN := hL.len
    obtain ⟨r1, r2, r3, r4, r5⟩ := hL.next (j := l.length - 1) (by omega) q2 h1 h2
    have ev1 : v1 = tN L (l.length - 1) := by omega
    have ev2 : v2 = vN L (l.length - 1) := by omega
    obtain ⟨z1, z2, z3, z4, z5, z6, z7⟩ := hL.smp hl.1 hlt q1 q3
    rw [← ev1, ← ev2] at z7
    rw [← ev1] at z1
    refine ⟨?_, ?_, ?_⟩
    · rw [List.length_append, List.length_cons, List.length_nil, Nat.zero_add, List.take_add_one, ← q1, z7]; rfl
    · rw [r5, List.length_append]; simp; rw [show l.length - 1 + 1 = l.length by omega]
    · rw [z1, List.length_append]
      unfold aAt
      simp
      intro e; rw [e] at hl; simp at hl
theorem ldS_last {l : List Smp} (h : 1 ≤ l.length) : l[l.length - 1]? = some (tAt l (l.length - 1), vAt l (l.length - 1)) := smp_at (by omega)
theorem wrapU_nat {n : Nat} (h : n ≤ 1000000000) : IntKind.wrap .u64 ((n : Nat) : Int) = ((n : Nat) : Int) := nat_wrapU (by omega)
theorem tail_hyp {s : ByteArray} {k N : Nat} {x0 : Smp} {L : List Smp} (hP : SmpP L) (hl : L.length = N) (hN : 2 ≤ N) (h0 : L[0]? = some x0) (hs : (bl s).drop k = tailL L) :
    k + 2 ≤ s.size ∧ HypB (atB s k) (atB s (k + 1)) (s.extract (k + 2) s.size) N x0 L := by
  have hsl := bl_len s
  have ht : tailL L = UInt8.ofNat (bestN (tsL L)) :: UInt8.ofNat (bestN (vsL L)) :: pack (bitsTo L (bestN (tsL L)) (bestN (vsL L)) (L.length - 1)) := by
    unfold tailL; rw [if_neg (by omega)]
  rw [ht] at hs
  have hlen := congrArg List.length hs
  rw [List.length_drop, List.length_cons, List.length_cons] at hlen
  have hA := bestN_le (tsL L)
  have hB := bestN_le (vsL L)
  have a0 : atB s k = bestN (tsL L) := by
    have : (bl s)[k]? = some (UInt8.ofNat (bestN (tsL L))) := by
      have := congrArg (fun l => l[0]?) hs
      simpa [List.getElem?_drop] using this
    rw [atB_of (by rw [bl_get]; exact this), UInt8.toNat_ofNat']; omega
  have a1 : atB s (k + 1) = bestN (vsL L) := by
    have : (bl s)[k + 1]? = some (UInt8.ofNat (bestN (vsL L))) := by
      have := congrArg (fun l => l[1]?) hs
      simpa [List.getElem?_drop] using this
    rw [atB_of (by rw [bl_get]; exact this), UInt8.toNat_ofNat']; omega
  refine ⟨by omega, hP, hl, h0, by omega, by omega, ?_⟩
  have e2 : bl (s.extract (k + 2) s.size) = pack (bitsTo L (bestN (tsL L)) (bestN (vsL L)) (L.length - 1)) := by
    rw [bl_ext, List.take_of_length_le (by omega), ← List.drop_drop, hs]; rfl
  rw [e2, a0, a1, ← hl]
  exact bits_pack _ _ (Nat.le_refl _)

theorem atB_i64 (s : ByteArray) (i : Nat) : IntKind.wrap .i64 (atB s i : Int) = ((atB s i : Nat) : Int) := by
  have := atB_lt s i
  exact wrap64_of (by omega) (by omega)
theorem rest_ok {H : Heap} {a : Option Addr} {c base : Nat} {x0 : Smp} {N : Nat} {nn : Int} {s : ByteArray} {K : Option Addr → Nat → Nat → Bool → Heap → Prop} (ho : Own encS 107 base H a 1 c [x0]) (hbase : base ≤ H.size) (en : nn = N) (hN : 2 ≤ N ∧ N ≤ 5000) (hs : s.size ≤ 100000000000)
    (hx0 : 0 ≤ x0.1 ∧ x0.1 < 1099511627776) (hv0 : I64 x0.2)
    (hno : (∀ L, SmpP L → L.length = N → L[0]? = some x0 → bl s ≠ tailL L) → ∀ H', Fr (blkL a) H H' → K none 0 0 false H')
    (hyes : ∀ a' c' l b H', Own encS 107 base H' a' N c' l → (∀ x ∈ l, I64 x.2) → Fr (blkL a) H H' → (∀ L, SmpP L → L.length = N → L[0]? = some x0 → bl s = tailL L → l = L ∧ b = true) → K a' N c' b H') :
    CallH Tryz.prog fn_delta_rest ⟨[.slice a 1 c, .int .i64 nn, .string s]⟩ H fun v H' => ∃ a n c b, v = .tuple ⟨[.slice a n c, .bool b]⟩ ∧ K a n c b H' := by
  subst en
  apply vc_delta_rest
  have hyp : ∀ L, SmpP L → L.length = N → L[0]? = some x0 → bl s = tailL L → 2 ≤ s.size ∧ HypB (atB s 0) (atB s 1) (s.extract 2 s.size) N x0 L := fun L h1 h2 h3 h4 => by
    have := tail_hyp (s := s) (k := 0) h1 h2 hN.1 h3 h4
    simpa using this
  refine brB_of (fun h => ⟨_, _, _, _, rfl, hno (fun L h1 h2 h3 h4 => ?_) H (Fr.refl _ _)⟩) (fun h => ?_)
  · have := (hyp L h1 h2 h3 h4).1
    simp at h; omega
  have h2 : 2 ≤ s.size := by simp at h; omega
  refine chk_true (decide_eq_true (by omega)) (chk_true (decide_eq_true (by omega)) (chk_true (decide_eq_true (by omega)) ?_))
  rw [Int.toNat_natCast, atB_i64, atB_i64]
  have hsz : (s.extract 2 s.size).size ≤ s.size := by rw [size_ext]; omega
  generalize hs2 : s.extract 2 s.size = s2 at *
  generalize hA : atB s 0 = A at *
  generalize hB : atB s 1 = B at *
  refine Read02_ok fun r H1 hr hb1 f1 => ?_
  have hin : ∀ k ∈ blkL a, k < H.size := fun k hk => (ho.ge k hk).2
  refine ⟨fun vs H' => match vs with | [.slice p m d, .int _ dd] => ∃ (l : List Smp) (q : Nat) , m = l.length ∧ RdS A B N s2 x0 r base H' p m d l dd q ∧ Fr (blkL a) H H' ∧ Grow H (blkL a) (blkL p) | _ => False, fun vs _ => match vs with | [.slice _ m _, _] => N - m | _ => 0,
    ⟨[x0], 0, rfl, ⟨ho.keep f1, hb1, fun hk => by have := hin r hk; omega, by simp; omega, by omega, by omega, ?_, fun x hx => by simp at hx; subst hx; exact hv0, fun L hL => ⟨?_, rfl, rfl⟩⟩, f1.mono (by simp), Grow.refl _ _⟩, ?_⟩
  · have : tAt [x0] ([x0].length - 1) = x0.1 := rfl
    rw [this]; exact hx0
  · have := hL.fst
    cases L with
    | nil => simp at this
    | cons y L => simp at this; subst this; simp
  rintro J p m d dd H2 ⟨l, q, rfl, hS, f2, g2⟩
  have hl := hS.len
  have noS : (∀ L, HypB A B s2 N x0 L → False) → ∀ H', Fr (blkL a) H H' → K none 0 0 false H' := fun h H' hf => hno (fun L h1 h2' h3 h4 => h L (hyp L h1 h2' h3 h4).2) H' hf
  refine brB_of (fun hlt => ?_) (fun hge => ?_)
  · have hlt : l.length < N := by simp at hlt; omega
    have hrH : H.size ≤ r := hr
    have frG : ∀ {X Y : Heap}, Fr (blkL a) H X → Fr [r] X Y → Fr (blkL a) H Y := fun h1 h2 => h1.trans' h2 (fun k hk _ => hk) fun k hk hlt' => by simp at hk; omega
    refine Rice_rd hS.rd rfl hS.pb (by omega) fun n1 e1 p1 H3 hR1 hp1 hb3 f3 => ?_
    refine Rice_rd hb3 rfl hp1 (by omega) fun n2 e2 p2 H4 hR2 hp2 hb4 f4 => ?_
    have f4' := frG (frG f2 f3) f4
    have fr4 : Fr [r] H2 H4 := f3.trans' f4 (fun k hk _ => hk) fun k hk _ => hk
    obtain ⟨v1, rfl, hv1⟩ := hR1.nat
    obtain ⟨v2, rfl, hv2⟩ := hR2.nat
    have o4 := hS.own.fr fr4 (blk_of_ne fun k kk hm => by simp at hm; subst hm; exact hS.rn kk)
    have e1' : IntKind.wrap .i64 (((l.length : Nat) : Int) - 1) = ((l.length - 1 : Nat) : Int) := pred64 (by omega) (by omega)
    rw [e1']
    refine o4.idx rfl (ldS_last hl.1) (decide_eq_true (by omega)) fun ad ea hc => ⟨_, _, ldS hc, ?_⟩
    refine var_blk (by kernel_rfl) (by kernel_rfl) pair_one (by rfl) fun vb H5 hvl hvb fv => ?_
    have f5 := f4'.trans' fv (T := blkL a) (fun k hk _ => hk) (by simp)
    refine Unfold_ok hv1 ⟨fun _ H' => H' = H5 ∧ unfoldN v1 ≤ 1099511627776 ∧ -1099511627776 ≤ unfoldN v1, ?_, ?_⟩
    · have nx := fun L (hL : HypB A B s2 N x0 L) => hL.next (j := l.length - 1) (by have := hL.len; omega) (hS.cmp L hL).2.1 hR1 hR2
      have mo := fun L (hL : HypB A B s2 N x0 L) => hL.smp hl.1 hlt (hS.cmp L hL).1 (hS.cmp L hL).2.2
      refine brB_of (fun h => ⟨_, _, _, _, rfl, noS (fun L hL => ?_) _ f5⟩) fun h => brB_of (fun h => ⟨_, _, _, _, rfl, noS (fun L hL => ?_) _ f5⟩) fun h => brB_of (fun h => ⟨_, _, _, _, rfl, noS (fun L hL => ?_) _ f5⟩) fun h3 => brB_of (fun h => ⟨_, _, _, _, rfl, noS (fun L hL => ?_) _ f5⟩) fun h4 => ⟨rfl, ?_, ?_⟩
      · have := (nx L hL).1; simp at h; omega
      · have := (nx L hL).2.1; simp at h; omega
      · have e := (nx L hL).2.2.1
        have := mo L hL
        have ev : v1 = tN L (l.length - 1) := by omega
        rw [← ev] at this
        simp at h; omega
      · have e := (nx L hL).2.2.1
        have := mo L hL
        have ev : v1 = tN L (l.length - 1) := by omega
        rw [← ev] at this
        simp at h; omega
      · simp at h3; omega
      · simp at h4; omega
    · rintro J3 H6 ⟨rfl, hm1, hm2⟩
      have hdd := hS.db
      have ed : IntKind.wrap .i64 (dd + unfoldN v1) = dd + unfoldN v1 := wrap64_of (by omega) (by omega)
      rw [ed]
      have hla := hS.last
      have nx := fun L (hL : HypB A B s2 N x0 L) => hL.next (j := l.length - 1) (by have := hL.len; omega) (hS.cmp L hL).2.1 hR1 hR2
      have mo := fun L (hL : HypB A B s2 N x0 L) => hL.smp hl.1 hlt (hS.cmp L hL).1 (hS.cmp L hL).2.2
      refine ⟨fun vs H' => vs = [.int .i64 (dd + unfoldN v1)] ∧ H' = H6 ∧ 1 ≤ dd + unfoldN v1 ∧ dd + unfoldN v1 ≤ 1099511627776 ∧ tAt l (l.length - 1) + (dd + unfoldN v1) < 1099511627776, ?_, ?_⟩
      · refine brB_of (fun h => ⟨_, _, _, _, rfl, noS (fun L hL => ?_) _ f5⟩) fun h1 => brB_of (fun h => ⟨_, _, _, _, rfl, noS (fun L hL => ?_) _ f5⟩) fun h2 => ⟨_, hvb.ld0 (by kernel_rfl) rfl, ?_⟩
        · have e := (nx L hL).2.2.1
          have := mo L hL
          have ev : v1 = tN L (l.length - 1) := by omega
          rw [← ev] at this
          simp at h; omega
        · have e := (nx L hL).2.2.1
          have := mo L hL
          have ev : v1 = tN L (l.length - 1) := by omega
          rw [← ev] at this
          simp at h; omega
        · have h1 := of_decide_eq_false h1
          have h2 := of_decide_eq_false h2
          have et : IntKind.wrap .i64 (tAt l (l.length - 1) + (dd + unfoldN v1)) = tAt l (l.length - 1) + (dd + unfoldN v1) := wrap64_of (by omega) (by omega)
          simp only
          rw [et]
          refine brB_of (fun h => ⟨_, _, _, _, rfl, noS (fun L hL => ?_) _ f5⟩) fun h3 => ⟨trivial, trivial, by omega, by omega, by simp at h3; omega⟩
          have e := (nx L hL).2.2.1
          have := mo L hL
          have ev : v1 = tN L (l.length - 1) := by omega
          rw [← ev] at this
          simp at h; omega
      · rintro J4 nd H7 ⟨e, rfl, hd1, hd2, hT⟩
        simp only [List.cons.injEq, Value.int.injEq, true_and, and_true] at e
        subst e
        refine ⟨_, hvb.ld0 (by kernel_rfl) rfl, _, hvb.ldK (j := 1) (by kernel_rfl) rfl, ?_⟩
        refine Unfold_ok hv2 ⟨hvb.ldK (j := 1) (by kernel_rfl) rfl, hvb.ld0 (by kernel_rfl) rfl, ?_⟩
        have et : IntKind.wrap .i64 (tAt l (l.length - 1) + (dd + unfoldN v1)) = tAt l (l.length - 1) + (dd + unfoldN v1) := wrap64_of (by omega) (by omega)
        simp only
        rw [et]
        intro b9 H9 hn9
        have s9 := f5.size
        have s10 := hn9.size
        refine ap_grow slice22 elem26 ((o4.keep fv).keep hn9.fr) (sl_one encS (tAt l (l.length - 1) + (dd + unfoldN v1), IntKind.i64.wrap (vAt l (l.length - 1) + unfoldN v2)) hn9 rfl) (by omega) (by omega) fun p' m' d' H10 h10 f10 g10 => ?_
        have hm' := h10.1
        have hrl : r < H7.size := Nat.lt_of_lt_of_le hb4.lt fv.size
        have hnr : r ∉ blkL p' := fun hk => (g10 r hk).elim hS.rn fun h => by omega
        have hmo := hS.more hlt hR1 hR2 rfl rfl hv2 hp2 ⟨hd1, hd2⟩ hT h10 (((hb4.keep fv).keep hn9.fr).fr f10 hS.rn) hnr
        refine ⟨⟨_, p2, hm', hmo, (f5.trans' hn9.fr (fun k hk _ => hk) (by simp)).trans' f10 (fun k hk _ => hk) fun k hk hlt' => (g2 k hk).elim id fun h => by omega, fun k hk => (g10 k hk).elim (fun h => g2 k h) fun h => .inr (by omega)⟩, ?_⟩
        · show N - m' < N - l.length
          rw [hm', List.length_append]; simp; omega
  · have hlN : l.length = N := by simp at hge; omega
    refine End_ok hS.rd hS.pb (by omega) (fun hne => ⟨_, _, _, _, rfl, ?_⟩) (fun h1 h2' => ⟨_, _, _, _, rfl, ?_⟩)
    · rw [hlN]
      refine hyes _ _ l _ _ (by have := hS.own; rw [hlN] at this; exact this) hS.v f2 fun L h1 h2' h3 h4 => ?_
      have := hS.all hlN (hyp L h1 h2' h3 h4).2
      exact absurd ⟨this.2.1, this.2.2⟩ hne
    · rw [hlN]
      refine hyes _ _ l _ _ (by have := hS.own; rw [hlN] at this; exact this) hS.v f2 fun L h1 h2'' h3 h4 => ?_
      exact ⟨(hS.all hlN (hyp L h1 h2'' h3 h4).2).1, rfl⟩

theorem GU.ok {r : List UInt8} {a : Nat} {v next e : Int} (h : GU r a v next e) (he : e = 0) : ∃ m : Nat, v = m ∧ m < 18446744073709551616 ∧ r = uintL m ++ r.drop (uintL m).length ∧ (uintL m).length ≤ r.length ∧ next = ((a + (uintL m).length : Nat) : Int) := by
  rcases h with ⟨m, h1, h2, h3, h4, h5, _⟩ | ⟨_, _, h, _⟩ | ⟨_, _, h, _⟩
  · exact ⟨m, h1, h2, h3, h4, h5⟩
  · omega
  · omega
theorem GU.bad {r t : List UInt8} {a n : Nat} {v next e : Int} (h : GU r a v next e) (he : ¬ e = 0) (hn : n < 18446744073709551616) (hr : r = uintL n ++ t) : False := he (h.of hn hr).2.2
theorem headL_cons {L : List Smp} (h : L ≠ []) : headL L = uintL (tAt L 0).toNat ++ intL (vAt L 0) := by
  cases L with
  | nil => exact absurd rfl h
  | cons x l => rfl
theorem drop_pre {x y : List UInt8} {l : List UInt8} {k : Nat} (h : l.drop k = x ++ y) : l.drop (k + x.length) = y := by rw [← List.drop_drop, h]; simp
theorem encD_zero {L : List Smp} (h : L.length = 0) : L = [] ∧ encD L = uintL 0 := by
  have e : L = [] := List.eq_nil_of_length_eq_zero h
  subst e
  exact ⟨rfl, by simp [encD, headL, tailL]⟩
theorem encD_beg {s : ByteArray} {L : List Smp} {v n e : Int} (hP : SmpP L) (hs : bl s = encD L) (h : GU ((bl s).drop 0) 0 v n e) : v = L.length ∧ e = 0 ∧ n = ((uintL L.length).length : Nat) ∧ (bl s).drop (uintL L.length).length = headL L ++ tailL L := by
  have hr : (bl s).drop 0 = uintL L.length ++ (headL L ++ tailL L) := by rw [List.drop_zero, hs]; rfl
  obtain ⟨h1, h2, h3⟩ := h.of (by have := hP.len; omega) hr
  refine ⟨h1, h3, by rw [h2, Nat.zero_add], ?_⟩
  have := drop_pre hr
  rwa [Nat.zero_add] at this
theorem sized {s t : ByteArray} (h : s = t) : (!s.toList == t.toList) = false := by subst h; simp
theorem sized_ne {s t : ByteArray} (h : s ≠ t) : (!s.toList == t.toList) = true := by rw [beqS]; simp [h]

theorem Decode_ok {s : ByteArray} {H : Heap} {K : Option Addr → Nat → Nat → Int → Heap → Prop} (hs : s.size ≤ 100000000000)
    (hno : (∀ L, SmpP L → bl s ≠ encD L) → ∀ H', Fr [] H H' → K none 0 0 11 H')
    (hyes : ∀ L a n c H', SmpP L → bl s = encD L → Own encS 107 H.size H' a n c L → Fr [] H H' → K a n c 0 H') :
    CallH Tryz.prog fn_delta_Decode ⟨[.string s]⟩ H fun v H' => ∃ a n c e, v = .tuple ⟨[.slice a n c, .int .i64 e]⟩ ∧ K a n c e H' := by
  apply vc_delta_Decode
  have hsl := bl_len s
  refine GetUint_ok hs (fun h => (h ⟨by omega, by omega⟩).elim) fun a0 ea0 ha0 v n1 e1 hG1 => ?_
  have : a0 = 0 := by omega
  subst this
  have eb := fun L (hP : SmpP L) (hL : bl s = encD L) => encD_beg hP hL hG1
  refine ⟨fun _ H' => H' = H ∧ e1 = 0 ∧ 1 ≤ v ∧ v ≤ 5000, ⟨fun vs H' => match vs with | [.bool b] => H' = H ∧ (b = true → (∀ L, SmpP L → bl s ≠ encD L)) ∧ (b = false → e1 = 0 ∧ v ≤ 5000 ∧ (v = 0 → (s.size : Int) ≤ n1)) | _ => False, ?_, ?_⟩, ?_⟩
  · refine brB_of (fun h => ⟨rfl, fun _ L hP hL => ?_, fun h => by cases h⟩) fun h1 => brB_of (fun h => ⟨rfl, fun _ L hP hL => ?_, fun h => by cases h⟩) fun h2 => brB_of (fun h => ⟨rfl, fun h4 L hP hL => ?_, fun h4 => ?_⟩) fun h3 => ⟨rfl, (fun h => by cases h), fun _ => ?_⟩
    · have := (eb L hP hL).2.1; simp at h; omega
    · have := (eb L hP hL).1; have := hP.len; simp at h; omega
    · have h5 := of_decide_eq_true h4
      obtain ⟨q1, q2, q3, q4⟩ := eb L hP hL
      have hz : L.length = 0 := by simp at h; omega
      have := congrArg List.length hL
      rw [(encD_zero hz).2, hsl] at this
      rw [hz] at q3
      omega
    · have h5 := of_decide_eq_false h4
      simp at h1 h2 h
      exact ⟨h1, by omega, fun _ => by omega⟩
    · simp at h1 h2 h3
      exact ⟨h1, by omega, fun h => absurd h h3⟩
  · rintro J b H1 ⟨rfl, hb1, hb2⟩
    refine brB_of (fun h => ⟨_, _, _, _, rfl, hno (hb1 h) _ (Fr.refl _ _)⟩) fun h => ?_
    obtain ⟨he, hv5, hz⟩ := hb2 h
    obtain ⟨m, rfl, hm, hr, hrl, hn⟩ := hG1.ok he
    refine brB_of (fun h0 => ⟨_, _, _, _, rfl, ?_⟩) fun h0 => ⟨rfl, he, by simp at h0; omega, hv5⟩
    have h0 : m = 0 := by simp at h0; omega
    subst h0
    have hz := hz rfl
    rw [List.drop_zero] at hr hrl
    have hd : (bl s).drop (uintL 0).length = [] := List.drop_of_length_le (by omega)
    rw [hd, List.append_nil] at hr
    exact hyes [] _ _ _ _ ⟨by simp, Ris.nil, by simp, by simp⟩ (by rw [hr]; simp [encD, headL, tailL]) (Own.nil ..) (Fr.refl _ _)
  · rintro J H1 ⟨rfl, rfl, hv1, hv5⟩
    obtain ⟨N, rfl, hm, hr, hrl, rfl⟩ := hG1.ok rfl
    rw [List.drop_zero] at hr hrl
    rw [Nat.zero_add] at *
    generalize ha1 : (uintL N).length = a1 at *
    have eb1 : ∀ L, SmpP L → bl s = encD L → L.length = N ∧ L ≠ [] ∧ (bl s).drop a1 = uintL (tAt L 0).toNat ++ (intL (vAt L 0) ++ tailL L) ∧ L[0]? = some (tAt L 0, vAt L 0) ∧ (0 ≤ tAt L 0 ∧ tAt L 0 < 1099511627776) ∧ I64 (vAt L 0) := fun L hP hL => by
      obtain ⟨q1, q2, q3, q4⟩ := eb L hP hL
      have hlN : L.length = N := by omega
      have hne : L ≠ [] := by intro e; rw [e] at hlN; simp at hlN; omega
      rw [hlN, ha1, headL_cons hne, List.append_assoc] at q4
      exact ⟨hlN, hne, q4, smp_at (by omega), hP.at (by omega)⟩
    refine GetUint_ok hs (fun h => (h ⟨by omega, by omega⟩).elim) fun a' ea' ha' T n2 e2 hG2 => ?_
    have : a' = a1 := by omega
    subst this
    refine ⟨fun _ H' => H' = H1 ∧ e2 = 0 ∧ T < 1099511627776, ?_, ?_⟩
    · refine brB_of (fun h => ⟨_, _, _, _, rfl, hno (fun L hP hL => ?_) _ (Fr.refl _ _)⟩) fun h => brB_of (fun h => ⟨_, _, _, _, rfl, hno (fun L hP hL => ?_) _ (Fr.refl _ _)⟩) fun h2 => ⟨rfl, by simpa using h, by simp at h2; omega⟩
      · obtain ⟨q1, q2, q3, q4, q5, q6⟩ := eb1 L hP hL
        exact hG2.bad (by simpa using h) (by omega) q3
      · obtain ⟨q1, q2, q3, q4, q5, q6⟩ := eb1 L hP hL
        have := (hG2.of (by omega) q3).1
        simp at h; omega
    · rintro J H2 ⟨rfl, rfl, hT⟩
      obtain ⟨t, rfl, ht, hr2, hrl2, rfl⟩ := hG2.ok rfl
      rw [List.length_drop, hsl] at hrl2
      generalize ha2 : a' + (uintL t).length = a2 at *
      have eb2 : ∀ L, SmpP L → bl s = encD L → tAt L 0 = t ∧ (bl s).drop a2 = uintL (foldN (vAt L 0)) ++ tailL L := fun L hP hL => by
        obtain ⟨q1, q2, q3, q4, q5, q6⟩ := eb1 L hP hL
        have h1 := (hG2.of (by omega) q3).1
        have e : (tAt L 0).toNat = t := by omega
        refine ⟨by omega, ?_⟩
        have := drop_pre q3
        rw [e, ha2] at this
        exact this
      refine GetInt_ok hs (fun h => (h ⟨by omega, by omega⟩).elim) fun a'' ea'' ha'' w n3 e3 hG3 hw => ?_
      have : a'' = a2 := by omega
      subst this
      refine brB_of (fun h => ⟨_, _, _, _, rfl, hno (fun L hP hL => ?_) _ (Fr.refl _ _)⟩) fun h b H3 hn3 => ?_
      · exact hG3.bad (by simpa using h) (foldN_lt (eb1 L hP hL).2.2.2.2.2) (eb2 L hP hL).2
      · have he3 : e3 = 0 := by simpa using h
        obtain ⟨w', ew, hw', hr3, hrl3, rfl⟩ := hG3.ok he3
        have : w' = w := by omega
        subst this
        rw [List.length_drop, hsl] at hrl3
        generalize ha3 : a'' + (uintL w').length = a3 at *
        have eb3 : ∀ L, SmpP L → bl s = encD L → L.length = N ∧ L[0]? = some ((t : Int), unfoldN w') ∧ (bl s).drop a3 = tailL L := fun L hP hL => by
          obtain ⟨q1, q2, q3, q4, q5, q6⟩ := eb1 L hP hL
          obtain ⟨q7, q8⟩ := eb2 L hP hL
          have h1 := (hG3.of (foldN_lt q6) q8).1
          have e : foldN (vAt L 0) = w' := by omega
          refine ⟨q1, ?_, ?_⟩
          · rw [q4, q7, ← e, unfold_fold]
          · have := drop_pre q8
            rwa [e, ha3] at this
        have ewt : IntKind.wrap .i64 ((t : Nat) : Int) = t := wrap64_of (by omega) (by omega)
        rw [ewt] at hn3
        have ewN : IntKind.wrap .i64 ((N : Nat) : Int) = N := wrap64_of (by omega) (by omega)
        have hOw : Own encS 107 H2.size H3 (some ⟨b, 0, none⟩) 1 1 [((t : Int), unfoldN w')] := by
          refine ⟨rfl, .inr ⟨b, _, rfl, by rw [hn3.eq]; exact Nat.le_refl _, hn3.get, Nat.le_refl _, by decide, rfl, rfl⟩⟩
        have hvw := unfold_64 hw'
        have hsne : s ≠ ⟨#[]⟩ := by
          intro e
          have : s.size = 0 := by rw [e]; rfl
          have := uintL_pos N
          omega
        have fin : ∀ (a : Option Addr) (n c : Nat) (l : List Smp) (H4 : Heap), n = N → Own encS 107 H2.size H4 a n c l → (∀ x ∈ l, I64 x.2) → Fr [] H2 H4 → (∀ L, SmpP L → bl s = encD L → l = L) →
            CallH Tryz.prog 46 ⟨[.slice a n c]⟩ H4 fun v H' => ∃ s_1 n_9, v = .tuple ⟨[.string s_1, .int .i64 n_9]⟩ ∧ brB (!ByteArray.toList s_1 == ByteArray.toList s) (∃ a n c e, Value.tuple ⟨[.slice none 0 0, .int .i64 11]⟩ = .tuple ⟨[.slice a n c, .int .i64 e]⟩ ∧ K a n c e H') (∃ a_1 n_1 c_1 e, Value.tuple ⟨[.slice a n c, .int .i64 0]⟩ = .tuple ⟨[.slice a_1 n_1 c_1, .int .i64 e]⟩ ∧ K a_1 n_1 c_1 e H') := by
          intro a n c l H4 hnN ho hv hf hcmp
          have hl := ho.1
          have bad : ¬ SmpP l → ∀ H', Fr [] H2 H' → brB (!ByteArray.toList (⟨#[]⟩ : ByteArray) == ByteArray.toList s) (∃ a n c e, Value.tuple ⟨[.slice none 0 0, .int .i64 11]⟩ = .tuple ⟨[.slice a n c, .int .i64 e]⟩ ∧ K a n c e H') (∃ a_1 n_1 c_1 e, Value.tuple ⟨[.slice a n c, .int .i64 0]⟩ = .tuple ⟨[.slice a_1 n_1 c_1, .int .i64 e]⟩ ∧ K a_1 n_1 c_1 e H') := fun hnP H' hf' => by
            rw [sized_ne (fun e => hsne e.symm)]
            refine ⟨_, _, _, _, rfl, hno (fun L hP hL => hnP ?_) _ hf'⟩
            rw [hcmp L hP hL]; exact hP
          refine Encode_ok ho.sl hv (by omega) (fun h => by omega) (fun _ hnP H' hf' => bad hnP H' (hf.keep0 hf')) fun hP H' hf' => ?_
          by_cases e : s = ⟨(encD l).toArray⟩
          · rw [sized e.symm]
            exact ⟨_, _, _, _, rfl, hyes l _ _ _ _ hP (by rw [e]) (ho.keep hf') (hf.keep0 hf')⟩
          · rw [sized_ne (fun h => e h.symm)]
            refine ⟨_, _, _, _, rfl, hno (fun L hP' hL => e ?_) _ (hf.keep0 hf')⟩
            rw [hcmp L hP' hL]
            exact bl_inj hL
        refine brB_of (fun h1 => ?_) (fun h1 => ?_)
        · have h2 : 2 ≤ N := by simp at h1; omega
          refine chk_true (decide_eq_true ⟨by omega, by omega, by omega⟩) ?_
          rw [ewN, Int.toNat_natCast, Int.toNat_natCast]
          have hbe : bl (s.extract a3 s.size) = (bl s).drop a3 := by rw [bl_ext, List.take_of_length_le (by omega)]
          have hes : (s.extract a3 s.size).size ≤ s.size := by rw [size_ext]; omega
          refine rest_ok hOw hn3.fr.size rfl ⟨h2, by omega⟩ (by omega) ⟨by simp only; omega, hT⟩ hvw (fun hn H4 f4 => brB_of (fun _ => ⟨_, _, _, _, rfl, hno (fun L hP hL => ?_) _ ?_⟩) fun h => by cases h) fun a' c' l b' H4 ho hv f4 hcmp => ?_
          · obtain ⟨q1, q2, q3⟩ := eb3 L hP hL
            exact hn L hP q1 q2 (by rw [hbe]; exact q3)
          · exact hn3.fr.keep f4 fun k hk => by simp [blkL] at hk; have := hn3.eq; omega
          · have hf4 : Fr [] H2 H4 := hn3.fr.keep f4 fun k hk => by simp [blkL] at hk; have := hn3.eq; omega
            refine brB_of (fun hb => ⟨_, _, _, _, rfl, hno (fun L hP hL => ?_) _ hf4⟩) fun hb => ?_
            · obtain ⟨q1, q2, q3⟩ := eb3 L hP hL
              have := (hcmp L hP q1 q2 (by rw [hbe]; exact q3)).2
              rw [this] at hb; cases hb
            · exact fin _ _ _ l H4 rfl ho hv hf4 fun L hP hL => by
                obtain ⟨q1, q2, q3⟩ := eb3 L hP hL
                exact (hcmp L hP q1 q2 (by rw [hbe]; exact q3)).1
        · have hN1 : N = 1 := by simp at h1; omega
          subst hN1
          refine brB_of (fun h => ⟨_, _, _, _, rfl, hno (fun L hP hL => ?_) _ hn3.fr⟩) fun h => ?_
          · obtain ⟨q1, q2, q3⟩ := eb3 L hP hL
            have : tailL L = [] := by unfold tailL; rw [if_pos (by omega)]
            rw [this] at q3
            have := congrArg List.length q3
            rw [List.length_drop, hsl] at this
            simp at h this; omega
          · exact fin _ _ _ _ _ rfl hOw (fun x hx => by simp at hx; subst hx; exact hvw) hn3.fr fun L hP hL => by
              obtain ⟨q1, q2, q3⟩ := eb3 L hP hL
              cases L with
              | nil => simp at q1
              | cons x L => simp at q2 q1; subst q1; rw [q2]
end Go.Proofs
set_option linter.unusedVariables false
open Go Go.GV
namespace Go.Proofs

theorem set_ok {a : Option Addr} {n c : Nat} {xs : List Smp} {x : Smp} {H : Heap} {K : Option Addr → Nat → Nat → Heap → Prop} (hx : Sl encS H a n c xs) (hn : n ≤ 1000000000)
    (hk : ∀ a' n' c' H', Own encS 107 H.size H' a' n' c' (setS xs x) → n' ≤ n + 1 → Fr [] H H' → K a' n' c' H') :
    CallH Tryz.prog fn_ref13_set ⟨[.slice a n c, vS x]⟩ H fun v H' => ∃ a n c, v = .slice a n c ∧ K a n c H' := by
  apply vc_ref13_set
  have hlx := hx.len
  intro b H1 hn1 b1 H2 hn2
  have hb2 : Fr [] H H2 := hn1.fr.keep0 hn2.fr
  refine ⟨fun vs H' => match vs with | [.slice o p q, .bool dn, .int _ i] => ∃ (k : Nat) (L : List Smp), i = k ∧ k ≤ n ∧ p ≤ k + dn.toNat ∧ Own encS 107 H1.size H' o p q L ∧ L ++ (if dn then (xs.drop k).filter (fun z => decide (z.1 ≠ x.1)) else setS (xs.drop k) x) = setS xs x ∧ Fr [] H1 H' | _ => False,
    fun vs _ => match vs with | [_, _, .int _ i] => n - i.toNat | _ => 0, ⟨0, [], rfl, by omega, by simp, Own.made encS 107 hn2 (Nat.le_refl _), by simp, hn2.fr⟩, ?_⟩
  rintro J o p q dn i H' ⟨k, L, rfl, hle, hpk, ho, he, hf2⟩
  have hf : Fr [] H H' := hn1.fr.keep0 hf2
  have hl := ho.1
  have hdn : dn.toNat ≤ 1 := by cases dn <;> decide
  have hv : Blk H1 ⟨b, 0, none⟩ [.int .i64 x.1, .int .i64 x.2] := hn1.blk
  refine brB_of (fun h0 => ?_) (fun h0 => ?_)
  · have h0' : k < n := by simpa using h0
    have hx1 : xs[k]? = some (xs[k]'(by omega)) := by simp
    have hdr : xs.drop k = xs[k]'(by omega) :: xs.drop (k + 1) := List.drop_eq_getElem_cons (by omega)
    generalize hy : xs[k]'(by omega) = y at hx1 hdr
    rw [hdr] at he
    refine ⟨fun vs H' => match vs with | [.slice o p q, .bool dn] => ∃ (L : List Smp), p ≤ k + dn.toNat ∧ Own encS 107 H1.size H' o p q L ∧ L ++ (if dn then (y :: xs.drop (k + 1)).filter (fun z => decide (z.1 ≠ x.1)) else setS (y :: xs.drop (k + 1)) x) = setS xs x ∧ (dn = false → y.1 < x.1) ∧ Fr [] H1 H' | _ => False, ?_, ?_⟩
    · refine brB_of (fun h1 => ?_) (fun h1 => ⟨L, hpk, ho, he, fun h => by simp [h] at h1, hf2⟩)
      have hd0 : dn = false := by simpa using h1
      subst hd0
      refine (hx.keep hf).get rfl hx1 (decide_eq_true (by omega)) fun ad ea hc => ⟨_, ldT hc, ?_⟩
      refine ⟨_, (hv.keep hf2).ld0 (by kernel_rfl) rfl, brB_of (fun h3 => ?_) (fun h3 => ⟨L, hpk, ho, he, fun _ => by simpa using h3, hf2⟩)⟩
      refine ⟨_, _, (hv.keep hf2).ldA0 (us := [.int .i64 x.1, .int .i64 x.2]) (by kernel_rfl) (by kernel_rfl) rfl, ?_⟩
      simp at hpk
      refine ap_one (E := encS) x slice22 elem26 ho hf2 rfl (by omega) fun _ o2 p2 q2 H4 hw2 hf4 _ => ⟨L ++ [x], ?_, hw2, ?_, fun h => (by cases h), hf4⟩
      · have hb2 := hw2.1
        simp at hb2 ⊢
        omega
      · rw [← he]
        simp only [Bool.false_eq_true, if_false, if_true]
        rw [setS_ge (by simpa using h3), List.append_assoc]
        rfl
    · rintro J2 o p q dn H3 ⟨L, hpk, ho, he, hlt, hf2⟩
      have hf : Fr [] H H3 := hn1.fr.keep0 hf2
      have hl := ho.1
      have hdn : dn.toNat ≤ 1 := by cases dn <;> decide
      rw [succ64 (by omega)]
      refine (hx.keep hf).get rfl hx1 (decide_eq_true (by omega)) fun ad ea hc => ⟨_, ldT hc, ?_⟩
      refine ⟨_, (hv.keep hf2).ld0 (by kernel_rfl) rfl, brB_of (fun h3 => ?_) (fun h3 => ?_)⟩
      · refine (hx.keep hf).get rfl hx1 (decide_eq_true (by omega)) fun ad ea hc => ⟨_, _, ldS hc, ?_⟩
        refine ap_one (E := encS) y slice22 elem26 ho hf2 rfl (by omega) fun _ o2 p2 q2 H4 hw2 hf4 _ => ⟨⟨k + 1, L ++ [y], rfl, by omega, ?_, hw2, ?_, hf4⟩, mu_lt h0'⟩
        · have hb2 := hw2.1
          simp at hb2 ⊢
          omega
        · rw [← he]
          cases dn with
          | true => simp only [if_true, List.filter_cons]; rw [if_pos (by simpa using h3)]; simp
          | false => simp only [Bool.false_eq_true, if_false]; rw [setS_lt (hlt rfl)]; simp
      · refine ⟨⟨k + 1, L, rfl, by omega, by omega, ho, ?_, hf2⟩, mu_lt h0'⟩
        have h3' : y.1 = x.1 := by simpa using h3
        rw [← he]
        cases dn with
        | true => simp only [if_true, List.filter_cons]; rw [if_neg (by simpa using h3')]
        | false => have := hlt rfl; omega
  · have e : xs.drop k = [] := List.drop_eq_nil_of_le (by simp at h0; omega)
    rw [e] at he
    refine brB_of (fun h1 => ?_) (fun h1 => ?_)
    · have hd0 : dn = false := by simpa using h1
      subst hd0
      simp at hpk
      refine ⟨_, _, (hv.keep hf2).ldA0 (us := [.int .i64 x.1, .int .i64 x.2]) (by kernel_rfl) (by kernel_rfl) rfl, ?_⟩
      refine ap_one (E := encS) x slice22 elem26 ho hf2 rfl (by omega) fun _ o2 p2 q2 H4 hw2 hf4 _ => ⟨_, _, _, rfl, hk _ _ _ _ ?_ ?_ (hn1.fr.keep0 hf4)⟩
      · rw [← he]; exact hw2.base hn1.fr.size
      · have hb2 := hw2.1
        simp at hb2
        omega
    · have hd0 : dn = true := by simpa using h1
      subst hd0
      simp at hpk he
      exact ⟨_, _, _, rfl, hk _ _ _ _ (by rw [← he]; exact ho.base hn1.fr.size) (by omega) hf⟩

theorem rMerge_ok {a b : Option Addr} {n c m d : Nat} {xs ys : List Smp} {H : Heap} {K : Option Addr → Nat → Nat → Heap → Prop} (hx : Sl encS H a n c xs) (hy : Sl encS H b m d ys) (hrx : Ris xs) (hry : Ris ys)
    (hn : n + m ≤ 100000000) (hk : ∀ a' n' c' H', Own encS 107 H.size H' a' n' c' (mrg xs ys) → Fr [] H H' → K a' n' c' H') :
    CallH Tryz.prog fn_ref13_Merge ⟨[.slice a n c, .slice b m d]⟩ H fun v H' => ∃ a n c, v = .slice a n c ∧ K a n c H' := by
  apply vc_ref13_Merge
  have hlx := hx.len
  have hly := hy.len
  intro b0 H1 hn1
  have ho0 : Own encS 107 H.size H1 (some ⟨b0, 0, none⟩) 0 0 [] := Own.made encS 107 hn1 (Nat.le_refl _)
  refine ap_own (E := encS) slice22 elem26 ho0 hn1.fr (hx.keep hn1.fr) (by omega) fun o p q H2 ho hf _ => ?_
  have hp := ho.1
  refine ⟨fun vs H' => match vs with | [.slice o p q, .int _ i] => ∃ (k : Nat) (L : List Smp), i = k ∧ k ≤ m ∧ p ≤ n + k ∧ Own encS 107 H.size H' o p q L ∧ (ys.drop k).foldl setS L = ys.foldl setS xs ∧ Fr [] H H' | _ => False,
    fun vs _ => match vs with | [_, .int _ i] => m - i.toNat | _ => 0, ⟨0, _, rfl, by omega, by simp at hp; omega, ho, rfl, hf⟩, ?_⟩
  rintro J o p q i H' ⟨k, L, rfl, hle, hpk, ho, he, hf⟩
  refine brB_of (fun h0 => ?_) (fun h0 => ?_)
  · have h0' : k < m := by simpa using h0
    have hy1 : ys[k]? = some (ys[k]'(by omega)) := by simp
    refine (hy.keep hf).get rfl hy1 (decide_eq_true (by omega)) fun ad ea hc => ⟨_, _, ldS hc, ?_⟩
    refine set_ok ho.sl (by omega) fun o2 p2 q2 H3 ho2 hp2 hf3 => ?_
    rw [succ64 (by omega)]
    refine ⟨⟨k + 1, _, rfl, by omega, by omega, ho2.base hf.size, ?_, hf.keep0 hf3⟩, mu_lt h0'⟩
    rw [← he, List.drop_eq_getElem_cons (show k < ys.length by omega), List.foldl_cons]
  · have e : ys.drop k = [] := List.drop_eq_nil_of_le (by simp at h0; omega)
    rw [e, fold_set _ _ hrx hry] at he
    simp only [List.foldl_nil] at he
    subst he
    exact ⟨_, _, _, rfl, hk _ _ _ _ ho hf⟩

end Go.Proofs
set_option linter.unusedVariables false
open Go Go.GV
namespace Go.Proofs

theorem zero26 : zeroOf Tryz.prog 107 = some (.agg ⟨[.int .i64 0, .int .i64 0]⟩) := by kernel_rfl

theorem Clone_ok {a : Option Addr} {n c : Nat} {xs : List Smp} {H : Heap} {K : Option Addr → Nat → Nat → Heap → Prop} (hx : Sl encS H a n c xs) (hn : n ≤ 1000000000)
    (hk : ∀ a' n' c' H', Own encS 107 H.size H' a' n' c' xs → Fr [] H H' → K a' n' c' H') :
    CallH Tryz.prog fn_slices_Clone___api_Sample_api_Sample_ ⟨[.slice a n c]⟩ H fun v H' => ∃ a n c, v = .slice a n c ∧ K a n c H' := by
  apply vc_slices_Clone___api_Sample_api_Sample_
  refine brB_of (fun h => ⟨_, _, _, rfl, ?_⟩) (fun h b H1 hn1 => ?_)
  · have : a = none := by simpa using h
    subst this
    have hxs : xs = [] := by
      rcases hx.arr with h | ⟨_, _, e, _⟩
      · exact h
      · cases e
    subst hxs
    exact hk none 0 0 H (Own.nil _ _ _ _) (Fr.refl _ _)
  · have ho0 : Own encS 107 H.size H1 (some ⟨b, 0, none⟩) 0 0 [] := Own.made encS 107 hn1 (Nat.le_refl _)
    refine ap_own (E := encS) slice22 elem26 ho0 hn1.fr (hx.keep hn1.fr) (by omega) fun o p q H2 ho hf _ => ⟨_, _, _, rfl, hk _ _ _ _ ho hf⟩

end Go.Proofs
namespace Go.Proofs
set_option linter.unusedVariables false
def Srt (l : List Smp) : Prop := l.Pairwise fun x y => x.1 ≤ y.1
def Stb (l m : List Smp) : Prop := ∀ t, l.filter (fun x => decide (x.1 = t)) = m.filter (fun x => decide (x.1 = t))
theorem Stb.refl (l : List Smp) : Stb l l := fun _ => rfl
theorem Stb.symm {l m : List Smp} (h : Stb l m) : Stb m l := fun t => (h t).symm
theorem Stb.trans {l m k : List Smp} (h : Stb l m) (h' : Stb m k) : Stb l k := fun t => (h t).trans (h' t)
theorem Stb.app {l m l' m' : List Smp} (h : Stb l m) (h' : Stb l' m') : Stb (l ++ l') (m ++ m') := fun t => by rw [List.filter_append, List.filter_append, h t, h' t]
theorem Stb.mem {l m : List Smp} (h : Stb l m) {x : Smp} : x ∈ l ↔ x ∈ m := by
  have e := h x.1
  constructor
  · intro hx
    have : x ∈ l.filter (fun y => decide (y.1 = x.1)) := List.mem_filter.2 ⟨hx, by simp⟩
    rw [e] at this; exact (List.mem_filter.1 this).1
  · intro hx
    have : x ∈ m.filter (fun y => decide (y.1 = x.1)) := List.mem_filter.2 ⟨hx, by simp⟩
    rw [← e] at this; exact (List.mem_filter.1 this).1
theorem Stb.swap {A B : List Smp} (h : ∀ x ∈ A, ∀ y ∈ B, y.1 < x.1) : Stb (A ++ B) (B ++ A) := fun t => by
  rw [List.filter_append, List.filter_append]
  by_cases hA : A.filter (fun x => decide (x.1 = t)) = []
  · rw [hA]; simp
  · by_cases hB : B.filter (fun x => decide (x.1 = t)) = []
    · rw [hB]; simp
    · obtain ⟨x, hx⟩ := List.exists_mem_of_ne_nil _ hA
      obtain ⟨y, hy⟩ := List.exists_mem_of_ne_nil _ hB
      have h1 := List.mem_filter.1 hx
      have h2 := List.mem_filter.1 hy
      have := h x h1.1 y h2.1
      have e1 := of_decide_eq_true h1.2
      have e2 := of_decide_eq_true h2.2
      omega
theorem Stb.swap1 {A : List Smp} {y : Smp} (h : ∀ x ∈ A, y.1 < x.1) : Stb (A ++ [y]) (y :: A) := Stb.swap (B := [y]) fun x hx z hz => by simp at hz; subst hz; exact h x hx
theorem Stb.front {B : List Smp} {x : Smp} (h : ∀ y ∈ B, y.1 < x.1) : Stb (x :: B) (B ++ [x]) := Stb.swap (A := [x]) fun z hz y hy => by simp at hz; subst hz; exact h y hy
theorem Stb.length {l m : List Smp} (h : Stb l m) : l.length = m.length := by
  induction l generalizing m with
  | nil =>
    cases m with
    | nil => rfl
    | cons y m => have := (h.mem (x := y)).2 (by simp); simp at this
  | cons x l ih =>
    have hx := (h.mem (x := x)).1 (by simp)
    have : ∃ u v, m = u ++ x :: v ∧ ∀ y ∈ u, y.1 ≠ x.1 := by
      have e := h x.1
      rw [List.filter_cons, if_pos (by simp)] at e
      clear ih h hx
      induction m with
      | nil => simp at e
      | cons z m ihm =>
        rw [List.filter_cons] at e
        split at e
        · rename_i hz
          simp only [List.cons.injEq] at e
          exact ⟨[], m, by rw [e.1]; rfl, by simp⟩
        · rename_i hz
          obtain ⟨u, v, rfl, hu⟩ := ihm e
          refine ⟨z :: u, v, rfl, fun y hy => ?_⟩
          rcases List.mem_cons.1 hy with rfl | hy
          · simpa using hz
          · exact hu y hy
    obtain ⟨u, v, rfl, hu⟩ := this
    have h' : Stb l (u ++ v) := fun t => by
      have e := h t
      rw [List.filter_cons, List.filter_append, List.filter_cons] at e
      rw [List.filter_append]
      by_cases ht : x.1 = t
      · subst ht
        rw [if_pos (by simp), if_pos (by simp)] at e
        have : u.filter (fun y => decide (y.1 = x.1)) = [] := List.filter_eq_nil_iff.2 fun y hy => by simpa using hu y hy
        rw [this] at e ⊢
        simpa using e
      · rw [if_neg (by simpa using ht), if_neg (by simpa using ht)] at e
        exact e
    have := ih h'
    simp at this ⊢; omega
theorem srt_app {A B : List Smp} (hA : Srt A) (hB : Srt B) (h : ∀ x ∈ A, ∀ y ∈ B, x.1 ≤ y.1) : Srt (A ++ B) := List.pairwise_append.2 ⟨hA, hB, h⟩
theorem Srt.left {A B : List Smp} (h : Srt (A ++ B)) : Srt A := (List.pairwise_append.1 h).1
theorem Srt.right {A B : List Smp} (h : Srt (A ++ B)) : Srt B := (List.pairwise_append.1 h).2.1
theorem Srt.across {A B : List Smp} (h : Srt (A ++ B)) : ∀ x ∈ A, ∀ y ∈ B, x.1 ≤ y.1 := (List.pairwise_append.1 h).2.2
theorem Srt.le {l : List Smp} (h : Srt l) {i j : Nat} {x y : Smp} (hij : i ≤ j) (hx : l[i]? = some x) (hy : l[j]? = some y) : x.1 ≤ y.1 := by
  rcases Nat.lt_or_ge i j with h1 | h1
  · obtain ⟨hi, rfl⟩ := List.getElem?_eq_some_iff.1 hx
    obtain ⟨hj, rfl⟩ := List.getElem?_eq_some_iff.1 hy
    exact List.pairwise_iff_getElem.1 h i j hi hj h1
  · have : i = j := by omega
    subst this
    rw [hx] at hy; cases hy; exact Int.le_refl _
theorem ends_le {A B : List Smp} (hA : Srt A) (hB : Srt B) (h : ∀ x y, A.getLast? = some x → B.head? = some y → x.1 ≤ y.1) : ∀ x ∈ A, ∀ y ∈ B, x.1 ≤ y.1 := fun x hx y hy => by
  have hA0 : A ≠ [] := by intro e; subst e; cases hx
  have hB0 : B ≠ [] := by intro e; subst e; cases hy
  obtain ⟨i, hi⟩ := List.getElem?_of_mem hx
  obtain ⟨j, hj⟩ := List.getElem?_of_mem hy
  have hiA := (List.getElem?_eq_some_iff.1 hi).1
  have h1 : x.1 ≤ (A.getLast hA0).1 := hA.le (i := i) (j := A.length - 1) (by omega) hi (by rw [← List.getLast?_eq_getElem?]; exact List.getLast?_eq_some_getLast hA0)
  obtain ⟨b, B', rfl⟩ := List.exists_cons_of_ne_nil hB0
  have h2 : b.1 ≤ y.1 := hB.le (i := 0) (j := j) (Nat.zero_le _) rfl hj
  have := h _ b (List.getLast?_eq_some_getLast hA0) rfl
  omega
theorem ends_lt {A B : List Smp} (hA : Srt A) (hB : Srt B) (h : ∀ x y, A.head? = some x → B.getLast? = some y → y.1 < x.1) : ∀ x ∈ A, ∀ y ∈ B, y.1 < x.1 := fun x hx y hy => by
  have hA0 : A ≠ [] := by intro e; subst e; cases hx
  have hB0 : B ≠ [] := by intro e; subst e; cases hy
  obtain ⟨i, hi⟩ := List.getElem?_of_mem hx
  obtain ⟨j, hj⟩ := List.getElem?_of_mem hy
  have hjB := (List.getElem?_eq_some_iff.1 hj).1
  have h1 : y.1 ≤ (B.getLast hB0).1 := hB.le (i := j) (j := B.length - 1) (by omega) hj (by rw [← List.getLast?_eq_getElem?]; exact List.getLast?_eq_some_getLast hB0)
  obtain ⟨a, A', rfl⟩ := List.exists_cons_of_ne_nil hA0
  have h2 : a.1 ≤ x.1 := hA.le (i := 0) (j := i) (Nat.zero_le _) rfl hi
  have := h a _ rfl (List.getLast?_eq_some_getLast hB0)
  omega

def Srtd (l m : List Smp) (a b : Nat) : Prop := ∃ P s s' Q, l = P ++ s ++ Q ∧ m = P ++ s' ++ Q ∧ P.length = a ∧ a + s.length = b ∧ Srt s' ∧ Stb s s'
theorem Srtd.len {l m : List Smp} {a b : Nat} (h : Srtd l m a b) : m.length = l.length := by
  obtain ⟨P, s, s', Q, rfl, rfl, _, _, _, h⟩ := h
  have := h.length
  simp only [List.length_append]; omega

theorem mid0 {A B : List Smp} {w : Smp} {k : Nat} (h : A.length = k) : (A ++ w :: B)[k]? = some w := by subst h; simp
theorem mid1 {A B : List Smp} {w x : Smp} {k : Nat} (h : A.length + 1 = k) : (A ++ w :: x :: B)[k]? = some x := by
  subst h
  rw [List.getElem?_append_right (by omega)]
  simp
theorem mset0 {A B : List Smp} {w y : Smp} {k : Nat} (h : A.length = k) : (A ++ w :: B).set k y = A ++ y :: B := by subst h; simp
theorem mset1 {A B : List Smp} {w x y : Smp} {k : Nat} (h : A.length + 1 = k) : (A ++ w :: x :: B).set k y = A ++ w :: y :: B := by
  subst h
  rw [List.set_append_right _ _ (by omega)]
  simp
theorem cmpI_neg {x y : Int} : cmpI x y < 0 ↔ x < y := by unfold cmpI; split <;> (try split) <;> omega
theorem swap_two {base : Nat} {H : Heap} {a : Option Addr} {n c k : Nat} {A B L : List Smp} {w x : Smp} {i1 i2 : Int} {X : Heap → Prop} (ho : Own encS 107 base H a n c L) (eL : L = A ++ w :: x :: B) (hA : A.length = k) (e1 : i1 = ((k + 1 : Nat) : Int)) (e2 : i2 = (k : Int)) (b1 b2 : Bool) (h1 : b1 = true) (h2 : b2 = true)
    (hk : ∀ H', Own encS 107 base H' a n c (A ++ x :: w :: B) → Fr (blkL a) H H' → X H') :
    exSome a fun ad => chk b1 (∃ H'_2, St Tryz.prog 107 H (Addr.add ad (i1.toNat * 2)) (vS w) H'_2 ∧ exSome a fun ad => chk b2 (∃ H', St Tryz.prog 107 H'_2 (Addr.add ad (i2.toNat * 2)) (vS x) H' ∧ X H')) := by
  subst eL e1 e2
  have hl := ho.1
  simp at hl
  refine own_put (E := encS) (k := k + 1) w ho rfl (by omega) h1 rfl (by kernel_rfl) (by kernel_rfl) fun H2 ho2 hf2 => ?_
  rw [mset1 (by omega)] at ho2
  refine own_put (E := encS) (k := k) x ho2 rfl (by omega) h2 rfl (by kernel_rfl) (by kernel_rfl) fun H3 ho3 hf3 => ?_
  rw [mset0 hA] at ho3
  exact hk H3 ho3 (hf2.trans' hf3 (fun _ h _ => h) (fun _ h _ => h))
theorem insertionSort_ok {order : Value} (hT : ByT order) {base : Nat} {H : Heap} {a : Option Addr} {n c p q : Nat} {P s Q : List Smp} {K : Heap → Prop} (hx : Own encS 107 base H a n c (P ++ s ++ Q)) (hp : P.length = p) (hq : p + s.length = q) (hn : n ≤ 1000000000)
    (hk : ∀ H' s', Own encS 107 base H' a n c (P ++ s' ++ Q) → Srt s' → Stb s s' → Fr (blkL a) H H' → K H') :
    CallH Tryz.prog fn_slices_insertionSortCmpFunc_api_Sample_ ⟨[.slice a n c, .int .i64 p, .int .i64 q, order]⟩ H fun v H' => v = .tuple ⟨[]⟩ ∧ K H' := by
  apply vc_slices_insertionSortCmpFunc_api_Sample_
  have hl := hx.1
  simp at hl
  rw [succ64 (by omega)]
  refine ⟨fun vs H' => match vs with
      | [.int _ i] => ∃ (u u' v : List Smp), i = ((p + u.length : Nat) : Int) ∧ (s = u ++ v ∨ (s = [] ∧ u' = [] ∧ v = [] ∧ u.length = 1)) ∧ 1 ≤ u.length ∧ Own encS 107 base H' a n c (P ++ (u' ++ v) ++ Q) ∧ Srt u' ∧ (s ≠ [] → Stb u u') ∧ Fr (blkL a) H H'
      | _ => False,
    fun vs _ => match vs with | [.int _ i] => q + 1 - i.toNat | _ => 0, ?_, ?_⟩
  · cases s with
    | nil => exact ⟨[(0, 0)], [], [], rfl, .inr ⟨rfl, rfl, rfl, rfl⟩, Nat.le_refl _, hx, List.Pairwise.nil, fun h => absurd rfl h, Fr.refl _ _⟩
    | cons x s => exact ⟨[x], [x], s, rfl, .inl rfl, Nat.le_refl _, hx, by simp [Srt], fun _ => Stb.refl _, Fr.refl _ _⟩
  rintro J i H1 ⟨u, u', v, rfl, hs, hu1, ho, hS, hB, hf⟩
  refine brB_of (fun h0 => ?_) (fun h0 => ?_)
  · have h0' : p + u.length < q := by simp at h0; omega
    rcases hs with hs | ⟨rfl, _, _, h1⟩
    rotate_left
    · simp at hq; omega
    have hs0 : s ≠ [] := by intro e; subst e; simp at hq; omega
    have hB := hB hs0
    have hul := hB.length
    cases v with
    | nil => subst hs; simp at hq; omega
    | cons x v =>
      have hnl := ho.1
      simp only [List.length_append, List.length_cons] at hnl
      refine ⟨fun vs H' => match vs with
          | [.int _ j] => ∃ U V : List Smp, u' = U ++ V ∧ j = ((p + U.length : Nat) : Int) ∧ (∀ w ∈ V, x.1 < w.1) ∧ Own encS 107 base H' a n c (P ++ (U ++ x :: V ++ v) ++ Q) ∧ Fr (blkL a) H H'
          | _ => False,
        fun vs _ => match vs with | [.int _ j] => j.toNat | _ => 0, ⟨u', [], by simp, by rw [hul], by simp, by simpa using ho, hf⟩, ?_⟩
      rintro J j H2 ⟨U, V, rfl, rfl, hV, ho2, hf2⟩
      rw [List.length_append] at hul
      have fin : ∀ {H3 : Heap}, Own encS 107 base H3 a n c (P ++ (U ++ x :: V ++ v) ++ Q) → Fr (blkL a) H H3 → (∀ w ∈ U, w.1 ≤ x.1) →
          (∃ (u_1 u'_1 v_1 : List Smp), IntKind.i64.wrap (((p + u.length : Nat) : Int) + 1) = ((p + u_1.length : Nat) : Int) ∧ (s = u_1 ++ v_1 ∨ (s = [] ∧ u'_1 = [] ∧ v_1 = [] ∧ u_1.length = 1)) ∧ 1 ≤ u_1.length ∧ Own encS 107 base H3 a n c (P ++ (u'_1 ++ v_1) ++ Q) ∧ Srt u'_1 ∧ (s ≠ [] → Stb u_1 u'_1) ∧ Fr (blkL a) H H3) ∧ q + 1 - (IntKind.i64.wrap (((p + u.length : Nat) : Int) + 1)).toNat < q + 1 - (((p + u.length : Nat) : Int)).toNat := fun ho3 hf3 hU => by
        rw [succ64 (by omega)]
        refine ⟨⟨u ++ [x], U ++ x :: V, v, by simp; omega, .inl (by rw [hs]; simp), by simp, ho3, ?_, fun _ => ?_, hf3⟩, by omega⟩
        · refine srt_app hS.left (List.pairwise_cons.2 ⟨fun w hw => Int.le_of_lt (hV w hw), hS.right⟩) fun w hw z hz => ?_
          rcases List.mem_cons.1 hz with rfl | hz
          · exact hU w hw
          · exact hS.across w hw z hz
        · refine (hB.app (Stb.refl [x])).trans ?_
          rw [List.append_assoc]
          exact (Stb.refl U).app (Stb.swap1 hV)
      refine ⟨fun _ H' => ∃ U0 w, U = U0 ++ [w] ∧ x.1 < w.1 ∧ Own encS 107 base H' a n c (P ++ (U ++ x :: V ++ v) ++ Q) ∧ Fr (blkL a) H H', ?_, ?_⟩
      · refine brB_of (fun h1 => ?_) (fun h1 => fin ho2 hf2 fun w hw => ?_)
        · have hU0 : 0 < U.length := by simp at h1; omega
          obtain ⟨U0, w, rfl⟩ : ∃ U0 w, U = U0 ++ [w] := ⟨U.dropLast, U.getLast (by intro e; subst e; simp at hU0), (List.dropLast_concat_getLast _).symm⟩
          have eL : P ++ (U0 ++ [w] ++ x :: V ++ v) ++ Q = (P ++ U0) ++ w :: x :: (V ++ v ++ Q) := by simp
          simp only [List.length_append, List.length_cons, List.length_nil] at hul h0' hU0 ⊢
          rw [show p + (U0.length + (0 + 1)) = (p + U0.length) + 1 by omega, pred64 (by omega) (by omega)]
          refine ho2.sl.get (k := p + U0.length + 1) rfl (by rw [eL]; exact mid1 (by simp; omega)) (decide_eq_true (by omega)) fun ad ea hc => ⟨_, _, ldS hc, ?_⟩
          refine ho2.sl.get (k := p + U0.length) (by omega) (by rw [eL]; exact mid0 (by simp; omega)) (decide_eq_true (by omega)) fun ad ea hc => ⟨_, _, ldS hc, ?_⟩
          refine hT x w H2 _ fun H3 hf3 => brB_of (fun h2 => ⟨U0, w, rfl, cmpI_neg.1 (of_decide_eq_true h2), ho2.keep hf3, hf2.trans' hf3 (fun _ h _ => h) (by simp)⟩) (fun h2 => ?_)
          have h2' : ¬ x.1 < w.1 := fun h => of_decide_eq_false h2 (cmpI_neg.2 h)
          have := fin (ho2.keep hf3) (hf2.trans' hf3 (fun _ h _ => h) (by simp)) fun z hz => by
            rcases List.mem_append.1 hz with hz | hz
            · have := hS.left.across z hz w (by simp)
              omega
            · simp at hz; subst hz; omega
          exact this
        · have : U = [] := List.eq_nil_of_length_eq_zero (by simp at h1; omega)
          subst this; cases hw
      · rintro J H3 ⟨U0, w, rfl, hxw, ho3, hf3⟩
        have eL : P ++ (U0 ++ [w] ++ x :: V ++ v) ++ Q = (P ++ U0) ++ w :: x :: (V ++ v ++ Q) := by simp
        simp only [List.length_append, List.length_cons, List.length_nil] at hul h0' ⊢
        rw [show p + (U0.length + (0 + 1)) = (p + U0.length) + 1 by omega, pred64 (by omega) (by omega)]
        refine ho3.sl.get (k := p + U0.length) (by omega) (by rw [eL]; exact mid0 (by simp; omega)) (decide_eq_true (by omega)) fun ad ea hc => ⟨_, _, ldS hc, ?_⟩
        refine ho3.sl.get (k := p + U0.length + 1) rfl (by rw [eL]; exact mid1 (by simp; omega)) (decide_eq_true (by omega)) fun ad ea hc => ⟨_, _, ldS hc, ?_⟩
        refine swap_two (k := p + U0.length) ho3 eL (by simp; omega) rfl (by omega) _ _ (decide_eq_true (by omega)) (decide_eq_true (by omega)) fun H4 ho4 hf4 => ?_
        refine ⟨⟨U0, w :: V, by simp, by omega, fun z hz => ?_, by simpa using ho4, hf3.trans' hf4 (fun _ h _ => h) (fun _ h _ => h)⟩, ?_⟩
        · rcases List.mem_cons.1 hz with rfl | hz
          · exact hxw
          · exact hV z hz
        · show (((p + U0.length + 1 - 1 : Nat) : Int)).toNat < (((p + U0.length + 1 : Nat) : Int)).toNat
          omega
  · rcases hs with hs | ⟨rfl, rfl, rfl, h1⟩
    · have hv : v = [] := List.eq_nil_of_length_eq_zero (by subst hs; simp at hq h0; omega)
      subst hv
      rw [List.append_nil] at hs ho
      subst hs
      have hs0 : s ≠ [] := by intro e; subst e; simp at hu1
      exact ⟨rfl, hk H1 u' ho hS (hB hs0) hf⟩
    · exact ⟨rfl, hk H1 [] ho List.Pairwise.nil (Stb.refl _) hf⟩

theorem swapRange_ok {order : Value} {base : Nat} {H : Heap} {a : Option Addr} {n c p q : Nat} {L P X M Y Q : List Smp} {K : Heap → Prop} (hx : Own encS 107 base H a n c L) (eL : L = P ++ (X ++ (M ++ (Y ++ Q)))) (hp : P.length = p) (hq : p + X.length + M.length = q) (hXY : X.length = Y.length) (hn : n ≤ 1000000000)
    (hk : ∀ H', Own encS 107 base H' a n c (P ++ (Y ++ (M ++ (X ++ Q)))) → Fr (blkL a) H H' → K H') :
    CallH Tryz.prog fn_slices_swapRangeCmpFunc_api_Sample_ ⟨[.slice a n c, .int .i64 p, .int .i64 q, .int .i64 X.length, order]⟩ H fun v H' => v = .tuple ⟨[]⟩ ∧ K H' := by
  apply vc_slices_swapRangeCmpFunc_api_Sample_
  have hl := hx.1
  subst eL
  simp only [List.length_append] at hl
  refine ⟨fun vs H' => match vs with
      | [.int _ i] => ∃ (X1 X2 Y1 Y2 : List Smp), i = (X1.length : Int) ∧ X = X1 ++ X2 ∧ Y = Y1 ++ Y2 ∧ X1.length = Y1.length ∧ Own encS 107 base H' a n c (P ++ (Y1 ++ (X2 ++ (M ++ (X1 ++ (Y2 ++ Q)))))) ∧ Fr (blkL a) H H'
      | _ => False,
    fun vs _ => match vs with | [.int _ i] => X.length - i.toNat | _ => 0, ⟨[], X, [], Y, rfl, rfl, rfl, rfl, hx, Fr.refl _ _⟩, ?_⟩
  rintro J i H1 ⟨X1, X2, Y1, Y2, rfl, rfl, rfl, h12, ho, hf⟩
  simp only [List.length_append] at hXY hq hl
  have ew1 : IntKind.i64.wrap ((q : Int) + (X1.length : Nat)) = ((q + X1.length : Nat) : Int) := by rw [wrap64_of (by omega) (by omega)]; omega
  have ew2 : IntKind.i64.wrap ((p : Int) + (X1.length : Nat)) = ((p + X1.length : Nat) : Int) := by rw [wrap64_of (by omega) (by omega)]; omega
  refine brB_of (fun h0 => ?_) (fun h0 => ?_)
  · have h0' : X1.length < X1.length + X2.length := by simp at h0; omega
    cases X2 with
    | nil => simp at h0'
    | cons x X2 =>
      cases Y2 with
      | nil => simp at hXY; omega
      | cons y Y2 =>
        simp only [List.length_cons] at hXY hq hl
        rw [ew1, ew2]
        have e1 : P ++ (Y1 ++ (x :: X2 ++ (M ++ (X1 ++ (y :: Y2 ++ Q))))) = (P ++ Y1 ++ x :: X2 ++ M ++ X1) ++ y :: (Y2 ++ Q) := by simp
        have e2 : P ++ (Y1 ++ (x :: X2 ++ (M ++ (X1 ++ (y :: Y2 ++ Q))))) = (P ++ Y1) ++ x :: (X2 ++ M ++ X1 ++ y :: (Y2 ++ Q)) := by simp
        refine ho.sl.get (k := q + X1.length) rfl (by rw [e1]; exact mid0 (by simp; omega)) (decide_eq_true (by omega)) fun ad ea hc => ⟨_, _, ldS hc, ?_⟩
        refine ho.sl.get (k := p + X1.length) rfl (by rw [e2]; exact mid0 (by simp; omega)) (decide_eq_true (by omega)) fun ad ea hc => ⟨_, _, ldS hc, ?_⟩
        refine own_put (E := encS) (k := p + X1.length) y ho rfl (by omega) (decide_eq_true (by omega)) rfl (by kernel_rfl) (by kernel_rfl) fun H2 ho2 hf2 => ?_
        rw [e2, mset0 (by simp; omega)] at ho2
        have e3 : (P ++ Y1) ++ y :: (X2 ++ M ++ X1 ++ y :: (Y2 ++ Q)) = (P ++ Y1 ++ y :: X2 ++ M ++ X1) ++ y :: (Y2 ++ Q) := by simp
        refine own_put (E := encS) (k := q + X1.length) x ho2 rfl (by omega) (decide_eq_true (by omega)) rfl (by kernel_rfl) (by kernel_rfl) fun H3 ho3 hf3 => ?_
        rw [e3, mset0 (by simp; omega)] at ho3
        rw [succ64 (by omega)]
        refine ⟨⟨X1 ++ [x], X2, Y1 ++ [y], Y2, by simp, by simp, by simp, by simp; omega, by simpa using ho3, (hf.trans' hf2 (fun _ h _ => h) (fun _ h _ => h)).trans' hf3 (fun _ h _ => h) (fun _ h _ => h)⟩, mu_lt (by simp)⟩
  · have hX2 : X2 = [] := List.eq_nil_of_length_eq_zero (by simp at h0; omega)
    subst hX2
    have hY2 : Y2 = [] := List.eq_nil_of_length_eq_zero (by simp at hXY; omega)
    subst hY2
    simp only [List.append_nil, List.nil_append] at ho hk
    exact ⟨rfl, hk H1 ho hf⟩
theorem rotate_ok {order : Value} {base : Nat} {H : Heap} {a : Option Addr} {n c p m q : Nat} {L P X Y Q : List Smp} {K : Heap → Prop} (hx : Own encS 107 base H a n c L) (eL : L = P ++ (X ++ (Y ++ Q))) (hp : P.length = p) (hm : p + X.length = m) (hq : m + Y.length = q) (hX : 0 < X.length) (hY : 0 < Y.length) (hn : n ≤ 1000000000)
    (hk : ∀ H', Own encS 107 base H' a n c (P ++ (Y ++ (X ++ Q))) → Fr (blkL a) H H' → K H') :
    CallH Tryz.prog fn_slices_rotateCmpFunc_api_Sample_ ⟨[.slice a n c, .int .i64 p, .int .i64 m, .int .i64 q, order]⟩ H fun v H' => v = .tuple ⟨[]⟩ ∧ K H' := by
  apply vc_slices_rotateCmpFunc_api_Sample_
  have hl := hx.1
  subst eL
  simp only [List.length_append] at hl
  have ew1 : IntKind.i64.wrap ((m : Int) - p) = ((X.length : Nat) : Int) := by rw [wrap64_of (by omega) (by omega)]; omega
  have ew2 : IntKind.i64.wrap ((q : Int) - m) = ((Y.length : Nat) : Int) := by rw [wrap64_of (by omega) (by omega)]; omega
  rw [ew1, ew2]
  refine ⟨fun vs H' => match vs with
      | [.int _ i, .int _ j] => ∃ (P' X' Y' Q' : List Smp), i = (X'.length : Int) ∧ j = (Y'.length : Int) ∧ 0 < X'.length ∧ 0 < Y'.length ∧ P'.length + X'.length = m ∧ P' ++ (Y' ++ (X' ++ Q')) = P ++ (Y ++ (X ++ Q)) ∧ Own encS 107 base H' a n c (P' ++ (X' ++ (Y' ++ Q'))) ∧ Fr (blkL a) H H'
      | _ => False,
    fun vs _ => match vs with | [.int _ i, .int _ j] => i.toNat + j.toNat | _ => 0, ⟨P, X, Y, Q, rfl, rfl, hX, hY, by omega, rfl, hx, Fr.refl _ _⟩, ?_⟩
  rintro J i j H1 ⟨P', X', Y', Q', rfl, rfl, hX', hY', hPm, hE, ho, hf⟩
  have hol := ho.1
  simp only [List.length_append] at hol
  have w1 : IntKind.i64.wrap ((m : Int) - (X'.length : Nat)) = ((P'.length : Nat) : Int) := by rw [wrap64_of (by omega) (by omega)]; omega
  refine brB_of (fun h0 => ?_) (fun h0 => ?_)
  · have h0' : X'.length ≠ Y'.length := by intro e; rw [e] at h0; simp at h0
    rw [w1]
    refine brB_of (fun h1 => ?_) (fun h1 => ?_)
    · have h1' : Y'.length < X'.length := by simpa using h1
      obtain ⟨X1, X2, rfl, hX1⟩ : ∃ X1 X2, X' = X1 ++ X2 ∧ X1.length = Y'.length := ⟨X'.take Y'.length, X'.drop Y'.length, (List.take_append_drop _ _).symm, by simp; omega⟩
      simp only [List.length_append] at hPm hX' h1' hol
      have w2 : IntKind.i64.wrap (((X1 ++ X2).length : Nat) - ((Y'.length : Nat) : Int)) = ((X2.length : Nat) : Int) := by rw [List.length_append, wrap64_of (by omega) (by omega)]; omega
      rw [w2, ← hX1]
      refine swapRange_ok (P := P') (X := X1) (M := X2) (Y := Y') (Q := Q') ho (by simp) rfl (by omega) hX1 hn fun H2 ho2 hf2 => ?_
      rw [hX1]
      refine ⟨⟨P' ++ Y', X2, X1, Q', rfl, by rw [hX1], by omega, by omega, by simp; omega, by rw [← hE]; simp, by simpa using ho2, hf.trans' hf2 (fun _ h _ => h) (fun _ h _ => h)⟩, ?_⟩
      simp only [List.length_append]; omega
    · have h1' : X'.length < Y'.length := by simp at h1; omega
      obtain ⟨Y1, Y2, rfl, hY2⟩ : ∃ Y1 Y2, Y' = Y1 ++ Y2 ∧ Y2.length = X'.length := ⟨Y'.take (Y'.length - X'.length), Y'.drop (Y'.length - X'.length), (List.take_append_drop _ _).symm, by simp; omega⟩
      simp only [List.length_append] at hY' h1' hol
      have w2 : IntKind.i64.wrap (((Y1 ++ Y2).length : Nat) - ((X'.length : Nat) : Int)) = ((Y1.length : Nat) : Int) := by rw [List.length_append, wrap64_of (by omega) (by omega)]; omega
      have w3 : IntKind.i64.wrap (IntKind.i64.wrap ((m : Int) + (((Y1 ++ Y2).length : Nat) : Int)) - (X'.length : Nat)) = ((m + Y1.length : Nat) : Int) := by
        rw [List.length_append, wrap64_of (n := (m : Int) + _) (by omega) (by omega), wrap64_of (by omega) (by omega)]; omega
      rw [w2, w3]
      refine swapRange_ok (P := P') (X := X') (M := Y1) (Y := Y2) (Q := Q') ho (by simp) rfl (by omega) hY2.symm hn fun H2 ho2 hf2 => ?_
      refine ⟨⟨P', Y2, Y1, X' ++ Q', by rw [hY2], rfl, by omega, by omega, by omega, by rw [← hE]; simp, by simpa using ho2, hf.trans' hf2 (fun _ h _ => h) (fun _ h _ => h)⟩, ?_⟩
      simp only [List.length_append]; omega
  · have h0' : X'.length = Y'.length := by simp at h0; omega
    rw [w1]
    refine swapRange_ok (P := P') (X := X') (M := []) (Y := Y') (Q := Q') ho (by simp) rfl (by simp; omega) h0' hn fun H2 ho2 hf2 => ⟨rfl, ?_⟩
    refine hk H2 ?_ (hf.trans' hf2 (fun _ h _ => h) (fun _ h _ => h))
    rw [← hE]; simpa using ho2

theorem two1 : (2 : Int) ^ min (Int.toNat 1) (IntKind.bits IntKind.u64) = 2 ^ 1 := by decide
theorem avg64 {i j : Nat} (h : i + j ≤ 4000000000) : IntKind.i64.wrap (Int.fdiv (IntKind.u64.wrap (IntKind.i64.wrap ((i : Int) + (j : Int)))) (2 ^ 1)) = (((i + j) / 2 : Nat) : Int) := by
  rw [wrap64_of (n := (i : Int) + j) (by omega) (by omega)]
  have : IntKind.u64.wrap ((i : Int) + (j : Int)) = ((i + j : Nat) : Int) := by
    rw [show (i : Int) + (j : Int) = ((i + j : Nat) : Int) by omega]
    exact IntWalk.u64_in _ ⟨by omega, by omega⟩
  rw [this, show ((2 : Int) ^ 1) = ((2 : Nat) : Int) by decide, Int.fdiv_eq_ediv_of_nonneg _ (by omega), ← Int.natCast_ediv]
  exact wrap64_of (by omega) (by omega)
theorem swap_two2 {base : Nat} {H : Heap} {a : Option Addr} {n c k : Nat} {A B L : List Smp} {w x : Smp} {i1 i2 : Int} {X : Heap → Prop} (ho : Own encS 107 base H a n c L) (eL : L = A ++ x :: w :: B) (hA : A.length = k) (e1 : i1 = ((k + 1 : Nat) : Int)) (e2 : i2 = (k : Int)) (b1 b2 : Bool) (h1 : b1 = true) (h2 : b2 = true)
    (hk : ∀ H', Own encS 107 base H' a n c (A ++ w :: x :: B) → Fr (blkL a) H H' → X H') :
    exSome a fun ad => chk b1 (∃ H'_2, St Tryz.prog 107 H (Addr.add ad (i2.toNat * 2)) (vS w) H'_2 ∧ exSome a fun ad => chk b2 (∃ H', St Tryz.prog 107 H'_2 (Addr.add ad (i1.toNat * 2)) (vS x) H' ∧ X H')) := by
  subst eL e1 e2
  have hl := ho.1
  simp at hl
  refine own_put (E := encS) (k := k) w ho rfl (by omega) h1 rfl (by kernel_rfl) (by kernel_rfl) fun H2 ho2 hf2 => ?_
  rw [mset0 (by omega)] at ho2
  refine own_put (E := encS) (k := k + 1) x ho2 rfl (by omega) h2 rfl (by kernel_rfl) (by kernel_rfl) fun H3 ho3 hf3 => ?_
  rw [mset1 (by omega)] at ho3
  exact hk H3 ho3 (hf2.trans' hf3 (fun _ h _ => h) (fun _ h _ => h))
theorem ins_front {U V : List Smp} {x : Smp} (h : Srt (U ++ V)) (h1 : ∀ u ∈ U, u.1 < x.1) (h2 : ∀ v ∈ V, x.1 ≤ v.1) : Srt (U ++ x :: V) ∧ Stb ([x] ++ (U ++ V)) (U ++ x :: V) := by
  refine ⟨srt_app h.left (List.pairwise_cons.2 ⟨h2, h.right⟩) fun u hu z hz => ?_, ?_⟩
  · rcases List.mem_cons.1 hz with rfl | hz
    · exact Int.le_of_lt (h1 u hu)
    · exact h.across u hu z hz
  · have := (Stb.front h1).app (Stb.refl V)
    simpa using this
theorem ins_back {U V : List Smp} {y : Smp} (h : Srt (U ++ V)) (h1 : ∀ u ∈ U, u.1 ≤ y.1) (h2 : ∀ v ∈ V, y.1 < v.1) : Srt (U ++ y :: V) ∧ Stb ((U ++ V) ++ [y]) (U ++ y :: V) := by
  refine ⟨srt_app h.left (List.pairwise_cons.2 ⟨fun v hv => Int.le_of_lt (h2 v hv), h.right⟩) fun u hu z hz => ?_, ?_⟩
  · rcases List.mem_cons.1 hz with rfl | hz
    · exact h1 u hu
    · exact h.across u hu z hz
  · have := (Stb.refl U).app (Stb.swap1 h2)
    simpa using this
theorem two_split {B : List Smp} {k : Nat} (h : k ≤ B.length) : ∃ U V, B = U ++ V ∧ U.length = k := ⟨B.take k, B.drop k, (List.take_append_drop _ _).symm, by simp; omega⟩
theorem in_mid {P A R : List Smp} {k : Nat} (h : P.length ≤ k) (h2 : k < P.length + A.length) : (P ++ (A ++ R))[k]? = A[k - P.length]? := by
  rw [List.getElem?_append_right h, List.getElem?_append_left (by omega)]

structure LtA (B : List Smp) (k : Nat) (v : Int) : Prop where
  h : ∃ z, B[k]? = some z ∧ z.1 < v
structure LeA (B : List Smp) (k : Nat) (v : Int) : Prop where
  h : ∃ z, B[k]? = some z ∧ z.1 ≤ v
structure GtA (B : List Smp) (k : Nat) (v : Int) : Prop where
  h : ∃ z, B[k]? = some z ∧ v < z.1
structure GeA (B : List Smp) (k : Nat) (v : Int) : Prop where
  h : ∃ z, B[k]? = some z ∧ v ≤ z.1
theorem sym1_ok {order : Value} (hT : ByT order) {base : Nat} {H : Heap} {a : Option Addr} {n c p m q : Nat} {L P B Q : List Smp} {x : Smp} {K : Heap → Prop} (ho : Own encS 107 base H a n c L) (eL : L = P ++ ([x] ++ (B ++ Q))) (hp : P.length = p) (hm : p + 1 = m) (hq : m + B.length = q) (hn : n ≤ 1000000000) (hB : Srt B)
    (hk : ∀ H' S, Own encS 107 base H' a n c (P ++ (S ++ Q)) → Srt S → Stb ([x] ++ B) S → Fr (blkL a) H H' → K H') :
    CallH Tryz.prog fn_slices_symMergeCmpFunc_api_Sample_ ⟨[.slice a n c, .int .i64 p, .int .i64 m, .int .i64 q, order]⟩ H fun v H' => v = .tuple ⟨[]⟩ ∧ K H' := by
  apply vc_slices_symMergeCmpFunc_api_Sample_
  have hl := ho.1
  subst eL
  simp only [List.length_append, List.length_cons, List.length_nil] at hl
  have ew : IntKind.i64.wrap ((m : Int) - p) = 1 := by rw [wrap64_of (by omega) (by omega)]; omega
  rw [ew]
  refine brB_of (fun _ => ?_) (fun h => by simp at h)
  refine ⟨fun vs H' => match vs with
      | [.int _ i, .int _ j] => ∃ i' j' : Nat, i = i' ∧ j = j' ∧ m ≤ i' ∧ i' ≤ j' ∧ j' ≤ q ∧ (i' = m ∨ LtA B (i' - 1 - m) x.1) ∧ (j' = q ∨ GeA B (j' - m) x.1) ∧ Own encS 107 base H' a n c (P ++ ([x] ++ (B ++ Q))) ∧ Fr (blkL a) H H'
      | _ => False,
    fun vs _ => match vs with | [.int _ i, .int _ j] => j.toNat - i.toNat | _ => 0, ⟨m, q, rfl, rfl, by omega, by omega, by omega, .inl rfl, .inl rfl, ho, Fr.refl _ _⟩, ?_⟩
  rintro J i j H1 ⟨i', j', rfl, rfl, h1, h2, h3, h4, h5, ho1, hf1⟩
  refine brB_of (fun h0 => ?_) (fun h0 => ?_)
  · have h0' : i' < j' := by simpa using h0
    rw [avg64 (by omega)]
    have hh1 : i' ≤ (i' + j') / 2 := by omega
    have hh2 : (i' + j') / 2 < j' := by omega
    generalize (i' + j') / 2 = h at hh1 hh2
    have hz : B[h - m]? = some (B[h - m]'(by omega)) := by simp
    generalize B[h - m]'(by omega) = z at hz
    have hz' : (P ++ ([x] ++ (B ++ Q)))[h]? = some z := by
      rw [← List.append_assoc, in_mid (by simp; omega) (by simp; omega)]
      rw [← hz]; congr 1; simp; omega
    refine ho1.sl.get (k := h) rfl hz' (decide_eq_true (by omega)) fun ad ea hc => ⟨_, _, ldS hc, ?_⟩
    refine ho1.sl.get (k := p) (x := x) rfl (by rw [in_mid (by omega) (by simp; omega), hp]; simp) (decide_eq_true (by omega)) fun ad ea hc => ⟨_, _, ldS hc, ?_⟩
    refine hT z x H1 _ fun H2 hf2 => ?_
    have ho2 := ho1.keep hf2
    have hf02 := hf1.trans' hf2 (T := blkL a) (fun _ h _ => h) (by simp)
    rw [succ64 (by omega)]
    refine brB_of (fun h6 => ⟨⟨h + 1, j', rfl, rfl, by omega, by omega, h3, .inr ⟨⟨z, hz, cmpI_neg.1 (of_decide_eq_true h6)⟩⟩, h5, ho2, hf02⟩, ?_⟩) (fun h6 => ⟨⟨i', h, rfl, rfl, h1, by omega, by omega, h4, .inr ⟨⟨z, hz, ?_⟩⟩, ho2, hf02⟩, ?_⟩)
    · show ((j' : Nat) : Int).toNat - ((h + 1 : Nat) : Int).toNat < ((j' : Nat) : Int).toNat - ((i' : Nat) : Int).toNat
      omega
    · have : ¬ z.1 < x.1 := fun h => of_decide_eq_false h6 (cmpI_neg.2 h)
      omega
    · show ((h : Nat) : Int).toNat - ((i' : Nat) : Int).toNat < ((j' : Nat) : Int).toNat - ((i' : Nat) : Int).toNat
      omega
  · have h0' : i' = j' := by simp at h0; omega
    subst h0'
    obtain ⟨U, V, rfl, hU⟩ := two_split (B := B) (k := i' - m) (by omega)
    have hUx : ∀ u ∈ U, u.1 < x.1 := fun u hu => by
      obtain ⟨k, hk⟩ := List.getElem?_of_mem hu
      have hkl := (List.getElem?_eq_some_iff.1 hk).1
      rcases h4 with h4 | ⟨⟨z, hz, h4⟩⟩
      · omega
      · have := hB.le (i := k) (j := i' - 1 - m) (by omega) (by rw [List.getElem?_append_left hkl]; exact hk) hz
        omega
    have hVx : ∀ v ∈ V, x.1 ≤ v.1 := fun v hv => by
      obtain ⟨k, hk⟩ := List.getElem?_of_mem hv
      have hkl := (List.getElem?_eq_some_iff.1 hk).1
      simp only [List.length_append] at hq
      rcases h5 with h5 | ⟨⟨z, hz, h5⟩⟩
      · omega
      · have := hB.le (i := i' - m) (j := U.length + k) (by omega) hz (by rw [List.getElem?_append_right (by omega)]; rw [← hk]; congr 1; omega)
        omega
    obtain ⟨r1, r2⟩ := ins_front hB hUx hVx
    have ew3 : IntKind.i64.wrap ((i' : Int) - 1) = ((i' - 1 : Nat) : Int) := pred64 (by omega) (by omega)
    rw [ew3]
    simp only [List.length_append] at hl hq
    refine ⟨fun vs H' => match vs with
        | [.int _ k] => ∃ U1 U2 : List Smp, U = U1 ++ U2 ∧ k = ((p + U1.length : Nat) : Int) ∧ Own encS 107 base H' a n c (P ++ U1 ++ x :: (U2 ++ (V ++ Q))) ∧ Fr (blkL a) H H'
        | _ => False,
      fun vs _ => match vs with | [.int _ k] => i' - k.toNat | _ => 0, ⟨[], U, rfl, rfl, by simpa using ho1, hf1⟩, ?_⟩
    rintro J k H2 ⟨U1, U2, rfl, rfl, ho2, hf2⟩
    simp only [List.length_append] at hU hl hq
    refine brB_of (fun h7 => ?_) (fun h7 => ?_)
    · have h7' : p + U1.length < i' - 1 := by simp at h7; omega
      cases U2 with
      | nil => simp at hU; omega
      | cons w U2 =>
        have eL : P ++ U1 ++ x :: (w :: U2 ++ (V ++ Q)) = (P ++ U1) ++ x :: w :: (U2 ++ (V ++ Q)) := by simp
        simp only [List.length_cons] at hU hl hq
        rw [succ64 (by omega)]
        refine ho2.sl.get (k := p + U1.length + 1) rfl (by rw [eL]; exact mid1 (by simp; omega)) (decide_eq_true (by omega)) fun ad ea hc => ⟨_, _, ldS hc, ?_⟩
        refine ho2.sl.get (k := p + U1.length) rfl (by rw [eL]; exact mid0 (by simp; omega)) (decide_eq_true (by omega)) fun ad ea hc => ⟨_, _, ldS hc, ?_⟩
        refine swap_two2 (k := p + U1.length) ho2 eL (by simp; omega) rfl rfl _ _ (decide_eq_true (by omega)) (decide_eq_true (by omega)) fun H4 ho4 hf4 => ?_
        refine ⟨⟨U1 ++ [w], U2, by simp, by simp; omega, by simpa using ho4, hf2.trans' hf4 (fun _ h _ => h) (fun _ h _ => h)⟩, ?_⟩
        show i' - ((p + U1.length + 1 : Nat) : Int).toNat < i' - ((p + U1.length : Nat) : Int).toNat
        omega
    · have : U2 = [] := List.eq_nil_of_length_eq_zero (by simp at h7; omega)
      subst this
      rw [List.append_nil] at r1 r2
      exact ⟨rfl, hk H2 (U1 ++ x :: V) (by simpa using ho2) r1 (by simpa using r2) hf2⟩
theorem sym2_ok {order : Value} (hT : ByT order) {base : Nat} {H : Heap} {a : Option Addr} {n c p m q : Nat} {L P A Q : List Smp} {y : Smp} {K : Heap → Prop} (ho : Own encS 107 base H a n c L) (eL : L = P ++ (A ++ ([y] ++ Q))) (hp : P.length = p) (hm : p + A.length = m) (hq : m + 1 = q) (hA2 : 2 ≤ A.length) (hn : n ≤ 1000000000) (hA : Srt A)
    (hk : ∀ H' S, Own encS 107 base H' a n c (P ++ (S ++ Q)) → Srt S → Stb (A ++ [y]) S → Fr (blkL a) H H' → K H') :
    CallH Tryz.prog fn_slices_symMergeCmpFunc_api_Sample_ ⟨[.slice a n c, .int .i64 p, .int .i64 m, .int .i64 q, order]⟩ H fun v H' => v = .tuple ⟨[]⟩ ∧ K H' := by
  apply vc_slices_symMergeCmpFunc_api_Sample_
  have hl := ho.1
  subst eL
  simp only [List.length_append, List.length_cons, List.length_nil] at hl
  have ew0 : IntKind.i64.wrap ((m : Int) - p) = ((A.length : Nat) : Int) := by rw [wrap64_of (by omega) (by omega)]; omega
  have ew : IntKind.i64.wrap ((q : Int) - m) = 1 := by rw [wrap64_of (by omega) (by omega)]; omega
  rw [ew, ew0]
  refine brB_of (fun h => by simp at h; omega) (fun _ => brB_of (fun _ => ?_) (fun h => by simp at h))
  refine ⟨fun vs H' => match vs with
      | [.int _ i, .int _ j] => ∃ i' j' : Nat, i = i' ∧ j = j' ∧ p ≤ i' ∧ i' ≤ j' ∧ j' ≤ m ∧ (i' = p ∨ LeA A (i' - 1 - p) y.1) ∧ (j' = m ∨ GtA A (j' - p) y.1) ∧ Own encS 107 base H' a n c (P ++ (A ++ ([y] ++ Q))) ∧ Fr (blkL a) H H'
      | _ => False,
    fun vs _ => match vs with | [.int _ i, .int _ j] => j.toNat - i.toNat | _ => 0, ⟨p, m, rfl, rfl, by omega, by omega, by omega, .inl rfl, .inl rfl, ho, Fr.refl _ _⟩, ?_⟩
  rintro J i j H1 ⟨i', j', rfl, rfl, h1, h2, h3, h4, h5, ho1, hf1⟩
  refine brB_of (fun h0 => ?_) (fun h0 => ?_)
  · have h0' : i' < j' := by simpa using h0
    rw [avg64 (by omega)]
    have hh1 : i' ≤ (i' + j') / 2 := by omega
    have hh2 : (i' + j') / 2 < j' := by omega
    generalize (i' + j') / 2 = h at hh1 hh2
    have hz : A[h - p]? = some (A[h - p]'(by omega)) := by simp
    generalize A[h - p]'(by omega) = z at hz
    refine ho1.sl.get (k := m) (x := y) rfl (by rw [← List.append_assoc, in_mid (by simp; omega) (by simp; omega)]; simp [hp, hm]) (decide_eq_true (by omega)) fun ad ea hc => ⟨_, _, ldS hc, ?_⟩
    refine ho1.sl.get (k := h) rfl (by rw [in_mid (by omega) (by omega), hp]; exact hz) (decide_eq_true (by omega)) fun ad ea hc => ⟨_, _, ldS hc, ?_⟩
    refine hT y z H1 _ fun H2 hf2 => ?_
    have ho2 := ho1.keep hf2
    have hf02 := hf1.trans' hf2 (T := blkL a) (fun _ h _ => h) (by simp)
    rw [succ64 (by omega)]
    refine brB_of (fun h6 => ⟨⟨h + 1, j', rfl, rfl, by omega, by omega, h3, .inr ⟨⟨z, hz, ?_⟩⟩, h5, ho2, hf02⟩, ?_⟩) (fun h6 => ⟨⟨i', h, rfl, rfl, h1, by omega, by omega, h4, .inr ⟨⟨z, hz, ?_⟩⟩, ho2, hf02⟩, ?_⟩)
    · have : ¬ y.1 < z.1 := fun h => by rw [decide_eq_true (cmpI_neg.2 h)] at h6; cases h6
      omega
    · show ((j' : Nat) : Int).toNat - ((h + 1 : Nat) : Int).toNat < ((j' : Nat) : Int).toNat - ((i' : Nat) : Int).toNat
      omega
    · have : decide (cmpI y.1 z.1 < 0) = true := by simpa using h6
      exact cmpI_neg.1 (of_decide_eq_true this)
    · show ((h : Nat) : Int).toNat - ((i' : Nat) : Int).toNat < ((j' : Nat) : Int).toNat - ((i' : Nat) : Int).toNat
      omega
  · have h0' : i' = j' := by simp at h0; omega
    subst h0'
    obtain ⟨U, V, rfl, hU⟩ := two_split (B := A) (k := i' - p) (by omega)
    simp only [List.length_append] at hm hl
    have hUx : ∀ u ∈ U, u.1 ≤ y.1 := fun u hu => by
      obtain ⟨k, hk⟩ := List.getElem?_of_mem hu
      have hkl := (List.getElem?_eq_some_iff.1 hk).1
      rcases h4 with h4 | ⟨⟨z, hz, h4⟩⟩
      · omega
      · have := hA.le (i := k) (j := i' - 1 - p) (by omega) (by rw [List.getElem?_append_left hkl]; exact hk) hz
        omega
    have hVx : ∀ v ∈ V, y.1 < v.1 := fun v hv => by
      obtain ⟨k, hk⟩ := List.getElem?_of_mem hv
      have hkl := (List.getElem?_eq_some_iff.1 hk).1
      rcases h5 with h5 | ⟨⟨z, hz, h5⟩⟩
      · omega
      · have := hA.le (i := i' - p) (j := U.length + k) (by omega) hz (by rw [List.getElem?_append_right (by omega)]; rw [← hk]; congr 1; omega)
        omega
    obtain ⟨r1, r2⟩ := ins_back hA hUx hVx
    refine ⟨fun vs H' => match vs with
        | [.int _ k] => ∃ V1 V2 : List Smp, V = V1 ++ V2 ∧ k = ((i' + V1.length : Nat) : Int) ∧ Own encS 107 base H' a n c (P ++ U ++ V1 ++ y :: (V2 ++ Q)) ∧ Fr (blkL a) H H'
        | _ => False,
      fun vs _ => match vs with | [.int _ k] => k.toNat | _ => 0, ⟨V, [], by simp, by omega, by simpa using ho1, hf1⟩, ?_⟩
    rintro J k H2 ⟨V1, V2, rfl, rfl, ho2, hf2⟩
    simp only [List.length_append] at hm hl
    refine brB_of (fun h7 => ?_) (fun h7 => ?_)
    · have h7' : 0 < V1.length := by simp at h7; omega
      obtain ⟨V0, w, rfl⟩ : ∃ V0 w, V1 = V0 ++ [w] := ⟨V1.dropLast, V1.getLast (by intro e; subst e; simp at h7'), (List.dropLast_concat_getLast _).symm⟩
      have eL : P ++ U ++ (V0 ++ [w]) ++ y :: (V2 ++ Q) = (P ++ U ++ V0) ++ w :: y :: (V2 ++ Q) := by simp
      simp only [List.length_append, List.length_cons, List.length_nil] at hm hl h7' ⊢
      rw [show i' + (V0.length + (0 + 1)) = (i' + V0.length) + 1 by omega, pred64 (by omega) (by omega)]
      refine ho2.sl.get (k := i' + V0.length) (by omega) (by rw [eL]; exact mid0 (by simp; omega)) (decide_eq_true (by omega)) fun ad ea hc => ⟨_, _, ldS hc, ?_⟩
      refine ho2.sl.get (k := i' + V0.length + 1) rfl (by rw [eL]; exact mid1 (by simp; omega)) (decide_eq_true (by omega)) fun ad ea hc => ⟨_, _, ldS hc, ?_⟩
      refine swap_two (k := i' + V0.length) ho2 eL (by simp; omega) rfl (by omega) _ _ (decide_eq_true (by omega)) (decide_eq_true (by omega)) fun H4 ho4 hf4 => ?_
      refine ⟨⟨V0, w :: V2, by simp, by omega, by simpa using ho4, hf2.trans' hf4 (fun _ h _ => h) (fun _ h _ => h)⟩, ?_⟩
      show (((i' + V0.length + 1 - 1 : Nat) : Int)).toNat < (((i' + V0.length + 1 : Nat) : Int)).toNat
      omega
    · have : V1 = [] := List.eq_nil_of_length_eq_zero (by simp at h7; omega)
      subst this
      exact ⟨rfl, hk H2 (U ++ y :: V2) (by simpa using ho2) (by simpa using r1) (by simpa using r2) hf2⟩
end Go.Proofs
