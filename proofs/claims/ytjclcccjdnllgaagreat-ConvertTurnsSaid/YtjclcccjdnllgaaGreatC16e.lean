/- Turned by a program of mine (mkC16f.py) out of the same text for samples. -/
import Derived.Test.YtjclcccjdnllgaaGreatC13o
set_option linter.unusedVariables false
set_option maxRecDepth 100000
open Go Go.GV
namespace Go.Proofs

theorem encR_beg {s : ByteArray} {L : List Rw} (hs : bl s = encR L) : (bl s).drop 0 = uintL L.length ++ (hdsR L (nC L.length) ++ bdsR L (nC L.length)) := by rw [List.drop_zero, hs]; rfl
theorem hdsR_at {L : List Rw} {s : ByteArray} {a p0 j : Nat} (hs : (bl s).drop p0 = hdsR L (nC L.length) ++ bdsR L (nC L.length)) (ha : a = p0 + (hdsR L j).length) (hj : j < nC L.length) :
    ∃ r, (bl s).drop a = uintL (firstC (chR L j)).toNat ++ (uintL (lastC (chR L j) - firstC (chR L j)).toNat ++ (uintL (blkR (chR L j)).length ++ r)) ∧ ∀ x, (uintL (blkR (chR L j)).length ++ r = uintL (blkR (chR L j)).length ++ x → x = r) := by
  obtain ⟨r, hr⟩ := rng_split (fun i => hdR (chR L i)) hj
  have hr : hdsR L (nC L.length) = hdsR L j ++ (hdR (chR L j) ++ r) := hr
  refine ⟨r ++ bdsR L (nC L.length), ?_, fun x h => (List.append_cancel_left h).symm⟩
  rw [ha, ← List.drop_drop, hs, hr]
  simp [hdR]
theorem hdsR_end {L : List Rw} {s : ByteArray} {a p0 : Nat} (hs : (bl s).drop p0 = hdsR L (nC L.length) ++ bdsR L (nC L.length)) (ha : a = p0 + (hdsR L (nC L.length)).length) : (bl s).drop a = bdsR L (nC L.length) := by
  rw [ha, ← List.drop_drop, hs]; simp
structure FnS (s : ByteArray) (p0 : Nat) (fs : List Fn') (zs : List Int) (all last left : Int) (a : Nat) (ok : Bool) (j : Nat) : Prop where
  len : fs.length = j ∧ zs.length = j
  lft : left + 16 * j ≤ 5000 ∧ -16 ≤ left
  sm : all = zs.sum ∧ all ≤ j * s.size
  zsp : ∀ n ∈ zs, 0 ≤ n
  lst : 0 ≤ last ∧ last < 1099511627776
  fsp : ∀ f ∈ fs, FnP f
  dead : ok = false → left ≤ 0
  cmp : ∀ L, RowsP L → bl s = encR L → ok = true ∧ left = (L.length : Int) - 16 * j ∧ j ≤ nC L.length ∧ (bl s).drop p0 = hdsR L (nC L.length) ++ bdsR L (nC L.length) ∧ a = p0 + (hdsR L j).length ∧ fs = fsA L j ∧ zs = zsA L j ∧ last = if j = 0 then 0 else lastC (chR L (j - 1))
theorem fences_ok {s : ByteArray} {H : Heap} {K : Option Addr → Nat → Nat → Bool → Heap → Prop} (hs : s.size ≤ 1000000000)
    (hno : (∀ L, RowsP L → bl s ≠ encR L) → ∀ H', Fr [] H H' → K none 0 0 false H')
    (hyes : ∀ fs a n c H', Own encF 158 H.size H' a n c fs → (∀ f ∈ fs, FnP f ∧ f.2.2.2.size ≤ s.size) → n ≤ 313 → Fr [] H H' → (∀ L, RowsP L → bl s = encR L → fs = fsB L (nC L.length)) → K a n c true H') :
    CallH Tryz.prog fn_runs_fences ⟨[.string s]⟩ H fun v H' => ∃ a n c b, v = .tuple ⟨[.slice a n c, .bool b]⟩ ∧ K a n c b H' := by
  apply vc_runs_fences
  have hsl := bl_len s
  intro r H1 hn1
  have er := hn1.eq
  have s1 := hn1.size
  refine number_ok (a := 0) (B := 5001) hn1.blk (by omega) (by omega) rfl (by omega) (by omega) fun left ok p0 H2 hN hp0 hb2 f2 => ?_
  have f12 : Fr [] H H2 := hn1.fr.keep f2 fun k hk => by simp at hk; omega
  obtain ⟨n0, rfl, hn0⟩ := hN.nat (by omega)
  refine ⟨fun vs H' => match vs with | [.slice a n c, .slice a' n' c', .int _ all, .int _ last, .int _ left] => ∃ fs zs p ok j, FnS s p0 fs zs all last left p ok j ∧ p ≤ s.size ∧ Own encF 158 H.size H' a n c fs ∧ Own encInt 3 H.size H' a' n' c' zs ∧ Blk H' ⟨r, 0, none⟩ [.string s, .int .i64 (p : Int), .bool ok] ∧ r ∉ blkL a ∧ r ∉ blkL a' ∧ Dj (blkL a) (blkL a') ∧ Fr [] H H' | _ => False,
    fun vs _ => match vs with | [_, _, _, _, .int _ left] => left.toNat | _ => 0,
    ⟨[], [], p0, ok, 0, ⟨⟨rfl, rfl⟩, ⟨by omega, by omega⟩, ⟨rfl, by simp⟩, by simp, by omega, by simp, fun ho => ?_, fun L hP hL => ?_⟩, hp0, Own.nil .., Own.nil .., hb2, by simp [blkL], by simp [blkL], by intro k hk; simp [blkL] at hk, f12⟩, ?_⟩
  · rcases hN with ⟨_, h, _⟩ | ⟨_, h, _⟩
    · rw [h] at ho; cases ho
    · omega
  · obtain ⟨q1, q2, q3, q4⟩ := hN.of rfl (by have := hP.len; omega) (encR_beg hL)
    exact ⟨q1, by omega, by omega, q4, by simp [hdsR], rfl, rfl, rfl⟩
  rintro J a n c a' n' c' all last left H3 ⟨fs, zs, p, ok, j, hF, hp, o1, o2, hb3, nr, nr', dj, f3⟩
  have hrH : H.size ≤ r := by omega
  have l1 := o1.1
  have l2 := o2.1
  have hj1 := hF.len
  have hle := hF.lft
  refine brB_of (fun hpos => ?_) (fun hneg => ?_)
  · have hpos : 0 < left := by simpa using hpos
    have hok : ok = true := by
      cases ok with
      | true => rfl
      | false => have := hF.dead rfl; omega
    subst hok
    have hj : j ≤ 312 := by omega
    refine number_ok (B := 1099511627776) hb3 hp (by omega) rfl (by omega) (by omega) fun v1 k1 p1 H4 hN1 hp1 hb4 f4 => ?_
    refine number_ok (B := 1099511627776) hb4 hp1 (by omega) rfl (by omega) (by omega) fun v2 k2 p2 H5 hN2 hp2 hb5 f5 => ?_
    have eb : IntKind.wrap .i64 ((s.size : Int) + 1) = ((s.size + 1 : Nat) : Int) := by rw [wrap64_of (by omega) (by omega)]; rfl
    rw [eb]
    refine number_ok (B := s.size + 1) hb5 hp2 (by omega) rfl (by omega) (by omega) fun v3 k3 p3 H6 hN3 hp3 hb6 f6 => ?_
    obtain ⟨m1, rfl, hm1⟩ := hN1.nat (by omega)
    obtain ⟨m2, rfl, hm2⟩ := hN2.nat (by omega)
    obtain ⟨m3, rfl, hm3⟩ := hN3.nat (by omega)
    have f36 : Fr [r] H3 H6 := (f4.trans' f5 (fun k hk _ => hk) fun k hk _ => hk).trans' f6 (fun k hk _ => hk) fun k hk _ => hk
    have f6' : Fr [] H H6 := f3.keep f36 fun k hk => by simp at hk; omega
    have e12 : IntKind.wrap .i64 ((m1 : Int) + (m2 : Int)) = ((m1 + m2 : Nat) : Int) := by rw [wrap64_of (by omega) (by omega)]; rfl
    rw [e12]
    have nums : ∀ L, RowsP L → bl s = encR L → j < nC L.length ∧ k1 = true ∧ k2 = true ∧ k3 = true ∧ (m1 : Int) = firstC (chR L j) ∧ ((m1 + m2 : Nat) : Int) = lastC (chR L j) ∧ m3 = (blkR (chR L j)).length ∧ p3 = p + (hdR (chR L j)).length ∧ m1 + m2 < 1099511627776 ∧ last ≤ m1 := fun L hP hL => by
      obtain ⟨c1, c2, c3, c4, c5, c6, c7, c8⟩ := hF.cmp L hP hL
      have hjn : j < nC L.length := by unfold nC; omega
      have hjL : 16 * j < L.length := by omega
      obtain ⟨t, ht, _⟩ := hdsR_at c4 c5 hjn
      have hch := hP.ch j
      have hcn := ch_ne hjL
      have hfl := hch.first_last hcn
      obtain ⟨u1, u2, u3, u4⟩ := hN1.of rfl (by omega) ht
      obtain ⟨w1, w2, w3, w4⟩ := hN2.of u1 (by omega) u4
      have hbl : (blkR (chR L j)).length < s.size + 1 := by
        have := congrArg List.length (hdsR_end c4 rfl)
        rw [List.length_drop, hsl] at this
        obtain ⟨rr, hr⟩ := rng_split (fun i => blkR (chR L i)) hjn
        have hr : bdsR L (nC L.length) = bdsR L j ++ (blkR (chR L j) ++ rr) := hr
        rw [hr, List.length_append, List.length_append] at this
        omega
      obtain ⟨x1, x2, x3, x4⟩ := hN3.of w1 hbl w4
      refine ⟨hjn, u1, w1, x1, by omega, by omega, by omega, ?_, by omega, ?_⟩
      · rw [x3, w3, u3]; unfold hdR; rw [List.length_append, List.length_append]; omega
      · rw [c8]
        split
        · omega
        · have := hP.next (j := j) (by omega) hjL
          omega
    have hk3 : k3 = true → k1 = true ∧ k2 = true := fun h => by
      cases k2 with
      | false => rw [hN3.dead] at h; cases h
      | true => cases k1 with
        | false => have := hN2.dead; cases this
        | true => exact ⟨rfl, rfl⟩
    refine ⟨fun _ H' => H' = H6 ∧ k3 = true ∧ m1 + m2 < 1099511627776 ∧ last ≤ m1, ?_, ?_⟩
    · refine ⟨_, hb6.ld (j := 2) (by kernel_rfl) rfl, brB_of (fun h => ⟨_, _, _, _, rfl, hno (fun L hP hL => ?_) _ f6'⟩) fun h1 => brB_of (fun h => ⟨_, _, _, _, rfl, hno (fun L hP hL => ?_) _ f6'⟩) fun h2 => brB_of (fun h => ⟨_, _, _, _, rfl, hno (fun L hP hL => ?_) _ f6'⟩) fun h3 => ⟨rfl, by simpa using h1, by simp at h2; omega, by simp at h3; omega⟩⟩
      · have := (nums L hP hL).2.2.2.1; rw [this] at h; cases h
      · have := (nums L hP hL).2.2.2.2.2.2.2.2.1; simp at h; omega
      · have := (nums L hP hL).2.2.2.2.2.2.2.2.2; simp at h; omega
    · rintro J2 H7 ⟨rfl, hk, hm12, hlast⟩ b5 H8 hn8
      have e4 : IntKind.wrap .i64 (((m1 + m2 : Nat) : Int) + 1) = ((m1 + m2 : Nat) : Int) + 1 := wrap64_of (by omega) (by omega)
      rw [e4] at hn8
      have o1' := o1.fr f36 (blk_of_ne fun k kk hm => by simp at hm; subst hm; exact nr kk)
      have o2' := o2.fr f36 (blk_of_ne fun k kk hm => by simp at hm; subst hm; exact nr' kk)
      have s7 := f6'.size
      have s8 := hn8.size
      have e8 := hn8.eq
      refine ap_grow slice154 elem158 (o1'.keep hn8.fr) (sl_one encF ((m1 : Int), ((m1 + m2 : Nat) : Int) + 1, (if 16 < left then 16 else left), ⟨#[]⟩) hn8 rfl) (by omega) (by omega) fun q m d H9 h9 f9 g9 b6 H10 hn10 => ?_
      have s9 := f9.size
      have s10 := hn10.size
      have o2'' := ((o2'.keep hn8.fr).fr f9 (blk_of_ne fun k kk hm => dj k hm kk)).keep hn10.fr
      refine ap_grow slice24 elem3 o2'' (sl_one encInt (m3 : Int) hn10 rfl) (by omega) (by omega) fun q' m' d' H11 h11 f11 g11 => ?_
      have hrl : r < H7.size := hb6.lt
      have dj1 : ∀ k ∈ blkL q, k ∉ blkL a' := fun k hk hk2 => (g9 k hk).elim (fun h => dj k h hk2) fun h => by have := (o2'.ge k hk2).2; omega
      have hnr : r ∉ blkL q := fun hk => (g9 r hk).elim nr fun h => by omega
      have hnr' : r ∉ blkL q' := fun hk => (g11 r hk).elim nr' fun h => by omega
      have hzs := offs_mono hF.zsp j
      have hsum := hF.sm
      have hall : 0 ≤ all := by
        have := offs_mono hF.zsp 0
        omega
      have hmul : ((j + 1 : Nat) : Int) * (s.size : Int) = (j : Int) * s.size + s.size := by
        rw [Int.natCast_add, Int.add_mul]; simp
      have hmul2 : (j : Int) * (s.size : Int) ≤ 312 * 1000000000 := by
        have h1 : (j : Int) * (s.size : Int) ≤ 312 * (s.size : Int) := Int.mul_le_mul_of_nonneg_right (by omega) (by omega)
        omega
      have ea : IntKind.wrap .i64 (all + (m3 : Int)) = all + m3 := wrap64_of (by omega) (by omega)
      have el : IntKind.wrap .i64 (left - 16) = left - 16 := wrap64_of (by omega) (by omega)
      rw [ea, el]
      have hmu : (left - 16).toNat < left.toNat := by omega
      refine ⟨⟨fs ++ [((m1 : Int), ((m1 + m2 : Nat) : Int) + 1, (if 16 < left then 16 else left), ⟨#[]⟩)], zs ++ [(m3 : Int)], p3, k3, j + 1, ⟨⟨by simp; omega, by simp; omega⟩, ⟨by omega, by omega⟩, ⟨by rw [List.sum_append, ← hsum.1]; simp, by rw [hmul]; omega⟩, fun n hn => ?_, by omega, fun f hf => ?_, (fun h => by rw [hk] at h; cases h), fun L hP hL => ?_⟩, hp3, (h9.keep hn10.fr).fr f11 (blk_of_ne dj1), h11, ?_, hnr, hnr', fun k hk hk2 => ?_, ?_⟩, hmu⟩
      · rcases List.mem_append.1 hn with h | h
        · exact hF.zsp n h
        · simp at h; omega
      · rcases List.mem_append.1 hf with h | h
        · exact hF.fsp f h
        · simp at h; subst h
          unfold FnP
          simp only
          split <;> omega
      · obtain ⟨c1, c2, c3, c4, c5, c6, c7, c8⟩ := hF.cmp L hP hL
        obtain ⟨d1, d2, d3, d4, d5, d6, d7, d8, d9, d10⟩ := nums L hP hL
        have hcl := chR_len L j
        refine ⟨d4, by omega, by omega, c4, ?_, ?_, ?_, ?_⟩
        · rw [d8, c5, hdsR_succ, List.length_append]; omega
        · rw [fsA_succ, ← c6]
          unfold fnC
          rw [← d5, ← d6]
          have : (if 16 < left then (16 : Int) else left) = ((chR L j).length : Int) := by split <;> omega
          rw [this]
        · rw [zsA_succ, ← c7, d7]
        · rw [if_neg (by omega), Nat.add_sub_cancel]; exact d6
      · exact (((hb6.keep hn8.fr).fr f9 nr).keep hn10.fr).fr f11 nr'
      · rcases g11 k hk2 with h | h
        · exact dj1 k hk h
        · have := (h9.ge k hk).2; omega
      · exact (((f6'.keep0 hn8.fr).keep f9 fun k hk => (o1.ge k hk).1).keep0 hn10.fr).keep f11 fun k hk => (o2.ge k hk).1
  · have hneg : left ≤ 0 := by simpa using hneg
    have fin : ∀ L, RowsP L → bl s = encR L → ok = true ∧ j = nC L.length ∧ (bl s).drop p = bdsR L (nC L.length) ∧ fs = fsA L (nC L.length) ∧ zs = zsA L (nC L.length) ∧ all = ((s.size - p : Nat) : Int) := fun L hP hL => by
      obtain ⟨c1, c2, c3, c4, c5, c6, c7, c8⟩ := hF.cmp L hP hL
      have hj : j = nC L.length := by unfold nC at c3 ⊢; omega
      rw [hj] at c5 c6 c7
      have hd := hdsR_end c4 c5
      refine ⟨c1, hj, hd, c6, c7, ?_⟩
      rw [hF.sm.1, c7, zsA_sum, ← hd, List.length_drop, hsl]
    have ew : IntKind.wrap .i64 ((s.size : Int) - (p : Int)) = ((s.size - p : Nat) : Int) := by rw [wrap64_of (by omega) (by omega)]; omega
    refine ⟨fun _ H' => H' = H3 ∧ all = ((s.size - p : Nat) : Int), ?_, ?_⟩
    · refine ⟨_, hb3.ld (j := 2) (by kernel_rfl) rfl, brB_of (fun h => ⟨_, _, _, _, rfl, hno (fun L hP hL => ?_) _ f3⟩) fun h1 => ⟨_, hb3.ld (j := 1) (by kernel_rfl) rfl, ?_⟩⟩
      · have := (fin L hP hL).1; rw [this] at h; cases h
      · rw [ew]
        refine brB_of (fun h => ⟨_, _, _, _, rfl, hno (fun L hP hL => ?_) _ f3⟩) fun h2 => ⟨rfl, by simpa using h2⟩
        have := (fin L hP hL).2.2.2.2.2
        rw [this] at h; simp at h
    · rintro J2 H4 ⟨rfl, hall⟩
      refine ⟨_, hb3.ld (j := 1) (by kernel_rfl) rfl, ?_⟩
      have hsum := hF.sm
      have hj : j ≤ 313 := by omega
      refine ⟨fun vs H' => match vs with | [.int _ at', .int _ i] => ∃ k : Nat, i = k ∧ k ≤ j ∧ at' = (p : Int) + offs zs k ∧ Own encF 158 H.size H' a n c (putB s p zs fs k) ∧ Own encInt 3 H.size H' a' n' c' zs ∧ Fr [] H H' | _ => False, fun vs _ => match vs with | [_, .int _ i] => j - i.toNat | _ => 0,
        ⟨0, rfl, by omega, by simp [offs], by rw [putB_zero]; exact o1, o2, f3⟩, ?_⟩
      rintro J3 at' i H5 ⟨k, rfl, hk, rfl, h1, h2, f5⟩
      have ok1 := offs_mono hF.zsp k
      refine brB_of (fun hlt => ?_) (fun hge => ?_)
      · have hlt : k < j := by simp at hlt; omega
        obtain ⟨z, hz⟩ := getElem_ex (l := zs) (i := k) (by omega)
        obtain ⟨f, hf⟩ := getElem_ex (l := fs) (i := k) (by omega)
        have hz0 := hF.zsp z (List.mem_of_getElem? hz)
        have ok2 := offs_mono hF.zsp (k + 1)
        have ok3 := offs_succ hz
        refine h2.idx rfl hz (decide_eq_true (by omega)) fun ad ea hc => ⟨_, ld_one (by kernel_rfl) hc, ?_⟩
        have ez : IntKind.wrap .i64 ((p : Int) + offs zs k + z) = (p : Int) + offs zs (k + 1) := by rw [wrap64_of (by omega) (by omega)]; omega
        rw [ez]
        refine chk_true (decide_eq_true ⟨by omega, by omega, by omega⟩) ?_
        have hpf := putB_get (s := s) (a0 := p) (z := zs) (k := k) hf
        rw [if_neg (by omega)] at hpf
        refine h1.idx rfl hpf (decide_eq_true (by omega)) fun ad2 ea2 hc2 => ?_
        refine own_st h1 ea2 rfl hpf (j := 3) (x' := (f.1, f.2.1, f.2.2.1, s.extract ((p : Int) + offs zs k).toNat ((p : Int) + offs zs (k + 1)).toNat)) (by kernel_rfl) (by kernel_rfl) (fun x hx => by simp [Value.cells] at hx; subst hx; rfl) (Nat.le_refl 4) rfl fun H6 h6 f6 => ?_
        rw [succ64 (by omega)]
        have hmu : j - ((k + 1 : Nat) : Int).toNat < j - ((k : Nat) : Int).toNat := by omega
        refine ⟨⟨k + 1, rfl, by omega, rfl, by rw [putB_succ hf]; exact h6, h2.fr f6 (blk_of_ne fun k kk hm => dj k hm kk), f5.keep f6 fun k hk => (h1.ge k hk).1⟩, hmu⟩
      · have hkj : k = j := by simp at hge; omega
        subst hkj
        refine ⟨_, _, _, _, rfl, hyes _ _ _ _ _ h1 (fun f hf => ?_) (by omega) f5 fun L hP hL => ?_⟩
        · unfold putB at hf
          obtain ⟨i, hi, rfl⟩ := List.mem_map.1 hf
          have hi := List.mem_range.1 hi
          obtain ⟨g, hg⟩ := getElem_ex hi
          have hP := hF.fsp g (List.mem_of_getElem? hg)
          simp only [hg, Option.getD_some]
          rw [if_pos (by omega)]
          refine ⟨hP, ?_⟩
          have := bl_len (s.extract ((p : Int) + offs zs i).toNat ((p : Int) + offs zs (i + 1)).toNat)
          rw [bl_ext, List.length_drop, List.length_take, hsl] at this
          simp only
          omega
        · obtain ⟨d1, d2, d3, d4, d5, d6⟩ := fin L hP hL
          rw [d4, d5, d2]
          exact putB_all d3

def TellsR (D : Value) (p : Rw → Bool) (G : Heap → Prop) : Prop := ∀ (x : Rw) (H : Heap) (K : Bool → Heap → Prop), G H → (∀ H', Fr [] H H' → K (p x) H') → CallV Tryz.prog D [vRw x] H fun v H' => ∃ b, v = .bool b ∧ K b H'

theorem IndexFuncR_ok {D : Value} {p : Rw → Bool} {G : Heap → Prop} {a : Option Addr} {n c : Nat} {xs : List Rw} {H : Heap} {K : Int → Heap → Prop} (hD : TellsR D p G) (hG : ∀ H', Fr [] H H' → G H') (hx : Sl encRw H a n c xs) (hn : n ≤ 1000000000)
    (hk : ∀ (i : Nat) H', i ≤ n → (∀ j x, j < i → xs[j]? = some x → p x = false) → (i < n → ∀ x, xs[i]? = some x → p x = true) → Fr [] H H' → K (if i < n then i else -1) H') :
    CallH Tryz.prog fn_slices_IndexFunc___api_Row_api_Row_ ⟨[.slice a n c, D]⟩ H fun v H' => ∃ r, v = .int .i64 r ∧ K r H' := by
  apply vc_slices_IndexFunc___api_Row_api_Row_
  have hlx := hx.len
  refine ⟨fun vs H' => match vs with | [.int _ i] => ∃ k : Nat, i = k ∧ k ≤ n ∧ (∀ j x, j < k → xs[j]? = some x → p x = false) ∧ Fr [] H H' | _ => False,
    fun vs _ => match vs with | [.int _ i] => n - i.toNat | _ => 0, ⟨0, rfl, by omega, fun _ _ h => by omega, Fr.refl _ _⟩, ?_⟩
  rintro J i H' ⟨k, rfl, hle, ht, hf⟩
  refine brB_of (fun h0 => ?_) (fun h0 => ⟨_, rfl, ?_⟩)
  · have h0' : k < n := by simpa using h0
    have hx1 : xs[k]? = some (xs[k]'(by omega)) := by simp
    generalize xs[k]'(by omega) = y at hx1
    rw [succ64 (by omega)]
    refine (hx.keep hf).get rfl hx1 (decide_eq_true (by omega)) fun ad ea hc => ⟨_, _, _, ldRwA hc, ?_⟩
    refine hD y H' _ (hG _ hf) fun H2 hf2 => ?_
    have hf' := hf.keep0 hf2
    refine brB_of (fun h1 => ⟨_, rfl, ?_⟩) (fun h1 => ?_)
    · have := hk k H2 hle ht (fun _ x hx => by rw [hx1] at hx; cases hx; exact h1) hf'
      rwa [if_pos h0'] at this
    · refine ⟨⟨k + 1, rfl, by omega, fun j x hj hxj => ?_, hf'⟩, mu_lt h0'⟩
      by_cases hjk : j < k
      · exact ht j x hjk hxj
      · have : j = k := by omega
        subst this
        rw [hx1] at hxj
        cases hxj
        exact h1
  · have hkn : ¬ k < n := by simpa using h0
    have := hk k H' hle ht (fun h => absurd h hkn) hf
    rwa [if_neg hkn] at this

theorem zero26R : zeroOf Tryz.prog 26 = some (.agg ⟨[.int .i64 0, .int .i64 0, .int .i64 0]⟩) := by kernel_rfl

theorem filter_noneR {l : List Rw} {p : Rw → Bool} (h : ∀ (j : Nat) (x : Rw), l[j]? = some x → p x = false) : l.filter (fun x => !p x) = l := by
  refine List.filter_eq_self.2 fun x hx => ?_
  obtain ⟨j, hj⟩ := List.mem_iff_getElem?.1 hx
  rw [h j x hj]; rfl

theorem DeleteFuncR_ok {D : Value} {p : Rw → Bool} {G : Heap → Prop} {base : Nat} {a : Option Addr} {n c : Nat} {xs : List Rw} {H : Heap} {K : Option Addr → Nat → Nat → Heap → Prop} (hD : TellsR D p G) (hG : ∀ H', Fr (blkL a) H H' → G H') (ho : Own encRw 26 base H a n c xs) (hn : n ≤ 1000000000)
    (hk : ∀ n' H', Own encRw 26 base H' a n' c (xs.filter fun x => !p x) → n' ≤ n → Fr (blkL a) H H' → K a n' c H') :
    CallH Tryz.prog fn_slices_DeleteFunc___api_Row_api_Row_ ⟨[.slice a n c, D]⟩ H fun v H' => ∃ a n c, v = .slice a n c ∧ K a n c H' := by
  apply vc_slices_DeleteFunc___api_Row_api_Row_
  have hlx := ho.1
  refine IndexFuncR_ok hD (fun H' hf => hG H' (hf.mono (by simp))) ho.sl hn fun i H1 hi hno hyes hf1 => ?_
  have hf1' : Fr (blkL a) H H1 := hf1.mono (by simp)
  by_cases hin : i < n
  · rw [if_pos hin]
    refine brB_of (fun h => by have := (beq_iff_eq.1 h); omega) (fun _ => ?_)
    rw [succ64 (by omega)]
    have hxi : xs[i]? = some (xs[i]'(by omega)) := by simp
    have hpi : p (xs[i]'(by omega)) = true := hyes hin _ hxi
    have hti : (xs.take i).filter (fun x => !p x) = xs.take i := filter_noneR fun j x hj => by
      rw [List.getElem?_take] at hj
      split at hj
      · exact hno j x (by assumption) hj
      · cases hj
    refine ⟨fun vs H' => match vs with | [.int _ i, .int _ j] => ∃ (k m : Nat) (ws : List Rw), i = k ∧ j = m ∧ k < m ∧ m ≤ n ∧ Own encRw 26 base H' a n c ws ∧ ws.take k = (xs.take m).filter (fun x => !p x) ∧ ws.drop m = xs.drop m ∧ Fr (blkL a) H H' | _ => False,
      fun vs _ => match vs with | [_, .int _ i] => n - i.toNat | _ => 0, ⟨i, i + 1, xs, rfl, rfl, by omega, by omega, ho.keep hf1, ?_, rfl, hf1'⟩, ?_⟩
    · rw [List.take_add_one, hxi, List.filter_append, hti]
      simp [hpi]
    · rintro J i' j' H2 ⟨k, m, ws, rfl, rfl, hkm, hmn, how, htk, hdr, hf2⟩
      have hlw := how.1
      refine brB_of (fun h0 => ?_) (fun h0 => ?_)
      · have h0' : m < n := by simpa using h0
        have hxm : xs[m]? = some (xs[m]'(by omega)) := by simp
        have hwm : ws[m]? = some (xs[m]'(by omega)) := by
          have := congrArg (fun l => l[0]?) hdr
          simp only [List.getElem?_drop, Nat.add_zero] at this
          rw [this, hxm]
        have htm : xs.take (m + 1) = xs.take m ++ [xs[m]'(by omega)] := by rw [List.take_add_one, hxm]; rfl
        have hdm : ws.drop (m + 1) = xs.drop (m + 1) := by
          have := congrArg (fun l => l.drop 1) hdr
          simpa [List.drop_drop] using this
        generalize xs[m]'(by omega) = y at hxm hwm htm
        rw [succ64 (by omega), succ64 (by omega)]
        refine how.sl.get rfl hwm (decide_eq_true (by omega)) fun ad ea hc => ⟨_, _, _, ldRwA hc, ?_⟩
        refine var_blk (by kernel_rfl) (by kernel_rfl) (by simp [Value.cells, Value.oneCell']) rfl fun b H3 hb hB hf3 => ?_
        have hld : ∀ {H' : Heap}, Fr [] H3 H' → Ld Tryz.prog 26 H' ⟨b, 0, none⟩ (vRw y) := fun hf => (hB.keep hf).ldAK (j := 0) (us := [.int .i64 y.1, .int .i64 y.2.1, .int .i64 y.2.2]) (by kernel_rfl) (by kernel_rfl) rfl
        refine ⟨_, _, _, hld (Fr.refl _ _), ?_⟩
        have hf23 : Fr (blkL a) H H3 := hf2.trans' hf3 (fun _ h _ => h) (by simp)
        refine hD y H3 _ (hG _ hf23) fun H4 hf4 => ?_
        have hf24 : Fr (blkL a) H H4 := hf23.trans' hf4 (fun _ h _ => h) (by simp)
        have how4 := (how.keep hf3).keep hf4
        refine brB_of (fun h1 => ?_) (fun h1 => ?_)
        · refine ⟨_, _, _, hld hf4, ?_⟩
          refine own_put (E := encRw) y how4 rfl (by omega) (decide_eq_true (by omega)) rfl (by kernel_rfl) (by kernel_rfl) fun H5 how5 hf5 => ⟨⟨k + 1, m + 1, _, rfl, rfl, by omega, by omega, how5, ?_, ?_, hf24.trans' hf5 (fun _ h _ => h) (fun _ h _ => h)⟩, mu_lt h0'⟩
          · rw [htm, List.filter_append, List.filter_cons, if_pos h1, ← htk, List.take_add_one, List.take_set_of_le (Nat.le_refl _), List.getElem?_set_self (by omega)]
            rfl
          · rw [List.drop_set_of_lt (by omega), hdm]
        · refine ⟨⟨k, m + 1, ws, rfl, rfl, by omega, by omega, how4, ?_, hdm, hf24⟩, mu_lt h0'⟩
          rw [htm, List.filter_append, List.filter_cons, if_neg (by simpa using h1), htk]
          simp
      · have hmn' : m = n := by simp at h0; omega
        subst hmn'
        have hcap := how.sl.cap
        refine chk_of ⟨by omega, by omega, by omega⟩ ?_
        simp only [Int.toNat_natCast]
        refine clear_tail (E := encRw) slice34 zero26R rfl (by simp [Value.oneCell']) how (by omega) fun H3 how3 hf3 => chk_of ⟨by omega, by omega, by omega⟩ ?_
        refine ⟨_, _, _, rfl, hk _ H3 ?_ (by omega) (hf2.trans' hf3 (fun _ h _ => h) (fun _ h _ => h))⟩
        rw [htk, List.take_of_length_le (by omega)] at how3
        simpa using how3
  · rw [if_neg hin]
    refine brB_of (fun _ => ⟨_, _, _, rfl, hk n H1 ?_ (Nat.le_refl _) hf1'⟩) (fun h => by simp at h)
    rw [filter_noneR fun j x hj => hno j x (by have := (List.getElem?_eq_some_iff.1 hj).1; omega) hj]
    exact ho.keep hf1

structure ChP (c : List Rw) (f : Fn') : Prop where
  P : RowsP c
  ne : c ≠ []
  f : f = fnC c ⟨(blkR c).toArray⟩
theorem blk_at {c : List Rw} {s : ByteArray} {p j : Nat} (hs : bl s = blkR c) (hp : p = (blkTo c j).length) (hj : j < c.length) :
    ∃ r, (bl s).drop p = uintL (rT c j - rT c (j - 1)).toNat ++ (uintL (rAt c j).2.1.toNat ++ (uintL (foldN (rAt c j).2.2) ++ r)) := by
  obtain ⟨r, hr⟩ := rng_split (rowB c) hj
  have hr : blkR c = blkTo c j ++ (rowB c j ++ r) := hr
  refine ⟨r, ?_⟩
  rw [hs, hr, hp]
  simp [rowB, intL]
theorem fread_ok {f : Fn'} {H : Heap} {K : Option Addr → Nat → Nat → Bool → Heap → Prop} (hf : FnP f) (hs : f.2.2.2.size ≤ 100000000000)
    (hno : (∀ c, ChP c f → False) → ∀ H', Fr [] H H' → K none 0 0 false H')
    (hyes : ∀ rows a n c b H', Own encRw 26 H.size H' a n c rows → n ≤ 16 → (∀ x ∈ rows, I64 x.2.2) → Fr [] H H' → (∀ c, ChP c f → rows = c ∧ b = true) → K a n c b H') :
    CallH Tryz.prog fn_runs_fence_read ⟨[.agg ⟨[.int .i64 f.1, .int .i64 f.2.1, .int .i64 f.2.2.1, .string f.2.2.2]⟩]⟩ H fun v H' => ∃ a n c b, v = .tuple ⟨[.slice a n c, .bool b]⟩ ∧ K a n c b H' := by
  apply vc_runs_fence_read
  obtain ⟨hf1, hf2⟩ := hf
  obtain ⟨N, hN⟩ : ∃ N : Nat, f.2.2.1 = N := ⟨f.2.2.1.toNat, by omega⟩
  intro b H1 hn1
  refine ⟨_, hn1.blk.ldK (j := 3) (by kernel_rfl) rfl, ?_⟩
  intro r H2 hn2
  generalize hs' : f.2.2.2 = s at *
  have hsl := bl_len s
  have e1 := hn1.eq
  have e2 := hn2.eq
  have z1 := hn1.size
  have z2 := hn2.size
  have hb2 := hn1.blk.keep hn2.fr
  have f2 : Fr [] H H2 := hn1.fr.keep0 hn2.fr
  rw [hN] at hb2
  rw [hN] at hf2
  have cN : ∀ c, ChP c f → c.length = N ∧ bl s = blkR c ∧ f.1 = rT c 0 ∧ f.2.1 = lastC c + 1 := fun c hc => by
    have h := hc.f
    have h1 := congrArg (fun x : Fn' => x.1) h
    have h2 := congrArg (fun x : Fn' => x.2.1) h
    have h3 := congrArg (fun x : Fn' => x.2.2.1) h
    have h4 := congrArg (fun x : Fn' => x.2.2.2) h
    unfold fnC at h1 h2 h3 h4
    simp only at h1 h2 h3 h4
    rw [hs'] at h4
    exact ⟨by omega, by rw [h4], h1, h2⟩
  refine ⟨_, hb2.ld0 (by kernel_rfl) rfl, _, hb2.ldK (j := 2) (by kernel_rfl) rfl, ?_⟩
  refine ⟨fun vs H' => match vs with | [.slice a n c, .int _ t, .int _ i] => ∃ (rows : List Rw) (p j : Nat), i = j ∧ j ≤ N ∧ rows.length = j ∧ Own encRw 26 H.size H' a n c rows ∧ Blk H' ⟨r, 0, none⟩ [.string s, .int .i64 (p : Int), .bool true] ∧ p ≤ s.size ∧ r ∉ blkL a ∧ b ∉ blkL a ∧ Blk H' ⟨b, 0, none⟩ [.int .i64 f.1, .int .i64 f.2.1, .int .i64 (N : Int), .string s] ∧ Fr [] H H' ∧
      (∀ x ∈ rows, I64 x.2.2) ∧ 0 ≤ t ∧ t ≤ (j + 1) * 1099511627776 ∧ (∀ c, ChP c f → rows = c.take j ∧ p = (blkTo c j).length ∧ t = rT c (j - 1)) | _ => False,
    fun vs _ => match vs with | [_, _, .int _ i] => N - i.toNat | _ => 0,
    ⟨[], 0, 0, rfl, by omega, rfl, Own.nil .., hn2.blk, by omega, by simp [blkL], by simp [blkL], hb2, f2, by simp, by omega, by omega, fun c hc => ⟨by simp, rfl, (cN c hc).2.2.1⟩⟩, ?_⟩
  rintro J a n c t i H3 ⟨rows, p, j, rfl, hj, hlr, o3, hr3, hp, nr, nb, hb3, f3, hv, ht0, ht1, hcmp⟩
  have hn := o3.1
  refine brB_of (fun hlt => ?_) (fun hge => ?_)
  · have hlt : j < N := by simp at hlt; omega
    refine ⟨fun vs H' => match vs with | [.slice a' n' c', .int _ t'] => ∃ (rows' : List Rw) (p' : Nat), rows'.length = j + 1 ∧ Own encRw 26 H.size H' a' n' c' rows' ∧ Blk H' ⟨r, 0, none⟩ [.string s, .int .i64 (p' : Int), .bool true] ∧ p' ≤ s.size ∧ r ∉ blkL a' ∧ b ∉ blkL a' ∧ Blk H' ⟨b, 0, none⟩ [.int .i64 f.1, .int .i64 f.2.1, .int .i64 (N : Int), .string s] ∧ Fr [] H H' ∧
      (∀ x ∈ rows', I64 x.2.2) ∧ 0 ≤ t' ∧ t' ≤ (j + 1 + 1) * 1099511627776 ∧ (∀ c, ChP c f → rows' = c.take (j + 1) ∧ p' = (blkTo c (j + 1)).length ∧ t' = rT c j) | _ => False, ?_, ?_⟩
    · refine number_ok (B := 1099511627776) hr3 hp hs rfl (by omega) (by omega) fun v1 k1 p1 H4 hN1 hp1 hr4 f4 => ?_
      refine number_ok (B := 200) hr4 hp1 hs rfl (by omega) (by omega) fun v2 k2 p2 H5 hN2 hp2 hr5 f5 => ?_
      obtain ⟨m1, rfl, hm1⟩ := hN1.nat (by omega)
      obtain ⟨m2, rfl, hm2⟩ := hN2.nat (by omega)
      refine ⟨_, hr5.ld0 (by kernel_rfl) rfl, _, hr5.ldK (j := 1) (by kernel_rfl) rfl, ?_⟩
      refine GetInt_ok hs (fun h => (h ⟨by omega, by omega⟩).elim) fun a' ea' ha' w n3 e3 hG hw => ?_
      have : a' = p2 := by omega
      subst this
      have f35 : Fr [r] H3 H5 := f4.trans' f5 (fun k hk _ => hk) fun k hk _ => hk
      have et : IntKind.wrap .i64 (t + (m1 : Int)) = t + m1 := wrap64_of (by omega) (by omega)
      rw [et]
      refine var_blk (v := .agg ⟨[.int .i64 (t + m1), .int .i64 (m2 : Int), .int .i64 (unfoldN w)]⟩) (by kernel_rfl) (by kernel_rfl) tri_one (by rfl) fun vb H6 hvl hvb fv => ?_
      have o6 := (o3.fr f35 (blk_of_ne fun k kk hm => by simp at hm; subst hm; exact nr kk)).keep fv
      have f6 : Fr [] H H6 := (f3.keep f35 fun k hk => by simp at hk; omega).keep0 fv
      have hr6 := hr5.keep fv
      have hb6 := (hb3.fr f35 (by simp; omega)).keep fv
      have nums : ∀ c, ChP c f → k2 = true ∧ e3 = 0 ∧ t + m1 = rT c j ∧ (m2 : Int) = (rAt c j).2.1 ∧ unfoldN w = (rAt c j).2.2 ∧ n3 = ((blkTo c (j + 1)).length : Nat) := fun c hc => by
        obtain ⟨c1, c2, c3⟩ := hcmp c hc
        obtain ⟨d1, d2, d3, d4⟩ := cN c hc
        obtain ⟨rr, hd⟩ := blk_at d2 c2 (by omega)
        have hat := hc.P.at (i := j) (by omega)
        have hap := (hc.P.at (i := j - 1) (by omega)).1
        have hmo := hc.P.fine.mono (i := j - 1) (j := j) (by omega) (by omega)
        obtain ⟨u1, u2, u3, u4⟩ := hN1.of rfl (by omega) hd
        obtain ⟨w1, w2, w3, w4⟩ := hN2.of u1 (by omega) u4
        obtain ⟨x1, x2, x3⟩ := hG.of (foldN_lt hat.2.2) w4
        have ew : w = foldN (rAt c j).2.2 := by omega
        refine ⟨w1, x3, by omega, by omega, by rw [ew, unfold_fold], ?_⟩
        rw [x2, w3, u3, c2, blkTo_succ, List.length_append]
        unfold rowB intL
        rw [List.length_append, List.length_append]
        congr 1
        omega
      refine ⟨fun _ H' => k2 = true ∧ e3 = 0 ∧ Fr [] H6 H', ⟨fun vs H' => match vs with | [.bool b'] => (b' = false → k2 = true ∧ e3 = 0) ∧ (b' = true → ∀ c, ChP c f → False) ∧ Fr [] H6 H' | _ => False, ?_, ?_⟩, ?_⟩
      · refine ⟨_, hr6.ldK (j := 2) (by kernel_rfl) rfl, brB_of (fun h => ⟨(fun h => by cases h), fun _ c hc => ?_, Fr.refl _ _⟩) fun h1 => brB_of (fun h => ⟨(fun h => by cases h), fun _ c hc => ?_, Fr.refl _ _⟩) fun h2 => brB_of (fun h0 => ?_) fun h0 => ⟨fun _ => ⟨by simpa using h1, by simpa using h2⟩, (fun h => by cases h), Fr.refl _ _⟩⟩
        · have := (nums c hc).1; rw [this] at h; cases h
        · have := (nums c hc).2.1; rw [this] at h; simp at h
        · have h0 : 0 < j := by simp at h0; omega
          have hs0 := rAt_get (l := rows) (i := j - 1) (by omega)
          refine ⟨_, _, _, hvb.ldA0 (us := [.int .i64 (t + m1), .int .i64 (m2 : Int), .int .i64 (unfoldN w)]) (by kernel_rfl) (by kernel_rfl) rfl, ?_⟩
          have e1' : IntKind.wrap .i64 ((n : Int) - 1) = ((j - 1 : Nat) : Int) := by rw [hn, hlr]; exact pred64 (by omega) h0
          rw [e1']
          refine o6.idx rfl hs0 (decide_eq_true (by omega)) fun ad2 ea2 hc2 => ⟨_, _, _, ldRwA hc2, ?_⟩
          refine behind_ok (x := (t + (m1 : Int), (m2 : Int), unfoldN w)) (y := rAt rows (j - 1)) fun H7 f7 => ⟨fun _ => ⟨by simpa using h1, by simpa using h2⟩, fun hbt c hc => ?_, f7⟩
          obtain ⟨c1, c2, c3⟩ := hcmp c hc
          obtain ⟨q1, q2, q3, q4, q5, q6⟩ := nums c hc
          have hk : kLt (rAt c (j - 1)) (rAt c j) := hc.P.fine.at (by omega) (by have := (cN c hc).1; omega)
          have er : rAt rows (j - 1) = rAt c (j - 1) := by rw [c1]; unfold rAt; rw [List.getElem?_take, if_pos (by omega)]
          rw [er] at hbt
          have : kLt (rAt c (j - 1)) (t + (m1 : Int), (m2 : Int), unfoldN w) := by
            rw [q3, q4, q5]; exact hk
          rw [decide_eq_true this] at hbt; cases hbt
      · rintro J2 b' H7 ⟨hb1', hb2', f7⟩
        refine brB_of (fun h => ⟨_, _, _, _, rfl, hno (hb2' h) _ (f6.keep0 f7)⟩) (fun h => ⟨(hb1' h).1, (hb1' h).2, f7⟩)
      · rintro J2 H7 ⟨hk2, rfl, f7⟩
        obtain ⟨w', ew, hw', hr', hrl', rfl⟩ := hG.ok rfl
        rw [List.length_drop, hsl] at hrl'
        have hr7 := hr6.keep f7
        have h2e : ∀ {X : Heap → Prop}, (∀ H2, Blk H2 ⟨r, 0, none⟩ [.string s, .int .i64 ((a' + (uintL w').length : Nat) : Int), .bool k2] → Fr [r] H7 H2 → X H2) → ∃ H2, St Tryz.prog 3 H7 ⟨r, 1, none⟩ (.int .i64 ((a' + (uintL w').length : Nat) : Int)) H2 ∧ X H2 := fun hk => Blk.set hr7 (j := 1) (by kernel_rfl) (by kernel_rfl) rfl rfl (by simp) fun H2 hb2 hf2 => hk H2 hb2 hf2
        refine h2e fun H8 hr8 f8 => ?_
        have hlt6 : r < H6.size := hr6.lt
        have hvb8 := (hvb.keep f7).fr f8 (by simp; have := hr5.lt; simp at this; omega)
        refine ⟨_, _, _, hvb8.ldA0 (us := [.int .i64 (t + m1), .int .i64 (m2 : Int), .int .i64 (unfoldN w)]) (by kernel_rfl) (by kernel_rfl) rfl, ?_⟩
        intro b9 H9 hn9
        have o8 := ((o6.keep f7).fr f8 (blk_of_ne fun k kk hm => by simp at hm; subst hm; exact nr kk)).keep hn9.fr
        have s6 := f6.size
        have s7 := f7.size
        have s8 := f8.size
        have s9 := hn9.size
        refine ap_grow slice34 elem45 o8 (sl_one encRw (t + (m1 : Int), (m2 : Int), unfoldN w) hn9 rfl) (by omega) (by omega) fun q m d H10 h10 f10 g10 => ?_
        have bH : b < H6.size := hb6.lt
        rw [hk2] at hr8
        refine ⟨rows ++ [(t + (m1 : Int), (m2 : Int), unfoldN w)], a' + (uintL w').length, by simp; omega, h10, (hr8.keep hn9.fr).fr f10 nr, by omega, fun h => (g10 r h).elim nr fun h => by omega, fun h => (g10 b h).elim nb fun h => by omega, ?_, ?_, fun x hx => ?_, by omega, by omega, fun c hc => ?_⟩
        · exact ((((hb6.keep f7).fr f8 (by simp; omega)).keep hn9.fr).fr f10 nb)
        · exact ((((f6.keep0 f7).keep f8 fun k hk => by simp at hk; omega).keep0 hn9.fr).keep f10 fun k hk => (o3.ge k hk).1)
        · rcases List.mem_append.1 hx with h | h
          · exact hv x h
          · simp at h; subst h; exact unfold_64 hw
        · obtain ⟨c1, c2, c3⟩ := hcmp c hc
          obtain ⟨q1, q2, q3, q4, q5, q6⟩ := nums c hc
          refine ⟨?_, by omega, q3⟩
          have hg := rAt_get (l := c) (i := j) (by have := (cN c hc).1; omega)
          rw [List.take_add_one, hg, ← c1]
          have : rAt c j = (t + (m1 : Int), (m2 : Int), unfoldN w) := by
            rw [q3, q4, q5]; rfl
          rw [this]; rfl
    · rintro J2 a' n' c' t' H7 ⟨rows', p', h1, h2, h3, h4, h5, h6, h7, h8, h9, h10, h11, h12⟩
      rw [succ64 (by omega)]
      have hmu : N - ((j + 1 : Nat) : Int).toNat < N - ((j : Nat) : Int).toNat := by omega
      exact ⟨⟨rows', p', j + 1, rfl, by omega, h1, h2, h3, h4, h5, h6, h7, h8, h9, h10, by rw [Int.natCast_add]; exact h11, by rw [Nat.add_sub_cancel]; exact h12⟩, hmu⟩
  · have hjN : j = N := by simp at hge; omega
    subst hjN
    have full : ∀ c, ChP c f → rows = c ∧ p = s.size ∧ t = f.2.1 - 1 ∧ rT rows 0 = f.1 := fun c hc => by
      obtain ⟨c1, c2, c3⟩ := hcmp c hc
      obtain ⟨d1, d2, d3, d4⟩ := cN c hc
      rw [List.take_of_length_le (by omega)] at c1
      have := congrArg List.length d2
      rw [hsl] at this
      refine ⟨c1, ?_, ?_, by rw [c1]; exact d3.symm⟩
      · rw [c2, this]; unfold blkR; rw [d1]
      · rw [c3, d4]; unfold lastC; rw [d1]; omega
    refine ⟨_, hr3.ldK (j := 1) (by kernel_rfl) rfl, _, hr3.ld0 (by kernel_rfl) rfl, brB_of (fun h1 => ?_) fun h1 => ⟨_, _, _, _, rfl, hyes rows _ _ _ _ _ o3 (by omega) hv f3 fun c hc => ?_⟩⟩
    · have hs0 := rAt_get (l := rows) (i := 0) (by omega)
      refine o3.idx (k := 0) rfl hs0 (decide_eq_true (by omega)) fun ad ea hc => ⟨rT rows 0, by have := ldRw0 hc; have e : rT rows 0 = (rAt rows 0).1 := rfl; rw [e]; simpa [Addr.add] using this, _, hb3.ld0 (by kernel_rfl) rfl, brB_of (fun h2 => ⟨_, hb3.ldK (j := 1) (by kernel_rfl) rfl, _, _, _, _, rfl, hyes rows _ _ _ _ _ o3 (by omega) hv f3 fun c hc => ?_⟩) fun h2 => ⟨_, _, _, _, rfl, hyes rows _ _ _ _ _ o3 (by omega) hv f3 fun c hc => ?_⟩⟩
      · obtain ⟨d1, d2, d3, d4⟩ := full c hc
        have ew : IntKind.wrap .i64 (f.2.1 - 1) = f.2.1 - 1 := wrap64_of (by omega) (by omega)
        exact ⟨d1, by rw [ew, d3]; simp⟩
      · obtain ⟨d1, d2, d3, d4⟩ := full c hc
        rw [d4] at h2; simp at h2
    · obtain ⟨d1, d2, d3, d4⟩ := full c hc
      rw [d2] at h1; simp at h1

theorem vF_one {x y z : Int} {s : ByteArray} : ∀ v ∈ (Value.agg ⟨[.int .i64 x, .int .i64 y, .int .i64 z, .string s]⟩).cells.toList, v.oneCell' = true := fun v h => by
  simp [Value.cells] at h; rcases h with rfl | rfl | rfl | rfl <;> rfl
def hasF (f : Fn') (x y : Int) : Bool := decide (max f.1 x < min f.2.1 y)
theorem has_ok {f : Fn'} {x y : Int} {H : Heap} {K : Bool → Heap → Prop} (hk : ∀ H', Fr [] H H' → K (hasF f x y) H') :
    CallH Tryz.prog fn_runs_fence_has ⟨[.agg ⟨[.int .i64 f.1, .int .i64 f.2.1, .int .i64 f.2.2.1, .string f.2.2.2]⟩, .agg ⟨[.int .i64 x, .int .i64 y]⟩]⟩ H fun v H' => ∃ r, v = .bool r ∧ K r H' := by
  apply vc_runs_fence_has
  intro b H1 hn1 b1 H2 hn2
  have h1 := hn1.blk.keep hn2.fr
  have h2 := hn2.blk
  refine ⟨_, h1.ld0 (by kernel_rfl) rfl, _, h2.ld0 (by kernel_rfl) rfl, _, h1.ldK (j := 1) (by kernel_rfl) rfl, _, h2.ldK (j := 1) (by kernel_rfl) rfl, _, rfl, ?_⟩
  have e : decide ((if x > f.1 then x else f.1) < if y < f.2.1 then y else f.2.1) = hasF f x y := decide_eq_decide.2 (by
    rw [Int.max_def, Int.min_def]
    split <;> split <;> split <;> split <;> omega)
  rw [e]
  exact hk H2 (hn1.fr.keep0 hn2.fr)
theorem tells_between {x y : Int} {b : Nat} : TellsR (.func (.func 98) ⟨[]⟩ ⟨[.pointer (some ⟨b, 0, none⟩)]⟩) (fun z => !inRw x y z) (fun H => Blk H ⟨b, 0, none⟩ [.int .i64 x, .int .i64 y]) := by
  intro z H K hg hk
  refine ⟨98, ⟨[]⟩, _, rfl, by kernel_rfl, ?_⟩
  apply vc_runs_Between_1
  intro b1 H1 hn1
  have hk' := hk H1 hn1.fr
  have hg' := hg.keep hn1.fr
  refine ⟨_, hn1.blk.ld0 (by kernel_rfl) rfl, _, hg'.ld0 (by kernel_rfl) rfl, brB_of (fun h => ⟨_, rfl, ?_⟩) (fun h => ⟨_, hn1.blk.ld0 (by kernel_rfl) rfl, _, hg'.ld (j := 1) (by kernel_rfl) rfl, _, rfl, ?_⟩)⟩
  · have h := of_decide_eq_true h
    have e : (!inRw x y z) = true := by unfold inRw; simp; omega
    simp only [e] at hk'
    exact hk'
  · have h := of_decide_eq_false h
    have e : (!inRw x y z) = decide (z.1 ≥ y) := by
      unfold inRw
      have h1 : decide (x ≤ z.1) = true := by simp; omega
      rw [h1, Bool.true_and]
      by_cases h2 : z.1 < y
      · simp [h2]
      · simp [h2]; omega
    simp only [e] at hk'
    exact hk'
theorem fsB_get {l : List Rw} {i j : Nat} (h : i < j) : (fsB l j)[i]? = some (fnC (chR l i) ⟨(blkR (chR l i)).toArray⟩) := by
  unfold fsB; rw [List.getElem?_map, List.getElem?_range h]; rfl
theorem take_ch (l : List Rw) (j : Nat) : l.take (16 * (j + 1)) = l.take (16 * j) ++ chR l j := by
  unfold chR; rw [show 16 * (j + 1) = 16 * j + 16 by omega, List.take_add]
theorem between_ok {s : ByteArray} {x y : Int} {H : Heap} {K : Option Addr → Nat → Nat → Int → Heap → Prop} (hs : s.size ≤ 1000000000)
    (hno : (∀ L, RowsP L → bl s ≠ encR L) → ∀ H', Fr [] H H' → K none 0 0 11 H')
    (hyes : ∀ rows a n c H', Own encRw 26 H.size H' a n c rows → n ≤ 10000 → (∀ z ∈ rows, I64 z.2.2) → Fr [] H H' → (∀ L, RowsP L → bl s = encR L → rows = L.filter (inRw x y)) → K a n c 0 H') :
    CallH Tryz.prog fn_runs_Between ⟨[.string s, .agg ⟨[.int .i64 x, .int .i64 y]⟩]⟩ H fun v H' => ∃ a n c e, v = .tuple ⟨[.slice a n c, .int .i64 e]⟩ ∧ K a n c e H' := by
  apply vc_runs_Between
  intro b H1 hn1
  have e1 := hn1.eq
  have z1 := hn1.size
  refine fences_ok hs (fun hn H2 f2 => brB_of (fun _ => ⟨_, _, _, _, rfl, hno hn H2 (hn1.fr.keep0 f2)⟩) fun h => by cases h) fun fs a n c H2 ho hfs hn f2 hcmp => brB_of (fun h => by cases h) fun _ => ?_
  have f12 := hn1.fr.keep0 f2
  have hln := ho.1
  have s12 := f2.size
  refine ⟨fun vs H' => match vs with | [.slice p m d, .int _ i] => ∃ (rows : List Rw) (j : Nat), i = j ∧ j ≤ n ∧ m ≤ 16 * j ∧ Own encRw 26 H.size H' p m d rows ∧ (∀ z ∈ rows, I64 z.2.2) ∧ Blk H' ⟨b, 0, none⟩ [.int .i64 x, .int .i64 y] ∧ b ∉ blkL p ∧ Dj (blkL p) (blkL a) ∧ Sl encF H' a n c fs ∧ Fr [] H H' ∧ (∀ L, RowsP L → bl s = encR L → rows = (L.take (16 * j)).filter (inRw x y)) | _ => False,
    fun vs _ => match vs with | [_, .int _ i] => n - i.toNat | _ => 0,
    ⟨[], 0, rfl, by omega, by omega, Own.nil .., by simp, hn1.blk.keep f2, by simp [blkL], by intro k hk; simp [blkL] at hk, ho.sl, f12, fun L _ _ => by simp⟩, ?_⟩
  rintro J p m d i H3 ⟨rows, j, rfl, hj, hm, o3, hv, hb3, nb, dj, hsf, f3, hcm⟩
  have hml := o3.1
  refine brB_of (fun hlt => ?_) (fun hge => ?_)
  · have hlt : j < n := by simp at hlt; omega
    obtain ⟨f, hf⟩ := getElem_ex (l := fs) (i := j) (by omega)
    have hfP := hfs f (List.mem_of_getElem? hf)
    rw [succ64 (by omega)]
    have hmu : n - ((j + 1 : Nat) : Int).toNat < n - ((j : Nat) : Int).toNat := by omega
    have chunk : ∀ L, RowsP L → bl s = encR L → ChP (chR L j) f := fun L hP hL => by
      have h1 := hcmp L hP hL
      rw [h1] at hf
      have hjn : j < nC L.length := by
        have := (List.getElem?_eq_some_iff.1 hf).1
        simpa [fsB] using this
      rw [fsB_get hjn] at hf
      exact ⟨hP.ch j, ch_ne (by unfold nC at hjn; omega), (Option.some.inj hf).symm⟩
    refine hsf.get rfl hf (decide_eq_true (by omega)) fun ad ea hc => ⟨_, _, _, _, ld_many (by kernel_rfl) (by kernel_rfl) hc, ?_⟩
    refine var_blk (by kernel_rfl) (by kernel_rfl) vF_one (by rfl) fun vb H4 hvl hvb fv => ?_
    have f4 := f3.keep0 fv
    have ldv : ∀ {H' : Heap}, Fr [] H4 H' → lD 158 H' ⟨vb, 0, none⟩ (.agg ⟨[.int .i64 f.1, .int .i64 f.2.1, .int .i64 f.2.2.1, .string f.2.2.2]⟩) := fun hf' => (hvb.keep hf').ldA0 (us := [.int .i64 f.1, .int .i64 f.2.1, .int .i64 f.2.2.1, .string f.2.2.2]) (by kernel_rfl) (by kernel_rfl) rfl
    refine ⟨_, _, _, _, ldv (Fr.refl _ _), _, _, (hb3.keep fv).ldA0 (us := [.int .i64 x, .int .i64 y]) (by kernel_rfl) (by kernel_rfl) rfl, ?_⟩
    refine has_ok fun H5 f5 => ?_
    have f5' := f4.keep0 f5
    have f35 := fv.keep0 f5
    refine brB_of (fun h => ?_) fun h => ⟨_, _, _, _, ldv f5, ?_⟩
    · have h : hasF f x y = false := by simpa using h
      refine ⟨⟨rows, j + 1, rfl, by omega, by omega, o3.keep f35, hv, hb3.keep f35, nb, dj, hsf.keep f35, f5', fun L hP hL => ?_⟩, hmu⟩
      have hc := chunk L hP hL
      rw [take_ch, List.filter_append, ← hcm L hP hL]
      have : (chR L j).filter (inRw x y) = [] := ch_out hc.P x y (by
        unfold hasF at h
        rw [hc.f] at h
        exact of_decide_eq_false h)
      rw [this, List.append_nil]
    · refine fread_ok hfP.1 (by have := hfP.2; omega) (fun hn' H6 f6 => brB_of (fun _ => ⟨_, _, _, _, rfl, hno (fun L hP hL => hn' _ (chunk L hP hL)) _ (f5'.keep0 f6)⟩) fun h => by cases h) fun rs a2 n2 c2 bb H6 o6 hn2 hv6 f6 hc6 => ?_
      have f6' := f5'.keep0 f6
      refine brB_of (fun h => ⟨_, _, _, _, rfl, hno (fun L hP hL => ?_) _ f6'⟩) fun h => ?_
      · have := (hc6 _ (chunk L hP hL)).2
        rw [this] at h; cases h
      · have f36 := f35.keep0 f6
        have s35 := f35.size
        have s36 := f36.size
        have hb6 := hb3.keep f36
        have hbl := hb3.lt
        have ob : ∀ k ∈ blkL a2, H5.size ≤ k := fun k hk => (o6.ge k hk).1
        refine DeleteFuncR_ok (tells_between (x := x) (y := y) (b := b)) (fun H' hf' => hb6.fr hf' fun hk => by have := ob _ hk; simp at this hbl; omega) o6 (by omega) fun n' H7 o7 hn' f7 => ?_
        simp only [Bool.not_not] at o7
        have o3' := (o3.keep f36).fr f7 (blk_of_ne fun k kk hm => by have := ob k hm; have := (o3.ge k kk).2; omega)
        have s7 := f7.size
        have z3 := f3.size
        refine ap_grow slice34 elem45 o3' o7.sl (by omega) (by omega) fun p' m' d' H8 h8 f8 g8 => ?_
        have hm' := h8.1
        have hnl := o7.1
        have hfl := List.length_filter_le (inRw x y) rs
        have hrl := o6.1
        have fl36 : Fr [] H H7 := f6'.keep f7 fun k hk => by have := ob k hk; have := f5'.size; omega
        have hsf7 := (hsf.keep f36).fr f7 (blk_of_ne fun k kk hm => by
          have h1 := ob k hm
          have h2 := sl_lt hsf (by intro e; rw [e] at hf; simp at hf) k kk
          omega)
        refine ⟨⟨rows ++ rs.filter (inRw x y), j + 1, rfl, by omega, by rw [List.length_append] at hm'; omega, h8, fun z hz => ?_, ?_, fun hk => (g8 b hk).elim nb fun h => by simp at hbl; omega, fun k hk hk2 => ?_, hsf7.fr f8 (blk_of_ne fun k kk hm => dj k hm kk), fl36.keep f8 fun k hk => (o3.ge k hk).1, fun L hP hL => ?_⟩, hmu⟩
        · rcases List.mem_append.1 hz with h | h
          · exact hv z h
          · exact hv6 z (List.mem_filter.1 h).1
        · exact (hb6.fr f7 fun hk => by have := ob _ hk; simp at this hbl; omega).fr f8 nb
        · rcases g8 k hk with h | h
          · exact dj k h hk2
          · have h2 := sl_lt hsf (by intro e; rw [e] at hf; simp at hf) k hk2
            omega
        · rw [take_ch, List.filter_append, ← hcm L hP hL, (hc6 _ (chunk L hP hL)).1]
  · have hjn : j = n := by simp at hge; omega
    subst hjn
    refine ⟨_, _, _, _, rfl, hyes rows _ _ _ _ o3 (by omega) hv f3 fun L hP hL => ?_⟩
    rw [hcm L hP hL]
    have : j = nC L.length := by
      rw [hln, hcmp L hP hL]; simp [fsB]
    rw [List.take_of_length_le (by rw [this]; unfold nC; omega)]
theorem runsDecode_ok {s : ByteArray} {H : Heap} {K : Option Addr → Nat → Nat → Int → Heap → Prop} (hs : s.size ≤ 1000000000)
    (hno : (∀ L, RowsP L → bl s ≠ encR L) → ∀ H', Fr [] H H' → K none 0 0 11 H')
    (hyes : ∀ L a n c H', RowsP L → bl s = encR L → Own encRw 26 H.size H' a n c L → Fr [] H H' → K a n c 0 H') :
    CallH Tryz.prog fn_runs_Decode ⟨[.string s]⟩ H fun v H' => ∃ a n c e, v = .tuple ⟨[.slice a n c, .int .i64 e]⟩ ∧ K a n c e H' := by
  apply vc_runs_Decode
  refine between_ok hs (fun hn H' hf => brB_of (fun _ => ⟨_, _, _, _, rfl, hno hn H' hf⟩) fun h => by cases h) fun rows a n c H1 ho hn hv hf hcmp => brB_of (fun h => by cases h) fun _ => ?_
  refine runsEncode_ok ho.sl hv (by omega) (fun hnP H' hf' => brB_of (fun _ => ⟨_, _, _, _, rfl, hno (fun L hP hL => hnP ?_) _ (hf.keep0 hf')⟩) fun h => by cases h) fun hP H' hf' => brB_of (fun h => by cases h) fun _ => ?_
  · rw [hcmp L hP hL, filter_allR hP]; exact hP
  · by_cases e : s = ⟨(encR rows).toArray⟩
    · rw [sized e.symm]
      exact ⟨_, _, _, _, rfl, hyes rows _ _ _ _ hP (by rw [e]) (ho.keep hf') (hf.keep0 hf')⟩
    · rw [sized_ne (fun h => e h.symm)]
      refine ⟨_, _, _, _, rfl, hno (fun L hP' hL => e ?_) _ (hf.keep0 hf')⟩
      rw [hcmp L hP' hL, filter_allR hP']
      exact bl_inj hL

theorem GU.pos {s : ByteArray} {a : Nat} {v n e : Int} (h : GU ((bl s).drop a) a v n e) (ha : a ≤ s.size) : ∃ a' m : Nat, n = a' ∧ a' ≤ s.size ∧ v = m ∧ m < 18446744073709551616 := by
  have hsl := bl_len s
  rcases h with ⟨m, h1, h2, h3, h4, h5, _⟩ | ⟨h1, h2, _⟩ | ⟨h1, h2, _⟩
  · rw [List.length_drop, hsl] at h4
    exact ⟨a + (uintL m).length, m, h5, by omega, h1, h2⟩
  · exact ⟨0, 0, h2, by omega, h1, by decide⟩
  · exact ⟨0, 0, h2, by omega, h1, by decide⟩
theorem GU.step {s : ByteArray} {a m : Nat} {v n e : Int} {t : List UInt8} (h : GU ((bl s).drop a) a v n e) (hm : m < 18446744073709551616) (hr : (bl s).drop a = uintL m ++ t) : e = 0 ∧ v = m ∧ n = ((a + (uintL m).length : Nat) : Int) ∧ (bl s).drop (a + (uintL m).length) = t := by
  obtain ⟨h1, h2, h3⟩ := h.of hm hr
  exact ⟨h3, h1, h2, drop_pre hr⟩
end Go.Proofs
