/- A part of a proof: see the last text of this claim. -/
import Derived.Test.YtijedkfekmopnaaGreatDoorQ11b
set_option linter.unusedVariables false
set_option maxRecDepth 100000
open Go Go.GV
namespace Go.Proofs

def ListIn (H : Heap) (h : Hd) : Prop := ∃ ms rs, Sl encR5 H h.1 h.2.1 h.2.2 ms ∧ RcsH H ms rs ∧ (∀ r ∈ rs, TypR r) ∧ h.2.1 ≤ 9223372036854775807
def ListOk (H : Heap) (h : Hd) : Prop := ∃ ms rs, Sl encR5 H h.1 h.2.1 h.2.2 ms ∧ RcsH H ms rs ∧ (∀ r ∈ rs, TypR r) ∧ (∀ m ∈ ms, Small m) ∧ wCs rs ≤ 2048 ∧ h.2.1 ≤ 2048 ∧ rs.length ≤ 2048
theorem Keeps_ok {H : Heap} {la : Option Addr} {ln lc : Nat} {hs : List Hd} {n reset : Int} (hx : Sl encHd H la ln lc hs) (hin : ∀ h ∈ hs, ListIn H h) (hn0 : 0 ≤ n ∧ n ≤ 255) (htab : TabH H) :
    CallH Tryz.prog 5 ⟨[.int .u8 n, .slice la ln lc, .int .u8 reset]⟩ H fun v H' => v = .bool true ∧ Fr [] H H' := by
  apply vc_law11_WalKeeps
  refine brB_of (fun _ => ⟨rfl, Fr.refl _ _⟩) (fun hl => ?_)
  have hl : ln ≤ 10 := by simp at hl; omega
  have hlen := hx.len
  refine ⟨fun vs H' => match vs with | [.int _ i] => ∃ j : Nat, i = j ∧ j ≤ ln ∧ H' = H ∧ ∀ h ∈ hs.take j, ListOk H h | _ => False, fun vs _ => match vs with | [.int _ i] => ln - i.toNat | _ => 0, ⟨0, rfl, by omega, rfl, by simp⟩, ?_⟩
  rintro J i H0 ⟨j, rfl, hj, rfl, hok⟩
  refine brB_of (fun h0 => ?_) (fun h0 => ?_)
  · have hlt : j < ln := by simpa using h0
    obtain ⟨h, hh⟩ := getElem_ex (l := hs) (i := j) (by omega)
    obtain ⟨ms, rs, q1, q2, q3, q4⟩ := hin h (List.mem_of_getElem? hh)
    refine hx.get rfl hh (decide_eq_true (by omega)) fun ad e hc => ⟨_, _, _, ld_one (by kernel_rfl) hc, ?_⟩
    refine heavyS_ok q1 (fun m hm => ?_) q4 (brB_of (fun _ => ⟨rfl, Fr.refl _ _⟩) (fun h => by cases h)) fun h1 h2 h3 => brB_of (fun h => by cases h) fun _ => ⟨⟨j + 1, succ64 (by omega), by omega, rfl, fun x hx' => ?_⟩, ?_⟩
    · obtain ⟨k, hk⟩ := List.getElem?_of_mem hm
      obtain ⟨r, _, hR⟩ := q2.at hk
      exact ⟨_, hR.l⟩
    · rw [List.take_add_one, hh] at hx'
      rcases List.mem_append.1 hx' with hm | hm
      · exact hok x hm
      · have hm : x = h := by simpa using hm
        subst hm
        have e1 := q1.len
        have e2 := q2.1
        exact ⟨ms, rs, q1, q2, q3, fun m hm => (h1 m hm).small, by rw [← wRs_eq q2]; exact h3, h2, by omega⟩
    · show ln - (IntKind.i64.wrap ((j : Int) + 1)).toNat < ln - ((j : Nat) : Int).toNat
      rw [succ64 (by omega)]
      exact mu_lt hlt
  have hjn : j = ln := by simp at h0; omega
  rw [List.take_of_length_le (by omega)] at hok
  obtain ⟨sz, hsz, hz⟩ : ∃ sz : Nat, (8 ≤ sz ∧ sz ≤ 67) ∧ IntKind.i64.wrap (8 + Int.tmod (IntKind.i64.wrap n) 60) = sz := by
    have e0 : IntKind.i64.wrap n = n := wrap64_of (by omega) (by omega)
    rw [e0, Int.tmod_eq_emod_of_nonneg hn0.1, wrap64_of (by omega) (by omega)]
    exact ⟨(8 + n % 60).toNat, by omega, by omega⟩
  rw [hz]
  refine stores_ok (sz := sz) (X := []) (by split <;> split <;> omega) (by omega) (by intro k hk; simp at hk) fun s1 s2 d2 Sd H1 hp hr g1 g2 g3 g4 g5 hf1 => brB_of (fun h => by simp at h) fun _ => ?_
  intro b H2 hn2
  have eb := hn2.eq
  have eb2 := hn2.size
  obtain ⟨cs1, hb1⟩ := hp.blk
  have s1lt := hb1.lt
  have hq0 : RQ H1 [s1.block] s2 sz (fun _ => none) 0 0 := RQ.fresh hr
  obtain ⟨cs2, hb2⟩ := hq0.blk
  have s2lt := hb2.lt
  have hSd : ∀ k ∈ Sd, k < H1.size := hp.inSd
  have hz1 := hf1.size
  refine ⟨fun vs H' => match vs with | [.slice o n c, .int _ i] => ∃ (j : Nat) (now : ByteArray → Option ByteArray) (qs : List Rc), i = j ∧ j ≤ ln ∧ H1.size ≤ H'.size ∧ KS H0 s1 s2 Sd sz H1.size j H' o n c now qs (2 * j) (1700000 * j) | _ => False,
    fun vs _ => match vs with | [_, .int _ i] => ln - i.toNat | _ => 0, ⟨0, fun _ => none, [], rfl, by omega, by omega, ?_⟩, ?_⟩
  · refine ⟨hf1.keep0 hn2.fr, ⟨0, hp.keep hn2.fr, by omega⟩, nb_none _, hq0.other hn2.fr (by simp) (fun k hk => ?_) (fun k hk => ?_), ⟨[], Own.made encR5 77 hn2 (Nat.le_refl _), ⟨rfl, fun i x y h => by simp at h⟩, by simp⟩, by simp, .inl ⟨rfl, rfl⟩, by simp⟩
    · simp [blkL] at hk
      rcases hk with e | e
      · left; simp [e]
      · right; omega
    · simp [blkL] at hk
      rcases hk with e | e <;> omega
  rintro J1 o n1 c1 i H3 ⟨j1, now, qs, rfl, hj1, kb, hK⟩
  refine brB_of (fun h1 => ?_) (fun h1 => ?_)
  · have hlt : j1 < ln := by simpa using h1
    obtain ⟨h, hh⟩ := getElem_ex (l := hs) (i := j1) (by omega)
    obtain ⟨ms, rs, q1, q2, q3, q4, q5, q6, q7⟩ := hok h (List.mem_of_getElem? hh)
    obtain ⟨kf, ⟨M, kp, kM⟩, kn, kq, ⟨msw, kow, kR, kS⟩, kg, kl, klen⟩ := hK
    have q1l := q1.len
    refine ⟨fun vs H' => match vs with | [.slice o n c] => ∃ (now : ByteArray → Option ByteArray) (qs : List Rc), H1.size ≤ H'.size ∧ KS H0 s1 s2 Sd sz H1.size (j1 + 1) H' o n c now qs (2 * (j1 + 1)) (1700000 * (j1 + 1)) | _ => False, ?_, ?_⟩
    · refine (hx.keep kf).get rfl hh (decide_eq_true (by omega)) fun ad e hc => ⟨_, _, _, ld_one (by kernel_rfl) hc, ?_⟩
      refine kp.app (B' := 1700000 * (j1 + 1)) (by omega) kn (by omega) (q1.keep kf) (q2.keep kf) q3 q4 (htab.keep kf) (by omega) (by omega) (by omega) fun H4 M4 hM4 p1 p2 hf4 => ?_
      have f04 : Fr [] H0 H4 := kf.keep hf4 fun k hk => by simp at hk; omega
      have rq4 := kq.frX hf4 (by simp)
      have ow4 := kow.fr hf4 fun ad e => by have := (kow.lt ad e).1; simp; omega
      refine (hx.keep f04).get rfl hh (decide_eq_true (by omega)) fun ad e hc => ⟨_, _, _, ld_one (by kernel_rfl) hc, ?_⟩
      refine theirs_ok (q1.keep f04) (by omega) fun o2 l2 d2 H5 ho2 hf5 => ?_
      have f05 := f04.keep0 hf5
      have hol := ho2.sl.len
      have rq5 := rq4.keep hf5
      refine rq5.app (B' := 1700000 * (j1 + 1)) (by omega) (by omega) (by omega) ho2.sl (q2.keep f05) q3 q4 (by omega) (by omega) (by omega) fun H6 rq6 hf6 => ?_
      have f06 : Fr [] H0 H6 := f05.keep hf6 fun k hk => by simp at hk; omega
      obtain ⟨cs5, hb5⟩ := rq5.blk
      have p6 := (p1.keep hf5).off hb5 g4 g5 hf6
      have ow6 := (ow4.keep hf5).fr hf6 fun ad e => by have := (kow.lt ad e).1; simp; omega
      refine brB_of (fun h => by simp at h) fun _ => ?_
      obtain ⟨la1, la2⟩ := kl.app (sz := sz) q3
      refine ⟨fun vs H' => match vs with | [.slice o n c] => ∃ (now : ByteArray → Option ByteArray) (qs : List Rc), H1.size ≤ H'.size ∧ KS H0 s1 s2 Sd sz H1.size (j1 + 1) H' o n c now qs (2 * j1 + 1) (1700000 * (j1 + 1)) | _ => False, brB_of (fun hb => ?_) (fun hb => ?_), ?_⟩
      · have hb : apC sz now rs = 0 := by simpa using hb
        obtain ⟨lg, gd⟩ := la1 hb
        refine (hx.keep f06).get rfl hh (decide_eq_true (by omega)) fun ad e hc => ⟨_, _, _, ld_one (by kernel_rfl) hc, ?_⟩
        refine theirs_ok (q1.keep f06) (by omega) fun o3 l3 d3 H7 ho3 hf7 => ?_
        have ow7 := ow6.keep hf7
        have hol3 := ho3.sl.len
        have how := ow7.sl.len
        have hRl := kR.1
        refine ap_grow slice34 elem33 ow7 ho3.sl (by have := (p6.keep hf7).blk; have := hf4.size; have := hf5.size; have := hf6.size; have := hf7.size; have := kb; omega) (by omega) fun a' n' c' H8 how8 hfr8 hgr8 => ⟨apN sz now rs, qs ++ rs, by have := hf4.size; have := hf5.size; have := hf6.size; have := hf7.size; have := hfr8.size; omega, ?_⟩
        have f07 := f06.keep0 hf7
        refine ⟨f07.keep hfr8 fun k hk => by have := (ow7.ge k hk).1; omega, ⟨M4, (p6.keep hf7).own ow7 s1lt hSd hfr8, by omega⟩, p2, (rq6.keep hf7).other hfr8 (fun k hk => by simp [hk]) (fun k hk => ?_) (fun k hk => ?_), ⟨msw ++ ms, how8, kR.app q2, fun m hm => (List.mem_append.1 hm).elim (kS m) (q4 m)⟩, fun q hq => (List.mem_append.1 hq).elim (kg q) (gd q), lg, by rw [List.length_append]; omega⟩
        · rcases List.mem_cons.1 hk with e | e
          · left; simp [e]
          · rcases hgr8 k e with e | e
            · left; simp [e]
            · right; exact e
        · rcases List.mem_cons.1 hk with e | e
          · have := (p6.keep hf7).blk
            obtain ⟨cs, hbb⟩ := this
            have := hbb.lt
            have := hfr8.size
            rw [e]; omega
          · exact (how8.ge k e).2
      · have hb : apC sz now rs ≠ 0 := by simpa using hb
        have en := la2 hb
        rw [en] at p6 p2 rq6
        exact ⟨now, qs, by have := hf4.size; have := hf5.size; have := hf6.size; omega, f06, ⟨M4, p6, by omega⟩, p2, rq6, ⟨msw, ow6, kR, kS⟩, kg, kl, by omega⟩
      · rintro J7 o7 n7 c7 H7 ⟨now7, qs7, kb7, hK7⟩
        refine ⟨fun vs H' => match vs with | [.slice o n c] => ∃ (now : ByteArray → Option ByteArray) (qs : List Rc), H1.size ≤ H'.size ∧ KS H0 s1 s2 Sd sz H1.size (j1 + 1) H' o n c now qs (2 * (j1 + 1)) (1700000 * (j1 + 1)) | _ => False, brB_of (fun hb => ?_) (fun hb => ?_), ?_⟩
        · obtain ⟨kf, ⟨M, kp, kM⟩, kn, kq, ⟨msw, kow, kR, kS⟩, kg, kl, klen⟩ := hK7
          obtain ⟨r1, r2⟩ := kl.reset hsz.1
          refine kp.reset (by omega) kn (by omega) fun H8 p8 nb8 hf8 => ?_
          rw [r1]
          refine brB_of (fun h => by simp at h) fun _ => ?_
          have f08 : Fr [] H0 H8 := kf.keep hf8 fun k hk => by simp at hk; omega
          have rq8 := kq.frX hf8 (by simp)
          have ow8 := kow.fr hf8 fun ad e => by have := (kow.lt ad e).1; simp; omega
          refine rq8.reset (by omega) (by omega) (by omega) fun H9 rq9 hf9 => ?_
          rw [r1]
          refine brB_of (fun h => by simp at h) fun _ => ?_
          have f09 : Fr [] H0 H9 := f08.keep hf9 fun k hk => by simp at hk; omega
          obtain ⟨cs8, hb8⟩ := rq8.blk
          have p9 := p8.off hb8 g4 g5 hf9
          have ow9 := ow8.fr hf9 fun ad e => by have := (kow.lt ad e).1; simp; omega
          exact ⟨_, [], by have := hf8.size; have := hf9.size; omega, f09, ⟨M + 1, p9, by omega⟩, nb8, rq9, ⟨_, ow9.take (Nat.zero_le _), ⟨rfl, fun i x y h => by simp at h⟩, by simp⟩, by simp, r2, by simp⟩
        · obtain ⟨kf, ⟨M, kp, kM⟩, kn, kq, kow, kg, kl, klen⟩ := hK7
          exact ⟨now7, qs7, kb7, kf, ⟨M, kp, by omega⟩, kn, kq, kow, kg, kl, klen⟩
        · rintro J8 o8 n8 c8 H8 ⟨now8, qs8, kb8, hK8⟩
          obtain ⟨kf, ⟨M, kp, kM⟩, kn, kq, ⟨msw, kow, kR, kS⟩, kg, kl, klen⟩ := id hK8
          have hfl := fileT_le kn
          rw [kl.file] at hfl
          refine wReplay_ok (s := bt (logB qs8)) (htab.keep kf) (by omega) (fun K' hK' => kp.read (by rw [kl.file]; exact hK' _)) (fun hno => absurd (bl_bt _) (hno qs8 kg)) fun rs' ms' o' n' c' H9 hG hlog ho hR hsm hf9 => ?_
          have er : rs' = qs8 := logB_inj hG kg (hlog.symm.trans (bl_bt _))
          subst er
          refine brB_of (fun h => by simp at h) fun _ => ?_
          have hl1 := ho.sl.len
          have hl2 := hR.1
          refine theirs_ok ho.sl (by omega) fun o4 l4 d4 H10 ho4 hf10 => ?_
          have hl4 := ho4.sl.len
          have f910 := hf9.keep0 hf10
          refine rSame_ok ho4.sl (kow.keep f910).sl (hR.keep hf10) (kR.keep (kf.keep0 f910)) (by omega) hsm fun H11 hf11 => brB_of (fun h => by simp at h) fun _ => ⟨now8, rs', by have := f910.size; have := hf11.size; omega, hK8.keep (f910.keep0 hf11)⟩
    · rintro J9 o9 n9 c9 H9 ⟨now9, qs9, kb9, hK9⟩
      refine ⟨⟨j1 + 1, now9, qs9, succ64 (by omega), by omega, kb9, hK9⟩, ?_⟩
      show ln - (IntKind.i64.wrap ((j1 : Int) + 1)).toNat < ln - ((j1 : Nat) : Int).toNat
      rw [succ64 (by omega)]
      exact mu_lt hlt
  · obtain ⟨kf, ⟨M, kp, kM⟩, kn, kq, _⟩ := hK
    refine kp.read ?_
    refine kq.read (by omega) ?_
    refine odd_ok fun b H7 hs7 hf7 => ?_
    have f07 := kf.keep0 hf7
    refine brB_of (fun _ => brB_of (fun _ => odd_app hs7 (htab.keep f07) fun H8 hf8 => ⟨rfl, f07.keep0 hf8⟩) (fun h => by simp at h)) (fun h => by simp at h)
end Go.Proofs
