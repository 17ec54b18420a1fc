/- A part of a proof: see the last text of this claim. -/
import Derived.Test.YtgjbljhocedpfaaL10f
import Derived.Test.YtgjbljhocedpfaaQ10d
import Derived.Test.YtgjbljhocedpfaaS10
set_option linter.unusedVariables false
set_option maxRecDepth 100000
open Go Go.GV
namespace Go.Proofs

/-! small sectors -/
def Sm (m : Dk) : Prop := (∀ i, (m.is i).size ≤ 64) ∧ ∀ i, ∀ s ∈ m.wait i, s.size ≤ 64
theorem Sm.settle {m : Dk} (h : Sm m) (pk : Nat → Nat → Nat) : Sm (settleM pk m) :=
  ⟨fun i => (setl_mem pk m i).elim (fun e => by show (setl pk m i).size ≤ 64; rw [e]; exact h.1 i) fun e => h.2 _ _ e, fun i s hs => by simp [settleM] at hs⟩
theorem Sm.of {m m' : Dk} (h : Sm m) (h1 : m'.is = m.is) (h2 : m'.wait = m.wait) : Sm m' := ⟨fun i => by rw [h1]; exact h.1 i, fun i => by rw [h2]; exact h.2 i⟩
theorem Sm.crash {m : Dk} (h : Sm m) (keep : Int) : Sm (crashM keep m) := by
  unfold crashM
  split
  · exact h
  · exact (h.settle _).of rfl rfl
theorem Sm.last {m : Dk} (h : Sm m) : Sm (lastM m).1 := by
  unfold lastM
  split
  · exact h.of rfl rfl
  · exact Sm.crash (m := { m with calls := m.calls + 1 }) (h.of rfl rfl) _
theorem Sm.flush {m : Dk} (h : Sm m) : Sm (flushM m).1 := by
  unfold flushM
  split
  · exact h
  · split
    · exact h.last
    · exact h.last.settle _
theorem Sm.write {m : Dk} (h : Sm m) (i : Int) (s : ByteArray) : Sm (writeM m i s).1 := by
  unfold writeM
  split
  · exact h
  · split
    · exact h
    · rename_i hx
      refine Sm.last (m := { m with wait := setW m.wait i (m.wait i ++ [s]) }) ⟨h.1, fun k x hx2 => ?_⟩
      unfold setW at hx2
      simp only at hx2
      split at hx2
      · rcases List.mem_append.1 hx2 with hx2 | hx2
        · exact h.2 _ _ hx2
        · rw [List.mem_singleton.1 hx2]; omega
      · exact h.2 _ _ hx2
theorem Sm.lay : ∀ (l : List (Int × ByteArray)) {m : Dk}, Sm m → Sm (layM m l).1
  | [], _, h => h.flush
  | p :: l, _, h => by
    unfold layM
    split
    · exact h.write _ _
    · exact Sm.lay l (h.write _ _)
theorem Sm.sync {st : Sto} {m : Dk} (h : Sm m) : Sm (syncM st m).2.1 := by
  unfold syncM
  split
  · exact h
  · split
    · exact h
    · split
      · exact h.lay _
      · split
        · exact Sm.lay _ (h.lay _)
        · exact Sm.lay _ (h.lay _)
theorem Sm.rd {m : Dk} (h : Sm m) (i : Int) : (rdM m i).1.size ≤ 1000000 := by
  unfold rdM
  split
  · simp [ByteArray.size]
  · split
    · simp [ByteArray.size]
    · cases hl : (m.wait i).getLast? with
      | none => have := h.1 i.toNat; simp only [Option.getD_none]; omega
      | some s => have := h.2 i s (List.mem_of_getLast? hl); simp only [Option.getD_some]; omega
theorem sm_new (n : Int) : Sm (newM n) := ⟨fun i => by simp [newM, ByteArray.size], fun i s hs => by simp [newM] at hs⟩

/-! what is kept -/
structure KI (st : Sto) (m : Dk) (B G : Nat) : Prop where
  inv : Inv st m.size m.is
  wait : ∀ i, m.wait i = []
  sm : Sm m
  good : Good (reop st) m B G
theorem KI.mono {st : Sto} {m : Dk} {B G B' G' : Nat} (h : KI st m B G) (hB : B ≤ B') (hG : G ≤ G') : KI st m B' G' := ⟨h.inv, h.wait, h.sm, h.good.mono hB hG⟩
theorem Inv.same {st st' : Sto} {size : Int} {is : Nat → ByteArray} (h : Inv st size is) (h1 : st'.last = st.last) (h2 : st'.dir = st.dir) (h3 : st'.gen = st.gen) : Inv st' size is :=
  ⟨by rw [h3]; exact h.low, by rw [h1, h2, h3]; exact h.root⟩
theorem reop_eq {st st' : Sto} (h1 : st'.last = st.last) (h2 : st'.dir = st.dir) (h3 : st'.gen = st.gen) : reop st' = reop st := by
  unfold reop
  rw [h1, h2, h3]
theorem KI.same {st st' : Sto} {m : Dk} {B G : Nat} (h : KI st m B G) (h1 : st'.last = st.last) (h2 : st'.dir = st.dir) (h3 : st'.gen = st.gen) : KI st' m B G := ⟨h.inv.same h1 h2 h3, h.wait, h.sm, by rw [reop_eq h1 h2 h3]; exact h.good⟩
theorem reop_reop (st : Sto) : reop (reop st) = reop st := rfl
theorem sameP_reop {st : Sto} (h : sameP st) (hb : st.bad = false) : reop st = st := by
  unfold reop
  have : (fun y => (st.last y).map (·.1)) = st.now := funext fun y => (h y).symm
  rw [this]
  cases st; simp at hb; simp [hb]
theorem ki_new (n : Int) : KI stoNew (newM n) 0 0 := by
  have h := good_new n
  refine ⟨inv_new _, fun _ => rfl, sm_new n, ?_⟩
  have : reop stoNew = stoNew := rfl
  rw [this]; exact h
theorem KI.crash {st : Sto} {m : Dk} {B G : Nat} (h : KI st m B G) (keep : Int) : KI (reop st) (powerM (crashM keep m)) B G ∧ openF (powerM (crashM keep m)) = openF (powerM (crashM keep m)) := by
  refine ⟨?_, rfl⟩
  have ho := h.good.dk.off
  have e : crashM keep m = { settleM (pkC keep) m with off := true, left := 0 } := by unfold crashM; rw [if_neg (by simp [ho])]
  have hsl : setl (pkC keep) m = m.is := by
    funext i
    unfold setl
    rw [if_pos (h.wait _)]
  rw [e]
  refine ⟨?_, fun _ => rfl, (h.sm.settle (pkC keep)).of rfl rfl, h.good.on ⟨rfl, rfl, h.good.dk.keep⟩ rfl⟩
  show Inv (reop st) m.size (setl (pkC keep) m)
  rw [hsl]
  exact h.inv.same rfl rfl rfl
theorem stepM_lasts (size : Int) (st : Sto) (o : Step10) : (stepM size st o).last = st.last ∧ (stepM size st o).dir = st.dir ∧ (stepM size st o).gen = st.gen := by
  have hch : ∀ ch, (changeM size st ch).1.last = st.last ∧ (changeM size st ch).1.dir = st.dir ∧ (changeM size st ch).1.gen = st.gen := fun ch => by
    unfold changeM
    split <;> exact ⟨rfl, rfl, rfl⟩
  have hw : ∀ a b, (writeS size st a b).1.last = st.last ∧ (writeS size st a b).1.dir = st.dir ∧ (writeS size st a b).1.gen = st.gen := fun a b => by
    unfold writeS
    split
    · exact hch _
    · exact ⟨rfl, rfl, rfl⟩
  unfold stepM
  split
  · exact hw _ _
  · split
    · exact hw _ _
    · split
      · unfold deleteS
        split
        · split
          · exact hch _
          · exact ⟨rfl, rfl, rfl⟩
        · exact ⟨rfl, rfl, rfl⟩
      · split
        · unfold renameS
          split
          · split
            · exact hch _
            · exact ⟨rfl, rfl, rfl⟩
          · exact ⟨rfl, rfl, rfl⟩
        · exact ⟨rfl, rfl, rfl⟩
theorem KI.step {st : Sto} {m : Dk} {B G : Nat} (h : KI st m B G) (o : Step10) : KI (stepM m.size st o) m B G := by
  have := stepM_lasts m.size st o
  exact h.same this.1 this.2.1 this.2.2
theorem KI.sync {st : Sto} {m : Dk} {B G : Nat} (h : KI st m B G) (hg : Good st m B G) {ys : List ByteArray} (hys : namesOf st.now ys) (hG : G + 1 ≤ 1000000000) : (syncM st m).2.2 = 0 ∧ Synced st m (syncM st m).1 (syncM st m).2.1 B G ∧ KI (syncM st m).1 (syncM st m).2.1 B (G + 1) ∧ reop (syncM st m).1 = (syncM st m).1 := by
  obtain ⟨h0, hs⟩ := good_sync hg hys hG
  have ha := sync_any (m0 := m) hg rfl hg.dk.off hg.dk.keep h.wait h.inv hys hG
  have hr := sameP_reop hs.same hs.good.bad
  refine ⟨h0, hs, ⟨?_, ha.wait, h.sm.sync, by rw [hr]; exact hs.good⟩, hr⟩
  rcases ha.it with ⟨hne, _⟩ | ⟨st', i1, i2, i3, i4, i5⟩
  · exact absurd h0 hne
  · rw [← i5 h0, ha.sz]; exact i1
/-- What is there behind a Sync amid which the power went, or not. -/
theorem KI.cut {st : Sto} {m : Dk} {B G : Nat} (h : KI st m B G) (hg : Good st m B G) {ys : List ByteArray} (hys : namesOf st.now ys) (hG : G + 1 ≤ 1000000000) (at' : Int) {keep : Int} (hk : 0 ≤ keep ∧ keep < 18446744073709551616) (keep2 : Int) :
    ((syncM st (cutM m at' keep)).2.2 = 0 ∨ (syncM st (cutM m at' keep)).2.2 = 90) ∧ ∃ st', KI st' (powerM (crashM keep2 (syncM st (cutM m at' keep)).2.1)) B (G + 1) ∧ ((reop st').now = st.now ∨ ((syncM st (cutM m at' keep)).2.2 ≠ 0 ∧ reop st' = reop st)) := by
  have ha := sync_any (m := cutM m at' keep) (m0 := m) hg rfl hg.dk.off hk h.wait h.inv hys hG
  have hsm : Sm (syncM st (cutM m at' keep)).2.1 := Sm.sync (m := cutM m at' keep) (h.sm.of rfl rfl)
  generalize syncM st (cutM m at' keep) = x at *
  have hsize : x.2.1.size = m.size := ha.sz
  refine ⟨ha.code.elim (fun h => .inl h.1) fun h => .inr h.1, ?_⟩
  have key : ∃ m2, powerM (crashM keep2 x.2.1) = m2 ∧ m2.is = x.2.1.is ∧ (∀ i, m2.wait i = []) ∧ m2.size = m.size ∧ DkOk m2 ∧ Sm m2 := by
    refine ⟨_, rfl, ?_, ?_, ?_, ?_, (Sm.crash hsm keep2).of rfl rfl⟩
    · unfold crashM
      split
      · rfl
      · show setl (pkC keep2) x.2.1 = _
        funext i
        unfold setl
        rw [if_pos (ha.wait _)]
    · unfold crashM
      split
      · exact ha.wait
      · exact fun _ => rfl
    · unfold crashM
      split
      · exact hsize
      · exact hsize
    · have hk2 := ha.keep
      rw [← crashM_keep keep2 x.2.1] at hk2
      exact ⟨rfl, rfl, hk2⟩
  obtain ⟨m2, e, e1, e2, e3, e4, e5⟩ := key
  rw [e]
  rcases ha.it with ⟨hne, hi⟩ | ⟨st', i1, i2, i3, i4, i5⟩
  · exact ⟨st, ⟨by rw [e1, e3]; exact hi, e2, e5, (h.good.on e4 e3).mono (Nat.le_refl _) (by omega)⟩, .inr ⟨hne, rfl⟩⟩
  · have hg' := i4 m2 e4 e3
    have hr := sameP_reop i3 hg'.bad
    exact ⟨st', ⟨by rw [e1, e3]; exact i1, e2, e5, by rw [hr]; exact hg'⟩, .inl (by rw [hr, i2])⟩
theorem KI.crash' {st : Sto} {m : Dk} {B G : Nat} (h : KI st m B G) (keep : Int) : KI (reop st) (powerM (crashM keep m)) B G := (h.crash keep).1

/-! a store of one's own, and its disk -/
theorem SL.disk {H H' : Heap} {s d : Addr} {rn rl : Nat} {a : Option Addr} {n c : Nat} {Q Sd : List Nat} {st : Sto} {m m' : Dk} {N M : Nat} (h : SL H s d rn rl a n c Q Sd st m N M) (hf : Fr Sd H H') (hd : DRep H' d Sd m' N) : SL H' s d rn rl a n c Q Sd st m' N M :=
  ⟨h.blk.fr hf (h.apart _ (by simp)), h.now.fr hf (h.apart _ (by simp)), h.last.fr hf (h.apart _ (by simp)) fun k hk => h.apart _ (by simp [hk]), h.dir.fr hf fun ad e => h.apart _ (by simp [h.dirQ ad.block (by simp [e, blkL])]), h.dirQ, hd, h.own, h.apart, h.inQ.le hf.size⟩
theorem DRep.footD {H : Heap} {d : Addr} {S : List Nat} {m : Dk} {N : Nat} (h : DRep H d S m N) : d.block ∈ S := by
  obtain ⟨⟨r, ck, L, hl⟩, _⟩ := h
  exact hl.foot.1
theorem W10.disk {H0 H : Heap} {pr : List (Nat × Obj)} {s d : Addr} {st : Sto} {m : Dk} {N M : Nat} (h : W10 H0 pr H s d st m N M) :
    ∃ Sd, DRep H d Sd m N ∧ d.block ∈ Sd ∧ ∀ m' H', DRep H' d Sd m' N → Fr Sd H H' → W10 H0 pr H' s d st m' N M := by
  obtain ⟨⟨rn, rl, a, n, c, Q, Sd, hs, h1, h2, h3⟩, hfr, hpr⟩ := h
  exact ⟨Sd, hs.dk, hs.dk.footD, fun m' H' hd hf => ⟨⟨rn, rl, a, n, c, Q, Sd, hs.disk hf hd, h1, h2, h3⟩, hfr.keep hf h2, pro_fr hpr hf fun p hp => (h3 p hp).2⟩⟩
theorem W10.crash {H0 H : Heap} {pr : List (Nat × Obj)} {s d : Addr} {st : Sto} {m : Dk} {N M : Nat} {keep : Int} {K : Heap → Prop} (h : W10 H0 pr H s d st m N M) (hN : N ≤ 1000000) (hkp : 0 ≤ keep ∧ keep < 18446744073709551616) (hk : ∀ H', W10 H0 pr H' s d st (crashM keep m) N M → K H') :
    CallH Try.prog 22 ⟨[.pointer (some d), .int .u64 keep]⟩ H fun v H' => v = .tuple ⟨[]⟩ ∧ K H' := by
  obtain ⟨Sd, hd, _, hw⟩ := h.disk
  exact Crash_ok hd hN hkp fun H' hd' hf => hk H' (hw _ _ hd' hf)
theorem W10.power {H0 H : Heap} {pr : List (Nat × Obj)} {s d : Addr} {st : Sto} {m : Dk} {N M : Nat} {K : Heap → Prop} (h : W10 H0 pr H s d st m N M) (hk : ∀ H', W10 H0 pr H' s d st (powerM m) N M → K H') :
    CallH Try.prog 23 ⟨[.pointer (some d)]⟩ H fun v H' => v = .tuple ⟨[]⟩ ∧ K H' := by
  obtain ⟨Sd, hd, hb, hw⟩ := h.disk
  exact Power_ok hd fun H' hd' hf => hk H' (hw _ _ hd' (hf.mono fun k hk => by rw [List.mem_singleton.1 hk]; exact hb))
theorem W10.cut {H0 H : Heap} {pr : List (Nat × Obj)} {s d : Addr} {st : Sto} {m : Dk} {N M : Nat} {n keep : Int} {K : Heap → Prop} (h : W10 H0 pr H s d st m N M) (hn : I64 n) (hk : ∀ H', W10 H0 pr H' s d st (cutM m n keep) N M → K H') :
    CallH Try.prog 26 ⟨[.pointer (some d), .int .i64 n, .int .u64 keep]⟩ H fun v H' => v = .tuple ⟨[]⟩ ∧ K H' := by
  obtain ⟨Sd, hd, hb, hw⟩ := h.disk
  exact Cut_ok hd hn fun H' hd' hf => hk H' (hw _ _ hd' (hf.mono fun k hk => by rw [List.mem_singleton.1 hk]; exact hb))
/-- A Sync, whatever comes of it. -/
theorem W10.syncA {H0 H : Heap} {pr : List (Nat × Obj)} {s d : Addr} {st : Sto} {m m0 : Dk} {N M B G : Nat} {K : Int → Heap → Prop} (h : W10 H0 pr H s d st m N M) (hM : M ≤ 1000) (hg : Good st m0 B G) (hm0 : m0.size = m.size) (hkp : 0 ≤ m.keep ∧ m.keep < 18446744073709551616) (hB : B ≤ 1000000) (hG : G + 1 ≤ 1000000000) (hN : N + 2000 ≤ 1000000)
    (hk : ∀ H', W10 H0 pr H' s d (syncM st m).1 (syncM st m).2.1 (N + 2000) M → K (syncM st m).2.2 H') :
    CallH Try.prog 16 ⟨[.pointer (some s)]⟩ H fun v H' => ∃ n, v = .int .i64 n ∧ K n H' := by
  obtain ⟨⟨rn, rl, a, n, c, Q, Sd, hs, h1, h2, h3⟩, hfr, hpr⟩ := h
  have hpb := hg.plb hB (now := st.now) fun y d e => ⟨(hg.now y d e).1, by have := (hg.now y d e).2; omega⟩
  have hpo := hg.planOk hg.fits
  rw [hm0] at hpo
  refine Sync_ok hs hM hpb (by have := hg.gen; omega) hkp (hpo.len (by have := hg.sz.2; omega)) (by have := hpo.dirD; omega) (by have := hpo.k20; omega) hN fun rl' a' n' c' Q' Sd' H' h' hf hgr => ?_
  refine hk H' ⟨⟨rn, rl', a', n', c', Q', Sd', h', h1, fun k hk' => ?_, fun p hp => ⟨(h3 p hp).1, fun hh => ?_⟩⟩, ?_, pro_fr hpr hf fun p hp => by simp only [List.mem_cons, not_or]; exact h3 p hp⟩
  · rcases hgr k hk' with h | h
    · exact h2 k h
    · have := hfr.size; omega
  · rcases hgr _ hh with h | h
    · exact (h3 p hp).2 h
    · have := lt_of_get (hpr p hp); omega
  · refine hfr.keep hf fun k hk' => ?_
    rcases List.mem_cons.1 hk' with rfl | hk'
    · exact h1
    · exact h2 k hk'
theorem W10.open {H0 H : Heap} {pr : List (Nat × Obj)} {s d : Addr} {st st' : Sto} {m : Dk} {N M B G : Nat} {K : Option Addr → Int → Heap → Prop} (h : W10 H0 pr H s d st m N M) (hN : N ≤ 1000000) (hki : KI st' m B G)
    (hk : ∀ s' H', W10 H0 pr H' s' d (reop st') m N 427 → K (some s') 0 H') :
    CallH Try.prog 11 ⟨[.pointer (some d)]⟩ H fun v H' => ∃ a e, v = .tuple ⟨[.pointer a, .int .i64 e]⟩ ∧ K a e H' := by
  obtain ⟨⟨rn, rl, a, n, c, Q, Sd, hs, h1, h2, h3⟩, hfr, hpr⟩ := h
  have hop := open_inv hki.inv hki.wait hki.good.dk.off hki.good.sz.1
  refine Open_ok hs.dk hN hki.good.dk.off (fun i => hki.sm.rd i) fun s' rn' rl' a' n' c' Q' H' hge h' hf => hk s' H' ⟨⟨rn', rl', a', n', c', Q', Sd, ?_, ?_, h2, fun p hp => ⟨?_, (h3 p hp).2⟩⟩, hfr.keep0 hf, pro_fr hpr hf (by simp)⟩
  · rw [hop.1] at h'
    exact h'.mono hop.2
  · have := hfr.size; omega
  · have := lt_of_get (hpr p hp); omega
end Go.Proofs
set_option linter.unusedVariables false
set_option maxRecDepth 100000
open Go Go.GV
namespace Go.Proofs

theorem namedL_len {now : ByteArray → Option ByteArray} {ys : List ByteArray} (h : namesOf now ys) : (namedL now).length = 2 * ys.length := by
  unfold namedL; rw [namesL_eq h, flat2_len]
/-- FilesKeeps. -/
theorem Keeps_ok {n keep : Int} {la : Option Addr} {ln lc : Nat} {l : List Step10} {H : Heap} (hl : Sl encStep H la ln lc l) (hfi : ∀ o ∈ l, 0 ≤ o.2.2.2.2 ∧ o.2.2.2.2 < 18446744073709551616) (hkp : 0 ≤ keep ∧ keep < 18446744073709551616) :
    CallH Try.prog 5 ⟨[.int .u8 n, .slice la ln lc, .int .u64 keep]⟩ H fun v H' => v = .bool true ∧ Fr [] H H' := by
  apply vc_law10_FilesKeeps
  have hlen := hl.len
  refine ⟨fun vs H' => vs = [] ∧ ln ≤ 60 ∧ wts l ≤ 8192 ∧ Fr [] H H', heavy_ok hl fun hb hbn => brB_of (fun _ => shown_ok fun H' hf => ⟨rfl, hf⟩) (fun hbf => shown_ok fun H' hf => brB_of (fun h => by simp at h) fun _ => ⟨rfl, (hbn hbf).1, (hbn hbf).2, hf⟩), ?_⟩
  rintro J H1 ⟨_, hn60, hw, hf1⟩
  generalize hn8 : IntKind.i64.wrap (8 + Int.tmod (IntKind.i64.wrap n) 40) = n8
  refine W10.new (n := n8) hf1 fun d H2 hopen hf2 => hopen _ fun s H3 hw3 => fun b H4 hn4 => ?_
  refine ⟨fun vs H' => match vs with | [.pointer sp, .slice a n c, .int _ i] => ∃ (j : Nat) (s : Addr) (st : Sto) (m : Dk) (pr : List (Nat × Obj)), i = j ∧ j ≤ ln ∧ sp = some s ∧ W10 H pr H' s d st m (2000 * j) (427 + j) ∧ Good st m (wts (l.take j)) j ∧ KI st m (wts (l.take j)) j ∧ (∀ H'', (∀ p ∈ pr, H''[p.1]? = some p.2) → Sl GV.encStr H'' a n c (namedL (reop st).now)) | _ => False,
    fun vs _ => match vs with | [_, _, .int _ i] => ln - i.toNat | _ => 0, ⟨0, s, stoNew, newM n8, [], rfl, by omega, rfl, (hw3.keep hn4.fr).mono (by omega) (by omega), good_new n8, ki_new n8, fun H'' _ => ?_⟩, ?_⟩
  · have : namedL (reop stoNew).now = [] := by
      show namedL (fun _ => none) = []
      unfold namedL
      rw [namesL_eq names_none]; rfl
    rw [this]
    exact Sl.zero
  rintro J2 sp sa sn sc i H5 ⟨j, s, st, m, pr, rfl, hj, rfl, h5, g5, k5, hsl⟩
  have hwl := wts_take l j
  refine brB_of (fun h0 => ?_) (fun h0 => ?_)
  · have h0' : j < ln := by simpa using h0
    obtain ⟨o, ho⟩ := getElem_ex (l := l) (i := j) (by omega)
    have hws := wts_snoc ho
    have hwl2 := wts_take l (j + 1)
    have hfo := hfi o (List.mem_of_getElem? ho)
    refine ⟨fun vs H' => match vs with | [.pointer sp, .slice a n c] => ∃ (s : Addr) (st : Sto) (m : Dk) (pr : List (Nat × Obj)), sp = some s ∧ W10 H pr H' s d st m (2000 * (j + 1)) (427 + (j + 1)) ∧ Good st m (wts (l.take (j + 1))) (j + 1) ∧ KI st m (wts (l.take (j + 1))) (j + 1) ∧ (∀ H'', (∀ p ∈ pr, H''[p.1]? = some p.2) → Sl GV.encStr H'' a n c (namedL (reop st).now)) | _ => False, ?_, ?_⟩
    · refine (hl.keep h5.fr).get rfl ho (by simp; omega) fun ad e hc => ⟨_, _, _, _, _, ld_many (by kernel_rfl) (by kernel_rfl) hc, ?_⟩
      refine change10_ok h5 (by omega) g5 (by omega) (by omega) fun H6 h6 g6 => ?_
      have k6 := k5.step o
      have hre : reop (stepM m.size st o) = reop st := reop_eq (stepM_lasts _ _ _).1 (stepM_lasts _ _ _).2.1 (stepM_lasts _ _ _).2.2
      have hsl6 : ∀ H'', (∀ p ∈ pr, H''[p.1]? = some p.2) → Sl GV.encStr H'' sa sn sc (namedL (reop (stepM m.size st o)).now) := by rw [hre]; exact hsl
      generalize stepM m.size st o = st6 at h6 g6 k6 hsl6
      refine ⟨fun vs H' => match vs with | [.slice a n c] => ∃ (st : Sto) (m : Dk) (pr : List (Nat × Obj)), W10 H pr H' s d st m (2000 * (j + 1)) (427 + (j + 1)) ∧ Good st m (wts (l.take (j + 1))) (j + 1) ∧ KI st m (wts (l.take (j + 1))) (j + 1) ∧ (∀ H'', (∀ p ∈ pr, H''[p.1]? = some p.2) → Sl GV.encStr H'' a n c (namedL (reop st).now)) | _ => False, ?_, ?_⟩
      · refine (hl.keep h6.fr).get rfl ho (by simp; omega) fun ad e hc => ⟨_, ld_part (j := 0) (by kernel_rfl) hc rfl, brB_of (fun k4 => ?_) (fun k4 => ⟨st6, m, pr, h6.mono (by omega) (by omega), g6.mono (by omega) (by omega), k6.mono (by omega) (by omega), hsl6⟩)⟩
        obtain ⟨ys, hys, _⟩ := h6.names
        obtain ⟨e0, hsy, k7, hr7⟩ := (k6.mono (B' := wts (l.take j) + wt o) (by omega) (Nat.le_refl _)).sync g6 hys (by omega)
        refine h6.syncA (m0 := m) (by omega) g6 rfl g6.dk.keep (by omega) (by omega) (by omega) fun H7 h7 => ?_
        rw [e0]
        have g7 := hsy.good
        generalize syncM st6 m = x at h7 k7 hr7 g7
        refine brB_of (fun h => by simp at h) fun _ => named_ok h7 (by omega) fun a n c H8 ho8 hf8 => ?_
        obtain ⟨pr8, h8, hs8⟩ := h7.withOwn hf8 ho8
        refine ⟨x.1, x.2.1, pr8, (h8.drop (by intro p hp; simp [hp])).mono (by omega) (by omega), g7.mono (by omega) (by omega), k7.mono (by omega) (by omega), ?_⟩
        rw [hr7]; exact hs8
      · rintro J3 a n c H7 ⟨st7, m7, pr7, h7, g7, k7, hs7⟩
        refine (hl.keep h7.fr).get rfl ho (by simp; omega) fun ad e hc => ⟨_, ld_part (j := 0) (by kernel_rfl) hc rfl, brB_of (fun k4 => ?_) (fun k4 => ⟨s, st7, m7, pr7, rfl, h7, g7, k7, hs7⟩)⟩
        refine (hl.keep h7.fr).get rfl ho (by simp; omega) fun ad e hc => ⟨o.2.2.2.2, ld_part (j := 4) (by kernel_rfl) hc rfl, ?_⟩
        refine h7.crash (by omega) hfo fun H8 h8 => h8.power fun H9 h9 => ?_
        have k9 := k7.crash' o.2.2.2.2
        refine h9.open (by omega) k9 fun s' H10 h10 => brB_of (fun h => by simp at h) fun _ => named_ok h10 (by omega) fun a' n' c' H11 ho11 hf11 => ?_
        have h11 := h10.keep hf11
        have hn11 : n' ≤ 1000000000 := by
          obtain ⟨ys, hy1, hy2⟩ := h10.names
          rw [ho11.1, namedL_len hy1]
          omega
        refine same_ok ho11.sl (hs7 H11 fun p hp => h11.pro p hp) hn11 ?_
        rw [decide_eq_true (by rfl)]
        exact brB_of (fun h => by simp at h) fun _ => ⟨s', _, _, pr7, rfl, h11.mono (by omega) (by omega), k9.good, k9, hs7⟩
    · rintro J3 sp a n c H8 ⟨s8, st8, m8, pr8, rfl, h8, g8, k8, hs8⟩
      exact ⟨⟨j + 1, s8, st8, m8, pr8, succ64 (by omega), by omega, rfl, h8, g8, k8, hs8⟩, mu_fin h0' (by omega)⟩
  · refine h5.crash (by omega) hkp fun H8 h8 => h8.power fun H9 h9 => ?_
    have k9 := k5.crash' keep
    refine h9.open (by omega) k9 fun s' H10 h10 => brB_of (fun _ => named_ok h10 (by omega) fun a' n' c' H11 ho11 hf11 => ?_) (fun h => by simp at h)
    have h11 := h10.keep hf11
    have hn11 : n' ≤ 1000000000 := by
      obtain ⟨ys, hy1, hy2⟩ := h10.names
      rw [ho11.1, namedL_len hy1]
      omega
    refine same_ok ho11.sl (hsl H11 fun p hp => h11.pro p hp) hn11 ?_
    rw [decide_eq_true (by rfl)]
    exact ⟨rfl, h11.fr⟩
theorem writeS_not90 (size : Int) (st : Sto) (name data : ByteArray) : (writeS size st name data).2 ≠ 90 := by
  unfold writeS
  split
  · rcases changeM_err (size := size) (st := st) (ch := fun now => putN now name data) with ⟨h1, _⟩ | ⟨h1, _⟩ <;> rw [h1] <;> decide
  · exact (by decide : ¬ (100 : Int) = 90)
/-- FilesCuts. -/
theorem Cuts_ok {n at' keep : Int} {la ma : Option Addr} {ln lc mn mc : Nat} {l l2 : List Step10} {H : Heap} (hl : Sl encStep H la ln lc l) (hl2 : Sl encStep H ma mn mc l2) (hat : I64 at') (hkp : 0 ≤ keep ∧ keep < 18446744073709551616) :
    CallH Try.prog 7 ⟨[.int .u8 n, .slice la ln lc, .slice ma mn mc, .int .i64 at', .int .u64 keep]⟩ H fun v H' => v = .bool true ∧ Fr [] H H' := by
  apply vc_law10_FilesCuts
  have hlen := hl.len
  have hlen2 := hl2.len
  refine ⟨fun vs H' => vs = [] ∧ ln ≤ 60 ∧ wts l ≤ 8192 ∧ mn ≤ 60 ∧ wts l2 ≤ 8192 ∧ Fr [] H H', heavy_ok hl fun hb hbn => brB_of (fun _ => shown_ok fun H' hf => ⟨rfl, hf⟩) (fun hbf => heavy_ok hl2 fun hb2 hbn2 => brB_of (fun _ => shown_ok fun H' hf => ⟨rfl, hf⟩) (fun hbf2 => shown_ok fun H' hf => brB_of (fun h => by simp at h) fun _ => ⟨rfl, (hbn hbf).1, (hbn hbf).2, (hbn2 hbf2).1, (hbn2 hbf2).2, hf⟩)), ?_⟩
  rintro J H1 ⟨_, hn60, hw, hm60, hw2, hf1⟩
  generalize hn8 : IntKind.i64.wrap (8 + Int.tmod (IntKind.i64.wrap n) 40) = n8
  refine W10.new (n := n8) hf1 fun d H2 hopen hf2 => hopen _ fun s H3 hw3 => ?_
  refine ⟨fun vs H' => vs = [] ∧ H' = H3, brB_of (fun h => by simp at h) fun _ => brB_of (fun h => by simp at h) fun _ => ⟨rfl, rfl⟩, ?_⟩
  rintro J2 H3' ⟨_, rfl⟩
  refine ⟨fun vs H' => match vs with | [.int _ i] => ∃ (j : Nat) (st : Sto) (m : Dk), i = j ∧ j ≤ ln ∧ W10 H [] H' s d st m (2000 * j) j ∧ Good st m (wts (l.take j)) j ∧ KI st m (wts (l.take j)) j | _ => False,
    fun vs _ => match vs with | [.int _ i] => ln - i.toNat | _ => 0, ⟨0, stoNew, newM n8, rfl, by omega, hw3, good_new n8, ki_new n8⟩, ?_⟩
  rintro J2 i H5 ⟨j, st, m, rfl, hj, h5, g5, k5⟩
  have hwl := wts_take l j
  refine brB_of (fun h0 => ?_) (fun h0 => ?_)
  · have h0' : j < ln := by simpa using h0
    obtain ⟨o, ho⟩ := getElem_ex (l := l) (i := j) (by omega)
    have hws := wts_snoc ho
    have hwl2 := wts_take l (j + 1)
    refine (hl.keep h5.fr).get rfl ho (by simp; omega) fun ad e hc => ⟨_, _, _, _, _, ld_many (by kernel_rfl) (by kernel_rfl) hc, ?_⟩
    refine change10_ok h5 (by omega) g5 (by omega) (by omega) fun H6 h6 g6 => ?_
    have k6 := k5.step o
    generalize stepM m.size st o = st6 at h6 g6 k6
    refine (hl.keep h6.fr).get rfl ho (by simp; omega) fun ad e hc => ⟨_, ld_part (j := 0) (by kernel_rfl) hc rfl, brB_of (fun k4 => ?_) (fun k4 => ⟨⟨j + 1, st6, m, succ64 (by omega), by omega, h6.mono (by omega) (by omega), g6.mono (by omega) (by omega), k6.mono (by omega) (by omega)⟩, mu_fin h0' (by omega)⟩)⟩
    obtain ⟨ys, hys, _⟩ := h6.names
    obtain ⟨e0, hsy, k7, hr7⟩ := (k6.mono (B' := wts (l.take j) + wt o) (by omega) (Nat.le_refl _)).sync g6 hys (by omega)
    refine h6.syncA (m0 := m) (by omega) g6 rfl g6.dk.keep (by omega) (by omega) (by omega) fun H7 h7 => ?_
    rw [e0]
    exact brB_of (fun h => by simp at h) fun _ => ⟨⟨j + 1, _, _, succ64 (by omega), by omega, h7.mono (by omega) (by omega), hsy.good.mono (by omega) (by omega), k7.mono (by omega) (by omega)⟩, mu_fin h0' (by omega)⟩
  -- the Sync that counts
  have hjn : j = ln := by simp at h0; omega
  subst hjn
  obtain ⟨ys, hys, _⟩ := h5.names
  obtain ⟨e0, hsy, k6, hr6⟩ := k5.sync g5 hys (by omega)
  refine h5.syncA (m0 := m) (by omega) g5 rfl g5.dk.keep (by omega) (by omega) (by omega) fun H6 h6 => ?_
  rw [e0]
  have g6 := hsy.good
  generalize syncM st m = x at h6 k6 hr6 g6
  obtain ⟨st0, m0, e⟩ := x
  simp only at h6 k6 hr6 g6
  clear e0 hsy
  refine brB_of (fun h => by simp at h) fun _ => named_ok h6 (by omega) fun a0 n0 c0 H7 ho7 hf7 => ?_
  obtain ⟨pr0, h7, hs7⟩ := h6.withOwn hf7 ho7
  have hn0 : n0 ≤ 1000000000 := by
    obtain ⟨ys, hy1, hy2⟩ := h6.names
    rw [ho7.1, namedL_len hy1]
    omega
  refine ⟨fun vs H' => match vs with | [.int _ i] => ∃ (k : Nat) (st : Sto), i = k ∧ k ≤ mn ∧ W10 H (pr0 ++ []) H' s d st m0 (2000 * j + 2000) (j + k) ∧ Good st m0 (wts (l.take j) + wts (l2.take k)) (j + 1) ∧ KI st m0 (wts (l.take j) + wts (l2.take k)) (j + 1) ∧ reop st = st0 | _ => False,
    fun vs _ => match vs with | [.int _ i] => mn - i.toNat | _ => 0, ⟨0, st0, rfl, by omega, h7.mono (by omega) (by omega), g6.mono (by omega) (by omega), k6.mono (by omega) (by omega), hr6⟩, ?_⟩
  rintro J3 i H8 ⟨k, st8, rfl, hk, h8, g8, k8, hr8⟩
  have hwk := wts_take l2 k
  refine brB_of (fun h0 => ?_) (fun h0 => ?_)
  · have h0' : k < mn := by simpa using h0
    obtain ⟨o, ho⟩ := getElem_ex (l := l2) (i := k) (by omega)
    have hws := wts_snoc ho
    have hwk2 := wts_take l2 (k + 1)
    refine (hl2.keep h8.fr).get rfl ho (by simp; omega) fun ad e hc => ⟨_, _, _, _, _, ld_many (by kernel_rfl) (by kernel_rfl) hc, ?_⟩
    refine change10_ok h8 (by omega) g8 (by omega) (by omega) fun H9 h9 g9 => ⟨⟨k + 1, _, succ64 (by omega), by omega, h9.mono (by omega) (by omega), g9.mono (by omega) (by omega), (k8.step o).mono (by omega) (by omega), ?_⟩, mu_fin h0' (by omega)⟩
    rw [← hr8]
    exact reop_eq (stepM_lasts _ _ _).1 (stepM_lasts _ _ _).2.1 (stepM_lasts _ _ _).2.2
  have hkn : k = mn := by simp at h0; omega
  refine named_ok h8 (by omega) fun a1 n1 c1 H9 ho9 hf9 => ?_
  obtain ⟨pr1, h9, hs9⟩ := h8.withOwn hf9 ho9
  obtain ⟨ys8, hys8, _⟩ := h8.names
  obtain ⟨hcode, st', k', hor⟩ := k8.cut g8 hys8 (by omega) at' hkp keep
  refine h9.cut hat fun H10 h10 => h10.syncA (m0 := m0) (by omega) g8 rfl hkp (by omega) (by omega) (by omega) fun H11 h11 => ?_
  generalize syncM st8 (cutM m0 at' keep) = x at h11 hcode k' hor
  obtain ⟨st11, m11, e11⟩ := x
  simp only at h11 hcode k' hor
  refine h11.crash (by omega) hkp fun H12 h12 => h12.power fun H13 h13 => h13.open (by omega) k' fun t H14 h14 => ?_
  refine ⟨fun vs H' => vs = [] ∧ H' = H14, brB_of (fun h => by simp at h) fun _ => brB_of (fun h => by simp at h) fun _ => brB_of (fun h => brB_of (fun h2 => ?_) (fun _ => ⟨rfl, rfl⟩)) (fun _ => ⟨rfl, rfl⟩), ?_⟩
  · exfalso
    have h' : e11 ≠ 0 := by simpa using h
    have h2' : e11 ≠ 90 := by simpa using h2
    rcases hcode with h | h
    · exact h' h
    · exact h2' h
  rintro J4 H14' ⟨_, rfl⟩
  refine named_ok h14 (by omega) fun a2 n2 c2 H15 ho15 hf15 => ?_
  have h15 := h14.keep hf15
  have hn15 : n2 ≤ 1000000000 := by
    obtain ⟨ys, hy1, hy2⟩ := h14.names
    rw [ho15.1, namedL_len hy1]
    omega
  have hs9' := hs9 H15 fun p hp => h15.pro p (by simp [hp])
  have hs7' := hs7 H15 fun p hp => h15.pro p (by simp [hp])
  refine ⟨fun vs H' => vs = [] ∧ H' = H15, same_ok ho15.sl hs9' hn15 (brB_of (fun hne => ?_) fun _ => ⟨rfl, rfl⟩), ?_⟩
  · have hne' : ¬ namedL (reop st').now = namedL st8.now := by simpa using hne
    rcases hor with h | ⟨he, hre⟩
    · exact absurd (by rw [h]) hne'
    · refine brB_of (fun h => absurd (by simpa using h) he) fun _ => same_ok ho15.sl hs7' hn15 ?_
      have : namedL (reop st').now = namedL st0.now := by rw [hre, hr8]
      rw [decide_eq_true this]
      exact brB_of (fun h => by simp at h) fun _ => ⟨rfl, rfl⟩
  rintro J5 H15' ⟨_, rfl⟩
  have gt : Good (reop st') (powerM (crashM keep m11)) (wts (l.take j) + wts (l2.take k)) (j + 1 + 1) := k'.good
  refine h15.sync (by omega) gt (by omega) (by omega) (by omega) fun st16 m16 H16 h16 hs16 => brB_of (fun _ => ?_) (fun h => by simp at h)
  generalize hz : (⟨#[122]⟩ : ByteArray) = Z
  refine h16.write (by omega) hs16.good (B' := wts (l.take j) + wts (l2.take k)) (Nat.le_refl _) (by omega) (by subst hz; decide) (Nat.zero_le _) fun H17 h17 g17 => ⟨?_, h17.fr⟩
  have := writeS_not90 m16.size st16 Z ⟨#[]⟩
  simp [this]
end Go.Proofs
set_option linter.unusedVariables false
open Go Go.GV
namespace Go.Proofs.Ytgjbljhocedpfaa
open Go.ChangeShapes Go.WideShapes Go.ChangeAt Go.RowKit
theorem keepsWalk (H : Heap) (vs : List Value) (h : OkArgs Try.prog H [5, 22, 31] vs) : CallH Try.prog 5 ⟨vs⟩ H fun v H' => v = .bool true ∧ Fr [] H H' := by
  obtain ⟨v0, _, rfl, h0, v1, _, rfl, h1, v2, _, rfl, h2, rfl⟩ := h
  obtain ⟨x, rfl, hx⟩ := h0.int Try.underlying5
  obtain ⟨a, n, c, xs, rfl, hs, hf⟩ := steps_in h1
  obtain ⟨k, rfl, hk⟩ := h2.int Try.underlying31
  exact Keeps_ok hs (fun o ho => (hf o ho).2) (wf_u64 hk)
theorem cutsWalk (H : Heap) (vs : List Value) (h : OkArgs Try.prog H [5, 22, 22, 3, 31] vs) : CallH Try.prog 7 ⟨vs⟩ H fun v H' => v = .bool true ∧ Fr [] H H' := by
  obtain ⟨v0, _, rfl, h0, v1, _, rfl, h1, v2, _, rfl, h2, v3, _, rfl, h3, v4, _, rfl, h4, rfl⟩ := h
  obtain ⟨x, rfl, hx⟩ := h0.int Try.underlying5
  obtain ⟨a, n, c, xs, rfl, hs, hf⟩ := steps_in h1
  obtain ⟨a2, n2, c2, xs2, rfl, hs2, hf2⟩ := steps_in h2
  obtain ⟨t, rfl, ht⟩ := h3.int Try.underlying3
  obtain ⟨k, rfl, hk⟩ := h4.int Try.underlying31
  exact Cuts_ok hs hs2 (wf_i64 ht) (wf_u64 hk)
end Go.Proofs.Ytgjbljhocedpfaa
