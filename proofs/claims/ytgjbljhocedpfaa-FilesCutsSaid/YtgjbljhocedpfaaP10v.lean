/- A part of a proof: see the last text of this claim. -/
import Derived.Test.YtgjbljhocedpfaaL10e
set_option linter.unusedVariables false
set_option maxRecDepth 100000
open Go Go.GV
namespace Go.Proofs

theorem sl_list {α : Type} (E : Enc α) {H H' : Heap} {b : Nat} {vs : List Value} {t : TypeId} (xs : List α) (h : New H b (.cells ⟨vs⟩ t) H') (hv : vs = xs.flatMap E.cells) : Sl E H' (some ⟨b, 0, none⟩) xs.length xs.length xs := by
  refine ⟨rfl, Nat.le_refl _, .inr ⟨b, 0, rfl, fun i y hy j v hj => ?_⟩⟩
  rw [cell_of_blk h.get, hv]
  have := flatMap_get E xs i y hy j v hj
  simpa using this
theorem SetI.len {H : Heap} {r : Nat} {T : Int → Prop} (h : SetI H r T) : ∃ ks : List Int, ks.Nodup ∧ (∀ k, k ∈ ks ↔ T k) ∧ ∀ ty, Rd Try.prog (Builtin.len_ ⟨[82]⟩ ty ⟨[.map (some r)]⟩) H (.int .i64 ks.length) := by
  obtain ⟨ck, L, hm, hk⟩ := h
  refine ⟨L.map (·.1), hm.wf.keys, fun k => ?_, fun ty => by rw [List.length_map]; exact len_map MT Try.underlying82 hm⟩
  have h2 := getL_none_iff (k := k) (L := L)
  rcases hk k with ⟨h3, h4⟩ | ⟨h3, h4⟩
  · refine ⟨fun _ => h3, fun _ => Classical.byContradiction fun hn => ?_⟩
    rw [h2.2 hn] at h4; cases h4
  · exact ⟨fun h => absurd h (h2.1 h4), fun h => absurd h h3⟩
theorem NowR.ex {H : Heap} {r N : Nat} {now : ByteArray → Option ByteArray} (h : NowR H r now N) : ∃ ys, namesOf now ys ∧ ys.length ≤ N := by
  obtain ⟨cnt, _, hle, hc⟩ := h.len
  obtain ⟨ck, L, hm, hl, hgt⟩ := h
  have hks : ∀ k, k ∈ L.map (·.1) ↔ (now k).isSome := fun k => by
    have h1 := hgt k
    have h2 := getL_none_iff (k := k) (L := L)
    cases hn : now k with
    | none => rw [hn] at h1; simp only [Option.isSome_none, Bool.false_eq_true, iff_false]; exact h2.1 h1
    | some v =>
      rw [hn] at h1
      simp only [Option.isSome_some, iff_true]
      refine Classical.byContradiction fun h => ?_
      rw [h2.2 h] at h1; cases h1
  have hs2 := keys_sorted (L := L) (xs := L.map (·.1)) (ys := ((L.map (·.1)).map bl).mergeSort (fun x y => decide (x ≤ y)) |>.map fun l => (⟨l.toArray⟩ : ByteArray)) ⟨hm.wf.keys, fun y => by simp⟩ (by
    rw [List.map_map]
    have : (bl ∘ fun l : List UInt8 => (⟨l.toArray⟩ : ByteArray)) = id := by funext l; simp [bl]
    rw [this, List.map_id])
  have hy : namesOf now (((L.map (·.1)).map bl).mergeSort (fun x y => decide (x ≤ y)) |>.map fun l => (⟨l.toArray⟩ : ByteArray)) := ⟨hs2.1, fun y => by rw [hs2.2, ← hks y]; simp⟩
  exact ⟨_, hy, by rw [hc _ hy]; exact hle⟩

noncomputable def freeV (st : Sto) (m : Dk) : Int := (freeN (lastS st.last st.dir) m.size.toNat).length - (planN m.size st st.now).tk.need
theorem Free_ok {s d : Addr} {rn rl : Nat} {a : Option Addr} {n c : Nat} {Q Sd : List Nat} {st : Sto} {m : Dk} {N M : Nat} {H : Heap} {B G : Nat} {K : Int → Heap → Prop} (h : SL H s d rn rl a n c Q Sd st m N M) (hM : M ≤ 1000) (hg : Good st m B G) (hB : B ≤ 1000000)
    (hk : ∀ H', SL H' s d rn rl a n c Q Sd st m N M → Fr [] H H' → K (freeV st m) H') :
    CallH Try.prog 27 ⟨[.pointer (some s)]⟩ H fun v H' => ∃ n, v = .int .i64 n ∧ K n H' := by
  apply vc_files_Store_Free
  have hpb := hg.plb hB (now := st.now) fun y d e => ⟨(hg.now y d e).1, by have := (hg.now y d e).2; omega⟩
  refine ⟨some d, h.blk.ld0 (by kernel_rfl) rfl, some rn, h.blk.ld (by kernel_rfl) rfl, Size_ok h.dk ⟨h.blk.ld (by kernel_rfl) rfl, ?_⟩⟩
  have hdl := h.dir.len
  refine CallH.mono (lasting_ok (K := fun r H' => SetI H' r (lastS st.last st.dir) ∧ Fr [] H H') h.blk rfl rfl h.last h.dir (by have := hg.dir; omega) (fun nm dd xs e => by have := (hpb.last nm dd xs e); have := nCh_le this.2; omega) fun r H' h1 _ h2 => ⟨h1, h2⟩) fun v H1 => ?_
  rintro ⟨_, rfl, r, rfl, hset, hf1⟩
  obtain ⟨ks, hnd, hks, hlen⟩ := hset.len
  have h1 := h.keep hf1
  refine ⟨some r, rfl, h1.blk.ld (by kernel_rfl) rfl, ks.length, hlen _, planned_ok h1 h1.now hM hpb fun ys pa pn pc rp da dn dc H2 Qp hys _ _ _ _ _ _ _ hf2 _ _ => ?_⟩
  refine ⟨_, rfl, ?_⟩
  have hpe : planN m.size st st.now = planM m.size st.last st.dir st.now ys := by unfold planN; rw [namesL_eq hys]
  rw [← hpe]
  have hcount := freeN_count hnd hks (n := m.size.toNat) fun k hk => by have := hg.rng k hk; have := hg.sz; omega
  have hpo := hg.planOk hg.fits
  have hne := hpo.need
  have hpl := hpo.len hg.sz.2
  have hsz := hg.sz
  have e : IntKind.i64.wrap (IntKind.i64.wrap (IntKind.i64.wrap (m.size - 2) - (ks.length : Int)) - ((planN m.size st st.now).tk.need : Int)) = freeV st m := by
    rw [wrap64_of (n := m.size - 2) (by omega) (by omega), wrap64_of (n := m.size - 2 - (ks.length : Int)) (by omega) (by omega), wrap64_of (by omega) (by omega)]
    unfold freeV
    omega
  rw [e]
  exact hk H2 (h1.keep hf2) (hf1.keep0 hf2)

/-! a store of one's own -/
structure W10 (H0 : Heap) (pr : List (Nat × Obj)) (H : Heap) (s d : Addr) (st : Sto) (m : Dk) (N M : Nat) : Prop where
  it : ∃ rn rl a n c Q Sd, SL H s d rn rl a n c Q Sd st m N M ∧ H0.size ≤ s.block ∧ (∀ k ∈ Sd, H0.size ≤ k) ∧ ∀ p ∈ pr, p.1 ≠ s.block ∧ p.1 ∉ Sd
  fr : Fr [] H0 H
  pro : ∀ p ∈ pr, H[p.1]? = some p.2
theorem pro_fr {pr : List (Nat × Obj)} {H H' : Heap} {T : List Nat} (h : ∀ p ∈ pr, H[p.1]? = some p.2) (hf : Fr T H H') (hn : ∀ p ∈ pr, p.1 ∉ T) : ∀ p ∈ pr, H'[p.1]? = some p.2 := fun p hp => hf.get (h p hp) (hn p hp)
theorem W10.keep {H0 H H' : Heap} {pr : List (Nat × Obj)} {s d : Addr} {st : Sto} {m : Dk} {N M : Nat} (h : W10 H0 pr H s d st m N M) (hf : Fr [] H H') : W10 H0 pr H' s d st m N M := by
  obtain ⟨⟨rn, rl, a, n, c, Q, Sd, hs, h1, h2, h3⟩, hfr, hpr⟩ := h
  exact ⟨⟨rn, rl, a, n, c, Q, Sd, hs.keep hf, h1, h2, h3⟩, hfr.keep0 hf, pro_fr hpr hf (by simp)⟩
theorem W10.prot {H0 H1 H : Heap} {pr : List (Nat × Obj)} {s d : Addr} {st : Sto} {m : Dk} {N M b : Nat} {o : Obj} (h : W10 H0 pr H1 s d st m N M) (hf : Fr [] H1 H) (hb : H[b]? = some o) (hl : H1.size ≤ b) : W10 H0 ((b, o) :: pr) H s d st m N M := by
  obtain ⟨⟨rn, rl, a, n, c, Q, Sd, hs, h1, h2, h3⟩, hfr, hpr⟩ := h
  refine ⟨⟨rn, rl, a, n, c, Q, Sd, hs.keep hf, h1, h2, fun p hp => ?_⟩, hfr.keep0 hf, fun p hp => ?_⟩
  · rcases List.mem_cons.1 hp with rfl | hp
    · have := hs.blk.lt
      exact ⟨by simp only; omega, fun hh => by have := hs.dk.inS _ hh; simp only at this; omega⟩
    · exact h3 p hp
  · rcases List.mem_cons.1 hp with rfl | hp
    · exact hb
    · exact pro_fr hpr hf (by simp) p hp
theorem W10.drop {H0 H : Heap} {pr pr' : List (Nat × Obj)} {s d : Addr} {st : Sto} {m : Dk} {N M : Nat} (h : W10 H0 pr H s d st m N M) (hs : ∀ p ∈ pr', p ∈ pr) : W10 H0 pr' H s d st m N M := by
  obtain ⟨⟨rn, rl, a, n, c, Q, Sd, hs', h1, h2, h3⟩, hfr, hpr⟩ := h
  exact ⟨⟨rn, rl, a, n, c, Q, Sd, hs', h1, h2, fun p hp => h3 p (hs p hp)⟩, hfr, fun p hp => hpr p (hs p hp)⟩
/-- A block that is known stays known. -/
theorem W10.withBlk {H0 H1 H : Heap} {pr : List (Nat × Obj)} {s d : Addr} {st : Sto} {m : Dk} {N M b : Nat} {vs : List Value} (h : W10 H0 pr H1 s d st m N M) (hf : Fr [] H1 H) (hb : Blk H ⟨b, 0, none⟩ vs) (hl : H1.size ≤ b) :
    ∃ o, W10 H0 ((b, o) :: pr) H s d st m N M ∧ ∀ H', H'[b]? = some o → Blk H' ⟨b, 0, none⟩ vs := by
  obtain ⟨b', te, e, hh⟩ := hb
  cases e
  exact ⟨_, h.prot hf hh hl, fun H' h' => ⟨b, te, rfl, h'⟩⟩
theorem W10.withOwn {α : Type} {E : Enc α} {t : TypeId} {H0 H1 H : Heap} {pr : List (Nat × Obj)} {s d : Addr} {st : Sto} {m : Dk} {N M n c : Nat} {a : Option Addr} {xs : List α} (h : W10 H0 pr H1 s d st m N M) (hf : Fr [] H1 H) (ho : Own E t H1.size H a n c xs) :
    ∃ pr', W10 H0 (pr' ++ pr) H s d st m N M ∧ ∀ H', (∀ p ∈ pr', H'[p.1]? = some p.2) → Sl E H' a n c xs := by
  obtain ⟨hl, hx⟩ := id ho
  rcases hx with ⟨rfl, rfl, rfl⟩ | ⟨b, cur, rfl, hb, hh, r⟩
  · exact ⟨[], h.keep hf, fun H' _ => (show Own E t H1.size H' none 0 0 xs from ⟨hl, .inl ⟨rfl, rfl, rfl⟩⟩).sl⟩
  · exact ⟨[(b, _)], h.prot hf hh hb, fun H' h' => (show Own E t H1.size H' _ n c xs from ⟨hl, .inr ⟨b, cur, rfl, hb, h' (b, _) List.mem_cons_self, r⟩⟩).sl⟩
theorem W10.names {H0 H : Heap} {pr : List (Nat × Obj)} {s d : Addr} {st : Sto} {m : Dk} {N M : Nat} (h : W10 H0 pr H s d st m N M) : ∃ ys, namesOf st.now ys ∧ ys.length ≤ M := by
  obtain ⟨⟨rn, rl, a, n, c, Q, Sd, hs, h1, h2, h3⟩, hfr, hpr⟩ := h
  exact hs.now.ex
theorem W10.gen {H0 H : Heap} {pr : List (Nat × Obj)} {s d : Addr} {st : Sto} {m : Dk} {N M : Nat} {K : Int → Heap → Prop} (h : W10 H0 pr H s d st m N M) (hk : K st.gen H) : CallH Try.prog 24 ⟨[.pointer (some s)]⟩ H fun v H' => ∃ n, v = .int .i64 n ∧ K n H' := by
  obtain ⟨⟨rn, rl, a, n, c, Q, Sd, hs, h1, h2, h3⟩, hfr, hpr⟩ := h
  exact Gen_ok hs hk
theorem W10.calls {H0 H : Heap} {pr : List (Nat × Obj)} {s d : Addr} {st : Sto} {m : Dk} {N M : Nat} {K : Int → Heap → Prop} (h : W10 H0 pr H s d st m N M) (hk : K m.calls H) : CallH Try.prog 25 ⟨[.pointer (some d)]⟩ H fun v H' => ∃ n, v = .int .i64 n ∧ K n H' := by
  obtain ⟨⟨rn, rl, a, n, c, Q, Sd, hs, h1, h2, h3⟩, hfr, hpr⟩ := h
  exact Calls_ok hs.dk hk
theorem W10.read {H0 H : Heap} {pr : List (Nat × Obj)} {s d : Addr} {st : Sto} {m : Dk} {N M : Nat} {name : ByteArray} {K : ByteArray → Bool → Heap → Prop} (h : W10 H0 pr H s d st m N M) (hk : K ((st.now name).getD ⟨#[]⟩) (st.now name).isSome H) :
    CallH Try.prog 17 ⟨[.pointer (some s), .string name]⟩ H fun v H' => ∃ t b, v = .tuple ⟨[.string t, .bool b]⟩ ∧ K t b H' := by
  obtain ⟨⟨rn, rl, a, n, c, Q, Sd, hs, h1, h2, h3⟩, hfr, hpr⟩ := h
  exact Read10_ok hs hk
theorem W10.free {H0 H : Heap} {pr : List (Nat × Obj)} {s d : Addr} {st : Sto} {m : Dk} {N M B G : Nat} {K : Int → Heap → Prop} (h : W10 H0 pr H s d st m N M) (hM : M ≤ 1000) (hg : Good st m B G) (hB : B ≤ 1000000) (hk : ∀ H', W10 H0 pr H' s d st m N M → K (freeV st m) H') :
    CallH Try.prog 27 ⟨[.pointer (some s)]⟩ H fun v H' => ∃ n, v = .int .i64 n ∧ K n H' := by
  obtain ⟨⟨rn, rl, a, n, c, Q, Sd, hs, h1, h2, h3⟩, hfr, hpr⟩ := h
  exact Free_ok hs hM hg hB fun H' h' hf => hk H' ⟨⟨rn, rl, a, n, c, Q, Sd, h', h1, h2, h3⟩, hfr.keep0 hf, pro_fr hpr hf (by simp)⟩
theorem W10.sync {H0 H : Heap} {pr : List (Nat × Obj)} {s d : Addr} {st : Sto} {m : Dk} {N M B G : Nat} {K : Int → Heap → Prop} (h : W10 H0 pr H s d st m N M) (hM : M ≤ 1000) (hg : Good st m B G) (hB : B ≤ 1000000) (hG : G + 1 ≤ 1000000000) (hN : N + 2000 ≤ 1000000)
    (hk : ∀ st' m' H', W10 H0 pr H' s d st' m' (N + 2000) M → Synced st m st' m' B G → K 0 H') :
    CallH Try.prog 16 ⟨[.pointer (some s)]⟩ H fun v H' => ∃ n, v = .int .i64 n ∧ K n H' := by
  obtain ⟨ys, hys, _⟩ := h.names
  obtain ⟨⟨rn, rl, a, n, c, Q, Sd, hs, h1, h2, h3⟩, hfr, hpr⟩ := h
  have hpb := hg.plb hB (now := st.now) fun y d e => ⟨(hg.now y d e).1, by have := (hg.now y d e).2; omega⟩
  have hpo := hg.planOk hg.fits
  obtain ⟨e0, hsy⟩ := good_sync hg hys hG
  refine Sync_ok hs hM hpb (by have := hg.gen; omega) hg.dk.keep (hpo.len hg.sz.2) (by have := hpo.dirD; omega) (by have := hpo.k20; omega) hN fun rl' a' n' c' Q' Sd' H' h' hf hgr => ?_
  rw [e0]
  refine hk _ _ H' ⟨⟨rn, rl', a', n', c', Q', Sd', h', h1, fun k hk' => ?_, fun p hp => ⟨(h3 p hp).1, fun hh => ?_⟩⟩, ?_, pro_fr hpr hf fun p hp => by simp only [List.mem_cons, not_or]; exact h3 p hp⟩ hsy
  · rcases hgr k hk' with h | h
    · exact h2 k h
    · have := hfr.size; omega
  · rcases hgr _ hh with h | h
    · exact (h3 p hp).2 h
    · have := lt_of_get (hpr p hp); omega
  · refine hfr.keep hf fun k hk' => ?_
    rcases List.mem_cons.1 hk' with rfl | hk'
    · exact h1
    · exact h2 k hk'
theorem W10.write {H0 H : Heap} {pr : List (Nat × Obj)} {s d : Addr} {st : Sto} {m : Dk} {N M B B' G : Nat} {name data : ByteArray} {K : Int → Heap → Prop} (h : W10 H0 pr H s d st m N M) (hM : M + 1 ≤ 1000) (hg : Good st m B G) (hBB : B ≤ B') (hB : B' ≤ 1000000) (hn : name.size ≤ 1000000) (hd : data.size ≤ B')
    (hk : ∀ H', W10 H0 pr H' s d (writeS m.size st name data).1 m N (M + 1) → Good (writeS m.size st name data).1 m B' G → K (writeS m.size st name data).2 H') :
    CallH Try.prog 13 ⟨[.pointer (some s), .string name, .string data]⟩ H fun v H' => ∃ n, v = .int .i64 n ∧ K n H' := by
  obtain ⟨⟨rn, rl, a, n, c, Q, Sd, hs, h1, h2, h3⟩, hfr, hpr⟩ := h
  have hg' := hg.mono hBB (Nat.le_refl G)
  have hnow : rightP name → ∀ y d, putN st.now name data y = some d → rightP y ∧ d.size ≤ B' := fun hr y dd e => by
    unfold putN at e
    split at e
    · rename_i hy; cases e; subst hy; exact ⟨hr, hd⟩
    · exact hg'.now y dd e
  refine Write10_ok hs hM hn (fun hr => hg'.plb hB fun y dd e => ⟨(hnow hr y dd e).1, by have := (hnow hr y dd e).2; omega⟩) fun rn' H' h' hf => hk H' ⟨⟨rn', rl, a, n, c, Q, Sd, h', h1, h2, h3⟩, hfr.keep hf (by simpa using h1), pro_fr hpr hf fun p hp => by simpa using (h3 p hp).1⟩ ?_
  unfold writeS
  split
  · rename_i hr; exact hg'.change (hnow hr)
  · exact hg'
theorem W10.append {H0 H : Heap} {pr : List (Nat × Obj)} {s d : Addr} {st : Sto} {m : Dk} {N M B B' G : Nat} {name data : ByteArray} {K : Int → Heap → Prop} (h : W10 H0 pr H s d st m N M) (hM : M + 1 ≤ 1000) (hg : Good st m B G) (hBB : B + data.size ≤ B') (hB : B' ≤ 1000000) (hn : name.size ≤ 1000000)
    (hk : ∀ H', W10 H0 pr H' s d (writeS m.size st name ((st.now name).getD ⟨#[]⟩ ++ data)).1 m N (M + 1) → Good (writeS m.size st name ((st.now name).getD ⟨#[]⟩ ++ data)).1 m B' G → K (writeS m.size st name ((st.now name).getD ⟨#[]⟩ ++ data)).2 H') :
    CallH Try.prog 14 ⟨[.pointer (some s), .string name, .string data]⟩ H fun v H' => ∃ n, v = .int .i64 n ∧ K n H' := by
  obtain ⟨⟨rn, rl, a, n, c, Q, Sd, hs, h1, h2, h3⟩, hfr, hpr⟩ := h
  have hg' := hg.mono (B' := B') (by omega) (Nat.le_refl G)
  have hsz : ((st.now name).getD ⟨#[]⟩).size ≤ B := by
    cases hn : st.now name with
    | none => simp [ByteArray.size]
    | some v => exact (hg.now name v hn).2
  have hd : ((st.now name).getD ⟨#[]⟩ ++ data).size ≤ B' := by
    rw [← bl_len, bl_app, List.length_append, bl_len, bl_len]; omega
  have hnow : rightP name → ∀ y d, putN st.now name ((st.now name).getD ⟨#[]⟩ ++ data) y = some d → rightP y ∧ d.size ≤ B' := fun hr y dd e => by
    unfold putN at e
    split at e
    · rename_i hy; cases e; subst hy; exact ⟨hr, hd⟩
    · exact hg'.now y dd e
  refine Append10_ok hs hM hn (by omega) (fun hr => hg'.plb hB fun y dd e => ⟨(hnow hr y dd e).1, by have := (hnow hr y dd e).2; omega⟩) fun rn' H' h' hf => hk H' ⟨⟨rn', rl, a, n, c, Q, Sd, h', h1, h2, h3⟩, hfr.keep hf (by simpa using h1), pro_fr hpr hf fun p hp => by simpa using (h3 p hp).1⟩ ?_
  unfold writeS
  split
  · rename_i hr; exact hg'.change (hnow hr)
  · exact hg'
theorem W10.delete {H0 H : Heap} {pr : List (Nat × Obj)} {s d : Addr} {st : Sto} {m : Dk} {N M B G : Nat} {name : ByteArray} {K : Int → Heap → Prop} (h : W10 H0 pr H s d st m N M) (hM : M + 1 ≤ 1000) (hg : Good st m B G) (hB : B ≤ 1000000) (hn : name.size ≤ 1000000)
    (hk : ∀ H', W10 H0 pr H' s d (deleteS m.size st name).1 m N (M + 1) → Good (deleteS m.size st name).1 m B G → K (deleteS m.size st name).2 H') :
    CallH Try.prog 15 ⟨[.pointer (some s), .string name]⟩ H fun v H' => ∃ n, v = .int .i64 n ∧ K n H' := by
  obtain ⟨⟨rn, rl, a, n, c, Q, Sd, hs, h1, h2, h3⟩, hfr, hpr⟩ := h
  have hnow : ∀ y d, delN st.now name y = some d → rightP y ∧ d.size ≤ B := fun y dd e => by
    unfold delN at e
    split at e
    · cases e
    · exact hg.now y dd e
  refine Delete10_ok hs hM hn (hg.plb hB fun y dd e => ⟨(hnow y dd e).1, by have := (hnow y dd e).2; omega⟩) fun rn' H' h' hf => hk H' ⟨⟨rn', rl, a, n, c, Q, Sd, h', h1, h2, h3⟩, hfr.keep hf (by simpa using h1), pro_fr hpr hf fun p hp => by simpa using (h3 p hp).1⟩ ?_
  unfold deleteS
  split
  · split
    · exact hg.change hnow
    · exact hg
  · exact hg
theorem W10.rename {H0 H : Heap} {pr : List (Nat × Obj)} {s d : Addr} {st : Sto} {m : Dk} {N M B G : Nat} {from' to : ByteArray} {K : Int → Heap → Prop} (h : W10 H0 pr H s d st m N M) (hM : M + 1 ≤ 1000) (hg : Good st m B G) (hB : B ≤ 1000000) (hn : from'.size ≤ 1000000) (hn2 : to.size ≤ 1000000)
    (hk : ∀ H', W10 H0 pr H' s d (renameS m.size st from' to).1 m N (M + 1) → Good (renameS m.size st from' to).1 m B G → K (renameS m.size st from' to).2 H') :
    CallH Try.prog 20 ⟨[.pointer (some s), .string from', .string to]⟩ H fun v H' => ∃ n, v = .int .i64 n ∧ K n H' := by
  obtain ⟨⟨rn, rl, a, n, c, Q, Sd, hs, h1, h2, h3⟩, hfr, hpr⟩ := h
  have hsz : ((st.now from').getD ⟨#[]⟩).size ≤ B := by
    cases hn : st.now from' with
    | none => simp [ByteArray.size]
    | some v => exact (hg.now from' v hn).2
  have hnow : rightP to → ∀ y d, putN (delN st.now from') to ((st.now from').getD ⟨#[]⟩) y = some d → rightP y ∧ d.size ≤ B := fun hr y dd e => by
    unfold putN delN at e
    split at e
    · rename_i hy; cases e; subst hy; exact ⟨hr, hsz⟩
    · split at e
      · cases e
      · exact hg.now y dd e
  refine Rename10_ok hs hM hn hn2 (fun hr => hg.plb hB fun y dd e => ⟨(hnow hr y dd e).1, by have := (hnow hr y dd e).2; omega⟩) fun rn' H' h' hf => hk H' ⟨⟨rn', rl, a, n, c, Q, Sd, h', h1, h2, h3⟩, hfr.keep hf (by simpa using h1), pro_fr hpr hf fun p hp => by simpa using (h3 p hp).1⟩ ?_
  unfold renameS
  split
  · rename_i hr
    split
    · exact hg.change (hnow hr.2)
    · exact hg
  · exact hg
/-- A fresh store of a fresh disk. -/
theorem rdM_new (n i : Int) : (rdM (newM n) i).1 = ⟨#[]⟩ := by
  unfold rdM newM
  simp only [Bool.false_eq_true, if_false]
  (repeat' split) <;> rfl
theorem W10.new {H0 H : Heap} {n : Int} {K : Option Addr → Heap → Prop} (hf : Fr [] H0 H) (hk : ∀ d H', (∀ K' : Option Addr → Int → Heap → Prop, (∀ s H'', W10 H0 [] H'' s d stoNew (newM n) 0 0 → K' (some s) 0 H'') → CallH Try.prog 11 ⟨[.pointer (some d)]⟩ H' fun v H' => ∃ a e, v = .tuple ⟨[.pointer a, .int .i64 e]⟩ ∧ K' a e H') → Fr [] H0 H' → K (some d) H') :
    CallH Try.prog 12 ⟨[.int .i64 n]⟩ H fun v H' => ∃ a, v = .pointer a ∧ K a H' := by
  refine New_ok fun b H1 S hS hd hf1 => hk ⟨b, 0, none⟩ H1 (fun K' hK' => ?_) (hf.keep0 hf1)
  refine Open_fresh hd (by omega) rfl (fun i h1 h2 => rdM_new n i) fun s rn rl H2 hs hsl hf2 => hK' s H2 ⟨⟨rn, rl, none, 0, 0, [], S, hsl, ?_, fun k hk => ?_, by simp⟩, (hf.keep0 hf1).keep0 hf2, by simp⟩
  · have := (hf.keep0 hf1).size; omega
  · have := hS k hk; have := hf.size; omega
theorem size_new (n : Int) : 8 ≤ (newM n).size ∧ (newM n).size ≤ 512 := by
  unfold newM
  simp only
  split <;> split <;> omega
theorem fits_one {size : Int} (h : 8 ≤ size) : (planM size (fun _ => none) [] (fun _ => none) []).fits = true := by
  unfold planM
  simp only [filesM]
  have hd : dirB [] = uintL 0 := by simp [dirB]
  have h1 : uintL 0 = [0] := uintL_small (by decide)
  have hroom := freeN_room (T := lastS (fun _ => none) []) (n := size.toNat) (L := []) fun k hk => by
    rcases hk with h | ⟨_, _, _, h, _⟩
    · exact h
    · cases h
  have hc : (chunksS (⟨(dirB []).toArray⟩ : ByteArray)).length = 1 := by rw [chunksS_len, mk_size, hd, h1]; rfl
  have := takesM_room (chunksS (⟨(dirB []).toArray⟩ : ByteArray)) { free := freeN (lastS (fun _ => none) []) size.toNat, puts := [], need := 0, fits := true } rfl (by rw [hc]; simp only [List.length_nil] at hroom ⊢; omega)
  have e : ∀ (b1 : Bool) (n1 : Nat), b1 = true → n1 = 1 → (b1 && decide (n1 ≤ 20) && decide ((((([] : List (ByteArray × ByteArray × List Int)).map fun f => f.2.2.length).sum : Nat) : Int) + 2 * n1 ≤ size - 2)) = true := by
    rintro b1 n1 rfl rfl
    simp; omega
  exact e _ _ this.1 (by rw [takesM_len, hc])
theorem names_none : namesOf (fun _ => none) [] := ⟨by simp, fun y => by simp⟩
theorem good_new (n : Int) : Good stoNew (newM n) 0 0 := by
  refine ⟨⟨rfl, rfl, ⟨Int.le_refl _, (by decide : (0:Int) < 18446744073709551616)⟩⟩, size_new n, rfl, ?_, fun y d e => (by cases e), fun nm d xs e => (by cases e), fun k hk => ?_, ⟨Int.le_refl _, Int.le_refl _⟩, by simp [stoNew]⟩
  · unfold planN
    show (planM (newM n).size (fun _ => none) [] (fun _ => none) (namesL fun _ => none)).fits = true
    rw [namesL_eq names_none]
    exact fits_one (size_new n).1
  · rcases hk with h | ⟨_, _, _, h, _⟩
    · simp [stoNew] at h
    · cases h
end Go.Proofs
