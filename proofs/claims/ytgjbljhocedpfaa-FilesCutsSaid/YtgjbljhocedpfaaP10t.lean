/- A part of a proof: see the last text of this claim. -/
import Derived.Test.YtgjbljhocedpfaaP10s
set_option linter.unusedVariables false
set_option maxRecDepth 100000
open Go Go.GV
namespace Go.Proofs

theorem LastR.mono {H : Heap} {r : Nat} {Q Q' : List Nat} {last : ByteArray → Option (ByteArray × List Int)} (h : LastR H r Q last) (hq : ∀ k ∈ Q, k ∈ Q') : LastR H r Q' last := by
  obtain ⟨ck, L, hm, he, hn⟩ := h
  refine ⟨ck, L, hm, fun x hx => ?_, hn⟩
  obtain ⟨d, a, n, c, xs, e, hs, hq', hl⟩ := he x hx
  exact ⟨d, a, n, c, xs, e, hs, fun k hk => hq k (hq' k hk), hl⟩
theorem LastR.len {H : Heap} {r : Nat} {Q : List Nat} {last : ByteArray → Option (ByteArray × List Int)} (h : LastR H r Q last) :
    ∃ cnt : Nat, (∀ ty, Rd Try.prog (Builtin.len_ ⟨[52]⟩ ty ⟨[.map (some r)]⟩) H (.int .i64 cnt)) ∧ ∃ ks : List ByteArray, ks.Nodup ∧ ks.length = cnt ∧ ∀ y, y ∈ ks ↔ (last y).isSome := by
  obtain ⟨ck, L, hm, he, hn⟩ := h
  refine ⟨L.length, fun ty => len_map SM Try.underlying52 hm, L.map (·.1), hm.wf.keys, by simp, fun y => ?_⟩
  have h2 := getL_none_iff (k := y) (L := L)
  constructor
  · intro hy
    obtain ⟨x, hx, rfl⟩ := List.mem_map.1 hy
    obtain ⟨d, a, n, c, xs, e, hs, hq', hl⟩ := he x hx
    rw [hl]; rfl
  · intro hy
    refine Classical.byContradiction fun h => ?_
    rw [hn y (h2.2 h)] at hy; cases hy
/-- What is there is what lasts. -/
def sameP (st : Sto) : Prop := ∀ y, st.now y = (st.last y).map (·.1)
theorem names_nodup {now : ByteArray → Option ByteArray} {ys : List ByteArray} (h : namesOf now ys) : ys.Nodup := by
  rw [List.nodup_iff_pairwise_ne]
  have := h.1
  rw [List.pairwise_map] at this
  exact this.imp fun h e => by rw [e] at h; exact (List.lt_irrefl _) h
theorem nodup_sub {α : Type} [DecidableEq α] : ∀ (l k : List α), l.Nodup → (∀ x ∈ l, x ∈ k) → l.length ≤ k.length
  | [], _, _, _ => Nat.zero_le _
  | x :: l, k, h, hs => by
    have h' := List.nodup_cons.1 h
    have hx := hs x (by simp)
    have := nodup_sub l (k.erase x) h'.2 fun y hy => by
      have hne : y ≠ x := fun e => h'.1 (by rw [← e]; exact hy)
      exact (List.mem_erase_of_ne hne).2 (hs y (by simp [hy]))
    rw [List.length_erase_of_mem hx] at this
    have : 0 < k.length := List.length_pos_of_mem hx
    simp only [List.length_cons]; omega
theorem same_iff {st : Sto} {ys ks : List ByteArray} (hy : namesOf st.now ys) (hk : ks.Nodup) (hm : ∀ y, y ∈ ks ↔ (st.last y).isSome) : (ys.length = ks.length ∧ ys.any (differs st) = false) ↔ sameP st := by
  have hnd := names_nodup hy
  constructor
  · rintro ⟨h1, h2⟩ y
    rw [List.any_eq_false] at h2
    have hd : ∀ y ∈ ys, (st.last y).isSome = true ∧ ((st.last y).getD (⟨#[]⟩, [])).1 = (st.now y).getD ⟨#[]⟩ := fun y hy => by
      have := h2 y hy
      unfold differs at this
      simp only [Bool.or_eq_true, not_or, Bool.not_eq_true', Bool.not_eq_false, beq_iff_eq] at this
      exact ⟨this.1, bl_inj this.2⟩
    by_cases hyy : y ∈ ys
    · obtain ⟨h3, h4⟩ := hd y hyy
      have h5 := (hy.2 y).1 hyy
      cases hl : st.last y with
      | none => rw [hl] at h3; cases h3
      | some v =>
        cases hn : st.now y with
        | none => rw [hn] at h5; cases h5
        | some w =>
          rw [hl, hn] at h4
          simp only [Option.getD_some] at h4
          rw [← h4]; rfl
    · have h5 : st.now y = none := by
        cases hn : st.now y with
        | none => rfl
        | some w => exact absurd ((hy.2 y).2 (by rw [hn]; rfl)) hyy
      have h6 : y ∉ ks := fun hk' => by
        have := nodup_sub (y :: ys) ks (List.nodup_cons.2 ⟨hyy, hnd⟩) fun z hz => by
          rcases List.mem_cons.1 hz with e | e
          · rw [e]; exact hk'
          · exact (hm z).2 (hd z e).1
        simp only [List.length_cons] at this; omega
      have h7 : st.last y = none := by
        cases hl : st.last y with
        | none => rfl
        | some v => exact absurd ((hm y).2 (by rw [hl]; rfl)) h6
      rw [h5, h7]; rfl
  · intro h
    have hmem : ∀ y, y ∈ ys ↔ y ∈ ks := fun y => by rw [hy.2, hm, h y]; cases st.last y <;> simp
    refine ⟨((List.perm_ext_iff_of_nodup hnd hk).2 hmem).length_eq, ?_⟩
    rw [List.any_eq_false]
    intro y hy'
    have h5 := (hy.2 y).1 hy'
    have := h y
    unfold differs
    cases hl : st.last y with
    | none => rw [hl] at this; rw [this] at h5; cases h5
    | some v => rw [this, hl]; simp

def topB (st : Sto) (p : Plan) : List UInt8 := uintL (st.gen + 1).toNat ++ uintL p.dirD.length ++ numsB p.dirS
noncomputable def syncM (st : Sto) (m : Dk) : Sto × Dk × Int := open Classical in
  if st.bad = true ∨ m.off = true then ({ st with bad := true }, m, 90)
  else if sameP st then ({ st with bad := false }, m, 0)
  else if (layM m (planN m.size st st.now).tk.puts).2 ≠ 0 then ({ st with bad := true }, (layM m (planN m.size st st.now).tk.puts).1, (layM m (planN m.size st st.now).tk.puts).2)
  else if (layM (layM m (planN m.size st st.now).tk.puts).1 [((st.gen + 1).tmod 2, ⟨(topB st (planN m.size st st.now)).toArray⟩)]).2 ≠ 0 then
    ({ st with bad := true }, (layM (layM m (planN m.size st st.now).tk.puts).1 [((st.gen + 1).tmod 2, ⟨(topB st (planN m.size st st.now)).toArray⟩)]).1, (layM (layM m (planN m.size st st.now).tk.puts).1 [((st.gen + 1).tmod 2, ⟨(topB st (planN m.size st st.now)).toArray⟩)]).2)
  else ({ st with last := lastOf (planN m.size st st.now).files, dir := (planN m.size st st.now).dirS, gen := st.gen + 1, bad := false }, (layM (layM m (planN m.size st st.now).tk.puts).1 [((st.gen + 1).tmod 2, ⟨(topB st (planN m.size st st.now)).toArray⟩)]).1, 0)

theorem layM_keep : ∀ (l : List (Int × ByteArray)) (m : Dk), (layM m l).1.keep = m.keep
  | [], m => by
    unfold layM flushM
    split
    · rfl
    · split
      · exact lastM_keep _
      · exact lastM_keep _
  | p :: l, m => by
    unfold layM
    split
    · exact writeM_keep _ _ _
    · rw [layM_keep l, writeM_keep]
theorem SL.set {H H' : Heap} {s d : Addr} {rn rl : Nat} {a : Option Addr} {n c : Nat} {Q Sd : List Nat} {st st' : Sto} {m : Dk} {N M : Nat} (h : SL H s d rn rl a n c Q Sd st m N M) (hf : Fr [s.block] H H')
    (hb : Blk H' s [.pointer (some d), .map (some rn), .map (some rl), .slice a n c, .int .i64 st'.gen, .bool st'.bad]) (e1 : st'.now = st.now) (e2 : st'.last = st.last) (e3 : st'.dir = st.dir) : SL H' s d rn rl a n c Q Sd st' m N M := by
  have ho : ∀ k ∈ rn :: rl :: Q, k ∉ [s.block] := fun k hk hh => h.own (by simp only [List.mem_singleton] at hh; rw [← hh]; exact hk)
  refine ⟨hb, ?_, ?_, ?_, h.dirQ, h.dk.fr hf fun k hk hh => ?_, h.own, h.apart, h.inQ.le hf.size⟩
  · rw [e1]; exact h.now.fr hf (ho _ (by simp))
  · rw [e2]; exact h.last.fr hf (ho _ (by simp)) fun k hk => ho _ (by simp [hk])
  · rw [e3]; exact h.dir.fr hf fun ad e => ho _ (by simp [h.dirQ ad.block (by simp [e, blkL])])
  · simp only [List.mem_singleton] at hh
    exact h.apart s.block (by simp) (hh ▸ hk)
theorem SL.bad {H : Heap} {s d : Addr} {rn rl : Nat} {a : Option Addr} {n c : Nat} {Q Sd : List Nat} {st : Sto} {m : Dk} {N M : Nat} {X : Heap → Prop} (h : SL H s d rn rl a n c Q Sd st m N M) (b : Bool)
    (hk : ∀ H', SL H' s d rn rl a n c Q Sd { st with bad := b } m N M → Fr [s.block] H H' → X H') : ∃ H', St Try.prog 4 H (s.add 5) (.bool b) H' ∧ X H' :=
  Go.Proofs.Blk.set h.blk (j := 5) (v := .bool b) (by kernel_rfl) (by kernel_rfl) rfl rfl (by simp) fun H' hb hf => hk H' (h.set hf hb rfl rfl rfl) hf

/-- A plan in memory. -/
structure PlanL (H : Heap) (pb : Nat) (Pq : List Nat) (pa : Option Addr) (pn pc rp : Nat) (da : Option Addr) (dn dc : Nat) (Qp : List Nat) (p : Plan) : Prop where
  blk : Blk H ⟨pb, 0, none⟩ [.slice pa pn pc, .map (some rp), .string ⟨p.dirD.toArray⟩, .slice da dn dc, .int .i64 p.all, .int .i64 p.tk.need, .bool p.fits]
  puts : Sl encPut H pa pn pc p.tk.puts
  last : LastR H rp Qp (lastOf p.files)
  dir : Sl encInt H da dn dc p.dirS
  apart : rp ∉ Qp ++ blkL da ++ blkL pa
  sub : Pq = pb :: rp :: (Qp ++ blkL da ++ blkL pa)
  inP : In H Pq
theorem PlanL.fr {H H' : Heap} {pb : Nat} {Pq T : List Nat} {pa : Option Addr} {pn pc rp : Nat} {da : Option Addr} {dn dc : Nat} {Qp : List Nat} {p : Plan} (h : PlanL H pb Pq pa pn pc rp da dn dc Qp p) (hf : Fr T H H') (hd : Dj Pq T) : PlanL H' pb Pq pa pn pc rp da dn dc Qp p := by
  obtain ⟨h1, h2, h3, h4, h5, h6, h7⟩ := h
  have hm : ∀ k, k ∈ pb :: rp :: (Qp ++ blkL da ++ blkL pa) → k ∉ T := fun k hk => hd k (h6 ▸ hk)
  exact ⟨h1.fr hf (hm _ (by simp)), h2.fr hf fun ad e => hm _ (by simp [e, blkL]), h3.fr hf (hm _ (by simp)) fun k hk => hm _ (by simp [hk]), h4.fr hf fun ad e => hm _ (by simp [e, blkL]), h5, h6, h7.le hf.size⟩
theorem exS {a : Addr} {X : Addr → Prop} (h : X a) : exSome (some a) X := exSome_of rfl h
theorem lay_size : ∀ (l : List (Int × ByteArray)) (m : Dk), (layM m l).1.size = m.size := by
  have hc : ∀ (k : Int) (m : Dk), (crashM k m).size = m.size := fun k m => by
    unfold crashM; split <;> rfl
  have hl : ∀ m : Dk, (lastM m).1.size = m.size := fun m => by
    unfold lastM; split
    · rfl
    · rw [hc]
  have hw : ∀ (m : Dk) (i : Int) (s : ByteArray), (writeM m i s).1.size = m.size := fun m i s => by
    unfold writeM; split
    · rfl
    · split
      · rfl
      · rw [hl]
  intro l
  induction l with
  | nil =>
    intro m
    unfold layM flushM
    split
    · rfl
    · split
      · exact hl _
      · exact hl _
  | cons p l ih =>
    intro m
    unfold layM
    split
    · exact hw _ _ _
    · rw [ih, hw]
end Go.Proofs
