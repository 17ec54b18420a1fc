/- A part of a proof: see the last text of this claim. -/
import Derived.Test.YtachnphffnaacaaR09b
set_option linter.unusedVariables false
open Go Go.GV
namespace Go.Proofs

theorem nest_new {H : Heap} {wb z : Nat} (h : Own encSl 37 0 H (some ⟨wb, 0, none⟩) z z (List.replicate z (none, 0, 0))) : Nest 0 H (some ⟨wb, 0, none⟩) z z (List.replicate z (none, 0, 0)) (List.replicate z []) [wb] := by
  refine ⟨h, by simp, fun i g xs hh hx => ?_, by simp [blkL], fun i g hh k hk => ?_, fun i j g g2 _ hh hg k hk => ?_, ?_, fun _ _ => Nat.zero_le _⟩
  · have e1 : g = (none, 0, 0) := List.eq_of_mem_replicate (List.mem_of_getElem? hh)
    have e2 : xs = [] := List.eq_of_mem_replicate (List.mem_of_getElem? hx)
    subst e1 e2
    exact Own.nil _ _ _ _
  · have e1 : g = (none, 0, 0) := List.eq_of_mem_replicate (List.mem_of_getElem? hh)
    subst e1
    cases hk
  · have e1 : g = (none, 0, 0) := List.eq_of_mem_replicate (List.mem_of_getElem? hh)
    subst e1
    cases hk
  · intro k hk
    simp at hk
    subst hk
    exact (h.ge k (by simp [blkL])).2
theorem newM_size (n : Int) : 8 ≤ (newM n).size ∧ (newM n).size ≤ 512 := by
  simp only [newM]
  split <;> (repeat' split) <;> omega

theorem rNew_ok {n : Int} {H : Heap} {K : Option Addr → Heap → Prop} (hk : ∀ b H' S, (∀ k ∈ S, H.size ≤ k) → RRep H' ⟨b, 0, none⟩ S (newM n) 0 → Fr [] H H' → K (some ⟨b, 0, none⟩) H') :
    CallH Try.prog fn_ref09_New ⟨[.int .i64 n]⟩ H fun v H' => ∃ a, v = .pointer a ∧ K a H' := by
  apply vc_ref09_New
  have hsz := newM_size n
  obtain ⟨z, hz⟩ : ∃ z : Nat, (newM n).size = z := ⟨(newM n).size.toNat, by omega⟩
  have hz' : (if (if (512 : Int) < n then 512 else n) > 8 then if (512 : Int) < n then 512 else n else 8) = (z : Int) := hz
  rw [hz']
  have fin : ∀ (ib wb : Nat) (H2 : Heap), H.size ≤ ib → H.size ≤ wb → ib ≠ wb → Own GV.encStr 9 0 H2 (some ⟨ib, 0, none⟩) z z (List.replicate z ⟨#[]⟩) → Own encSl 37 0 H2 (some ⟨wb, 0, none⟩) z z (List.replicate z (none, 0, 0)) → Fr [] H H2 →
      ∀ (b : Nat) (H3 : Heap), New H2 b (.cells ⟨[.slice (some ⟨ib, 0, none⟩) z z, .slice (some ⟨wb, 0, none⟩) z z, .bool false, .int .i64 0, .int .u64 0, .int .i64 0]⟩ 48) H3 → ∃ a, Value.pointer (some ⟨b, 0, none⟩) = .pointer a ∧ K a H3 := by
    intro ib wb H2 hib hwb hne ho hw hf b H3 hn
    have e := hn.eq
    have hil := (ho.ge ib (by simp [blkL])).2
    have hwl := (hw.ge wb (by simp [blkL])).2
    have hs3 := hn.fr.size
    have hs4 := hn.size
    refine ⟨_, rfl, hk b H3 [b, ib, wb] ?_ ⟨⟨z, _, z, _, z, List.replicate z (none, 0, 0), [wb], hn.blk, ?_, ?_, ?_, ?_, ?_, ?_, ⟨hz, by omega, by omega⟩, fun _ _ => rfl⟩, by simp [newM], by simp [newM], fun _ => by simp [newM], ?_⟩ (hf.keep0 hn.fr)⟩
    · have := hf.size
      simp; omega
    · have : secL (newM n).is z = List.replicate z ⟨#[]⟩ := by simp [secL, newM, List.map_const']
      rw [this]
      exact ho.keep hn.fr
    · have : waitL (newM n).wait z = List.replicate z [] := by simp [waitL, newM, List.map_const']
      rw [this]
      exact nest_new (hw.keep hn.fr)
    · simp; omega
    · simp [blkL]; omega
    · intro k hk hk2
      simp [blkL] at hk hk2
      omega
    · simp [blkL]
    · intro k hk
      simp at hk
      omega
  refine ⟨?_, ?_⟩
  · refine mk_full (E := GV.encStr) (t := 9) (bytes := 16) (n := z) (u := .string ⟨#[]⟩) ⟨#[]⟩ slice37 elem9 (by kernel_rfl) rfl rfl rfl (by omega) fun ib H1 hib ho hf1 => ?_
    refine mk_full (E := encSl) (t := 37) (bytes := 24) (n := z) (u := .slice none 0 0) (none, 0, 0) slice42 elem37 (by kernel_rfl) rfl rfl rfl (by omega) fun wb H2 hwb hw hf2 => ?_
    have := (ho.ge ib (by simp [blkL])).2
    exact fin ib wb H2 hib (Nat.le_trans hf1.size hwb) (by omega) ((ho.keep hf2).base (Nat.zero_le _)) (hw.base (Nat.zero_le _)) (hf1.keep0 hf2)
  · refine mk_full (E := encSl) (t := 37) (bytes := 24) (n := z) (u := .slice none 0 0) (none, 0, 0) slice42 elem37 (by kernel_rfl) rfl rfl rfl (by omega) fun wb H1 hwb hw hf1 => ?_
    refine mk_full (E := GV.encStr) (t := 9) (bytes := 16) (n := z) (u := .string ⟨#[]⟩) ⟨#[]⟩ slice37 elem9 (by kernel_rfl) rfl rfl rfl (by omega) fun ib H2 hib ho hf2 => ?_
    have := (hw.ge wb (by simp [blkL])).2
    exact fin ib wb H2 (Nat.le_trans hf1.size hib) hwb (by omega) (ho.base (Nat.zero_le _)) ((hw.keep hf2).base (Nat.zero_le _)) (hf1.keep0 hf2)

/-- Both disks, of one mind. -/
structure Both9 (H0 H : Heap) (d q : Addr) (S T : List Nat) (m : Dk) (N : Nat) : Prop where
  d : DRep H d S m N
  q : RRep H q T m N
  dj : Dj S T
  low : (∀ k ∈ S, H0.size ≤ k) ∧ ∀ k ∈ T, H0.size ≤ k
  keep : 0 ≤ m.keep ∧ m.keep < 18446744073709551616
  fr : Fr [] H0 H
theorem Both9.mono {H0 H : Heap} {d q : Addr} {S T : List Nat} {m : Dk} {N N' : Nat} (h : Both9 H0 H d q S T m N) (hN : N ≤ N') : Both9 H0 H d q S T m N' := ⟨h.d.mono hN, h.q.mono hN, h.dj, h.low, h.keep, h.fr⟩
theorem Both9.keep0 {H0 H H' : Heap} {d q : Addr} {S T : List Nat} {m : Dk} {N : Nat} (h : Both9 H0 H d q S T m N) (hf : Fr [] H H') : Both9 H0 H' d q S T m N := ⟨h.d.keep hf, h.q.keep hf, h.dj, h.low, h.keep, h.fr.keep0 hf⟩
/-- One goes on, then the other. -/
theorem Both9.go {H0 H H1 H2 : Heap} {d q : Addr} {S T S' T' : List Nat} {m m' : Dk} {N N' : Nat} (h : Both9 H0 H d q S T m N) (h1 : DRep H1 d S' m' N') (hf1 : Fr S H H1) (hg1 : Grow H S S') (h2 : RRep H2 q T' m' N') (hf2 : Fr T H1 H2) (hg2 : Grow H1 T T') (hk : 0 ≤ m'.keep ∧ m'.keep < 18446744073709551616) : Both9 H0 H2 d q S' T' m' N' := by
  have hf1' : Fr [] H0 H1 := h.fr.keep hf1 h.low.1
  have hdj : Dj S' T := fun k hk hk2 => by
    rcases hg1 k hk with h3 | h3
    · exact h.dj k h3 hk2
    · have := h.q.inS k hk2; omega
  refine ⟨h1.fr hf2 hdj, h2, fun k hk hk2 => ?_, ⟨fun k hk => ?_, fun k hk => ?_⟩, hk, hf1'.keep hf2 h.low.2⟩
  · rcases hg2 k hk2 with h3 | h3
    · exact hdj k hk h3
    · have := h1.inS k hk; omega
  · rcases hg1 k hk with h3 | h3
    · exact h.low.1 k h3
    · exact Nat.le_trans h.fr.size h3
  · rcases hg2 k hk with h3 | h3
    · exact h.low.2 k h3
    · exact Nat.le_trans hf1'.size h3
/-- What the reference has when the disk has gone on. -/
theorem Both9.off {H0 H H1 : Heap} {d q : Addr} {S T : List Nat} {m : Dk} {N : Nat} (h : Both9 H0 H d q S T m N) (hf1 : Fr S H H1) : RRep H1 q T m N := h.q.fr hf1 h.dj.symm

theorem keep_crash (keep : Int) (m : Dk) : (crashM keep m).keep = m.keep := by
  unfold crashM
  split <;> rfl
theorem keep_last (m : Dk) : (lastM m).1.keep = m.keep := by
  unfold lastM
  split
  · rfl
  · exact keep_crash _ _
theorem keep_write (m : Dk) (i : Int) (s : ByteArray) : (writeM m i s).1.keep = m.keep := by
  unfold writeM
  split
  · rfl
  · split
    · rfl
    · exact keep_last _
theorem keep_flush (m : Dk) : (flushM m).1.keep = m.keep := by
  unfold flushM
  split
  · rfl
  · split
    · exact keep_last _
    · exact keep_last m

def fine9 (o : Step9) : Prop := I64 o.2.1 ∧ 0 ≤ o.2.2.2 ∧ o.2.2.2 < 18446744073709551616
theorem does_ok {H0 H : Heap} {d q : Addr} {S T : List Nat} {m : Dk} {N : Nat} {o : Step9} {K : Bool → Heap → Prop} (h : Both9 H0 H d q S T m N) (hN : N + 2 ≤ 1000000) (ho : fine9 o)
    (hk : ∀ H' S' T' m', Both9 H0 H' d q S' T' m' (N + 2) → K true H') :
    CallH Try.prog fn_law09_does ⟨[.pointer (some d), .pointer (some q), .agg ⟨[.int .i64 o.1, .int .i64 o.2.1, .string o.2.2.1, .int .u64 o.2.2.2]⟩]⟩ H fun v H' => ∃ b, v = .bool b ∧ K b H' := by
  apply vc_law09_does
  intro b H1 hn1
  have hbeq := hn1.eq
  have hbS : b ∉ S := fun hk => by have := h.d.inS b hk; omega
  have hbT : b ∉ T := fun hk => by have := h.q.inS b hk; omega
  have h := h.keep0 hn1.fr
  have hb1 := hn1.blk
  have hblt : b < H1.size := hb1.lt
  have fdS : d.block ∈ S := by obtain ⟨_, _, _, hd⟩ := h.d.it; exact hd.foot.1
  have fqT : q.block ∈ T := by obtain ⟨_, _, _, _, _, _, _, hd⟩ := h.q.it; exact hd.foot.1
  obtain ⟨IM, hIM⟩ : ∃ M : List Value → Heap → Prop, M = fun _ H' => (∃ S' T' m', Both9 H0 H' d q S' T' m' (N + 2)) ∧ Blk H' ⟨b, 0, none⟩ [.int .i64 o.1, .int .i64 o.2.1, .string o.2.2.1, .int .u64 o.2.2.2] := ⟨_, rfl⟩
  refine ⟨IM, ⟨_, hb1.ldK (j := 0) (by kernel_rfl) rfl, brB_of (fun _ => ?_) (fun _ => brB_of (fun _ => ?_) (fun _ => brB_of (fun _ => ?_) (fun _ => brB_of (fun _ => ?_) (fun _ => brB_of (fun _ => ?_) (fun _ => ?_)))))⟩, ?_⟩
  · refine ⟨_, hb1.ldK (j := 1) (by kernel_rfl) rfl, _, hb1.ldK (j := 2) (by kernel_rfl) rfl, _, hb1.ldK (j := 1) (by kernel_rfl) rfl, _, hb1.ldK (j := 2) (by kernel_rfl) rfl, ?_⟩
    refine Write_ok h.d hN h.keep fun H2 S2 h2 hf2 hg2 => ?_
    have hb2 := hb1.fr hf2 hbS
    refine ⟨hb2.ldK (j := 2) (by kernel_rfl) rfl, hb2.ldK (j := 1) (by kernel_rfl) rfl, ?_⟩
    refine rWrite_ok (h.off hf2) hN h.keep fun H3 T3 h3 hf3 hg3 => ⟨_, rfl, ?_⟩
    rw [beq_self_eq_true]
    exact hk H3 S2 T3 _ (h.go h2 hf2 hg2 h3 hf3 hg3 (by rw [keep_write]; exact h.keep))
  · refine Flush_ok h.d (by omega) h.keep fun H2 h2 hf2 => ?_
    refine rFlush_ok (h.off hf2) (by omega) h.keep fun H3 h3 hf3 => ⟨_, rfl, ?_⟩
    rw [beq_self_eq_true]
    exact hk H3 S T _ ((h.go h2 hf2 (Grow.refl _ _) h3 hf3 (Grow.refl _ _) (by rw [keep_flush]; exact h.keep)).mono (by omega))
  · refine ⟨_, hb1.ldK (j := 1) (by kernel_rfl) rfl, _, hb1.ldK (j := 3) (by kernel_rfl) rfl, ?_⟩
    refine Cut_ok h.d ho.1 fun H2 h2 hf2 => ?_
    have hf2' : Fr S H1 H2 := hf2.mono (by simpa using fdS)
    have hb2 := hb1.fr hf2' hbS
    refine ⟨_, hb2.ldK (j := 1) (by kernel_rfl) rfl, _, hb2.ldK (j := 3) (by kernel_rfl) rfl, ?_⟩
    refine rCut_ok (h.off hf2') ho.1 fun H3 h3 hf3 => ?_
    have hf3' : Fr T H2 H3 := hf3.mono (by simpa using fqT)
    rw [hIM]
    exact ⟨⟨S, T, _, (h.go h2 hf2' (Grow.refl _ _) h3 hf3' (Grow.refl _ _) ho.2).mono (by omega)⟩, hb2.fr hf3' hbT⟩
  · refine ⟨_, hb1.ldK (j := 3) (by kernel_rfl) rfl, ?_⟩
    refine Crash_ok h.d (by omega) ho.2 fun H2 h2 hf2 => ?_
    have hb2 := hb1.fr hf2 hbS
    refine ⟨_, hb2.ldK (j := 3) (by kernel_rfl) rfl, ?_⟩
    refine rCrash_ok (h.off hf2) (by omega) ho.2 fun H3 h3 hf3 => ?_
    rw [hIM]
    exact ⟨⟨S, T, _, (h.go h2 hf2 (Grow.refl _ _) h3 hf3 (Grow.refl _ _) (by rw [keep_crash]; exact h.keep)).mono (by omega)⟩, hb2.fr hf3 hbT⟩
  · refine Power_ok h.d fun H2 h2 hf2 => ?_
    have hf2' : Fr S H1 H2 := hf2.mono (by simpa using fdS)
    have hb2 := hb1.fr hf2' hbS
    refine rPower_ok (h.off hf2') fun H3 h3 hf3 => ?_
    have hf3' : Fr T H2 H3 := hf3.mono (by simpa using fqT)
    rw [hIM]
    exact ⟨⟨S, T, _, (h.go h2 hf2' (Grow.refl _ _) h3 hf3' (Grow.refl _ _) h.keep).mono (by omega)⟩, hb2.fr hf3' hbT⟩
  · rw [hIM]
    exact ⟨⟨S, T, m, h.mono (by omega)⟩, hb1⟩
  · intro J H2 hh
    rw [hIM] at hh
    obtain ⟨⟨S2, T2, m2, h2⟩, hb2⟩ := hh
    refine ⟨_, hb2.ldK (j := 1) (by kernel_rfl) rfl, ?_⟩
    refine Read_ok h2.d (by omega) ?_
    refine ⟨_, hb2.ldK (j := 1) (by kernel_rfl) rfl, ?_⟩
    refine rRead_ok h2.q (by omega) ?_
    refine brB_of (fun _ => ⟨_, rfl, ?_⟩) (fun h => ?_)
    · rw [beq_self_eq_true]
      exact hk H2 S2 T2 m2 h2
    · rw [same_bytes rfl] at h; cases h

theorem Script_ok {n : Int} {la : Option Addr} {ln lc : Nat} {l : List Step9} {H : Heap} (hl : Sl encStep H la ln lc l) (hfine : ∀ o ∈ l, fine9 o) :
    CallH Try.prog fn_law09_BlockScript ⟨[.int .i64 n, .slice la ln lc]⟩ H fun v H' => v = .bool true ∧ Fr [] H H' := by
  apply vc_law09_BlockScript
  refine heavy_ok hl fun hb hbn => brB_of (fun _ => ⟨rfl, Fr.refl _ _⟩) (fun hbf => ?_)
  have hn := hbn hbf
  have hlen := hl.len
  refine New_ok fun b H1 S hS h1 hf1 => rNew_ok fun b2 H2 T hT h2 hf2 => ?_
  have hB : Both9 H H2 ⟨b, 0, none⟩ ⟨b2, 0, none⟩ S T (newM n) 0 := by
    refine ⟨h1.keep hf2, h2, fun k hk hk2 => ?_, ⟨hS, fun k hk => Nat.le_trans hf1.size (hT k hk)⟩, by simp [newM], hf1.keep0 hf2⟩
    have := h1.inS k hk
    have := hT k hk2
    omega
  obtain ⟨IM, hIM⟩ : ∃ M : List Value → Heap → Prop, M = fun _ H' => H' = H2 := ⟨_, rfl⟩
  refine ⟨IM, brB_of (fun h => by cases h) (fun _ => ?_), ?_⟩
  · obtain ⟨z, ia, ic, wa, wc, hs, T', hd⟩ := h2.it
    refine ⟨_, _, _, hd.ldI, ?_⟩
    refine Size_ok (h1.keep hf2) ⟨hd.ldI, brB_of (fun h => ?_) (fun _ => by rw [hIM])⟩
    rw [hd.size.1] at h
    simp at h
  intro J H3 hh
  rw [hIM] at hh
  subst hh
  refine ⟨fun vs H' => match vs with | [.int _ j] => ∃ (j' : Nat) (S' T' : List Nat) (m : Dk), j = j' ∧ j' ≤ ln ∧ Both9 H H' ⟨b, 0, none⟩ ⟨b2, 0, none⟩ S' T' m (2 * j') | _ => False,
    fun vs _ => match vs with | [.int _ j] => ln - j.toNat | _ => 0, ⟨0, S, T, _, rfl, by omega, hB⟩, ?_⟩
  rintro J j H4 ⟨j', S4, T4, m, rfl, hj, hB4⟩
  refine brB_of (fun g => ?_) (fun g => ?_)
  · have g' : j' < ln := by simpa using g
    have hx : l[j']? = some (l[j']'(by omega)) := by simp
    have hfo : fine9 (l[j']'(by omega)) := hfine _ (List.getElem_mem _)
    generalize l[j']'(by omega) = o at hx hfo
    refine ⟨fun _ H' => ∃ S' T' m', Both9 H H' ⟨b, 0, none⟩ ⟨b2, 0, none⟩ S' T' m' (2 * j' + 2), ?_, ?_⟩
    · refine (hl.keep hB4.fr).get rfl hx (decide_eq_true (by omega)) fun ad ea hc => ⟨_, _, _, _, ld_many (by kernel_rfl) (by kernel_rfl) hc, ?_⟩
      refine does_ok hB4 (by omega) hfo fun H5 S5 T5 m5 h5 => brB_of (fun h => by cases h) (fun _ => ?_)
      obtain ⟨z, ia, ic, wa, wc, hs, T', hd⟩ := h5.q.it
      refine ⟨_, hd.ldOff, Dead_ok h5.d ⟨hd.ldOff, brB_of (fun h => by simp at h) (fun _ => ?_)⟩⟩
      refine ⟨_, hd.ldCalls, Calls_ok h5.d ⟨hd.ldCalls, brB_of (fun h => by simp at h) (fun _ => ⟨S5, T5, m5, h5⟩)⟩⟩
    · rintro J2 H5 ⟨S5, T5, m5, h5⟩
      rw [succ64 (by omega)]
      exact ⟨⟨j' + 1, S5, T5, m5, rfl, by omega, h5.mono (by omega)⟩, mu_lt g'⟩
  · have fd : b ∈ S4 := by obtain ⟨_, _, _, hd⟩ := hB4.d.it; exact hd.foot.1
    have fq : b2 ∈ T4 := by obtain ⟨_, _, _, _, _, _, _, hd⟩ := hB4.q.it; exact hd.foot.1
    refine Power_ok hB4.d fun H5 h5 hf5 => ?_
    have hf5' : Fr S4 H4 H5 := hf5.mono (by simpa using fd)
    refine rPower_ok (hB4.off hf5') fun H6 h6 hf6 => ?_
    have hf6' : Fr T4 H5 H6 := hf6.mono (by simpa using fq)
    have hB6 := hB4.go h5 hf5' (Grow.refl _ _) h6 hf6' (Grow.refl _ _) hB4.keep
    obtain ⟨z, ia, ic, wa, wc, hs, T', hd⟩ := hB6.q.it
    have hsz := hd.size
    refine ⟨fun vs H' => match vs with | [.int _ i] => -1 ≤ i ∧ i ≤ z + 1 ∧ H' = H6 | _ => False,
      fun vs _ => match vs with | [.int _ i] => (z + 1 - i).toNat | _ => 0, ⟨by omega, by omega, rfl⟩, ?_⟩
    rintro J2 i H7 ⟨hi1, hi2, rfl⟩
    refine ⟨_, _, _, hd.ldI, brB_of (fun g2 => ?_) (fun _ => ⟨rfl, hB6.fr⟩)⟩
    have g2' : i ≤ z := by simpa using g2
    refine Read_ok hB6.d (by omega) (rRead_ok hB6.q (by omega) ?_)
    refine brB_of (fun h => by rw [same_bytes rfl] at h; cases h) (fun _ => brB_of (fun h => by simp at h) (fun _ => ?_))
    rw [wrap64_of (by omega) (by omega)]
    exact ⟨⟨by omega, by omega, rfl⟩, by show ((z : Int) + 1 - (i + 1)).toNat < ((z : Int) + 1 - i).toNat; omega⟩
end Go.Proofs
