/- A part of a proof: see the last text of this claim. -/
import Derived.Test.YtijedkfekmopnaaP11I
set_option linter.unusedVariables false
set_option maxRecDepth 100000
open Go Go.GV
namespace Go.Proofs

/-- How long a slice in a record is. -/
def lenAt (H : Heap) (b o : Nat) : Nat := match cellH H ⟨b, o, none⟩ with | some (.slice _ n _) => n | _ => 0
theorem lenAt2 {H : Heap} {b : Nat} {m : Rm} (h : Blk H ⟨b, 0, none⟩ (rC m)) : lenAt H b 2 = m.2.2.1.2.1 := by
  obtain ⟨b', te, e, h⟩ := h
  simp only [Addr.mk.injEq, and_true] at e
  subst e
  unfold lenAt; rw [cell_of_blk h]; rfl
theorem lenAt3 {H : Heap} {b : Nat} {m : Rm} (h : Blk H ⟨b, 0, none⟩ (rC m)) : lenAt H b 3 = m.2.2.2.1.2.1 := by
  obtain ⟨b', te, e, h⟩ := h
  simp only [Addr.mk.injEq, and_true] at e
  subst e
  unfold lenAt; rw [cell_of_blk h]; rfl
def rowP4 (x : Row) : Prop := (0 ≤ x.1 ∧ x.1 ≤ 1099511627776) ∧ (0 ≤ x.2.1 ∧ x.2.1 ≤ 200) ∧ I64 x.2.2
def tombP6 (x : Row) : Prop := (0 ≤ x.1 ∧ x.1 ≤ 200) ∧ (0 ≤ x.2.1 ∧ x.2.1 ≤ 1099511627776) ∧ 0 ≤ x.2.2 ∧ x.2.2 ≤ 1099511627776
theorem slice23r : sliceB Try.prog 23 58 = true := by kernel_rfl
theorem slice24r : sliceB Try.prog 24 62 = true := by kernel_rfl
theorem elem58 : elemB Try.prog 58 enc3.sz 24 = true := by kernel_rfl
theorem elem62 : elemB Try.prog 62 enc3.sz 24 = true := by kernel_rfl
/-- A record of rows that were read. -/
theorem took_rows {H : Heap} {s : ByteArray} {a : Nat} {n : Int} {N p q : Nat} {M : List Row} {ok' ok'' : Bool} {o : Option Addr} {l c : Nat} (hM : Sl enc3 H o l c M) (hl : M.length ≤ 5001) (hT : ∀ x ∈ M, I64 x.2.2)
    (h : RdG s a true (fun L => uintL L.length ++ L.flatMap rowL) (fun L : List Row => L.length ≤ 5000 ∧ ∀ y ∈ L, rowP4 y) M q ok'') : Took H (1, (none, 0, 0), (o, l, c), (none, 0, 0), 0) s a 1 ⟨1, [], M, [], 0⟩ q ok'' := by
  refine ⟨⟨rfl, Sl.zero, hM, Sl.zero, rfl⟩, rfl, hT, ⟨by simp, by have := hM.len; simp; omega, by simp⟩, ⟨h.1, fun ho => ?_, fun ho y t hy e => ?_⟩, fun _ h => by omega⟩
  · obtain ⟨h1, h2⟩ := h.2.1 ho
    refine ⟨rfl, ?_⟩
    rw [h2]; unfold bodyR; rw [if_neg (by simp), if_pos rfl]
  · have hyk := hy.2
    have hF := hy.1.fine
    have e2 : bodyR y = uintL y.rows.length ++ y.rows.flatMap rowL := by unfold bodyR; rw [if_neg (by omega), if_pos hyk]
    rw [e2] at e
    obtain ⟨h1, h2, h3⟩ := h.2.2 rfl y.rows t ⟨hF.nr, fun x hx => ⟨(hF.row x hx).1, by have := (hF.row x hx).2; omega, hy.1.typ x hx⟩⟩ e
    refine ⟨h1, ?_, h3⟩
    have g1 : y.l = [] := Classical.byContradiction fun h => by have := hF.l h; omega
    have g2 : y.at' = 0 := Classical.byContradiction fun h => by have := hF.at0 h; omega
    have g3 : y.tombs = [] := Classical.byContradiction fun h => by have := hF.tombs h; omega
    cases y
    simp only at g1 g2 g3 hyk h2
    subst g1 g2 g3 hyk h2
    rfl
theorem took_tombs {H : Heap} {s : ByteArray} {a : Nat} {n : Int} {N p q : Nat} {M : List Row} {ok' ok'' : Bool} {o : Option Addr} {l c : Nat} (hM : Sl enc3 H o l c M) (hl : M.length ≤ 5001)
    (h : RdG s a true (fun L => uintL L.length ++ L.flatMap tombL) (fun L : List Row => L.length ≤ 5000 ∧ ∀ y ∈ L, tombP6 y) M q ok'') : Took H (2, (none, 0, 0), (none, 0, 0), (o, l, c), 0) s a 2 ⟨2, [], [], M, 0⟩ q ok'' := by
  refine ⟨⟨rfl, Sl.zero, Sl.zero, hM, rfl⟩, rfl, fun x hx => by simp at hx, ⟨by simp, by simp, by have := hM.len; simp; omega⟩, ⟨h.1, fun ho => ?_, fun ho y t hy e => ?_⟩, fun _ h => by omega⟩
  · obtain ⟨h1, h2⟩ := h.2.1 ho
    refine ⟨rfl, ?_⟩
    rw [h2]; unfold bodyR; rw [if_neg (by simp), if_neg (by simp), if_pos rfl]
  · have hyk := hy.2
    have hF := hy.1.fine
    have e2 : bodyR y = uintL y.tombs.length ++ y.tombs.flatMap tombL := by unfold bodyR; rw [if_neg (by omega), if_neg (by omega), if_pos hyk]
    rw [e2] at e
    obtain ⟨h1, h2, h3⟩ := h.2.2 rfl y.tombs t ⟨hF.nt, fun x hx => ⟨⟨(hF.tomb x hx).1.1, by have := (hF.tomb x hx).1.2; omega⟩, ⟨(hF.tomb x hx).2.1, by have := (hF.tomb x hx).2; omega⟩, by have := (hF.tomb x hx).2; omega, (hF.tomb x hx).2.2.2⟩⟩ e
    refine ⟨h1, ?_, h3⟩
    have g1 : y.l = [] := Classical.byContradiction fun h => by have := hF.l h; omega
    have g2 : y.at' = 0 := Classical.byContradiction fun h => by have := hF.at0 h; omega
    have g3 : y.rows = [] := Classical.byContradiction fun h => by have := hF.rows h; omega
    cases y
    simp only at g1 g2 g3 hyk h2
    subst g1 g2 g3 hyk h2
    rfl
theorem forms4_ok {H : Heap} {rb xb : Nat} {s : ByteArray} {a : Nat} {K : Heap → Prop} (hr : Blk H ⟨rb, 0, none⟩ (rC (m0 1))) (hx : Blk H ⟨xb, 0, none⟩ (rdC s a true)) (hne : rb ≠ xb) (hs : s.size ≤ 100000000000) (ha : a ≤ s.size)
    (hk : ∀ H' m r p ok', Blk H' ⟨rb, 0, none⟩ (rC m) → Blk H' ⟨xb, 0, none⟩ (rdC s p ok') → Took H' m s a 1 r p ok' → (∀ b, b < H.size → NotIn m b) → Fr [xb, rb] H H' → K H') :
    CallH Try.prog fn_wal_forms_4 ⟨[.pointer (some ⟨rb, 0, none⟩), .pointer (some ⟨xb, 0, none⟩)]⟩ H fun v H' => v = .tuple ⟨[]⟩ ∧ K H' := by
  apply vc_wal_forms_4
  refine number_ok (most := 5000) hx hs ha (by omega) fun H1 n p ok' hx1 hn hf1 => ?_
  obtain ⟨hrd, hv⟩ := hn.rd ha
  obtain ⟨N, rfl⟩ : ∃ N : Nat, n = N := ⟨n.toNat, by omega⟩
  have hr1 := hr.fr hf1 (by simp; exact hne)
  have hxlt : xb < H.size := hx.lt
  have hrlt : rb < H.size := hr.lt
  have hp0 := hrd.1
  -- the loop
  refine ⟨fun _ H' => ∃ (M : List Row) (q : Nat) (okq : Bool) (o : Option Addr) (l c : Nat), Blk H' ⟨rb, 0, none⟩ (rC (1, (none, 0, 0), (o, l, c), (none, 0, 0), 0)) ∧ Blk H' ⟨xb, 0, none⟩ (rdC s q okq) ∧ Own enc3 58 H.size H' o l c M ∧
      Fr [xb, rb] H H' ∧ q ≤ s.size ∧ (∀ x ∈ M, I64 x.2.2) ∧ M.length ≤ N ∧ (ok' = false → okq = false) ∧ (ok' = true → RdL s rowL rowP4 N p q M okq),
    fun _ H' => 6000 - lenAt H' rb 2, ⟨[], p, ok', none, 0, 0, hr1, hx1, Own.nil _ _ _ _, hf1.mono (by simp), hp0, by simp, Nat.zero_le _, fun h => h, fun h => by subst h; exact RdL.start hp0⟩, ?_⟩
  rintro J H2 ⟨M, q, okq, o, l, c, hr2, hx2, ho2, hf2, hq, hMT, hMN, hno, hrl⟩
  have hlM := ho2.1
  have fin : (okq = true → N ≤ M.length) → K H2 := fun hM => by
    refine hk H2 _ _ q okq hr2 hx2 (took_rows (n := 0) (N := 0) (p := 0) (ok' := false) ho2.sl (by omega) hMT ?_) (fun b hb => ⟨no_ad, not_own ho2 hb, no_ad⟩) hf2
    exact hrd.list rfl (fun h => (hrl h).done hM) (fun h => ⟨hno h, hq⟩)
  refine ⟨fun _ H' => H' = H2 ∧ okq = true ∧ M.length < N, ?_, ?_⟩
  · refine ⟨_, hx2.ld (by kernel_rfl) (j := 2) rfl, brB_of (fun h => ⟨_, _, _, hr2.ld (by kernel_rfl) (j := 2) rfl, brB_of (fun h2 => ⟨rfl, h, ?_⟩) (fun h2 => ⟨rfl, fin fun _ => ?_⟩)⟩) (fun h => ⟨rfl, fin fun hh => ?_⟩)⟩
    · have h2' : (l : Int) < N := of_decide_eq_true h2
      omega
    · have h2' : ¬ (l : Int) < N := of_decide_eq_false h2
      omega
    · rw [hh] at h; cases h
  · rintro J H3 ⟨rfl, rfl, hlt⟩
    refine number_ok (most := 1099511627776) hx2 hs hq (by omega) fun H4 v1 p1 ok1 hx4 hn1 hf4 => ?_
    obtain ⟨hrd1, hv1⟩ := hn1.rd hq
    refine number_ok (most := 200) hx4 hs hrd1.1 (by omega) fun H5 v2 p2 ok2 hx5 hn2 hf5 => ?_
    obtain ⟨hrd2, hv2⟩ := hn2.rd hrd1.1
    have hr5 := (hr2.fr hf4 (by simp; exact hne)).fr hf5 (by simp; exact hne)
    refine ⟨_, _, _, hr5.ld (by kernel_rfl) (j := 2) rfl, ?_⟩
    refine rvalue_ok hx5 hs hrd2.1 fun H6 v3 p3 ok3 hx6 hn3 hf6 => ?_
    obtain ⟨hrd3, hv3⟩ := hn3.rd hrd2.1
    have hr6 := hr5.fr hf6 (by simp; exact hne)
    refine ⟨hr6.ld (by kernel_rfl) (j := 2) rfl, ?_⟩
    have hob := ho2.ge
    have ho6 : Own enc3 58 H.size H6 o l c M := ((ho2.fr hf4 fun ad e => ?_).fr hf5 fun ad e => ?_).fr hf6 fun ad e => ?_
    rotate_left
    iterate 3
      · have := (hob ad.block (by subst e; simp [blkL])).1
        simp; omega
    have hf26 : Fr [xb, rb] H H6 := ((hf2.trans' hf4 (fun k hk _ => hk) (by simp)).trans' hf5 (fun k hk _ => hk) (by simp)).trans' hf6 (fun k hk _ => hk) (by simp)
    intro b H7 hn7
    have hr7 := hr6.keep hn7.fr
    refine ⟨hr7.ld (by kernel_rfl) (j := 2) rfl, ?_⟩
    have hf7s := hf26.size
    have hn7s := hn7.size
    refine ap_raw (n := l) slice23r elem58 (ho6.keep hn7.fr) (sl_one enc3 ((v1, v2, v3) : Row) hn7 rfl) (by omega) (by omega) fun o' l' c' H8 ho8 hf8 => ?_
    have hgo := (ho6.keep hn7.fr).ge
    have dj : ∀ k, k < H.size → k ∉ blkL o := fun k hk hb => by have := (hgo k hb).1; omega
    have hr8 := hr7.fr hf8 (dj rb hrlt)
    have hx8 := (hx6.keep hn7.fr).fr hf8 (dj xb hxlt)
    refine hr8.st (j := 2) (v := .slice o' l' c') (by kernel_rfl) (by kernel_rfl) (fun x hx => by simp [Value.cells] at hx; subst hx; rfl) (by simp [Value.cells, rC]) fun H9 hr9 hf9 => ?_
    have hr9' : Blk H9 ⟨rb, 0, none⟩ (rC (1, (none, 0, 0), (o', l', c'), (none, 0, 0), 0)) := by simpa [Value.cells, rC] using hr9
    have ho9 := ho8.fr hf9 fun ad e => by
      have := (ho8.ge ad.block (by subst e; simp [blkL])).1
      simp; omega
    have hf89 : Fr [xb, rb] H H9 := ((hf26.trans' hn7.fr (fun k hk _ => hk) (by simp)).trans' hf8 (fun k hk _ => hk) (fun k hk hlt' => absurd hk (dj k hlt'))).trans' hf9 (fun k hk _ => hk) (fun k hk _ => by simp at hk; simp [hk])
    refine ⟨⟨M ++ [(v1, v2, v3)], p3, ok3, o', l', c', hr9', hx8.fr hf9 (by simp; exact fun e => hne e.symm), ho9, hf89, hrd3.1, fun x hx => ?_, by simp; omega, fun h => ?_, fun h => ?_⟩, ?_⟩
    · rcases List.mem_append.1 hx with hx | hx
      · exact hMT x hx
      · simp at hx; subst hx; exact hv3
    · exact absurd (hno h) (by simp)
    · exact (hrl h).step hlt ((hrd1.pair (hrd2.pair hrd3)).weak fun y hy => hy)
    · show 6000 - lenAt H9 rb 2 < 6000 - lenAt H3 rb 2
      rw [lenAt2 hr2, lenAt2 hr9']
      have := ho9.1
      simp at this
      show 6000 - l' < 6000 - l
      omega
theorem forms6_ok {H : Heap} {rb xb : Nat} {s : ByteArray} {a : Nat} {K : Heap → Prop} (hr : Blk H ⟨rb, 0, none⟩ (rC (m0 2))) (hx : Blk H ⟨xb, 0, none⟩ (rdC s a true)) (hne : rb ≠ xb) (hs : s.size ≤ 100000000000) (ha : a ≤ s.size)
    (hk : ∀ H' m r p ok', Blk H' ⟨rb, 0, none⟩ (rC m) → Blk H' ⟨xb, 0, none⟩ (rdC s p ok') → Took H' m s a 2 r p ok' → (∀ b, b < H.size → NotIn m b) → Fr [xb, rb] H H' → K H') :
    CallH Try.prog fn_wal_forms_6 ⟨[.pointer (some ⟨rb, 0, none⟩), .pointer (some ⟨xb, 0, none⟩)]⟩ H fun v H' => v = .tuple ⟨[]⟩ ∧ K H' := by
  apply vc_wal_forms_6
  refine number_ok (most := 5000) hx hs ha (by omega) fun H1 n p ok' hx1 hn hf1 => ?_
  obtain ⟨hrd, hv⟩ := hn.rd ha
  obtain ⟨N, rfl⟩ : ∃ N : Nat, n = N := ⟨n.toNat, by omega⟩
  have hr1 := hr.fr hf1 (by simp; exact hne)
  have hxlt : xb < H.size := hx.lt
  have hrlt : rb < H.size := hr.lt
  have hp0 := hrd.1
  -- the loop
  refine ⟨fun _ H' => ∃ (M : List Row) (q : Nat) (okq : Bool) (o : Option Addr) (l c : Nat), Blk H' ⟨rb, 0, none⟩ (rC (2, (none, 0, 0), (none, 0, 0), (o, l, c), 0)) ∧ Blk H' ⟨xb, 0, none⟩ (rdC s q okq) ∧ Own enc3 62 H.size H' o l c M ∧
      Fr [xb, rb] H H' ∧ q ≤ s.size ∧ M.length ≤ N ∧ (ok' = false → okq = false) ∧ (ok' = true → RdL s tombL tombP6 N p q M okq),
    fun _ H' => 6000 - lenAt H' rb 3, ⟨[], p, ok', none, 0, 0, hr1, hx1, Own.nil _ _ _ _, hf1.mono (by simp), hp0, Nat.zero_le _, fun h => h, fun h => by subst h; exact RdL.start hp0⟩, ?_⟩
  rintro J H2 ⟨M, q, okq, o, l, c, hr2, hx2, ho2, hf2, hq, hMN, hno, hrl⟩
  have hlM := ho2.1
  have fin : (okq = true → N ≤ M.length) → K H2 := fun hM => by
    refine hk H2 _ _ q okq hr2 hx2 (took_tombs (n := 0) (N := 0) (p := 0) (ok' := false) ho2.sl (by omega) ?_) (fun b hb => ⟨no_ad, no_ad, not_own ho2 hb⟩) hf2
    exact hrd.list rfl (fun h => (hrl h).done hM) (fun h => ⟨hno h, hq⟩)
  refine ⟨fun _ H' => H' = H2 ∧ okq = true ∧ M.length < N, ?_, ?_⟩
  · refine ⟨_, hx2.ld (by kernel_rfl) (j := 2) rfl, brB_of (fun h => ⟨_, _, _, hr2.ld (by kernel_rfl) (j := 3) rfl, brB_of (fun h2 => ⟨rfl, h, ?_⟩) (fun h2 => ⟨rfl, fin fun _ => ?_⟩)⟩) (fun h => ⟨rfl, fin fun hh => ?_⟩)⟩
    · have h2' : (l : Int) < N := of_decide_eq_true h2
      omega
    · have h2' : ¬ (l : Int) < N := of_decide_eq_false h2
      omega
    · rw [hh] at h; cases h
  · rintro J H3 ⟨rfl, rfl, hlt⟩
    refine number_ok (most := 200) hx2 hs hq (by omega) fun H4 v1 p1 ok1 hx4 hn1 hf4 => ?_
    obtain ⟨hrd1, hv1⟩ := hn1.rd hq
    refine number_ok (most := 1099511627776) hx4 hs hrd1.1 (by omega) fun H5 v2 p2 ok2 hx5 hn2 hf5 => ?_
    obtain ⟨hrd2, hv2⟩ := hn2.rd hrd1.1
    refine number_ok (most := 1099511627776) hx5 hs hrd2.1 (by omega) fun H6 v3 p3 ok3 hx6 hn3 hf6 => ?_
    obtain ⟨hrd3, hv3⟩ := hn3.rd hrd2.1
    have hr6 := ((hr2.fr hf4 (by simp; exact hne)).fr hf5 (by simp; exact hne)).fr hf6 (by simp; exact hne)
    refine ⟨_, _, _, hr6.ld (by kernel_rfl) (j := 3) rfl, ?_⟩
    have hob := ho2.ge
    have ho6 : Own enc3 62 H.size H6 o l c M := ((ho2.fr hf4 fun ad e => ?_).fr hf5 fun ad e => ?_).fr hf6 fun ad e => ?_
    rotate_left
    iterate 3
      · have := (hob ad.block (by subst e; simp [blkL])).1
        simp; omega
    have hf26 : Fr [xb, rb] H H6 := ((hf2.trans' hf4 (fun k hk _ => hk) (by simp)).trans' hf5 (fun k hk _ => hk) (by simp)).trans' hf6 (fun k hk _ => hk) (by simp)
    intro b H7 hn7
    have hr7 := hr6.keep hn7.fr
    have hf7s := hf26.size
    have hn7s := hn7.size
    refine ap_raw (n := l) slice24r elem62 (ho6.keep hn7.fr) (sl_one enc3 ((v1, v2, v3) : Row) hn7 rfl) (by omega) (by omega) fun o' l' c' H8 ho8 hf8 => ?_
    have hgo := (ho6.keep hn7.fr).ge
    have dj : ∀ k, k < H.size → k ∉ blkL o := fun k hk hb => by have := (hgo k hb).1; omega
    have hr8 := hr7.fr hf8 (dj rb hrlt)
    have hx8 := (hx6.keep hn7.fr).fr hf8 (dj xb hxlt)
    refine hr8.st (j := 3) (v := .slice o' l' c') (by kernel_rfl) (by kernel_rfl) (fun x hx => by simp [Value.cells] at hx; subst hx; rfl) (by simp [Value.cells, rC]) fun H9 hr9 hf9 => ?_
    have hr9' : Blk H9 ⟨rb, 0, none⟩ (rC (2, (none, 0, 0), (none, 0, 0), (o', l', c'), 0)) := by simpa [Value.cells, rC] using hr9
    have ho9 := ho8.fr hf9 fun ad e => by
      have := (ho8.ge ad.block (by subst e; simp [blkL])).1
      simp; omega
    have hf89 : Fr [xb, rb] H H9 := ((hf26.trans' hn7.fr (fun k hk _ => hk) (by simp)).trans' hf8 (fun k hk _ => hk) (fun k hk hlt' => absurd hk (dj k hlt'))).trans' hf9 (fun k hk _ => hk) (fun k hk _ => by simp at hk; simp [hk])
    refine ⟨⟨M ++ [(v1, v2, v3)], p3, ok3, o', l', c', hr9', hx8.fr hf9 (by simp; exact fun e => hne e.symm), ho9, hf89, hrd3.1, by simp; omega, fun h => ?_, fun h => ?_⟩, ?_⟩
    · exact absurd (hno h) (by simp)
    · exact (hrl h).step hlt ((hrd1.pair (hrd2.pair hrd3)).weak fun y hy => hy)
    · show 6000 - lenAt H9 rb 3 < 6000 - lenAt H3 rb 3
      rw [lenAt3 hr2, lenAt3 hr9']
      have := ho9.1
      simp at this
      show 6000 - l' < 6000 - l
      omega

/-- Labels. -/
theorem forms2_ok {H : Heap} {rb xb : Nat} {s : ByteArray} {a : Nat} {K : Heap → Prop} (hr : Blk H ⟨rb, 0, none⟩ (rC (m0 0))) (hx : Blk H ⟨xb, 0, none⟩ (rdC s a true)) (hne : rb ≠ xb) (hs : s.size ≤ 1000000000) (ha : a ≤ s.size)
    (hk : ∀ H' m r p ok', Blk H' ⟨rb, 0, none⟩ (rC m) → Blk H' ⟨xb, 0, none⟩ (rdC s p ok') → Took H' m s a 0 r p ok' → (∀ b, b < H.size → NotIn m b) → Fr [xb, rb] H H' → K H') :
    CallH Try.prog fn_wal_forms_2 ⟨[.pointer (some ⟨rb, 0, none⟩), .pointer (some ⟨xb, 0, none⟩)]⟩ H fun v H' => v = .tuple ⟨[]⟩ ∧ K H' := by
  apply vc_wal_forms_2
  refine ⟨_, hx.ld0 (by kernel_rfl) rfl, _, hx.ld (by kernel_rfl) (j := 1) rfl, ?_⟩
  refine GetText_ok (by omega) (fun h => absurd ⟨by omega, by omega⟩ h) fun a' ea ha' t n e H1 hg hf1 => ?_
  have ea : a' = a := by omega
  subst ea
  -- the text has at most so many bytes
  have hts : t.size ≤ 1000000000 := by
    rcases hg with ⟨_, h2, _⟩ | ⟨rfl, _⟩ | ⟨rfl, _⟩
    · have := size64 h2
      rw [List.length_drop, bl_len] at this; omega
    · simp [ByteArray.size]
    · simp [ByteArray.size]
  have hps : ∀ {l : Lbls}, ChkP l → (pS l).size < 18446744073709551616 := fun hl => by
    have := printL_len hl
    rw [← bl_len, bl_pS]; omega
  have nx : ∃ p : Nat, n = p ∧ p ≤ s.size := by
    rcases hg with ⟨_, h2, h3, _⟩ | ⟨_, h3, _⟩ | ⟨_, h3, _⟩
    · rw [List.length_drop, bl_len] at h2
      exact ⟨_, h3, by omega⟩
    · exact ⟨0, h3, by omega⟩
    · exact ⟨0, h3, by omega⟩
  obtain ⟨p, rfl, hp⟩ := nx
  have main : ∀ (o : Option Addr) (l c : Nat) (xs : Lbls) (f : Int) (H2 : Heap), (∀ H', Fr [xb, rb] H2 H' → Sl encL H' o l c xs) → (∀ b, b < H.size → ∀ ad, o = some ad → ad.block ≠ b) → l ≤ 8 → Fr [] H H2 → ((f = 0 ∧ ChkP xs ∧ bl t = printL xs) ∨ (f ≠ 0 ∧ ∀ l, ChkP l → bl t ≠ printL l)) →
      ∀ w, w = (decide (e = 0) && decide (f = 0)) → ∃ H'_1, St Try.prog 22 H2 (Addr.add ⟨rb, 0, none⟩ 1) (.slice o l c) H'_1 ∧ ∃ H', St Try.prog 3 H'_1 (Addr.add ⟨xb, 0, none⟩ 1) (.int .i64 p) H' ∧ ∃ H'_2, St Try.prog 4 H' (Addr.add ⟨xb, 0, none⟩ 2) (.bool w) H'_2 ∧ Value.tuple ⟨[]⟩ = .tuple ⟨[]⟩ ∧ K H'_2 := by
    intro o l c xs f H2 hxs hbo hl8 hf2 hcase w hw
    refine (hr.keep hf2).st (j := 1) (v := .slice o l c) (by kernel_rfl) (by kernel_rfl) (fun x hx => by simp [Value.cells] at hx; subst hx; rfl) (by simp [Value.cells, rC]) fun H3 hr3 hf3 => ?_
    have hx3 := (hx.keep hf2).fr hf3 (by simp; exact fun e => hne e.symm)
    refine hx3.st (j := 1) (v := .int .i64 p) (by kernel_rfl) (by kernel_rfl) (fun x hx => by simp [Value.cells] at hx; subst hx; rfl) (by simp [Value.cells, rdC]) fun H4 hx4 hf4 => ?_
    have hr4 := hr3.fr hf4 (by simp; exact hne)
    have hx4' : Blk H4 ⟨xb, 0, none⟩ (rdC s p true) := by simpa [Value.cells, rdC] using hx4
    refine hx4'.st (j := 2) (v := .bool w) (by kernel_rfl) (by kernel_rfl) (fun x hx => by simp [Value.cells] at hx; subst hx; rfl) (by simp [Value.cells, rdC]) fun H5 hx5 hf5 => ⟨rfl, ?_⟩
    have hr5 := hr4.fr hf5 (by simp; exact hne)
    have hf35 : Fr [xb, rb] H2 H5 := (hf3.trans' hf4 (T := [xb, rb]) (fun k hk _ => by simp at hk; simp [hk]) (fun k hk _ => by simp at hk; simp [hk])).trans' hf5 (fun k hk _ => hk) (fun k hk _ => by simp at hk; simp [hk])
    refine hk H5 (0, (o, l, c), (none, 0, 0), (none, 0, 0), 0) ⟨0, xs, [], [], 0⟩ p w (by simpa [Value.cells, rC, m0] using hr5) (by simpa [Value.cells, rdC] using hx5) ?_ (fun b hb => ⟨hbo b hb, no_ad, no_ad⟩) (hf2.trans' hf35 (by simp) (fun k hk _ => hk))
    refine ⟨⟨rfl, hxs H5 hf35, Sl.zero, Sl.zero, rfl⟩, rfl, fun x hx => by simp at hx, ⟨by simp; omega, by simp, by simp⟩, ⟨hp, fun ho => ?_, fun ho y t' hy ey => ?_⟩, fun ho _ => ?_⟩
    · subst hw
      simp only [Bool.and_eq_true, decide_eq_true_eq] at ho
      obtain ⟨he, hf⟩ := ho
      refine ⟨rfl, ?_⟩
      rcases hcase with ⟨_, hC, ep⟩ | ⟨h, _⟩
      · have ept : pS xs = t := by apply bl_inj; rw [bl_pS, ep]
        rcases hg with ⟨g1, g2, g3, _⟩ | ⟨_, _, g3, _⟩ | ⟨_, _, g3, _⟩
        · have g3' : p = a' + (textL t).length := by omega
          unfold bodyR
          rw [if_pos rfl]
          show _ = textL (pS xs) ++ _
          rw [ept, g3', ← List.drop_drop]
          exact g1
        · omega
        · omega
      · exact absurd hf h
    · have hyk := hy.2
      have hF := hy.1.fine
      have hC := hy.1.chk hyk
      have e2 : bodyR y = textL (pS y.l) := by unfold bodyR; rw [if_pos hyk]
      rw [e2] at ey
      obtain ⟨g1, g2, g3⟩ := hg.of (hps hC) ey
      have et : bl t = printL y.l := by rw [g1, bl_pS]
      rcases hcase with ⟨hf, hC2, ep⟩ | ⟨_, hno⟩
      · have exs : y.l = xs := print_inj hC.2.1 hC2.2.1 (by rw [← et, ep])
        refine ⟨by rw [hw, g3, hf]; rfl, ?_, ?_⟩
        · have f1 : y.rows = [] := Classical.byContradiction fun h => by have := hF.rows h; omega
          have f2 : y.at' = 0 := Classical.byContradiction fun h => by have := hF.at0 h; omega
          have f3 : y.tombs = [] := Classical.byContradiction fun h => by have := hF.tombs h; omega
          cases y
          simp only at f1 f2 f3 hyk exs
          subst f1 f2 f3 hyk exs
          rfl
        · have g2' : p = a' + (textL (pS y.l)).length := by omega
          rw [g2', ← List.drop_drop, ey, List.drop_left]
      · exact absurd et (hno _ hC)
    · subst hw
      simp only [Bool.and_eq_true, decide_eq_true_eq] at ho
      rcases hcase with ⟨_, hC, ep⟩ | ⟨h, _⟩
      · exact hC
      · exact absurd ho.2 h
  have hxlt : xb < H.size := hx.lt
  have hrlt : rb < H.size := hr.lt
  have hf1s := hf1.size
  have nb : ∀ {H2 : Heap} {o : Option Addr} {n' c : Nat} {l : Lbls}, Own encL 44 H1.size H2 o n' c l → ∀ ad, o = some ad → ad.block ∉ [xb, rb] := fun ho ad e => by
    have := (ho.ge ad.block (by subst e; simp [blkL])).1
    simp; omega
  refine Parse_ok hts (fun hno H2 hf2 => ?_) fun l o n' c H2 hl el ho hf2 => ?_
  · have hf02 := hf1.keep0 hf2
    refine ⟨_, ((hx.keep hf02)).ld (by kernel_rfl) (j := 2) rfl, brB_of (fun _ => brB_of (fun h => ?_) (fun h => ?_)) (fun h => by cases h)⟩
    · exact main none 0 0 [] 11 H2 (fun _ _ => Sl.zero) (fun _ _ => no_ad) (by omega) hf02 (.inr ⟨by decide, hno⟩) _ (by simp)
    · exact main none 0 0 [] 11 H2 (fun _ _ => Sl.zero) (fun _ _ => no_ad) (by omega) hf02 (.inr ⟨by decide, hno⟩) _ (by simp)
  · have hf02 := hf1.keep0 hf2
    have hl8 := hl.1
    have hol := ho.1
    refine ⟨_, ((hx.keep hf02)).ld (by kernel_rfl) (j := 2) rfl, brB_of (fun _ => brB_of (fun h => ?_) (fun h => ?_)) (fun h => by cases h)⟩
    · have h : e = 0 := by simpa using h
      exact main o n' c l 0 H2 (fun H' hf' => ho.sl.fr hf' (nb ho)) (fun b hb => not_own ho (by omega)) (by omega) hf02 (.inl ⟨rfl, hl, el⟩) _ (by simp [h])
    · have h : ¬ e = 0 := by simpa using h
      exact main o n' c l 0 H2 (fun H' hf' => ho.sl.fr hf' (nb ho)) (fun b hb => not_own ho (by omega)) (by omega) hf02 (.inl ⟨rfl, hl, el⟩) _ (by simp [h])
end Go.Proofs
