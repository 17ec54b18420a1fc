/- Turned by a program of mine (portall.py) out of the same text of another seat. -/
import Derived.Test.YtijedkfekmopnaaGreatDoorZ11p
import Derived.Test.YtijedkfekmopnaaGreatDoorGvOpen
set_option linter.unusedVariables false
set_option maxRecDepth 100000
open Go Go.GV
namespace Go.Proofs

def lenAt (H : Heap) (b o : Nat) : Nat := match cellH H ⟨b, o, none⟩ with | some (.slice _ n _) => n | _ => 0
theorem lenAt2 {H : Heap} {b : Nat} {m : Rm} (h : Blk H ⟨b, 0, none⟩ (rC m)) : lenAt H b 2 = m.2.2.1.2.1 := by
  obtain ⟨b', te, e, h⟩ := h
  simp only [Addr.mk.injEq, and_true] at e
  subst e
  unfold lenAt; rw [cell_of_blk h]; rfl
theorem lenAt3 {H : Heap} {b : Nat} {m : Rm} (h : Blk H ⟨b, 0, none⟩ (rC m)) : lenAt H b 3 = m.2.2.2.1.2.1 := by
  obtain ⟨b', te, e, h⟩ := h
  simp only [Addr.mk.injEq, and_true] at e
  subst e
  unfold lenAt; rw [cell_of_blk h]; rfl
def rowP4 (x : Row) : Prop := (0 ≤ x.1 ∧ x.1 ≤ 1099511627776) ∧ (0 ≤ x.2.1 ∧ x.2.1 ≤ 200) ∧ I64 x.2.2
def tombP6 (x : Row) : Prop := (0 ≤ x.1 ∧ x.1 ≤ 200) ∧ (0 ≤ x.2.1 ∧ x.2.1 ≤ 1099511627776) ∧ 0 ≤ x.2.2 ∧ x.2.2 ≤ 1099511627776
theorem slice23r : sliceB Tryz.prog 36 111 = true := by kernel_rfl
theorem slice24r : sliceB Tryz.prog 37 115 = true := by kernel_rfl
theorem elem58 : elemB Tryz.prog 111 enc3.sz 24 = true := by kernel_rfl
theorem elem62 : elemB Tryz.prog 115 enc3.sz 24 = true := by kernel_rfl
theorem took_rows {H : Heap} {s : ByteArray} {a : Nat} {n : Int} {N p q : Nat} {M : List Row} {ok' ok'' : Bool} {o : Option Addr} {l c : Nat} (hM : Sl enc3 H o l c M) (hl : M.length ≤ 5001) (hT : ∀ x ∈ M, I64 x.2.2)
    (h : RdG s a true (fun L => uintL L.length ++ L.flatMap rowL) (fun L : List Row => L.length ≤ 5000 ∧ ∀ y ∈ L, rowP4 y) M q ok'') : Took H (1, (none, 0, 0), (o, l, c), (none, 0, 0), 0) s a 1 ⟨1, [], M, [], 0⟩ q ok'' := by
  refine ⟨⟨rfl, Sl.zero, hM, Sl.zero, rfl⟩, rfl, hT, ⟨by simp, by have := hM.len; simp; omega, by simp⟩, ⟨h.1, fun ho => ?_, fun ho y t hy e => ?_⟩, fun _ h => by omega⟩
  · obtain ⟨h1, h2⟩ := h.2.1 ho
    refine ⟨rfl, ?_⟩
    rw [h2]; unfold bodyR; rw [if_neg (by simp), if_pos rfl]
  · have hyk := hy.2
    have hF := hy.1.fine
    have e2 : bodyR y = uintL y.rows.length ++ y.rows.flatMap rowL := by unfold bodyR; rw [if_neg (by omega), if_pos hyk]
    rw [e2] at e
    obtain ⟨h1, h2, h3⟩ := h.2.2 rfl y.rows t ⟨hF.nr, fun x hx => ⟨(hF.row x hx).1, by have := (hF.row x hx).2; omega, hy.1.typ x hx⟩⟩ e
    refine ⟨h1, ?_, h3⟩
    have g1 : y.l = [] := Classical.byContradiction fun h => by have := hF.l h; omega
    have g2 : y.at' = 0 := Classical.byContradiction fun h => by have := hF.at0 h; omega
    have g3 : y.tombs = [] := Classical.byContradiction fun h => by have := hF.tombs h; omega
    cases y
    simp only at g1 g2 g3 hyk h2
    subst g1 g2 g3 hyk h2
    rfl
theorem took_tombs {H : Heap} {s : ByteArray} {a : Nat} {n : Int} {N p q : Nat} {M : List Row} {ok' ok'' : Bool} {o : Option Addr} {l c : Nat} (hM : Sl enc3 H o l c M) (hl : M.length ≤ 5001)
    (h : RdG s a true (fun L => uintL L.length ++ L.flatMap tombL) (fun L : List Row => L.length ≤ 5000 ∧ ∀ y ∈ L, tombP6 y) M q ok'') : Took H (2, (none, 0, 0), (none, 0, 0), (o, l, c), 0) s a 2 ⟨2, [], [], M, 0⟩ q ok'' := by
  refine ⟨⟨rfl, Sl.zero, Sl.zero, hM, rfl⟩, rfl, fun x hx => by simp at hx, ⟨by simp, by simp, by have := hM.len; simp; omega⟩, ⟨h.1, fun ho => ?_, fun ho y t hy e => ?_⟩, fun _ h => by omega⟩
  · obtain ⟨h1, h2⟩ := h.2.1 ho
    refine ⟨rfl, ?_⟩
    rw [h2]; unfold bodyR; rw [if_neg (by simp), if_neg (by simp), if_pos rfl]
  · have hyk := hy.2
    have hF := hy.1.fine
    have e2 : bodyR y = uintL y.tombs.length ++ y.tombs.flatMap tombL := by unfold bodyR; rw [if_neg (by omega), if_neg (by omega), if_pos hyk]
    rw [e2] at e
    obtain ⟨h1, h2, h3⟩ := h.2.2 rfl y.tombs t ⟨hF.nt, fun x hx => ⟨⟨(hF.tomb x hx).1.1, by have := (hF.tomb x hx).1.2; omega⟩, ⟨(hF.tomb x hx).2.1, by have := (hF.tomb x hx).2; omega⟩, by have := (hF.tomb x hx).2; omega, (hF.tomb x hx).2.2.2⟩⟩ e
    refine ⟨h1, ?_, h3⟩
    have g1 : y.l = [] := Classical.byContradiction fun h => by have := hF.l h; omega
    have g2 : y.at' = 0 := Classical.byContradiction fun h => by have := hF.at0 h; omega
    have g3 : y.rows = [] := Classical.byContradiction fun h => by have := hF.rows h; omega
    cases y
    simp only at g1 g2 g3 hyk h2
    subst g1 g2 g3 hyk h2
    rfl
theorem forms4_ok {H : Heap} {rb xb : Nat} {s : ByteArray} {a : Nat} {K : Heap → Prop} (hr : Blk H ⟨rb, 0, none⟩ (rC (m0 1))) (hx : Blk H ⟨xb, 0, none⟩ (rdC s a true)) (hne : rb ≠ xb) (hs : s.size ≤ 100000000000) (ha : a ≤ s.size)
    (hk : ∀ H' m r p ok', Blk H' ⟨rb, 0, none⟩ (rC m) → Blk H' ⟨xb, 0, none⟩ (rdC s p ok') → Took H' m s a 1 r p ok' → (∀ b, b < H.size → NotIn m b) → Fr [xb, rb] H H' → K H') :
    CallH Tryz.prog fn_wal_forms_4 ⟨[.pointer (some ⟨rb, 0, none⟩), .pointer (some ⟨xb, 0, none⟩)]⟩ H fun v H' => v = .tuple ⟨[]⟩ ∧ K H' := by
  apply vc_wal_forms_4
  refine number_ok (most := 5000) hx hs ha (by omega) fun H1 n p ok' hx1 hn hf1 => ?_
  obtain ⟨hrd, hv⟩ := hn.rd ha
  obtain ⟨N, rfl⟩ : ∃ N : Nat, n = N := ⟨n.toNat, by omega⟩
  have hr1 := hr.fr hf1 (by simp; exact hne)
  have hxlt : xb < H.size := hx.lt
  have hrlt : rb < H.size := hr.lt
  have hp0 := hrd.1
  refine ⟨fun _ H' => ∃ (M : List Row) (q : Nat) (okq : Bool) (o : Option Addr) (l c : Nat), Blk H' ⟨rb, 0, none⟩ (rC (1, (none, 0, 0), (o, l, c), (none, 0, 0), 0)) ∧ Blk H' ⟨xb, 0, none⟩ (rdC s q okq) ∧ Own enc3 111 H.size H' o l c M ∧
      Fr [xb, rb] H H' ∧ q ≤ s.size ∧ (∀ x ∈ M, I64 x.2.2) ∧ M.length ≤ N ∧ (ok' = false → okq = false) ∧ (ok' = true → RdL s rowL rowP4 N p q M okq),
    fun _ H' => 6000 - lenAt H' rb 2, ⟨[], p, ok', none, 0, 0, hr1, hx1, Own.nil _ _ _ _, hf1.mono (by simp), hp0, by simp, Nat.zero_le _, fun h => h, fun h => by subst h; exact RdL.start hp0⟩, ?_⟩
  rintro J H2 ⟨M, q, okq, o, l, c, hr2, hx2, ho2, hf2, hq, hMT, hMN, hno, hrl⟩
  have hlM := ho2.1
  have fin : (okq = true → N ≤ M.length) → K H2 := fun hM => by
    refine hk H2 _ _ q okq hr2 hx2 (took_rows (n := 0) (N := 0) (p := 0) (ok' := false) ho2.sl (by omega) hMT ?_) (fun b hb => ⟨no_ad, not_own ho2 hb, no_ad⟩) hf2
    exact hrd.list rfl (fun h => (hrl h).done hM) (fun h => ⟨hno h, hq⟩)
  refine ⟨fun _ H' => H' = H2 ∧ okq = true ∧ M.length < N, ?_, ?_⟩
  · refine ⟨_, hx2.ld (by kernel_rfl) (j := 2) rfl, brB_of (fun h => ⟨_, _, _, hr2.ld (by kernel_rfl) (j := 2) rfl, brB_of (fun h2 => ⟨rfl, h, ?_⟩) (fun h2 => ⟨rfl, fin fun _ => ?_⟩)⟩) (fun h => ⟨rfl, fin fun hh => ?_⟩)⟩
    · have h2' : (l : Int) < N := of_decide_eq_true h2
      omega
    · have h2' : ¬ (l : Int) < N := of_decide_eq_false h2
      omega
    · rw [hh] at h; cases h
  · rintro J H3 ⟨rfl, rfl, hlt⟩
    refine number_ok (most := 1099511627776) hx2 hs hq (by omega) fun H4 v1 p1 ok1 hx4 hn1 hf4 => ?_
    obtain ⟨hrd1, hv1⟩ := hn1.rd hq
    refine number_ok (most := 200) hx4 hs hrd1.1 (by omega) fun H5 v2 p2 ok2 hx5 hn2 hf5 => ?_
    obtain ⟨hrd2, hv2⟩ := hn2.rd hrd1.1
    have hr5 := (hr2.fr hf4 (by simp; exact hne)).fr hf5 (by simp; exact hne)
    refine ⟨_, _, _, hr5.ld (by kernel_rfl) (j := 2) rfl, ?_⟩
    refine rvalue_ok hx5 hs hrd2.1 fun H6 v3 p3 ok3 hx6 hn3 hf6 => ?_
    obtain ⟨hrd3, hv3⟩ := hn3.rd hrd2.1
    have hr6 := hr5.fr hf6 (by simp; exact hne)
    refine ⟨hr6.ld (by kernel_rfl) (j := 2) rfl, ?_⟩
    have hob := ho2.ge
    have ho6 : Own enc3 111 H.size H6 o l c M := ((ho2.fr hf4 fun ad e => ?_).fr hf5 fun ad e => ?_).fr hf6 fun ad e => ?_
    rotate_left
    iterate 3
      · have := (hob ad.block (by subst e; simp [blkL])).1
        simp; omega
    have hf26 : Fr [xb, rb] H H6 := ((hf2.trans' hf4 (fun k hk _ => hk) (by simp)).trans' hf5 (fun k hk _ => hk) (by simp)).trans' hf6 (fun k hk _ => hk) (by simp)
    intro b H7 hn7
    have hr7 := hr6.keep hn7.fr
    refine ⟨hr7.ld (by kernel_rfl) (j := 2) rfl, ?_⟩
    have hf7s := hf26.size
    have hn7s := hn7.size
    refine ap_raw (n := l) slice23r elem58 (ho6.keep hn7.fr) (sl_one enc3 ((v1, v2, v3) : Row) hn7 rfl) (by omega) (by omega) fun o' l' c' H8 ho8 hf8 => ?_
    have hgo := (ho6.keep hn7.fr).ge
    have dj : ∀ k, k < H.size → k ∉ blkL o := fun k hk hb => by have := (hgo k hb).1; omega
    have hr8 := hr7.fr hf8 (dj rb hrlt)
    have hx8 := (hx6.keep hn7.fr).fr hf8 (dj xb hxlt)
    refine hr8.st (j := 2) (v := .slice o' l' c') (by kernel_rfl) (by kernel_rfl) (fun x hx => by simp [Value.cells] at hx; subst hx; rfl) (by simp [Value.cells, rC]) fun H9 hr9 hf9 => ?_
    have hr9' : Blk H9 ⟨rb, 0, none⟩ (rC (1, (none, 0, 0), (o', l', c'), (none, 0, 0), 0)) := by simpa [Value.cells, rC] using hr9
    have ho9 := ho8.fr hf9 fun ad e => by
      have := (ho8.ge ad.block (by subst e; simp [blkL])).1
      simp; omega
    have hf89 : Fr [xb, rb] H H9 := ((hf26.trans' hn7.fr (fun k hk _ => hk) (by simp)).trans' hf8 (fun k hk _ => hk) (fun k hk hlt' => absurd hk (dj k hlt'))).trans' hf9 (fun k hk _ => hk) (fun k hk _ => by simp at hk; simp [hk])
    refine ⟨⟨M ++ [(v1, v2, v3)], p3, ok3, o', l', c', hr9', hx8.fr hf9 (by simp; exact fun e => hne e.symm), ho9, hf89, hrd3.1, fun x hx => ?_, by simp; omega, fun h => ?_, fun h => ?_⟩, ?_⟩
    · rcases List.mem_append.1 hx with hx | hx
      · exact hMT x hx
      · simp at hx; subst hx; exact hv3
    · exact absurd (hno h) (by simp)
    · exact (hrl h).step hlt ((hrd1.pair (hrd2.pair hrd3)).weak fun y hy => hy)
    · show 6000 - lenAt H9 rb 2 < 6000 - lenAt H3 rb 2
      rw [lenAt2 hr2, lenAt2 hr9']
      have := ho9.1
      simp at this
      show 6000 - l' < 6000 - l
      omega
theorem forms6_ok {H : Heap} {rb xb : Nat} {s : ByteArray} {a : Nat} {K : Heap → Prop} (hr : Blk H ⟨rb, 0, none⟩ (rC (m0 2))) (hx : Blk H ⟨xb, 0, none⟩ (rdC s a true)) (hne : rb ≠ xb) (hs : s.size ≤ 100000000000) (ha : a ≤ s.size)
    (hk : ∀ H' m r p ok', Blk H' ⟨rb, 0, none⟩ (rC m) → Blk H' ⟨xb, 0, none⟩ (rdC s p ok') → Took H' m s a 2 r p ok' → (∀ b, b < H.size → NotIn m b) → Fr [xb, rb] H H' → K H') :
    CallH Tryz.prog fn_wal_forms_6 ⟨[.pointer (some ⟨rb, 0, none⟩), .pointer (some ⟨xb, 0, none⟩)]⟩ H fun v H' => v = .tuple ⟨[]⟩ ∧ K H' := by
  apply vc_wal_forms_6
  refine number_ok (most := 5000) hx hs ha (by omega) fun H1 n p ok' hx1 hn hf1 => ?_
  obtain ⟨hrd, hv⟩ := hn.rd ha
  obtain ⟨N, rfl⟩ : ∃ N : Nat, n = N := ⟨n.toNat, by omega⟩
  have hr1 := hr.fr hf1 (by simp; exact hne)
  have hxlt : xb < H.size := hx.lt
  have hrlt : rb < H.size := hr.lt
  have hp0 := hrd.1
  refine ⟨fun _ H' => ∃ (M : List Row) (q : Nat) (okq : Bool) (o : Option Addr) (l c : Nat), Blk H' ⟨rb, 0, none⟩ (rC (2, (none, 0, 0), (none, 0, 0), (o, l, c), 0)) ∧ Blk H' ⟨xb, 0, none⟩ (rdC s q okq) ∧ Own enc3 115 H.size H' o l c M ∧
      Fr [xb, rb] H H' ∧ q ≤ s.size ∧ M.length ≤ N ∧ (ok' = false → okq = false) ∧ (ok' = true → RdL s tombL tombP6 N p q M okq),
    fun _ H' => 6000 - lenAt H' rb 3, ⟨[], p, ok', none, 0, 0, hr1, hx1, Own.nil _ _ _ _, hf1.mono (by simp), hp0, Nat.zero_le _, fun h => h, fun h => by subst h; exact RdL.start hp0⟩, ?_⟩
  rintro J H2 ⟨M, q, okq, o, l, c, hr2, hx2, ho2, hf2, hq, hMN, hno, hrl⟩
  have hlM := ho2.1
  have fin : (okq = true → N ≤ M.length) → K H2 := fun hM => by
    refine hk H2 _ _ q okq hr2 hx2 (took_tombs (n := 0) (N := 0) (p := 0) (ok' := false) ho2.sl (by omega) ?_) (fun b hb => ⟨no_ad, no_ad, not_own ho2 hb⟩) hf2
    exact hrd.list rfl (fun h => (hrl h).done hM) (fun h => ⟨hno h, hq⟩)
  refine ⟨fun _ H' => H' = H2 ∧ okq = true ∧ M.length < N, ?_, ?_⟩
  · refine ⟨_, hx2.ld (by kernel_rfl) (j := 2) rfl, brB_of (fun h => ⟨_, _, _, hr2.ld (by kernel_rfl) (j := 3) rfl, brB_of (fun h2 => ⟨rfl, h, ?_⟩) (fun h2 => ⟨rfl, fin fun _ => ?_⟩)⟩) (fun h => ⟨rfl, fin fun hh => ?_⟩)⟩
    · have h2' : (l : Int) < N := of_decide_eq_true h2
      omega
    · have h2' : ¬ (l : Int) < N := of_decide_eq_false h2
      omega
    · rw [hh] at h; cases h
  · rintro J H3 ⟨rfl, rfl, hlt⟩
    refine number_ok (most := 200) hx2 hs hq (by omega) fun H4 v1 p1 ok1 hx4 hn1 hf4 => ?_
    obtain ⟨hrd1, hv1⟩ := hn1.rd hq
    refine number_ok (most := 1099511627776) hx4 hs hrd1.1 (by omega) fun H5 v2 p2 ok2 hx5 hn2 hf5 => ?_
    obtain ⟨hrd2, hv2⟩ := hn2.rd hrd1.1
    refine number_ok (most := 1099511627776) hx5 hs hrd2.1 (by omega) fun H6 v3 p3 ok3 hx6 hn3 hf6 => ?_
    obtain ⟨hrd3, hv3⟩ := hn3.rd hrd2.1
    have hr6 := ((hr2.fr hf4 (by simp; exact hne)).fr hf5 (by simp; exact hne)).fr hf6 (by simp; exact hne)
    refine ⟨_, _, _, hr6.ld (by kernel_rfl) (j := 3) rfl, ?_⟩
    have hob := ho2.ge
    have ho6 : Own enc3 115 H.size H6 o l c M := ((ho2.fr hf4 fun ad e => ?_).fr hf5 fun ad e => ?_).fr hf6 fun ad e => ?_
    rotate_left
    iterate 3
      · have := (hob ad.block (by subst e; simp [blkL])).1
        simp; omega
    have hf26 : Fr [xb, rb] H H6 := ((hf2.trans' hf4 (fun k hk _ => hk) (by simp)).trans' hf5 (fun k hk _ => hk) (by simp)).trans' hf6 (fun k hk _ => hk) (by simp)
    intro b H7 hn7
    have hr7 := hr6.keep hn7.fr
    have hf7s := hf26.size
    have hn7s := hn7.size
    refine ap_raw (n := l) slice24r elem62 (ho6.keep hn7.fr) (sl_one enc3 ((v1, v2, v3) : Row) hn7 rfl) (by omega) (by omega) fun o' l' c' H8 ho8 hf8 => ?_
    have hgo := (ho6.keep hn7.fr).ge
    have dj : ∀ k, k < H.size → k ∉ blkL o := fun k hk hb => by have := (hgo k hb).1; omega
    have hr8 := hr7.fr hf8 (dj rb hrlt)
    have hx8 := (hx6.keep hn7.fr).fr hf8 (dj xb hxlt)
    refine hr8.st (j := 3) (v := .slice o' l' c') (by kernel_rfl) (by kernel_rfl) (fun x hx => by simp [Value.cells] at hx; subst hx; rfl) (by simp [Value.cells, rC]) fun H9 hr9 hf9 => ?_
    have hr9' : Blk H9 ⟨rb, 0, none⟩ (rC (2, (none, 0, 0), (none, 0, 0), (o', l', c'), 0)) := by simpa [Value.cells, rC] using hr9
    have ho9 := ho8.fr hf9 fun ad e => by
      have := (ho8.ge ad.block (by subst e; simp [blkL])).1
      simp; omega
    have hf89 : Fr [xb, rb] H H9 := ((hf26.trans' hn7.fr (fun k hk _ => hk) (by simp)).trans' hf8 (fun k hk _ => hk) (fun k hk hlt' => absurd hk (dj k hlt'))).trans' hf9 (fun k hk _ => hk) (fun k hk _ => by simp at hk; simp [hk])
    refine ⟨⟨M ++ [(v1, v2, v3)], p3, ok3, o', l', c', hr9', hx8.fr hf9 (by simp; exact fun e => hne e.symm), ho9, hf89, hrd3.1, by simp; omega, fun h => ?_, fun h => ?_⟩, ?_⟩
    · exact absurd (hno h) (by simp)
    · exact (hrl h).step hlt ((hrd1.pair (hrd2.pair hrd3)).weak fun y hy => hy)
    · show 6000 - lenAt H9 rb 3 < 6000 - lenAt H3 rb 3
      rw [lenAt3 hr2, lenAt3 hr9']
      have := ho9.1
      simp at this
      show 6000 - l' < 6000 - l
      omega

theorem forms2_ok {H : Heap} {rb xb : Nat} {s : ByteArray} {a : Nat} {K : Heap → Prop} (hr : Blk H ⟨rb, 0, none⟩ (rC (m0 0))) (hx : Blk H ⟨xb, 0, none⟩ (rdC s a true)) (hne : rb ≠ xb) (hs : s.size ≤ 1000000000) (ha : a ≤ s.size)
    (hk : ∀ H' m r p ok', Blk H' ⟨rb, 0, none⟩ (rC m) → Blk H' ⟨xb, 0, none⟩ (rdC s p ok') → Took H' m s a 0 r p ok' → (∀ b, b < H.size → NotIn m b) → Fr [xb, rb] H H' → K H') :
    CallH Tryz.prog fn_wal_forms_2 ⟨[.pointer (some ⟨rb, 0, none⟩), .pointer (some ⟨xb, 0, none⟩)]⟩ H fun v H' => v = .tuple ⟨[]⟩ ∧ K H' := by
  apply vc_wal_forms_2
  refine ⟨_, hx.ld0 (by kernel_rfl) rfl, _, hx.ld (by kernel_rfl) (j := 1) rfl, ?_⟩
  refine GetText_ok (by omega) (fun h => absurd ⟨by omega, by omega⟩ h) fun a' ea ha' t n e H1 hg hf1 => ?_
  have ea : a' = a := by omega
  subst ea
  have hts : t.size ≤ 1000000000 := by
    rcases hg with ⟨_, h2, _⟩ | ⟨rfl, _⟩ | ⟨rfl, _⟩
    · have := size64 h2
      rw [List.length_drop, bl_len] at this; omega
    · simp [ByteArray.size]
    · simp [ByteArray.size]
  have hps : ∀ {l : Lbls}, ChkP l → (pS l).size < 18446744073709551616 := fun hl => by
    have := printL_len hl
    rw [← bl_len, bl_pS]; omega
  have nx : ∃ p : Nat, n = p ∧ p ≤ s.size := by
    rcases hg with ⟨_, h2, h3, _⟩ | ⟨_, h3, _⟩ | ⟨_, h3, _⟩
    · rw [List.length_drop, bl_len] at h2
      exact ⟨_, h3, by omega⟩
    · exact ⟨0, h3, by omega⟩
    · exact ⟨0, h3, by omega⟩
  obtain ⟨p, rfl, hp⟩ := nx
  have main : ∀ (o : Option Addr) (l c : Nat) (xs : Lbls) (f : Int) (H2 : Heap), (∀ H', Fr [xb, rb] H2 H' → Sl encL H' o l c xs) → (∀ b, b < H.size → ∀ ad, o = some ad → ad.block ≠ b) → l ≤ 8 → Fr [] H H2 → ((f = 0 ∧ ChkP xs ∧ bl t = printL xs) ∨ (f ≠ 0 ∧ ∀ l, ChkP l → bl t ≠ printL l)) →
      ∀ w, w = (decide (e = 0) && decide (f = 0)) → ∃ H'_1, St Tryz.prog 35 H2 (Addr.add ⟨rb, 0, none⟩ 1) (.slice o l c) H'_1 ∧ ∃ H', St Tryz.prog 3 H'_1 (Addr.add ⟨xb, 0, none⟩ 1) (.int .i64 p) H' ∧ ∃ H'_2, St Tryz.prog 4 H' (Addr.add ⟨xb, 0, none⟩ 2) (.bool w) H'_2 ∧ Value.tuple ⟨[]⟩ = .tuple ⟨[]⟩ ∧ K H'_2 := by
    intro o l c xs f H2 hxs hbo hl8 hf2 hcase w hw
    refine (hr.keep hf2).st (j := 1) (v := .slice o l c) (by kernel_rfl) (by kernel_rfl) (fun x hx => by simp [Value.cells] at hx; subst hx; rfl) (by simp [Value.cells, rC]) fun H3 hr3 hf3 => ?_
    have hx3 := (hx.keep hf2).fr hf3 (by simp; exact fun e => hne e.symm)
    refine hx3.st (j := 1) (v := .int .i64 p) (by kernel_rfl) (by kernel_rfl) (fun x hx => by simp [Value.cells] at hx; subst hx; rfl) (by simp [Value.cells, rdC]) fun H4 hx4 hf4 => ?_
    have hr4 := hr3.fr hf4 (by simp; exact hne)
    have hx4' : Blk H4 ⟨xb, 0, none⟩ (rdC s p true) := by simpa [Value.cells, rdC] using hx4
    refine hx4'.st (j := 2) (v := .bool w) (by kernel_rfl) (by kernel_rfl) (fun x hx => by simp [Value.cells] at hx; subst hx; rfl) (by simp [Value.cells, rdC]) fun H5 hx5 hf5 => ⟨rfl, ?_⟩
    have hr5 := hr4.fr hf5 (by simp; exact hne)
    have hf35 : Fr [xb, rb] H2 H5 := (hf3.trans' hf4 (T := [xb, rb]) (fun k hk _ => by simp at hk; simp [hk]) (fun k hk _ => by simp at hk; simp [hk])).trans' hf5 (fun k hk _ => hk) (fun k hk _ => by simp at hk; simp [hk])
    refine hk H5 (0, (o, l, c), (none, 0, 0), (none, 0, 0), 0) ⟨0, xs, [], [], 0⟩ p w (by simpa [Value.cells, rC, m0] using hr5) (by simpa [Value.cells, rdC] using hx5) ?_ (fun b hb => ⟨hbo b hb, no_ad, no_ad⟩) (hf2.trans' hf35 (by simp) (fun k hk _ => hk))
    refine ⟨⟨rfl, hxs H5 hf35, Sl.zero, Sl.zero, rfl⟩, rfl, fun x hx => by simp at hx, ⟨by simp; omega, by simp, by simp⟩, ⟨hp, fun ho => ?_, fun ho y t' hy ey => ?_⟩, fun ho _ => ?_⟩
    · subst hw
      simp only [Bool.and_eq_true, decide_eq_true_eq] at ho
      obtain ⟨he, hf⟩ := ho
      refine ⟨rfl, ?_⟩
      rcases hcase with ⟨_, hC, ep⟩ | ⟨h, _⟩
      · have ept : pS xs = t := by apply bl_inj; rw [bl_pS, ep]
        rcases hg with ⟨g1, g2, g3, _⟩ | ⟨_, _, g3, _⟩ | ⟨_, _, g3, _⟩
        · have g3' : p = a' + (textL t).length := by omega
          unfold bodyR
          rw [if_pos rfl]
          show _ = textL (pS xs) ++ _
          rw [ept, g3', ← List.drop_drop]
          exact g1
        · omega
        · omega
      · exact absurd hf h
    · have hyk := hy.2
      have hF := hy.1.fine
      have hC := hy.1.chk hyk
      have e2 : bodyR y = textL (pS y.l) := by unfold bodyR; rw [if_pos hyk]
      rw [e2] at ey
      obtain ⟨g1, g2, g3⟩ := hg.of (hps hC) ey
      have et : bl t = printL y.l := by rw [g1, bl_pS]
      rcases hcase with ⟨hf, hC2, ep⟩ | ⟨_, hno⟩
      · have exs : y.l = xs := print_inj hC.2.1 hC2.2.1 (by rw [← et, ep])
        refine ⟨by rw [hw, g3, hf]; rfl, ?_, ?_⟩
        · have f1 : y.rows = [] := Classical.byContradiction fun h => by have := hF.rows h; omega
          have f2 : y.at' = 0 := Classical.byContradiction fun h => by have := hF.at0 h; omega
          have f3 : y.tombs = [] := Classical.byContradiction fun h => by have := hF.tombs h; omega
          cases y
          simp only at f1 f2 f3 hyk exs
          subst f1 f2 f3 hyk exs
          rfl
        · have g2' : p = a' + (textL (pS y.l)).length := by omega
          rw [g2', ← List.drop_drop, ey, List.drop_left]
      · exact absurd et (hno _ hC)
    · subst hw
      simp only [Bool.and_eq_true, decide_eq_true_eq] at ho
      rcases hcase with ⟨_, hC, ep⟩ | ⟨h, _⟩
      · exact hC
      · exact absurd ho.2 h
  have hxlt : xb < H.size := hx.lt
  have hrlt : rb < H.size := hr.lt
  have hf1s := hf1.size
  have nb : ∀ {H2 : Heap} {o : Option Addr} {n' c : Nat} {l : Lbls}, Own encL 55 H1.size H2 o n' c l → ∀ ad, o = some ad → ad.block ∉ [xb, rb] := fun ho ad e => by
    have := (ho.ge ad.block (by subst e; simp [blkL])).1
    simp; omega
  refine Parse_ok hts (fun hno H2 hf2 => ?_) fun l o n' c H2 hl el ho hf2 => ?_
  · have hf02 := hf1.keep0 hf2
    refine ⟨_, ((hx.keep hf02)).ld (by kernel_rfl) (j := 2) rfl, brB_of (fun _ => brB_of (fun h => ?_) (fun h => ?_)) (fun h => by cases h)⟩
    · exact main none 0 0 [] 11 H2 (fun _ _ => Sl.zero) (fun _ _ => no_ad) (by omega) hf02 (.inr ⟨by decide, hno⟩) _ (by simp)
    · exact main none 0 0 [] 11 H2 (fun _ _ => Sl.zero) (fun _ _ => no_ad) (by omega) hf02 (.inr ⟨by decide, hno⟩) _ (by simp)
  · have hf02 := hf1.keep0 hf2
    have hl8 := hl.1
    have hol := ho.1
    refine ⟨_, ((hx.keep hf02)).ld (by kernel_rfl) (j := 2) rfl, brB_of (fun _ => brB_of (fun h => ?_) (fun h => ?_)) (fun h => by cases h)⟩
    · have h : e = 0 := by simpa using h
      exact main o n' c l 0 H2 (fun H' hf' => ho.sl.fr hf' (nb ho)) (fun b hb => not_own ho (by omega)) (by omega) hf02 (.inl ⟨rfl, hl, el⟩) _ (by simp [h])
    · have h : ¬ e = 0 := by simpa using h
      exact main o n' c l 0 H2 (fun H' hf' => ho.sl.fr hf' (nb ho)) (fun b hb => not_own ho (by omega)) (by omega) hf02 (.inl ⟨rfl, hl, el⟩) _ (by simp [h])
end Go.Proofs
set_option linter.unusedVariables false
set_option maxRecDepth 100000
open Go Go.GV
namespace Go.Proofs

theorem st26 {H : Heap} {b : Nat} {m m' : Rm} {X : Heap → Prop} (h : Blk H ⟨b, 0, none⟩ (rC m')) (k : ∀ H', Blk H' ⟨b, 0, none⟩ (rC m) → Fr [b] H H' → X H') : ∃ H', St Tryz.prog 39 H ⟨b, 0, none⟩ (.agg ⟨rC m⟩) H' ∧ X H' :=
  h.st0 (v := .agg ⟨rC m⟩) (by kernel_rfl) (by kernel_rfl) (fun x hx => by simp [Value.cells, rC] at hx; rcases hx with rfl | rfl | rfl | rfl | rfl <;> rfl) (by simp [Value.cells, rC]) fun H' hb hf => k H' (by simpa [Value.cells, rC] using hb) hf
theorem RcH.gone {H H' : Heap} {m : Rm} {r : Rc} {b : Nat} (h : RcH H m r) (hf : Fr [b] H H') (hn : NotIn m b) : RcH H' m r :=
  ⟨h.k, h.l.fr hf (fun ad e => by simp; exact hn.1 ad e), h.rows.fr hf (fun ad e => by simp; exact hn.2.1 ad e), h.tombs.fr hf (fun ad e => by simp; exact hn.2.2 ad e), h.at'⟩
theorem Took.all {H : Heap} {m : Rm} {s : ByteArray} {p q : Nat} {k : Int} {r : Rc} {ok' ok'' : Bool} (hrd : RdG s 0 true uL (fun v => 0 ≤ v ∧ v ≤ (3 : Nat)) k p true) (h : Took H m s p k r q ok'') : RdG s 0 true encR GoodR r q ok'' := by
  refine ⟨h.rd.1, fun ho => ?_, fun _ y t hy e => ?_⟩
  · obtain ⟨_, h1⟩ := h.rd.2.1 ho
    obtain ⟨_, h2⟩ := hrd.2.1 rfl
    refine ⟨rfl, ?_⟩
    rw [h2, h1, ← List.append_assoc]
    unfold encR
    rw [h.kind]
  · unfold encR at e
    rw [List.append_assoc] at e
    obtain ⟨_, h1, h2⟩ := hrd.2.2 rfl y.k _ ⟨hy.fine.k.1, by have := hy.fine.k.2; omega⟩ e
    exact h.rd.2.2 rfl y t ⟨hy, h1⟩ h2.symm
end Go.Proofs
set_option linter.unusedVariables false
set_option maxRecDepth 100000
open Go Go.GV
namespace Go.Proofs

theorem GU.yes {s : ByteArray} {a most : Nat} {v n e : Int} (hm : most < 18446744073709551616) (h : GU ((bl s).drop a) a v n e) (ha : a ≤ s.size) (h1 : e = 0) : ∃ p w : Nat, v = w ∧ n = p ∧ a < p ∧ p ≤ s.size ∧ w < 18446744073709551616 ∧ (bl s).drop a = uintL w ++ (bl s).drop p := by
  rcases h with ⟨w, rfl, hw, h2, h3, rfl, _⟩ | ⟨_, _, h, _⟩ | ⟨_, _, h, _⟩
  · have := uintL_pos w
    rw [List.length_drop, bl_len] at h3
    rw [List.drop_drop] at h2
    exact ⟨_, w, rfl, rfl, by omega, by omega, hw, h2⟩
  · omega
  · omega
theorem GU.rd {s : ByteArray} {a most : Nat} {v n e : Int} (hm : most < 18446744073709551616) (h : GU ((bl s).drop a) a v n e) (ha : a ≤ s.size) :
    (¬ (e = 0 ∧ v ≤ most) → RdG s a true uL (fun v => 0 ≤ v ∧ v ≤ most) v a false) ∧ (e = 0 → v ≤ most → ∃ p : Nat, n = p ∧ p ≤ s.size ∧ 0 ≤ v ∧ RdG s a true uL (fun v => 0 ≤ v ∧ v ≤ most) v p true) := by
  refine ⟨fun hn => ⟨ha, (fun h => by cases h), fun _ y t hy ey => ?_⟩, fun he hv => ?_⟩
  · obtain ⟨g1, _, g3⟩ := h.of (n := y.toNat) (by omega) ey
    exact absurd ⟨g3, by omega⟩ hn
  · obtain ⟨p, w, rfl, rfl, h1, h2, h3, h4⟩ := h.yes hm ha he
    refine ⟨p, rfl, h2, by omega, h2, fun _ => ⟨rfl, by rw [h4]; simp [uL]⟩, fun _ y t hy ey => ?_⟩
    rw [h4] at ey
    obtain ⟨e1, e2⟩ := uint_eq (show uintL w ++ (bl s).drop p = uintL y.toNat ++ t from ey)
    exact ⟨rfl, by omega, e2.symm⟩
abbrev GT40 (v : Int) : Prop := 0 ≤ v ∧ v ≤ ((1099511627776 : Nat) : Int)
theorem _root_.Go.GV.Sl.at1 {H : Heap} {a : Option Addr} {n c : Nat} {x y : Int} {xs : List Int} (h : Sl encInt H a n c (x :: y :: xs)) {b : Bool} (hb : b = true) {X : Addr → Prop}
    (hk : ∀ ad, a = some ad → Ld Tryz.prog 3 H (ad.add 1) (.int .i64 y) → X ad) : exSome a fun ad => chk b (X ad) :=
  h.get (i := 1) (k := 1) rfl rfl hb fun ad e hc => hk ad e (ld_one (by kernel_rfl) hc)
theorem _root_.Go.GV.Sl.at2 {H : Heap} {a : Option Addr} {n c : Nat} {x y z : Int} {xs : List Int} (h : Sl encInt H a n c (x :: y :: z :: xs)) {b : Bool} (hb : b = true) {X : Addr → Prop}
    (hk : ∀ ad, a = some ad → Ld Tryz.prog 3 H (ad.add 2) (.int .i64 z) → X ad) : exSome a fun ad => chk b (X ad) :=
  h.get (i := 2) (k := 2) rfl rfl hb fun ad e hc => hk ad e (ld_one (by kernel_rfl) hc)
theorem _root_.Go.GV.Sl.at0 {H : Heap} {a : Option Addr} {n c : Nat} {x : Int} {xs : List Int} (h : Sl encInt H a n c (x :: xs)) {b : Bool} (hb : b = true) {X : Addr → Prop}
    (hk : ∀ ad, a = some ad → Ld Tryz.prog 3 H ad (.int .i64 x) → X ad) : exSome a fun ad => chk b (X ad) :=
  h.head hb fun ad e hc => hk ad e (ld_one (by kernel_rfl) hc)
theorem st33 {H : Heap} {b : Nat} {m m' : Rm} {X : Heap → Prop} (h : Blk H ⟨b, 0, none⟩ (rC m')) (k : ∀ H', Blk H' ⟨b, 0, none⟩ (rC m) → Fr [b] H H' → X H') : ∃ H', St Tryz.prog 77 H ⟨b, 0, none⟩ (.agg ⟨rC m⟩) H' ∧ X H' :=
  h.st0 (v := .agg ⟨rC m⟩) (by kernel_rfl) (by kernel_rfl) (fun x hx => by simp [Value.cells, rC] at hx; rcases hx with rfl | rfl | rfl | rfl | rfl <;> rfl) (by simp [Value.cells, rC]) fun H' hb hf => k H' (by simpa [Value.cells, rC] using hb) hf
def CmpR (s : ByteArray) (r : Rc) (ok : Bool) : Prop := ∀ y, GoodR y → bl s = encR y → ok = true ∧ y = r
end Go.Proofs
set_option linter.unusedVariables false
set_option maxRecDepth 100000
open Go Go.GV
namespace Go.Proofs

def HeadR (s : ByteArray) (k : Int) (p : Nat) : Prop := p ≤ s.size ∧ ∀ y, GoodR y → bl s = encR y → y.k = k ∧ (bl s).drop p = bodyR y
theorem sole0 {y : Rc} (hF : FineP y) (h : y.k = 0) : y = ⟨0, y.l, [], [], 0⟩ := by
  have f1 : y.rows = [] := Classical.byContradiction fun h => by have := hF.rows h; omega
  have f2 : y.at' = 0 := Classical.byContradiction fun h => by have := hF.at0 h; omega
  have f3 : y.tombs = [] := Classical.byContradiction fun h => by have := hF.tombs h; omega
  cases y; simp_all
theorem sole1 {y : Rc} (hF : FineP y) (h : y.k = 1) : y = ⟨1, [], y.rows, [], 0⟩ := by
  have f1 : y.l = [] := Classical.byContradiction fun h => by have := hF.l h; omega
  have f2 : y.at' = 0 := Classical.byContradiction fun h => by have := hF.at0 h; omega
  have f3 : y.tombs = [] := Classical.byContradiction fun h => by have := hF.tombs h; omega
  cases y; simp_all
theorem sole2 {y : Rc} (hF : FineP y) (h : y.k = 2) : y = ⟨2, [], [], y.tombs, 0⟩ := by
  have f1 : y.l = [] := Classical.byContradiction fun h => by have := hF.l h; omega
  have f2 : y.at' = 0 := Classical.byContradiction fun h => by have := hF.at0 h; omega
  have f3 : y.rows = [] := Classical.byContradiction fun h => by have := hF.rows h; omega
  cases y; simp_all
theorem sole3 {y : Rc} (hF : FineP y) (h : y.k = 3) : y = ⟨3, [], [], [], y.at'⟩ := by
  have f1 : y.l = [] := Classical.byContradiction fun h => by have := hF.l h; omega
  have f2 : y.tombs = [] := Classical.byContradiction fun h => by have := hF.tombs h; omega
  have f3 : y.rows = [] := Classical.byContradiction fun h => by have := hF.rows h; omega
  cases y; simp_all
def listOf (y : Rc) : List Row := if y.k = 1 then y.rows else y.tombs
def formOf (k : Int) (x : Row) : List UInt8 := if k = 1 then rowL x else tombL x
def goodOf (k : Int) (x : Row) : Prop := if k = 1 then rowP4 x else (GT40 x.1 ∧ GT40 x.2.1 ∧ GT40 x.2.2)
def recOf (k : Int) (M : List Row) : Rc := if k = 1 then ⟨k, [], M, [], 0⟩ else ⟨k, [], [], M, 0⟩
def LstR (s : ByteArray) (k : Int) (N q : Nat) (M : List Row) : Prop :=
  q ≤ s.size ∧ ∀ y, GoodR y → bl s = encR y → (k = 1 ∨ k = 2) ∧ N ≤ 5000 ∧ (listOf y).length = N ∧ y = recOf k (listOf y) ∧ (∀ x ∈ listOf y, goodOf k x) ∧ ∃ R, listOf y = M ++ R ∧ (bl s).drop q = R.flatMap (formOf k)
theorem LstR.start {s : ByteArray} {k : Int} {p q N : Nat} (hk : k ≠ 0 ∧ k ≠ 3) (h : HeadR s k p) (h' : RdG s p true uL GT40 (N : Int) q true) : LstR s k N q [] := by
  refine ⟨h'.1, fun y hy e => ?_⟩
  obtain ⟨h1, h2⟩ := h.2 y hy e
  have hF := hy.fine
  have hkk := hF.k
  rcases (by omega : k = 1 ∨ k = 2) with rfl | rfl
  · have es := sole1 hF h1
    have eb : bodyR y = uintL y.rows.length ++ y.rows.flatMap rowL := by unfold bodyR; rw [if_neg (by omega), if_pos h1]
    rw [eb] at h2
    obtain ⟨_, h3, h4⟩ := h'.2.2 rfl (y.rows.length : Int) _ ⟨by omega, by have := hF.nr; omega⟩ (by simpa [uL] using h2)
    have el : listOf y = y.rows := by unfold listOf; rw [if_pos h1]
    have hn := hF.nr
    rw [el]
    refine ⟨.inl rfl, by omega, by omega, by rw [show recOf 1 y.rows = ⟨1, [], y.rows, [], 0⟩ from if_pos rfl]; exact es, fun x hx => ?_, y.rows, rfl, ?_⟩
    · show rowP4 x
      exact ⟨(hF.row x hx).1, ⟨(hF.row x hx).2.1, by have := (hF.row x hx).2.2; omega⟩, hy.typ x hx⟩
    · rw [← h4]; rfl
  · have es := sole2 hF h1
    have eb : bodyR y = uintL y.tombs.length ++ y.tombs.flatMap tombL := by unfold bodyR; rw [if_neg (by omega), if_neg (by omega), if_pos h1]
    rw [eb] at h2
    obtain ⟨_, h3, h4⟩ := h'.2.2 rfl (y.tombs.length : Int) _ ⟨by omega, by have := hF.nt; omega⟩ (by simpa [uL] using h2)
    have el : listOf y = y.tombs := by unfold listOf; rw [if_neg (by omega)]
    have hn := hF.nt
    rw [el]
    refine ⟨.inr rfl, by omega, by omega, by rw [show recOf 2 y.tombs = ⟨2, [], [], y.tombs, 0⟩ from if_neg (by decide)]; exact es, fun x hx => ?_, y.tombs, rfl, ?_⟩
    · show GT40 x.1 ∧ GT40 x.2.1 ∧ GT40 x.2.2
      have := hF.tomb x hx
      exact ⟨⟨this.1.1, by have := this.1.2; omega⟩, ⟨this.2.1, by have := this.2; omega⟩, by have := this.2; omega, by have := this.2; omega⟩
    · rw [← h4]; rfl
theorem LstR.step {s : ByteArray} {k : Int} {N q q' : Nat} {M : List Row} {x : Row} (h : LstR s k N q M) (hM : M.length < N) (h' : RdG s q true (formOf k) (goodOf k) x q' true) : LstR s k N q' (M ++ [x]) := by
  refine ⟨h'.1, fun y hy e => ?_⟩
  obtain ⟨h1, h2, h3, h4, h5, R, h6, h7⟩ := h.2 y hy e
  refine ⟨h1, h2, h3, h4, h5, ?_⟩
  cases R with
  | nil => rw [h6] at h3; simp at h3; omega
  | cons z R =>
    rw [List.flatMap_cons] at h7
    obtain ⟨_, h8, h9⟩ := h'.2.2 rfl z _ (h5 z (by rw [h6]; simp)) h7
    exact ⟨R, by rw [h6, h8]; simp, h9.symm⟩
theorem LstR.bad {s : ByteArray} {k : Int} {N q : Nat} {M : List Row} (h : LstR s k N q M) (hM : M.length < N) (h' : ∀ x t, goodOf k x → (bl s).drop q ≠ formOf k x ++ t) : ∀ y, GoodR y → bl s ≠ encR y := fun y hy e => by
  obtain ⟨h1, h2, h3, h4, h5, R, h6, h7⟩ := h.2 y hy e
  cases R with
  | nil => rw [h6] at h3; simp at h3; omega
  | cons z R =>
    rw [List.flatMap_cons] at h7
    exact h' z _ (h5 z (by rw [h6]; simp)) h7
theorem LstR.done {s : ByteArray} {k : Int} {N q : Nat} {M : List Row} (h : LstR s k N q M) (hM : N ≤ M.length ∨ 5000 < M.length) : CmpR s (recOf k M) true := fun y hy e => by
  obtain ⟨h1, h2, h3, h4, h5, R, h6, h7⟩ := h.2 y hy e
  have : R = [] := List.eq_nil_of_length_eq_zero (by rw [h6, List.length_append] at h3; omega)
  subst this
  rw [List.append_nil] at h6
  exact ⟨rfl, by rw [h4, h6]⟩
end Go.Proofs
set_option linter.unusedVariables false
set_option maxRecDepth 100000
open Go Go.GV
namespace Go.Proofs

end Go.Proofs
set_option linter.unusedVariables false
set_option maxRecDepth 100000
open Go Go.GV
namespace Go.Proofs

def encR5 : Enc Rm := ⟨rC, 5, fun _ => rfl, by decide, fun m v h => by simp [rC] at h; rcases h with rfl | rfl | rfl | rfl | rfl <;> rfl⟩
def RcsH (H : Heap) (ms : List Rm) (rs : List Rc) : Prop := ms.length = rs.length ∧ ∀ (i : Nat) m r, ms[i]? = some m → rs[i]? = some r → RcH H m r
theorem RcsH.keep {H H' : Heap} {ms : List Rm} {rs : List Rc} (h : RcsH H ms rs) (hf : Fr [] H H') : RcsH H' ms rs := ⟨h.1, fun i m r hm hr => (h.2 i m r hm hr).keep hf⟩
theorem RcsH.at {H : Heap} {ms : List Rm} {rs : List Rc} (h : RcsH H ms rs) {i : Nat} {m : Rm} (hm : ms[i]? = some m) : ∃ r, rs[i]? = some r ∧ RcH H m r := by
  have hi := (List.getElem?_eq_some_iff.1 hm).1
  have hr : rs[i]? = some (rs[i]'(by have := h.1; omega)) := by simp
  exact ⟨_, hr, h.2 i m _ hm hr⟩
theorem RcsH.one {H : Heap} {m : Rm} {r : Rc} (h : RcH H m r) : RcsH H [m] [r] := ⟨rfl, fun i m' r' hm hr => by
  cases i with
  | zero => simp at hm hr; subst hm hr; exact h
  | succ i => simp at hm⟩
theorem RcsH.app {H : Heap} {ms ms' : List Rm} {rs rs' : List Rc} (h : RcsH H ms rs) (h' : RcsH H ms' rs') : RcsH H (ms ++ ms') (rs ++ rs') := ⟨by rw [List.length_append, List.length_append, h.1, h'.1], fun i m r hm hr => by
  rw [List.getElem?_append] at hm hr
  rw [← h.1] at hr
  split at hm
  · rename_i hi; rw [if_pos hi] at hr; exact h.2 i m r hm hr
  · rename_i hi; rw [if_neg hi] at hr; exact h'.2 _ m r hm hr⟩
theorem ldR26 {H : Heap} {ad : Addr} {m : Rm} (h : CellsAt H ad (encR5.cells m)) : Ld Tryz.prog 39 H ad (.agg ⟨rC m⟩) := ld_agg (by kernel_rfl) (by kernel_rfl) h
theorem ldR33 {H : Heap} {ad : Addr} {m : Rm} (h : CellsAt H ad (encR5.cells m)) : Ld Tryz.prog 77 H ad (.agg ⟨rC m⟩) := ld_agg (by kernel_rfl) (by kernel_rfl) h
theorem slice34 : sliceB Tryz.prog 31 77 = true := by kernel_rfl
theorem elem33 : elemB Tryz.prog 77 encR5.sz 88 = true := by kernel_rfl

theorem lSame_ok {H : Heap} {a b : Option Addr} {n c m d : Nat} {xs : List Lbl} {K : Bool → Heap → Prop} (hx : Sl encL H a n c xs) (hy : Sl encL H b m d xs) (hn : n ≤ 1000000000) (hk : K true H) :
    CallH Tryz.prog fn_ref04_Same ⟨[.slice a n c, .slice b m d]⟩ H fun v H' => ∃ w, v = .bool w ∧ K w H' := by
  apply vc_ref04_Same
  have h1 := hx.len
  have h2 := hy.len
  refine brB_of (fun h => by simp at h; omega) (fun _ => ?_)
  refine ⟨fun vs H' => match vs with | [.int _ i] => ∃ k : Nat, i = k ∧ k ≤ n ∧ H' = H | _ => False, fun vs _ => match vs with | [.int _ i] => n - i.toNat | _ => 0, ⟨0, rfl, by omega, rfl⟩, ?_⟩
  rintro J i H1 ⟨k, rfl, hkn, rfl⟩
  refine brB_of (fun h0 => ?_) (fun h0 => ⟨_, rfl, hk⟩)
  have h0' : k < n := by simpa using h0
  have hx1 : xs[k]? = some (xs[k]'(by omega)) := by simp
  generalize xs[k]'(by omega) = x at hx1
  refine hx.get rfl hx1 (decide_eq_true (by omega)) fun ad ea hc => ⟨_, _, ldL hc, ?_⟩
  refine hy.get rfl hx1 (decide_eq_true (by omega)) fun ad ea hc => ⟨_, _, ldL hc, ?_⟩
  refine brB_of (fun h => by simp [bytes_beq] at h) (fun _ => ?_)
  rw [succ64 (by omega)]
  exact ⟨⟨k + 1, rfl, by omega, rfl⟩, mu_lt h0'⟩
theorem rSame_ok {H : Heap} {a b : Option Addr} {n c m d : Nat} {ms ns : List Rm} {rs : List Rc} {K : Bool → Heap → Prop} (hx : Sl encR5 H a n c ms) (hy : Sl encR5 H b m d ns) (hr : RcsH H ms rs) (hr' : RcsH H ns rs) (hn : n ≤ 1000000000) (hs : ∀ m ∈ ms, Small m)
    (hk : ∀ H', Fr [] H H' → K true H') : CallH Tryz.prog fn_ref11_Same ⟨[.slice a n c, .slice b m d]⟩ H fun v H' => ∃ w, v = .bool w ∧ K w H' := by
  apply vc_ref11_Same
  have h1 := hx.len
  have h2 := hy.len
  have h3 := hr.1
  have h4 := hr'.1
  refine brB_of (fun h => by simp at h; omega) (fun _ => ?_)
  refine ⟨fun vs H' => match vs with | [.int _ i] => ∃ k : Nat, i = k ∧ k ≤ n ∧ Fr [] H H' | _ => False, fun vs _ => match vs with | [.int _ i] => n - i.toNat | _ => 0, ⟨0, rfl, by omega, Fr.refl _ _⟩, ?_⟩
  rintro J i H1 ⟨k, rfl, hkn, hf⟩
  refine brB_of (fun h0 => ?_) (fun h0 => ⟨_, rfl, hk H1 hf⟩)
  have h0' : k < n := by simpa using h0
  have hx1 : ms[k]? = some (ms[k]'(by omega)) := by simp
  generalize ms[k]'(by omega) = x at hx1
  have hy1 : ns[k]? = some (ns[k]'(by omega)) := by simp
  generalize ns[k]'(by omega) = y at hy1
  obtain ⟨r, er, hR⟩ := (hr.keep hf).at hx1
  have hR' := (hr'.keep hf).2 k y r hy1 er
  have hsm := hs x (List.mem_of_getElem? hx1)
  refine ⟨fun _ H' => Fr [] H H', ?_, fun J H2 hf2 => by rw [succ64 (by omega)]; exact ⟨⟨k + 1, rfl, by omega, hf2⟩, mu_lt h0'⟩⟩
  refine (hx.keep hf).get rfl hx1 (decide_eq_true (by omega)) fun ad ea hc => ⟨_, _, _, _, _, _, _, _, _, _, _, ldR33 hc, ?_⟩
  intro b1 H2 hn2
  refine st33 (m := x) (m' := m0 0) hn2.blk fun H3 hb3 hf3 => ?_
  have hf13 : Fr [] H1 H3 := hn2.fr.keep hf3 (fun k hk => by simp at hk; have := hn2.eq; omega)
  refine ((hy.keep hf).keep hf13).get rfl hy1 (decide_eq_true (by omega)) fun ad ea hc => ⟨_, _, _, _, _, _, _, _, _, _, _, ldR33 hc, ?_⟩
  intro b2 H4 hn4
  refine st33 (m := y) (m' := m0 0) hn4.blk fun H5 hc5 hf5 => ?_
  have hf35 : Fr [] H3 H5 := hn4.fr.keep hf5 (fun k hk => by simp at hk; have := hn4.eq; omega)
  have hb5 := hb3.keep hf35
  have hf15 := hf13.keep0 hf35
  have hR5 := hR.keep hf15
  have hR5' := hR'.keep hf15
  have hf05 := hf.keep0 hf15
  have l1 := hR5.l.len
  have l2 := hR5.rows.len
  have l3 := hR5.tombs.len
  have l1' := hR5'.l.len
  have l2' := hR5'.rows.len
  have l3' := hR5'.tombs.len
  refine ⟨fun _ H' => H' = H5, ?_, ?_⟩
  · refine ⟨_, hb5.r0, _, hc5.r0, ?_⟩
    rw [hR.k, hR'.k]
    refine brB_of (fun h => by simp at h) (fun _ => ⟨_, hb5.r4, _, hc5.r4, ?_⟩)
    rw [hR.at', hR'.at']
    refine brB_of (fun h => by simp at h) (fun _ => ⟨_, _, _, hb5.r1, _, _, _, hc5.r1, lSame_ok hR5.l hR5'.l hsm.1 ?_⟩)
    refine brB_of (fun h => by simp at h) (fun _ => ⟨_, _, _, hb5.r2, _, _, _, hc5.r2, ?_⟩)
    refine brB_of (fun h => by simp at h; omega) (fun _ => ⟨_, _, _, hb5.r3, _, _, _, hc5.r3, ?_⟩)
    exact brB_of (fun h => by simp at h; omega) (fun _ => rfl)
  rintro J H6 rfl
  refine ⟨fun vs H' => match vs with | [.int _ i] => ∃ k : Nat, i = k ∧ k ≤ x.2.2.1.2.1 ∧ H' = H6 | _ => False, fun vs _ => match vs with | [.int _ i] => x.2.2.1.2.1 - i.toNat | _ => 0, ⟨0, rfl, by omega, rfl⟩, ?_⟩
  rintro J i H7 ⟨j, rfl, hj, rfl⟩
  have s2 := hsm.2.1
  have s3 := hsm.2.2
  refine ⟨_, _, _, hb5.r2, brB_of (fun h => ?_) (fun h => ?_)⟩
  · have hj' : j < x.2.2.1.2.1 := by simpa using h
    have hv : r.rows[j]? = some (r.rows[j]'(by omega)) := by simp
    generalize r.rows[j]'(by omega) = v at hv
    refine ⟨_, _, _, hb5.r2, hR5.rows.get rfl hv (decide_eq_true (by omega)) fun ad ea hc => ⟨_, _, _, ld58 hc, _, _, _, hc5.r2, hR5'.rows.get rfl hv (decide_eq_true (by omega)) fun ad ea hc => ⟨_, _, _, ld58 hc, ?_⟩⟩⟩
    refine brB_of (fun h => by simp at h) (fun _ => ?_)
    rw [succ64 (by omega)]
    exact ⟨⟨j + 1, rfl, by omega, rfl⟩, mu_lt hj'⟩
  refine ⟨fun vs H' => match vs with | [.int _ i] => ∃ k : Nat, i = k ∧ k ≤ x.2.2.2.1.2.1 ∧ H' = H7 | _ => False, fun vs _ => match vs with | [.int _ i] => x.2.2.2.1.2.1 - i.toNat | _ => 0, ⟨0, rfl, by omega, rfl⟩, ?_⟩
  rintro J i H8 ⟨j, rfl, hj, rfl⟩
  refine ⟨_, _, _, hb5.r3, brB_of (fun h => ?_) (fun h => hf05)⟩
  have hj' : j < x.2.2.2.1.2.1 := by simpa using h
  have hv : r.tombs[j]? = some (r.tombs[j]'(by omega)) := by simp
  generalize r.tombs[j]'(by omega) = v at hv
  refine ⟨_, _, _, hb5.r3, hR5.tombs.get rfl hv (decide_eq_true (by omega)) fun ad ea hc => ⟨_, _, _, ld62 hc, _, _, _, hc5.r3, hR5'.tombs.get rfl hv (decide_eq_true (by omega)) fun ad ea hc => ⟨_, _, _, ld62 hc, ?_⟩⟩⟩
  refine brB_of (fun h => by simp at h) (fun _ => ?_)
  rw [succ64 (by omega)]
  exact ⟨⟨j + 1, rfl, by omega, rfl⟩, mu_lt hj'⟩
theorem theirs_ok {H : Heap} {a : Option Addr} {n c : Nat} {ms : List Rm} {K : Option Addr → Nat → Nat → Heap → Prop} (hx : Sl encR5 H a n c ms) (hn : n ≤ 1000000000)
    (hk : ∀ o l d H', Own encR5 77 H.size H' o l d ms → Fr [] H H' → K o l d H') : CallH Tryz.prog fn_law11_theirs ⟨[.slice a n c]⟩ H fun v H' => ∃ o l d, v = .slice o l d ∧ K o l d H' := by
  apply vc_law11_theirs
  intro b H1 hn1
  have hl := hx.len
  refine ⟨fun vs H' => match vs with | [.slice o l d, .int _ i] => ∃ k : Nat, i = k ∧ k ≤ n ∧ Own encR5 77 H.size H' o l d (ms.take k) ∧ Fr [] H H' | _ => False,
    fun vs _ => match vs with | [_, .int _ i] => n - i.toNat | _ => 0, ⟨0, rfl, by omega, Own.made _ _ hn1 (Nat.le_refl _), hn1.fr⟩, ?_⟩
  rintro J o l d i H2 ⟨k, rfl, hkn, ho, hf⟩
  refine brB_of (fun h0 => ?_) (fun h0 => ?_)
  · have h0' : k < n := by simpa using h0
    have hx1 : ms[k]? = some (ms[k]'(by omega)) := by simp
    generalize ms[k]'(by omega) = x at hx1
    refine (hx.keep hf).get rfl hx1 (decide_eq_true (by omega)) fun ad ea hc => ⟨_, _, _, _, _, _, _, _, _, _, _, ldR26 hc, ?_⟩
    intro b1 H3 hn3
    refine st26 (m := x) (m' := m0 0) hn3.blk fun H4 hb4 hf4 => ?_
    have hf24 : Fr [] H2 H4 := hn3.fr.keep hf4 (fun k hk => by simp at hk; have := hn3.eq; omega)
    refine ⟨_, hb4.r0, _, _, _, hb4.r1, _, _, _, hb4.r2, _, _, _, hb4.r3, _, hb4.r4, ?_⟩
    have hol := ho.1
    rw [List.length_take] at hol
    refine ap_one (E := encR5) x slice34 elem33 (ho.keep hf24) (hf.keep0 hf24) rfl (by omega) fun _ o' n' c' H5 ho5 hf5 _ => ?_
    rw [succ64 (by omega)]
    exact ⟨⟨k + 1, rfl, by omega, by rw [List.take_add_one, hx1]; exact ho5, hf5⟩, mu_lt h0'⟩
  · rw [List.take_of_length_le (by simp at h0; omega)] at ho
    exact ⟨_, _, _, rfl, hk o l d H2 ho hf⟩

def Light (m : Rm) : Prop := m.2.1.2.1 ≤ 2048 ∧ m.2.2.1.2.1 ≤ 2048 ∧ m.2.2.2.1.2.1 ≤ 2048
theorem ldR2 {H : Heap} {ad : Addr} {m : Rm} (h : CellsAt H ad (encR5.cells m)) : Ld Tryz.prog 36 H (ad.add 2) (.slice m.2.2.1.1 m.2.2.1.2.1 m.2.2.1.2.2) := ld_part (by kernel_rfl) h (j := 2) rfl
theorem ldR3 {H : Heap} {ad : Addr} {m : Rm} (h : CellsAt H ad (encR5.cells m)) : Ld Tryz.prog 37 H (ad.add 3) (.slice m.2.2.2.1.1 m.2.2.2.1.2.1 m.2.2.2.1.2.2) := ld_part (by kernel_rfl) h (j := 3) rfl
theorem ldR1 {H : Heap} {ad : Addr} {m : Rm} (h : CellsAt H ad (encR5.cells m)) : Ld Tryz.prog 35 H (ad.add 1) (.slice m.2.1.1 m.2.1.2.1 m.2.1.2.2) := ld_part (by kernel_rfl) h (j := 1) rfl
def minI (x : Int) : Int := if 1048576 < x then 1048576 else x
theorem minI_le (n : Nat) : 0 ≤ minI n ∧ minI n ≤ 1048576 ∧ (minI n ≤ 2048 → n ≤ 2048) := by unfold minI; split <;> omega
end Go.Proofs
set_option linter.unusedVariables false
set_option maxRecDepth 100000
open Go Go.GV
namespace Go.Proofs

theorem GoodR.inj {r r' : Rc} (h : GoodR r) (h' : GoodR r') (e : encR r = encR r') : r = r' := by
  have hk : r.k = r'.k ∧ bodyR r = bodyR r' := by
    unfold encR at e
    obtain ⟨e1, e2⟩ := uint_eq (show uintL r.k.toNat ++ bodyR r = uintL r'.k.toNat ++ bodyR r' from e)
    have := h.fine.k
    have := h'.fine.k
    exact ⟨by omega, e2⟩
  obtain ⟨hk, e⟩ := hk
  have hF := h.fine
  have hF' := h'.fine
  have hk0 := hF.k
  rcases (by omega : r.k = 0 ∨ r.k = 1 ∨ r.k = 2 ∨ r.k = 3) with h1 | h1 | h1 | h1
  · have h2 : r'.k = 0 := by omega
    have e1 : bodyR r = textL (pS r.l) := by unfold bodyR; rw [if_pos h1]
    have e2 : bodyR r' = textL (pS r'.l) := by unfold bodyR; rw [if_pos h2]
    rw [e1, e2] at e
    obtain ⟨e3, _⟩ := text_eq (x := []) (y := []) (by simpa using e)
    have e4 := congrArg bl e3
    rw [bl_pS, bl_pS] at e4
    have := print_inj (h.chk h1).2.1 (h'.chk h2).2.1 e4
    rw [sole0 hF h1, sole0 hF' h2, this]
  · have h2 : r'.k = 1 := by omega
    have e1 : bodyR r = uintL r.rows.length ++ r.rows.flatMap rowL := by unfold bodyR; rw [if_neg (by omega), if_pos h1]
    have e2 : bodyR r' = uintL r'.rows.length ++ r'.rows.flatMap rowL := by unfold bodyR; rw [if_neg (by omega), if_pos h2]
    rw [e1, e2] at e
    obtain ⟨e3, e4⟩ := uint_eq e
    have inj : ∀ {L L' : List Row}, L.length = L'.length → (∀ x ∈ L, RowP x) → (∀ x ∈ L', RowP x) → L.flatMap rowL = L'.flatMap rowL → L = L' := by
      intro L
      induction L with
      | nil => intro L' hl _ _ _; cases L' with | nil => rfl | cons _ _ => simp at hl
      | cons x L ih =>
        intro L' hl g1 g2 e
        cases L' with
        | nil => simp at hl
        | cons y L' =>
          simp only [List.flatMap_cons] at e
          unfold rowL at e
          simp only [List.append_assoc] at e
          have p1 := g1 x (by simp)
          have p2 := g2 y (by simp)
          obtain ⟨a1, e⟩ := uint_eq (show uintL x.1.toNat ++ _ = uintL y.1.toNat ++ _ from e)
          obtain ⟨a2, e⟩ := uint_eq (show uintL x.2.1.toNat ++ _ = uintL y.2.1.toNat ++ _ from e)
          obtain ⟨a3, e⟩ := intL_eq e
          have hx : x = y := Prod.ext (by have := p1.1; have := p2.1; omega) (Prod.ext (by have := p1.2; have := p2.2; omega) a3)
          rw [hx, ih (by simpa using hl) (fun z hz => g1 z (by simp [hz])) (fun z hz => g2 z (by simp [hz])) e]
    rw [sole1 hF h1, sole1 hF' h2, inj e3 hF.row hF'.row e4]
  · have h2 : r'.k = 2 := by omega
    have e1 : bodyR r = uintL r.tombs.length ++ r.tombs.flatMap tombL := by unfold bodyR; rw [if_neg (by omega), if_neg (by omega), if_pos h1]
    have e2 : bodyR r' = uintL r'.tombs.length ++ r'.tombs.flatMap tombL := by unfold bodyR; rw [if_neg (by omega), if_neg (by omega), if_pos h2]
    rw [e1, e2] at e
    obtain ⟨e3, e4⟩ := uint_eq e
    have inj : ∀ {L L' : List Row}, L.length = L'.length → (∀ x ∈ L, TombP x) → (∀ x ∈ L', TombP x) → L.flatMap tombL = L'.flatMap tombL → L = L' := by
      intro L
      induction L with
      | nil => intro L' hl _ _ _; cases L' with | nil => rfl | cons _ _ => simp at hl
      | cons x L ih =>
        intro L' hl g1 g2 e
        cases L' with
        | nil => simp at hl
        | cons y L' =>
          simp only [List.flatMap_cons] at e
          unfold tombL at e
          simp only [List.append_assoc] at e
          have p1 := g1 x (by simp)
          have p2 := g2 y (by simp)
          obtain ⟨a1, e⟩ := uint_eq (show uintL x.1.toNat ++ _ = uintL y.1.toNat ++ _ from e)
          obtain ⟨a2, e⟩ := uint_eq (show uintL x.2.1.toNat ++ _ = uintL y.2.1.toNat ++ _ from e)
          obtain ⟨a3, e⟩ := uint_eq (show uintL x.2.2.toNat ++ _ = uintL y.2.2.toNat ++ _ from e)
          have hx : x = y := Prod.ext (by have := p1.1; have := p2.1; omega) (Prod.ext (by have := p1.2; have := p2.2; omega) (by have := p1.2; have := p2.2; omega))
          rw [hx, ih (by simpa using hl) (fun z hz => g1 z (by simp [hz])) (fun z hz => g2 z (by simp [hz])) e]
    rw [sole2 hF h1, sole2 hF' h2, inj e3 hF.tomb hF'.tomb e4]
  · have h2 : r'.k = 3 := by omega
    have e1 : bodyR r = uL r.at' := by unfold bodyR; rw [if_neg (by omega), if_neg (by omega), if_neg (by omega)]
    have e2 : bodyR r' = uL r'.at' := by unfold bodyR; rw [if_neg (by omega), if_neg (by omega), if_neg (by omega)]
    rw [e1, e2] at e
    obtain ⟨e3, _⟩ := uint_eq (x := []) (y := []) (show uintL r.at'.toNat ++ [] = uintL r'.at'.toNat ++ [] by simpa [uL] using e)
    have := hF.at'
    have := hF'.at'
    rw [sole3 hF h1, sole3 hF' h2, show r.at' = r'.at' by omega]
end Go.Proofs
