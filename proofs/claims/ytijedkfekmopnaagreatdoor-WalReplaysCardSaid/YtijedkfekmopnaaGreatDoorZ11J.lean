/- Turned by a program of mine (portall.py) out of the same text of another seat. -/
import Derived.Test.YtijedkfekmopnaaGreatDoorZ11p
import Derived.Test.YtijedkfekmopnaaGreatDoorGvOpen
set_option linter.unusedVariables false
set_option maxRecDepth 100000
open Go Go.GV
namespace Go.Proofs

def lenAt (H : Heap) (b o : Nat) : Nat := match cellH H ⟨b, o, none⟩ with | some (.slice _ n _) => n | _ => 0
theorem lenAt2 {H : Heap} {b : Nat} {m : Rm} (h : Blk H ⟨b, 0, none⟩ (rC m)) : lenAt H b 2 = m.2.2.1.2.1 := by
  obtain ⟨b', te, e, h⟩ := h
  simp only [Addr.mk.injEq, and_true] at e
  subst e
  unfold lenAt; rw [cell_of_blk h]; rfl
theorem lenAt3 {H : Heap} {b : Nat} {m : Rm} (h : Blk H ⟨b, 0, none⟩ (rC m)) : lenAt H b 3 = m.2.2.2.1.2.1 := by
  obtain ⟨b', te, e, h⟩ := h
  simp only [Addr.mk.injEq, and_true] at e
  subst e
  unfold lenAt; rw [cell_of_blk h]; rfl
def rowP4 (x : Row) : Prop := (0 ≤ x.1 ∧ x.1 ≤ 1099511627776) ∧ (0 ≤ x.2.1 ∧ x.2.1 ≤ 200) ∧ I64 x.2.2
def tombP6 (x : Row) : Prop := (0 ≤ x.1 ∧ x.1 ≤ 200) ∧ (0 ≤ x.2.1 ∧ x.2.1 ≤ 1099511627776) ∧ 0 ≤ x.2.2 ∧ x.2.2 ≤ 1099511627776
theorem slice23r : sliceB Tryz.prog 36 111 = true := by kernel_rfl
theorem slice24r : sliceB Tryz.prog 37 115 = true := by kernel_rfl
theorem elem58 : elemB Tryz.prog 111 enc3.sz 24 = true := by kernel_rfl
theorem elem62 : elemB Tryz.prog 115 enc3.sz 24 = true := by kernel_rfl
theorem took_rows {H : Heap} {s : ByteArray} {a : Nat} {n : Int} {N p q : Nat} {M : List Row} {ok' ok'' : Bool} {o : Option Addr} {l c : Nat} (hM : Sl enc3 H o l c M) (hl : M.length ≤ 5001) (hT : ∀ x ∈ M, I64 x.2.2)
    (h : RdG s a true (fun L => uintL L.length ++ L.flatMap rowL) (fun L : List Row => L.length ≤ 5000 ∧ ∀ y ∈ L, rowP4 y) M q ok'') : Took H (1, (none, 0, 0), (o, l, c), (none, 0, 0), 0) s a 1 ⟨1, [], M, [], 0⟩ q ok'' := by
  refine ⟨⟨rfl, Sl.zero, hM, Sl.zero, rfl⟩, rfl, hT, ⟨by simp, by have := hM.len; simp; omega, by simp⟩, ⟨h.1, fun ho => ?_, fun ho y t hy e => ?_⟩, fun _ h => by omega⟩
  · obtain ⟨h1, h2⟩ := h.2.1 ho
    refine ⟨rfl, ?_⟩
    rw [h2]; unfold bodyR; rw [if_neg (by simp), if_pos rfl]
  · have hyk := hy.2
    have hF := hy.1.fine
    have e2 : bodyR y = uintL y.rows.length ++ y.rows.flatMap rowL := by unfold bodyR; rw [if_neg (by omega), if_pos hyk]
    rw [e2] at e
    obtain ⟨h1, h2, h3⟩ := h.2.2 rfl y.rows t ⟨hF.nr, fun x hx => ⟨(hF.row x hx).1, by have := (hF.row x hx).2; omega, hy.1.typ x hx⟩⟩ e
    refine ⟨h1, ?_, h3⟩
    have g1 : y.l = [] := Classical.byContradiction fun h => by have := hF.l h; omega
    have g2 : y.at' = 0 := Classical.byContradiction fun h => by have := hF.at0 h; omega
    have g3 : y.tombs = [] := Classical.byContradiction fun h => by have := hF.tombs h; omega
    cases y
    simp only at g1 g2 g3 hyk h2
    subst g1 g2 g3 hyk h2
    rfl
theorem took_tombs {H : Heap} {s : ByteArray} {a : Nat} {n : Int} {N p q : Nat} {M : List Row} {ok' ok'' : Bool} {o : Option Addr} {l c : Nat} (hM : Sl enc3 H o l c M) (hl : M.length ≤ 5001)
    (h : RdG s a true (fun L => uintL L.length ++ L.flatMap tombL) (fun L : List Row => L.length ≤ 5000 ∧ ∀ y ∈ L, tombP6 y) M q ok'') : Took H (2, (none, 0, 0), (none, 0, 0), (o, l, c), 0) s a 2 ⟨2, [], [], M, 0⟩ q ok'' := by
  refine ⟨⟨rfl, Sl.zero, Sl.zero, hM, rfl⟩, rfl, fun x hx => by simp at hx, ⟨by simp, by simp, by have := hM.len; simp; omega⟩, ⟨h.1, fun ho => ?_, fun ho y t hy e => ?_⟩, fun _ h => by omega⟩
  · obtain ⟨h1, h2⟩ := h.2.1 ho
    refine ⟨rfl, ?_⟩
    rw [h2]; unfold bodyR; rw [if_neg (by simp), if_neg (by simp), if_pos rfl]
  · have hyk := hy.2
    have hF := hy.1.fine
    have e2 : bodyR y = uintL y.tombs.length ++ y.tombs.flatMap tombL := by unfold bodyR; rw [if_neg (by omega), if_neg (by omega), if_pos hyk]
    rw [e2] at e
    obtain ⟨h1, h2, h3⟩ := h.2.2 rfl y.tombs t ⟨hF.nt, fun x hx => ⟨⟨(hF.tomb x hx).1.1, by have := (hF.tomb x hx).1.2; omega⟩, ⟨(hF.tomb x hx).2.1, by have := (hF.tomb x hx).2; omega⟩, by have := (hF.tomb x hx).2; omega, (hF.tomb x hx).2.2.2⟩⟩ e
    refine ⟨h1, ?_, h3⟩
    have g1 : y.l = [] := Classical.byContradiction fun h => by have := hF.l h; omega
    have g2 : y.at' = 0 := Classical.byContradiction fun h => by have := hF.at0 h; omega
    have g3 : y.rows = [] := Classical.byContradiction fun h => by have := hF.rows h; omega
    cases y
    simp only at g1 g2 g3 hyk h2
    subst g1 g2 g3 hyk h2
    rfl
theorem forms4_ok {H : Heap} {rb xb : Nat} {s : ByteArray} {a : Nat} {K : Heap → Prop} (hr : Blk H ⟨rb, 0, none⟩ (rC (m0 1))) (hx : Blk H ⟨xb, 0, none⟩ (rdC s a true)) (hne : rb ≠ xb) (hs : s.size ≤ 100000000000) (ha : a ≤ s.size)
    (hk : ∀ H' m r p ok', Blk H' ⟨rb, 0, none⟩ (rC m) → Blk H' ⟨xb, 0, none⟩ (rdC s p ok') → Took H' m s a 1 r p ok' → (∀ b, b < H.size → NotIn m b) → Fr [xb, rb] H H' → K H') :
    CallH Tryz.prog fn_wal_forms_4 ⟨[.pointer (some ⟨rb, 0, none⟩), .pointer (some ⟨xb, 0, none⟩)]⟩ H fun v H' => v = .tuple ⟨[]⟩ ∧ K H' := by
  apply vc_wal_forms_4
  refine number_ok (most := 5000) hx hs ha (by omega) fun H1 n p ok' hx1 hn hf1 => ?_
  obtain ⟨hrd, hv⟩ := hn.rd ha
  obtain ⟨N, rfl⟩ : ∃ N : Nat, n = N := ⟨n.toNat, by omega⟩
  have hr1 := hr.fr hf1 (by simp; exact hne)
  have hxlt : xb < H.size := hx.lt
  have hrlt : rb < H.size := hr.lt
  have hp0 := hrd.1
  refine ⟨fun _ H' => ∃ (M : List Row) (q : Nat) (okq : Bool) (o : Option Addr) (l c : Nat), Blk H' ⟨rb, 0, none⟩ (rC (1, (none, 0, 0), (o, l, c), (none, 0, 0), 0)) ∧ Blk H' ⟨xb, 0, none⟩ (rdC s q okq) ∧ Own enc3 111 H.size H' o l c M ∧
      Fr [xb, rb] H H' ∧ q ≤ s.size ∧ (∀ x ∈ M, I64 x.2.2) ∧ M.length ≤ N ∧ (ok' = false → okq = false) ∧ (ok' = true → RdL s rowL rowP4 N p q M okq),
    fun _ H' => 6000 - lenAt H' rb 2, ⟨[], p, ok', none, 0, 0, hr1, hx1, Own.nil _ _ _ _, hf1.mono (by simp), hp0, by simp, Nat.zero_le _, fun h => h, fun h => by subst h; exact RdL.start hp0⟩, ?_⟩
  rintro J H2 ⟨M, q, okq, o, l, c, hr2, hx2, ho2, hf2, hq, hMT, hMN, hno, hrl⟩
  have hlM := ho2.1
  have fin : (okq = true → N ≤ M.length) → K H2 := fun hM => by
    refine hk H2 _ _ q okq hr2 hx2 (took_rows (n := 0) (N := 0) (p := 0) (ok' := false) ho2.sl (by omega) hMT ?_) (fun b hb => ⟨no_ad, not_own ho2 hb, no_ad⟩) hf2
    exact hrd.list rfl (fun h => (hrl h).done hM) (fun h => ⟨hno h, hq⟩)
  refine ⟨fun _ H' => H' = H2 ∧ okq = true ∧ M.length < N, ?_, ?_⟩
  · refine ⟨_, hx2.ld (by kernel_rfl) (j := 2) rfl, brB_of (fun h => ⟨_, _, _, hr2.ld (by kernel_rfl) (j := 2) rfl, brB_of (fun h2 => ⟨rfl, h, ?_⟩) (fun h2 => ⟨rfl, fin fun _ => ?_⟩)⟩) (fun h => ⟨rfl, fin fun hh => ?_⟩)⟩
    · have h2' : (l : Int) < N := of_decide_eq_true h2
      omega
    · have h2' : ¬ (l : Int) < N := of_decide_eq_false h2
      omega
    · rw [hh] at h; cases h
  · rintro J H3 ⟨rfl, rfl, hlt⟩
    refine number_ok (most := 1099511627776) hx2 hs hq (by omega) fun H4 v1 p1 ok1 hx4 hn1 hf4 => ?_
    obtain ⟨hrd1, hv1⟩ := hn1.rd hq
    refine number_ok (most := 200) hx4 hs hrd1.1 (by omega) fun H5 v2 p2 ok2 hx5 hn2 hf5 => ?_
    obtain ⟨hrd2, hv2⟩ := hn2.rd hrd1.1
    have hr5 := (hr2.fr hf4 (by simp; exact hne)).fr hf5 (by simp; exact hne)
    refine ⟨_, _, _, hr5.ld (by kernel_rfl) (j := 2) rfl, ?_⟩
    refine rvalue_ok hx5 hs hrd2.1 fun H6 v3 p3 ok3 hx6 hn3 hf6 => ?_
    obtain ⟨hrd3, hv3⟩ := hn3.rd hrd2.1
    have hr6 := hr5.fr hf6 (by simp; exact hne)
    refine ⟨hr6.ld (by kernel_rfl) (j := 2) rfl, ?_⟩
    have hob := ho2.ge
    have ho6 : Own enc3 111 H.size H6 o l c M := ((ho2.fr hf4 fun ad e => ?_).fr hf5 fun ad e => ?_).fr hf6 fun ad e => ?_
    rotate_left
    iterate 3
      · have := (hob ad.block (by subst e; simp [blkL])).1
        simp; omega
    have hf26 : Fr [xb, rb] H H6 := ((hf2.trans' hf4 (fun k hk _ => hk) (by simp)).trans' hf5 (fun k hk _ => hk) (by simp)).trans' hf6 (fun k hk _ => hk) (by simp)
    intro b H7 hn7
    have hr7 := hr6.keep hn7.fr
    refine ⟨hr7.ld (by kernel_rfl) (j := 2) rfl, ?_⟩
    have hf7s := hf26.size
    have hn7s := hn7.size
    refine ap_raw (n := l) slice23r elem58 (ho6.keep hn7.fr) (sl_one enc3 ((v1, v2, v3) : Row) hn7 rfl) (by omega) (by omega) fun o' l' c' H8 ho8 hf8 => ?_
    have hgo := (ho6.keep hn7.fr).ge
    have dj : ∀ k, k < H.size → k ∉ blkL o := fun k hk hb => by have := (hgo k hb).1; omega
    have hr8 := hr7.fr hf8 (dj rb hrlt)
    have hx8 := (hx6.keep hn7.fr).fr hf8 (dj xb hxlt)
    refine hr8.st (j := 2) (v := .slice o' l' c') (by kernel_rfl) (by kernel_rfl) (fun x hx => by simp [Value.cells] at hx; subst hx; rfl) (by simp [Value.cells, rC]) fun H9 hr9 hf9 => ?_
    have hr9' : Blk H9 ⟨rb, 0, none⟩ (rC (1, (none, 0, 0), (o', l', c'), (none, 0, 0), 0)) := by simpa [Value.cells, rC] using hr9
    have ho9 := ho8.fr hf9 fun ad e => by
      have := (ho8.ge ad.block (by subst e; simp [blkL])).1
      simp; omega
    have hf89 : Fr [xb, rb] H H9 := ((hf26.trans' hn7.fr (fun k hk _ => hk) (by simp)).trans' hf8 (fun k hk _ => hk) (fun k hk hlt' => absurd hk (dj k hlt'))).trans' hf9 (fun k hk _ => hk) (fun k hk _ => by simp at hk; simp [hk])
    refine ⟨⟨M ++ [(v1, v2, v3)], p3, ok3, o', l', c', hr9', hx8.fr hf9 (by simp; exact fun e => hne e.symm), ho9, hf89, hrd3.1, fun x hx => ?_, by simp; omega, fun h => ?_, fun h => ?_⟩, ?_⟩
    · rcases List.mem_append.1 hx with hx | hx
      · exact hMT x hx
      · simp at hx; subst hx; exact hv3
    · exact absurd (hno h) (by simp)
    · exact (hrl h).step hlt ((hrd1.pair (hrd2.pair hrd3)).weak fun y hy => hy)
    · show 6000 - lenAt H9 rb 2 < 6000 - lenAt H3 rb 2
      rw [lenAt2 hr2, lenAt2 hr9']
      have := ho9.1
      simp at this
      show 6000 - l' < 6000 - l
      omega
theorem forms6_ok {H : Heap} {rb xb : Nat} {s : ByteArray} {a : Nat} {K : Heap → Prop} (hr : Blk H ⟨rb, 0, none⟩ (rC (m0 2))) (hx : Blk H ⟨xb, 0, none⟩ (rdC s a true)) (hne : rb ≠ xb) (hs : s.size ≤ 100000000000) (ha : a ≤ s.size)
    (hk : ∀ H' m r p ok', Blk H' ⟨rb, 0, none⟩ (rC m) → Blk H' ⟨xb, 0, none⟩ (rdC s p ok') → Took H' m s a 2 r p ok' → (∀ b, b < H.size → NotIn m b) → Fr [xb, rb] H H' → K H') :
    CallH Tryz.prog fn_wal_forms_6 ⟨[.pointer (some ⟨rb, 0, none⟩), .pointer (some ⟨xb, 0, none⟩)]⟩ H fun v H' => v = .tuple ⟨[]⟩ ∧ K H' := by
  apply vc_wal_forms_6
  refine number_ok (most := 5000) hx hs ha (by omega) fun H1 n p ok' hx1 hn hf1 => ?_
  obtain ⟨hrd, hv⟩ := hn.rd ha
  obtain ⟨N, rfl⟩ : ∃ N : Nat, n = N := ⟨n.toNat, by omega⟩
  have hr1 := hr.fr hf1 (by simp; exact hne)
  have hxlt : xb < H.size := hx.lt
  have hrlt : rb < H.size := hr.lt
  have hp0 := hrd.1
  refine ⟨fun _ H' => ∃ (M : List Row) (q : Nat) (okq : Bool) (o : Option Addr) (l c : Nat), Blk H' ⟨rb, 0, none⟩ (rC (2, (none, 0, 0), (none, 0, 0), (o, l, c), 0)) ∧ Blk H' ⟨xb, 0, none⟩ (rdC s q okq) ∧ Own enc3 115 H.size H' o l c M ∧
      Fr [xb, rb] H H' ∧ q ≤ s.size ∧ M.length ≤ N ∧ (ok' = false → okq = false) ∧ (ok' = true → RdL s tombL tombP6 N p q M okq),
    fun _ H' => 6000 - lenAt H' rb 3, ⟨[], p, ok', none, 0, 0, hr1, hx1, Own.nil _ _ _ _, hf1.mono (by simp), hp0, Nat.zero_le _, fun h => h, fun h => by subst h; exact RdL.start hp0⟩, ?_⟩
  rintro J H2 ⟨M, q, okq, o, l, c, hr2, hx2, ho2, hf2, hq, hMN, hno, hrl⟩
  have hlM := ho2.1
  have fin : (okq = true → N ≤ M.length) → K H2 := fun hM => by
    refine hk H2 _ _ q okq hr2 hx2 (took_tombs (n := 0) (N := 0) (p := 0) (ok' := false) ho2.sl (by omega) ?_) (fun b hb => ⟨no_ad, no_ad, not_own ho2 hb⟩) hf2
    exact hrd.list rfl (fun h => (hrl h).done hM) (fun h => ⟨hno h, hq⟩)
  refine ⟨fun _ H' => H' = H2 ∧ okq = true ∧ M.length < N, ?_, ?_⟩
  · refine ⟨_, hx2.ld (by kernel_rfl) (j := 2) rfl, brB_of (fun h => ⟨_, _, _, hr2.ld (by kernel_rfl) (j := 3) rfl, brB_of (fun h2 => ⟨rfl, h, ?_⟩) (fun h2 => ⟨rfl, fin fun _ => ?_⟩)⟩) (fun h => ⟨rfl, fin fun hh => ?_⟩)⟩
    · have h2' : (l : Int) < N := of_decide_eq_true h2
      omega
    · have h2' : ¬ (l : Int) < N := of_decide_eq_false h2
      omega
    · rw [hh] at h; cases h
  · rintro J H3 ⟨rfl, rfl, hlt⟩
    refine number_ok (most := 200) hx2 hs hq (by omega) fun H4 v1 p1 ok1 hx4 hn1 hf4 => ?_
    obtain ⟨hrd1, hv1⟩ := hn1.rd hq
    refine number_ok (most := 1099511627776) hx4 hs hrd1.1 (by omega) fun H5 v2 p2 ok2 hx5 hn2 hf5 => ?_
    obtain ⟨hrd2, hv2⟩ := hn2.rd hrd1.1
    refine number_ok (most := 1099511627776) hx5 hs hrd2.1 (by omega) fun H6 v3 p3 ok3 hx6 hn3 hf6 => ?_
    obtain ⟨hrd3, hv3⟩ := hn3.rd hrd2.1
    have hr6 := ((hr2.fr hf4 (by simp; exact hne)).fr hf5 (by simp; exact hne)).fr hf6 (by simp; exact hne)
    refine ⟨_, _, _, hr6.ld (by kernel_rfl) (j := 3) rfl, ?_⟩
    have hob := ho2.ge
    have ho6 : Own enc3 115 H.size H6 o l c M := ((ho2.fr hf4 fun ad e => ?_).fr hf5 fun ad e => ?_).fr hf6 fun ad e => ?_
    rotate_left
    iterate 3
      · have := (hob ad.block (by subst e; simp [blkL])).1
        simp; omega
    have hf26 : Fr [xb, rb] H H6 := ((hf2.trans' hf4 (fun k hk _ => hk) (by simp)).trans' hf5 (fun k hk _ => hk) (by simp)).trans' hf6 (fun k hk _ => hk) (by simp)
    intro b H7 hn7
    have hr7 := hr6.keep hn7.fr
    have hf7s := hf26.size
    have hn7s := hn7.size
    refine ap_raw (n := l) slice24r elem62 (ho6.keep hn7.fr) (sl_one enc3 ((v1, v2, v3) : Row) hn7 rfl) (by omega) (by omega) fun o' l' c' H8 ho8 hf8 => ?_
    have hgo := (ho6.keep hn7.fr).ge
    have dj : ∀ k, k < H.size → k ∉ blkL o := fun k hk hb => by have := (hgo k hb).1; omega
    have hr8 := hr7.fr hf8 (dj rb hrlt)
    have hx8 := (hx6.keep hn7.fr).fr hf8 (dj xb hxlt)
    refine hr8.st (j := 3) (v := .slice o' l' c') (by kernel_rfl) (by kernel_rfl) (fun x hx => by simp [Value.cells] at hx; subst hx; rfl) (by simp [Value.cells, rC]) fun H9 hr9 hf9 => ?_
    have hr9' : Blk H9 ⟨rb, 0, none⟩ (rC (2, (none, 0, 0), (none, 0, 0), (o', l', c'), 0)) := by simpa [Value.cells, rC] using hr9
    have ho9 := ho8.fr hf9 fun ad e => by
      have := (ho8.ge ad.block (by subst e; simp [blkL])).1
      simp; omega
    have hf89 : Fr [xb, rb] H H9 := ((hf26.trans' hn7.fr (fun k hk _ => hk) (by simp)).trans' hf8 (fun k hk _ => hk) (fun k hk hlt' => absurd hk (dj k hlt'))).trans' hf9 (fun k hk _ => hk) (fun k hk _ => by simp at hk; simp [hk])
    refine ⟨⟨M ++ [(v1, v2, v3)], p3, ok3, o', l', c', hr9', hx8.fr hf9 (by simp; exact fun e => hne e.symm), ho9, hf89, hrd3.1, by simp; omega, fun h => ?_, fun h => ?_⟩, ?_⟩
    · exact absurd (hno h) (by simp)
    · exact (hrl h).step hlt ((hrd1.pair (hrd2.pair hrd3)).weak fun y hy => hy)
    · show 6000 - lenAt H9 rb 3 < 6000 - lenAt H3 rb 3
      rw [lenAt3 hr2, lenAt3 hr9']
      have := ho9.1
      simp at this
      show 6000 - l' < 6000 - l
      omega

theorem forms2_ok {H : Heap} {rb xb : Nat} {s : ByteArray} {a : Nat} {K : Heap → Prop} (hr : Blk H ⟨rb, 0, none⟩ (rC (m0 0))) (hx : Blk H ⟨xb, 0, none⟩ (rdC s a true)) (hne : rb ≠ xb) (hs : s.size ≤ 1000000000) (ha : a ≤ s.size)
    (hk : ∀ H' m r p ok', Blk H' ⟨rb, 0, none⟩ (rC m) → Blk H' ⟨xb, 0, none⟩ (rdC s p ok') → Took H' m s a 0 r p ok' → (∀ b, b < H.size → NotIn m b) → Fr [xb, rb] H H' → K H') :
    CallH Tryz.prog fn_wal_forms_2 ⟨[.pointer (some ⟨rb, 0, none⟩), .pointer (some ⟨xb, 0, none⟩)]⟩ H fun v H' => v = .tuple ⟨[]⟩ ∧ K H' := by
  apply vc_wal_forms_2
  refine ⟨_, hx.ld0 (by kernel_rfl) rfl, _, hx.ld (by kernel_rfl) (j := 1) rfl, ?_⟩
  refine GetText_ok (by omega) (fun h => absurd ⟨by omega, by omega⟩ h) fun a' ea ha' t n e H1 hg hf1 => ?_
  have ea : a' = a := by omega
  subst ea
  have hts : t.size ≤ 1000000000 := by
    rcases hg with ⟨_, h2, _⟩ | ⟨rfl, _⟩ | ⟨rfl, _⟩
    · have := size64 h2
      rw [List.length_drop, bl_len] at this; omega
    · simp [ByteArray.size]
    · simp [ByteArray.size]
  have hps : ∀ {l : Lbls}, ChkP l → (pS l).size < 18446744073709551616 := fun hl => by
    have := printL_len hl
    rw [← bl_len, bl_pS]; omega
  have nx : ∃ p : Nat, n = p ∧ p ≤ s.size := by
    rcases hg with ⟨_, h2, h3, _⟩ | ⟨_, h3, _⟩ | ⟨_, h3, _⟩
    · rw [List.length_drop, bl_len] at h2
      exact ⟨_, h3, by omega⟩
    · exact ⟨0, h3, by omega⟩
    · exact ⟨0, h3, by omega⟩
  obtain ⟨p, rfl, hp⟩ := nx
  have main : ∀ (o : Option Addr) (l c : Nat) (xs : Lbls) (f : Int) (H2 : Heap), (∀ H', Fr [xb, rb] H2 H' → Sl encL H' o l c xs) → (∀ b, b < H.size → ∀ ad, o = some ad → ad.block ≠ b) → l ≤ 8 → Fr [] H H2 → ((f = 0 ∧ ChkP xs ∧ bl t = printL xs) ∨ (f ≠ 0 ∧ ∀ l, ChkP l → bl t ≠ printL l)) →
      ∀ w, w = (decide (e = 0) && decide (f = 0)) → ∃ H'_1, St Tryz.prog 35 H2 (Addr.add ⟨rb, 0, none⟩ 1) (.slice o l c) H'_1 ∧ ∃ H', St Tryz.prog 3 H'_1 (Addr.add ⟨xb, 0, none⟩ 1) (.int .i64 p) H' ∧ ∃ H'_2, St Tryz.prog 4 H' (Addr.add ⟨xb, 0, none⟩ 2) (.bool w) H'_2 ∧ Value.tuple ⟨[]⟩ = .tuple ⟨[]⟩ ∧ K H'_2 := by
    intro o l c xs f H2 hxs hbo hl8 hf2 hcase w hw
    refine (hr.keep hf2).st (j := 1) (v := .slice o l c) (by kernel_rfl) (by kernel_rfl) (fun x hx => by simp [Value.cells] at hx; subst hx; rfl) (by simp [Value.cells, rC]) fun H3 hr3 hf3 => ?_
    have hx3 := (hx.keep hf2).fr hf3 (by simp; exact fun e => hne e.symm)
    refine hx3.st (j := 1) (v := .int .i64 p) (by kernel_rfl) (by kernel_rfl) (fun x hx => by simp [Value.cells] at hx; subst hx; rfl) (by simp [Value.cells, rdC]) fun H4 hx4 hf4 => ?_
    have hr4 := hr3.fr hf4 (by simp; exact hne)
    have hx4' : Blk H4 ⟨xb, 0, none⟩ (rdC s p true) := by simpa [Value.cells, rdC] using hx4
    refine hx4'.st (j := 2) (v := .bool w) (by kernel_rfl) (by kernel_rfl) (fun x hx => by simp [Value.cells] at hx; subst hx; rfl) (by simp [Value.cells, rdC]) fun H5 hx5 hf5 => ⟨rfl, ?_⟩
    have hr5 := hr4.fr hf5 (by simp; exact hne)
    have hf35 : Fr [xb, rb] H2 H5 := (hf3.trans' hf4 (T := [xb, rb]) (fun k hk _ => by simp at hk; simp [hk]) (fun k hk _ => by simp at hk; simp [hk])).trans' hf5 (fun k hk _ => hk) (fun k hk _ => by simp at hk; simp [hk])
    refine hk H5 (0, (o, l, c), (none, 0, 0), (none, 0, 0), 0) ⟨0, xs, [], [], 0⟩ p w (by simpa [Value.cells, rC, m0] using hr5) (by simpa [Value.cells, rdC] using hx5) ?_ (fun b hb => ⟨hbo b hb, no_ad, no_ad⟩) (hf2.trans' hf35 (by simp) (fun k hk _ => hk))
    refine ⟨⟨rfl, hxs H5 hf35, Sl.zero, Sl.zero, rfl⟩, rfl, fun x hx => by simp at hx, ⟨by simp; omega, by simp, by simp⟩, ⟨hp, fun ho => ?_, fun ho y t' hy ey => ?_⟩, fun ho _ => ?_⟩
    · subst hw
      simp only [Bool.and_eq_true, decide_eq_true_eq] at ho
      obtain ⟨he, hf⟩ := ho
      refine ⟨rfl, ?_⟩
      rcases hcase with ⟨_, hC, ep⟩ | ⟨h, _⟩
      · have ept : pS xs = t := by apply bl_inj; rw [bl_pS, ep]
        rcases hg with ⟨g1, g2, g3, _⟩ | ⟨_, _, g3, _⟩ | ⟨_, _, g3, _⟩
        · have g3' : p = a' + (textL t).length := by omega
          unfold bodyR
          rw [if_pos rfl]
          show _ = textL (pS xs) ++ _
          rw [ept, g3', ← List.drop_drop]
          exact g1
        · omega
        · omega
      · exact absurd hf h
    · have hyk := hy.2
      have hF := hy.1.fine
      have hC := hy.1.chk hyk
      have e2 : bodyR y = textL (pS y.l) := by unfold bodyR; rw [if_pos hyk]
      rw [e2] at ey
      obtain ⟨g1, g2, g3⟩ := hg.of (hps hC) ey
      have et : bl t = printL y.l := by rw [g1, bl_pS]
      rcases hcase with ⟨hf, hC2, ep⟩ | ⟨_, hno⟩
      · have exs : y.l = xs := print_inj hC.2.1 hC2.2.1 (by rw [← et, ep])
        refine ⟨by rw [hw, g3, hf]; rfl, ?_, ?_⟩
        · have f1 : y.rows = [] := Classical.byContradiction fun h => by have := hF.rows h; omega
          have f2 : y.at' = 0 := Classical.byContradiction fun h => by have := hF.at0 h; omega
          have f3 : y.tombs = [] := Classical.byContradiction fun h => by have := hF.tombs h; omega
          cases y
          simp only at f1 f2 f3 hyk exs
          subst f1 f2 f3 hyk exs
          rfl
        · have g2' : p = a' + (textL (pS y.l)).length := by omega
          rw [g2', ← List.drop_drop, ey, List.drop_left]
      · exact absurd et (hno _ hC)
    · subst hw
      simp only [Bool.and_eq_true, decide_eq_true_eq] at ho
      rcases hcase with ⟨_, hC, ep⟩ | ⟨h, _⟩
      · exact hC
      · exact absurd ho.2 h
  have hxlt : xb < H.size := hx.lt
  have hrlt : rb < H.size := hr.lt
  have hf1s := hf1.size
  have nb : ∀ {H2 : Heap} {o : Option Addr} {n' c : Nat} {l : Lbls}, Own encL 55 H1.size H2 o n' c l → ∀ ad, o = some ad → ad.block ∉ [xb, rb] := fun ho ad e => by
    have := (ho.ge ad.block (by subst e; simp [blkL])).1
    simp; omega
  refine Parse_ok hts (fun hno H2 hf2 => ?_) fun l o n' c H2 hl el ho hf2 => ?_
  · have hf02 := hf1.keep0 hf2
    refine ⟨_, ((hx.keep hf02)).ld (by kernel_rfl) (j := 2) rfl, brB_of (fun _ => brB_of (fun h => ?_) (fun h => ?_)) (fun h => by cases h)⟩
    · exact main none 0 0 [] 11 H2 (fun _ _ => Sl.zero) (fun _ _ => no_ad) (by omega) hf02 (.inr ⟨by decide, hno⟩) _ (by simp)
    · exact main none 0 0 [] 11 H2 (fun _ _ => Sl.zero) (fun _ _ => no_ad) (by omega) hf02 (.inr ⟨by decide, hno⟩) _ (by simp)
  · have hf02 := hf1.keep0 hf2
    have hl8 := hl.1
    have hol := ho.1
    refine ⟨_, ((hx.keep hf02)).ld (by kernel_rfl) (j := 2) rfl, brB_of (fun _ => brB_of (fun h => ?_) (fun h => ?_)) (fun h => by cases h)⟩
    · have h : e = 0 := by simpa using h
      exact main o n' c l 0 H2 (fun H' hf' => ho.sl.fr hf' (nb ho)) (fun b hb => not_own ho (by omega)) (by omega) hf02 (.inl ⟨rfl, hl, el⟩) _ (by simp [h])
    · have h : ¬ e = 0 := by simpa using h
      exact main o n' c l 0 H2 (fun H' hf' => ho.sl.fr hf' (nb ho)) (fun b hb => not_own ho (by omega)) (by omega) hf02 (.inl ⟨rfl, hl, el⟩) _ (by simp [h])
end Go.Proofs
set_option linter.unusedVariables false
set_option maxRecDepth 100000
open Go Go.GV
namespace Go.Proofs

theorem st26 {H : Heap} {b : Nat} {m m' : Rm} {X : Heap → Prop} (h : Blk H ⟨b, 0, none⟩ (rC m')) (k : ∀ H', Blk H' ⟨b, 0, none⟩ (rC m) → Fr [b] H H' → X H') : ∃ H', St Tryz.prog 39 H ⟨b, 0, none⟩ (.agg ⟨rC m⟩) H' ∧ X H' :=
  h.st0 (v := .agg ⟨rC m⟩) (by kernel_rfl) (by kernel_rfl) (fun x hx => by simp [Value.cells, rC] at hx; rcases hx with rfl | rfl | rfl | rfl | rfl <;> rfl) (by simp [Value.cells, rC]) fun H' hb hf => k H' (by simpa [Value.cells, rC] using hb) hf
theorem RcH.gone {H H' : Heap} {m : Rm} {r : Rc} {b : Nat} (h : RcH H m r) (hf : Fr [b] H H') (hn : NotIn m b) : RcH H' m r :=
  ⟨h.k, h.l.fr hf (fun ad e => by simp; exact hn.1 ad e), h.rows.fr hf (fun ad e => by simp; exact hn.2.1 ad e), h.tombs.fr hf (fun ad e => by simp; exact hn.2.2 ad e), h.at'⟩
theorem Took.all {H : Heap} {m : Rm} {s : ByteArray} {p q : Nat} {k : Int} {r : Rc} {ok' ok'' : Bool} (hrd : RdG s 0 true uL (fun v => 0 ≤ v ∧ v ≤ (3 : Nat)) k p true) (h : Took H m s p k r q ok'') : RdG s 0 true encR GoodR r q ok'' := by
  refine ⟨h.rd.1, fun ho => ?_, fun _ y t hy e => ?_⟩
  · obtain ⟨_, h1⟩ := h.rd.2.1 ho
    obtain ⟨_, h2⟩ := hrd.2.1 rfl
    refine ⟨rfl, ?_⟩
    rw [h2, h1, ← List.append_assoc]
    unfold encR
    rw [h.kind]
  · unfold encR at e
    rw [List.append_assoc] at e
    obtain ⟨_, h1, h2⟩ := hrd.2.2 rfl y.k _ ⟨hy.fine.k.1, by have := hy.fine.k.2; omega⟩ e
    exact h.rd.2.2 rfl y t ⟨hy, h1⟩ h2.symm
end Go.Proofs
set_option linter.unusedVariables false
set_option maxRecDepth 100000
open Go Go.GV
namespace Go.Proofs

theorem GU.yes {s : ByteArray} {a most : Nat} {v n e : Int} (hm : most < 18446744073709551616) (h : GU ((bl s).drop a) a v n e) (ha : a ≤ s.size) (h1 : e = 0) : ∃ p w : Nat, v = w ∧ n = p ∧ a < p ∧ p ≤ s.size ∧ w < 18446744073709551616 ∧ (bl s).drop a = uintL w ++ (bl s).drop p := by
  rcases h with ⟨w, rfl, hw, h2, h3, rfl, _⟩ | ⟨_, _, h, _⟩ | ⟨_, _, h, _⟩
  · have := uintL_pos w
    rw [List.length_drop, bl_len] at h3
    rw [List.drop_drop] at h2
    exact ⟨_, w, rfl, rfl, by omega, by omega, hw, h2⟩
  · omega
  · omega
theorem GU.rd {s : ByteArray} {a most : Nat} {v n e : Int} (hm : most < 18446744073709551616) (h : GU ((bl s).drop a) a v n e) (ha : a ≤ s.size) :
    (¬ (e = 0 ∧ v ≤ most) → RdG s a true uL (fun v => 0 ≤ v ∧ v ≤ most) v a false) ∧ (e = 0 → v ≤ most → ∃ p : Nat, n = p ∧ p ≤ s.size ∧ 0 ≤ v ∧ RdG s a true uL (fun v => 0 ≤ v ∧ v ≤ most) v p true) := by
  refine ⟨fun hn => ⟨ha, (fun h => by cases h), fun _ y t hy ey => ?_⟩, fun he hv => ?_⟩
  · obtain ⟨g1, _, g3⟩ := h.of (n := y.toNat) (by omega) ey
    exact absurd ⟨g3, by omega⟩ hn
  · obtain ⟨p, w, rfl, rfl, h1, h2, h3, h4⟩ := h.yes hm ha he
    refine ⟨p, rfl, h2, by omega, h2, fun _ => ⟨rfl, by rw [h4]; simp [uL]⟩, fun _ y t hy ey => ?_⟩
    rw [h4] at ey
    obtain ⟨e1, e2⟩ := uint_eq (show uintL w ++ (bl s).drop p = uintL y.toNat ++ t from ey)
    exact ⟨rfl, by omega, e2.symm⟩
abbrev GT40 (v : Int) : Prop := 0 ≤ v ∧ v ≤ ((1099511627776 : Nat) : Int)
theorem slice77 : sliceB Tryz.prog 80 3 = true := by kernel_rfl
theorem elem3i : elemB Tryz.prog 3 encInt.sz 8 = true := by kernel_rfl
theorem rnumbers_ok {s : ByteArray} {a m : Nat} {H : Heap} {K : Option Addr → Nat → Nat → Int → Heap → Prop} (hs : s.size ≤ 100000000000) (ha : a ≤ s.size) (hm : m ≤ 10)
    (hno : (∀ (L : List Int) t, L.length = m → (∀ y ∈ L, GT40 y) → (bl s).drop a ≠ L.flatMap uL ++ t) → ∀ H', Fr [] H H' → K none 0 0 (-1) H')
    (hyes : ∀ (L : List Int) o n c (q : Nat) H', Own encInt 3 H.size H' o n c L → L.length = m → (∀ y ∈ L, GT40 y) → RdG s a true (fun L : List Int => L.flatMap uL) (fun L => L.length = m ∧ ∀ y ∈ L, GT40 y) L q true → q ≤ s.size → Fr [] H H' → K o n c q H') :
    CallH Tryz.prog fn_ref11_numbers ⟨[.string s, .int .i64 a, .int .i64 m]⟩ H fun v H' => ∃ o n c q, v = .tuple ⟨[.slice o n c, .int .i64 q]⟩ ∧ K o n c q H' := by
  apply vc_ref11_numbers
  intro b H1 hn1
  refine ⟨fun vs H' => match vs with
      | [.int _ q', .slice o n c, .int _ i] => ∃ (L : List Int) (q : Nat), q' = q ∧ i = L.length ∧ Own encInt 3 H.size H' o n c L ∧ (∀ y ∈ L, GT40 y) ∧ RdL s uL GT40 m a q L true ∧ Fr [] H H'
      | _ => False,
    fun vs _ => match vs with | [_, _, .int _ i] => m - i.toNat | _ => 0, ⟨[], a, rfl, rfl, Own.made _ _ hn1 (Nat.le_refl _), by simp, RdL.start ha, hn1.fr⟩, ?_⟩
  rintro J q' o n c i H2 ⟨L, q, rfl, rfl, ho, hG, hrl, hf⟩
  have hle := (hrl.2.1 rfl).1
  have hq := hrl.1
  refine brB_of (fun h => ?_) (fun h => ?_)
  · have hlt : L.length < m := by simp at h; omega
    refine rGetUint_ok hs (fun h => absurd ⟨by omega, by omega⟩ h) fun a' ea ha' v n' e H3 hg hf3 => ?_
    have ea : a' = q := by omega
    subst ea
    obtain ⟨g1, g2⟩ := hg.rd (most := 1099511627776) (by omega) hq
    have bad : ¬ (e = 0 ∧ v ≤ ((1099511627776 : Nat) : Int)) → K none 0 0 (-1) H3 := fun hn => by
      refine hno (fun L' t h1 h2 e' => ?_) H3 (hf.keep0 hf3)
      have := (hrl.step hlt (g1 hn)).2.2 L' t h1 h2 e'
      cases this.1
    refine brB_of (fun h1 => ⟨_, _, _, _, rfl, bad fun hh => ?_⟩) (fun h1 => brB_of (fun h2 => ⟨_, _, _, _, rfl, bad fun hh => ?_⟩) (fun h2 => ?_))
    · rw [hh.1] at h1; simp at h1
    · have := of_decide_eq_true h2; omega
    · have he : e = 0 := by simpa using h1
      have hv : v ≤ ((1099511627776 : Nat) : Int) := by have := of_decide_eq_false h2; omega
      obtain ⟨p, rfl, h3, h4, h5⟩ := g2 he hv
      have ew : IntKind.i64.wrap v = v := wrap64_of (by omega) (by omega)
      rw [ew]
      have hol := ho.1
      refine ap_one (E := encInt) v slice77 elem3i (ho.keep hf3) (hf.keep0 hf3) rfl (by omega) fun _ o' n' c' H4 ho4 hf4 _ => ?_
      rw [succ64 (by omega)]
      refine ⟨⟨L ++ [v], p, rfl, by simp, ho4, fun y hy => ?_, hrl.step hlt h5, hf4⟩, mu_lt hlt⟩
      rcases List.mem_append.1 hy with hy | hy
      · exact hG y hy
      · simp at hy; subst hy; exact ⟨h4, hv⟩
  · have hlm : m ≤ L.length := by simp at h; omega
    obtain ⟨h1, h2⟩ := hrl.done fun _ => hlm
    exact ⟨_, _, _, _, rfl, hyes L o n c q H2 ho (h2 rfl) hG h1 hq hf⟩
theorem _root_.Go.GV.Sl.at1 {H : Heap} {a : Option Addr} {n c : Nat} {x y : Int} {xs : List Int} (h : Sl encInt H a n c (x :: y :: xs)) {b : Bool} (hb : b = true) {X : Addr → Prop}
    (hk : ∀ ad, a = some ad → Ld Tryz.prog 3 H (ad.add 1) (.int .i64 y) → X ad) : exSome a fun ad => chk b (X ad) :=
  h.get (i := 1) (k := 1) rfl rfl hb fun ad e hc => hk ad e (ld_one (by kernel_rfl) hc)
theorem _root_.Go.GV.Sl.at2 {H : Heap} {a : Option Addr} {n c : Nat} {x y z : Int} {xs : List Int} (h : Sl encInt H a n c (x :: y :: z :: xs)) {b : Bool} (hb : b = true) {X : Addr → Prop}
    (hk : ∀ ad, a = some ad → Ld Tryz.prog 3 H (ad.add 2) (.int .i64 z) → X ad) : exSome a fun ad => chk b (X ad) :=
  h.get (i := 2) (k := 2) rfl rfl hb fun ad e hc => hk ad e (ld_one (by kernel_rfl) hc)
theorem _root_.Go.GV.Sl.at0 {H : Heap} {a : Option Addr} {n c : Nat} {x : Int} {xs : List Int} (h : Sl encInt H a n c (x :: xs)) {b : Bool} (hb : b = true) {X : Addr → Prop}
    (hk : ∀ ad, a = some ad → Ld Tryz.prog 3 H ad (.int .i64 x) → X ad) : exSome a fun ad => chk b (X ad) :=
  h.head hb fun ad e hc => hk ad e (ld_one (by kernel_rfl) hc)
theorem st33 {H : Heap} {b : Nat} {m m' : Rm} {X : Heap → Prop} (h : Blk H ⟨b, 0, none⟩ (rC m')) (k : ∀ H', Blk H' ⟨b, 0, none⟩ (rC m) → Fr [b] H H' → X H') : ∃ H', St Tryz.prog 77 H ⟨b, 0, none⟩ (.agg ⟨rC m⟩) H' ∧ X H' :=
  h.st0 (v := .agg ⟨rC m⟩) (by kernel_rfl) (by kernel_rfl) (fun x hx => by simp [Value.cells, rC] at hx; rcases hx with rfl | rfl | rfl | rfl | rfl <;> rfl) (by simp [Value.cells, rC]) fun H' hb hf => k H' (by simpa [Value.cells, rC] using hb) hf
def CmpR (s : ByteArray) (r : Rc) (ok : Bool) : Prop := ∀ y, GoodR y → bl s = encR y → ok = true ∧ y = r
end Go.Proofs
set_option linter.unusedVariables false
set_option maxRecDepth 100000
open Go Go.GV
namespace Go.Proofs

theorem flat1 {s : ByteArray} {a q : Nat} {x : Int} (h : RdG s a true (fun L : List Int => L.flatMap uL) (fun L => L.length = 1 ∧ ∀ y ∈ L, GT40 y) [x] q true) : RdG s a true uL GT40 x q true := by
  refine ⟨h.1, fun ho => ⟨rfl, by simpa using (h.2.1 rfl).2⟩, fun _ y t hy e => ?_⟩
  obtain ⟨_, h1, h2⟩ := h.2.2 rfl [y] t ⟨rfl, by simpa using hy⟩ (by simpa using e)
  exact ⟨rfl, by simpa using h1, h2⟩
theorem flat2 {s : ByteArray} {a q : Nat} {x1 x2 : Int} (h : RdG s a true (fun L : List Int => L.flatMap uL) (fun L => L.length = 2 ∧ ∀ y ∈ L, GT40 y) [x1, x2] q true) : RdG s a true (fun z : Int × Int => uL z.1 ++ uL z.2) (fun z => GT40 z.1 ∧ GT40 z.2) (x1, x2) q true := by
  refine ⟨h.1, fun ho => ⟨rfl, by simpa using (h.2.1 rfl).2⟩, fun _ y t hy e => ?_⟩
  obtain ⟨_, h1, h2⟩ := h.2.2 rfl [y.1, y.2] t ⟨rfl, fun z hz => by simp at hz; rcases hz with rfl | rfl; exact hy.1; exact hy.2⟩ (by simpa using e)
  simp only [List.cons.injEq, and_true] at h1
  exact ⟨rfl, Prod.ext h1.1 h1.2, h2⟩
theorem flat3 {s : ByteArray} {a q : Nat} {x1 x2 x3 : Int} (h : RdG s a true (fun L : List Int => L.flatMap uL) (fun L => L.length = 3 ∧ ∀ y ∈ L, GT40 y) [x1, x2, x3] q true) : RdG s a true tombL (fun z => GT40 z.1 ∧ GT40 z.2.1 ∧ GT40 z.2.2) (x1, x2, x3) q true := by
  refine ⟨h.1, fun ho => ⟨rfl, by simpa [tombL] using (h.2.1 rfl).2⟩, fun _ y t hy e => ?_⟩
  obtain ⟨_, h1, h2⟩ := h.2.2 rfl [y.1, y.2.1, y.2.2] t ⟨rfl, fun z hz => by simp at hz; rcases hz with rfl | rfl | rfl; exact hy.1; exact hy.2.1; exact hy.2.2⟩ (by simpa [tombL] using e)
  simp only [List.cons.injEq, and_true] at h1
  exact ⟨rfl, Prod.ext h1.1 (Prod.ext h1.2.1 h1.2.2), h2⟩
theorem GU.rdi {s : ByteArray} {a w : Nat} {n e : Int} (h : GU ((bl s).drop a) a w n e) (ha : a ≤ s.size) (hw : w < 18446744073709551616) :
    (e ≠ 0 → ∀ y t, I64 y → (bl s).drop a ≠ intL y ++ t) ∧ (e = 0 → ∃ p : Nat, n = p ∧ p ≤ s.size ∧ RdG s a true intL I64 (unfoldN w) p true) := by
  refine ⟨fun hn y t hy ey => ?_, fun he => ?_⟩
  · exact hn (h.of (n := foldN y) (foldN_lt hy) ey).2.2
  · obtain ⟨p, w', ew, rfl, h1, h2, h3, h4⟩ := h.yes (most := 0) (by omega) ha he
    have ew : w = w' := by omega
    subst ew
    have h5 : (bl s).drop a = intL (unfoldN w) ++ (bl s).drop p := by unfold intL; rw [fold_unfold]; exact h4
    refine ⟨p, rfl, h2, h2, fun _ => ⟨rfl, h5⟩, fun _ y t hy ey => ?_⟩
    rw [h5] at ey
    obtain ⟨e1, e2⟩ := intL_eq ey
    exact ⟨rfl, e1.symm, e2.symm⟩
def HeadR (s : ByteArray) (k : Int) (p : Nat) : Prop := p ≤ s.size ∧ ∀ y, GoodR y → bl s = encR y → y.k = k ∧ (bl s).drop p = bodyR y
theorem headR_of {s : ByteArray} {k : Int} {p : Nat} (h : RdG s 0 true uL GT40 k p true) : HeadR s k p := ⟨h.1, fun y hy e => by
  unfold encR at e
  obtain ⟨_, h1, h2⟩ := h.2.2 rfl y.k _ ⟨hy.fine.k.1, by have := hy.fine.k.2; omega⟩ (by simpa using e)
  exact ⟨h1, h2.symm⟩⟩
theorem sole0 {y : Rc} (hF : FineP y) (h : y.k = 0) : y = ⟨0, y.l, [], [], 0⟩ := by
  have f1 : y.rows = [] := Classical.byContradiction fun h => by have := hF.rows h; omega
  have f2 : y.at' = 0 := Classical.byContradiction fun h => by have := hF.at0 h; omega
  have f3 : y.tombs = [] := Classical.byContradiction fun h => by have := hF.tombs h; omega
  cases y; simp_all
theorem sole1 {y : Rc} (hF : FineP y) (h : y.k = 1) : y = ⟨1, [], y.rows, [], 0⟩ := by
  have f1 : y.l = [] := Classical.byContradiction fun h => by have := hF.l h; omega
  have f2 : y.at' = 0 := Classical.byContradiction fun h => by have := hF.at0 h; omega
  have f3 : y.tombs = [] := Classical.byContradiction fun h => by have := hF.tombs h; omega
  cases y; simp_all
theorem sole2 {y : Rc} (hF : FineP y) (h : y.k = 2) : y = ⟨2, [], [], y.tombs, 0⟩ := by
  have f1 : y.l = [] := Classical.byContradiction fun h => by have := hF.l h; omega
  have f2 : y.at' = 0 := Classical.byContradiction fun h => by have := hF.at0 h; omega
  have f3 : y.rows = [] := Classical.byContradiction fun h => by have := hF.rows h; omega
  cases y; simp_all
theorem sole3 {y : Rc} (hF : FineP y) (h : y.k = 3) : y = ⟨3, [], [], [], y.at'⟩ := by
  have f1 : y.l = [] := Classical.byContradiction fun h => by have := hF.l h; omega
  have f2 : y.tombs = [] := Classical.byContradiction fun h => by have := hF.tombs h; omega
  have f3 : y.rows = [] := Classical.byContradiction fun h => by have := hF.rows h; omega
  cases y; simp_all
def listOf (y : Rc) : List Row := if y.k = 1 then y.rows else y.tombs
def formOf (k : Int) (x : Row) : List UInt8 := if k = 1 then rowL x else tombL x
def goodOf (k : Int) (x : Row) : Prop := if k = 1 then rowP4 x else (GT40 x.1 ∧ GT40 x.2.1 ∧ GT40 x.2.2)
def recOf (k : Int) (M : List Row) : Rc := if k = 1 then ⟨k, [], M, [], 0⟩ else ⟨k, [], [], M, 0⟩
def memOf (k : Int) (h : Hd) : Rm := if k = 1 then (k, (none, 0, 0), h, (none, 0, 0), 0) else (k, (none, 0, 0), (none, 0, 0), h, 0)
def LstR (s : ByteArray) (k : Int) (N q : Nat) (M : List Row) : Prop :=
  q ≤ s.size ∧ ∀ y, GoodR y → bl s = encR y → (k = 1 ∨ k = 2) ∧ N ≤ 5000 ∧ (listOf y).length = N ∧ y = recOf k (listOf y) ∧ (∀ x ∈ listOf y, goodOf k x) ∧ ∃ R, listOf y = M ++ R ∧ (bl s).drop q = R.flatMap (formOf k)
theorem LstR.start {s : ByteArray} {k : Int} {p q N : Nat} (hk : k ≠ 0 ∧ k ≠ 3) (h : HeadR s k p) (h' : RdG s p true uL GT40 (N : Int) q true) : LstR s k N q [] := by
  refine ⟨h'.1, fun y hy e => ?_⟩
  obtain ⟨h1, h2⟩ := h.2 y hy e
  have hF := hy.fine
  have hkk := hF.k
  rcases (by omega : k = 1 ∨ k = 2) with rfl | rfl
  · have es := sole1 hF h1
    have eb : bodyR y = uintL y.rows.length ++ y.rows.flatMap rowL := by unfold bodyR; rw [if_neg (by omega), if_pos h1]
    rw [eb] at h2
    obtain ⟨_, h3, h4⟩ := h'.2.2 rfl (y.rows.length : Int) _ ⟨by omega, by have := hF.nr; omega⟩ (by simpa [uL] using h2)
    have el : listOf y = y.rows := by unfold listOf; rw [if_pos h1]
    have hn := hF.nr
    rw [el]
    refine ⟨.inl rfl, by omega, by omega, by rw [show recOf 1 y.rows = ⟨1, [], y.rows, [], 0⟩ from if_pos rfl]; exact es, fun x hx => ?_, y.rows, rfl, ?_⟩
    · show rowP4 x
      exact ⟨(hF.row x hx).1, ⟨(hF.row x hx).2.1, by have := (hF.row x hx).2.2; omega⟩, hy.typ x hx⟩
    · rw [← h4]; rfl
  · have es := sole2 hF h1
    have eb : bodyR y = uintL y.tombs.length ++ y.tombs.flatMap tombL := by unfold bodyR; rw [if_neg (by omega), if_neg (by omega), if_pos h1]
    rw [eb] at h2
    obtain ⟨_, h3, h4⟩ := h'.2.2 rfl (y.tombs.length : Int) _ ⟨by omega, by have := hF.nt; omega⟩ (by simpa [uL] using h2)
    have el : listOf y = y.tombs := by unfold listOf; rw [if_neg (by omega)]
    have hn := hF.nt
    rw [el]
    refine ⟨.inr rfl, by omega, by omega, by rw [show recOf 2 y.tombs = ⟨2, [], [], y.tombs, 0⟩ from if_neg (by decide)]; exact es, fun x hx => ?_, y.tombs, rfl, ?_⟩
    · show GT40 x.1 ∧ GT40 x.2.1 ∧ GT40 x.2.2
      have := hF.tomb x hx
      exact ⟨⟨this.1.1, by have := this.1.2; omega⟩, ⟨this.2.1, by have := this.2; omega⟩, by have := this.2; omega, by have := this.2; omega⟩
    · rw [← h4]; rfl
theorem LstR.step {s : ByteArray} {k : Int} {N q q' : Nat} {M : List Row} {x : Row} (h : LstR s k N q M) (hM : M.length < N) (h' : RdG s q true (formOf k) (goodOf k) x q' true) : LstR s k N q' (M ++ [x]) := by
  refine ⟨h'.1, fun y hy e => ?_⟩
  obtain ⟨h1, h2, h3, h4, h5, R, h6, h7⟩ := h.2 y hy e
  refine ⟨h1, h2, h3, h4, h5, ?_⟩
  cases R with
  | nil => rw [h6] at h3; simp at h3; omega
  | cons z R =>
    rw [List.flatMap_cons] at h7
    obtain ⟨_, h8, h9⟩ := h'.2.2 rfl z _ (h5 z (by rw [h6]; simp)) h7
    exact ⟨R, by rw [h6, h8]; simp, h9.symm⟩
theorem LstR.bad {s : ByteArray} {k : Int} {N q : Nat} {M : List Row} (h : LstR s k N q M) (hM : M.length < N) (h' : ∀ x t, goodOf k x → (bl s).drop q ≠ formOf k x ++ t) : ∀ y, GoodR y → bl s ≠ encR y := fun y hy e => by
  obtain ⟨h1, h2, h3, h4, h5, R, h6, h7⟩ := h.2 y hy e
  cases R with
  | nil => rw [h6] at h3; simp at h3; omega
  | cons z R =>
    rw [List.flatMap_cons] at h7
    exact h' z _ (h5 z (by rw [h6]; simp)) h7
theorem LstR.done {s : ByteArray} {k : Int} {N q : Nat} {M : List Row} (h : LstR s k N q M) (hM : N ≤ M.length ∨ 5000 < M.length) : CmpR s (recOf k M) true := fun y hy e => by
  obtain ⟨h1, h2, h3, h4, h5, R, h6, h7⟩ := h.2 y hy e
  have : R = [] := List.eq_nil_of_length_eq_zero (by rw [h6, List.length_append] at h3; omega)
  subst this
  rw [List.append_nil] at h6
  exact ⟨rfl, by rw [h4, h6]⟩
end Go.Proofs
set_option linter.unusedVariables false
set_option maxRecDepth 100000
open Go Go.GV
namespace Go.Proofs

abbrev KRec := Int → Option Addr → Nat → Nat → Option Addr → Nat → Nat → Option Addr → Nat → Nat → Int → Bool → Heap → Prop
theorem read_ok {H : Heap} {s : ByteArray} {K : KRec} (hs : s.size ≤ 1000000000)
    (hk : ∀ (m : Rm) r ok H', RcH H' m r → (∀ b, b < H.size → NotIn m b) → Small m → TypR r → CmpR s r ok → Fr [] H H' → K m.1 m.2.1.1 m.2.1.2.1 m.2.1.2.2 m.2.2.1.1 m.2.2.1.2.1 m.2.2.1.2.2 m.2.2.2.1.1 m.2.2.2.1.2.1 m.2.2.2.1.2.2 m.2.2.2.2 ok H') :
    CallH Tryz.prog fn_ref11_read ⟨[.string s]⟩ H fun v H' => ∃ n a n_1 c a_1 n_2 c_1 a_2 n_3 c_2 n_4 ok, v = .tuple ⟨[.agg ⟨[.int .i64 n, .slice a n_1 c, .slice a_1 n_2 c_1, .slice a_2 n_3 c_2, .int .i64 n_4]⟩, .bool ok]⟩ ∧ K n a n_1 c a_1 n_2 c_1 a_2 n_3 c_2 n_4 ok H' := by
  apply vc_ref11_read
  intro b H1 hn1
  have hs9 : s.size ≤ 100000000000 := by omega
  have eb := hn1.eq
  have sb := hn1.size
  have ret : ∀ {H' : Heap} {m : Rm} {r : Rc} {ok : Bool}, Fr [] H H' → Blk H' ⟨b, 0, none⟩ (rC (m0 0)) → RcH H' m r → (∀ b', b' ≤ b → NotIn m b') → Small m → TypR r → CmpR s r ok →
      ∃ H'_1, St Tryz.prog 77 H' ⟨b, 0, none⟩ (.agg ⟨rC m⟩) H'_1 ∧ ∃ n a n_2 c a_1 n_3 c_1 a_2 n_4 c_2 n_5, Ld Tryz.prog 77 H'_1 ⟨b, 0, none⟩ (.agg ⟨[.int .i64 n, .slice a n_2 c, .slice a_1 n_3 c_1, .slice a_2 n_4 c_2, .int .i64 n_5]⟩) ∧
        ∃ n' a' n_1' c' a_1' n_2' c_1' a_2' n_3' c_2' n_4' ok', Value.tuple ⟨[.agg ⟨[.int .i64 n, .slice a n_2 c, .slice a_1 n_3 c_1, .slice a_2 n_4 c_2, .int .i64 n_5]⟩, .bool ok]⟩ = .tuple ⟨[.agg ⟨[.int .i64 n', .slice a' n_1' c', .slice a_1' n_2' c_1', .slice a_2' n_3' c_2', .int .i64 n_4']⟩, .bool ok']⟩ ∧ K n' a' n_1' c' a_1' n_2' c_1' a_2' n_3' c_2' n_4' ok' H'_1 :=
    fun {H' m r ok} hf hb hR hni hsm hT hC => st33 (m := m) hb fun H2 hb2 hf2 => ⟨_, _, _, _, _, _, _, _, _, _, _, hb2.ldA0 (by kernel_rfl) (by kernel_rfl) rfl, _, _, _, _, _, _, _, _, _, _, _, _, rfl,
      hk m r ok H2 (hR.gone hf2 (hni b (Nat.le_refl _))) (fun b' h => hni b' (by omega)) hsm hT hC (hf.keep hf2 (fun k hk => by simp at hk; omega))⟩
  have fail : ∀ {H' : Heap}, Fr [] H H' → Blk H' ⟨b, 0, none⟩ (rC (m0 0)) → (∀ y, GoodR y → bl s ≠ encR y) → _ := fun {H'} hf hb hno =>
    ret (m := m0 0) (r := ⟨0, [], [], [], 0⟩) (ok := false) hf hb ⟨rfl, Sl.zero, Sl.zero, Sl.zero, rfl⟩ (fun _ _ => ⟨no_ad, no_ad, no_ad⟩) ⟨by simp [m0], by simp [m0], by simp [m0]⟩ (fun x hx => by simp at hx) fun y hy e => absurd e (hno y hy)
  have hb1 : Blk H1 ⟨b, 0, none⟩ (rC (m0 0)) := hn1.blk
  refine rnumbers_ok (a := 0) (m := 1) hs9 (Nat.zero_le _) (by omega) (fun hno H2 hf2 => ?_) fun L o n c p H2 hLo hl1 hG hrd hp hf2 => ?_
  · refine brB_of (fun _ => ?_) (fun h => by simp at h)
    refine fail (hn1.fr.keep0 hf2) (hb1.keep hf2) fun y hy e => hno [y.k] (bodyR y) rfl (fun z hz => ?_) (by rw [List.drop_zero, e]; simp [encR])
    simp at hz; subst hz
    exact ⟨hy.fine.k.1, by have := hy.fine.k.2; omega⟩
  obtain ⟨k, rfl⟩ : ∃ k, L = [k] := by cases L with | nil => simp at hl1 | cons k L => cases L with | nil => exact ⟨k, rfl⟩ | cons _ _ => simp at hl1
  have hL := hLo.sl
  have hH : HeadR s k p := headR_of (flat1 hrd)
  have hkk := hG k (by simp)
  refine brB_of (fun h => by simp at h; omega) (fun _ => ?_)
  refine hL.at0 (decide_eq_true (by have := hL.len; simp at this; omega)) fun ad e hld => ⟨_, hld, ?_⟩
  intro b1 H3 hn3
  have e3 := hn3.eq
  have s3 := hn3.size
  have s2 := hf2.size
  have hf03 := (hn1.fr.keep0 hf2).keep0 hn3.fr
  have hb3 := (hb1.keep hf2).keep hn3.fr
  refine st33 (m := m0 k) (m' := m0 0) hn3.blk fun H4 hr4 hf4 => ?_
  have hb4 := hb3.fr hf4 (by simp; omega)
  have hf04 : Fr [] H H4 := hf03.keep hf4 (fun k hk => by simp at hk; omega)
  have s4 := hf04.size
  have lb1 : b1 < H4.size := hr4.lt
  have lb : b < H4.size := hb4.lt
  refine ⟨_, hr4.r0, brB_of (fun h => ?_) (fun h => ?_)⟩
  · -- labels
    have h : k = 0 := by simpa [m0] using h
    subst h
    refine rGetText_ok hs9 (fun h => absurd ⟨by omega, by omega⟩ h) fun a' ea ha' t n' e H5 hg hf5 => ?_
    have ea : a' = p := by omega
    subst ea
    have hts : t.size ≤ 1000000000 := by
      rcases hg with ⟨_, h2, _⟩ | ⟨rfl, _⟩ | ⟨rfl, _⟩
      · have := size64 h2
        rw [List.length_drop, bl_len] at this; omega
      · simp [ByteArray.size]
      · simp [ByteArray.size]
    have key : ∀ y, GoodR y → bl s = encR y → t = pS y.l ∧ e = 0 ∧ ChkP y.l ∧ y = ⟨0, y.l, [], [], 0⟩ := fun y hy ey => by
      obtain ⟨h1, h2⟩ := hH.2 y hy ey
      have hC := hy.chk h1
      have e2 : bodyR y = textL (pS y.l) := by unfold bodyR; rw [if_pos h1]
      rw [e2] at h2
      have := printL_len hC
      obtain ⟨g1, _, g3⟩ := hg.of (t' := pS y.l) (x := []) (by rw [← bl_len, bl_pS]; omega) (by simpa using h2)
      exact ⟨g1, g3, hC, sole0 hy.fine h1⟩
    have main : ∀ (o' : Option Addr) (l' c' : Nat) (xs : Lbls) (f : Int) (H6 : Heap), Sl encL H6 o' l' c' xs → l' ≤ 8 → Fr [] H5 H6 → (∀ ad, o' = some ad → H5.size ≤ ad.block) → ((f = 0 ∧ ChkP xs ∧ bl t = printL xs) ∨ (f ≠ 0 ∧ ∀ l, ChkP l → bl t ≠ printL l)) → _ :=
      fun o' l' c' xs f H6 hxs hl8 hf6 hnew hcase => show ∃ H'_2, St Tryz.prog 35 H6 ⟨b1, 1, none⟩ (.slice o' l' c') H'_2 ∧ Blk H'_2 ⟨b1, 0, none⟩ (rC (0, (o', l', c'), (none, 0, 0), (none, 0, 0), 0)) ∧ Blk H'_2 ⟨b, 0, none⟩ (rC (m0 0)) ∧ Fr [] H H'_2 ∧ RcH H'_2 (0, (o', l', c'), (none, 0, 0), (none, 0, 0), 0) ⟨0, xs, [], [], 0⟩ ∧ (∀ b', b' ≤ b → NotIn (0, (o', l', c'), (none, 0, 0), (none, 0, 0), 0) b') ∧ CmpR s ⟨0, xs, [], [], 0⟩ (decide (e = 0 ∧ f = 0)) by
        have hr6 := (hr4.keep hf5).keep hf6
        have hb6 := (hb4.keep hf5).keep hf6
        have s5 := hf5.size
        refine hr6.st (j := 1) (v := .slice o' l' c') (by kernel_rfl) (by kernel_rfl) (fun x hx => by simp [Value.cells] at hx; subst hx; rfl) (by simp [Value.cells, rC]) fun H7 hr7 hf7 => ?_
        have hr7' : Blk H7 ⟨b1, 0, none⟩ (rC (0, (o', l', c'), (none, 0, 0), (none, 0, 0), 0)) := by simpa [Value.cells, rC, m0] using hr7
        refine ⟨hr7', hb6.fr hf7 (by simp; omega), ((hf04.keep0 hf5).keep0 hf6).keep hf7 (fun k hk => by simp at hk; omega), ⟨rfl, hxs.fr hf7 (fun ad e => by have := hnew ad e; simp; omega), Sl.zero, Sl.zero, rfl⟩, fun b' hb' => ⟨fun ad e => by have := hnew ad e; omega, no_ad, no_ad⟩, fun y hy ey => ?_⟩
        obtain ⟨g1, g2, g3, g4⟩ := key y hy ey
        have et : bl t = printL y.l := by rw [g1, bl_pS]
        rcases hcase with ⟨hf, hC2, ep⟩ | ⟨_, hno⟩
        · have exs : y.l = xs := print_inj g3.2.1 hC2.2.1 (by rw [← et, ep])
          exact ⟨decide_eq_true ⟨g2, hf⟩, by rw [g4, exs]⟩
        · exact absurd et (hno _ g3)
    refine rParse_ok hts (fun hno H6 hf6 => ?_) fun l' o' n' c' H6 hl el ho hf6 => ?_
    · obtain ⟨H7, h1, h2, h3, h4, h5, h6, h7⟩ := main none 0 0 [] 11 H6 Sl.zero (by omega) hf6 (fun ad e => by cases e) (.inr ⟨by decide, hno⟩)
      refine ⟨H7, h1, _, _, _, _, _, _, _, _, _, _, _, h2.ldA0 (by kernel_rfl) (by kernel_rfl) rfl, ?_⟩
      refine brB_of (fun he => ret (m := (0, (none, 0, 0), (none, 0, 0), (none, 0, 0), 0)) (ok := (11 : Int) == 0) h4 h3 h5 h6 ⟨by simp, by simp, by simp⟩ (fun x hx => by simp at hx) fun y hy ey => ?_)
          (fun he => ret (m := (0, (none, 0, 0), (none, 0, 0), (none, 0, 0), 0)) (ok := false) h4 h3 h5 h6 ⟨by simp, by simp, by simp⟩ (fun x hx => by simp at hx) fun y hy ey => ?_)
      · obtain ⟨g1, g2⟩ := h7 y hy ey
        exact ⟨by have := (of_decide_eq_true g1).2; simp at this <;> simp [this], g2⟩
      · obtain ⟨g1, g2⟩ := h7 y hy ey
        have := (of_decide_eq_true g1).1
        simp [this] at he
    · have hl8 := hl.1
      have hol := ho.1
      obtain ⟨H7, h1, h2, h3, h4, h5, h6, h7⟩ := main o' n' c' l' 0 H6 ho.sl (by omega) hf6 (fun ad e => (ho.lt ad e).1) (.inl ⟨rfl, hl, el⟩)
      refine ⟨H7, h1, _, _, _, _, _, _, _, _, _, _, _, h2.ldA0 (by kernel_rfl) (by kernel_rfl) rfl, ?_⟩
      refine brB_of (fun he => ret (m := (0, (o', n', c'), (none, 0, 0), (none, 0, 0), 0)) (ok := (0 : Int) == 0) h4 h3 h5 h6 ⟨by simp; omega, by simp, by simp⟩ (fun x hx => by simp at hx) fun y hy ey => ?_)
          (fun he => ret (m := (0, (o', n', c'), (none, 0, 0), (none, 0, 0), 0)) (ok := false) h4 h3 h5 h6 ⟨by simp; omega, by simp, by simp⟩ (fun x hx => by simp at hx) fun y hy ey => ?_)
      · obtain ⟨g1, g2⟩ := h7 y hy ey
        exact ⟨by have := (of_decide_eq_true g1).2; simp at this <;> simp [this], g2⟩
      · obtain ⟨g1, g2⟩ := h7 y hy ey
        have := (of_decide_eq_true g1).1
        simp [this] at he
  · have hk0 : k ≠ 0 := by simpa [m0] using h
    refine rnumbers_ok (a := p) (m := 1) hs9 hp (by omega) (fun hno H5 hf5 => ?_) fun L2 o2 n2 c2 q0 H5 hLo2 hl2 hG2 hrd2 hq0 hf5 => ?_
    · refine brB_of (fun _ => ?_) (fun h => by simp at h)
      refine fail (hf04.keep0 hf5) (hb4.keep hf5) fun y hy e => ?_
      obtain ⟨h1, h2⟩ := hH.2 y hy e
      have hF := hy.fine
      have hkk' := hF.k
      rcases (by omega : y.k = 1 ∨ y.k = 2 ∨ y.k = 3) with h3 | h3 | h3
      · have eb : bodyR y = uintL y.rows.length ++ y.rows.flatMap rowL := by unfold bodyR; rw [if_neg (by omega), if_pos h3]
        exact hno [(y.rows.length : Int)] (y.rows.flatMap rowL) rfl (fun z hz => by simp at hz; subst hz; exact ⟨by omega, by have := hF.nr; omega⟩) (by rw [h2, eb]; simp [uL])
      · have eb : bodyR y = uintL y.tombs.length ++ y.tombs.flatMap tombL := by unfold bodyR; rw [if_neg (by omega), if_neg (by omega), if_pos h3]
        exact hno [(y.tombs.length : Int)] (y.tombs.flatMap tombL) rfl (fun z hz => by simp at hz; subst hz; exact ⟨by omega, by have := hF.nt; omega⟩) (by rw [h2, eb]; simp [uL])
      · have eb : bodyR y = uL y.at' := by unfold bodyR; rw [if_neg (by omega), if_neg (by omega), if_neg (by omega)]
        exact hno [y.at'] [] rfl (fun z hz => by simp at hz; subst hz; exact ⟨hF.at'.1, by have := hF.at'.2; omega⟩) (by rw [h2, eb]; simp)
    obtain ⟨w, rfl⟩ : ∃ w, L2 = [w] := by cases L2 with | nil => simp at hl2 | cons k L => cases L with | nil => exact ⟨k, rfl⟩ | cons _ _ => simp at hl2
    have hL2 := hLo2.sl
    have hw := hG2 w (by simp)
    have hrd2 := flat1 hrd2
    have hn2 := hL2.len
    have hr5 := hr4.keep hf5
    have hb5 := hb4.keep hf5
    have hf05 := hf04.keep0 hf5
    refine brB_of (fun h => by simp at h; omega) (fun _ => ?_)
    refine ⟨_, hr5.r0, brB_of (fun h => ?_) (fun h => ?_)⟩
    · -- a time
      have hk3 : k = 3 := by simpa [m0] using h
      subst hk3
      refine hL2.at0 (decide_eq_true (by simp at hn2; omega)) fun ad e hld => ⟨_, hld, ?_⟩
      refine Blk.st (j := 4) hr5 (v := .int .i64 w) (by kernel_rfl) (by kernel_rfl) (fun x hx => by simp [Value.cells] at hx; subst hx; rfl) (by simp [Value.cells, rC]) fun H6 hr6 hf6 => ?_
      have hr6' : Blk H6 ⟨b1, 0, none⟩ (rC (3, (none, 0, 0), (none, 0, 0), (none, 0, 0), w)) := by simpa [Value.cells, rC, m0] using hr6
      refine ⟨_, _, _, _, _, _, _, _, _, _, _, hr6'.ldA0 (by kernel_rfl) (by kernel_rfl) rfl, ?_⟩
      refine ret (m := (3, (none, 0, 0), (none, 0, 0), (none, 0, 0), w)) (r := ⟨3, [], [], [], w⟩) (hf05.keep hf6 (fun k hk => by simp at hk; omega)) (hb5.fr hf6 (by simp; omega)) ⟨rfl, Sl.zero, Sl.zero, Sl.zero, rfl⟩ (fun _ _ => ⟨no_ad, no_ad, no_ad⟩) ⟨by simp, by simp, by simp⟩ (fun x hx => by simp at hx) fun y hy ey => ⟨rfl, ?_⟩
      obtain ⟨h1, h2⟩ := hH.2 y hy ey
      have hF := hy.fine
      have eb : bodyR y = uL y.at' := by unfold bodyR; rw [if_neg (by omega), if_neg (by omega), if_neg (by omega)]
      obtain ⟨_, h3, _⟩ := hrd2.2.2 rfl y.at' [] ⟨hF.at'.1, by have := hF.at'.2; omega⟩ (by rw [h2, eb]; simp)
      rw [sole3 hF h1, h3]
    have hk3 : k ≠ 3 := by simpa [m0] using h
    obtain ⟨N, rfl⟩ : ∃ N : Nat, w = N := ⟨w.toNat, by omega⟩
    have hst := LstR.start ⟨hk0, hk3⟩ hH hrd2
    have em0 : m0 k = memOf k (none, 0, 0) := by unfold m0 memOf; split <;> rfl
    have hne : b ≠ b1 := by omega
    refine ⟨fun vs H' => match vs with
        | [.int _ q', .int _ i] => ∃ (M : List Row) (q : Nat) (o : Option Addr) (l c : Nat), q' = q ∧ i = M.length ∧ Blk H' ⟨b1, 0, none⟩ (rC (memOf k (o, l, c))) ∧ Blk H' ⟨b, 0, none⟩ (rC (m0 0)) ∧ Own enc3 (if k = 1 then 111 else 115) H5.size H' o l c M ∧ Fr [] H H' ∧ Fr [b1] H5 H' ∧ (∀ x ∈ M, I64 x.2.2) ∧ M.length ≤ 5001 ∧ LstR s k N q M
        | _ => False,
      fun vs _ => match vs with | [_, .int _ i] => 6000 - i.toNat | _ => 0, ⟨[], q0, none, 0, 0, rfl, rfl, by rw [← em0]; exact hr5, hb5, Own.nil _ _ _ _, hf05, Fr.refl _ _, by simp, by simp, hst⟩, ?_⟩
    rintro J q' i H6 ⟨M, q, o, l, c, rfl, rfl, hr6, hb6, ho6, hf06, hf56, hMT, hM5, hls⟩
    have hlM := ho6.1
    have hq := hls.1
    have eg1 : k = 1 → memOf k (o, l, c) = (k, (none, 0, 0), (o, l, c), (none, 0, 0), 0) := fun h => if_pos h
    have eg2 : k ≠ 1 → memOf k (o, l, c) = (k, (none, 0, 0), (none, 0, 0), (o, l, c), 0) := fun h => if_neg h
    have lb5 : b < H5.size := hb5.lt
    have lb15 : b1 < H5.size := hr5.lt
    have hni : ∀ b', b' ≤ b → NotIn (memOf k (o, l, c)) b' := by
      intro b' hb'
      by_cases h1 : k = 1
      · rw [eg1 h1]; exact ⟨no_ad, not_own ho6 (by omega), no_ad⟩
      · rw [eg2 h1]; exact ⟨no_ad, no_ad, not_own ho6 (by omega)⟩
    have hRc : RcH H6 (memOf k (o, l, c)) (recOf k M) := by
      by_cases h1 : k = 1
      · rw [eg1 h1]; unfold recOf; rw [if_pos h1]; exact ⟨rfl, Sl.zero, ho6.sl, Sl.zero, rfl⟩
      · rw [eg2 h1]; unfold recOf; rw [if_neg h1]; exact ⟨rfl, Sl.zero, Sl.zero, ho6.sl, rfl⟩
    have hsm : Small (memOf k (o, l, c)) := by
      by_cases h1 : k = 1
      · rw [eg1 h1]; exact ⟨by simp, by simp; omega, by simp⟩
      · rw [eg2 h1]; exact ⟨by simp, by simp, by simp; omega⟩
    have hTy : TypR (recOf k M) := by
      unfold recOf
      split
      · exact hMT
      · exact fun x hx => by simp at hx
    refine ⟨fun _ H' => H' = H6 ∧ M.length < N ∧ M.length ≤ 5000, ?_, ?_⟩
    · refine (hL2.fr hf56 fun ad e => ?_).at0 (decide_eq_true (by simp at hn2; omega)) fun ad e hld => ⟨_, hld, brB_of (fun h1 => brB_of (fun h2 => ⟨rfl, by simp at h1; omega, by simp at h2; omega⟩) (fun h2 => ?_)) (fun h1 => ?_)⟩
      · have := (hLo2.lt ad e).1
        simp; omega
      · refine ⟨_, _, _, _, _, _, _, _, _, _, _, hr6.ldA0 (by kernel_rfl) (by kernel_rfl) rfl, ret (m := memOf k (o, l, c)) hf06 hb6 hRc hni hsm hTy (hls.done (.inr (by simp at h2; omega)))⟩
      · refine ⟨_, _, _, _, _, _, _, _, _, _, _, hr6.ldA0 (by kernel_rfl) (by kernel_rfl) rfl, ret (m := memOf k (o, l, c)) hf06 hb6 hRc hni hsm hTy (hls.done (.inl (by simp at h1; omega)))⟩
    · rintro J H7 ⟨rfl, hlt, hM5'⟩
      refine ⟨_, hr6.r0, brB_of (fun h1 => ?_) (fun h1 => ?_)⟩
      · have hk1 : k = 1 := by unfold memOf at h1; split at h1 <;> simpa using h1
        subst hk1
        have hLno : (∀ (L : List Int) t, L.length = 2 → (∀ y ∈ L, GT40 y) → (bl s).drop q ≠ L.flatMap uL ++ t) → ∀ y, GoodR y → bl s ≠ encR y := fun hno => hls.bad hlt fun x t hx e => by
          have hx : rowP4 x := hx
          refine hno [x.1, x.2.1] (intL x.2.2 ++ t) rfl (fun z hz => ?_) (by rw [e]; show rowL x ++ t = _; unfold rowL; simp)
          simp at hz
          rcases hz with rfl | rfl
          · exact ⟨hx.1.1, by have := hx.1.2; omega⟩
          · exact ⟨hx.2.1.1, by have := hx.2.1.2; omega⟩
        refine rnumbers_ok (a := q) (m := 2) hs9 hq (by omega) (fun hno H8 hf8 => ?_) fun L3 o3 n3 c3 q1 H8 hLo3 hl3 hG3 hrd3 hq1 hf8 => ?_
        · refine brB_of (fun _ => ?_) (fun h => by simp at h)
          exact fail (hf06.keep0 hf8) (hb6.keep hf8) (hLno hno)
        obtain ⟨v1, v2, rfl⟩ : ∃ v1 v2, L3 = [v1, v2] := two_of hl3
        refine brB_of (fun h => by simp at h; omega) (fun _ => ?_)
        have hrd3 := flat2 hrd3
        have hn3 := hLo3.1
        refine rGetInt_ok hs9 (fun h => absurd ⟨by omega, by omega⟩ h) fun a' ea ha' v n' e H9 hg hv9 hf9 => ?_
        have ea : a' = q1 := by omega
        subst ea
        obtain ⟨g1, g2⟩ := hg.rdi hq1 hv9
        have hf09 := (hf06.keep0 hf8).keep0 hf9
        have hb9 := (hb6.keep hf8).keep hf9
        have hr9 := (hr6.keep hf8).keep hf9
        refine brB_of (fun h => ?_) (fun h => ?_)
        · refine fail hf09 hb9 (hls.bad hlt fun x t hx ex => ?_)
          have hx : rowP4 x := hx
          have ex : (bl s).drop q = rowL x ++ t := ex
          obtain ⟨_, _, h3⟩ := hrd3.2.2 rfl (x.1, x.2.1) (intL x.2.2 ++ t) ⟨⟨hx.1.1, by have := hx.1.2; omega⟩, hx.2.1.1, by have := hx.2.1.2; omega⟩ (by rw [ex]; unfold rowL; simp)
          exact g1 (by simpa using h) x.2.2 t hx.2.2 h3.symm
        have he : e = 0 := by simpa using h
        obtain ⟨p', rfl, hp', hrd4⟩ := g2 he
        have hn3' := (hLo3.keep hf9).sl
        have hr9' := hr9
        rw [eg1 rfl] at hr9'
        refine ⟨_, _, _, hr9'.ldK (j := 2) (by kernel_rfl) rfl, ?_⟩
        refine hn3'.at0 (decide_eq_true (by simp at hn3; omega)) fun ad0 e0 hld0 => ⟨_, hld0, ?_⟩
        refine hn3'.at1 (decide_eq_true (by simp at hn3; omega)) fun ad1 e1 hld1 => ⟨_, hld1, ?_⟩
        intro bx H10 hn10
        have hr10 := hr9'.keep hn10.fr
        refine ⟨hr10.ldK (j := 2) (by kernel_rfl) rfl, ?_⟩
        have ho6' : Own enc3 111 H5.size H7 o l c M := ho6
        have ho10 := ((ho6'.keep hf8).keep hf9).keep hn10.fr
        have s510 : H5.size ≤ H10.size := by have := hf56.size; have := hf8.size; have := hf9.size; have := hn10.size; omega
        refine ap_raw (n := l) slice23r elem58 ho10 (sl_one enc3 ((v1, v2, unfoldN v) : Row) hn10 rfl) s510 (by omega) fun o' l' c' H11 ho11 hf11 => ?_
        have dj : ∀ k, k < H5.size → k ∉ blkL o := fun k hk hb => by have := (ho10.ge k hb).1; omega
        have hr11 := hr10.fr hf11 (dj b1 lb15)
        have hb11 := (hb9.keep hn10.fr).fr hf11 (dj b lb5)
        refine Blk.st (j := 2) hr11 (v := .slice o' l' c') (by kernel_rfl) (by kernel_rfl) (fun x hx => by simp [Value.cells] at hx; subst hx; rfl) (by simp [Value.cells, rC]) fun H12 hr12 hf12 => ?_
        have hr12' : Blk H12 ⟨b1, 0, none⟩ (rC (memOf 1 (o', l', c'))) := by
          have : memOf 1 (o', l', c') = (1, (none, 0, 0), (o', l', c'), (none, 0, 0), 0) := if_pos rfl
          rw [this]
          simpa [Value.cells, rC] using hr12
        have ho12 := ho11.fr hf12 fun ad e => by
          have := (ho11.ge ad.block (by subst e; simp [blkL])).1
          simp; omega
        have hf512 : Fr [b1] H5 H12 := ((((hf56.trans' hf8 (fun k hk _ => hk) (by simp)).trans' hf9 (fun k hk _ => hk) (by simp)).trans' hn10.fr (fun k hk _ => hk) (by simp)).trans' hf11 (fun k hk _ => hk) (fun k hk hlt' => absurd hk (dj k hlt'))).trans' hf12 (fun k hk _ => hk) (fun k hk _ => by simp at hk; simp [hk])
        have hf012 : Fr [] H H12 := hf05.keep hf512 (fun k hk => by simp at hk; omega)
        rw [succ64 (by omega)]
        refine ⟨⟨M ++ [(v1, v2, unfoldN v)], p', o', l', c', rfl, by simp, hr12', hb11.fr hf12 (by simp; omega), ho12, hf012, hf512, fun x hx => ?_, by simp; omega, ?_⟩, mu_lt (by omega)⟩
        · rcases List.mem_append.1 hx with hx | hx
          · exact hMT x hx
          · simp at hx; subst hx; exact unfold_64 hv9
        · refine hls.step hlt ?_
          have hp3 := (hrd3.pair hrd4)
          refine ⟨hp3.1, fun _ => ⟨rfl, by rw [(hp3.2.1 rfl).2]; show _ = rowL _ ++ _; unfold rowL; simp⟩, fun _ y t hy ey => ?_⟩
          have hy : rowP4 y := hy
          have ey : (bl s).drop q = rowL y ++ t := ey
          obtain ⟨_, h3, h4⟩ := hp3.2.2 rfl ((y.1, y.2.1), y.2.2) t ⟨⟨⟨hy.1.1, by have := hy.1.2; omega⟩, hy.2.1.1, by have := hy.2.1.2; show y.2.1 ≤ _; omega⟩, hy.2.2⟩ (by rw [ey]; unfold rowL; simp)
          simp only [Prod.mk.injEq] at h3
          exact ⟨rfl, Prod.ext h3.1.1 (Prod.ext h3.1.2 h3.2), h4⟩
      · have hk1 : k ≠ 1 := by unfold memOf at h1; split at h1 <;> simpa using h1
        have ef : formOf k = tombL := by funext x; unfold formOf; rw [if_neg hk1]
        have eg : goodOf k = fun x => GT40 x.1 ∧ GT40 x.2.1 ∧ GT40 x.2.2 := by funext x; unfold goodOf; rw [if_neg hk1]
        have hLno : (∀ (L : List Int) t, L.length = 3 → (∀ y ∈ L, GT40 y) → (bl s).drop q ≠ L.flatMap uL ++ t) → ∀ y, GoodR y → bl s ≠ encR y := fun hno => hls.bad hlt fun x t hx e => by
          rw [eg] at hx
          rw [ef] at e
          refine hno [x.1, x.2.1, x.2.2] t rfl (fun z hz => ?_) (by rw [e]; unfold tombL; simp)
          simp at hz
          rcases hz with rfl | rfl | rfl
          · exact hx.1
          · exact hx.2.1
          · exact hx.2.2
        refine rnumbers_ok (a := q) (m := 3) hs9 hq (by omega) (fun hno H8 hf8 => ?_) fun L3 o3 n3 c3 q1 H8 hLo3 hl3 hG3 hrd3 hq1 hf8 => ?_
        · refine brB_of (fun _ => ?_) (fun h => by simp at h)
          exact fail (hf06.keep0 hf8) (hb6.keep hf8) (hLno hno)
        obtain ⟨v1, v2, v3, rfl⟩ : ∃ v1 v2 v3, L3 = [v1, v2, v3] := three_of hl3
        refine brB_of (fun h => by simp at h; omega) (fun _ => ?_)
        have hrd3 := flat3 hrd3
        have hn3 := hLo3.1
        have hb9 := hb6.keep hf8
        have hr9' := hr6.keep hf8
        have hn3' := hLo3.sl
        rw [eg2 hk1] at hr9'
        refine ⟨_, _, _, hr9'.ldK (j := 3) (by kernel_rfl) rfl, ?_⟩
        refine hn3'.at0 (decide_eq_true (by simp at hn3; omega)) fun ad0 e0 hld0 => ⟨_, hld0, ?_⟩
        refine hn3'.at1 (decide_eq_true (by simp at hn3; omega)) fun ad1 e1 hld1 => ⟨_, hld1, ?_⟩
        refine hn3'.at2 (decide_eq_true (by simp at hn3; omega)) fun ad2 e2 hld2 => ⟨_, hld2, ?_⟩
        intro bx H10 hn10
        have hr10 := hr9'.keep hn10.fr
        refine ⟨hr10.ldK (j := 3) (by kernel_rfl) rfl, ?_⟩
        have ho6' : Own enc3 115 H5.size H7 o l c M := by rw [if_neg hk1] at ho6; exact ho6
        have ho10 := (ho6'.keep hf8).keep hn10.fr
        have s510 : H5.size ≤ H10.size := by have := hf56.size; have := hf8.size; have := hn10.size; omega
        refine ap_raw (n := l) slice24r elem62 ho10 (sl_one enc3 ((v1, v2, v3) : Row) hn10 rfl) s510 (by omega) fun o' l' c' H11 ho11 hf11 => ?_
        have dj : ∀ k, k < H5.size → k ∉ blkL o := fun k hk hb => by have := (ho10.ge k hb).1; omega
        have hr11 := hr10.fr hf11 (dj b1 lb15)
        have hb11 := (hb9.keep hn10.fr).fr hf11 (dj b lb5)
        refine Blk.st (j := 3) hr11 (v := .slice o' l' c') (by kernel_rfl) (by kernel_rfl) (fun x hx => by simp [Value.cells] at hx; subst hx; rfl) (by simp [Value.cells, rC]) fun H12 hr12 hf12 => ?_
        have hr12' : Blk H12 ⟨b1, 0, none⟩ (rC (memOf k (o', l', c'))) := by
          have : memOf k (o', l', c') = (k, (none, 0, 0), (none, 0, 0), (o', l', c'), 0) := if_neg hk1
          rw [this]
          simpa [Value.cells, rC] using hr12
        have ho12 := ho11.fr hf12 fun ad e => by
          have := (ho11.ge ad.block (by subst e; simp [blkL])).1
          simp; omega
        have hf512 : Fr [b1] H5 H12 := (((hf56.trans' hf8 (fun k hk _ => hk) (by simp)).trans' hn10.fr (fun k hk _ => hk) (by simp)).trans' hf11 (fun k hk _ => hk) (fun k hk hlt' => absurd hk (dj k hlt'))).trans' hf12 (fun k hk _ => hk) (fun k hk _ => by simp at hk; simp [hk])
        have hf012 : Fr [] H H12 := hf05.keep hf512 (fun k hk => by simp at hk; omega)
        rw [succ64 (by omega)]
        refine ⟨⟨M ++ [(v1, v2, v3)], q1, o', l', c', rfl, by simp, hr12', hb11.fr hf12 (by simp; omega), by rw [if_neg hk1]; exact ho12, hf012, hf512, fun x hx => ?_, by simp; omega, ?_⟩, mu_lt (by omega)⟩
        · rcases List.mem_append.1 hx with hx | hx
          · exact hMT x hx
          · simp at hx; subst hx
            obtain ⟨w1, w2⟩ : GT40 v3 := hG3 v3 (by simp)
            show I64 v3
            unfold I64; omega
        · refine hls.step hlt ?_
          rw [ef, eg]
          exact hrd3
end Go.Proofs
set_option linter.unusedVariables false
set_option maxRecDepth 100000
open Go Go.GV
namespace Go.Proofs

def encR5 : Enc Rm := ⟨rC, 5, fun _ => rfl, by decide, fun m v h => by simp [rC] at h; rcases h with rfl | rfl | rfl | rfl | rfl <;> rfl⟩
def RcsH (H : Heap) (ms : List Rm) (rs : List Rc) : Prop := ms.length = rs.length ∧ ∀ (i : Nat) m r, ms[i]? = some m → rs[i]? = some r → RcH H m r
theorem RcsH.keep {H H' : Heap} {ms : List Rm} {rs : List Rc} (h : RcsH H ms rs) (hf : Fr [] H H') : RcsH H' ms rs := ⟨h.1, fun i m r hm hr => (h.2 i m r hm hr).keep hf⟩
theorem RcsH.at {H : Heap} {ms : List Rm} {rs : List Rc} (h : RcsH H ms rs) {i : Nat} {m : Rm} (hm : ms[i]? = some m) : ∃ r, rs[i]? = some r ∧ RcH H m r := by
  have hi := (List.getElem?_eq_some_iff.1 hm).1
  have hr : rs[i]? = some (rs[i]'(by have := h.1; omega)) := by simp
  exact ⟨_, hr, h.2 i m _ hm hr⟩
theorem RcsH.one {H : Heap} {m : Rm} {r : Rc} (h : RcH H m r) : RcsH H [m] [r] := ⟨rfl, fun i m' r' hm hr => by
  cases i with
  | zero => simp at hm hr; subst hm hr; exact h
  | succ i => simp at hm⟩
theorem RcsH.app {H : Heap} {ms ms' : List Rm} {rs rs' : List Rc} (h : RcsH H ms rs) (h' : RcsH H ms' rs') : RcsH H (ms ++ ms') (rs ++ rs') := ⟨by rw [List.length_append, List.length_append, h.1, h'.1], fun i m r hm hr => by
  rw [List.getElem?_append] at hm hr
  rw [← h.1] at hr
  split at hm
  · rename_i hi; rw [if_pos hi] at hr; exact h.2 i m r hm hr
  · rename_i hi; rw [if_neg hi] at hr; exact h'.2 _ m r hm hr⟩
theorem ldR26 {H : Heap} {ad : Addr} {m : Rm} (h : CellsAt H ad (encR5.cells m)) : Ld Tryz.prog 39 H ad (.agg ⟨rC m⟩) := ld_agg (by kernel_rfl) (by kernel_rfl) h
theorem ldR33 {H : Heap} {ad : Addr} {m : Rm} (h : CellsAt H ad (encR5.cells m)) : Ld Tryz.prog 77 H ad (.agg ⟨rC m⟩) := ld_agg (by kernel_rfl) (by kernel_rfl) h
theorem slice34 : sliceB Tryz.prog 31 77 = true := by kernel_rfl
theorem elem33 : elemB Tryz.prog 77 encR5.sz 88 = true := by kernel_rfl

theorem lSame_ok {H : Heap} {a b : Option Addr} {n c m d : Nat} {xs : List Lbl} {K : Bool → Heap → Prop} (hx : Sl encL H a n c xs) (hy : Sl encL H b m d xs) (hn : n ≤ 1000000000) (hk : K true H) :
    CallH Tryz.prog fn_ref04_Same ⟨[.slice a n c, .slice b m d]⟩ H fun v H' => ∃ w, v = .bool w ∧ K w H' := by
  apply vc_ref04_Same
  have h1 := hx.len
  have h2 := hy.len
  refine brB_of (fun h => by simp at h; omega) (fun _ => ?_)
  refine ⟨fun vs H' => match vs with | [.int _ i] => ∃ k : Nat, i = k ∧ k ≤ n ∧ H' = H | _ => False, fun vs _ => match vs with | [.int _ i] => n - i.toNat | _ => 0, ⟨0, rfl, by omega, rfl⟩, ?_⟩
  rintro J i H1 ⟨k, rfl, hkn, rfl⟩
  refine brB_of (fun h0 => ?_) (fun h0 => ⟨_, rfl, hk⟩)
  have h0' : k < n := by simpa using h0
  have hx1 : xs[k]? = some (xs[k]'(by omega)) := by simp
  generalize xs[k]'(by omega) = x at hx1
  refine hx.get rfl hx1 (decide_eq_true (by omega)) fun ad ea hc => ⟨_, _, ldL hc, ?_⟩
  refine hy.get rfl hx1 (decide_eq_true (by omega)) fun ad ea hc => ⟨_, _, ldL hc, ?_⟩
  refine brB_of (fun h => by simp [bytes_beq] at h) (fun _ => ?_)
  rw [succ64 (by omega)]
  exact ⟨⟨k + 1, rfl, by omega, rfl⟩, mu_lt h0'⟩
theorem rSame_ok {H : Heap} {a b : Option Addr} {n c m d : Nat} {ms ns : List Rm} {rs : List Rc} {K : Bool → Heap → Prop} (hx : Sl encR5 H a n c ms) (hy : Sl encR5 H b m d ns) (hr : RcsH H ms rs) (hr' : RcsH H ns rs) (hn : n ≤ 1000000000) (hs : ∀ m ∈ ms, Small m)
    (hk : ∀ H', Fr [] H H' → K true H') : CallH Tryz.prog fn_ref11_Same ⟨[.slice a n c, .slice b m d]⟩ H fun v H' => ∃ w, v = .bool w ∧ K w H' := by
  apply vc_ref11_Same
  have h1 := hx.len
  have h2 := hy.len
  have h3 := hr.1
  have h4 := hr'.1
  refine brB_of (fun h => by simp at h; omega) (fun _ => ?_)
  refine ⟨fun vs H' => match vs with | [.int _ i] => ∃ k : Nat, i = k ∧ k ≤ n ∧ Fr [] H H' | _ => False, fun vs _ => match vs with | [.int _ i] => n - i.toNat | _ => 0, ⟨0, rfl, by omega, Fr.refl _ _⟩, ?_⟩
  rintro J i H1 ⟨k, rfl, hkn, hf⟩
  refine brB_of (fun h0 => ?_) (fun h0 => ⟨_, rfl, hk H1 hf⟩)
  have h0' : k < n := by simpa using h0
  have hx1 : ms[k]? = some (ms[k]'(by omega)) := by simp
  generalize ms[k]'(by omega) = x at hx1
  have hy1 : ns[k]? = some (ns[k]'(by omega)) := by simp
  generalize ns[k]'(by omega) = y at hy1
  obtain ⟨r, er, hR⟩ := (hr.keep hf).at hx1
  have hR' := (hr'.keep hf).2 k y r hy1 er
  have hsm := hs x (List.mem_of_getElem? hx1)
  refine ⟨fun _ H' => Fr [] H H', ?_, fun J H2 hf2 => by rw [succ64 (by omega)]; exact ⟨⟨k + 1, rfl, by omega, hf2⟩, mu_lt h0'⟩⟩
  refine (hx.keep hf).get rfl hx1 (decide_eq_true (by omega)) fun ad ea hc => ⟨_, _, _, _, _, _, _, _, _, _, _, ldR33 hc, ?_⟩
  intro b1 H2 hn2
  refine st33 (m := x) (m' := m0 0) hn2.blk fun H3 hb3 hf3 => ?_
  have hf13 : Fr [] H1 H3 := hn2.fr.keep hf3 (fun k hk => by simp at hk; have := hn2.eq; omega)
  refine ((hy.keep hf).keep hf13).get rfl hy1 (decide_eq_true (by omega)) fun ad ea hc => ⟨_, _, _, _, _, _, _, _, _, _, _, ldR33 hc, ?_⟩
  intro b2 H4 hn4
  refine st33 (m := y) (m' := m0 0) hn4.blk fun H5 hc5 hf5 => ?_
  have hf35 : Fr [] H3 H5 := hn4.fr.keep hf5 (fun k hk => by simp at hk; have := hn4.eq; omega)
  have hb5 := hb3.keep hf35
  have hf15 := hf13.keep0 hf35
  have hR5 := hR.keep hf15
  have hR5' := hR'.keep hf15
  have hf05 := hf.keep0 hf15
  have l1 := hR5.l.len
  have l2 := hR5.rows.len
  have l3 := hR5.tombs.len
  have l1' := hR5'.l.len
  have l2' := hR5'.rows.len
  have l3' := hR5'.tombs.len
  refine ⟨fun _ H' => H' = H5, ?_, ?_⟩
  · refine ⟨_, hb5.r0, _, hc5.r0, ?_⟩
    rw [hR.k, hR'.k]
    refine brB_of (fun h => by simp at h) (fun _ => ⟨_, hb5.r4, _, hc5.r4, ?_⟩)
    rw [hR.at', hR'.at']
    refine brB_of (fun h => by simp at h) (fun _ => ⟨_, _, _, hb5.r1, _, _, _, hc5.r1, lSame_ok hR5.l hR5'.l hsm.1 ?_⟩)
    refine brB_of (fun h => by simp at h) (fun _ => ⟨_, _, _, hb5.r2, _, _, _, hc5.r2, ?_⟩)
    refine brB_of (fun h => by simp at h; omega) (fun _ => ⟨_, _, _, hb5.r3, _, _, _, hc5.r3, ?_⟩)
    exact brB_of (fun h => by simp at h; omega) (fun _ => rfl)
  rintro J H6 rfl
  refine ⟨fun vs H' => match vs with | [.int _ i] => ∃ k : Nat, i = k ∧ k ≤ x.2.2.1.2.1 ∧ H' = H6 | _ => False, fun vs _ => match vs with | [.int _ i] => x.2.2.1.2.1 - i.toNat | _ => 0, ⟨0, rfl, by omega, rfl⟩, ?_⟩
  rintro J i H7 ⟨j, rfl, hj, rfl⟩
  have s2 := hsm.2.1
  have s3 := hsm.2.2
  refine ⟨_, _, _, hb5.r2, brB_of (fun h => ?_) (fun h => ?_)⟩
  · have hj' : j < x.2.2.1.2.1 := by simpa using h
    have hv : r.rows[j]? = some (r.rows[j]'(by omega)) := by simp
    generalize r.rows[j]'(by omega) = v at hv
    refine ⟨_, _, _, hb5.r2, hR5.rows.get rfl hv (decide_eq_true (by omega)) fun ad ea hc => ⟨_, _, _, ld58 hc, _, _, _, hc5.r2, hR5'.rows.get rfl hv (decide_eq_true (by omega)) fun ad ea hc => ⟨_, _, _, ld58 hc, ?_⟩⟩⟩
    refine brB_of (fun h => by simp at h) (fun _ => ?_)
    rw [succ64 (by omega)]
    exact ⟨⟨j + 1, rfl, by omega, rfl⟩, mu_lt hj'⟩
  refine ⟨fun vs H' => match vs with | [.int _ i] => ∃ k : Nat, i = k ∧ k ≤ x.2.2.2.1.2.1 ∧ H' = H7 | _ => False, fun vs _ => match vs with | [.int _ i] => x.2.2.2.1.2.1 - i.toNat | _ => 0, ⟨0, rfl, by omega, rfl⟩, ?_⟩
  rintro J i H8 ⟨j, rfl, hj, rfl⟩
  refine ⟨_, _, _, hb5.r3, brB_of (fun h => ?_) (fun h => hf05)⟩
  have hj' : j < x.2.2.2.1.2.1 := by simpa using h
  have hv : r.tombs[j]? = some (r.tombs[j]'(by omega)) := by simp
  generalize r.tombs[j]'(by omega) = v at hv
  refine ⟨_, _, _, hb5.r3, hR5.tombs.get rfl hv (decide_eq_true (by omega)) fun ad ea hc => ⟨_, _, _, ld62 hc, _, _, _, hc5.r3, hR5'.tombs.get rfl hv (decide_eq_true (by omega)) fun ad ea hc => ⟨_, _, _, ld62 hc, ?_⟩⟩⟩
  refine brB_of (fun h => by simp at h) (fun _ => ?_)
  rw [succ64 (by omega)]
  exact ⟨⟨j + 1, rfl, by omega, rfl⟩, mu_lt hj'⟩
theorem theirs_ok {H : Heap} {a : Option Addr} {n c : Nat} {ms : List Rm} {K : Option Addr → Nat → Nat → Heap → Prop} (hx : Sl encR5 H a n c ms) (hn : n ≤ 1000000000)
    (hk : ∀ o l d H', Own encR5 77 H.size H' o l d ms → Fr [] H H' → K o l d H') : CallH Tryz.prog fn_law11_theirs ⟨[.slice a n c]⟩ H fun v H' => ∃ o l d, v = .slice o l d ∧ K o l d H' := by
  apply vc_law11_theirs
  intro b H1 hn1
  have hl := hx.len
  refine ⟨fun vs H' => match vs with | [.slice o l d, .int _ i] => ∃ k : Nat, i = k ∧ k ≤ n ∧ Own encR5 77 H.size H' o l d (ms.take k) ∧ Fr [] H H' | _ => False,
    fun vs _ => match vs with | [_, .int _ i] => n - i.toNat | _ => 0, ⟨0, rfl, by omega, Own.made _ _ hn1 (Nat.le_refl _), hn1.fr⟩, ?_⟩
  rintro J o l d i H2 ⟨k, rfl, hkn, ho, hf⟩
  refine brB_of (fun h0 => ?_) (fun h0 => ?_)
  · have h0' : k < n := by simpa using h0
    have hx1 : ms[k]? = some (ms[k]'(by omega)) := by simp
    generalize ms[k]'(by omega) = x at hx1
    refine (hx.keep hf).get rfl hx1 (decide_eq_true (by omega)) fun ad ea hc => ⟨_, _, _, _, _, _, _, _, _, _, _, ldR26 hc, ?_⟩
    intro b1 H3 hn3
    refine st26 (m := x) (m' := m0 0) hn3.blk fun H4 hb4 hf4 => ?_
    have hf24 : Fr [] H2 H4 := hn3.fr.keep hf4 (fun k hk => by simp at hk; have := hn3.eq; omega)
    refine ⟨_, hb4.r0, _, _, _, hb4.r1, _, _, _, hb4.r2, _, _, _, hb4.r3, _, hb4.r4, ?_⟩
    have hol := ho.1
    rw [List.length_take] at hol
    refine ap_one (E := encR5) x slice34 elem33 (ho.keep hf24) (hf.keep0 hf24) rfl (by omega) fun _ o' n' c' H5 ho5 hf5 _ => ?_
    rw [succ64 (by omega)]
    exact ⟨⟨k + 1, rfl, by omega, by rw [List.take_add_one, hx1]; exact ho5, hf5⟩, mu_lt h0'⟩
  · rw [List.take_of_length_le (by simp at h0; omega)] at ho
    exact ⟨_, _, _, rfl, hk o l d H2 ho hf⟩

end Go.Proofs
set_option linter.unusedVariables false
set_option maxRecDepth 100000
open Go Go.GV
namespace Go.Proofs

theorem GoodR.inj {r r' : Rc} (h : GoodR r) (h' : GoodR r') (e : encR r = encR r') : r = r' := by
  have hk : r.k = r'.k ∧ bodyR r = bodyR r' := by
    unfold encR at e
    obtain ⟨e1, e2⟩ := uint_eq (show uintL r.k.toNat ++ bodyR r = uintL r'.k.toNat ++ bodyR r' from e)
    have := h.fine.k
    have := h'.fine.k
    exact ⟨by omega, e2⟩
  obtain ⟨hk, e⟩ := hk
  have hF := h.fine
  have hF' := h'.fine
  have hk0 := hF.k
  rcases (by omega : r.k = 0 ∨ r.k = 1 ∨ r.k = 2 ∨ r.k = 3) with h1 | h1 | h1 | h1
  · have h2 : r'.k = 0 := by omega
    have e1 : bodyR r = textL (pS r.l) := by unfold bodyR; rw [if_pos h1]
    have e2 : bodyR r' = textL (pS r'.l) := by unfold bodyR; rw [if_pos h2]
    rw [e1, e2] at e
    obtain ⟨e3, _⟩ := text_eq (x := []) (y := []) (by simpa using e)
    have e4 := congrArg bl e3
    rw [bl_pS, bl_pS] at e4
    have := print_inj (h.chk h1).2.1 (h'.chk h2).2.1 e4
    rw [sole0 hF h1, sole0 hF' h2, this]
  · have h2 : r'.k = 1 := by omega
    have e1 : bodyR r = uintL r.rows.length ++ r.rows.flatMap rowL := by unfold bodyR; rw [if_neg (by omega), if_pos h1]
    have e2 : bodyR r' = uintL r'.rows.length ++ r'.rows.flatMap rowL := by unfold bodyR; rw [if_neg (by omega), if_pos h2]
    rw [e1, e2] at e
    obtain ⟨e3, e4⟩ := uint_eq e
    have inj : ∀ {L L' : List Row}, L.length = L'.length → (∀ x ∈ L, RowP x) → (∀ x ∈ L', RowP x) → L.flatMap rowL = L'.flatMap rowL → L = L' := by
      intro L
      induction L with
      | nil => intro L' hl _ _ _; cases L' with | nil => rfl | cons _ _ => simp at hl
      | cons x L ih =>
        intro L' hl g1 g2 e
        cases L' with
        | nil => simp at hl
        | cons y L' =>
          simp only [List.flatMap_cons] at e
          unfold rowL at e
          simp only [List.append_assoc] at e
          have p1 := g1 x (by simp)
          have p2 := g2 y (by simp)
          obtain ⟨a1, e⟩ := uint_eq (show uintL x.1.toNat ++ _ = uintL y.1.toNat ++ _ from e)
          obtain ⟨a2, e⟩ := uint_eq (show uintL x.2.1.toNat ++ _ = uintL y.2.1.toNat ++ _ from e)
          obtain ⟨a3, e⟩ := intL_eq e
          have hx : x = y := Prod.ext (by have := p1.1; have := p2.1; omega) (Prod.ext (by have := p1.2; have := p2.2; omega) a3)
          rw [hx, ih (by simpa using hl) (fun z hz => g1 z (by simp [hz])) (fun z hz => g2 z (by simp [hz])) e]
    rw [sole1 hF h1, sole1 hF' h2, inj e3 hF.row hF'.row e4]
  · have h2 : r'.k = 2 := by omega
    have e1 : bodyR r = uintL r.tombs.length ++ r.tombs.flatMap tombL := by unfold bodyR; rw [if_neg (by omega), if_neg (by omega), if_pos h1]
    have e2 : bodyR r' = uintL r'.tombs.length ++ r'.tombs.flatMap tombL := by unfold bodyR; rw [if_neg (by omega), if_neg (by omega), if_pos h2]
    rw [e1, e2] at e
    obtain ⟨e3, e4⟩ := uint_eq e
    have inj : ∀ {L L' : List Row}, L.length = L'.length → (∀ x ∈ L, TombP x) → (∀ x ∈ L', TombP x) → L.flatMap tombL = L'.flatMap tombL → L = L' := by
      intro L
      induction L with
      | nil => intro L' hl _ _ _; cases L' with | nil => rfl | cons _ _ => simp at hl
      | cons x L ih =>
        intro L' hl g1 g2 e
        cases L' with
        | nil => simp at hl
        | cons y L' =>
          simp only [List.flatMap_cons] at e
          unfold tombL at e
          simp only [List.append_assoc] at e
          have p1 := g1 x (by simp)
          have p2 := g2 y (by simp)
          obtain ⟨a1, e⟩ := uint_eq (show uintL x.1.toNat ++ _ = uintL y.1.toNat ++ _ from e)
          obtain ⟨a2, e⟩ := uint_eq (show uintL x.2.1.toNat ++ _ = uintL y.2.1.toNat ++ _ from e)
          obtain ⟨a3, e⟩ := uint_eq (show uintL x.2.2.toNat ++ _ = uintL y.2.2.toNat ++ _ from e)
          have hx : x = y := Prod.ext (by have := p1.1; have := p2.1; omega) (Prod.ext (by have := p1.2; have := p2.2; omega) (by have := p1.2; have := p2.2; omega))
          rw [hx, ih (by simpa using hl) (fun z hz => g1 z (by simp [hz])) (fun z hz => g2 z (by simp [hz])) e]
    rw [sole2 hF h1, sole2 hF' h2, inj e3 hF.tomb hF'.tomb e4]
  · have h2 : r'.k = 3 := by omega
    have e1 : bodyR r = uL r.at' := by unfold bodyR; rw [if_neg (by omega), if_neg (by omega), if_neg (by omega)]
    have e2 : bodyR r' = uL r'.at' := by unfold bodyR; rw [if_neg (by omega), if_neg (by omega), if_neg (by omega)]
    rw [e1, e2] at e
    obtain ⟨e3, _⟩ := uint_eq (x := []) (y := []) (show uintL r.at'.toNat ++ [] = uintL r'.at'.toNat ++ [] by simpa [uL] using e)
    have := hF.at'
    have := hF'.at'
    rw [sole3 hF h1, sole3 hF' h2, show r.at' = r'.at' by omega]
end Go.Proofs
