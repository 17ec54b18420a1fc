/- A part of a proof: see the last text of this claim. -/
import Derived.Test.YtgjbljhocedpfaaP10b
set_option linter.unusedVariables false
set_option maxRecDepth 20000
open Go Go.GV
namespace Go.Proofs
def pkC (keep : Int) (j n : Nat) : Nat := ((keep.toNat / 2 ^ (j % 32 * 2)) % 4) % (n + 1)
theorem pkC_le (keep : Int) (j n : Nat) : pkC keep j n ≤ n := by
  unfold pkC; exact Nat.le_of_lt_succ (Nat.mod_lt _ (Nat.succ_pos _))
theorem wrapU {n : Int} (h1 : 0 ≤ n) (h2 : n < 18446744073709551616) : IntKind.u64.wrap n = n := by
  have : IntKind.u64.wrap n = n % 18446744073709551616 := by
    simp [IntKind.wrap, IntKind.bits, IntKind.signed]
  rw [this]; omega
theorem pick_val {keep : Int} (hk : 0 ≤ keep ∧ keep < 18446744073709551616) {j n : Nat} (hn : n ≤ 1000000) :
    Int.tmod (IntKind.wrap .i64 (IntKind.wrap .u64 (((BitVec.ofInt 64 (Int.fdiv keep ((2 : Int) ^ min (Int.toNat (IntKind.wrap .u64 (IntKind.wrap .i64 (Int.tmod (j : Int) 32 * 2)))) 64)) &&& BitVec.ofInt 64 3).toNat : Nat) : Int))) (IntKind.wrap .i64 ((n : Int) + 1)) = (pkC keep j n : Int) := by
  have e1 : Int.tmod (j : Int) 32 = ((j % 32 : Nat) : Int) := by
    rw [Int.tmod_eq_emod_of_nonneg (by omega)]; omega
  have e2 : IntKind.wrap .u64 (IntKind.wrap .i64 (Int.tmod (j : Int) 32 * 2)) = ((j % 32 * 2 : Nat) : Int) := by
    rw [e1, wrap64_of (by omega) (by omega), wrapU (by omega) (by omega)]; omega
  obtain ⟨kn, rfl⟩ : ∃ kn : Nat, keep = kn := ⟨keep.toNat, by omega⟩
  rw [e2, Int.toNat_natCast, Nat.min_eq_left (by omega), wrap64_of (n := (n : Int) + 1) (by omega) (by omega)]
  have e3 : Int.fdiv (kn : Int) ((2 : Int) ^ (j % 32 * 2)) = ((kn / 2 ^ (j % 32 * 2) : Nat) : Int) := by
    rw [Int.fdiv_eq_ediv_of_nonneg _ (Int.pow_nonneg (by decide))]
    simp
  rw [e3]
  have hv : kn / 2 ^ (j % 32 * 2) < 18446744073709551616 := Nat.lt_of_le_of_lt (Nat.div_le_self _ _) (by omega)
  generalize hg : kn / 2 ^ (j % 32 * 2) = v at hv
  have e4 : (BitVec.ofInt 64 (v : Int) &&& BitVec.ofInt 64 3).toNat = v % 4 := by
    rw [BitVec.toNat_and]
    have : (BitVec.ofInt 64 (v : Int)).toNat = v := by
      simp; omega
    rw [this]
    show v &&& 3 = v % 4
    exact Nat.and_two_pow_sub_one_eq_mod v 2
  rw [e4]
  have h4 : v % 4 < 4 := Nat.mod_lt _ (by decide)
  rw [wrapU (by omega) (by omega), wrap64_of (by omega) (by omega), Int.tmod_eq_emod_of_nonneg (by omega)]
  unfold pkC
  rw [Int.toNat_natCast, hg, Int.natCast_emod (v % 4) (n + 1), Int.natCast_add]
  rfl

theorem tells_crash {keep : Int} (hk : 0 ≤ keep ∧ keep < 18446744073709551616) {b : Nat} {N : Nat} (hN : N ≤ 1000000) (j n : Nat) (H' : Heap) (K' : Int → Heap → Prop) (hn : n ≤ N) (hj : j ≤ 512) (hg : Blk H' ⟨b, 0, none⟩ [.int .u64 keep]) (hk' : K' (pkC keep j n : Int) H') :
    CallV Try.prog (.func (.func 42) #[] #[.pointer (some ⟨b, 0, none⟩)]) [.int .i64 (j : Int), .int .i64 (n : Int)] H' fun v H'' => ∃ r, v = .int .i64 r ∧ K' r H'' := by
  refine ⟨42, #[], _, rfl, by kernel_rfl, ?_⟩
  apply vc_block_Disk_Crash_1
  have e1 : Int.tmod (j : Int) 32 = ((j % 32 : Nat) : Int) := by
    rw [Int.tmod_eq_emod_of_nonneg (by omega)]; omega
  refine ⟨keep, hg.ldK (j := 0) (by kernel_rfl) rfl, chk_of ?_ (chk_of ?_ ?_)⟩
  · rw [e1, wrap64_of (by omega) (by omega), wrapU (by omega) (by omega)]; omega
  · rw [wrap64_of (by omega) (by omega)]; omega
  · refine ⟨_, rfl, ?_⟩
    rw [pick_val hk (by omega)]
    exact hk'
theorem tells_flush {N : Nat} (j n : Nat) (H' : Heap) (K' : Int → Heap → Prop) (hn : n ≤ N) (hj : j ≤ 512) (hg : True) (hk' : K' (n : Int) H') :
    CallV Try.prog (.func (.func 71) #[] #[]) [.int .i64 (j : Int), .int .i64 (n : Int)] H' fun v H'' => ∃ r, v = .int .i64 r ∧ K' r H'' := by
  refine ⟨71, #[], _, rfl, by kernel_rfl, ?_⟩
  apply vc_block_Disk_Flush_1
  exact ⟨_, rfl, hk'⟩

def crashM (keep : Int) (m : Dk) : Dk := if m.off then m else { settleM (pkC keep) m with off := true, left := 0 }
theorem Crash_ok {d : Addr} {S : List Nat} {m : Dk} {N : Nat} {keep : Int} {H : Heap} {K : Heap → Prop} (h : DRep H d S m N) (hN : N ≤ 1000000) (hkp : 0 ≤ keep ∧ keep < 18446744073709551616) (hk : ∀ H', DRep H' d S (crashM keep m) N → Fr S H H' → K H') :
    CallH Try.prog fn_block_Disk_Crash ⟨[.pointer (some d), .int .u64 keep]⟩ H fun v H' => v = .tuple ⟨[]⟩ ∧ K H' := by
  apply vc_block_Disk_Crash
  intro b H1 hn1
  have h1 := h.keep hn1.fr
  obtain ⟨r, ck, L, hd⟩ := h1.it
  unfold crashM at hk
  refine ⟨_, hd.ldOff, brB_of (fun h0 => ⟨rfl, hk H1 ?_ (hn1.fr.mono (by simp))⟩) (fun h0 => ?_)⟩
  · rw [if_pos h0]; exact h1
  · rw [if_neg (by simp [h0])] at hk
    refine settle_ok h1 hN (tells_crash hkp hN) (pkC_le keep) (fun H' hf => hn1.blk.fr hf fun hb => ?_) fun H2 h2 hf2 => ?_
    · have := h.inS b hb
      have := hn1.eq
      omega
    · obtain ⟨r2, ck2, L2, hd2⟩ := h2.it
      refine hd2.stT { settleM (pkC keep) m with off := true } (by kernel_rfl) (by kernel_rfl) rfl rfl (by decide : 1 < 5) rfl rfl rfl rfl fun H3 h3 hf3 => ?_
      refine h3.stT { settleM (pkC keep) m with off := true, left := 0 } (by kernel_rfl) (by kernel_rfl) rfl rfl (by decide : 2 < 5) rfl rfl rfl rfl fun H4 h4 hf4 => ⟨rfl, ?_⟩
      have hf24 : Fr [d.block] H2 H4 := hf3.trans' hf4 (fun _ h _ => h) (fun _ h _ => h)
      have hf14 : Fr S H1 H4 := hf2.trans' hf24 (fun _ h _ => h) (fun k hk _ => by simp at hk; subst hk; exact hd.foot.1)
      exact hk H4 ⟨⟨r2, ck2, L2, h4⟩, by simp, h.calls, fun _ => by simp [settleM], h1.inS.le hf14.size⟩ (hn1.fr.trans' hf14 (by simp) (fun _ h _ => h))

/-- A call that counts. -/
def lastM (m : Dk) : Dk × Bool :=
  if m.left ≠ 1 then ({ m with calls := m.calls + 1, left := if 0 > m.left - 1 then 0 else m.left - 1 }, false) else (crashM m.keep { m with calls := m.calls + 1 }, true)
theorem last_ok {d : Addr} {S : List Nat} {m : Dk} {N : Nat} {H : Heap} {K : Bool → Heap → Prop} (h : DRep H d S m N) (hN : N + 1 ≤ 1000000) (hkp : 0 ≤ m.keep ∧ m.keep < 18446744073709551616) (hk : ∀ H', DRep H' d S (lastM m).1 (N + 1) → Fr S H H' → K (lastM m).2 H') :
    CallH Try.prog fn_block_Disk_last ⟨[.pointer (some d)]⟩ H fun v H' => ∃ b, v = .bool b ∧ K b H' := by
  apply vc_block_Disk_last
  obtain ⟨r, ck, L, hd⟩ := h.it
  have hc := h.calls
  have hl := h.left
  have foot : ∀ k ∈ [d.block], k < H.size → k ∈ S := fun k hk _ => by simp at hk; subst hk; exact hd.foot.1
  refine ⟨_, hd.ldCalls, ?_⟩
  rw [wrap64_of (by omega) (by omega)]
  refine hd.stT { m with calls := m.calls + 1 } (by kernel_rfl) (by kernel_rfl) rfl rfl (by decide : 4 < 5) rfl rfl rfl rfl fun H1 h1 hf1 => ⟨_, h1.ldLeft, ?_⟩
  have hr1 : DRep H1 d S { m with calls := m.calls + 1 } (N + 1) := ⟨⟨r, ck, L, h1⟩, h.left, ⟨by show 0 ≤ m.calls + 1; omega, by show m.calls + 1 ≤ ((N + 1 : Nat) : Int); omega⟩, fun k => Nat.le_trans (h.wlen k) (by omega), h.inS.le hf1.size⟩
  unfold lastM at hk
  refine brB_of (fun h0 => ⟨_, h1.ldLeft, ?_⟩) (fun h0 => ⟨_, h1.ldKeep, ?_⟩)
  · rw [if_pos (by simpa using h0)] at hk
    rw [wrap64_of (by show _ ≤ m.left - 1; omega) (by show m.left - 1 ≤ _; omega)]
    refine h1.stT { m with calls := m.calls + 1, left := if 0 > m.left - 1 then 0 else m.left - 1 } (by kernel_rfl) (by kernel_rfl) rfl rfl (by decide : 2 < 5) rfl rfl rfl rfl fun H2 h2 hf2 => ⟨_, rfl, ?_⟩
    have hf := hf1.trans' hf2 foot (fun k hk hlt => foot k hk hlt)
    refine hk H2 ⟨⟨r, ck, L, h2⟩, ?_, hr1.calls, hr1.wlen, h.inS.le hf.size⟩ hf
    show 0 ≤ (if 0 > m.left - 1 then (0 : Int) else m.left - 1) ∧ (if 0 > m.left - 1 then (0 : Int) else m.left - 1) ≤ _
    split <;> omega
  · rw [if_neg (by simpa using h0)] at hk
    exact Crash_ok hr1 hN hkp fun H2 h2 hf2 => ⟨_, rfl, hk H2 h2 (hf1.trans' hf2 foot (fun _ h _ => h))⟩

def flushM (m : Dk) : Dk × Int :=
  if m.off then (m, 90) else if (lastM m).2 then ((lastM m).1, 90) else (settleM (fun _ n => n) (lastM m).1, 0)
theorem Flush_ok {d : Addr} {S : List Nat} {m : Dk} {N : Nat} {H : Heap} {K : Int → Heap → Prop} (h : DRep H d S m N) (hN : N + 1 ≤ 1000000) (hkp : 0 ≤ m.keep ∧ m.keep < 18446744073709551616) (hk : ∀ H', DRep H' d S (flushM m).1 (N + 1) → Fr S H H' → K (flushM m).2 H') :
    CallH Try.prog fn_block_Disk_Flush ⟨[.pointer (some d)]⟩ H fun v H' => ∃ b, v = .int .i64 b ∧ K b H' := by
  apply vc_block_Disk_Flush
  obtain ⟨r, ck, L, hd⟩ := h.it
  unfold flushM at hk
  refine ⟨_, hd.ldOff, brB_of (fun h0 => ⟨_, rfl, ?_⟩) (fun h0 => ?_)⟩
  · rw [if_pos h0] at hk
    exact hk H (h.mono (by omega)) (Fr.refl _ _)
  · rw [if_neg (by simp [h0])] at hk
    refine last_ok h hN hkp fun H1 h1 hf1 => brB_of (fun h2 => ⟨_, rfl, ?_⟩) (fun h2 => ?_)
    · rw [if_pos h2] at hk
      exact hk H1 h1 hf1
    · rw [if_neg (by simp [h2])] at hk
      refine settle_ok (G := fun _ => True) h1 hN (tells_flush (N := N + 1)) (fun _ n => Nat.le_refl n) (fun _ _ => trivial) fun H2 h3 hf3 => ?_
      exact ⟨_, rfl, hk H2 h3 (hf1.trans' hf3 (fun _ h _ => h) (fun _ h _ => h))⟩

theorem mem_setL' {k : Int} {v : Value} : ∀ {L : List (Ent Int)}, (L.map (·.1)).Nodup → ∀ {y : Ent Int}, y ∈ setL k v L → (y.1 = k ∧ y.2.1 = v) ∨ (y.1 ≠ k ∧ y ∈ L)
  | [], _, y, h => by cases h
  | z :: l, hn, y, h => by
    simp only [List.map_cons, List.nodup_cons] at hn
    simp only [setL] at h
    split at h
    · rename_i e
      rcases List.mem_cons.1 h with rfl | h
      · exact .inl ⟨rfl, rfl⟩
      · refine .inr ⟨fun e2 => hn.1 ?_, by simp [h]⟩
        rw [e, ← e2]
        exact List.mem_map_of_mem (f := fun x : Ent Int => x.1) h
    · rename_i e
      rcases List.mem_cons.1 h with rfl | h
      · exact .inr ⟨e, by simp⟩
      · rcases mem_setL' hn.2 h with h | ⟨h1, h2⟩
        · exact .inl h
        · exact .inr ⟨h1, by simp [h2]⟩
theorem mem_putL {k : Int} {v : Value} {ck : Nat} {L : List (Ent Int)} (hw : WfL ck L) {y : Ent Int} (h : y ∈ putL k v ck L) : (y.1 = k ∧ y.2.1 = v) ∨ (y.1 ≠ k ∧ y ∈ L) := by
  unfold putL at h
  split at h
  · exact mem_setL' hw.keys h
  · rename_i hg
    rcases List.mem_append.1 h with h | h
    · refine .inr ⟨fun e => ?_, h⟩
      exact (getL_none_iff.1 hg) (by rw [← e]; exact List.mem_map_of_mem (f := fun x : Ent Int => x.1) h)
    · simp at h; subst h; exact .inl ⟨rfl, rfl⟩

def setW (w : Int → List ByteArray) (i : Int) (l : List ByteArray) : Int → List ByteArray := fun k => if k = i then l else w k
def writeM (m : Dk) (i : Int) (s : ByteArray) : Dk × Int :=
  if m.off then (m, 90) else if i < 0 ∨ m.size ≤ i ∨ 64 < s.size then (m, 91) else
    let x := lastM { m with wait := setW m.wait i (m.wait i ++ [s]) }
    (x.1, if x.2 then 90 else 0)
theorem Write_ok {d : Addr} {S : List Nat} {m : Dk} {N : Nat} {i : Int} {s : ByteArray} {H : Heap} {K : Int → Heap → Prop} (h : DRep H d S m N) (hN : N + 2 ≤ 1000000) (hkp : 0 ≤ m.keep ∧ m.keep < 18446744073709551616)
    (hk : ∀ H' S', DRep H' d S' (writeM m i s).1 (N + 2) → Fr S H H' → Grow H S S' → K (writeM m i s).2 H') :
    CallH Try.prog fn_block_Disk_Write ⟨[.pointer (some d), .int .i64 i, .string s]⟩ H fun v H' => ∃ b, v = .int .i64 b ∧ K b H' := by
  apply vc_block_Disk_Write
  obtain ⟨r, ck, L, hd⟩ := h.it
  unfold writeM at hk
  refine ⟨fun _ H' => H' = H ∧ m.off = false ∧ ¬ (i < 0 ∨ m.size ≤ i ∨ 64 < s.size), ⟨_, hd.ldOff, brB_of (fun h0 => ⟨_, rfl, ?_⟩) (fun h0 => brB_of (fun h1 => ⟨_, rfl, ?_⟩) (fun h1 => ⟨_, hd.ldSize, brB_of (fun h2 => ⟨_, rfl, ?_⟩) (fun h2 => brB_of (fun h3 => ⟨_, rfl, ?_⟩) (fun h3 => ?_))⟩))⟩, ?_⟩
  · rw [if_pos h0] at hk
    exact hk H S (h.mono (by omega)) (Fr.refl _ _) (Grow.refl _ _)
  · rw [if_neg (by simp [h0]), if_pos (.inl (by simpa using h1))] at hk
    exact hk H S (h.mono (by omega)) (Fr.refl _ _) (Grow.refl _ _)
  · rw [if_neg (by simp [h0]), if_pos (.inr (.inl (by simpa using h2)))] at hk
    exact hk H S (h.mono (by omega)) (Fr.refl _ _) (Grow.refl _ _)
  · rw [if_neg (by simp [h0]), if_pos (.inr (.inr (by simp at h3; omega)))] at hk
    exact hk H S (h.mono (by omega)) (Fr.refl _ _) (Grow.refl _ _)
  · refine ⟨rfl, h0, ?_⟩
    simp at h1 h2 h3
    omega
  rintro J H' ⟨rfl, h0, hin⟩
  rw [if_neg (by simp [h0]), if_neg hin] at hk
  have hin' : 0 ≤ i ∧ i < m.size ∧ s.size ≤ 64 := by omega
  have hsz := hd.size
  obtain ⟨a, n, c, hl, ho, hbk, hwhich, hgd⟩ := hd.look i
  have hn := ho.1
  have hw := h.wlen i
  refine ⟨some r, hd.ldM, some r, hd.ldM, a, n, c, hl, fun b H1 hn1 => ?_⟩
  have hd1 := hd.fr (T := []) hn1.fr (fun _ _ => by simp)
  have hsame : Rd Try.prog (Instr.lookup 60 (.map (some r)) (.int .i64 i) false) H1 (.slice a n c) := by
    have hlk := lookup_map MT (mt := 60) (e := 41) Try.underlying60 zero41 hd1.map i
    rw [hgd] at hlk
    exact hlk
  refine ⟨hsame, hd1.ldM, hd1.ldM, ?_⟩
  refine ap_grow (E := GV.encStr) (t := 9) (bytes := 16) (base := 0) slice41 elem9 (ho.keep hn1.fr) (sl_one GV.encStr s hn1 rfl) (Nat.zero_le _) (by omega) fun a2 n2 c2 H2 ho2 hf2 hg2 => ?_
  have hdn : d.block ∉ blkL a := fun hk => (hbk _ hk).2.1 rfl
  have hrn : r ∉ blkL a := fun hk => (hbk _ hk).2.2 rfl
  have hblk2 := hd1.blk.fr hf2 hdn
  have hmap2 := hd1.map.fr MT hf2 hrn
  have hs1 := hn1.fr.size
  have hs2 := hf2.size
  have hold : ∀ {Hx : Heap}, ∀ x ∈ L, ∀ k ∈ blkV x.2.1, k < H'.size := fun x hx k hk => by
    obtain ⟨a3, n3, c3, e3, ho3, _⟩ := hd.ents x hx
    rw [e3] at hk
    exact (ho3.ge k hk).2
  have hapart : ∀ x ∈ L, x.1 ≠ i → Dj (blkV x.2.1) (blkL a) := fun x hx hne => by
    rcases hwhich with hg | ⟨_, rfl⟩
    · obtain ⟨b3, hb3⟩ := mem_getL hg
      exact hd.apart x hx _ hb3 hne
    · intro k _ hk; cases hk
  have ha2 : ∀ k ∈ blkL a2, k ∈ blkL a ∨ H'.size ≤ k := fun k hk => by
    rcases hg2 k hk with h | h
    · exact .inl h
    · exact .inr (by omega)
  refine ⟨hblk2.ld (by kernel_rfl) (dkC_tail m r 0), put_map MT (mt := 60) (e := 41) Try.underlying60 hmap2 i fun H3 hm3 hf3 => ?_⟩
  have hs3 := hf3.size
  have hDL : DL H3 d r (putC i ck L) (putL i (.slice a2 n2 c2) ck L) (S ++ blkL a2) { m with wait := setW m.wait i (m.wait i ++ [s]) } := by
    refine ⟨hblk2.fr hf3 (by simp [hd.ne]), hm3, hd.ne, fun x hx => ?_, fun x hx y hy hxy => ?_, fun x hx => ?_, fun k hk => ?_, hd.size, by simp [hd.foot]⟩
    · rcases mem_putL hd.map.wf hx with ⟨e1, e2⟩ | ⟨hne, hx⟩
      · refine ⟨a2, n2, c2, e2, ?_, fun k hk => ⟨by simp [hk], ?_⟩⟩
        · simp only [setW, e1, if_true]
          exact ho2.fr hf3 fun ad ea hk => by
            simp only [List.mem_singleton] at hk
            rcases ha2 ad.block (by simp [blkL, ea]) with h | h
            · exact hrn (hk ▸ h)
            · have := hd.map.lt; omega
        · rcases ha2 k hk with h1 | h1
          · exact (hbk k h1).2
          · have := hd.map.lt; have := hd.blk.lt; omega
      · obtain ⟨a3, n3, c3, e3, ho3, hk3⟩ := hd.ents x hx
        refine ⟨a3, n3, c3, e3, ?_, fun k hk => ⟨by simp [(hk3 k hk).1], (hk3 k hk).2⟩⟩
        simp only [setW, hne, if_false]
        have hdj := hapart x hx hne
        rw [e3] at hdj
        refine ((ho3.keep hn1.fr).fr hf2 fun ad ea => hdj _ (by simp [blkV, blkL, ea])).fr hf3 fun ad ea hk => ?_
        simp only [List.mem_singleton] at hk
        exact (hk3 ad.block (by simp [blkL, ea])).2.2 hk
    · rcases mem_putL hd.map.wf hx with ⟨e1, e2⟩ | ⟨hne, hx⟩ <;> rcases mem_putL hd.map.wf hy with ⟨e3, e4⟩ | ⟨hne2, hy⟩
      · exact absurd (e1.trans e3.symm) hxy
      · rw [e2]
        intro k hk hk2
        rcases ha2 k hk with h1 | h1
        · exact hapart y hy hne2 k hk2 h1
        · have := hold (Hx := H3) y hy k hk2; omega
      · rw [e4]
        intro k hk hk2
        rcases ha2 k hk2 with h1 | h1
        · exact hapart x hx hne k hk h1
        · have := hold (Hx := H3) x hx k hk; omega
      · exact hd.apart x hx y hy hxy
    · rcases mem_putL hd.map.wf hx with ⟨e1, e2⟩ | ⟨hne, hx⟩
      · simp only [setW, e1, if_true]
        exact ⟨by simp, hin'.1, hin'.2.1⟩
      · simp only [setW, hne, if_false]
        exact hd.good x hx
    · rw [getL_putL] at hk
      split at hk
      · cases hk
      · rename_i hne
        simp only [setW, hne, if_false]
        exact hd.rest k hk
  have hf13 : Fr S H' H3 := (hn1.fr.trans' hf2 (by simp) (fun k hk _ => (hbk k hk).1)).trans' hf3 (fun _ h _ => h) (fun k hk _ => by simp at hk; subst hk; exact hd.foot.2)
  have hg13 : Grow H' S (S ++ blkL a2) := fun k hk => by
    rcases List.mem_append.1 hk with h | h
    · exact .inl h
    · rcases ha2 k h with h | h
      · exact .inl (hbk k h).1
      · exact .inr h
  have hr3 : DRep H3 d (S ++ blkL a2) { m with wait := setW m.wait i (m.wait i ++ [s]) } (N + 1) := by
    refine ⟨⟨_, _, _, hDL⟩, h.left, ⟨h.calls.1, by have := h.calls.2; show m.calls ≤ ((N + 1 : Nat) : Int); omega⟩, fun k => ?_, ?_⟩
    · show (setW m.wait i (m.wait i ++ [s]) k).length ≤ N + 1
      unfold setW
      split
      · have := h.wlen i; simp; omega
      · have := h.wlen k; omega
    · refine In.app (h.inS.le hf13.size) fun k hk => ?_
      have := (ho2.ge k hk).2
      omega
  exact last_ok hr3 (by omega) hkp fun H4 h4 hf4 => by
    have hf14 : Fr S H' H4 := hf13.trans' hf4 (fun _ h _ => h) (fun k hk hlt => by
      rcases hg13 k hk with h | h
      · exact h
      · omega)
    have := hk H4 (S ++ blkL a2) h4 hf14 hg13
    simp only at this
    refine brB_of (fun hb => ⟨_, rfl, ?_⟩) (fun hb => ⟨_, rfl, ?_⟩)
    · rw [if_pos hb] at this; exact this
    · rw [if_neg (by simp [hb])] at this; exact this
end Go.Proofs
