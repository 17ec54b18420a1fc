/- A part of a proof: see the last text of this claim. -/
import Derived.Test.YtachnphffnaacaaP09c
set_option linter.unusedVariables false
open Go Go.GV
namespace Go.Proofs

theorem Blk.cast {H : Heap} {a : Addr} {vs ws : List Value} (h : Blk H a vs) (e : vs = ws) : Blk H a ws := e ▸ h
def newM (n : Int) : Dk := { size := if (if 512 < n then 512 else n) > 8 then if 512 < n then 512 else n else 8, is := fun _ => ⟨#[]⟩, wait := fun _ => [], off := false, left := 0, keep := 0, calls := 0 }
theorem New_ok {n : Int} {H : Heap} {K : Option Addr → Heap → Prop} (hk : ∀ b H' S, (∀ k ∈ S, H.size ≤ k) → DRep H' ⟨b, 0, none⟩ S (newM n) 0 → Fr [] H H' → K (some ⟨b, 0, none⟩) H') :
    CallH Try.prog fn_block_New ⟨[.int .i64 n]⟩ H fun v H' => ∃ a, v = .pointer a ∧ K a H' := by
  apply vc_block_New
  intro b H1 hn1 b1 H2 hn2
  have hb := Blk.cast (ws := dkC (newM n) b) hn2.blk (by kernel_rfl)
  have e1 := hn1.eq
  have e2 := hn2.eq
  have s1 := hn1.size
  have s2 := hn2.size
  refine ⟨_, rfl, hk b1 H2 [b1, b] (by simp; omega) ⟨⟨b, 0, [], hb, (MapR.new MT hn1).keep MT hn2.fr, by simp; omega, by simp, by simp, by simp, fun _ _ => rfl, ?_, by simp⟩, by simp [newM], by simp [newM], fun _ => by simp [newM], ?_⟩ (hn1.fr.keep0 hn2.fr)⟩
  · simp only [newM]
    split <;> (repeat' split) <;> omega
  · intro k hk
    simp at hk
    omega

abbrev Step9 := Int × Int × ByteArray × Int
def encStep : Enc Step9 := ⟨fun x => [.int .i64 x.1, .int .i64 x.2.1, .string x.2.2.1, .int .u64 x.2.2.2], 4, fun _ => rfl, by decide, fun _ v h => by simp at h; rcases h with rfl | rfl | rfl | rfl <;> rfl⟩

theorem heavy_ok {a : Option Addr} {n c : Nat} {l : List Step9} {H : Heap} {K : Bool → Heap → Prop} (hl : Sl encStep H a n c l) (hk : ∀ b, (b = false → n ≤ 200) → K b H) :
    CallH Try.prog fn_law09_heavy ⟨[.slice a n c]⟩ H fun v H' => ∃ b, v = .bool b ∧ K b H' := by
  apply vc_law09_heavy
  have hlen := hl.len
  by_cases hbig : n ≤ 1000000000
  · refine ⟨fun vs H' => match vs with | [.int _ s, .int _ i] => ∃ k : Nat, i = k ∧ k ≤ n ∧ 0 ≤ s ∧ s ≤ 2000000 ∧ H' = H | _ => False,
      fun vs _ => match vs with | [_, .int _ i] => n - i.toNat | _ => 0, ⟨0, rfl, by omega, by split <;> omega, by split <;> omega, rfl⟩, ?_⟩
    rintro J s i H' ⟨k, rfl, hle, h0, h1, rfl⟩
    have fin : brB (decide (s > 16384)) (∃ b, Value.bool true = .bool b ∧ K b H') (∃ b, Value.bool (decide ((n : Int) > 200)) = .bool b ∧ K b H') := by
      refine brB_of (fun _ => ⟨_, rfl, hk _ (by simp)⟩) (fun _ => ⟨_, rfl, hk _ fun h => ?_⟩)
      simp at h
      omega
    refine brB_of (fun g => brB_of (fun g1 => ?_) (fun _ => fin)) (fun _ => fin)
    have hk' : k < n := by simpa using g
    have g1' : s ≤ 16384 := by simpa using g1
    have hx : l[k]? = some (l[k]'(by omega)) := by simp
    refine hl.get rfl hx (decide_eq_true (by omega)) fun ad ea hc => ⟨_, ld_part (j := 2) (by kernel_rfl) hc rfl, ?_⟩
    rw [succ64 (by omega)]
    have hm : ∀ z : Nat, 0 ≤ (if (1048576 : Int) < (z : Int) then (1048576 : Int) else z) ∧ (if (1048576 : Int) < (z : Int) then (1048576 : Int) else z) ≤ 1048576 := by intro z; split <;> omega
    have := hm (l[k]'(by omega)).2.2.1.size
    rw [wrap64_of (by omega) (by omega)]
    exact ⟨⟨k + 1, rfl, by omega, by omega, by omega, rfl⟩, mu_lt hk'⟩
  · refine ⟨fun vs H' => match vs with | [.int _ s, .int _ i] => s = 1048576 ∧ H' = H | _ => False, fun _ _ => 0, ⟨by rw [if_pos (by omega)], rfl⟩, ?_⟩
    rintro J s i H' ⟨rfl, rfl⟩
    exact brB_of (fun g => brB_of (fun g1 => by simp at g1) (fun _ => brB_of (fun _ => ⟨_, rfl, hk _ (by simp)⟩) (fun h => by simp at h))) (fun _ => brB_of (fun _ => ⟨_, rfl, hk _ (by simp)⟩) (fun h => by simp at h))

/-! the power goes at the call that was ordered -/
def CutI (m : Dk) (k j : Int) : Prop := m.size = 8 ∧ (0 ≤ m.keep ∧ m.keep < 18446744073709551616) ∧ (if 0 < k ∧ k ≤ j then m.off = true ∧ m.calls = k else m.off = false ∧ m.calls = j ∧ m.left = if 0 < k then k - j else 0)
theorem last_cut {m : Dk} {k j : Int} (h : CutI m k j) (ho : m.off = false) (hj : 0 ≤ j) : CutI (lastM m).1 k (j + 1) ∧ ((lastM m).2 = true ↔ 0 < k ∧ k ≤ j + 1) := by
  obtain ⟨h1, h2, h3⟩ := h
  have hc : ¬ (0 < k ∧ k ≤ j) := fun hc => by rw [if_pos hc] at h3; rw [h3.1] at ho; cases ho
  rw [if_neg hc] at h3
  obtain ⟨_, h4, h5⟩ := h3
  unfold lastM
  by_cases hl : m.left = 1
  · rw [if_neg (by simp [hl])]
    have hkj : 0 < k ∧ k ≤ j + 1 := by
      rw [hl] at h5
      split at h5 <;> omega
    refine ⟨⟨?_, ?_, ?_⟩, by simp [hkj]⟩
    · simp [crashM, ho, settleM, h1]
    · simp only [crashM, ho, settleM]; exact h2
    · rw [if_pos hkj]
      have : m.calls + 1 = k := by rw [h4]; rw [hl] at h5; split at h5 <;> omega
      simp [crashM, ho, settleM, this]
  · rw [if_pos hl]
    have hkj : ¬ (0 < k ∧ k ≤ j + 1) := by
      intro hk
      rw [if_pos hk.1] at h5
      omega
    refine ⟨⟨h1, h2, ?_⟩, by simp [hkj]⟩
    rw [if_neg hkj]
    refine ⟨ho, by show m.calls + 1 = j + 1; omega, ?_⟩
    show (if 0 > m.left - 1 then (0 : Int) else m.left - 1) = _
    rw [h5]
    split <;> split <;> omega
theorem flush_cut {m : Dk} {k j : Int} (h : CutI m k j) (hj : 0 ≤ j) : CutI (flushM m).1 k (j + 1) ∧ (((flushM m).2 == 90) = decide (0 < k ∧ k ≤ j + 1)) := by
  unfold flushM
  by_cases ho : m.off = true
  · rw [if_pos ho]
    obtain ⟨h1, h2, h3⟩ := h
    have hc : 0 < k ∧ k ≤ j := Classical.byContradiction fun hc => by rw [if_neg hc] at h3; rw [h3.1] at ho; cases ho
    rw [if_pos hc] at h3
    have hc' : 0 < k ∧ k ≤ j + 1 := by omega
    exact ⟨⟨h1, h2, by rw [if_pos hc']; exact h3⟩, by simp [hc']⟩
  · rw [if_neg ho]
    obtain ⟨hl, hb⟩ := last_cut h (by simpa using ho) hj
    by_cases hb2 : (lastM m).2 = true
    · rw [if_pos hb2]
      exact ⟨hl, by simp [hb.1 hb2]⟩
    · rw [if_neg hb2]
      have hn : ¬ (0 < k ∧ k ≤ j + 1) := fun hc => hb2 (hb.2 hc)
      exact ⟨hl, by simp [hn]⟩
theorem write_cut {m : Dk} {k j i : Int} {s : ByteArray} (h : CutI m k j) (hj : 0 ≤ j) (hi : 0 ≤ i ∧ i < 8) (hs : s.size ≤ 64) : CutI (writeM m i s).1 k (j + 1) ∧ (((writeM m i s).2 == 90) = decide (0 < k ∧ k ≤ j + 1)) := by
  unfold writeM
  have hsz := h.1
  by_cases ho : m.off = true
  · rw [if_pos ho]
    obtain ⟨h1, h2, h3⟩ := h
    have hc : 0 < k ∧ k ≤ j := Classical.byContradiction fun hc => by rw [if_neg hc] at h3; rw [h3.1] at ho; cases ho
    rw [if_pos hc] at h3
    have hc' : 0 < k ∧ k ≤ j + 1 := by omega
    exact ⟨⟨h1, h2, by rw [if_pos hc']; exact h3⟩, by simp [hc']⟩
  · rw [if_neg ho, if_neg (by omega)]
    have h' : CutI { m with wait := setW m.wait i (m.wait i ++ [s]) } k j := h
    obtain ⟨hl, hb⟩ := last_cut h' (by simpa using ho) hj
    refine ⟨hl, ?_⟩
    simp only
    by_cases hb2 : (lastM { m with wait := setW m.wait i (m.wait i ++ [s]) }).2 = true
    · rw [if_pos hb2]; simp [hb.1 hb2]
    · have hn : ¬ (0 < k ∧ k ≤ j + 1) := fun hc => hb2 (hb.2 hc)
      rw [if_neg hb2]; simp [hn]

/-! a disk whose power is there, no cut ordered -/
structure Calm (m : Dk) (z : Int) : Prop where
  off : m.off = false
  left : m.left = 0
  keep : 0 ≤ m.keep ∧ m.keep < 18446744073709551616
  size : m.size = z
def cur (m : Dk) (k : Nat) : ByteArray := ((m.wait (k : Int)).getLast?).getD (m.is k)
theorem last_calm {m : Dk} {z : Int} (h : Calm m z) : lastM m = ({ m with calls := m.calls + 1, left := 0 }, false) := by
  unfold lastM
  rw [if_pos (by rw [h.left]; decide), h.left]
  rfl
theorem flush_calm {m : Dk} {z : Int} (h : Calm m z) : flushM m = (settleM (fun _ n => n) { m with calls := m.calls + 1, left := 0 }, 0) := by
  unfold flushM
  rw [if_neg (by simp [h.off]), last_calm h]
  rfl
theorem Calm.flush {m : Dk} {z : Int} (h : Calm m z) : Calm (flushM m).1 z := by
  rw [flush_calm h]
  exact ⟨h.off, rfl, h.keep, h.size⟩
theorem write_calm {m : Dk} {z : Int} (h : Calm m z) (i : Int) (s : ByteArray) : writeM m i s = if i < 0 ∨ z ≤ i ∨ 64 < s.size then (m, 91) else ({ m with wait := setW m.wait i (m.wait i ++ [s]), calls := m.calls + 1, left := 0 }, 0) := by
  have hz := h.size
  subst hz
  unfold writeM
  rw [if_neg (by simp [h.off])]
  split
  · rfl
  · rw [last_calm (z := m.size) (m := { m with wait := setW m.wait i (m.wait i ++ [s]) }) ⟨h.off, h.left, h.keep, h.size⟩]
    rfl
theorem Calm.write {m : Dk} {z : Int} (h : Calm m z) (i : Int) (s : ByteArray) : Calm (writeM m i s).1 z := by
  rw [write_calm h]
  split
  · exact h
  · exact ⟨h.off, rfl, h.keep, h.size⟩
theorem setl_flush (m : Dk) (k : Nat) : setl (fun _ n => n) m k = cur m k := by
  unfold setl cur
  split
  · rename_i h; rw [h]; rfl
  · rename_i h
    have hp : 0 < (m.wait (k : Int)).length := List.length_pos_iff.2 h
    simp only [hp, if_true]
    rw [List.getLast?_eq_getElem?]
theorem cur_flush {m : Dk} {z : Int} (h : Calm m z) (k : Nat) : cur (flushM m).1 k = cur m k := by
  rw [flush_calm h]
  have : cur (settleM (fun _ n => n) { m with calls := m.calls + 1, left := 0 }) k = setl (fun _ n => n) { m with calls := m.calls + 1, left := 0 } k := rfl
  simp only
  rw [this, setl_flush]
  rfl
theorem wait_flush {m : Dk} {z : Int} (h : Calm m z) (i : Int) : (flushM m).1.wait i = [] := by rw [flush_calm h]; rfl
theorem read_calm {m : Dk} {z : Int} (h : Calm m z) {k : Nat} (hk : (k : Int) < z) : rdM m (k : Int) = (cur m k, 0) := by
  unfold rdM
  rw [if_neg (by simp [h.off]), if_neg (by rw [h.size]; omega)]
  rfl
theorem crash_off (keep : Int) (m : Dk) : (crashM keep m).off = true := by
  unfold crashM
  split
  · assumption
  · rfl
theorem setl_none {pk : Nat → Nat → Nat} {m : Dk} {k : Nat} (h : m.wait (k : Int) = []) : setl pk m k = m.is k := by rw [setl, if_pos h]
/-- The power gone and there again. -/
theorem again {m : Dk} {z : Int} (h : Calm m z) (keep : Int) : Calm (powerM (crashM keep m)) z ∧ (∀ i, (powerM (crashM keep m)).wait i = []) ∧ (powerM (crashM keep m)).is = setl (pkC keep) m := by
  unfold crashM
  rw [if_neg (by simp [h.off])]
  exact ⟨⟨rfl, rfl, h.keep, h.size⟩, fun _ => rfl, rfl⟩
theorem calm_new {n : Int} (h : 8 ≤ n ∧ n ≤ 512) : Calm (newM n) n := by
  refine ⟨rfl, rfl, by simp [newM], ?_⟩
  simp only [newM]
  split <;> (repeat' split) <;> omega

theorem Cuts_ok {n many keep : Int} {H : Heap} (hn : 0 ≤ n ∧ n ≤ 255) (hm : 0 ≤ many ∧ many ≤ 255) (hkp : 0 ≤ keep ∧ keep < 18446744073709551616) :
    CallH Try.prog fn_law09_BlockCuts ⟨[.int .u8 n, .int .u8 many, .int .u64 keep]⟩ H fun v H' => v = .bool true ∧ Fr [] H H' := by
  apply vc_law09_BlockCuts
  rw [wrap64_of (n := n) (by omega) (by omega), wrap64_of (n := many) (by omega) (by omega)]
  have hk0 : 0 ≤ Int.tmod n 20 ∧ Int.tmod n 20 < 20 := by rw [Int.tmod_eq_emod_of_nonneg hn.1]; omega
  have hm0 : 0 ≤ Int.tmod many 30 ∧ Int.tmod many 30 < 30 := by rw [Int.tmod_eq_emod_of_nonneg hm.1]; omega
  generalize Int.tmod n 20 = k at hk0
  generalize Int.tmod many 30 = mm at hm0
  refine New_ok fun b H1 S hS h1 hf1 => ?_
  refine Cut_ok h1 (by unfold I64; omega) fun H2 h2 hf2 => ?_
  have hfoot : ∀ {m : Dk} {N : Nat} {Hx : Heap} {Sx : List Nat}, DRep Hx ⟨b, 0, none⟩ Sx m N → b ∈ Sx := fun h => by obtain ⟨_, _, _, hd⟩ := h.it; exact hd.foot.1
  have hb : H.size ≤ b := hS b (hfoot h1)
  have hf2' : Fr [] H H2 := hf1.keep hf2 (by simpa using hb)
  have hc0 : CutI (cutM (newM 8) k keep) k 0 := by
    refine ⟨(calm_new (n := 8) ⟨by decide, by decide⟩).size, hkp, ?_⟩
    rw [if_neg (by omega)]
    refine ⟨rfl, rfl, ?_⟩
    show (if 0 > k then (0 : Int) else k) = _
    split <;> split <;> omega
  refine ⟨fun vs H' => match vs with | [.int _ i] => ∃ (S' : List Nat) (m : Dk), 1 ≤ i ∧ i ≤ mm + 1 ∧ (∀ k ∈ S', H.size ≤ k) ∧ DRep H' ⟨b, 0, none⟩ S' m (2 * i.toNat) ∧ CutI m k (i - 1) ∧ Fr [] H H' | _ => False,
    fun vs _ => match vs with | [.int _ i] => (40 - i).toNat | _ => 0, ⟨S, _, by omega, by omega, hS, h2.mono (by omega), hc0, hf2'⟩, ?_⟩
  rintro J i H3 ⟨S3, m, hi1, hi2, hS3, h3, hc3, hf3⟩
  refine brB_of (fun h0 => ?_) (fun h0 => ?_)
  · have hi3 : i ≤ mm := by simpa using h0
    have hki := h3.calls
    obtain ⟨IM, hIM⟩ : ∃ M : List Value → Heap → Prop, M = fun _ H' => ∃ (S' : List Nat) (m : Dk), 1 ≤ i + 1 ∧ i + 1 ≤ mm + 1 ∧ (∀ k ∈ S', H.size ≤ k) ∧ DRep H' ⟨b, 0, none⟩ S' m (2 * (i + 1).toNat) ∧ CutI m k (i + 1 - 1) ∧ Fr [] H H' := ⟨_, rfl⟩
    -- what follows either call
    have next : ∀ (r : Int) (m' : Dk) (S4 : List Nat) (H4 : Heap), (∀ k ∈ S4, H.size ≤ k) → DRep H4 ⟨b, 0, none⟩ S4 m' (2 * (i + 1).toNat) → Fr [] H H4 → CutI m' k i → ((r == 90) = decide (0 < k ∧ k ≤ i)) →
        ∃ (M_1 : List Value → Heap → Prop), brB (decide (k > 0)) (M_1 [.bool (decide (i ≥ k))] H4) (M_1 [.bool false] H4) ∧ ∀ (J : F) (b1 : Bool) (H' : Heap), M_1 [.bool b1] H' → ∃ (M_2 : List Value → Heap → Prop), brB (!(r == 90) == b1) (Value.bool false = .bool true ∧ Fr [] H H') (CallH Try.prog 12 ⟨[.pointer (some ⟨b, 0, none⟩)]⟩ H' fun v H' => ∃ b_1, v = .bool b_1 ∧ brB (!b_1 == b1) (Value.bool false = .bool true ∧ Fr [] H H') (M_2 [] H')) ∧
          ∀ (J : F) (H' : Heap), M_2 [] H' → brB b1 (CallH Try.prog 13 ⟨[.pointer (some ⟨b, 0, none⟩)]⟩ H' fun v H' => ∃ n_3, v = .int .i64 n_3 ∧ brB (n_3 != k) (Value.bool false = .bool true ∧ Fr [] H H') (IM [] H')) (CallH Try.prog 13 ⟨[.pointer (some ⟨b, 0, none⟩)]⟩ H' fun v H' => ∃ n, v = .int .i64 n ∧ brB (n != i) (Value.bool false = .bool true ∧ Fr [] H H') (IM [] H')) := by
      intro r m' S4 H4 hS4 h4 hf4 hc4 hr
      refine ⟨fun vs H' => vs = [.bool (decide (0 < k ∧ k ≤ i))] ∧ H' = H4, brB_of (fun h => ⟨?_, rfl⟩) (fun h => ⟨?_, rfl⟩), ?_⟩
      · have h : 0 < k := by simpa using h
        simp [h]
      · have h : ¬ 0 < k := by simpa using h
        simp [h]
      rintro J b1 H5 ⟨hb1, rfl⟩
      have hb1 : b1 = decide (0 < k ∧ k ≤ i) := by simpa using hb1
      have h33 := hc4.2.2
      refine ⟨fun _ H' => H' = H5, brB_of (fun h => by rw [hr, ← hb1] at h; simp at h) (fun _ => ?_), ?_⟩
      · refine Dead_ok h4 (brB_of (fun h => ?_) (fun _ => rfl))
        exfalso
        by_cases hc : 0 < k ∧ k ≤ i
        · rw [if_pos hc] at h33; rw [h33.1, hb1] at h; simp [hc] at h
        · rw [if_neg hc] at h33; rw [h33.1, hb1] at h; simp [hc] at h
      · rintro J2 H6 rfl
        have hM' : IM [] H6 := by rw [hIM]; exact ⟨S4, m', by omega, by omega, hS4, h4, by rw [show i + 1 - 1 = i by omega]; exact hc4, hf4⟩
        refine brB_of (fun h => Calls_ok h4 (brB_of (fun h2 => ?_) (fun _ => hM'))) (fun h => Calls_ok h4 (brB_of (fun h2 => ?_) (fun _ => hM')))
        · exfalso
          rw [hb1] at h
          rw [if_pos (by simpa using h)] at h33
          simp [h33.2] at h2
        · exfalso
          rw [hb1] at h
          rw [if_neg (by simpa using h)] at h33
          simp [h33.2.1] at h2
    refine ⟨IM, brB_of (fun h4 => ?_) (fun h4 => ?_), ?_⟩
    · have hfl := flush_cut hc3 (by omega)
      rw [show i - 1 + 1 = i by omega] at hfl
      refine Flush_ok h3 (by omega) hc3.2.1 fun H4 h4 hf4 => ?_
      exact next _ _ S3 H4 hS3 (h4.mono (by omega)) (hf3.keep hf4 hS3) hfl.1 hfl.2
    · have hi8 : 0 ≤ Int.tmod i 8 ∧ Int.tmod i 8 < 8 := by rw [Int.tmod_eq_emod_of_nonneg (by omega)]; omega
      have hwr := write_cut (i := Int.tmod i 8) (s := ⟨#[120]⟩) hc3 (by omega) hi8 (by decide)
      rw [show i - 1 + 1 = i by omega] at hwr
      refine Write_ok h3 (by omega) hc3.2.1 fun H4 S4 h4 hf4 hg4 => ?_
      have hS4 : ∀ k ∈ S4, H.size ≤ k := fun k hk => by
        rcases hg4 k hk with h | h
        · exact hS3 k h
        · exact Nat.le_trans hf3.size h
      exact next _ _ S4 H4 hS4 (h4.mono (by omega)) (hf3.keep hf4 hS3) hwr.1 hwr.2
    · intro J2 H4 hh
      rw [hIM] at hh
      obtain ⟨S4, m4, ha, hb4, hc4, hd4, he4, hf4⟩ := hh
      rw [wrap64_of (n := i + 1) (by omega) (by omega)]
      exact ⟨⟨S4, m4, ha, hb4, hc4, hd4, he4, hf4⟩, by show (40 - (i + 1)).toNat < (40 - i).toNat; omega⟩
  · have hbound : 2 * i.toNat ≤ 1000 := by omega
    refine Crash_ok h3 (by omega) hkp fun H4 h4 hf4 => ?_
    have hf4' := hf3.keep hf4 hS3
    refine Dead_ok h4 ?_
    rw [crash_off]
    refine brB_of (fun h => by cases h) (fun _ => ?_)
    refine Power_ok h4 fun H5 h5 hf5 => Dead_ok h5 ?_
    have hf5' : Fr [] H H5 := hf4'.keep hf5 (by simpa using hS3 b (hfoot h3))
    refine brB_of (fun _ => ?_) (fun h => by cases h)
    have hcalm : Calm (powerM (crashM keep m)) 8 := by
      refine ⟨rfl, rfl, ?_, ?_⟩
      · simp only [powerM, crashM]; split <;> exact hc3.2.1
      · simp only [powerM, crashM]; split <;> exact hc3.1
    refine Write_ok h5 (by omega) hcalm.keep fun H6 S6 h6 hf6 hg6 => ?_
    rw [write_calm hcalm, if_neg (by decide)]
    refine brB_of (fun _ => ?_) (fun h => by simp at h)
    have hf6' := hf5'.keep hf6 hS3
    have hcalm2 := hcalm.write 0 ⟨#[]⟩
    refine Write_ok h6 (by omega) hcalm2.keep fun H7 S7 h7 hf7 hg7 => ?_
    rw [write_calm hcalm2, if_pos (by decide)]
    refine ⟨by simp, hf6'.keep hf7 fun k hk => ?_⟩
    rcases hg6 k hk with h | h
    · exact hS3 k h
    · exact Nat.le_trans hf5'.size h
end Go.Proofs
