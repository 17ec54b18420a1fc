/- A part of a proof: see the last text of this claim. -/
import Derived.Test.YtachnphffnaacaaR09
set_option linter.unusedVariables false
open Go Go.GV
namespace Go.Proofs

theorem rCut_ok {q : Addr} {S : List Nat} {m : Dk} {N : Nat} {n keep : Int} {H : Heap} {K : Heap → Prop} (h : RRep H q S m N) (hn : I64 n) (hk : ∀ H', RRep H' q S (cutM m n keep) N → Fr [q.block] H H' → K H') :
    CallH Try.prog fn_ref09_Disk_Cut ⟨[.pointer (some q), .int .i64 n, .int .u64 keep]⟩ H fun v H' => v = .tuple ⟨[]⟩ ∧ K H' := by
  apply vc_ref09_Disk_Cut
  obtain ⟨z, ia, ic, wa, wc, hs, T, hd⟩ := h.it
  refine hd.stF { m with left := if 0 > n then 0 else n } (by kernel_rfl) (by kernel_rfl) rfl rfl (by decide : 3 < 6) rfl rfl rfl rfl fun H1 h1 hf1 => ?_
  refine h1.stF (cutM m n keep) (by kernel_rfl) (by kernel_rfl) rfl rfl (by decide : 4 < 6) rfl rfl rfl rfl fun H2 h2 hf2 => ⟨rfl, ?_⟩
  have hf := hf1.trans' hf2 (fun _ h _ => h) (fun _ h _ => h)
  refine hk H2 ⟨⟨z, ia, ic, wa, wc, hs, T, h2⟩, ?_, h.calls, h.wlen, h.inS.le hf.size⟩ hf
  unfold I64 at hn
  simp only [cutM]
  split <;> omega
theorem rPower_ok {q : Addr} {S : List Nat} {m : Dk} {N : Nat} {H : Heap} {K : Heap → Prop} (h : RRep H q S m N) (hk : ∀ H', RRep H' q S (powerM m) N → Fr [q.block] H H' → K H') :
    CallH Try.prog fn_ref09_Disk_Power ⟨[.pointer (some q)]⟩ H fun v H' => v = .tuple ⟨[]⟩ ∧ K H' := by
  apply vc_ref09_Disk_Power
  obtain ⟨z, ia, ic, wa, wc, hs, T, hd⟩ := h.it
  refine hd.stF { m with off := false } (by kernel_rfl) (by kernel_rfl) rfl rfl (by decide : 2 < 6) rfl rfl rfl rfl fun H1 h1 hf1 => ?_
  refine h1.stF (powerM m) (by kernel_rfl) (by kernel_rfl) rfl rfl (by decide : 3 < 6) rfl rfl rfl rfl fun H2 h2 hf2 => ⟨rfl, ?_⟩
  have hf := hf1.trans' hf2 (fun _ h _ => h) (fun _ h _ => h)
  exact hk H2 ⟨⟨z, ia, ic, wa, wc, hs, T, h2⟩, by simp [powerM], h.calls, h.wlen, h.inS.le hf.size⟩ hf

theorem rRead_ok {q : Addr} {S : List Nat} {m : Dk} {N : Nat} {i : Int} {H : Heap} {K : ByteArray → Int → Heap → Prop} (h : RRep H q S m N) (hN : N ≤ 1000000) (hk : K (rdM m i).1 (rdM m i).2 H) :
    CallH Try.prog fn_ref09_Disk_Read ⟨[.pointer (some q), .int .i64 i]⟩ H fun v H' => ∃ s n, v = .tuple ⟨[.string s, .int .i64 n]⟩ ∧ K s n H' := by
  apply vc_ref09_Disk_Read
  obtain ⟨z, ia, ic, wa, wc, hs, T, hd⟩ := h.it
  have hsz := hd.size
  unfold rdM at hk
  rw [hsz.1] at hk
  refine ⟨_, hd.ldOff, brB_of (fun h0 => ⟨_, _, rfl, ?_⟩) (fun h0 => ?_)⟩
  · rw [if_pos h0] at hk; exact hk
  refine ⟨fun _ H' => H' = H ∧ 0 ≤ i ∧ i < z, brB_of (fun h1 => ⟨_, _, rfl, ?_⟩) (fun h1 => ⟨_, _, _, hd.ldI, brB_of (fun h2 => ⟨_, _, rfl, ?_⟩) (fun h2 => ?_)⟩), ?_⟩
  · rw [if_neg (by simp [h0]), if_pos (.inl (by simpa using h1))] at hk; exact hk
  · rw [if_neg (by simp [h0]), if_pos (.inr (by simpa using h2))] at hk; exact hk
  · exact ⟨rfl, by simpa using h1, by simpa using h2⟩
  · rintro J H' ⟨rfl, h1, h2⟩
    rw [if_neg (by simp [h0]), if_neg (by omega)] at hk
    obtain ⟨k, rfl⟩ : ∃ k : Nat, i = k := ⟨i.toNat, by omega⟩
    refine ⟨_, _, _, hd.ldW, hd.getW rfl (by omega) (decide_eq_true (by omega)) fun ad a n c hld ho => ⟨_, _, _, hld, ?_⟩⟩
    have hn := ho.1
    have hw := h.wlen (k : Int)
    refine brB_of (fun h3 => ?_) (fun h3 => ?_)
    · have h3' : 0 < n := by simpa using h3
      rw [pred64 (by omega) h3']
      have hx : (m.wait (k : Int))[n - 1]? = some ((m.wait (k : Int))[n - 1]'(by omega)) := by simp
      refine ho.sl.get rfl hx (decide_eq_true (by omega)) fun ad ea hc => ⟨_, ld_one (by kernel_rfl) hc, _, _, rfl, ?_⟩
      rw [List.getLast?_eq_getElem?, ← hn, hx] at hk
      exact hk
    · have hw0 : m.wait (k : Int) = [] := List.eq_nil_of_length_eq_zero (by simp at h3; omega)
      rw [hw0] at hk
      refine ⟨_, _, _, hd.ldI, hd.is.sl.get rfl (secL_get _ (by omega)) (decide_eq_true (by omega)) fun ad ea hc => ⟨_, ld_one (by kernel_rfl) hc, _, _, rfl, ?_⟩⟩
      exact hk

/-- One sector settled: its wait taken away behind. -/
theorem RL.wipe {H : Heap} {q : Addr} {z : Nat} {ia : Option Addr} {ic : Nat} {wa : Option Addr} {wc : Nat} {hs : List Hd} {T S : List Nat} {m : Dk} {i : Nat} {zi : Int} {b : Bool} {X : Heap → Prop} (h : RL H q z ia ic wa wc hs T S m) (hin : In H S) (hz : zi = i) (hi : i < z) (hb : b = true)
    (k' : ∀ H3 hs3, RL H3 q z ia ic wa wc hs3 T S { m with wait := setW m.wait (i : Int) [] } → Fr S H H3 → X H3) :
    exSome wa fun ad => chk b (∃ H3, St Try.prog 37 H (ad.add (zi.toNat * 1)) (.slice none 0 0) H3 ∧ X H3) := by
  refine h.setWait hin hz hi hb (Fr.refl _ _) (Own.nil GV.encStr 9 0 H) (fun k hk => by cases hk) fun H3 hs3 h3 hf3 _ _ => k' H3 hs3 ?_ hf3
  simpa [blkL] using h3

theorem rCrash_val {keep : Int} (hk : 0 ≤ keep ∧ keep < 18446744073709551616) {j n : Nat} (hn : n ≤ 1000000) :
    Int.tmod (IntKind.wrap .i64 (Int.tmod (Int.fdiv keep ((2 : Int) ^ min (Int.toNat (IntKind.wrap .u64 (IntKind.wrap .i64 (2 * Int.tmod (j : Int) 32)))) 64)) 4)) (IntKind.wrap .i64 ((n : Int) + 1)) = (pkC keep j n : Int) := by
  have e1 : Int.tmod (j : Int) 32 = ((j % 32 : Nat) : Int) := by
    rw [Int.tmod_eq_emod_of_nonneg (by omega)]; omega
  have e2 : IntKind.wrap .u64 (IntKind.wrap .i64 (2 * Int.tmod (j : Int) 32)) = ((j % 32 * 2 : Nat) : Int) := by
    rw [e1, wrap64_of (by omega) (by omega), wrapU (by omega) (by omega)]; omega
  obtain ⟨kn, rfl⟩ : ∃ kn : Nat, keep = kn := ⟨keep.toNat, by omega⟩
  rw [e2, Int.toNat_natCast, Nat.min_eq_left (by omega), wrap64_of (n := (n : Int) + 1) (by omega) (by omega)]
  have e3 : Int.fdiv (kn : Int) ((2 : Int) ^ (j % 32 * 2)) = ((kn / 2 ^ (j % 32 * 2) : Nat) : Int) := by
    rw [Int.fdiv_eq_ediv_of_nonneg _ (Int.pow_nonneg (by decide))]
    simp
  rw [e3]
  generalize hg : kn / 2 ^ (j % 32 * 2) = v
  have e4 : Int.tmod (v : Int) 4 = ((v % 4 : Nat) : Int) := by
    rw [Int.tmod_eq_emod_of_nonneg (by omega)]; omega
  rw [e4]
  have h4 : v % 4 < 4 := Nat.mod_lt _ (by decide)
  rw [wrap64_of (by omega) (by omega), Int.tmod_eq_emod_of_nonneg (by omega)]
  unfold pkC
  rw [Int.toNat_natCast, hg, Int.natCast_emod (v % 4) (n + 1), Int.natCast_add]
  rfl
theorem rank_succ (m : Dk) (i : Nat) : rank m (i + 1) = rank m i + (if m.wait (i : Int) ≠ [] then 1 else 0) := by
  unfold rank
  rw [List.range_succ, List.filter_append, List.length_append]
  by_cases h : m.wait (i : Int) = []
  · simp [h]
  · simp [h]
theorem rank_le (m : Dk) (i : Nat) : rank m i ≤ i := by
  have := List.length_filter_le (fun i : Nat => decide (m.wait (i : Int) ≠ [])) (List.range i)
  rw [List.length_range] at this
  exact this

theorem rCrash_ok {q : Addr} {S : List Nat} {m : Dk} {N : Nat} {keep : Int} {H : Heap} {K : Heap → Prop} (h : RRep H q S m N) (hN : N ≤ 1000000) (hkp : 0 ≤ keep ∧ keep < 18446744073709551616) (hk : ∀ H', RRep H' q S (crashM keep m) N → Fr S H H' → K H') :
    CallH Try.prog fn_ref09_Disk_Crash ⟨[.pointer (some q), .int .u64 keep]⟩ H fun v H' => v = .tuple ⟨[]⟩ ∧ K H' := by
  apply vc_ref09_Disk_Crash
  obtain ⟨z, ia, ic, wa, wc, hs, T, hd⟩ := h.it
  have hsz := hd.size
  unfold crashM at hk
  refine ⟨_, hd.ldOff, brB_of (fun h0 => ⟨rfl, ?_⟩) (fun h0 => ?_)⟩
  · rw [if_pos h0] at hk; exact hk H h (Fr.refl _ _)
  rw [if_neg (by simp [h0])] at hk
  refine ⟨fun vs H' => match vs with | [.int _ j, .int _ i] => ∃ (i' : Nat) (hs : List Hd), i = i' ∧ j = (rank m i' : Int) ∧ i' ≤ z ∧ RL H' q z ia ic wa wc hs T S (midR (pkC keep) m i') ∧ Fr S H H' | _ => False,
    fun vs _ => match vs with | [_, .int _ i] => z - i.toNat | _ => 0, ⟨0, hs, rfl, rfl, by omega, by rw [midR_zero]; exact hd, Fr.refl _ _⟩, ?_⟩
  rintro J j i H' ⟨i', hs', rfl, rfl, hi, hd', hf⟩
  have hin := h.inS.le hf.size
  refine ⟨_, _, _, hd'.ldI, brB_of (fun g => ?_) (fun g => ?_)⟩
  · have g' : i' < z := by simpa using g
    rw [succ64 (i := i') (by omega)]
    refine ⟨_, _, _, hd'.ldW, hd'.getW rfl g' (decide_eq_true (by omega)) fun ad a n c hld ho => ⟨_, _, _, hld, ?_⟩⟩
    rw [midR_wait] at ho
    have hn := ho.1
    have hw := h.wlen (i' : Int)
    have hr := rank_le m i'
    have hrs := rank_succ m i'
    refine brB_of (fun h3 => ?_) (fun h3 => ?_)
    · have h3' : 0 < n := by simpa using h3
      have hne : m.wait (i' : Int) ≠ [] := fun e => by rw [e] at hn; simp at hn; omega
      rw [if_pos hne] at hrs
      have hset : setl (pkC keep) m i' = if 0 < pkC keep (rank m i') n then ((m.wait (i' : Int))[pkC keep (rank m i') n - 1]?).getD (m.is i') else m.is i' := by
        rw [setl, if_neg hne, ← hn]
      have e64 : IntKind.bits .u64 = 64 := rfl
      have hv := rCrash_val (j := rank m i') (n := n) hkp (by omega)
      have e1 : Int.tmod (rank m i' : Int) 32 = ((rank m i' % 32 : Nat) : Int) := by
        rw [Int.tmod_eq_emod_of_nonneg (by omega)]; omega
      refine chk_of ?_ (chk_of ?_ ?_)
      · rw [e1, wrap64_of (by omega) (by omega), wrapU (by omega) (by omega)]; omega
      · rw [wrap64_of (by omega) (by omega)]; omega
      rw [e64, hv]
      have hpk := pkC_le keep (rank m i') n
      rw [succ64 (i := rank m i') (by omega), ← hrs]
      refine brB_of (fun h4 => ?_) (fun h4 => ?_)
      · have h4' : 0 < pkC keep (rank m i') n := by simpa using h4
        rw [pred64 (by omega) h4']
        have hy : (m.wait (i' : Int))[pkC keep (rank m i') n - 1]? = some ((m.wait (i' : Int))[pkC keep (rank m i') n - 1]'(by omega)) := by simp
        rw [if_pos h4', hy] at hset
        generalize (m.wait (i' : Int))[pkC keep (rank m i') n - 1]'(by omega) = s at hy hset
        have hset : setl (pkC keep) m i' = s := hset
        refine ⟨_, _, _, hd'.ldI, ho.sl.get rfl hy (decide_eq_true (by omega)) fun bd eb hc2 => ⟨_, ld_one (by kernel_rfl) hc2, ?_⟩⟩
        refine hd'.setIs rfl g' (decide_eq_true (by omega)) fun H4 h4 hf4 => ⟨_, _, _, h4.ldW, ?_⟩
        refine h4.wipe (hin.le hf4.size) rfl g' (decide_eq_true (by omega)) fun H5 hs5 h5 hf5 => ⟨⟨i' + 1, hs5, rfl, rfl, by omega, ?_, (hf.trans' hf4 (fun _ h _ => h) (fun _ h _ => h)).trans' hf5 (fun _ h _ => h) (fun _ h _ => h)⟩, mu_lt g'⟩
        rw [← hset, midR_step] at h5
        exact h5
      · rw [if_neg (by simpa using h4)] at hset
        refine ⟨_, _, _, hd'.ldW, ?_⟩
        refine hd'.wipe hin rfl g' (decide_eq_true (by omega)) fun H5 hs5 h5 hf5 => ⟨⟨i' + 1, hs5, rfl, rfl, by omega, ?_, hf.trans' hf5 (fun _ h _ => h) (fun _ h _ => h)⟩, mu_lt g'⟩
        rw [midR_skip hset] at h5
        exact h5
    · have he : m.wait (i' : Int) = [] := List.eq_nil_of_length_eq_zero (by simp at h3; omega)
      rw [if_neg (by simp [he])] at hrs
      refine ⟨_, _, _, hd'.ldW, ?_⟩
      refine hd'.wipe hin rfl g' (decide_eq_true (by omega)) fun H5 hs5 h5 hf5 => ⟨⟨i' + 1, hs5, rfl, by rw [hrs, Nat.add_zero], by omega, ?_, hf.trans' hf5 (fun _ h _ => h) (fun _ h _ => h)⟩, mu_lt g'⟩
      rw [midR_skip (setl_none he)] at h5
      exact h5
  · have hi' : i' = z := by simp at g; omega
    subst hi'
    have hd2 := hd'.done hd.out
    refine hd2.stF { settleM (pkC keep) m with off := true } (by kernel_rfl) (by kernel_rfl) rfl rfl (by decide : 2 < 6) rfl rfl rfl rfl fun H3 h3 hf3 => ?_
    refine h3.stF { settleM (pkC keep) m with off := true, left := 0 } (by kernel_rfl) (by kernel_rfl) rfl rfl (by decide : 3 < 6) rfl rfl rfl rfl fun H4 h4 hf4 => ⟨rfl, ?_⟩
    have hf24 : Fr [q.block] H' H4 := hf3.trans' hf4 (fun _ h _ => h) (fun _ h _ => h)
    have hf14 : Fr S H H4 := hf.trans' hf24 (fun _ h _ => h) (fun k hk _ => by simp at hk; subst hk; exact hd.foot.1)
    exact hk H4 ⟨⟨_, _, _, _, _, _, _, h4⟩, by simp, h.calls, fun _ => by simp [settleM], h.inS.le hf14.size⟩ hf14

theorem counted_ok {q : Addr} {S : List Nat} {m : Dk} {N : Nat} {H : Heap} {K : Bool → Heap → Prop} (h : RRep H q S m N) (hN : N + 1 ≤ 1000000) (hoff : m.off = false) (hkp : 0 ≤ m.keep ∧ m.keep < 18446744073709551616) (hk : ∀ H', RRep H' q S (lastM m).1 (N + 1) → Fr S H H' → K (lastM m).2 H') :
    CallH Try.prog fn_ref09_Disk_counted ⟨[.pointer (some q)]⟩ H fun v H' => ∃ b, v = .bool b ∧ K b H' := by
  apply vc_ref09_Disk_counted
  obtain ⟨z, ia, ic, wa, wc, hs, T, hd⟩ := h.it
  have hc := h.calls
  have hl := h.left
  have foot : ∀ k ∈ [q.block], k < H.size → k ∈ S := fun k hk _ => by simp at hk; subst hk; exact hd.foot.1
  refine ⟨_, hd.ldCalls, ?_⟩
  rw [wrap64_of (by omega) (by omega)]
  refine hd.stF { m with calls := m.calls + 1 } (by kernel_rfl) (by kernel_rfl) rfl rfl (by decide : 5 < 6) rfl rfl rfl rfl fun H1 h1 hf1 => ⟨_, h1.ldLeft, ?_⟩
  have hr1 : RRep H1 q S { m with calls := m.calls + 1 } (N + 1) := ⟨⟨z, ia, ic, wa, wc, hs, T, h1⟩, h.left, ⟨by show 0 ≤ m.calls + 1; omega, by show m.calls + 1 ≤ ((N + 1 : Nat) : Int); omega⟩, fun k => Nat.le_trans (h.wlen k) (by omega), h.inS.le hf1.size⟩
  unfold lastM at hk
  refine brB_of (fun h0 => ⟨_, rfl, ?_⟩) (fun h0 => ⟨_, h1.ldLeft, ?_⟩)
  · have h0' : m.left = 0 := by simpa using h0
    rw [if_pos (by omega), h0'] at hk
    refine hk H1 ?_ (hf1.mono (by simpa using hd.foot.1))
    have e : ({ m with calls := m.calls + 1, left := if (0 : Int) > 0 - 1 then 0 else 0 - 1 } : Dk) = { m with calls := m.calls + 1 } := by
      rw [if_pos (by omega), ← h0']
    rw [e]
    exact hr1
  · have h0' : ¬ m.left = 0 := by simpa using h0
    rw [wrap64_of (by show _ ≤ m.left - 1; omega) (by show m.left - 1 ≤ _; omega)]
    refine h1.stF { m with calls := m.calls + 1, left := m.left - 1 } (by kernel_rfl) (by kernel_rfl) rfl rfl (by decide : 3 < 6) rfl rfl rfl rfl fun H2 h2 hf2 => ⟨_, h2.ldLeft, ?_⟩
    have hf := hf1.trans' hf2 foot (fun k hk hlt => foot k hk hlt)
    have hr2 : RRep H2 q S { m with calls := m.calls + 1, left := m.left - 1 } (N + 1) := ⟨⟨z, ia, ic, wa, wc, hs, T, h2⟩, ⟨by show 0 ≤ m.left - 1; omega, by show m.left - 1 ≤ _; omega⟩, hr1.calls, hr1.wlen, h.inS.le hf.size⟩
    refine brB_of (fun h3 => ⟨_, rfl, ?_⟩) (fun h3 => ⟨_, h2.ldKeep, ?_⟩)
    · have h3' : 0 < m.left - 1 := by simpa using h3
      rw [if_pos (by omega), if_neg (by omega)] at hk
      exact hk H2 hr2 hf
    · have h3' : ¬ 0 < m.left - 1 := by simpa using h3
      have e1 : m.left = 1 := by omega
      rw [if_neg (by omega)] at hk
      refine rCrash_ok hr2 hN hkp fun H3 h3 hf3 => ⟨_, rfl, hk H3 ?_ (hf.trans' hf3 (fun _ h _ => h) (fun _ h _ => h))⟩
      have e : crashM m.keep { m with calls := m.calls + 1, left := m.left - 1 } = crashM m.keep { m with calls := m.calls + 1 } := by
        simp only [crashM, hoff]
        rfl
      rw [← e]
      exact h3

theorem rFlush_ok {q : Addr} {S : List Nat} {m : Dk} {N : Nat} {H : Heap} {K : Int → Heap → Prop} (h : RRep H q S m N) (hN : N + 1 ≤ 1000000) (hkp : 0 ≤ m.keep ∧ m.keep < 18446744073709551616) (hk : ∀ H', RRep H' q S (flushM m).1 (N + 1) → Fr S H H' → K (flushM m).2 H') :
    CallH Try.prog fn_ref09_Disk_Flush ⟨[.pointer (some q)]⟩ H fun v H' => ∃ b, v = .int .i64 b ∧ K b H' := by
  apply vc_ref09_Disk_Flush
  unfold flushM at hk
  refine ⟨fun _ H' => RRep H' q S (lastM m).1 (N + 1) ∧ Fr S H H' ∧ m.off = false ∧ (lastM m).2 = false, ?_, ?_⟩
  · obtain ⟨z, ia, ic, wa, wc, hs, T, hd⟩ := h.it
    refine ⟨_, hd.ldOff, brB_of (fun h0 => ⟨_, rfl, ?_⟩) (fun h0 => ?_)⟩
    · rw [if_pos h0] at hk
      exact hk H (h.mono (by omega)) (Fr.refl _ _)
    · rw [if_neg (by simp [h0])] at hk
      refine counted_ok h hN h0 hkp fun H1 h1 hf1 => brB_of (fun h2 => ⟨_, rfl, ?_⟩) (fun h2 => ⟨h1, hf1, h0, h2⟩)
      rw [if_pos h2] at hk
      exact hk H1 h1 hf1
  rintro J H1 ⟨h1, hf1, h0, h2⟩
  rw [if_neg (by simp [h0]), if_neg (by simp [h2])] at hk
  generalize (lastM m).1 = m1 at h1 hk
  obtain ⟨z, ia, ic, wa, wc, hs, T, hd⟩ := h1.it
  have hsz := hd.size
  refine ⟨fun vs H' => match vs with | [.int _ i] => ∃ (i' : Nat) (hs : List Hd), i = i' ∧ i' ≤ z ∧ RL H' q z ia ic wa wc hs T S (midR (fun _ n => n) m1 i') ∧ Fr S H1 H' | _ => False,
    fun vs _ => match vs with | [.int _ i] => z - i.toNat | _ => 0, ⟨0, hs, rfl, by omega, by rw [midR_zero]; exact hd, Fr.refl _ _⟩, ?_⟩
  rintro J2 i H' ⟨i', hs', rfl, hi, hd', hf⟩
  have hin := h1.inS.le hf.size
  refine ⟨_, _, _, hd'.ldI, brB_of (fun g => ?_) (fun g => ⟨_, rfl, ?_⟩)⟩
  · have g' : i' < z := by simpa using g
    rw [succ64 (i := i') (by omega)]
    refine ⟨_, _, _, hd'.ldW, hd'.getW rfl g' (decide_eq_true (by omega)) fun ad a n c hld ho => ⟨_, _, _, hld, ?_⟩⟩
    rw [midR_wait] at ho
    have hn := ho.1
    have hw := h1.wlen (i' : Int)
    refine brB_of (fun h3 => ?_) (fun h3 => ?_)
    · have h3' : 0 < n := by simpa using h3
      have hne : m1.wait (i' : Int) ≠ [] := fun e => by rw [e] at hn; simp at hn; omega
      have hy : (m1.wait (i' : Int))[n - 1]? = some ((m1.wait (i' : Int))[n - 1]'(by omega)) := by simp
      have hset : setl (fun _ n => n) m1 i' = ((m1.wait (i' : Int))[n - 1]?).getD (m1.is i') := by
        rw [setl, if_neg hne, ← hn]
        simp only [h3', if_true]
      rw [hy] at hset
      generalize (m1.wait (i' : Int))[n - 1]'(by omega) = s at hy hset
      have hset : setl (fun _ n => n) m1 i' = s := hset
      rw [pred64 (by omega) h3']
      refine ⟨_, _, _, hd'.ldI, ho.sl.get rfl hy (decide_eq_true (by omega)) fun bd eb hc2 => ⟨_, ld_one (by kernel_rfl) hc2, ?_⟩⟩
      refine hd'.setIs rfl g' (decide_eq_true (by omega)) fun H4 h4 hf4 => ⟨_, _, _, h4.ldW, ?_⟩
      refine h4.wipe (hin.le hf4.size) rfl g' (decide_eq_true (by omega)) fun H5 hs5 h5 hf5 => ⟨⟨i' + 1, hs5, rfl, by omega, ?_, (hf.trans' hf4 (fun _ h _ => h) (fun _ h _ => h)).trans' hf5 (fun _ h _ => h) (fun _ h _ => h)⟩, mu_lt g'⟩
      rw [← hset, midR_step] at h5
      exact h5
    · have he : m1.wait (i' : Int) = [] := List.eq_nil_of_length_eq_zero (by simp at h3; omega)
      refine ⟨_, _, _, hd'.ldW, ?_⟩
      refine hd'.wipe hin rfl g' (decide_eq_true (by omega)) fun H5 hs5 h5 hf5 => ⟨⟨i' + 1, hs5, rfl, by omega, ?_, hf.trans' hf5 (fun _ h _ => h) (fun _ h _ => h)⟩, mu_lt g'⟩
      rw [midR_skip (setl_none he)] at h5
      exact h5
  · have hi' : i' = z := by simp at g; omega
    subst hi'
    have hd2 := hd'.done hd.out
    have hf2 : Fr S H H' := hf1.trans' hf (fun _ h _ => h) (fun _ h _ => h)
    exact hk H' ⟨⟨_, _, _, _, _, _, _, hd2⟩, h1.left, h1.calls, fun _ => by simp [settleM], hin⟩ hf2

theorem rWrite_ok {q : Addr} {S : List Nat} {m : Dk} {N : Nat} {i : Int} {s : ByteArray} {H : Heap} {K : Int → Heap → Prop} (h : RRep H q S m N) (hN : N + 2 ≤ 1000000) (hkp : 0 ≤ m.keep ∧ m.keep < 18446744073709551616)
    (hk : ∀ H' S', RRep H' q S' (writeM m i s).1 (N + 2) → Fr S H H' → Grow H S S' → K (writeM m i s).2 H') :
    CallH Try.prog fn_ref09_Disk_Write ⟨[.pointer (some q), .int .i64 i, .string s]⟩ H fun v H' => ∃ b, v = .int .i64 b ∧ K b H' := by
  apply vc_ref09_Disk_Write
  obtain ⟨z, ia, ic, wa, wc, hs, T, hd⟩ := h.it
  have hsz := hd.size
  unfold writeM at hk
  have hz1 := hsz.1
  refine ⟨_, hd.ldOff, brB_of (fun h0 => ⟨_, rfl, ?_⟩) (fun h0 => ?_)⟩
  · rw [if_pos h0] at hk
    exact hk H S (h.mono (by omega)) (Fr.refl _ _) (Grow.refl _ _)
  refine ⟨fun _ H' => H' = H ∧ ¬ (i < 0 ∨ m.size ≤ i ∨ 64 < s.size), brB_of (fun h1 => ⟨_, rfl, ?_⟩) (fun h1 => ⟨_, _, _, hd.ldI, brB_of (fun h2 => ⟨_, rfl, ?_⟩) (fun h2 => brB_of (fun h3 => ⟨_, rfl, ?_⟩) (fun h3 => ?_))⟩), ?_⟩
  · rw [if_neg (by simp [h0]), if_pos (.inl (by simpa using h1))] at hk
    exact hk H S (h.mono (by omega)) (Fr.refl _ _) (Grow.refl _ _)
  · rw [if_neg (by simp [h0]), if_pos (.inr (.inl (by simp at h2; omega)))] at hk
    exact hk H S (h.mono (by omega)) (Fr.refl _ _) (Grow.refl _ _)
  · rw [if_neg (by simp [h0]), if_pos (.inr (.inr (by simp at h3; omega)))] at hk
    exact hk H S (h.mono (by omega)) (Fr.refl _ _) (Grow.refl _ _)
  · refine ⟨rfl, ?_⟩
    simp at h1 h2 h3
    omega
  rintro J H' ⟨rfl, hin⟩
  rw [if_neg (by simp [h0]), if_neg hin] at hk
  obtain ⟨k, rfl⟩ : ∃ k : Nat, i = k := ⟨i.toNat, by omega⟩
  have hkz : k < z := by omega
  intro b1 H1 hn1
  have hd1 := hd.fr (U := []) hn1.fr (fun _ _ => by simp)
  have hw := h.wlen (k : Int)
  refine ⟨_, _, _, hd1.ldW, hd1.getW rfl hkz (decide_eq_true (by omega)) fun ad a n c hld ho => ⟨_, _, _, hld, ?_⟩⟩
  have hn := ho.1
  have ho0 : Own GV.encStr 9 H'.size H1 (some ⟨b1, 0, none⟩) 0 0 [] := Own.made GV.encStr 9 hn1 (Nat.le_refl _)
  refine ap_own (E := GV.encStr) slice37 elem9 ho0 hn1.fr ho.sl (by omega) fun a2 n2 c2 H2 ho2 hf2 _ => ?_
  have hn2 := ho2.1
  simp only [List.nil_append] at ho2 hn2
  have hd2 := hd.fr (U := []) hf2 (fun _ _ => by simp)
  refine ⟨_, _, _, hd2.ldW, fun b3 H3 hn3 => ⟨(hd2.fr (U := []) hn3.fr (fun _ _ => by simp)).ldW, ?_⟩⟩
  refine ap_own (E := GV.encStr) slice37 elem9 (ho2.keep hn3.fr) (hf2.keep0 hn3.fr) (sl_one GV.encStr s hn3 rfl) (by omega) fun a4 n4 c4 H4 ho4 hf4 _ => ?_
  have hd4 := hd.fr (U := []) hf4 (fun _ _ => by simp)
  refine ⟨hd4.ldW, ?_⟩
  refine hd.setWait h.inS rfl hkz (decide_eq_true (by omega)) hf4 (ho4.base (Nat.zero_le _)) (fun y hy => (ho4.ge y hy).1) fun H5 hs5 h5 hf5 hg5 hi5 => ?_
  have hr5 : RRep H5 q (S ++ blkL a4) { m with wait := setW m.wait (k : Int) (m.wait (k : Int) ++ [s]) } (N + 1) := by
    refine ⟨⟨_, _, _, _, _, _, _, h5⟩, h.left, ⟨h.calls.1, by have := h.calls.2; show m.calls ≤ ((N + 1 : Nat) : Int); omega⟩, fun y => ?_, hi5⟩
    show (setW m.wait (k : Int) (m.wait (k : Int) ++ [s]) y).length ≤ N + 1
    unfold setW
    split
    · simp; omega
    · have := h.wlen y; omega
  refine counted_ok hr5 (by omega) h0 hkp fun H6 h6 hf6 => ?_
  have hf16 : Fr S H' H6 := hf5.trans' hf6 (fun _ h _ => h) (fun y hy hlt => by
    rcases hg5 y hy with h | h
    · exact h
    · omega)
  have := hk H6 (S ++ blkL a4) h6 hf16 hg5
  simp only at this
  refine brB_of (fun hb => ⟨_, rfl, ?_⟩) (fun hb => ⟨_, rfl, ?_⟩)
  · rw [if_pos hb] at this; exact this
  · rw [if_neg (by simp [hb])] at this; exact this
end Go.Proofs
