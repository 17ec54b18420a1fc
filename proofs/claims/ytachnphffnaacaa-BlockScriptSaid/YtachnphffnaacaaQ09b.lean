/- A part of a proof: see the last text of this claim. -/
import Derived.Test.YtachnphffnaacaaQ09
set_option linter.unusedVariables false
open Go Go.GV
namespace Go.Proofs

theorem same_bytes {s t : ByteArray} (h : s = t) : (ByteArray.toList s == ByteArray.toList t) = true := by subst h; simp
theorem cur_write {m : Dk} {z : Int} (h : Calm m z) (i : Int) (s : ByteArray) (k : Nat) : cur (writeM m i s).1 k = if (writeM m i s).2 = 0 ∧ i = k then s else cur m k := by
  rw [write_calm h]
  split
  · rw [if_neg (by simp)]
  · simp only [true_and, cur, setW]
    by_cases hik : i = (k : Int)
    · subst hik; simp
    · rw [if_neg (Ne.symm hik), if_neg hik]
theorem cur_again {m : Dk} {z : Int} (h : Calm m z) (keep : Int) (k : Nat) (hw : m.wait (k : Int) = []) : cur (powerM (crashM keep m)) k = cur m k := by
  obtain ⟨_, h2, h3⟩ := again h keep
  unfold cur
  rw [h2, h3, setl_none hw, hw]

theorem Apart_ok {la : Option Addr} {ln lc : Nat} {l : List Step9} {i : Int} {H : Heap} (hl : Sl encStep H la ln lc l) (hi : 0 ≤ i ∧ i ≤ 255) :
    CallH Try.prog fn_law09_BlockApart ⟨[.slice la ln lc, .int .u8 i]⟩ H fun v H' => v = .bool true ∧ Fr [] H H' := by
  apply vc_law09_BlockApart
  refine heavy_ok hl fun hb hbn => brB_of (fun _ => ⟨rfl, Fr.refl _ _⟩) (fun hbf => ?_)
  have hn := hbn hbf
  have hlen := hl.len
  rw [wrap64_of (n := i) (by omega) (by omega)]
  obtain ⟨k, hk, hk12⟩ : ∃ k : Nat, Int.tmod i 12 = k ∧ k < 12 := by
    rw [Int.tmod_eq_emod_of_nonneg hi.1]
    exact ⟨(i % 12).toNat, by omega, by omega⟩
  rw [hk]
  refine New_ok fun b H1 S hS h1 hf1 => ?_
  have hfoot : ∀ {m : Dk} {N : Nat} {Hx : Heap} {Sx : List Nat}, DRep Hx ⟨b, 0, none⟩ Sx m N → b ∈ Sx := fun h => by obtain ⟨_, _, _, hd⟩ := h.it; exact hd.foot.1
  refine ⟨fun vs H' => match vs with | [.string s, .int _ j] => ∃ (j' : Nat) (S' : List Nat) (m : Dk), j = j' ∧ j' ≤ ln ∧ (∀ k ∈ S', H.size ≤ k) ∧ DRep H' ⟨b, 0, none⟩ S' m (2 * j') ∧ Calm m 12 ∧ cur m k = s ∧ Fr [] H H' | _ => False,
    fun vs _ => match vs with | [_, .int _ j] => ln - j.toNat | _ => 0, ⟨0, S, _, rfl, by omega, hS, h1, calm_new (by decide), rfl, hf1⟩, ?_⟩
  rintro J s j H2 ⟨j', S2, m, rfl, hj, hS2, h2, hc2, rfl, hf2⟩
  refine brB_of (fun h0 => ?_) (fun h0 => ?_)
  · have h0' : j' < ln := by simpa using h0
    have hx : l[j']? = some (l[j']'(by omega)) := by simp
    generalize l[j']'(by omega) = o at hx
    have at' : ∀ {Hx : Heap} {X : Addr → Prop}, Fr [] H Hx → (∀ ad, la = some ad → CellsAt Hx (ad.add ((j' : Int).toNat * encStep.sz)) (encStep.cells o) → X ad) → exSome la fun ad => chk (decide ((0 : Int) ≤ j' ∧ (j' : Int) < ln)) (X ad) :=
      fun hf hk => (hl.keep hf).get rfl hx (decide_eq_true (by omega)) hk
    have ld0 : ∀ {Hx : Heap} {ad : Addr}, CellsAt Hx (ad.add ((j' : Int).toNat * encStep.sz)) (encStep.cells o) → Ld Try.prog 3 Hx (ad.add ((j' : Int).toNat * 4)) (.int .i64 o.1) := fun hc => ld_cell (by kernel_rfl) (by have := hc 0 _ rfl; rwa [addr_add0] at this)
    obtain ⟨IM, hIM⟩ : ∃ M : List Value → Heap → Prop, M = fun vs H' => ∃ (S' : List Nat) (m' : Dk), (∀ k ∈ S', H.size ≤ k) ∧ DRep H' ⟨b, 0, none⟩ S' m' (2 * (j' + 1)) ∧ Calm m' 12 ∧ vs = [.string (cur m' k)] ∧ Fr [] H H' := ⟨_, rfl⟩
    refine ⟨IM, ⟨IM, ?_, ?_⟩, ?_⟩
    · refine at' hf2 fun ad ea hc => ⟨_, ld0 hc, brB_of (fun _ => ?_) (fun _ => brB_of (fun _ => ?_) (fun _ => ?_))⟩
      · obtain ⟨e, he⟩ : ∃ e, e = (writeM m o.2.1 o.2.2.1) := ⟨_, rfl⟩
        refine ⟨fun vs H' => ∃ (S' : List Nat), (∀ k ∈ S', H.size ≤ k) ∧ DRep H' ⟨b, 0, none⟩ S' e.1 (2 * (j' + 1)) ∧ Calm e.1 12 ∧ vs = [.bool (e.2 == 0 && (o.2.1 == (k : Int)))] ∧ Fr [] H H', ?_, ?_⟩
        · refine at' hf2 fun ad ea hc => ⟨_, ld_part (j := 1) (by kernel_rfl) hc rfl, ?_⟩
          refine at' hf2 fun ad ea hc => ⟨_, ld_part (j := 2) (by kernel_rfl) hc rfl, ?_⟩
          refine Write_ok h2 (by omega) hc2.keep fun H3 S3 h3 hf3 hg3 => ?_
          rw [← he] at h3 ⊢
          have hS3 : ∀ k ∈ S3, H.size ≤ k := fun k hk => by
            rcases hg3 k hk with h | h
            · exact hS2 k h
            · exact Nat.le_trans hf2.size h
          have hf3' := hf2.keep hf3 hS2
          have hcw : Calm e.1 12 := by rw [he]; exact hc2.write _ _
          refine brB_of (fun hz => at' hf3' fun ad ea hc => ⟨_, ld_part (j := 1) (by kernel_rfl) hc rfl, ⟨S3, hS3, h3.mono (by omega), hcw, ?_, hf3'⟩⟩) (fun hz => ⟨S3, hS3, h3.mono (by omega), hcw, ?_, hf3'⟩)
          · rw [hz]; rfl
          · rw [hz]; rfl
        · rintro J2 b2 H3 ⟨S3, hS3, h3, hcw, hb2, hf3⟩
          have hb2' : b2 = (e.2 == 0 && (o.2.1 == (k : Int))) := by simpa using hb2
          have hcu := cur_write hc2 o.2.1 o.2.2.1 k
          rw [← he] at hcu
          rw [hIM]
          refine brB_of (fun hz => at' hf3 fun ad ea hc => ⟨_, ld_part (j := 2) (by kernel_rfl) hc rfl, ⟨S3, _, hS3, h3, hcw, ?_, hf3⟩⟩) (fun hz => ⟨S3, _, hS3, h3, hcw, ?_, hf3⟩)
          · rw [hb2'] at hz
            rw [if_pos (by simpa using hz)] at hcu
            rw [hcu]
          · rw [hb2'] at hz
            rw [if_neg (by simpa using hz)] at hcu
            rw [hcu]
      · refine Flush_ok h2 (by omega) hc2.keep fun H3 h3 hf3 => ?_
        rw [flush_calm hc2]
        refine brB_of (fun h => by simp at h) (fun _ => ?_)
        rw [hIM]
        refine ⟨S2, _, hS2, h3.mono (by omega), hc2.flush, ?_, hf2.keep hf3 hS2⟩
        rw [cur_flush hc2]
      · rw [hIM]
        exact ⟨S2, m, hS2, h2.mono (by omega), hc2, rfl, hf2⟩
    · intro J2 s2 H3 hh
      rw [hIM] at hh
      obtain ⟨S3, m3, hS3, h3, hc3, hs, hf3⟩ := hh
      have hs : s2 = cur m3 k := by simpa using hs
      subst hs
      refine Read_ok h3 (by omega) ?_
      rw [read_calm hc3 (by omega)]
      refine brB_of (fun h => by simp at h) (fun _ => brB_of (fun h => by simp at h) (fun _ => ?_))
      rw [hIM]
      exact ⟨S3, m3, hS3, h3, hc3, rfl, hf3⟩
    · intro J2 s2 H3 hh
      rw [hIM] at hh
      obtain ⟨S3, m3, hS3, h3, hc3, hs, hf3⟩ := hh
      have hs : s2 = cur m3 k := by simpa using hs
      rw [succ64 (by omega)]
      exact ⟨⟨j' + 1, S3, m3, rfl, by omega, hS3, h3, hc3, hs.symm, hf3⟩, mu_lt h0'⟩
  · refine Flush_ok h2 (by omega) hc2.keep fun H3 h3 hf3 => ?_
    have hf3' := hf2.keep hf3 hS2
    have hc3 := hc2.flush
    have hw3 := wait_flush hc2 (k : Int)
    have hu3 := cur_flush hc2 k
    have hr3 : (flushM m).2 = 0 := by rw [flush_calm hc2]
    rw [hr3]
    refine brB_of (fun h => by simp at h) (fun _ => ?_)
    refine Crash_ok h3 (by omega) (by decide) fun H4 h4 hf4 => Dead_ok h4 ?_
    rw [crash_off]
    refine brB_of (fun h => by cases h) (fun _ => ?_)
    have hf4' := hf3'.keep hf4 hS2
    refine Power_ok h4 fun H5 h5 hf5 => ?_
    have hf5' := hf4'.keep hf5 (by simpa using hS2 b (hfoot h2))
    refine Read_ok h5 (by omega) ?_
    rw [read_calm (again hc3 0).1 (by omega)]
    refine brB_of (fun _ => ?_) (fun h => by simp at h)
    rw [cur_again hc3 0 k hw3, hu3]
    exact ⟨by simp, hf5'⟩
end Go.Proofs
