/- A part of a proof: see the last text of this claim. -/
import Derived.Test.YtijedkfekmopnaaP11F
set_option linter.unusedVariables false
set_option maxRecDepth 100000
open Go Go.GV
namespace Go.Proofs

/-! the reader -/
def rdC (s : ByteArray) (p : Nat) (ok : Bool) : List Value := [.string s, .int .i64 p, .bool ok]
/-- What a number that the reader takes comes to. -/
def NumR (s : ByteArray) (a : Nat) (ok : Bool) (most : Nat) (v : Int) (p : Nat) (ok' : Bool) : Prop :=
  (ok' = true ∧ ok = true ∧ ∃ n : Nat, v = n ∧ n ≤ most ∧ (bl s).drop a = uintL n ++ (bl s).drop p ∧ a < p ∧ p ≤ s.size) ∨ (ok' = false ∧ v = 0 ∧ p = a ∧ (ok = true → ∀ n, n ≤ most → ∀ t, (bl s).drop a ≠ uintL n ++ t))
theorem number_ok {H : Heap} {xb : Nat} {s : ByteArray} {a : Nat} {ok : Bool} {most : Nat} {K : Int → Heap → Prop} (hx : Blk H ⟨xb, 0, none⟩ (rdC s a ok)) (hs : s.size ≤ 100000000000) (ha : a ≤ s.size) (hm : most ≤ 9223372036854775807)
    (hk : ∀ H' v p ok', Blk H' ⟨xb, 0, none⟩ (rdC s p ok') → NumR s a ok most v p ok' → Fr [xb] H H' → K v H') :
    CallH Try.prog fn_wal_reader_number ⟨[.pointer (some ⟨xb, 0, none⟩), .int .i64 most]⟩ H fun v H' => ∃ n, v = .int .i64 n ∧ K n H' := by
  apply vc_wal_reader_number
  refine ⟨_, hx.ld0 (by kernel_rfl) rfl, _, hx.ld (by kernel_rfl) (j := 1) rfl, ?_⟩
  refine GetUint_ok hs (fun h => absurd ⟨by omega, by omega⟩ h) fun a' ea ha' v n e hg => ?_
  have ea : a' = a := by omega
  subst ea
  refine ⟨fun _ H' => H' = H ∧ ok = true ∧ e = 0 ∧ v ≤ most, ?_, ?_⟩
  · refine ⟨fun vs H' => H' = H ∧ ∃ w : Bool, vs = [.bool w] ∧ (w = true → ¬ (ok = true ∧ e = 0 ∧ v ≤ most)) ∧ (w = false → ok = true ∧ e = 0 ∧ v ≤ most), ?_, ?_⟩
    · refine ⟨_, hx.ld (by kernel_rfl) (j := 2) rfl, brB_of (fun h => ⟨rfl, true, rfl, fun _ hh => ?_, fun h => by cases h⟩) (fun h => brB_of (fun h2 => ⟨rfl, true, rfl, fun _ hh => ?_, fun h => by cases h⟩) (fun h2 => ⟨rfl, _, rfl, fun h3 hh => ?_, fun h3 => ?_⟩))⟩
      · rw [hh.1] at h; cases h
      · rw [hh.2.1] at h2; simp at h2
      · rw [wrapU64 (by omega) (by omega)] at h3
        have := of_decide_eq_true h3
        omega
      · rw [wrapU64 (by omega) (by omega)] at h3
        have := of_decide_eq_false h3
        exact ⟨by simpa using h, by simpa using h2, by omega⟩
    · rintro J w H1 ⟨rfl, w', e', h1, h2⟩
      simp only [List.cons.injEq, Value.bool.injEq, and_true] at e'
      subst e'
      refine brB_of (fun hw => ?_) (fun hw => ⟨rfl, h2 hw⟩)
      refine hx.st (j := 2) (v := .bool false) (by kernel_rfl) (by kernel_rfl) (fun x hx => by simp [Value.cells] at hx; subst hx; rfl) (by simp [Value.cells, rdC]) fun H2 hx2 hf2 => ⟨_, rfl, hk H2 0 a' false (by simpa [Value.cells, rdC] using hx2) (.inr ⟨rfl, rfl, rfl, fun hok n' hn' t ht => ?_⟩) hf2⟩
      obtain ⟨g1, _, g3⟩ := hg.of (by omega) ht
      exact h1 hw ⟨hok, g3, by omega⟩
  · rintro J H1 ⟨rfl, hok, rfl, hv⟩
    rcases hg with ⟨n', rfl, h1, h2, h3, rfl, _⟩ | ⟨_, _, h, _⟩ | ⟨_, _, h, _⟩
    · refine hx.st (j := 1) (v := .int .i64 ((a' + (uintL n').length : Nat) : Int)) (by kernel_rfl) (by kernel_rfl) (fun x hx => by simp [Value.cells] at hx; subst hx; rfl) (by simp [Value.cells, rdC]) fun H2 hx2 hf2 => ⟨_, rfl, ?_⟩
      rw [wrap64_of (by omega) (by omega)]
      have := uintL_pos n'
      rw [List.length_drop, bl_len] at h3
      refine hk H2 n' (a' + (uintL n').length) true (by subst hok; simpa [Value.cells, rdC] using hx2) (.inl ⟨rfl, hok, n', rfl, by omega, ?_, by omega, by omega⟩) hf2
      rw [List.drop_drop] at h2; exact h2
    · omega
    · omega
end Go.Proofs
