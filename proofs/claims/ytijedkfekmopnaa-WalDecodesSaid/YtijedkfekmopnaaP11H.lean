/- A part of a proof: see the last text of this claim. -/
import Derived.Test.YtijedkfekmopnaaP11G
set_option linter.unusedVariables false
set_option maxRecDepth 100000
open Go Go.GV
namespace Go.Proofs

/-- What a number with a sign that the reader takes comes to. -/
def ValR (s : ByteArray) (a : Nat) (ok : Bool) (v : Int) (p : Nat) (ok' : Bool) : Prop :=
  (ok' = true ∧ ok = true ∧ I64 v ∧ (bl s).drop a = intL v ++ (bl s).drop p ∧ a < p ∧ p ≤ s.size) ∨ (ok' = false ∧ v = 0 ∧ p = a ∧ (ok = true → ∀ v, I64 v → ∀ t, (bl s).drop a ≠ intL v ++ t))
theorem rvalue_ok {H : Heap} {xb : Nat} {s : ByteArray} {a : Nat} {ok : Bool} {K : Int → Heap → Prop} (hx : Blk H ⟨xb, 0, none⟩ (rdC s a ok)) (hs : s.size ≤ 100000000000) (ha : a ≤ s.size)
    (hk : ∀ H' v p ok', Blk H' ⟨xb, 0, none⟩ (rdC s p ok') → ValR s a ok v p ok' → Fr [xb] H H' → K v H') :
    CallH Try.prog fn_wal_reader_value ⟨[.pointer (some ⟨xb, 0, none⟩)]⟩ H fun v H' => ∃ n, v = .int .i64 n ∧ K n H' := by
  apply vc_wal_reader_value
  refine ⟨_, hx.ld0 (by kernel_rfl) rfl, _, hx.ld (by kernel_rfl) (j := 1) rfl, ?_⟩
  refine GetInt_ok hs (fun h => absurd ⟨by omega, by omega⟩ h) fun a' ea ha' w n e hg hw => ?_
  have ea : a' = a := by omega
  subst ea
  have bad : ¬ (ok = true ∧ e = 0) → ∃ H'_1, St Try.prog 4 H (Addr.add ⟨xb, 0, none⟩ 2) (.bool false) H'_1 ∧ ∃ n, Value.int .i64 0 = .int .i64 n ∧ K n H'_1 := fun hn =>
    hx.st (j := 2) (v := .bool false) (by kernel_rfl) (by kernel_rfl) (fun x hx => by simp [Value.cells] at hx; subst hx; rfl) (by simp [Value.cells, rdC]) fun H2 hx2 hf2 => ⟨_, rfl, hk H2 0 a' false (by simpa [Value.cells, rdC] using hx2) (.inr ⟨rfl, rfl, rfl, fun hok v' hv' t ht => by
      obtain ⟨_, _, g3⟩ := hg.of (foldN_lt hv') ht
      exact hn ⟨hok, g3⟩⟩) hf2⟩
  refine ⟨_, hx.ld (by kernel_rfl) (j := 2) rfl, brB_of (fun h => bad fun hh => ?_) (fun h => brB_of (fun h2 => bad fun hh => ?_) (fun h2 => ?_))⟩
  · rw [hh.1] at h; cases h
  · rw [hh.2] at h2; simp at h2
  have hok : ok = true := by simpa using h
  have he : e = 0 := by simpa using h2
  subst he
  rcases hg with ⟨n', e1, h1, h2, h3, rfl, _⟩ | ⟨_, _, h, _⟩ | ⟨_, _, h, _⟩
  · have e1 : w = n' := by omega
    subst e1
    refine hx.st (j := 1) (v := .int .i64 ((a' + (uintL w).length : Nat) : Int)) (by kernel_rfl) (by kernel_rfl) (fun x hx => by simp [Value.cells] at hx; subst hx; rfl) (by simp [Value.cells, rdC]) fun H2 hx2 hf2 => ⟨_, rfl, ?_⟩
    have := uintL_pos w
    rw [List.length_drop, bl_len] at h3
    refine hk H2 (unfoldN w) (a' + (uintL w).length) true (by subst hok; simpa [Value.cells, rdC] using hx2) (.inl ⟨rfl, hok, unfold_64 h1, ?_, by omega, by omega⟩) hf2
    unfold intL
    rw [fold_unfold]
    rw [List.drop_drop] at h2; exact h2
  · omega
  · omega
end Go.Proofs
