/- A part of a proof: see the last text of this claim. -/
import Derived.Test.YtijedkfekmopnaaP11y
set_option linter.unusedVariables false
set_option maxRecDepth 100000
open Go Go.GV
namespace Go.Proofs

/-! numbers with signs -/
def foldN (v : Int) : Nat := if 0 ≤ v then (2 * v).toNat else (2 * (-(v + 1)) + 1).toNat
def unfoldN (n : Nat) : Int := if n % 2 = 0 then (n / 2 : Nat) else -((n / 2 : Nat) : Int) - 1
def intL (v : Int) : List UInt8 := uintL (foldN v)
def I64 (v : Int) : Prop := -9223372036854775808 ≤ v ∧ v ≤ 9223372036854775807
theorem foldN_lt {v : Int} (h : I64 v) : foldN v < 18446744073709551616 := by unfold foldN I64 at *; split <;> omega
theorem unfold_fold (v : Int) : unfoldN (foldN v) = v := by unfold unfoldN foldN; split <;> split <;> omega
theorem fold_unfold (n : Nat) : foldN (unfoldN n) = n := by unfold unfoldN foldN; split <;> split <;> omega
theorem unfold_64 {n : Nat} (h : n < 18446744073709551616) : I64 (unfoldN n) := by unfold unfoldN I64; split <;> omega

theorem wrapU_neg {n : Int} (h : -18446744073709551616 ≤ n) (h2 : n < 0) : IntKind.u64.wrap n = n + 18446744073709551616 := by
  unfold IntKind.wrap
  simp [IntKind.bits, IntKind.signed]
  omega
theorem wrapI_big {n : Int} (h : 9223372036854775808 ≤ n) (h2 : n < 18446744073709551616) : IntKind.i64.wrap n = n - 18446744073709551616 := by
  unfold IntKind.wrap
  simp [IntKind.bits, IntKind.signed]
  omega
theorem xor_ones {m : Nat} (h : m < 18446744073709551616) : (BitVec.ofInt 64 (m : Int) ^^^ BitVec.ofInt 64 18446744073709551615).toNat = 18446744073709551615 - m := by
  have e : BitVec.ofInt 64 18446744073709551615 = BitVec.allOnes 64 := by decide
  rw [e, BitVec.xor_allOnes, BitVec.toNat_not, bvN h]
theorem xor_ones' {m : Nat} (h : m < 18446744073709551616) : (BitVec.ofInt 64 (m : Int) ^^^ BitVec.ofInt 64 (-1)).toNat = 18446744073709551615 - m := by
  have e : BitVec.ofInt 64 (-1) = BitVec.allOnes 64 := by decide
  rw [e, BitVec.xor_allOnes, BitVec.toNat_not, bvN h]
theorem xor_zero {m : Nat} (h : m < 18446744073709551616) : (BitVec.ofInt 64 (m : Int) ^^^ BitVec.ofInt 64 0).toNat = m := by
  have e : BitVec.ofInt 64 0 = 0#64 := by decide
  rw [e, BitVec.xor_zero, bvN h]

theorem Fold_ok {v : Int} {H : Heap} {K : Int → Heap → Prop} (hv : I64 v) (hk : K (foldN v : Nat) H) : CallH Try.prog fn_zig_Fold ⟨[.int .i64 v]⟩ H fun w H' => ∃ n, w = .int .u64 n ∧ K n H' := by
  apply vc_zig_Fold
  refine ⟨_, rfl, ?_⟩
  obtain ⟨h1, h2⟩ := hv
  by_cases h0 : 0 ≤ v
  · have e1 : Int.fdiv v (2 ^ 63) = 0 := by rw [Int.fdiv_eq_ediv_of_nonneg _ (by decide)]; omega
    have e2 : IntKind.u64.wrap (IntKind.i64.wrap (v * 2 ^ 1)) = ((2 * v).toNat : Int) := by
      by_cases h3 : v * 2 < 9223372036854775808
      · rw [wrap64_of (by omega) (by omega), wrapU64 (by omega) (by omega)]; omega
      · rw [wrapI_big (by omega) (by omega), wrapU_neg (by omega) (by omega)]; omega
    rw [e1, e2, wrapU64 (n := 0) (by omega) (by omega), xor_zero (by omega), wrapU64 (by omega) (by omega)]
    unfold foldN at hk
    rwa [if_pos h0] at hk
  · have e1 : Int.fdiv v (2 ^ 63) = -1 := by rw [Int.fdiv_eq_ediv_of_nonneg _ (by decide)]; omega
    have e2 : IntKind.u64.wrap (IntKind.i64.wrap (v * 2 ^ 1)) = ((2 * v + 18446744073709551616).toNat : Int) := by
      by_cases h3 : -9223372036854775808 ≤ v * 2
      · rw [wrap64_of (by omega) (by omega), wrapU_neg (by omega) (by omega)]; omega
      · have : IntKind.i64.wrap (v * 2 ^ 1) = v * 2 + 18446744073709551616 := by
          unfold IntKind.wrap
          simp [IntKind.bits, IntKind.signed]
          omega
        rw [this, wrapU64 (by omega) (by omega)]; omega
    rw [e1, e2, wrapU_neg (n := -1) (by omega) (by omega)]
    rw [show (-1 : Int) + 18446744073709551616 = 18446744073709551615 from rfl, xor_ones (by omega), wrapU64 (by omega) (by omega)]
    unfold foldN at hk
    rw [if_neg h0] at hk
    have e3 : (18446744073709551615 - (2 * v + 18446744073709551616).toNat : Nat) = (2 * (-(v + 1)) + 1).toNat := by omega
    rw [e3]; exact hk
theorem rFold_ok {v : Int} {H : Heap} {K : Int → Heap → Prop} (hv : I64 v) (hk : K (foldN v : Nat) H) : CallH Try.prog fn_ref01_Fold ⟨[.int .i64 v]⟩ H fun w H' => ∃ n, w = .int .u64 n ∧ K n H' := by
  apply vc_ref01_Fold
  obtain ⟨h1, h2⟩ := hv
  unfold foldN at hk
  refine brB_of (fun h => ⟨_, rfl, ?_⟩) (fun h => ⟨_, rfl, ?_⟩)
  · have h0 : 0 ≤ v := by simpa using h
    rw [if_pos h0] at hk
    rw [wrapU64 (n := v) (by omega) (by omega), wrapU64 (by omega) (by omega)]
    have : ((2 * v).toNat : Int) = 2 * v := by omega
    rwa [this] at hk
  · have h0 : ¬ 0 ≤ v := by simpa using h
    rw [if_neg h0] at hk
    rw [wrap64_of (n := v + 1) (by omega) (by omega), wrap64_of (by omega) (by omega), wrapU64 (n := 0 - (v + 1)) (by omega) (by omega), wrapU64 (n := 2 * (0 - (v + 1))) (by omega) (by omega), wrapU64 (by omega) (by omega)]
    have : ((2 * (-(v + 1)) + 1).toNat : Int) = 2 * (0 - (v + 1)) + 1 := by omega
    rwa [this] at hk
theorem Int_ok {v : Int} {H : Heap} {K : ByteArray → Heap → Prop} (hv : I64 v) (hk : ∀ H', Fr [] H H' → K ⟨(intL v).toArray⟩ H') : CallH Try.prog fn_zig_Int ⟨[.int .i64 v]⟩ H fun w H' => ∃ s, w = .string s ∧ K s H' := by
  apply vc_zig_Int
  exact Fold_ok hv (Uint_ok (foldN_lt hv) fun H' hf => ⟨_, rfl, hk H' hf⟩)
theorem rInt_ok {v : Int} {H : Heap} {K : ByteArray → Heap → Prop} (hv : I64 v) (hk : ∀ H', Fr [] H H' → K ⟨(intL v).toArray⟩ H') : CallH Try.prog fn_ref01_Int ⟨[.int .i64 v]⟩ H fun w H' => ∃ s, w = .string s ∧ K s H' := by
  apply vc_ref01_Int
  exact rFold_ok hv (rUint_ok (foldN_lt hv) fun H' hf => ⟨_, rfl, hk H' hf⟩)
theorem and_one (n : Nat) (h : n < 18446744073709551616) : (BitVec.ofInt 64 (n : Int) &&& BitVec.ofInt 64 1).toNat = n % 2 := by
  have e : BitVec.ofInt 64 1 = 1#64 := by decide
  rw [e, BitVec.toNat_and, bvN h]
  show n &&& 1 = n % 2
  rw [Nat.and_one_is_mod]
theorem Unfold_ok {n : Nat} {H : Heap} {K : Int → Heap → Prop} (hn : n < 18446744073709551616) (hk : K (unfoldN n) H) : CallH Try.prog fn_zig_Unfold ⟨[.int .u64 n]⟩ H fun w H' => ∃ v, w = .int .i64 v ∧ K v H' := by
  apply vc_zig_Unfold
  refine ⟨_, rfl, ?_⟩
  unfold unfoldN at hk
  have e1 : Int.fdiv (n : Int) (2 ^ 1) = ((n / 2 : Nat) : Int) := by rw [Int.fdiv_eq_ediv_of_nonneg _ (by decide)]; omega
  rw [e1, and_one n hn, wrapU64 (n := ((n % 2 : Nat) : Int)) (by omega) (by omega), wrap64_of (n := ((n % 2 : Nat) : Int)) (by omega) (by omega), wrap64_of (n := ((n / 2 : Nat) : Int)) (by omega) (by omega)]
  by_cases h0 : n % 2 = 0
  · rw [if_pos h0] at hk
    rw [h0, wrap64_of (n := 0 - ((0 : Nat) : Int)) (by omega) (by omega)]
    show K (IntKind.i64.wrap ((BitVec.ofInt 64 ((n / 2 : Nat) : Int) ^^^ BitVec.ofInt 64 0).toNat : Nat)) H
    rw [xor_zero (by omega), wrap64_of (by omega) (by omega)]
    exact hk
  · rw [if_neg h0] at hk
    have e2 : n % 2 = 1 := by omega
    rw [e2, wrap64_of (n := 0 - ((1 : Nat) : Int)) (by omega) (by omega)]
    show K (IntKind.i64.wrap ((BitVec.ofInt 64 ((n / 2 : Nat) : Int) ^^^ BitVec.ofInt 64 (-1)).toNat : Nat)) H
    rw [xor_ones' (by omega), wrapI_big (by omega) (by omega)]
    have : ((18446744073709551615 - n / 2 : Nat) : Int) - 18446744073709551616 = -((n / 2 : Nat) : Int) - 1 := by omega
    rw [this]; exact hk
theorem rUnfold_ok {n : Nat} {H : Heap} {K : Int → Heap → Prop} (hn : n < 18446744073709551616) (hk : K (unfoldN n) H) : CallH Try.prog fn_ref01_Unfold ⟨[.int .u64 n]⟩ H fun w H' => ∃ v, w = .int .i64 v ∧ K v H' := by
  apply vc_ref01_Unfold
  unfold unfoldN at hk
  have e1 : Int.tmod (n : Int) 2 = ((n % 2 : Nat) : Int) := by rw [Int.tmod_eq_emod_of_nonneg (by omega)]; omega
  have e2 : Int.tdiv (n : Int) 2 = ((n / 2 : Nat) : Int) := by rw [Int.tdiv_eq_ediv_of_nonneg (by omega)]; omega
  rw [e1, e2, wrapU64 (n := ((n / 2 : Nat) : Int)) (by omega) (by omega), wrap64_of (n := ((n / 2 : Nat) : Int)) (by omega) (by omega)]
  refine brB_of (fun h => ⟨_, rfl, ?_⟩) (fun h => ⟨_, rfl, ?_⟩)
  · have h0 : n % 2 = 0 := by have := eq_of_beq h; omega
    rwa [if_pos h0] at hk
  · have h0 : ¬ n % 2 = 0 := fun e => by rw [e] at h; simp at h
    rw [if_neg h0] at hk
    rw [wrap64_of (n := 0 - ((n / 2 : Nat) : Int)) (by omega) (by omega), wrap64_of (by omega) (by omega)]
    have : (0 : Int) - ((n / 2 : Nat) : Int) - 1 = -((n / 2 : Nat) : Int) - 1 := by omega
    rw [this]; exact hk
/-- What a number with a sign that is read comes to. -/
theorem GetInt_ok {s : ByteArray} {at' : Int} {H : Heap} {K : Int → Int → Int → Heap → Prop} (hs : s.size ≤ 100000000000) (hbad : ¬ (0 ≤ at' ∧ at' ≤ s.size) → K 0 0 1 H)
    (hk : ∀ a : Nat, at' = a → a ≤ s.size → ∀ (v : Nat) n e, GU ((bl s).drop a) a v n e → v < 18446744073709551616 → K (unfoldN v) n e H) :
    CallH Try.prog fn_zig_GetInt ⟨[.string s, .int .i64 at']⟩ H fun v H' => ∃ n m e, v = .tuple ⟨[.int .i64 n, .int .i64 m, .int .i64 e]⟩ ∧ K n m e H' := by
  apply vc_zig_GetInt
  refine GetUint_ok hs (fun h => ?_) fun a ea ha v n e hg => ?_
  · have := Unfold_ok (n := 0) (H := H) (K := fun w H' => K w 0 1 H') (by omega) (hbad h)
    exact this.mono fun v H' ⟨w, h1, h2⟩ => ⟨w, h1, _, _, _, rfl, h2⟩
  · obtain ⟨m, rfl, hm⟩ : ∃ m : Nat, v = m ∧ m < 18446744073709551616 := by
      rcases hg with ⟨m, h1, h2, _⟩ | ⟨h, _⟩ | ⟨h, _⟩
      · exact ⟨m, h1, h2⟩
      · exact ⟨0, h, by omega⟩
      · exact ⟨0, h, by omega⟩
    have := Unfold_ok (n := m) (H := H) (K := fun w H' => K w n e H') hm (hk a ea ha m n e hg hm)
    exact this.mono fun v H' ⟨w, h1, h2⟩ => ⟨w, h1, _, _, _, rfl, h2⟩
theorem rGetInt_ok {s : ByteArray} {at' : Int} {H : Heap} {K : Int → Int → Int → Heap → Prop} (hs : s.size ≤ 100000000000) (hbad : ¬ (0 ≤ at' ∧ at' ≤ s.size) → K 0 0 1 H)
    (hk : ∀ a : Nat, at' = a → a ≤ s.size → ∀ (v : Nat) n e H', GU ((bl s).drop a) a v n e → v < 18446744073709551616 → Fr [] H H' → K (unfoldN v) n e H') :
    CallH Try.prog fn_ref01_GetInt ⟨[.string s, .int .i64 at']⟩ H fun v H' => ∃ n m e, v = .tuple ⟨[.int .i64 n, .int .i64 m, .int .i64 e]⟩ ∧ K n m e H' := by
  apply vc_ref01_GetInt
  refine rGetUint_ok hs (fun h => brB_of (fun _ => ⟨_, _, _, rfl, hbad h⟩) (fun h => by simp at h)) fun a ea ha v n e H' hg hf => ?_
  rcases id hg with ⟨m, rfl, h2, _, _, _, rfl⟩ | ⟨rfl, rfl, rfl, _⟩ | ⟨rfl, rfl, rfl, _⟩
  · refine brB_of (fun h => by simp at h) (fun _ => ?_)
    have := rUnfold_ok (n := m) (H := H') (K := fun w H' => K w n 0 H') h2 (hk a ea ha m n 0 H' hg h2 hf)
    exact this.mono fun v H' ⟨w, h1, h2⟩ => ⟨w, h1, _, _, _, rfl, h2⟩
  · exact brB_of (fun _ => ⟨_, _, _, rfl, hk a ea ha 0 0 10 H' hg (by omega) hf⟩) (fun h => by simp at h)
  · exact brB_of (fun _ => ⟨_, _, _, rfl, hk a ea ha 0 0 11 H' hg (by omega) hf⟩) (fun h => by simp at h)
end Go.Proofs
