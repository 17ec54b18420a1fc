/- Turned by a program of mine (port.py) out of the same text of another seat: numbers of types and functions. -/
import Derived.Test.YtijedkfekmopnaaP11r
import Derived.Test.YtijedkfekmopnaaP11o
set_option linter.unusedVariables false
set_option maxRecDepth 100000
open Go Go.GV
namespace Go.Proofs

theorem noU_big {ds t : List UInt8} {c : UInt8} (hd : HighL ds) (hc : c.toNat < 128) (hv : 18446744073709551616 ≤ valL (ds ++ [c])) : ¬ ShortU (ds ++ c :: t) ∧ NoU (ds ++ c :: t) := by
  refine ⟨fun h => ?_, fun n hn t' e => ?_⟩
  · have := h.2 c (by simp); omega
  · obtain ⟨_, _, h3, _⟩ := low_pre hd hc e
    omega
theorem noU_odd {ds t : List UInt8} {c : UInt8} (hd : HighL ds) (hc : c.toNat < 128) (hv : uintL (valL (ds ++ [c])) ≠ ds ++ [c]) : ¬ ShortU (ds ++ c :: t) ∧ NoU (ds ++ c :: t) := by
  refine ⟨fun h => ?_, fun n hn t' e => ?_⟩
  · have := h.2 c (by simp); omega
  · obtain ⟨h1, _, h3, _⟩ := low_pre hd hc e
    exact hv (by rw [← h3, h1])
theorem valL_drop {l : List UInt8} {j : Nat} {c : UInt8} (h : l[j]? = some c) : valL (l.drop j) = c.toNat % 128 + 128 * valL (l.drop (j + 1)) := by
  obtain ⟨hj, rfl⟩ := List.getElem?_eq_some_iff.1 h
  rw [← List.getElem_cons_drop hj]
  rfl
theorem valL_drop_le (l : List UInt8) (j : Nat) : valL (l.drop j) ≤ valL l := by
  have : valL l = valL (l.take j) + 128 ^ (l.take j).length * valL (l.drop j) := by rw [← valL_app, List.take_append_drop]
  have h1 : 1 ≤ 128 ^ (l.take j).length := Nat.pow_pos (by omega)
  have := Nat.mul_le_mul_right (valL (l.drop j)) h1
  omega

theorem rGetUint_ok {s : ByteArray} {at' : Int} {H : Heap} {K : Int → Int → Int → Heap → Prop} (hs : s.size ≤ 100000000000) (hbad : ¬ (0 ≤ at' ∧ at' ≤ s.size) → K 0 0 1 H)
    (hk : ∀ a : Nat, at' = a → a ≤ s.size → ∀ v n e H', GU ((bl s).drop a) a v n e → Fr [] H H' → K v n e H') :
    CallH Try.prog fn_ref01_GetUint ⟨[.string s, .int .i64 at']⟩ H fun v H' => ∃ n m e, v = .tuple ⟨[.int .u64 n, .int .i64 m, .int .i64 e]⟩ ∧ K n m e H' := by
  apply vc_ref01_GetUint
  refine ⟨fun vs H' => H' = H ∧ 0 ≤ at' ∧ at' ≤ s.size, ?_, ?_⟩
  · refine brB_of (fun h => ⟨_, _, _, rfl, hbad ?_⟩) (fun h => brB_of (fun h2 => ⟨_, _, _, rfl, hbad ?_⟩) (fun h2 => ⟨rfl, ?_, ?_⟩))
    · simp at h; omega
    · simp at h2; omega
    · simp at h; omega
    · simp at h2; omega
  rintro J H1 ⟨rfl, h0, h01⟩
  obtain ⟨a, rfl⟩ : ∃ a : Nat, at' = a := ⟨at'.toNat, by omega⟩
  have hk := hk a rfl (by omega)
  have hrl : ((bl s).drop a).length = s.size - a := by rw [List.length_drop, bl_len]
  generalize hr : (bl s).drop a = r at hk hrl
  refine ⟨fun vs H' => match vs with
      | [.int _ i] => ∃ k : Nat, i = k ∧ k ≤ 10 ∧ k ≤ r.length ∧ HighL (r.take k) ∧ H' = H1
      | _ => False,
    fun vs _ => match vs with | [.int _ i] => 10 - i.toNat | _ => 0, ⟨0, rfl, by omega, by omega, fun d hd => by simp at hd, rfl⟩, ?_⟩
  rintro J i H2 ⟨k, rfl, hk10, hkl, hh, rfl⟩
  have ew : IntKind.i64.wrap ((a : Int) + k) = ((a + k : Nat) : Int) := by rw [wrap64_of (by omega) (by omega)]; omega
  rw [ew]
  have htl : (r.take k).length = k := by rw [List.length_take]; omega
  refine ⟨fun vs H' => H' = H2 ∧ k < 10 ∧ k + 1 ≤ r.length ∧ HighL (r.take (k + 1)), ?_, ?_⟩
  rotate_left
  · rintro J H3 ⟨rfl, h1, h2, h3⟩
    rw [succ64 (by omega)]
    exact ⟨⟨k + 1, rfl, by omega, h2, h3, rfl⟩, mu_lt h1⟩
  refine brB_of (fun h1 => brB_of (fun h2 => ?_) (fun h2 => brB_of (fun h3 => by simp at h1 h3; omega) (fun h3 => brB_of (fun h4 => ⟨_, _, _, rfl, hk _ _ _ _ (.inr (.inl ⟨rfl, rfl, rfl, ?_, ?_⟩)) (Fr.refl _ _)⟩) (fun h4 => ?_)))) (fun h1 => brB_of (fun h3 => ⟨_, _, _, rfl, hk _ _ _ _ (.inr (.inr ⟨rfl, rfl, rfl, ?_, ?_⟩)) (Fr.refl _ _)⟩) (fun h3 => by simp at h1 h3; omega))
  rotate_left
  · simp at h1 h2; omega
  · rwa [List.take_of_length_le (by simp at h2; omega)] at hh
  · simp at h2 h4; omega
  · exact fun h => by have := h.1; simp at h1; omega
  · exact fun n hn t e => high_pre hn (by have : k = 10 := by simp at h1; omega
                                          subst this; exact hh) e
  have hlt : a + k < s.size := by simp at h2; omega
  obtain ⟨c, hc1, hc2, hc3⟩ := drop_at hlt
  rw [hr] at hc1 hc3
  refine chk_true (decide_eq_true (by omega)) ?_
  rw [Int.toNat_natCast, ← hc2]
  have hcl := c.toNat_lt
  have e5 : r.take (k + 1) = r.take k ++ [c] := by rw [List.take_add_one, hc3]; rfl
  refine brB_of (fun h3 => ⟨rfl, by simp at h1; omega, by omega, ?_⟩) (fun h3 => ?_)
  · rw [e5]
    intro d hd
    rcases List.mem_append.1 hd with h | h
    · exact hh d h
    · simp at h; subst h; simp at h3; omega
  have hc : c.toNat < 128 := by simp at h3; omega
  refine brB_of (fun h4 => by simp at h1 h4; omega) (fun h4 => brB_of (fun h5 => by simp at h5; omega) (fun h5 => ?_))
  have hl1 : (r.take (k + 1)).length = k + 1 := by rw [List.length_take]; omega
  generalize hw : r.take (k + 1) = w at e5 hl1
  refine ⟨fun vs H' => match vs with
      | [.int _ v, .int _ i] => ∃ j : Nat, i = (j : Int) - 1 ∧ j ≤ k + 1 ∧ v = ((valL (w.drop j) : Nat) : Int) ∧ valL (w.drop j) < 18446744073709551616 ∧ H' = H2
      | _ => False,
    fun vs _ => match vs with | [_, .int _ i] => (i + 1).toNat | _ => 0, ⟨k + 1, by omega, by omega, by rw [List.drop_of_length_le (by omega)]; rfl, by rw [List.drop_of_length_le (by omega)]; simp [valL], rfl⟩, ?_⟩
  rintro J v i H3 ⟨j, rfl, hjk, rfl, hv, rfl⟩
  refine brB_of (fun h6 => ?_) (fun h6 => ?_)
  · have hj0 : 0 < j := by simp at h6; omega
    obtain ⟨j, rfl⟩ : ∃ j', j = j' + 1 := ⟨j - 1, by omega⟩
    obtain ⟨d, hd1, hd2, hd3⟩ := drop_at (s := s) (a := a) (k := j) (by omega)
    have hwj : w[j]? = some d := by
      rw [← hw, List.getElem?_take, if_pos (by omega), ← hr]; exact hd3
    have hvd := valL_drop hwj
    have hdl := d.toNat_lt
    rw [show ((j + 1 : Nat) : Int) - 1 = (j : Int) by omega]
    have ew2 : IntKind.i64.wrap ((a : Int) + j) = ((a + j : Nat) : Int) := by rw [wrap64_of (by omega) (by omega)]; omega
    rw [ew2, Int.toNat_natCast, ← hd2]
    refine brB_of (fun h7 => ⟨_, _, _, rfl, hk _ _ _ _ (.inr (.inr ?_)) (Fr.refl _ _)⟩) (fun h7 => ?_)
    · refine ⟨rfl, rfl, rfl, ?_⟩
      rw [hc1]
      refine noU_big hh hc ?_
      have := valL_drop_le w j
      rw [e5] at this hvd h7
      simp at h7
      omega
    · refine chk_true (decide_eq_true (by omega)) ?_
      simp at h7
      have e7 : IntKind.u64.wrap (IntKind.u64.wrap (((valL (w.drop (j + 1)) : Nat) : Int) * 128) + IntKind.u64.wrap (Int.tmod (d.toNat : Int) 128)) = ((valL (w.drop j) : Nat) : Int) := by
        have : Int.tmod (d.toNat : Int) 128 = ((d.toNat % 128 : Nat) : Int) := by
          rw [Int.tmod_eq_emod_of_nonneg (by omega)]; omega
        rw [this, wrapU64 (n := ((d.toNat % 128 : Nat) : Int)) (by omega) (by omega), wrapU64 (n := ((valL (w.drop (j + 1)) : Nat) : Int) * 128) (by omega) (by omega), wrapU64 (by omega) (by omega)]
        omega
      rw [e7]
      rw [wrap64_of (by omega) (by omega)]
      refine ⟨⟨j, rfl, by omega, rfl, by omega, rfl⟩, ?_⟩
      show ((j : Int) - 1 + 1).toNat < ((j : Int) + 1).toNat
      omega
  · have hj0 : j = 0 := by simp at h6; omega
    subst hj0
    rw [List.drop_zero] at hv ⊢
    rw [succ64 (by omega)]
    refine chk_true (decide_eq_true (by omega)) (rUint_ok hv fun H4 hf4 => ?_)
    have eb : bl (s.extract ((a : Int)).toNat ((a + k + 1 : Nat) : Int).toNat) = w := by
      rw [bl_ext, Int.toNat_natCast, Int.toNat_natCast, List.drop_take, hr, show a + k + 1 - a = k + 1 by omega, hw]
    refine brB_of (fun h7 => ⟨_, _, _, rfl, hk _ _ _ _ (.inr (.inr ?_)) hf4⟩) (fun h7 => ⟨_, _, _, rfl, hk _ _ _ _ ?_ hf4⟩)
    · refine ⟨rfl, rfl, rfl, ?_⟩
      rw [hc1]
      refine noU_odd hh hc ?_
      intro e
      have : (⟨(uintL (valL w)).toArray⟩ : ByteArray) = s.extract ((a : Int)).toNat ((a + k + 1 : Nat) : Int).toNat := by
        apply bl_inj
        rw [eb, bl_mk, e5, e]
      rw [this] at h7
      simp at h7
    · have e8 : uintL (valL w) = w := by
        have : (⟨(uintL (valL w)).toArray⟩ : ByteArray) = s.extract ((a : Int)).toNat ((a + k + 1 : Nat) : Int).toNat := by
          rw [beqS] at h7
          simpa using h7
        have := congrArg bl this
        rw [eb, bl_mk] at this
        exact this
      refine .inl ⟨valL w, rfl, hv, ?_, ?_, ?_, rfl⟩
      · rw [e8, hl1]
        rw [← hw, List.take_append_drop]
      · rw [e8]; omega
      · rw [e8, hl1]; omega
end Go.Proofs
