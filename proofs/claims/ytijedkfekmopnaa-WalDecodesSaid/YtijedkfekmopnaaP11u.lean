/- Turned by a program of mine (port.py) out of the same text of another seat: numbers of types and functions. -/
import Derived.Test.YtijedkfekmopnaaP11t
import Derived.Lib.Bytealg
set_option linter.unusedVariables false
set_option maxRecDepth 100000
open Go Go.GV
namespace Go.Proofs
theorem prefix_eq (s p : ByteArray) (h : p.size ≤ s.size) : (ByteArray.toList (s.extract 0 p.size) == ByteArray.toList p) = decide (p.size ≤ s.size ∧ (bl s).take p.size = bl p) := by
  rw [beqS]
  refine decide_eq_decide.2 ⟨fun e => ⟨h, ?_⟩, fun e => ?_⟩
  · rw [← e, bl_ext]; rw [e]; rfl
  · apply bl_inj
    rw [bl_ext, List.drop_zero]; exact e.2

theorem tail_ext {s : ByteArray} {k : Nat} (h : k ≤ s.size) : bl (s.extract k s.size) = (bl s).drop k := by
  rw [bl_ext, List.take_of_length_le (by rw [bl_len]; omega)]
theorem CutPrefix_ok {s p : ByteArray} {H : Heap} {K : ByteArray → Bool → Heap → Prop} (hyes : ∀ t, bl s = bl p ++ bl t → K t true H) (hno : (∀ r, bl s ≠ bl p ++ r) → K s false H) :
    CallH Try.prog fn_strings_CutPrefix ⟨[.string s, .string p]⟩ H fun v H' => ∃ t b, v = .tuple ⟨[.string t, .bool b]⟩ ∧ K t b H' := by
  apply vc_strings_CutPrefix
  apply vc_internal_stringslite_CutPrefix
  have main : CallH Try.prog 81 ⟨[.string s, .string p]⟩ H fun v H' => ∃ b, v = .bool b ∧ (b = decide (p.size ≤ s.size ∧ (bl s).take p.size = bl p) ∧ H' = H) := by
    apply vc_internal_stringslite_HasPrefix
    refine brB_of (fun h => ?_) (fun h => ⟨_, rfl, ?_, rfl⟩)
    · have h' : p.size ≤ s.size := by simp at h; omega
      refine chk_of ⟨by omega, by omega, by omega⟩ ⟨_, rfl, ?_, rfl⟩
      rw [Int.toNat_natCast, prefix_eq s p h']
    · have h' : ¬ p.size ≤ s.size := by simp at h; omega
      exact (decide_eq_false fun hh => h' hh.1).symm
  refine main.mono fun v H' h => ?_
  obtain ⟨b, rfl, rfl, rfl⟩ := h
  refine ⟨_, rfl, brB_of (fun h => ⟨_, _, rfl, _, _, rfl, hno fun r e => ?_⟩) (fun h => ?_)⟩
  · have : ¬ (p.size ≤ s.size ∧ (bl s).take p.size = bl p) := of_decide_eq_false (by simpa only [Bool.not_eq_true'] using h)
    refine this ⟨?_, ?_⟩
    · rw [← bl_len, ← bl_len, e]; simp
    · rw [e, ← bl_len]; simp
  · have h' : p.size ≤ s.size ∧ (bl s).take p.size = bl p := of_decide_eq_true (by simpa only [Bool.not_eq_false'] using h)
    refine chk_of ⟨by omega, by omega, by omega⟩ ⟨_, _, rfl, _, _, rfl, hyes _ ?_⟩
    rw [Int.toNat_natCast, Int.toNat_natCast, tail_ext h'.1, ← h'.2, List.take_append_drop]

/-! cut at a byte -/
theorem indexByte_cases : ∀ (l : List UInt8) (c : UInt8), (Lib.indexByte l c = -1 ∧ c ∉ l) ∨ ∃ k : Nat, Lib.indexByte l c = k ∧ k < l.length ∧ l[k]? = some c ∧ c ∉ l.take k
  | [], c => .inl ⟨rfl, by simp⟩
  | b :: l, c => by
    unfold Lib.indexByte
    by_cases h : b = c
    · subst h
      exact .inr ⟨0, by simp, by simp, rfl, by simp⟩
    · rw [if_neg (by simpa using h)]
      rcases indexByte_cases l c with ⟨h1, h2⟩ | ⟨k, h1, h2, h3, h4⟩
      · rw [h1]
        exact .inl ⟨rfl, by simp [h2, Ne.symm h]⟩
      · refine .inr ⟨k + 1, ?_, by simp; omega, h3, ?_⟩
        · rw [h1, if_neg (by simp only [beq_iff_eq]; omega)]; rfl
        · rw [List.take_succ_cons, List.mem_cons]
          rintro (h5 | h5)
          · exact h h5.symm
          · exact h4 h5
theorem IndexByteE {s : ByteArray} {c : UInt8} {H : Heap} {K : Int → Heap → Prop} (hk : K (Lib.indexByte (bl s) c) H) :
    ExtH Try.prog 86 ⟨[.string s, .int .u8 (c.toNat : Nat)]⟩ H fun v H' => ∃ n, v = .int .i64 n ∧ K n H' :=
  ext_ok (fn := Try.f86) Try.func86 (by kernel_rfl) (by kernel_rfl) (by kernel_rfl) (e := Extern.BytealgIndexByte.indexByte) (by kernel_rfl) (fun w => Lib.run_indexByteString s _ w) ⟨_, rfl, by
    rw [Int.toNat_natCast]
    have : c.toNat.toUInt8 = c := by
      apply UInt8.toNat.inj
      simp [Nat.toUInt8]
    rw [this]
    exact hk⟩
theorem atB_one (c : UInt8) : atB ⟨#[c]⟩ 0 = c.toNat := atB_of rfl
theorem Cut_ok {s : ByteArray} {c : UInt8} {H : Heap} {K : ByteArray → ByteArray → Bool → Heap → Prop} (hs : s.size ≤ 100000000000) (hyes : ∀ u t, bl s = bl u ++ c :: bl t → (∀ b ∈ bl u, b ≠ c) → K u t true H) (hno : c ∉ bl s → K s ⟨#[]⟩ false H) :
    CallH Try.prog fn_strings_Cut ⟨[.string s, .string ⟨#[c]⟩]⟩ H fun v H' => ∃ u t b, v = .tuple ⟨[.string u, .string t, .bool b]⟩ ∧ K u t b H' := by
  apply vc_strings_Cut
  apply vc_internal_stringslite_Cut
  have hone : (⟨#[c]⟩ : ByteArray).size = 1 := rfl
  have fin : K = K → CallH Try.prog 79 ⟨[.string s, .string ⟨#[c]⟩]⟩ H fun v H' => ∃ n, v = .int .i64 n ∧ (((n = -1 ∧ c ∉ bl s) ∨ ∃ k : Nat, n = k ∧ k < s.size ∧ (bl s)[k]? = some c ∧ c ∉ (bl s).take k) ∧ H' = H) := fun _ => by
    apply vc_internal_stringslite_Index
    refine ⟨fun _ _ => False, ?_, fun J H' h => h.elim⟩
    refine ⟨fun vs H' => vs = [.bool (((⟨#[c]⟩ : ByteArray).toList == s.toList))] ∧ H' = H, ?_, ?_⟩
    · refine brB_of (fun h => by rw [hone] at h; cases h) (fun _ => ⟨rfl, rfl⟩)
    rintro J b H' ⟨e, rfl⟩
    simp only [List.cons.injEq, Value.bool.injEq, and_true] at e
    subst e
    refine brB_of (fun h => ⟨_, rfl, .inr ⟨0, rfl, ?_⟩, rfl⟩) (fun h => ?_)
    · rw [beqS] at h
      have h := of_decide_eq_true h
      subst h
      exact ⟨by rw [hone]; omega, rfl, by simp⟩
    · refine brB_of (fun h1 => ?_) (fun h1 => by rw [hone] at h1; simp at h1)
      refine chk_true (decide_eq_true (by rw [hone]; exact ⟨Int.le_refl _, by decide⟩)) ?_
      rw [atB_one]
      apply vc_internal_stringslite_IndexByte
      refine IndexByteE ⟨_, rfl, _, rfl, ?_, rfl⟩
      have := indexByte_cases (bl s) c
      rw [bl_len] at this
      exact this
  refine (fin rfl).mono fun v H' h => ?_
  obtain ⟨n, rfl, h, rfl⟩ := h
  refine ⟨_, rfl, ?_⟩
  rcases h with ⟨rfl, h⟩ | ⟨k, rfl, hk, h2, h3⟩
  · exact brB_of (fun h1 => by simp at h1) (fun _ => ⟨_, _, _, rfl, _, _, _, rfl, hno h⟩)
  · refine brB_of (fun _ => ?_) (fun h1 => by simp at h1)
    rw [hone]
    have ew : IntKind.i64.wrap ((k : Int) + ((1 : Nat) : Int)) = ((k + 1 : Nat) : Int) := by rw [wrap64_of (by omega) (by omega)]; omega
    rw [ew]
    refine chk_true (decide_eq_true (by omega)) (chk_true (decide_eq_true (by omega)) ⟨_, _, _, rfl, _, _, _, rfl, hyes _ _ ?_ ?_⟩)
    · rw [bl_ext, Int.toNat_natCast, Int.toNat_natCast, Int.toNat_natCast, tail_ext (by omega), List.drop_zero]
      obtain ⟨h4, h5⟩ := List.getElem?_eq_some_iff.1 h2
      rw [← h5, List.getElem_cons_drop, List.take_append_drop]
    · intro b hb e
      rw [bl_ext, Int.toNat_natCast, List.drop_zero] at hb
      exact h3 (e ▸ hb)

/-! the parser: what is left stands in a variable -/
theorem take_ok {pb : Nat} {s p : ByteArray} {H : Heap} {K : Bool → Heap → Prop} (hp : Blk H ⟨pb, 0, none⟩ [.string s])
    (hyes : ∀ t H', bl s = bl p ++ bl t → Blk H' ⟨pb, 0, none⟩ [.string t] → Fr [pb] H H' → K true H') (hno : (∀ r, bl s ≠ bl p ++ r) → K false H) :
    CallH Try.prog fn_label_parser_take ⟨[.pointer (some ⟨pb, 0, none⟩), .string p]⟩ H fun v H' => ∃ b, v = .bool b ∧ K b H' := by
  apply vc_label_parser_take
  refine ⟨_, hp.ld0 (by kernel_rfl) rfl, CutPrefix_ok (fun t h => ?_) fun h => ?_⟩
  · refine brB_of (fun _ => ?_) (fun h => by cases h)
    exact hp.st0 (v := .string t) (by kernel_rfl) (by kernel_rfl) (fun x hx => by simp [Value.cells] at hx; subst hx; rfl) (by simp [Value.cells]) fun H' hb hf => ⟨_, rfl, hyes t H' h hb hf⟩
  · exact brB_of (fun h => by cases h) (fun _ => ⟨_, rfl, hno h⟩)
end Go.Proofs
