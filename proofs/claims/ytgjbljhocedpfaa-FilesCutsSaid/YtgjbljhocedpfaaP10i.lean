/- A part of a proof: see the last text of this claim. -/
import Derived.Test.YtgjbljhocedpfaaP10h
set_option linter.unusedVariables false
set_option maxRecDepth 100000
open Go Go.GV
namespace Go.Proofs

def okN (x : Int) : Prop := (97 ≤ x ∧ x ≤ 122) ∨ (48 ≤ x ∧ x ≤ 57) ∨ x = 46 ∨ x = 45
instance (x : Int) : Decidable (okN x) := by unfold okN; infer_instance
/-- A right name. -/
def rightP (s : ByteArray) : Prop := (∀ b ∈ bl s, okN (b.toNat : Int)) ∧ s.size ≠ 0 ∧ s.size ≤ 16
instance (s : ByteArray) : Decidable (rightP s) := by unfold rightP; infer_instance

theorem right_ok {s : ByteArray} {H : Heap} {K : Bool → Heap → Prop} (hs : s.size ≤ 1000000000000) (hk : ∀ H', Fr [] H H' → K (decide (rightP s)) H') :
    CallH Try.prog fn_files_right ⟨[.string s]⟩ H fun v H' => ∃ b, v = .bool b ∧ K b H' := by
  apply vc_files_right
  refine cv_sb bT.str bT.sl (by kernel_rfl) fun q c H1 hq hsl f1 => ?_
  have hlen := bl_len s
  refine ⟨fun vs H2 => match vs with | [.int _ i] => ∃ j : Nat, i = j ∧ j ≤ s.size ∧ (∀ b ∈ (bl s).take j, okN (b.toNat : Int)) ∧ Fr [] H H2 ∧ Fr [] H1 H2 | _ => False,
    fun vs _ => match vs with | [.int _ i] => s.size - i.toNat | _ => 0, ⟨0, rfl, by omega, by simp, f1, Fr.refl _ _⟩, ?_⟩
  rintro J i H2 ⟨j, rfl, hj, hok, hf, hf1⟩
  refine brB_of (fun h0 => ?_) (fun h0 => ?_)
  · have h0' : j < s.size := by simpa using h0
    have hx : (bl s)[j]? = some ((bl s)[j]'(by omega)) := by simp
    generalize (bl s)[j]'(by omega) = x at hx
    refine (hsl.keep hf1).get rfl hx (by simp; omega) fun ad e hc => ⟨x.toNat, ld_one (by kernel_rfl) hc, ?_⟩
    have stop : ¬ okN (x.toNat : Int) → ∃ b, Value.bool false = Value.bool b ∧ K b H2 := fun hno => by
      refine ⟨_, rfl, ?_⟩
      have : decide (rightP s) = false := by
        simp only [decide_eq_false_iff_not]
        exact fun h => hno (h.1 x (List.mem_of_getElem? hx))
      rw [← this]
      exact hk H2 hf
    have cont : okN (x.toNat : Int) → (fun (vs : List Value) (H2 : Heap) => match vs with | [.int _ i] => ∃ j : Nat, i = j ∧ j ≤ s.size ∧ (∀ b ∈ (bl s).take j, okN (b.toNat : Int)) ∧ Fr [] H H2 ∧ Fr [] H1 H2 | _ => False) [.int .i64 (IntKind.wrap .i64 ((j : Int) + 1))] H2 ∧
        (fun (vs : List Value) (_ : Heap) => match vs with | [.int _ i] => s.size - i.toNat | _ => 0) [.int .i64 (IntKind.wrap .i64 ((j : Int) + 1))] H2 < (fun (vs : List Value) (_ : Heap) => match vs with | [.int _ i] => s.size - i.toNat | _ => 0) [.int .i64 (j : Int)] H2 := fun hyes => by
      refine ⟨⟨j + 1, succ64 (by omega), by omega, fun b hb => ?_, hf, hf1⟩, ?_⟩
      · rw [List.take_add_one, hx] at hb
        simp only [Option.toList_some, List.mem_append, List.mem_singleton] at hb
        rcases hb with hb | rfl
        · exact hok b hb
        · exact hyes
      · show s.size - (IntKind.i64.wrap ((j : Int) + 1)).toNat < s.size - ((j : Nat) : Int).toNat
        rw [succ64 (by omega)]
        exact mu_lt h0'
    generalize (x.toNat : Int) = z at stop cont ⊢
    refine brB_of (fun h1 => brB_of (fun h2 => brB_of (fun h3 => brB_of (fun h4 => stop ?_) (fun h4 => cont ?_)) (fun h3 => cont ?_)) (fun h2 => brB_of (fun h3 => brB_of (fun h4 => brB_of (fun h5 => stop ?_) (fun h5 => cont ?_)) (fun h4 => cont ?_)) (fun h3 => cont ?_)))
      (fun h1 => brB_of (fun h2 => brB_of (fun h3 => brB_of (fun h4 => brB_of (fun h5 => stop ?_) (fun h5 => cont ?_)) (fun h4 => cont ?_)) (fun h3 => brB_of (fun h4 => brB_of (fun h5 => brB_of (fun h6 => stop ?_) (fun h6 => cont ?_)) (fun h5 => cont ?_)) (fun h4 => cont ?_))) (fun h2 => cont ?_))
    all_goals (unfold okN; simp at *; omega)
  · have hjs : j = s.size := by simp at h0; omega
    subst hjs
    rw [List.take_of_length_le (by omega)] at hok
    refine brB_of (fun h1 => ⟨_, rfl, ?_⟩) (fun h1 => ⟨_, rfl, ?_⟩)
    · have hne : s.size ≠ 0 := fun e => by
        have : bl s = [] := List.eq_nil_of_length_eq_zero (by omega)
        have e2 : s = ⟨#[]⟩ := bl_inj this
        rw [e2] at h1
        simp at h1
      have : decide ((s.size : Int) ≤ 16) = decide (rightP s) := by
        rw [decide_eq_decide]
        exact ⟨fun h => ⟨hok, hne, by omega⟩, fun h => by have := h.2.2; omega⟩
      rw [this]
      exact hk H2 hf
    · have : decide (rightP s) = false := by
        simp only [decide_eq_false_iff_not]
        intro h
        have h2 := h.2.1
        have e : ByteArray.toList s = ByteArray.toList ⟨#[]⟩ := by simpa using h1
        rw [toL, toL] at e
        have e2 : (bl s).length = 0 := by rw [e]; rfl
        omega
      rw [← this]
      exact hk H2 hf
end Go.Proofs
