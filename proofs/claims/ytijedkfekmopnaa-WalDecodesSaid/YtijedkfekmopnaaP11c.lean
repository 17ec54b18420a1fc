/- Turned by a program of mine (port.py) out of the same text of another seat: numbers of types and functions. -/
import Derived.Test.YtijedkfekmopnaaP11b
set_option linter.unusedVariables false
set_option maxRecDepth 100000
open Go Go.GV
namespace Go.Proofs

theorem rName_ok {s : ByteArray} {H : Heap} {K : Bool → Heap → Prop} (hk : K (decide (NameP s)) H) :
    CallH Try.prog fn_ref04_Name ⟨[.string s]⟩ H fun v H' => ∃ b, v = .bool b ∧ K b H' := by
  apply vc_ref04_Name
  have no : ¬ NameP s → ∃ b, Value.bool false = .bool b ∧ K b H := fun h => ⟨_, rfl, by rwa [decide_eq_false h] at hk⟩
  refine ⟨fun vs H' => H' = H ∧ 1 ≤ s.size ∧ s.size ≤ 16 ∧ lowN (atB s 0), ?_, ?_⟩
  · refine brB_of (fun h => no fun h' => ?_) (fun h => brB_of (fun h2 => no fun h' => ?_) (fun h2 => ?_))
    · have := h'.1; simp at h; omega
    · have := h'.2.1; simp at h2; omega
    have g1 : 1 ≤ s.size := by simp at h; omega
    refine chk_true (decide_eq_true (by omega)) (brB_of (fun h3 => no fun h' => ?_) (fun h3 => chk_true (decide_eq_true (by omega)) (brB_of (fun h4 => no fun h' => ?_) (fun h4 => ⟨rfl, g1, by simp at h2; omega, ?_⟩))))
    · have := h'.2.2.1; unfold lowN at this; simp at h3; omega
    · have := h'.2.2.1; unfold lowN at this; simp at h4; omega
    · simp at h3 h4; unfold lowN; omega
  rintro J H1 ⟨rfl, g1, g2, g3⟩
  refine ⟨fun vs H' => match vs with | [.int _ i] => ∃ k : Nat, i = k ∧ k ≤ s.size ∧ (∀ j, j < k → nchN (atB s j)) ∧ H' = H1 | _ => False,
    fun vs _ => match vs with | [.int _ i] => s.size - i.toNat | _ => 0, ⟨0, rfl, by omega, fun j h => by omega, rfl⟩, ?_⟩
  rintro J i H2 ⟨k, rfl, hle, hall, rfl⟩
  refine brB_of (fun h0 => ?_) (fun h0 => ⟨_, rfl, ?_⟩)
  · have h0' : k < s.size := by simpa using h0
    rw [succ64 (by omega), Int.toNat_natCast]
    refine ⟨fun _ H' => H' = H2 ∧ nchN (atB s k), ?_, ?_⟩
    · refine chk_true (decide_eq_true (by omega)) ?_
      have bad : ¬ nchN (atB s k) → ∃ b, Value.bool false = .bool b ∧ K b H2 := fun h => no fun h' => h (h'.2.2.2 k h0')
      refine brB_of (fun h1 => brB_of (fun h2 => brB_of (fun h3 => bad ?_) (fun h3 => ⟨rfl, ?_⟩)) (fun h2 => brB_of (fun h3 => brB_of (fun h4 => bad ?_) (fun h4 => ⟨rfl, ?_⟩)) (fun h3 => ⟨rfl, ?_⟩)))
        (fun h1 => brB_of (fun h5 => brB_of (fun h2 => brB_of (fun h3 => bad ?_) (fun h3 => ⟨rfl, ?_⟩)) (fun h2 => brB_of (fun h3 => brB_of (fun h4 => bad ?_) (fun h4 => ⟨rfl, ?_⟩)) (fun h3 => ⟨rfl, ?_⟩))) (fun h5 => ⟨rfl, ?_⟩))
      all_goals (simp at *; unfold nchN; omega)
    · rintro J H3 ⟨rfl, hn⟩
      refine ⟨⟨k + 1, rfl, by omega, fun j hj => ?_, rfl⟩, mu_lt h0'⟩
      rcases Nat.lt_or_ge j k with h | h
      · exact hall j h
      · have : j = k := by omega
        subst this; exact hn
  · have : NameP s := ⟨g1, g2, g3, fun i hi => hall i (by simp at h0; omega)⟩
    rwa [decide_eq_true this] at hk

theorem brB_iff {c : Bool} {X Y : Prop} : brB c X Y ↔ ((c = true → X) ∧ (c = false → Y)) := by cases c <;> simp [brB]
theorem wide_ok {s : ByteArray} {H : Heap} {K : Int → Heap → Prop} (hs : 0 < s.size) (hsz : s.size ≤ 1000000000) (hk : K (wideR s 0) H) :
    CallH Try.prog fn_ref04_wide ⟨[.string s]⟩ H fun v H' => ∃ n, v = .int .i64 n ∧ K n H' := by
  apply vc_ref04_wide
  have hb := atB_lt s 0
  have ew : IntKind.i64.wrap ((atB s 0 : Nat) : Int) = ((atB s 0 : Nat) : Int) := wrap64_of (by omega) (by omega)
  refine chk_true (decide_eq_true (by omega)) ?_
  simp only [Int.toNat_zero, ew]
  have zero : wideR s 0 = 0 → ∃ n, Value.int .i64 0 = .int .i64 n ∧ K n H := fun h => ⟨_, rfl, by rw [h] at hk; exact hk⟩
  refine ⟨fun vs H' => H' = H ∧ ¬ atB s 0 < 128 ∧ vs = [.int .i64 (headN (atB s 0)), .int .i64 (headR (atB s 0))], ?_, ?_⟩
  · refine brB_of (fun h => ⟨_, rfl, ?_⟩) (fun h => ?_)
    · have : wideR s 0 = 1 := by unfold wideR; rw [if_pos (by simp at h; omega)]
      rw [this] at hk; exact hk
    have c0 : ¬ atB s 0 < 128 := by simp at h; omega
    refine ⟨fun vs H' => H' = H ∧ vs = [.bool (decide (192 ≤ atB s 0 ∧ atB s 0 < 224))], ?_, ?_⟩
    · refine brB_of (fun h1 => ⟨rfl, ?_⟩) (fun h1 => ⟨rfl, ?_⟩)
      · simp at h1; congr 2; exact decide_eq_decide.2 (by omega)
      · simp at h1; congr 2; exact (decide_eq_false (by omega)).symm
    rintro J b H' ⟨rfl, hb1⟩
    simp only [List.cons.injEq, Value.bool.injEq, and_true] at hb1
    subst hb1
    refine brB_of (fun h1 => ⟨rfl, c0, ?_⟩) (fun h1 => ?_)
    · have h1 := of_decide_eq_true h1
      unfold headN headR
      rw [if_pos h1, if_pos h1, wrap64_of (by omega) (by omega)]
      congr 3; omega
    have n1 := of_decide_eq_false h1
    refine ⟨fun vs H'' => H'' = H' ∧ vs = [.bool (decide (224 ≤ atB s 0 ∧ atB s 0 < 240))], ?_, ?_⟩
    · refine brB_of (fun h1 => ⟨rfl, ?_⟩) (fun h1 => ⟨rfl, ?_⟩)
      · simp at h1; congr 2; exact decide_eq_decide.2 (by omega)
      · simp at h1; congr 2; exact (decide_eq_false (by omega)).symm
    rintro J b H' ⟨rfl, hb1⟩
    simp only [List.cons.injEq, Value.bool.injEq, and_true] at hb1
    subst hb1
    refine brB_of (fun h1 => ⟨rfl, c0, ?_⟩) (fun h1 => ?_)
    · have h1 := of_decide_eq_true h1
      unfold headN headR
      rw [if_neg n1, if_pos h1, if_neg n1, if_pos h1, wrap64_of (by omega) (by omega)]
      congr 3; omega
    have n2 := of_decide_eq_false h1
    have none : ¬ (240 ≤ atB s 0 ∧ atB s 0 < 248) → H' = H' ∧ ¬ atB s 0 < 128 ∧ [Value.int .i64 0, Value.int .i64 0] = [.int .i64 (headN (atB s 0)), .int .i64 (headR (atB s 0))] := fun h => by
      refine ⟨rfl, c0, ?_⟩
      unfold headN headR
      rw [if_neg n1, if_neg n2, if_neg h, if_neg n1, if_neg n2, if_neg h]; rfl
    refine brB_of (fun h1 => brB_of (fun h2 => ⟨rfl, c0, ?_⟩) (fun h2 => none ?_)) (fun h1 => none ?_)
    · have h3 : 240 ≤ atB s 0 ∧ atB s 0 < 248 := by simp at h1 h2; omega
      unfold headN headR
      rw [if_neg n1, if_neg n2, if_pos h3, if_neg n1, if_neg n2, if_pos h3, wrap64_of (by omega) (by omega)]
      congr 3; omega
    · simp at h2; omega
    · simp at h1; omega
  rintro J n0 r0 H1 ⟨rfl, c0, hv⟩
  simp only [List.cons.injEq, Value.int.injEq, true_and, and_true] at hv
  obtain ⟨rfl, rfl⟩ := hv
  have hn4 : headN (atB s 0) ≤ 4 := by unfold headN; repeat' split
                                       all_goals omega
  have hr0 : headR (atB s 0) < 64 := by unfold headR; repeat' split
                                        all_goals omega
  have hw0 : wideR s 0 = if headN (atB s 0) = 0 ∨ s.size < 0 + headN (atB s 0) then 0 else if ∀ k, k < headN (atB s 0) - 1 → contR s 0 (k + 1) then (if badR (headN (atB s 0)) (accR s 0 (headN (atB s 0) - 1)) then 0 else headN (atB s 0)) else 0 := by
    unfold wideR; rw [if_neg c0]
  generalize headN (atB s 0) = n at *
  refine ⟨fun _ H' => H' = H1 ∧ n ≠ 0 ∧ n ≤ s.size, ?_, ?_⟩
  · refine brB_of (fun h => zero ?_) (fun h => brB_of (fun h2 => zero ?_) (fun h2 => ⟨rfl, ?_, ?_⟩))
    · rw [hw0, if_pos (.inl (by have h : (n : Int) = 0 := by simpa using h
                                omega))]
    · rw [hw0, if_pos (.inr (by simp at h2; omega))]
    · intro e; subst e; simp at h
    · simp at h2; omega
  rintro J H2 ⟨rfl, hn0, hns⟩
  rw [if_neg (by omega)] at hw0
  refine ⟨fun vs H' => match vs with | [.int _ r, .int _ i] => ∃ k : Nat, i = ((k + 1 : Nat) : Int) ∧ k + 1 ≤ n ∧ r = (accR s 0 k : Nat) ∧ accR s 0 k < 64 ^ (k + 1) ∧ (∀ j, j < k → contR s 0 (j + 1)) ∧ H' = H2 | _ => False,
    fun vs _ => match vs with | [_, .int _ i] => n - i.toNat | _ => 0, ⟨0, rfl, by omega, rfl, by show headR (atB s 0) < 64 ^ 1; omega, fun j h => by omega, rfl⟩, ?_⟩
  rintro J r i H3 ⟨k, rfl, hkn, rfl, hacc, hc, rfl⟩
  have hk3 : k ≤ 3 := by omega
  have hacc' : accR s 0 k < 16777216 := Nat.lt_of_lt_of_le hacc (by
    have : 64 ^ (k + 1) ≤ 64 ^ 4 := Nat.pow_le_pow_right (by omega) (by omega)
    omega)
  refine brB_of (fun h0 => ?_) (fun h0 => ?_)
  · have h0' : k + 1 < n := by simp at h0; omega
    have hb1 := atB_lt s (k + 1)
    rw [succ64 (by omega), Int.toNat_natCast]
    refine ⟨fun _ H' => H' = H3 ∧ contR s 0 (k + 1), ?_, ?_⟩
    · have bad : ¬ contR s 0 (k + 1) → ∃ n, Value.int .i64 0 = .int .i64 n ∧ K n H3 := fun h => zero (by rw [hw0, if_neg fun h' => h (h' k (by omega))])
      have ec : contR s 0 (k + 1) ↔ (128 ≤ atB s (k + 1) ∧ atB s (k + 1) < 192) := by unfold contR; rw [Nat.zero_add]
      refine chk_true (decide_eq_true (by omega)) (brB_of (fun h1 => bad ?_) (fun h1 => chk_true (decide_eq_true (by omega)) (brB_of (fun h2 => bad ?_) (fun h2 => ⟨rfl, ?_⟩))))
      · rw [ec]; simp at h1; omega
      · rw [ec]; simp at h2; omega
      · rw [ec]; simp at h1 h2; omega
    · rintro J H4 ⟨rfl, hcc⟩
      have ec : 128 ≤ atB s (k + 1) ∧ atB s (k + 1) < 192 := by unfold contR at hcc; rwa [Nat.zero_add] at hcc
      refine chk_true (decide_eq_true (by omega)) ?_
      have e1 : IntKind.i64.wrap (IntKind.i64.wrap (IntKind.i64.wrap ((accR s 0 k : Nat) * 64) + IntKind.i64.wrap ((atB s (k + 1) : Nat) : Int)) - 128) = ((accR s 0 (k + 1) : Nat) : Int) := by
        rw [wrap64_of (n := (accR s 0 k : Nat) * 64) (by omega) (by omega), wrap64_of (n := (atB s (k + 1) : Nat)) (by omega) (by omega), wrap64_of (n := (accR s 0 k : Nat) * 64 + (atB s (k + 1) : Nat)) (by omega) (by omega), wrap64_of (by omega) (by omega)]
        show _ = ((accR s 0 k * 64 + atB s (0 + (k + 1)) - 128 : Nat) : Int)
        rw [Nat.zero_add]
        omega
      rw [e1]
      refine ⟨⟨k + 1, rfl, by omega, rfl, ?_, fun j hj => ?_, rfl⟩, by show n - ((k + 1 + 1 : Nat) : Int).toNat < n - ((k + 1 : Nat) : Int).toNat; omega⟩
      · show accR s 0 k * 64 + atB s (0 + (k + 1)) - 128 < _
        rw [Nat.zero_add, Nat.pow_succ]
        omega
      · rcases Nat.lt_or_ge j k with h | h
        · exact hc j h
        · have : j = k := by omega
          subst this; exact hcc
  · have hkn' : k = n - 1 := by simp at h0; omega
    subst hkn'
    rw [if_pos hc] at hw0
    generalize accR s 0 (n - 1) = r at *
    have bad : badR n r → ∃ n, Value.int .i64 0 = .int .i64 n ∧ K n H3 := fun h => zero (by rw [hw0, if_pos h])
    refine ⟨fun _ H' => H' = H3 ∧ ¬ badR n r, ?_, ?_⟩
    · have en : ∀ m : Nat, ((n : Int) == (m : Int)) = decide (n = m) := fun m => by
        by_cases e : n = m
        · subst e; simp
        · rw [decide_eq_false e]; simp; omega
      have e2 := en 2
      have e3 := en 3
      have e4 := en 4
      simp only [Int.cast_ofNat_Int] at e2 e3 e4
      rw [e2, e3, e4]
      clear e2 e3 e4 en hk zero hw0 hc hacc hacc' ew
      generalize (∃ n, Value.int .i64 0 = .int .i64 n ∧ K n H3) = Z at *
      have eq0 : (H3 = H3 ∧ ¬ badR n r) ↔ ¬ badR n r := ⟨fun h => h.2, fun h => ⟨rfl, h⟩⟩
      simp only [brB_iff, decide_eq_true_eq, decide_eq_false_iff_not, eq0]
      by_cases hb : badR n r
      · have hz := bad hb
        simp only [hz, hb, not_true, imp_false, implies_true, true_and, and_true]
        unfold badR at hb
        omega
      · simp only [hb, not_false_iff, implies_true, true_and, and_true]
        unfold badR at hb
        clear bad
        refine ⟨?_, ?_⟩
        all_goals (intros; repeat' (first | apply And.intro | intro _))
        all_goals (exfalso; omega)
    · rintro J H4 ⟨rfl, hnb⟩
      rw [if_neg hnb] at hw0
      refine ⟨_, rfl, ?_⟩
      rw [hw0] at hk; exact hk

theorem rValue_ok {s : ByteArray} {H : Heap} {K : Bool → Heap → Prop} (hk : K (decide (ValP s)) H) :
    CallH Try.prog fn_ref04_Value ⟨[.string s]⟩ H fun v H' => ∃ b, v = .bool b ∧ K b H' := by
  apply vc_ref04_Value
  have no : ¬ ValP s → ∃ b, Value.bool false = .bool b ∧ K b H := fun h => ⟨_, rfl, by rwa [decide_eq_false h] at hk⟩
  refine brB_of (fun h => no fun h' => by have := h'.1; simp at h; omega) (fun h => ?_)
  have hsz : s.size ≤ 32 := by simp at h; omega
  refine ⟨fun vs H' => match vs with | [.string t] => ∃ p, t = s.extract p s.size ∧ p ≤ s.size ∧ okRunes s 0 = okRunes s p ∧ H' = H | _ => False,
    fun vs _ => match vs with | [.string t] => t.size | _ => 0, ⟨0, by apply bl_inj; rw [bl_ext, ← bl_len, List.take_length]; rfl, by omega, rfl, rfl⟩, ?_⟩
  rintro J t H1 ⟨p, rfl, hp, ho, rfl⟩
  refine brB_of (fun h0 => ?_) (fun h0 => ⟨_, rfl, ?_⟩)
  · have h0' : p < s.size := by rw [size_ext] at h0; simp at h0; omega
    have hw := wideR_ext s p 0 (by omega)
    rw [Nat.add_zero] at hw
    refine wide_ok (by rw [size_ext]; omega) (by rw [size_ext]; omega) ?_
    rw [hw]
    have hle := wideR_le h0'
    refine brB_of (fun h1 => no fun h' => ?_) (fun h1 => ?_)
    · have h1 : ((wideR s p : Nat) : Int) = 0 := by simpa using h1
      have := okRunes_bad h0' (by omega)
      rw [← ho, h'.2] at this; cases this
    · have h1 : wideR s p ≠ 0 := fun e => by rw [e] at h1; simp at h1
      refine chk_true (decide_eq_true ?_) ?_
      · rw [size_ext]; omega
      rw [Int.toNat_natCast, Int.toNat_natCast, ext_ext s p _ hle]
      refine ⟨⟨_, rfl, hle, ?_, rfl⟩, ?_⟩
      · rw [ho, okRunes_next h0' h1]
      · show (s.extract (p + wideR s p) s.size).size < (s.extract p s.size).size
        rw [size_ext, size_ext]; omega
  · have hpe : p = s.size := by rw [size_ext] at h0; simp at h0; omega
    have : ValP s := ⟨hsz, by rw [ho]; exact okRunes_end (by omega)⟩
    rwa [decide_eq_true this] at hk
end Go.Proofs
