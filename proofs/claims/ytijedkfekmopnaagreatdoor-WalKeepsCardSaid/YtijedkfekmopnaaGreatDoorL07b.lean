/- A part of a proof: see the last text of this claim. -/
import Derived.Test.YtijedkfekmopnaaGreatDoorL07a
import Derived.Laws.Strings
import GoSem.Op.String
set_option linter.unusedVariables false
set_option maxRecDepth 100000
open Go Go.GV
namespace Go.Proofs

theorem toL (s : ByteArray) : s.toList = bl s := ByteArray.toList_eq s
theorem beqS (s t : ByteArray) : (s.toList == t.toList) = decide (s = t) := by
  rw [toL, toL]
  by_cases h : s = t
  · subst h; simp
  · have : ¬ bl s = bl t := fun e => h (bl_inj e)
    simp only [h, decide_false, beq_eq_false_iff_ne, ne_eq]; exact this

theorem bytesLess_irrefl : ∀ l : List UInt8, Op.bytesLess l l = false
  | [] => rfl
  | a :: l => by
    unfold Op.bytesLess
    simp [bytesLess_irrefl l]
theorem bytesLess_cons (a b : UInt8) (x y : List UInt8) : Op.bytesLess (a :: x) (b :: y) = true ↔ a < b ∨ a = b ∧ Op.bytesLess x y = true := by
  rw [Op.bytesLess]; simp
theorem bytesLess_trans : ∀ {x y z : List UInt8}, Op.bytesLess x y = true → Op.bytesLess y z = true → Op.bytesLess x z = true
  | [], _, [], h1, h2 => by cases ‹List UInt8› <;> simp [Op.bytesLess] at h2
  | [], _, _ :: _, _, _ => rfl
  | _ :: _, [], _, h1, _ => by simp [Op.bytesLess] at h1
  | _ :: _, _ :: _, [], _, h2 => by simp [Op.bytesLess] at h2
  | a :: x, b :: y, c :: z, h1, h2 => by
    rw [bytesLess_cons] at h1 h2 ⊢
    rcases h1 with h1 | ⟨rfl, h1⟩
    · rcases h2 with h2 | ⟨rfl, h2⟩
      · exact .inl (UInt8.lt_trans h1 h2)
      · exact .inl h1
    · rcases h2 with h2 | ⟨rfl, h2⟩
      · exact .inl h2
      · exact .inr ⟨rfl, bytesLess_trans h1 h2⟩
theorem bytesLess_tri : ∀ x y : List UInt8, Op.bytesLess x y = false → Op.bytesLess y x = false → x = y
  | [], [], _, _ => rfl
  | [], _ :: _, h, _ => by simp [Op.bytesLess] at h
  | _ :: _, [], _, h => by simp [Op.bytesLess] at h
  | a :: x, b :: y, h1, h2 => by
    have g1 : ¬ (a < b ∨ a = b ∧ Op.bytesLess x y = true) := fun h => by rw [← bytesLess_cons] at h; rw [h] at h1; cases h1
    have g2 : ¬ (b < a ∨ b = a ∧ Op.bytesLess y x = true) := fun h => by rw [← bytesLess_cons] at h; rw [h] at h2; cases h2
    have hab : a = b := by
      rcases UInt8.lt_or_lt_of_ne (a := a) (b := b) |> fun f => Classical.em (a = b) with h | h
      · exact h
      · rcases UInt8.lt_or_lt_of_ne h with h | h
        · exact absurd (.inl h) g1
        · exact absurd (.inl h) g2
    subst hab
    rw [bytesLess_tri x y (by cases hh : Op.bytesLess x y with | false => rfl | true => exact absurd (.inr ⟨rfl, hh⟩) g1) (by cases hh : Op.bytesLess y x with | false => rfl | true => exact absurd (.inr ⟨rfl, hh⟩) g2)]

def ltS (s t : ByteArray) : Bool := Op.bytesLess (bl s) (bl t)
theorem ltS_of (s t : ByteArray) : Op.bytesLess s.toList t.toList = ltS s t := by rw [toL, toL]; rfl
theorem ltS_irrefl (s : ByteArray) : ltS s s = false := bytesLess_irrefl _
theorem ltS_trans {s t u : ByteArray} (h : ltS s t = true) (h' : ltS t u = true) : ltS s u = true := bytesLess_trans h h'
theorem ltS_tri {s t : ByteArray} (h : ltS s t = false) (h' : ltS t s = false) : s = t := bl_inj (bytesLess_tri _ _ h h')
theorem ltS_asymm {s t : ByteArray} (h : ltS s t = true) : ltS t s = false := by
  cases h' : ltS t s with
  | false => rfl
  | true => have := ltS_trans h h'; rw [ltS_irrefl] at this; cases this
theorem ltS_empty {s : ByteArray} : ltS ByteArray.empty s = decide (s.size ≠ 0) := by
  unfold ltS
  have := bl_len s
  rw [bl_empty]
  cases h : bl s with
  | nil => rw [h] at this; simp at this; simp [Op.bytesLess, ← this]
  | cons a l => rw [h] at this; simp at this; simp [Op.bytesLess, ← this]

def lowN (c : Nat) : Prop := 97 ≤ c ∧ c ≤ 122
def nchN (c : Nat) : Prop := (97 ≤ c ∧ c ≤ 122) ∨ (48 ≤ c ∧ c ≤ 57) ∨ c = 95
instance (c : Nat) : Decidable (lowN c) := inferInstanceAs (Decidable (_ ∧ _))
instance (c : Nat) : Decidable (nchN c) := inferInstanceAs (Decidable (_ ∨ _))
def NameP (s : ByteArray) : Prop := 1 ≤ s.size ∧ s.size ≤ 16 ∧ lowN (atB s 0) ∧ ∀ i, i < s.size → nchN (atB s i)
instance (s : ByteArray) : Decidable (NameP s) := inferInstanceAs (Decidable (_ ∧ _))

theorem wideR_le {s : ByteArray} {i : Nat} (hi : i < s.size) : i + wideR s i ≤ s.size := by
  unfold wideR
  by_cases h1 : atB s i < 128
  · rw [if_pos h1]; omega
  rw [if_neg h1]
  simp only
  by_cases h2 : headN (atB s i) = 0 ∨ s.size < i + headN (atB s i)
  · rw [if_pos h2]; omega
  rw [if_neg h2]
  by_cases h3 : ∀ k, k < headN (atB s i) - 1 → contR s i (k + 1)
  · rw [if_pos h3]
    by_cases h4 : badR (headN (atB s i)) (accR s i (headN (atB s i) - 1))
    · rw [if_pos h4]; omega
    · rw [if_neg h4]; omega
  · rw [if_neg h3]; omega

def okRunes (s : ByteArray) (i : Nat) : Bool :=
  if h : i < s.size then (if h2 : wideR s i = 0 then false else okRunes s (i + wideR s i)) else true
termination_by s.size - i
theorem okRunes_end {s : ByteArray} {i : Nat} (h : s.size ≤ i) : okRunes s i = true := by
  rw [okRunes, dif_neg (by omega)]
theorem okRunes_bad {s : ByteArray} {i : Nat} (h : i < s.size) (h2 : wideR s i = 0) : okRunes s i = false := by
  rw [okRunes, dif_pos h, dif_pos h2]
theorem okRunes_next {s : ByteArray} {i : Nat} (h : i < s.size) (h2 : wideR s i ≠ 0) : okRunes s i = okRunes s (i + wideR s i) := by
  rw [okRunes, dif_pos h, dif_neg h2]
def ValP (s : ByteArray) : Prop := s.size ≤ 32 ∧ okRunes s 0 = true
instance (s : ByteArray) : Decidable (ValP s) := inferInstanceAs (Decidable (_ ∧ _))

theorem atB_ext (s : ByteArray) (l i : Nat) (h : l + i < s.size) : atB (s.extract l s.size) i = atB s (l + i) := by
  obtain ⟨b, hb, he⟩ := get_atB h
  have : (s.extract l s.size)[i]? = some b := by
    rw [bl_get, bl_ext, ← bl_len, List.take_length, List.getElem?_drop, ← bl_get, hb]
  rw [atB_of this, he]
theorem size_ext (s : ByteArray) (l : Nat) : (s.extract l s.size).size = s.size - l := by
  rw [← bl_len, bl_ext, List.length_drop, List.length_take, bl_len]; omega
theorem wideR_ext (s : ByteArray) (l i : Nat) (h : l + i < s.size) : wideR (s.extract l s.size) i = wideR s (l + i) := by
  unfold wideR
  rw [atB_ext s l i h, size_ext]
  by_cases h1 : atB s (l + i) < 128
  · rw [if_pos h1, if_pos h1]
  rw [if_neg h1, if_neg h1]
  simp only
  by_cases h2 : headN (atB s (l + i)) = 0 ∨ s.size < l + i + headN (atB s (l + i))
  · rw [if_pos h2, if_pos (by omega)]
  rw [if_neg h2, if_neg (by omega)]
  have hcont : ∀ k, k < headN (atB s (l + i)) - 1 → (contR (s.extract l s.size) i (k + 1) ↔ contR s (l + i) (k + 1)) := fun k hk => by
    unfold contR
    rw [atB_ext s l _ (by omega), show l + (i + (k + 1)) = l + i + (k + 1) by omega]
  have hacc : ∀ k, k ≤ headN (atB s (l + i)) - 1 → accR (s.extract l s.size) i k = accR s (l + i) k := fun k => by
    induction k with
    | zero => intro _; simp only [accR]; rw [atB_ext s l i h]
    | succ k ih => intro hk; simp only [accR]; rw [ih (by omega), atB_ext s l _ (by omega), show l + (i + (k + 1)) = l + i + (k + 1) by omega]
  rw [hacc _ (Nat.le_refl _)]
  by_cases h3 : ∀ k, k < headN (atB s (l + i)) - 1 → contR s (l + i) (k + 1)
  · rw [if_pos h3, if_pos fun k hk => (hcont k hk).2 (h3 k hk)]
  · rw [if_neg h3, if_neg fun h => h3 fun k hk => (hcont k hk).1 (h k hk)]
theorem ext_ext (s : ByteArray) (l i : Nat) (h : l + i ≤ s.size) : (s.extract l s.size).extract i (s.extract l s.size).size = s.extract (l + i) s.size := by
  apply bl_inj
  rw [bl_ext, bl_ext, bl_ext, size_ext, ← bl_len, List.take_length, ← List.length_drop (i := l) (l := bl s), List.take_length, List.drop_drop]

def uintL (n : Nat) : List UInt8 := if h : n < 128 then [UInt8.ofNat n] else UInt8.ofNat (n % 128 + 128) :: uintL (n / 128)
termination_by n
theorem uintL_small {n : Nat} (h : n < 128) : uintL n = [UInt8.ofNat n] := by rw [uintL, dif_pos h]
theorem uintL_big {n : Nat} (h : ¬ n < 128) : uintL n = UInt8.ofNat (n % 128 + 128) :: uintL (n / 128) := by rw [uintL, dif_neg h]
theorem uintL_len : ∀ (k n : Nat), n < 128 ^ (k + 1) → (uintL n).length ≤ k + 1
  | 0, n, h => by rw [uintL_small (by omega)]; simp
  | k + 1, n, h => by
    by_cases h1 : n < 128
    · rw [uintL_small h1]; simp
    · rw [uintL_big h1, List.length_cons]
      have := uintL_len k (n / 128) (by rw [Nat.div_lt_iff_lt_mul (by omega)]; rw [Nat.pow_succ] at h; exact h)
      omega
theorem uintL_pos (n : Nat) : 1 ≤ (uintL n).length := by
  by_cases h1 : n < 128
  · rw [uintL_small h1]; simp
  · rw [uintL_big h1]; simp
def textL (s : ByteArray) : List UInt8 := uintL s.size ++ bl s
abbrev Lbl := ByteArray × ByteArray
def RiseL (l : List Lbl) : Prop := ∀ i x y, l[i]? = some x → l[i + 1]? = some y → ltS x.1 y.1 = true
def LblP (x : Lbl) : Prop := NameP x.1 ∧ ValP x.2 ∧ 1 ≤ x.2.size
def ChkP (l : List Lbl) : Prop := l.length ≤ 8 ∧ (∀ x ∈ l, LblP x) ∧ RiseL l
end Go.Proofs
