/- A part of a proof: see the last text of this claim. -/
import Derived.Test.YtijedkfekmopnaaGreatDoorGvCore
set_option linter.unusedVariables false
set_option maxRecDepth 100000
open Go Go.GV
namespace Go.Proofs

abbrev bl (s : ByteArray) : List UInt8 := s.data.toList
theorem bl_inj {s t : ByteArray} (h : bl s = bl t) : s = t := by
  cases s; cases t; simp [bl] at h; exact congrArg ByteArray.mk (by simpa using h)
theorem bl_len (s : ByteArray) : (bl s).length = s.size := by cases s; simp [bl, ByteArray.size]
theorem bl_app (s t : ByteArray) : bl (s ++ t) = bl s ++ bl t := by simp [bl]
theorem bl_ext (s : ByteArray) (l h : Nat) : bl (s.extract l h) = ((bl s).take h).drop l := by
  simp [bl, ByteArray.data_extract, List.drop_take]
theorem bl_get (s : ByteArray) (i : Nat) : s[i]? = (bl s)[i]? := by
  cases s with | mk a =>
  show (if h : i < (ByteArray.mk a).size then some ((ByteArray.mk a)[i]) else none) = _
  simp only [bl]
  by_cases h : i < a.size
  · have h' : i < (ByteArray.mk a).size := h
    rw [dif_pos h']; simp [h]; rfl
  · have h' : ¬ i < (ByteArray.mk a).size := h
    rw [dif_neg h']; simp; omega
theorem bl_empty : bl ByteArray.empty = [] := rfl

theorem atB_lt (s : ByteArray) (i : Nat) : atB s i < 256 := UInt8.toNat_lt _
theorem atB_of {s : ByteArray} {i : Nat} {b : UInt8} (h : s[i]? = some b) : atB s i = b.toNat := by
  have : i < s.size := by
    rw [bl_get] at h
    have := (List.getElem?_eq_some_iff.1 h).1
    rwa [bl_len] at this
  have h2 : s[i]? = some s[i] := by exact getElem?_pos s i this
  rw [h2] at h
  injection h with h
  subst h
  cases s with | mk a =>
  simp only [atB]
  show (a[i]!).toNat = (a[i]'_).toNat
  rw [getElem!_pos a i this]
theorem get_atB {s : ByteArray} {i : Nat} (h : i < s.size) : ∃ b : UInt8, s[i]? = some b ∧ b.toNat = atB s i := ⟨s[i], getElem?_pos s i h, (atB_of (getElem?_pos s i h)).symm⟩

def headN (c : Nat) : Nat := if 192 ≤ c ∧ c < 224 then 2 else if 224 ≤ c ∧ c < 240 then 3 else if 240 ≤ c ∧ c < 248 then 4 else 0
def headR (c : Nat) : Nat := if 192 ≤ c ∧ c < 224 then c - 192 else if 224 ≤ c ∧ c < 240 then c - 224 else if 240 ≤ c ∧ c < 248 then c - 240 else 0
def accR (s : ByteArray) (i : Nat) : Nat → Nat
  | 0 => headR (atB s i)
  | k + 1 => accR s i k * 64 + atB s (i + (k + 1)) - 128
def contR (s : ByteArray) (i k : Nat) : Prop := 128 ≤ atB s (i + k) ∧ atB s (i + k) < 192
instance (s : ByteArray) (i k : Nat) : Decidable (contR s i k) := inferInstanceAs (Decidable (_ ∧ _))
def badR (n r : Nat) : Prop := n = 2 ∧ r < 128 ∨ n = 3 ∧ r < 2048 ∨ n = 4 ∧ r < 65536 ∨ r > 1114111 ∨ (r ≥ 55296 ∧ r < 57344)
instance (n r : Nat) : Decidable (badR n r) := inferInstanceAs (Decidable (_ ∨ _))
def wideR (s : ByteArray) (i : Nat) : Nat :=
  if atB s i < 128 then 1 else
  let n := headN (atB s i)
  if n = 0 ∨ s.size < i + n then 0 else
  if ∀ k, k < n - 1 → contR s i (k + 1) then (if badR n (accR s i (n - 1)) then 0 else n) else 0

def runeLenN (c : Nat) : Nat := if c < 128 then 1 else if c < 2048 then 2 else if 55296 ≤ c ∧ c < 57344 then 0 else if c < 65536 then 3 else if c ≤ 1114111 then 4 else 0

theorem all2 {p : Nat → Prop} : (∀ k, k < 2 - 1 → p k) ↔ p 0 := ⟨fun h => h 0 (by omega), fun h k hk => by
  match k, hk with
  | 0, _ => exact h⟩
theorem all3 {p : Nat → Prop} : (∀ k, k < 3 - 1 → p k) ↔ p 0 ∧ p 1 := ⟨fun h => ⟨h 0 (by omega), h 1 (by omega)⟩, fun h k hk => by
  match k, hk with
  | 0, _ => exact h.1
  | 1, _ => exact h.2⟩
theorem all4 {p : Nat → Prop} : (∀ k, k < 4 - 1 → p k) ↔ p 0 ∧ p 1 ∧ p 2 := ⟨fun h => ⟨h 0 (by omega), h 1 (by omega), h 2 (by omega)⟩, fun h k hk => by
  match k, hk with
  | 0, _ => exact h.1
  | 1, _ => exact h.2.1
  | 2, _ => exact h.2.2⟩

theorem decode_eq (s : ByteArray) (i : Nat) : Utf8.decode s i =
    if atB s i < 0x80 then (atB s i, 1)
    else if (atB s i / 32 == 6 && (i + 1 < s.size && atB s (i + 1) / 64 == 2)) = true then
      if (atB s i % 32) * 64 + atB s (i + 1) % 64 ≥ 0x80 then ((atB s i % 32) * 64 + atB s (i + 1) % 64, 2) else (0xFFFD, 1)
    else if (atB s i / 16 == 14 && (i + 1 < s.size && atB s (i + 1) / 64 == 2) && (i + 2 < s.size && atB s (i + 2) / 64 == 2)) = true then
      if ((atB s i % 16) * 4096 + (atB s (i + 1) % 64) * 64 + atB s (i + 2) % 64 ≥ 0x800 && Utf8.valid (((atB s i % 16) * 4096 + (atB s (i + 1) % 64) * 64 + atB s (i + 2) % 64 : Nat) : Int)) = true then ((atB s i % 16) * 4096 + (atB s (i + 1) % 64) * 64 + atB s (i + 2) % 64, 3) else (0xFFFD, 1)
    else if (atB s i / 8 == 30 && (i + 1 < s.size && atB s (i + 1) / 64 == 2) && (i + 2 < s.size && atB s (i + 2) / 64 == 2) && (i + 3 < s.size && atB s (i + 3) / 64 == 2)) = true then
      if ((atB s i % 8) * 262144 + (atB s (i + 1) % 64) * 4096 + (atB s (i + 2) % 64) * 64 + atB s (i + 3) % 64 ≥ 0x10000 && Utf8.valid (((atB s i % 8) * 262144 + (atB s (i + 1) % 64) * 4096 + (atB s (i + 2) % 64) * 64 + atB s (i + 3) % 64 : Nat) : Int)) = true then ((atB s i % 8) * 262144 + (atB s (i + 1) % 64) * 4096 + (atB s (i + 2) % 64) * 64 + atB s (i + 3) % 64, 4) else (0xFFFD, 1)
    else (0xFFFD, 1) := by
  unfold Utf8.decode Utf8.runeError
  rfl

def DecR (s : ByteArray) (i : Nat) (d : Nat × Nat) : Prop := (wideR s i ≠ 0 → d.2 = wideR s i ∧ runeLenN d.1 = d.2) ∧ (wideR s i = 0 → d.2 = 1 ∧ d.1 = 65533) ∧ (d.1 < 128 → d.1 = atB s i ∧ d.2 = 1) ∧ (atB s i < 128 → d.1 = atB s i) ∧ 1 ≤ d.2
theorem decR_bad {s : ByteArray} {i : Nat} (c0 : ¬ atB s i < 128) (h : wideR s i = 0) : DecR s i (65533, 1) :=
  ⟨fun h' => absurd h h', fun _ => ⟨rfl, rfl⟩, fun h => by have : (65533 : Nat) < 128 := h; omega, fun h => absurd h c0, Nat.le_refl _⟩
theorem decR_good {s : ByteArray} {i c w : Nat} (c0 : ¬ atB s i < 128) (h : wideR s i = w) (hw : 2 ≤ w) (hc : runeLenN c = w) (h1 : ¬ c < 128) : DecR s i (c, w) :=
  ⟨fun _ => ⟨h.symm, hc⟩, fun h' => by omega, fun h => absurd h h1, fun h => absurd h c0, by show 1 ≤ w; omega⟩

theorem wide2 {s : ByteArray} {i : Nat} (n2 : 192 ≤ atB s i ∧ atB s i < 224) : wideR s i = if s.size < i + 2 then 0 else if contR s i 1 then (if (atB s i - 192) * 64 + atB s (i + 1) - 128 < 128 then 0 else 2) else 0 := by
  have hn : headN (atB s i) = 2 := by unfold headN; rw [if_pos n2]
  have hr : accR s i 1 = (atB s i - 192) * 64 + atB s (i + 1) - 128 := by simp only [accR, headR, if_pos n2]
  have h1 := atB_lt s (i + 1)
  unfold wideR
  rw [if_neg (by omega)]
  simp only [hn, all2, Nat.zero_add, Nat.reduceSub, hr]
  by_cases g1 : s.size < i + 2
  · rw [if_pos (.inr g1), if_pos g1]
  · rw [if_neg (by omega), if_neg g1]
    by_cases g2 : contR s i 1
    · rw [if_pos g2, if_pos g2]
      unfold contR at g2
      by_cases g3 : (atB s i - 192) * 64 + atB s (i + 1) - 128 < 128
      · rw [if_pos g3, if_pos (.inl ⟨rfl, g3⟩)]
      · rw [if_neg g3, if_neg (by unfold badR; omega)]
    · rw [if_neg g2, if_neg g2]
theorem wide3 {s : ByteArray} {i : Nat} (n3 : 224 ≤ atB s i ∧ atB s i < 240) : wideR s i = if s.size < i + 3 then 0 else if contR s i 1 ∧ contR s i 2 then (if badR 3 (((atB s i - 224) * 64 + atB s (i + 1) - 128) * 64 + atB s (i + 2) - 128) then 0 else 3) else 0 := by
  have n2 : ¬ (192 ≤ atB s i ∧ atB s i < 224) := by omega
  have hn : headN (atB s i) = 3 := by unfold headN; rw [if_neg n2, if_pos n3]
  have hr : accR s i 2 = ((atB s i - 224) * 64 + atB s (i + 1) - 128) * 64 + atB s (i + 2) - 128 := by simp only [accR, headR, if_neg n2, if_pos n3]
  unfold wideR
  rw [if_neg (by omega)]
  simp only [hn, all3, Nat.zero_add, Nat.reduceSub, Nat.reduceAdd, hr]
  by_cases g1 : s.size < i + 3
  · rw [if_pos (.inr g1), if_pos g1]
  · rw [if_neg (by omega), if_neg g1]
theorem wide4 {s : ByteArray} {i : Nat} (n4 : 240 ≤ atB s i ∧ atB s i < 248) : wideR s i = if s.size < i + 4 then 0 else if contR s i 1 ∧ contR s i 2 ∧ contR s i 3 then (if badR 4 ((((atB s i - 240) * 64 + atB s (i + 1) - 128) * 64 + atB s (i + 2) - 128) * 64 + atB s (i + 3) - 128) then 0 else 4) else 0 := by
  have n2 : ¬ (192 ≤ atB s i ∧ atB s i < 224) := by omega
  have n3 : ¬ (224 ≤ atB s i ∧ atB s i < 240) := by omega
  have hn : headN (atB s i) = 4 := by unfold headN; rw [if_neg n2, if_neg n3, if_pos n4]
  have hr : accR s i 3 = (((atB s i - 240) * 64 + atB s (i + 1) - 128) * 64 + atB s (i + 2) - 128) * 64 + atB s (i + 3) - 128 := by simp only [accR, headR, if_neg n2, if_neg n3, if_pos n4]
  unfold wideR
  rw [if_neg (by omega)]
  simp only [hn, all4, Nat.zero_add, Nat.reduceSub, Nat.reduceAdd, hr]
  by_cases g1 : s.size < i + 4
  · rw [if_pos (.inr g1), if_pos g1]
  · rw [if_neg (by omega), if_neg g1]

theorem decode_ok (s : ByteArray) (i : Nat) (hi : i < s.size) : DecR s i (Utf8.decode s i) := by
  rw [decode_eq]
  have h0 := atB_lt s i
  have h1 := atB_lt s (i + 1)
  have h2 := atB_lt s (i + 2)
  have h3 := atB_lt s (i + 3)
  by_cases c0 : atB s i < 128
  · rw [if_pos c0]
    have hw : wideR s i = 1 := by unfold wideR; rw [if_pos c0]
    refine ⟨fun _ => ⟨hw.symm, ?_⟩, fun h => by omega, fun _ => ⟨rfl, rfl⟩, fun _ => rfl, Nat.le_refl _⟩
    show runeLenN (atB s i) = 1
    unfold runeLenN; rw [if_pos c0]
  rw [if_neg c0]
  by_cases n2 : 192 ≤ atB s i ∧ atB s i < 224
  · have hw := wide2 n2
    have e1 : (atB s i / 32 == 6) = true := by simp; omega
    have e2 : (atB s i / 16 == 14) = false := by simp; omega
    have e3 : (atB s i / 8 == 30) = false := by simp; omega
    simp only [e1, e2, e3, Bool.true_and, Bool.false_and, Bool.and_eq_true, decide_eq_true_eq, beq_iff_eq, false_and, if_false, Bool.false_eq_true]
    by_cases hs : i + 1 < s.size
    · rw [if_neg (by omega)] at hw
      by_cases hc : atB s (i + 1) / 64 = 2
      · rw [if_pos ⟨hs, hc⟩]
        rw [if_pos (show contR s i 1 by unfold contR; omega)] at hw
        by_cases hb : atB s i % 32 * 64 + atB s (i + 1) % 64 ≥ 128
        · rw [if_pos hb]
          rw [if_neg (by omega)] at hw
          exact decR_good c0 hw (by omega) (by unfold runeLenN; rw [if_neg (by omega), if_pos (by omega)]) (by omega)
        · rw [if_neg hb]
          rw [if_pos (by omega)] at hw
          exact decR_bad c0 hw
      · rw [if_neg (by omega)]
        rw [if_neg (show ¬ (contR s i 1) by unfold contR; omega)] at hw
        exact decR_bad c0 hw
    · rw [if_neg (by omega)]
      rw [if_pos (by omega)] at hw
      exact decR_bad c0 hw
  by_cases n3 : 224 ≤ atB s i ∧ atB s i < 240
  · have hw := wide3 n3
    have e1 : (atB s i / 32 == 6) = false := by simp; omega
    have e2 : (atB s i / 16 == 14) = true := by simp; omega
    have e3 : (atB s i / 8 == 30) = false := by simp; omega
    simp only [e1, e2, e3, Bool.true_and, Bool.false_and, Bool.and_eq_true, decide_eq_true_eq, beq_iff_eq, false_and, if_false, Bool.false_eq_true]
    by_cases hs : i + 2 < s.size
    · rw [if_neg (by omega)] at hw
      by_cases hc : atB s (i + 1) / 64 = 2 ∧ atB s (i + 2) / 64 = 2
      · rw [if_pos ⟨⟨by omega, hc.1⟩, hs, hc.2⟩]
        rw [if_pos (show contR s i 1 ∧ contR s i 2 by unfold contR; omega)] at hw
        generalize hv : atB s i % 16 * 4096 + atB s (i + 1) % 64 * 64 + atB s (i + 2) % 64 = v
        have hval : (v ≥ 2048 ∧ Utf8.valid (v : Int) = true) ↔ (2048 ≤ v ∧ (v < 55296 ∨ 57344 ≤ v) ∧ v ≤ 1114111) := by
          simp only [Utf8.valid, Bool.or_eq_true, Bool.and_eq_true, decide_eq_true_eq]; omega
        by_cases hb : v ≥ 2048 ∧ Utf8.valid (v : Int) = true
        · rw [if_pos hb]
          rw [hval] at hb
          rw [if_neg (by unfold badR; omega)] at hw
          exact decR_good c0 hw (by omega) (by unfold runeLenN; rw [if_neg (by omega), if_neg (by omega), if_neg (by omega), if_pos (by omega)]) (by omega)
        · rw [if_neg hb]
          rw [hval] at hb
          rw [if_pos (by unfold badR; omega)] at hw
          exact decR_bad c0 hw
      · rw [if_neg (by omega)]
        rw [if_neg (show ¬ (contR s i 1 ∧ contR s i 2) by unfold contR; omega)] at hw
        exact decR_bad c0 hw
    · rw [if_neg (by omega)]
      rw [if_pos (by omega)] at hw
      exact decR_bad c0 hw
  by_cases n4 : 240 ≤ atB s i ∧ atB s i < 248
  · have hw := wide4 n4
    have e1 : (atB s i / 32 == 6) = false := by simp; omega
    have e2 : (atB s i / 16 == 14) = false := by simp; omega
    have e3 : (atB s i / 8 == 30) = true := by simp; omega
    simp only [e1, e2, e3, Bool.true_and, Bool.false_and, Bool.and_eq_true, decide_eq_true_eq, beq_iff_eq, false_and, if_false, Bool.false_eq_true]
    by_cases hs : i + 3 < s.size
    · rw [if_neg (by omega)] at hw
      by_cases hc : atB s (i + 1) / 64 = 2 ∧ atB s (i + 2) / 64 = 2 ∧ atB s (i + 3) / 64 = 2
      · rw [if_pos ⟨⟨⟨by omega, hc.1⟩, by omega, hc.2.1⟩, hs, hc.2.2⟩]
        rw [if_pos (show contR s i 1 ∧ contR s i 2 ∧ contR s i 3 by unfold contR; omega)] at hw
        generalize hv : atB s i % 8 * 262144 + atB s (i + 1) % 64 * 4096 + atB s (i + 2) % 64 * 64 + atB s (i + 3) % 64 = v
        have hval : (v ≥ 65536 ∧ Utf8.valid (v : Int) = true) ↔ (65536 ≤ v ∧ v ≤ 1114111) := by
          simp only [Utf8.valid, Bool.or_eq_true, Bool.and_eq_true, decide_eq_true_eq]; omega
        by_cases hb : v ≥ 65536 ∧ Utf8.valid (v : Int) = true
        · rw [if_pos hb]
          rw [hval] at hb
          rw [if_neg (by unfold badR; omega)] at hw
          exact decR_good c0 hw (by omega) (by unfold runeLenN; rw [if_neg (by omega), if_neg (by omega), if_neg (by omega), if_neg (by omega), if_pos (by omega)]) (by omega)
        · rw [if_neg hb]
          rw [hval] at hb
          rw [if_pos (by unfold badR; omega)] at hw
          exact decR_bad c0 hw
      · rw [if_neg (by omega)]
        rw [if_neg (show ¬ (contR s i 1 ∧ contR s i 2 ∧ contR s i 3) by unfold contR; omega)] at hw
        exact decR_bad c0 hw
    · rw [if_neg (by omega)]
      rw [if_pos (by omega)] at hw
      exact decR_bad c0 hw
  have hn : headN (atB s i) = 0 := by unfold headN; rw [if_neg n2, if_neg n3, if_neg n4]
  have hw : wideR s i = 0 := by
    unfold wideR
    rw [if_neg c0]
    simp only [hn, true_or, if_true]
  have e1 : (atB s i / 32 == 6) = false := by simp; omega
  have e2 : (atB s i / 16 == 14) = false := by simp; omega
  have e3 : (atB s i / 8 == 30) = false := by simp; omega
  simp only [e1, e2, e3, Bool.false_and, Bool.false_eq_true, if_false]
  exact decR_bad c0 hw
end Go.Proofs
