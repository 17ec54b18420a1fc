/- A part of a proof: see the last text of this claim. -/
import Derived.Test.YtijedkfekmopnaaGvCore
import Derived.Test.YtijedkfekmopnaaDefer
import Derived.Test.YtijedkfekmopnaaRows
set_option linter.unusedVariables false
set_option maxRecDepth 100000
open Go Go.GV
namespace Go.Proofs
theorem followsAll : Try.prog.follows .mixedOrders = true := by kernel_rfl

/- 3 strandline/strandlinelaw11.WalEncodes
  slots: [0=r, 1=r, 3=one, 4=s, 5=e, 6=t, 7=f, 8=_, 9=odd, 10=x, 11=g, 12=again]  -/
abbrev fn_law11_WalEncodes : Nat := 3
theorem vc_law11_WalEncodes (r_0 : Int) (r_1_a : Option Addr) (r_1_n : Nat) (r_1_c : Nat) (r_2_a : Option Addr) (r_2_n : Nat) (r_2_c : Nat) (r_3_a : Option Addr) (r_3_n : Nat) (r_3_c : Nat)
  (r_4 : Int) (H : Heap) (R : Value → Heap → Prop) (h : ∀ (b : Nat) (H' : Heap), New H b (Obj.cells { toList := [Value.int IntKind.i64 r_0, Value.slice r_1_a r_1_n r_1_c, Value.slice r_2_a
  r_2_n r_2_c, Value.slice r_3_a r_3_n r_3_c, Value.int IntKind.i64 r_4] } (26 : Nat)) H' → ∃ n a n_1 c a_1 n_2 c_1 a_2 n_3 c_2 n_4, Ld Try.prog (26 : Nat) H' ⟨b, (0 : Nat), none⟩ (Value.agg {
  toList := [Value.int IntKind.i64 n, Value.slice a n_1 c, Value.slice a_1 n_2 c_1, Value.slice a_2 n_3 c_2, Value.int IntKind.i64 n_4] }) ∧ ∀ (b_1 : Nat) (H'_1 : Heap), New H' b_1 (Obj.cells
  { toList := [Value.int IntKind.i64 n, Value.slice a n_1 c, Value.slice a_1 n_2 c_1, Value.slice a_2 n_3 c_2, Value.int IntKind.i64 n_4] } (26 : Nat)) H'_1 → CallH Try.prog (5 : Nat) { toList
  := [Value.slice (some ⟨b_1, (0 : Nat), none⟩) (1 : Nat) (1 : Nat)] } H'_1 fun v H' => ∃ b_2, v = Value.bool b_2 ∧ brB b_2 (R (Value.bool true) H') (∃ n a n_5 c a_3 n_6 c_3 a_4 n_7 c_4 n_8,
  Ld Try.prog (26 : Nat) H' ⟨b, (0 : Nat), none⟩ (Value.agg { toList := [Value.int IntKind.i64 n, Value.slice a n_5 c, Value.slice a_3 n_6 c_3, Value.slice a_4 n_7 c_4, Value.int IntKind.i64
  n_8] }) ∧ CallH Try.prog (6 : Nat) { toList := [Value.agg { toList := [Value.int IntKind.i64 n, Value.slice a n_5 c, Value.slice a_3 n_6 c_3, Value.slice a_4 n_7 c_4, Value.int IntKind.i64
  n_8] }] } H' fun v H' => ∃ s n, v = Value.tuple { toList := [Value.string s, Value.int IntKind.i64 n] } ∧ CallH Try.prog (8 : Nat) { toList := [Value.slice (some ⟨b_1, (0 : Nat), none⟩) (1 :
  Nat) (1 : Nat)] } H' fun v H' => ∃ a n_9 c, v = Value.slice a n_9 c ∧ exSome a fun ad => chk (decide ((0 : Int) ≤ (0 : Int) ∧ (0 : Int) < (↑n_9 : Int))) (∃ n_10 a n_11 c a_5 n_12 c_5 a_6
  n_13 c_6 n_14, Ld Try.prog (33 : Nat) H' ad (Value.agg { toList := [Value.int IntKind.i64 n_10, Value.slice a n_11 c, Value.slice a_5 n_12 c_5, Value.slice a_6 n_13 c_6, Value.int
  IntKind.i64 n_14] }) ∧ CallH Try.prog (7 : Nat) { toList := [Value.agg { toList := [Value.int IntKind.i64 n_10, Value.slice a n_11 c, Value.slice a_5 n_12 c_5, Value.slice a_6 n_13 c_6,
  Value.int IntKind.i64 n_14] }] } H' fun v H' => ∃ s_1 n_15, v = Value.tuple { toList := [Value.string s_1, Value.int IntKind.i64 n_15] } ∧ ∃ (M : List Value → Heap → Prop), brB
  (!ByteArray.toList s == ByteArray.toList s_1) (R (Value.bool false) H') (brB (n != n_15) (R (Value.bool false) H') (M [] H')) ∧ ∀ (J : F) (H' : Heap), M [] H' → brB (n != (0 : Int)) (CallH
  Try.prog (6 : Nat) { toList := [Value.agg { toList := [Value.int IntKind.i64 (4 : Int), Value.slice none (0 : Nat) (0 : Nat), Value.slice none (0 : Nat) (0 : Nat), Value.slice none (0 : Nat)
  (0 : Nat), Value.int IntKind.i64 (0 : Int)] }] } H' fun v H' => ∃ s_2 n, v = Value.tuple { toList := [Value.string s_2, Value.int IntKind.i64 n] } ∧ brB (ByteArray.toList s ==
  ByteArray.toList { data := #[] }) (R (Value.bool (n == (1 : Int))) H') (R (Value.bool false) H')) (CallH Try.prog (9 : Nat) { toList := [Value.string s] } H' fun v H' => ∃ n a n_16 c a_7
  n_17 c_7 a_8 n_18 c_8 n_19 n_20, v = Value.tuple { toList := [Value.agg { toList := [Value.int IntKind.i64 n, Value.slice a n_16 c, Value.slice a_7 n_17 c_7, Value.slice a_8 n_18 c_8,
  Value.int IntKind.i64 n_19] }, Value.int IntKind.i64 n_20] } ∧ ∀ (b : Nat) (H'_2 : Heap), New H' b (Obj.cells { toList := [Value.int IntKind.i64 (0 : Int), Value.slice none (0 : Nat) (0 :
  Nat), Value.slice none (0 : Nat) (0 : Nat), Value.slice none (0 : Nat) (0 : Nat), Value.int IntKind.i64 (0 : Int)] } (26 : Nat)) H'_2 → ∃ H', St Try.prog (26 : Nat) H'_2 ⟨b, (0 : Nat), none⟩
  (Value.agg { toList := [Value.int IntKind.i64 n, Value.slice a n_16 c, Value.slice a_7 n_17 c_7, Value.slice a_8 n_18 c_8, Value.int IntKind.i64 n_19] }) H' ∧ ∃ n a n_21 c a_10 n_22 c_9 a_11
  n_23 c_10 n_24, Ld Try.prog (26 : Nat) H' ⟨b, (0 : Nat), none⟩ (Value.agg { toList := [Value.int IntKind.i64 n, Value.slice a n_21 c, Value.slice a_10 n_22 c_9, Value.slice a_11 n_23 c_10,
  Value.int IntKind.i64 n_24] }) ∧ ∀ (b : Nat) (H'_3 : Heap), New H' b (Obj.cells { toList := [Value.int IntKind.i64 n, Value.slice a n_21 c, Value.slice a_10 n_22 c_9, Value.slice a_11 n_23
  c_10, Value.int IntKind.i64 n_24] } (26 : Nat)) H'_3 → brB (n_20 == (0 : Int)) (CallH Try.prog (8 : Nat) { toList := [Value.slice (some ⟨b, (0 : Nat), none⟩) (1 : Nat) (1 : Nat)] } H'_3 fun
  v H' => ∃ a n c, v = Value.slice a n c ∧ CallH Try.prog (8 : Nat) { toList := [Value.slice (some ⟨b_1, (0 : Nat), none⟩) (1 : Nat) (1 : Nat)] } H' fun v H' => ∃ a_12 n_25 c_11, v =
  Value.slice a_12 n_25 c_11 ∧ CallH Try.prog (10 : Nat) { toList := [Value.slice a n c, Value.slice a_12 n_25 c_11] } H' fun v H' => ∃ b, v = Value.bool b ∧ brB b (R (Value.bool (decide
  ((↑(ByteArray.size s) : Int) > (0 : Int)))) H') (R (Value.bool false) H')) (R (Value.bool false) H'_3))))) : CallH Try.prog 3 (List.toArray [Value.agg #[Value.int IntKind.i64 r_0,
  Value.slice r_1_a r_1_n r_1_c, Value.slice r_2_a r_2_n r_2_c, Value.slice r_3_a r_3_n r_3_c, Value.int IntKind.i64 r_4]]) H R := vc_call (annOf [([1, 1, 1, 1, 1], .cut [])]) followsAll
  Go.Proofs.Try.func3 rfl Go.Proofs.Try.ntmps3 rfl rfl (Eq.mpr (by kernel_rfl) h)

/- 4 strandline/strandlinelaw11.WalDecodes
  slots: [0=s, 1=s, 3=r, 4=e, 5=q, 6=f, 7=one, 8=two, 9=_, 10=none, 11=t, 12=g]  -/
abbrev fn_law11_WalDecodes : Nat := 4
theorem vc_law11_WalDecodes (s : ByteArray) (H : Heap) (R : Value → Heap → Prop) (h : brB (decide ((↑(ByteArray.size s) : Int) > (2048 : Int))) (R (Value.bool true) H) (CallH Try.prog (9 :
  Nat) { toList := [Value.string s] } H fun v H' => ∃ n a n_1 c a_1 n_2 c_1 a_2 n_3 c_2 n_4 n_5, v = Value.tuple { toList := [Value.agg { toList := [Value.int IntKind.i64 n, Value.slice a n_1
  c, Value.slice a_1 n_2 c_1, Value.slice a_2 n_3 c_2, Value.int IntKind.i64 n_4] }, Value.int IntKind.i64 n_5] } ∧ ∀ (b : Nat) (H'_1 : Heap), New H' b (Obj.cells { toList := [Value.int
  IntKind.i64 (0 : Int), Value.slice none (0 : Nat) (0 : Nat), Value.slice none (0 : Nat) (0 : Nat), Value.slice none (0 : Nat) (0 : Nat), Value.int IntKind.i64 (0 : Int)] } (26 : Nat)) H'_1 →
  ∃ H', St Try.prog (26 : Nat) H'_1 ⟨b, (0 : Nat), none⟩ (Value.agg { toList := [Value.int IntKind.i64 n, Value.slice a n_1 c, Value.slice a_1 n_2 c_1, Value.slice a_2 n_3 c_2, Value.int
  IntKind.i64 n_4] }) H' ∧ CallH Try.prog (11 : Nat) { toList := [Value.string s] } H' fun v H' => ∃ n a n_6 c a_4 n_7 c_3 a_5 n_8 c_4 n_9 n_10, v = Value.tuple { toList := [Value.agg { toList
  := [Value.int IntKind.i64 n, Value.slice a n_6 c, Value.slice a_4 n_7 c_3, Value.slice a_5 n_8 c_4, Value.int IntKind.i64 n_9] }, Value.int IntKind.i64 n_10] } ∧ ∀ (b_1 : Nat) (H'_2 : Heap),
  New H' b_1 (Obj.cells { toList := [Value.int IntKind.i64 (0 : Int), Value.slice none (0 : Nat) (0 : Nat), Value.slice none (0 : Nat) (0 : Nat), Value.slice none (0 : Nat) (0 : Nat),
  Value.int IntKind.i64 (0 : Int)] } (33 : Nat)) H'_2 → ∃ H', St Try.prog (33 : Nat) H'_2 ⟨b_1, (0 : Nat), none⟩ (Value.agg { toList := [Value.int IntKind.i64 n, Value.slice a n_6 c,
  Value.slice a_4 n_7 c_3, Value.slice a_5 n_8 c_4, Value.int IntKind.i64 n_9] }) H' ∧ ∃ n a n_11 c a_7 n_12 c_5 a_8 n_13 c_6 n_14, Ld Try.prog (26 : Nat) H' ⟨b, (0 : Nat), none⟩ (Value.agg {
  toList := [Value.int IntKind.i64 n, Value.slice a n_11 c, Value.slice a_7 n_12 c_5, Value.slice a_8 n_13 c_6, Value.int IntKind.i64 n_14] }) ∧ ∀ (b_2 : Nat) (H'_3 : Heap), New H' b_2
  (Obj.cells { toList := [Value.int IntKind.i64 n, Value.slice a n_11 c, Value.slice a_7 n_12 c_5, Value.slice a_8 n_13 c_6, Value.int IntKind.i64 n_14] } (26 : Nat)) H'_3 → ∃ n a n_15 c a_9
  n_16 c_7 a_10 n_17 c_8 n_18, Ld Try.prog (33 : Nat) H'_3 ⟨b_1, (0 : Nat), none⟩ (Value.agg { toList := [Value.int IntKind.i64 n, Value.slice a n_15 c, Value.slice a_9 n_16 c_7, Value.slice
  a_10 n_17 c_8, Value.int IntKind.i64 n_18] }) ∧ ∀ (b_3 : Nat) (H' : Heap), New H'_3 b_3 (Obj.cells { toList := [Value.int IntKind.i64 n, Value.slice a n_15 c, Value.slice a_9 n_16 c_7,
  Value.slice a_10 n_17 c_8, Value.int IntKind.i64 n_18] } (33 : Nat)) H' → CallH Try.prog (9 : Nat) { toList := [Value.string { data := #[] }] } H' fun v H' => ∃ n a n_19 c a_11 n_20 c_9 a_12
  n_21 c_10 n_22 n_23, v = Value.tuple { toList := [Value.agg { toList := [Value.int IntKind.i64 n, Value.slice a n_19 c, Value.slice a_11 n_20 c_9, Value.slice a_12 n_21 c_10, Value.int
  IntKind.i64 n_22] }, Value.int IntKind.i64 n_23] } ∧ ∀ (b_4 : Nat) (H'_4 : Heap), New H' b_4 (Obj.cells { toList := [Value.int IntKind.i64 (0 : Int), Value.slice none (0 : Nat) (0 : Nat),
  Value.slice none (0 : Nat) (0 : Nat), Value.slice none (0 : Nat) (0 : Nat), Value.int IntKind.i64 (0 : Int)] } (26 : Nat)) H'_4 → ∃ H', St Try.prog (26 : Nat) H'_4 ⟨b_4, (0 : Nat), none⟩
  (Value.agg { toList := [Value.int IntKind.i64 n, Value.slice a n_19 c, Value.slice a_11 n_20 c_9, Value.slice a_12 n_21 c_10, Value.int IntKind.i64 n_22] }) H' ∧ ∃ (M : List Value → Heap →
  Prop), brB (n_5 != n_10) (R (Value.bool false) H') (CallH Try.prog (8 : Nat) { toList := [Value.slice (some ⟨b_2, (0 : Nat), none⟩) (1 : Nat) (1 : Nat)] } H' fun v H' => ∃ a n c, v =
  Value.slice a n c ∧ CallH Try.prog (10 : Nat) { toList := [Value.slice a n c, Value.slice (some ⟨b_3, (0 : Nat), none⟩) (1 : Nat) (1 : Nat)] } H' fun v H' => ∃ b, v = Value.bool b ∧ brB (!b)
  (R (Value.bool false) H') (brB (n_23 != (11 : Int)) (R (Value.bool false) H') (M [] H'))) ∧ ∀ (J : F) (H' : Heap), M [] H' → ∃ n a n_24 c a_14 n_25 c_11 a_15 n_26 c_12 n_27, Ld Try.prog (26
  : Nat) H' ⟨b, (0 : Nat), none⟩ (Value.agg { toList := [Value.int IntKind.i64 n, Value.slice a n_24 c, Value.slice a_14 n_25 c_11, Value.slice a_15 n_26 c_12, Value.int IntKind.i64 n_27] }) ∧
  CallH Try.prog (6 : Nat) { toList := [Value.agg { toList := [Value.int IntKind.i64 n, Value.slice a n_24 c, Value.slice a_14 n_25 c_11, Value.slice a_15 n_26 c_12, Value.int IntKind.i64
  n_27] }] } H' fun v H' => ∃ s_1 n, v = Value.tuple { toList := [Value.string s_1, Value.int IntKind.i64 n] } ∧ brB (n_5 != (0 : Int)) (R (Value.bool true) H') (brB (n == (0 : Int)) (R
  (Value.bool (ByteArray.toList s_1 == ByteArray.toList s)) H') (R (Value.bool false) H')))) : CallH Try.prog 4 (List.toArray [Value.string s]) H R := vc_call (annOf [([1, 1, 1, 1, 1, 1, 1],
  .cut [])]) followsAll Go.Proofs.Try.func4 rfl Go.Proofs.Try.ntmps4 rfl rfl (Eq.mpr (by kernel_rfl) h)

/- 5 strandline/strandlinelaw11.heavy
  slots: [0=l, 1=l, 3=n, 4=i, 5=k]  -/
abbrev fn_law11_heavy : Nat := 5
theorem vc_law11_heavy (l_a : Option Addr) (l_n : Nat) (l_c : Nat) (H : Heap) (R : Value → Heap → Prop) (h : ∃ (I : List Value → Heap → Prop) (μ : List Value → Heap → Nat), I [Value.int
  IntKind.i64 (if (1048576 : Int) < (↑l_n : Int) then (1048576 : Int) else (↑l_n : Int)), Value.int IntKind.i64 (0 : Int)] H ∧ ∀ (J : F) (n n_1 : Int) (H' : Heap), I [Value.int IntKind.i64 n,
  Value.int IntKind.i64 n_1] H' → ∃ (M : List Value → Heap → Prop), brB (decide (n_1 < (↑l_n : Int))) (brB (decide (n ≤ (2048 : Int))) (M [] H') (R (Value.bool (decide (n > (2048 : Int))))
  H')) (R (Value.bool (decide (n > (2048 : Int)))) H') ∧ ∀ (J : F) (H'_1 : Heap), M [] H'_1 → exSome l_a fun ad => chk (decide ((0 : Int) ≤ n_1 ∧ n_1 < (↑l_n : Int))) (∃ a n_2 c, Ld Try.prog
  (23 : Nat) H'_1 (Addr.add (Addr.add ad (Int.toNat n_1 * (5 : Nat))) (2 : Nat)) (Value.slice a n_2 c) ∧ exSome l_a fun ad => chk (decide ((0 : Int) ≤ n_1 ∧ n_1 < (↑l_n : Int))) (∃ a n_3 c, Ld
  Try.prog (24 : Nat) H'_1 (Addr.add (Addr.add ad (Int.toNat n_1 * (5 : Nat))) (3 : Nat)) (Value.slice a n_3 c) ∧ exSome l_a fun ad => chk (decide ((0 : Int) ≤ n_1 ∧ n_1 < (↑l_n : Int))) (∃ a
  n_4 c, Ld Try.prog (22 : Nat) H'_1 (Addr.add (Addr.add ad (Int.toNat n_1 * (5 : Nat))) (1 : Nat)) (Value.slice a n_4 c) ∧ ∃ (I_1 : List Value → Heap → Prop) (μ_1 : List Value → Heap → Nat),
  I_1 [Value.int IntKind.i64 (IntKind.wrap IntKind.i64 (n + IntKind.wrap IntKind.i64 (IntKind.wrap IntKind.i64 ((if (1048576 : Int) < (↑n_2 : Int) then (1048576 : Int) else (↑n_2 : Int)) + if
  (1048576 : Int) < (↑n_3 : Int) then (1048576 : Int) else (↑n_3 : Int)) + if (1048576 : Int) < (↑n_4 : Int) then (1048576 : Int) else (↑n_4 : Int)))), Value.int IntKind.i64 (0 : Int)] H'_1 ∧
  ∀ (J : F) (n_5 n_6 : Int) (H'_2 : Heap), I_1 [Value.int IntKind.i64 n_5, Value.int IntKind.i64 n_6] H'_2 → ∃ (M : List Value → Heap → Prop), (exSome l_a fun ad => chk (decide ((0 : Int) ≤
  n_1 ∧ n_1 < (↑l_n : Int))) (∃ a n_7 c, Ld Try.prog (22 : Nat) H'_2 (Addr.add (Addr.add ad (Int.toNat n_1 * (5 : Nat))) (1 : Nat)) (Value.slice a n_7 c) ∧ brB (decide (n_6 < (↑n_7 : Int)))
  (brB (decide (n_5 ≤ (2048 : Int))) (M [] H'_2) (I [Value.int IntKind.i64 n_5, Value.int IntKind.i64 (IntKind.wrap IntKind.i64 (n_1 + (1 : Int)))] H'_2 ∧ μ [Value.int IntKind.i64 n_5,
  Value.int IntKind.i64 (IntKind.wrap IntKind.i64 (n_1 + (1 : Int)))] H'_2 < μ [Value.int IntKind.i64 n, Value.int IntKind.i64 n_1] H')) (I [Value.int IntKind.i64 n_5, Value.int IntKind.i64
  (IntKind.wrap IntKind.i64 (n_1 + (1 : Int)))] H'_2 ∧ μ [Value.int IntKind.i64 n_5, Value.int IntKind.i64 (IntKind.wrap IntKind.i64 (n_1 + (1 : Int)))] H'_2 < μ [Value.int IntKind.i64 n,
  Value.int IntKind.i64 n_1] H'))) ∧ ∀ (J : F) (H' : Heap), M [] H' → exSome l_a fun ad => chk (decide ((0 : Int) ≤ n_1 ∧ n_1 < (↑l_n : Int))) (∃ a n c, Ld Try.prog (22 : Nat) H' (Addr.add
  (Addr.add ad (Int.toNat n_1 * (5 : Nat))) (1 : Nat)) (Value.slice a n c) ∧ exSome a fun ad => chk (decide ((0 : Int) ≤ n_6 ∧ n_6 < (↑n : Int))) (∃ s, Ld Try.prog (9 : Nat) H' (Addr.add ad
  (Int.toNat n_6 * (2 : Nat))) (Value.string s) ∧ exSome l_a fun ad => chk (decide ((0 : Int) ≤ n_1 ∧ n_1 < (↑l_n : Int))) (∃ a n c, Ld Try.prog (22 : Nat) H' (Addr.add (Addr.add ad (Int.toNat
  n_1 * (5 : Nat))) (1 : Nat)) (Value.slice a n c) ∧ exSome a fun ad => chk (decide ((0 : Int) ≤ n_6 ∧ n_6 < (↑n : Int))) (∃ s_1, Ld Try.prog (9 : Nat) H' (Addr.add (Addr.add ad (Int.toNat n_6
  * (2 : Nat))) (1 : Nat)) (Value.string s_1) ∧ I_1 [Value.int IntKind.i64 (IntKind.wrap IntKind.i64 (n_5 + IntKind.wrap IntKind.i64 ((if (1048576 : Int) < (↑(ByteArray.size s) : Int) then
  (1048576 : Int) else (↑(ByteArray.size s) : Int)) + if (1048576 : Int) < (↑(ByteArray.size s_1) : Int) then (1048576 : Int) else (↑(ByteArray.size s_1) : Int)))), Value.int IntKind.i64
  (IntKind.wrap IntKind.i64 (n_6 + (1 : Int)))] H' ∧ μ_1 [Value.int IntKind.i64 (IntKind.wrap IntKind.i64 (n_5 + IntKind.wrap IntKind.i64 ((if (1048576 : Int) < (↑(ByteArray.size s) : Int)
  then (1048576 : Int) else (↑(ByteArray.size s) : Int)) + if (1048576 : Int) < (↑(ByteArray.size s_1) : Int) then (1048576 : Int) else (↑(ByteArray.size s_1) : Int)))), Value.int IntKind.i64
  (IntKind.wrap IntKind.i64 (n_6 + (1 : Int)))] H' < μ_1 [Value.int IntKind.i64 n_5, Value.int IntKind.i64 n_6] H'_2)))))))) : CallH Try.prog 5 (List.toArray [Value.slice l_a l_n l_c]) H R :=
  vc_call (annOf [([0, 1, 0, 1, 1], .cut [(3, .one (.int .i64)), (4, .one (.int .i64))]), ([0, 0, 1, 0, 1, 1], .cut []), ([0, 1, 1, 0, 0, 1, 0, 0, 1, 0, 1, 1], .cut [(3, .one (.int .i64)), (5,
  .one (.int .i64))]), ([0, 0, 1, 1, 0, 0, 1, 0, 0, 1, 0, 1, 1], .cut [])]) followsAll Go.Proofs.Try.func5 rfl Go.Proofs.Try.ntmps5 rfl rfl (Eq.mpr (by kernel_rfl) h)

/- 6 strandline/wal.Encode
  slots: [0=r, 1=r, 2=s, 3=e, 4=t]  -/
abbrev fn_wal_Encode : Nat := 6
theorem vc_wal_Encode (r_0 : Int) (r_1_a : Option Addr) (r_1_n : Nat) (r_1_c : Nat) (r_2_a : Option Addr) (r_2_n : Nat) (r_2_c : Nat) (r_3_a : Option Addr) (r_3_n : Nat) (r_3_c : Nat) (r_4 :
  Int) (H : Heap) (R : Value → Heap → Prop) (h : ∀ (b : Nat) (H' : Heap), New H b (Obj.cells { toList := [Value.int IntKind.i64 r_0, Value.slice r_1_a r_1_n r_1_c, Value.slice r_2_a r_2_n
  r_2_c, Value.slice r_3_a r_3_n r_3_c, Value.int IntKind.i64 r_4] } (26 : Nat)) H' → ∀ (b_1 : Nat) (H'_1 : Heap), New H' b_1 (Obj.cells { toList := [Value.string { data := #[] }] } (9 : Nat))
  H'_1 → ∀ (b_2 : Nat) (H' : Heap), New H'_1 b_2 (Obj.cells { toList := [Value.int IntKind.i64 (0 : Int)] } (29 : Nat)) H' → ∃ n a n_1 c a_1 n_2 c_1 a_2 n_3 c_2 n_4, Ld Try.prog (26 : Nat) H'
  ⟨b, (0 : Nat), none⟩ (Value.agg { toList := [Value.int IntKind.i64 n, Value.slice a n_1 c, Value.slice a_1 n_2 c_1, Value.slice a_2 n_3 c_2, Value.int IntKind.i64 n_4] }) ∧ CallH Try.prog
  (13 : Nat) { toList := [Value.agg { toList := [Value.int IntKind.i64 n, Value.slice a n_1 c, Value.slice a_1 n_2 c_1, Value.slice a_2 n_3 c_2, Value.int IntKind.i64 n_4] }] } H' fun v H' =>
  ∃ b_3, v = Value.bool b_3 ∧ brB (!b_3) (∃ H'_2, St Try.prog (9 : Nat) H' ⟨b_1, (0 : Nat), none⟩ (Value.string { data := #[] }) H'_2 ∧ ∃ H', St Try.prog (29 : Nat) H'_2 ⟨b_2, (0 : Nat), none⟩
  (Value.int IntKind.i64 (1 : Int)) H' ∧ CallDH Try.prog (12 : Nat) { toList := [Value.pointer (some ⟨b_2, (0 : Nat), none⟩), Value.pointer (some ⟨b_1, (0 : Nat), none⟩)] } H' fun x H'' => ∃
  s, Ld Try.prog (9 : Nat) H'' ⟨b_1, (0 : Nat), none⟩ (Value.string s) ∧ ∃ n, Ld Try.prog (29 : Nat) H'' ⟨b_2, (0 : Nat), none⟩ (Value.int IntKind.i64 n) ∧ R (Value.tuple { toList :=
  [Value.string s, Value.int IntKind.i64 n] }) H'') (∃ n, Ld Try.prog (3 : Nat) H' ⟨b, (0 : Nat), none⟩ (Value.int IntKind.i64 n) ∧ CallH Try.prog (14 : Nat) ⟨[]⟩ H' fun v H' => ∃ v_1 v_2 v_3
  v_4 v_5 v_6 v_7 v_8, v = Value.agg { toList := [v_1, v_2, v_3, v_4, v_5, v_6, v_7, v_8] } ∧ Ld Try.prog (3 : Nat) H' ⟨b, (0 : Nat), none⟩ (Value.int IntKind.i64 n) ∧ chk (decide ((0 : Int) ≤
  n ∧ n < (↑(4 : Nat) : Int))) (∃ v v_9, Pt Try.prog (48 : Nat) [v_1, v_2, v_3, v_4, v_5, v_6, v_7, v_8] (Int.toNat n * (2 : Nat)) (Value.agg { toList := [v, v_9] }) ∧ CallV Try.prog v
  [Value.pointer (some ⟨b, (0 : Nat), none⟩)] H' fun v H' => ∃ s n, v = Value.tuple { toList := [Value.string s, Value.int IntKind.i64 n] } ∧ ∃ H'_2, St Try.prog (29 : Nat) H' ⟨b_2, (0 : Nat),
  none⟩ (Value.int IntKind.i64 n) H'_2 ∧ ∃ n, Ld Try.prog (3 : Nat) H'_2 ⟨b, (0 : Nat), none⟩ (Value.int IntKind.i64 n) ∧ ∃ n_5, Ld Try.prog (29 : Nat) H'_2 ⟨b_2, (0 : Nat), none⟩ (Value.int
  IntKind.i64 n_5) ∧ ∀ (b : Nat) (H' : Heap), New H'_2 b (Obj.cells { toList := [Value.int IntKind.i64 n] } (3 : Nat)) H' → Ld Try.prog (29 : Nat) H' ⟨b_2, (0 : Nat), none⟩ (Value.int
  IntKind.i64 n_5) ∧ CallH Try.prog (15 : Nat) { toList := [Value.slice (some ⟨b, (0 : Nat), none⟩) (1 : Nat) (1 : Nat)] } H' fun v H' => ∃ s_1, v = Value.string s_1 ∧ Ld Try.prog (29 : Nat)
  H' ⟨b_2, (0 : Nat), none⟩ (Value.int IntKind.i64 n_5) ∧ chk (decide (ByteArray.size s_1 + ByteArray.size s ≤ (9223372036854775807 : Nat))) (∃ H'_3, St Try.prog (9 : Nat) H' ⟨b_1, (0 : Nat),
  none⟩ (Value.string (s_1 ++ s)) H'_3 ∧ Ld Try.prog (29 : Nat) H'_3 ⟨b_2, (0 : Nat), none⟩ (Value.int IntKind.i64 n_5) ∧ ∃ H', St Try.prog (29 : Nat) H'_3 ⟨b_2, (0 : Nat), none⟩ (Value.int
  IntKind.i64 n_5) H' ∧ CallDH Try.prog (12 : Nat) { toList := [Value.pointer (some ⟨b_2, (0 : Nat), none⟩), Value.pointer (some ⟨b_1, (0 : Nat), none⟩)] } H' fun x H'' => ∃ s, Ld Try.prog (9
  : Nat) H'' ⟨b_1, (0 : Nat), none⟩ (Value.string s) ∧ ∃ n, Ld Try.prog (29 : Nat) H'' ⟨b_2, (0 : Nat), none⟩ (Value.int IntKind.i64 n) ∧ R (Value.tuple { toList := [Value.string s, Value.int
  IntKind.i64 n] }) H'')))) : CallH Try.prog 6 (List.toArray [Value.agg #[Value.int IntKind.i64 r_0, Value.slice r_1_a r_1_n r_1_c, Value.slice r_2_a r_2_n r_2_c, Value.slice r_3_a r_3_n
  r_3_c, Value.int IntKind.i64 r_4]]) H R := vc_callDef (annOf [([0, 1, 1, 1], .reg [0, 0, 2, 7, 15, 31, 63, 127, 127, 255, 1023] (.quiet 1 (.quiet 2 (.pick (.alt 0 (.quiet 3 (.quiet 4 (.pick
  (.alt 5 (.quiet 6 (.quiet 7 (.quiet 8 (.quiet 9 (.pick (.alt 10 (.done) .stop)))))) .stop)))) .stop))))), ([0, 1, 1, 1, 1], .reg [0, 1, 3, 7, 0, 31, 0, 63, 255] (.quiet 0 (.quiet 1 (.quiet 4
  (.quiet 6 (.pick (.alt 2 (.pick (.alt 3 (.quiet 5 (.pick (.alt 7 (.pick (.alt 8 (.done) .stop)) .stop))) .stop)) .stop)))))))]) followsAll Go.Proofs.Try.func6 rfl Go.Proofs.Try.ntmps6 rfl
  rfl (Eq.mpr (by kernel_rfl) h)

/- 7 strandline/strandlineref11.Encode
  slots: [0=r, 1=r, 4=s, 5=t, 6=e, 7=i, 8=i]  -/
abbrev fn_ref11_Encode : Nat := 7
theorem vc_ref11_Encode (r_0 : Int) (r_1_a : Option Addr) (r_1_n : Nat) (r_1_c : Nat) (r_2_a : Option Addr) (r_2_n : Nat) (r_2_c : Nat) (r_3_a : Option Addr) (r_3_n : Nat) (r_3_c : Nat) (r_4
  : Int) (H : Heap) (R : Value → Heap → Prop) (h : ∀ (b : Nat) (H' : Heap), New H b (Obj.cells { toList := [Value.int IntKind.i64 r_0, Value.slice r_1_a r_1_n r_1_c, Value.slice r_2_a r_2_n
  r_2_c, Value.slice r_3_a r_3_n r_3_c, Value.int IntKind.i64 r_4] } (33 : Nat)) H' → ∃ n a n_1 c a_1 n_2 c_1 a_2 n_3 c_2 n_4, Ld Try.prog (33 : Nat) H' ⟨b, (0 : Nat), none⟩ (Value.agg {
  toList := [Value.int IntKind.i64 n, Value.slice a n_1 c, Value.slice a_1 n_2 c_1, Value.slice a_2 n_3 c_2, Value.int IntKind.i64 n_4] }) ∧ CallH Try.prog (16 : Nat) { toList := [Value.agg {
  toList := [Value.int IntKind.i64 n, Value.slice a n_1 c, Value.slice a_1 n_2 c_1, Value.slice a_2 n_3 c_2, Value.int IntKind.i64 n_4] }] } H' fun v H' => ∃ b_1, v = Value.bool b_1 ∧ brB
  (!b_1) (R (Value.tuple { toList := [Value.string { data := #[] }, Value.int IntKind.i64 (1 : Int)] }) H') (∃ n, Ld Try.prog (3 : Nat) H' ⟨b, (0 : Nat), none⟩ (Value.int IntKind.i64 n) ∧
  CallH Try.prog (17 : Nat) { toList := [Value.int IntKind.i64 n] } H' fun v H' => ∃ s, v = Value.string s ∧ ∃ n, Ld Try.prog (3 : Nat) H' ⟨b, (0 : Nat), none⟩ (Value.int IntKind.i64 n) ∧ brB
  (n == (0 : Int)) (∃ a n c, Ld Try.prog (22 : Nat) H' ⟨b, (1 : Nat), none⟩ (Value.slice a n c) ∧ CallH Try.prog (18 : Nat) { toList := [Value.slice a n c] } H' fun v H' => ∃ s_1 n, v =
  Value.tuple { toList := [Value.string s_1, Value.int IntKind.i64 n] } ∧ brB (n != (0 : Int)) (R (Value.tuple { toList := [Value.string { data := #[] }, Value.int IntKind.i64 n] }) H') (CallH
  Try.prog (19 : Nat) { toList := [Value.string s_1] } H' fun v H' => ∃ s_2, v = Value.string s_2 ∧ chk (decide (ByteArray.size s + ByteArray.size s_2 ≤ (9223372036854775807 : Nat))) (R
  (Value.tuple { toList := [Value.string (s ++ s_2), Value.int IntKind.i64 (0 : Int)] }) H'))) (brB (n == (1 : Int)) (∃ a n c, Ld Try.prog (23 : Nat) H' ⟨b, (2 : Nat), none⟩ (Value.slice a n
  c) ∧ CallH Try.prog (17 : Nat) { toList := [Value.int IntKind.i64 (↑n : Int)] } H' fun v H' => ∃ s_1, v = Value.string s_1 ∧ chk (decide (ByteArray.size s + ByteArray.size s_1 ≤
  (9223372036854775807 : Nat))) (∃ (I : List Value → Heap → Prop) (μ : List Value → Heap → Nat), I [Value.string (s ++ s_1), Value.int IntKind.i64 (0 : Int)] H' ∧ ∀ (J : F) (s : ByteArray) (n
  : Int) (H' : Heap), I [Value.string s, Value.int IntKind.i64 n] H' → ∃ a n_5 c, Ld Try.prog (23 : Nat) H' ⟨b, (2 : Nat), none⟩ (Value.slice a n_5 c) ∧ brB (decide (n < (↑n_5 : Int))) (∃ a
  n_6 c, Ld Try.prog (23 : Nat) H' ⟨b, (2 : Nat), none⟩ (Value.slice a n_6 c) ∧ exSome a fun ad => chk (decide ((0 : Int) ≤ n ∧ n < (↑n_6 : Int))) (∃ n_7, Ld Try.prog (3 : Nat) H' (Addr.add ad
  (Int.toNat n * (3 : Nat))) (Value.int IntKind.i64 n_7) ∧ ∃ a n_8 c, Ld Try.prog (23 : Nat) H' ⟨b, (2 : Nat), none⟩ (Value.slice a n_8 c) ∧ exSome a fun ad => chk (decide ((0 : Int) ≤ n ∧ n <
  (↑n_8 : Int))) (∃ n_9, Ld Try.prog (3 : Nat) H' (Addr.add (Addr.add ad (Int.toNat n * (3 : Nat))) (1 : Nat)) (Value.int IntKind.i64 n_9) ∧ ∃ a_3 n_10 c_3, Ld Try.prog (23 : Nat) H' ⟨b, (2 :
  Nat), none⟩ (Value.slice a_3 n_10 c_3) ∧ exSome a_3 fun ad_1 => chk (decide ((0 : Int) ≤ n ∧ n < (↑n_10 : Int))) (∃ n_11, Ld Try.prog (3 : Nat) H' (Addr.add (Addr.add ad_1 (Int.toNat n * (3
  : Nat))) (2 : Nat)) (Value.int IntKind.i64 n_11) ∧ CallH Try.prog (17 : Nat) { toList := [Value.int IntKind.i64 n_7] } H' fun v H'_1 => ∃ s_2, v = Value.string s_2 ∧ Ld Try.prog (3 : Nat)
  H'_1 (Addr.add (Addr.add ad_1 (Int.toNat n * (3 : Nat))) (2 : Nat)) (Value.int IntKind.i64 n_11) ∧ Ld Try.prog (23 : Nat) H'_1 ⟨b, (2 : Nat), none⟩ (Value.slice a_3 n_10 c_3) ∧ Ld Try.prog
  (3 : Nat) H'_1 (Addr.add (Addr.add ad (Int.toNat n * (3 : Nat))) (1 : Nat)) (Value.int IntKind.i64 n_9) ∧ Ld Try.prog (23 : Nat) H'_1 ⟨b, (2 : Nat), none⟩ (Value.slice a n_8 c) ∧ chk (decide
  (ByteArray.size s + ByteArray.size s_2 ≤ (9223372036854775807 : Nat))) (CallH Try.prog (17 : Nat) { toList := [Value.int IntKind.i64 n_9] } H'_1 fun v H'_2 => ∃ s_3, v = Value.string s_3 ∧
  Ld Try.prog (3 : Nat) H'_2 (Addr.add (Addr.add ad_1 (Int.toNat n * (3 : Nat))) (2 : Nat)) (Value.int IntKind.i64 n_11) ∧ Ld Try.prog (23 : Nat) H'_2 ⟨b, (2 : Nat), none⟩ (Value.slice a_3
  n_10 c_3) ∧ chk (decide (ByteArray.size (s ++ s_2) + ByteArray.size s_3 ≤ (9223372036854775807 : Nat))) (CallH Try.prog (20 : Nat) { toList := [Value.int IntKind.i64 n_11] } H'_2 fun v H'_3
  => ∃ s_4, v = Value.string s_4 ∧ chk (decide (ByteArray.size (s ++ s_2 ++ s_3) + ByteArray.size s_4 ≤ (9223372036854775807 : Nat))) (I [Value.string (s ++ s_2 ++ s_3 ++ s_4), Value.int
  IntKind.i64 (IntKind.wrap IntKind.i64 (n + (1 : Int)))] H'_3 ∧ μ [Value.string (s ++ s_2 ++ s_3 ++ s_4), Value.int IntKind.i64 (IntKind.wrap IntKind.i64 (n + (1 : Int)))] H'_3 < μ
  [Value.string s, Value.int IntKind.i64 n] H'))))))) (R (Value.tuple { toList := [Value.string s, Value.int IntKind.i64 (0 : Int)] }) H'))) (brB (n == (2 : Int)) (∃ a n c, Ld Try.prog (24 :
  Nat) H' ⟨b, (3 : Nat), none⟩ (Value.slice a n c) ∧ CallH Try.prog (17 : Nat) { toList := [Value.int IntKind.i64 (↑n : Int)] } H' fun v H' => ∃ s_1, v = Value.string s_1 ∧ chk (decide
  (ByteArray.size s + ByteArray.size s_1 ≤ (9223372036854775807 : Nat))) (∃ (I : List Value → Heap → Prop) (μ : List Value → Heap → Nat), I [Value.string (s ++ s_1), Value.int IntKind.i64 (0 :
  Int)] H' ∧ ∀ (J : F) (s : ByteArray) (n : Int) (H' : Heap), I [Value.string s, Value.int IntKind.i64 n] H' → ∃ a n_5 c, Ld Try.prog (24 : Nat) H' ⟨b, (3 : Nat), none⟩ (Value.slice a n_5 c) ∧
  brB (decide (n < (↑n_5 : Int))) (∃ a n_6 c, Ld Try.prog (24 : Nat) H' ⟨b, (3 : Nat), none⟩ (Value.slice a n_6 c) ∧ exSome a fun ad => chk (decide ((0 : Int) ≤ n ∧ n < (↑n_6 : Int))) (∃ n_7,
  Ld Try.prog (3 : Nat) H' (Addr.add ad (Int.toNat n * (3 : Nat))) (Value.int IntKind.i64 n_7) ∧ ∃ a n_8 c, Ld Try.prog (24 : Nat) H' ⟨b, (3 : Nat), none⟩ (Value.slice a n_8 c) ∧ exSome a fun
  ad => chk (decide ((0 : Int) ≤ n ∧ n < (↑n_8 : Int))) (∃ n_9, Ld Try.prog (3 : Nat) H' (Addr.add (Addr.add ad (Int.toNat n * (3 : Nat))) (1 : Nat)) (Value.int IntKind.i64 n_9) ∧ ∃ a_3 n_10
  c_3, Ld Try.prog (24 : Nat) H' ⟨b, (3 : Nat), none⟩ (Value.slice a_3 n_10 c_3) ∧ exSome a_3 fun ad_1 => chk (decide ((0 : Int) ≤ n ∧ n < (↑n_10 : Int))) (∃ n_11, Ld Try.prog (3 : Nat) H'
  (Addr.add (Addr.add (Addr.add ad_1 (Int.toNat n * (3 : Nat))) (1 : Nat)) (1 : Nat)) (Value.int IntKind.i64 n_11) ∧ CallH Try.prog (17 : Nat) { toList := [Value.int IntKind.i64 n_7] } H' fun
  v H'_1 => ∃ s_2, v = Value.string s_2 ∧ Ld Try.prog (3 : Nat) H'_1 (Addr.add (Addr.add (Addr.add ad_1 (Int.toNat n * (3 : Nat))) (1 : Nat)) (1 : Nat)) (Value.int IntKind.i64 n_11) ∧ Ld
  Try.prog (24 : Nat) H'_1 ⟨b, (3 : Nat), none⟩ (Value.slice a_3 n_10 c_3) ∧ Ld Try.prog (3 : Nat) H'_1 (Addr.add (Addr.add ad (Int.toNat n * (3 : Nat))) (1 : Nat)) (Value.int IntKind.i64 n_9)
  ∧ Ld Try.prog (24 : Nat) H'_1 ⟨b, (3 : Nat), none⟩ (Value.slice a n_8 c) ∧ chk (decide (ByteArray.size s + ByteArray.size s_2 ≤ (9223372036854775807 : Nat))) (CallH Try.prog (17 : Nat) {
  toList := [Value.int IntKind.i64 n_9] } H'_1 fun v H'_2 => ∃ s_3, v = Value.string s_3 ∧ Ld Try.prog (3 : Nat) H'_2 (Addr.add (Addr.add (Addr.add ad_1 (Int.toNat n * (3 : Nat))) (1 : Nat))
  (1 : Nat)) (Value.int IntKind.i64 n_11) ∧ Ld Try.prog (24 : Nat) H'_2 ⟨b, (3 : Nat), none⟩ (Value.slice a_3 n_10 c_3) ∧ chk (decide (ByteArray.size (s ++ s_2) + ByteArray.size s_3 ≤
  (9223372036854775807 : Nat))) (CallH Try.prog (17 : Nat) { toList := [Value.int IntKind.i64 n_11] } H'_2 fun v H'_3 => ∃ s_4, v = Value.string s_4 ∧ chk (decide (ByteArray.size (s ++ s_2 ++
  s_3) + ByteArray.size s_4 ≤ (9223372036854775807 : Nat))) (I [Value.string (s ++ s_2 ++ s_3 ++ s_4), Value.int IntKind.i64 (IntKind.wrap IntKind.i64 (n + (1 : Int)))] H'_3 ∧ μ [Value.string
  (s ++ s_2 ++ s_3 ++ s_4), Value.int IntKind.i64 (IntKind.wrap IntKind.i64 (n + (1 : Int)))] H'_3 < μ [Value.string s, Value.int IntKind.i64 n] H'))))))) (R (Value.tuple { toList :=
  [Value.string s, Value.int IntKind.i64 (0 : Int)] }) H'))) (brB (n == (3 : Int)) (∃ n, Ld Try.prog (3 : Nat) H' ⟨b, (4 : Nat), none⟩ (Value.int IntKind.i64 n) ∧ CallH Try.prog (17 : Nat) {
  toList := [Value.int IntKind.i64 n] } H' fun v H' => ∃ s_1, v = Value.string s_1 ∧ chk (decide (ByteArray.size s + ByteArray.size s_1 ≤ (9223372036854775807 : Nat))) (R (Value.tuple { toList
  := [Value.string (s ++ s_1), Value.int IntKind.i64 (0 : Int)] }) H')) (R (Value.tuple { toList := [Value.string s, Value.int IntKind.i64 (0 : Int)] }) H')))))) : CallH Try.prog 7
  (List.toArray [Value.agg #[Value.int IntKind.i64 r_0, Value.slice r_1_a r_1_n r_1_c, Value.slice r_2_a r_2_n r_2_c, Value.slice r_3_a r_3_n r_3_c, Value.int IntKind.i64 r_4]]) H R := vc_call
  (annOf [([0, 1, 1, 0, 1, 1, 1, 0, 1, 0, 1, 1, 1], .cut [(4, .one .str), (7, .one (.int .i64))]), ([0, 0, 1, 0, 0, 1, 1, 0, 1, 1, 1, 0, 1, 0, 1, 1, 1], .reg [0, 0, 2, 0, 14, 30, 62, 126, 255,
  0, 512, 0, 3584, 7680, 15872, 32510, 65535, 0, 131072, 0, 917504, 1966080, 4063232, 8322814, 16777215, 33554431] (.quiet 0 (.quiet 1 (.quiet 2 (.quiet 3 (.quiet 4 (.quiet 5 (.quiet 6 (.quiet
  9 (.quiet 10 (.quiet 11 (.quiet 12 (.quiet 13 (.quiet 14 (.quiet 17 (.quiet 18 (.quiet 19 (.quiet 20 (.quiet 21 (.quiet 22 (.pick (.alt 7 (.quiet 8 (.pick (.alt 15 (.quiet 16 (.pick (.alt 23
  (.quiet 24 (.quiet 25 .done)) .stop))) .stop))) .stop)))))))))))))))))))))), ([0, 1, 1, 0, 1, 1, 1, 1, 1, 0, 1, 0, 1, 1, 1], .cut [(4, .one .str), (8, .one (.int .i64))]), ([0, 0, 1, 0, 0,
  1, 1, 0, 1, 1, 1, 1, 1, 0, 1, 0, 1, 1, 1], .reg [0, 0, 2, 0, 14, 30, 62, 126, 255, 0, 512, 0, 3584, 7680, 15872, 32256, 65278, 131071, 0, 262144, 0, 1835008, 3932160, 8126464, 16515072,
  33423102, 67108863, 134217727] (.quiet 0 (.quiet 1 (.quiet 2 (.quiet 3 (.quiet 4 (.quiet 5 (.quiet 6 (.quiet 9 (.quiet 10 (.quiet 11 (.quiet 12 (.quiet 13 (.quiet 14 (.quiet 15 (.quiet 18
  (.quiet 19 (.quiet 20 (.quiet 21 (.quiet 22 (.quiet 23 (.quiet 24 (.pick (.alt 7 (.quiet 8 (.pick (.alt 16 (.quiet 17 (.pick (.alt 25 (.quiet 26 (.quiet 27 .done)) .stop))) .stop)))
  .stop))))))))))))))))))))))))]) followsAll Go.Proofs.Try.func7 rfl Go.Proofs.Try.ntmps7 rfl rfl (Eq.mpr (by kernel_rfl) h)

/- 8 strandline/strandlinelaw11.theirs
  slots: [0=l, 1=l, 3=out, 4=i, 5=r]  -/
abbrev fn_law11_theirs : Nat := 8
theorem vc_law11_theirs (l_a : Option Addr) (l_n : Nat) (l_c : Nat) (H : Heap) (R : Value → Heap → Prop) (h : ∀ (b : Nat) (H' : Heap), New H b (Obj.cells ⟨[]⟩ (33 : Nat)) H' → ∃ (I : List
  Value → Heap → Prop) (μ : List Value → Heap → Nat), I [Value.slice (some ⟨b, (0 : Nat), none⟩) (0 : Nat) (0 : Nat), Value.int IntKind.i64 (0 : Int)] H' ∧ ∀ (J : F) (a : Option Addr) (n c :
  Nat) (n_1 : Int) (H' : Heap), I [Value.slice a n c, Value.int IntKind.i64 n_1] H' → brB (decide (n_1 < (↑l_n : Int))) (exSome l_a fun ad => chk (decide ((0 : Int) ≤ n_1 ∧ n_1 < (↑l_n :
  Int))) (∃ n_2 a_2 n_3 c_1 a_3 n_4 c_2 a_4 n_5 c_3 n_6, Ld Try.prog (26 : Nat) H' (Addr.add ad (Int.toNat n_1 * (5 : Nat))) (Value.agg { toList := [Value.int IntKind.i64 n_2, Value.slice a_2
  n_3 c_1, Value.slice a_3 n_4 c_2, Value.slice a_4 n_5 c_3, Value.int IntKind.i64 n_6] }) ∧ ∀ (b : Nat) (H'_1 : Heap), New H' b (Obj.cells { toList := [Value.int IntKind.i64 (0 : Int),
  Value.slice none (0 : Nat) (0 : Nat), Value.slice none (0 : Nat) (0 : Nat), Value.slice none (0 : Nat) (0 : Nat), Value.int IntKind.i64 (0 : Int)] } (26 : Nat)) H'_1 → ∃ H'_2, St Try.prog
  (26 : Nat) H'_1 ⟨b, (0 : Nat), none⟩ (Value.agg { toList := [Value.int IntKind.i64 n_2, Value.slice a_2 n_3 c_1, Value.slice a_3 n_4 c_2, Value.slice a_4 n_5 c_3, Value.int IntKind.i64 n_6]
  }) H'_2 ∧ ∃ n_7, Ld Try.prog (3 : Nat) H'_2 ⟨b, (0 : Nat), none⟩ (Value.int IntKind.i64 n_7) ∧ ∃ a_6 n_8 c_4, Ld Try.prog (22 : Nat) H'_2 ⟨b, (1 : Nat), none⟩ (Value.slice a_6 n_8 c_4) ∧ ∃
  a_7 n_9 c_5, Ld Try.prog (23 : Nat) H'_2 ⟨b, (2 : Nat), none⟩ (Value.slice a_7 n_9 c_5) ∧ ∃ a_8 n_10 c_6, Ld Try.prog (24 : Nat) H'_2 ⟨b, (3 : Nat), none⟩ (Value.slice a_8 n_10 c_6) ∧ ∃
  n_11, Ld Try.prog (3 : Nat) H'_2 ⟨b, (4 : Nat), none⟩ (Value.int IntKind.i64 n_11) ∧ ∀ (b : Nat) (H'_3 : Heap), New H'_2 b (Obj.cells { toList := [Value.int IntKind.i64 n_7, Value.slice a_6
  n_8 c_4, Value.slice a_7 n_9 c_5, Value.slice a_8 n_10 c_6, Value.int IntKind.i64 n_11] } (33 : Nat)) H'_3 → SemWp Try.prog (Builtin.append_ { toList := [(34 : Nat), (34 : Nat)] } (34 : Nat)
  { toList := [Value.slice a n c, Value.slice (some ⟨b, (0 : Nat), none⟩) (1 : Nat) (1 : Nat)] }) H'_3 fun v H'_4 => ∃ a_10 n_12 c_7, v = Value.slice a_10 n_12 c_7 ∧ I [Value.slice a_10 n_12
  c_7, Value.int IntKind.i64 (IntKind.wrap IntKind.i64 (n_1 + (1 : Int)))] H'_4 ∧ μ [Value.slice a_10 n_12 c_7, Value.int IntKind.i64 (IntKind.wrap IntKind.i64 (n_1 + (1 : Int)))] H'_4 < μ
  [Value.slice a n c, Value.int IntKind.i64 n_1] H')) (R (Value.slice a n c) H')) : CallH Try.prog 8 (List.toArray [Value.slice l_a l_n l_c]) H R := vc_call (annOf [([0, 1, 0, 1, 1], .cut [(3,
  .one .slice), (4, .one (.int .i64))])]) followsAll Go.Proofs.Try.func8 rfl Go.Proofs.Try.ntmps8 rfl rfl (Eq.mpr (by kernel_rfl) h)

/- 9 strandline/wal.Decode
  slots: [0=s, 1=s, 4=x, 5=r]  -/
abbrev fn_wal_Decode : Nat := 9
theorem vc_wal_Decode (s : ByteArray) (H : Heap) (R : Value → Heap → Prop) (h : ∀ (b : Nat) (H' : Heap), New H b (Obj.cells { toList := [Value.int IntKind.i64 (0 : Int), Value.slice none (0
  : Nat) (0 : Nat), Value.slice none (0 : Nat) (0 : Nat), Value.slice none (0 : Nat) (0 : Nat), Value.int IntKind.i64 (0 : Int)] } (26 : Nat)) H' → ∀ (b_1 : Nat) (H'_1 : Heap), New H' b_1
  (Obj.cells { toList := [Value.string s, Value.int IntKind.i64 (0 : Int), Value.bool true] } (65 : Nat)) H'_1 → CallH Try.prog (21 : Nat) { toList := [Value.pointer (some ⟨b_1, (0 : Nat),
  none⟩), Value.int IntKind.i64 (3 : Int)] } H'_1 fun v H' => ∃ n, v = Value.int IntKind.i64 n ∧ ∀ (b_2 : Nat) (H'_2 : Heap), New H' b_2 (Obj.cells { toList := [Value.int IntKind.i64 (0 :
  Int), Value.slice none (0 : Nat) (0 : Nat), Value.slice none (0 : Nat) (0 : Nat), Value.slice none (0 : Nat) (0 : Nat), Value.int IntKind.i64 (0 : Int)] } (26 : Nat)) H'_2 → ∃ H', St
  Try.prog (26 : Nat) H'_2 ⟨b_2, (0 : Nat), none⟩ (Value.agg { toList := [Value.int IntKind.i64 n, Value.slice none (0 : Nat) (0 : Nat), Value.slice none (0 : Nat) (0 : Nat), Value.slice none
  (0 : Nat) (0 : Nat), Value.int IntKind.i64 (0 : Int)] }) H' ∧ ∃ b_3, Ld Try.prog (4 : Nat) H' ⟨b_1, (2 : Nat), none⟩ (Value.bool b_3) ∧ brB b_3 (∃ n, Ld Try.prog (3 : Nat) H' ⟨b_2, (0 :
  Nat), none⟩ (Value.int IntKind.i64 n) ∧ CallH Try.prog (14 : Nat) ⟨[]⟩ H' fun v H' => ∃ v_1 v_2 v_3 v_4 v_5 v_6 v_7 v_8, v = Value.agg { toList := [v_1, v_2, v_3, v_4, v_5, v_6, v_7, v_8] }
  ∧ Ld Try.prog (3 : Nat) H' ⟨b_2, (0 : Nat), none⟩ (Value.int IntKind.i64 n) ∧ chk (decide ((0 : Int) ≤ n ∧ n < (↑(4 : Nat) : Int))) (∃ v v_9, Pt Try.prog (48 : Nat) [v_1, v_2, v_3, v_4, v_5,
  v_6, v_7, v_8] (Int.toNat n * (2 : Nat)) (Value.agg { toList := [v, v_9] }) ∧ CallV Try.prog v_9 [Value.pointer (some ⟨b_2, (0 : Nat), none⟩), Value.pointer (some ⟨b_1, (0 : Nat), none⟩)] H'
  fun v H' => v = Value.tuple ⟨[]⟩ ∧ ∃ (M : List Value → Heap → Prop), (∃ (M_1 : List Value → Heap → Prop), (∃ b, Ld Try.prog (4 : Nat) H' ⟨b_1, (2 : Nat), none⟩ (Value.bool b) ∧ brB (!b) (M_1
  [Value.bool true] H') (∃ n, Ld Try.prog (3 : Nat) H' ⟨b_1, (1 : Nat), none⟩ (Value.int IntKind.i64 n) ∧ brB (n != (↑(ByteArray.size s) : Int)) (M_1 [Value.bool true] H') (∃ n a n_1 c a_1 n_2
  c_1 a_2 n_3 c_2 n_4, Ld Try.prog (26 : Nat) H' ⟨b_2, (0 : Nat), none⟩ (Value.agg { toList := [Value.int IntKind.i64 n, Value.slice a n_1 c, Value.slice a_1 n_2 c_1, Value.slice a_2 n_3 c_2,
  Value.int IntKind.i64 n_4] }) ∧ CallH Try.prog (13 : Nat) { toList := [Value.agg { toList := [Value.int IntKind.i64 n, Value.slice a n_1 c, Value.slice a_1 n_2 c_1, Value.slice a_2 n_3 c_2,
  Value.int IntKind.i64 n_4] }] } H' fun v H' => ∃ b, v = Value.bool b ∧ M_1 [Value.bool !b] H'))) ∧ ∀ (J : F) (b_4 : Bool) (H' : Heap), M_1 [Value.bool b_4] H' → brB b_4 (∃ H'_3, St Try.prog
  (26 : Nat) H' ⟨b, (0 : Nat), none⟩ (Value.agg { toList := [Value.int IntKind.i64 (0 : Int), Value.slice none (0 : Nat) (0 : Nat), Value.slice none (0 : Nat) (0 : Nat), Value.slice none (0 :
  Nat) (0 : Nat), Value.int IntKind.i64 (0 : Int)] }) H'_3 ∧ ∃ n a n_1 c a_1 n_2 c_1 a_2 n_3 c_2 n_4, Ld Try.prog (26 : Nat) H'_3 ⟨b, (0 : Nat), none⟩ (Value.agg { toList := [Value.int
  IntKind.i64 n, Value.slice a n_1 c, Value.slice a_1 n_2 c_1, Value.slice a_2 n_3 c_2, Value.int IntKind.i64 n_4] }) ∧ R (Value.tuple { toList := [Value.agg { toList := [Value.int IntKind.i64
  n, Value.slice a n_1 c, Value.slice a_1 n_2 c_1, Value.slice a_2 n_3 c_2, Value.int IntKind.i64 n_4] }, Value.int IntKind.i64 (11 : Int)] }) H'_3) (M [] H')) ∧ ∀ (J : F) (H' : Heap), M [] H'
  → ∃ n a n_1 c a_1 n_2 c_1 a_2 n_3 c_2 n_4, Ld Try.prog (26 : Nat) H' ⟨b_2, (0 : Nat), none⟩ (Value.agg { toList := [Value.int IntKind.i64 n, Value.slice a n_1 c, Value.slice a_1 n_2 c_1,
  Value.slice a_2 n_3 c_2, Value.int IntKind.i64 n_4] }) ∧ ∃ H'_3, St Try.prog (26 : Nat) H' ⟨b, (0 : Nat), none⟩ (Value.agg { toList := [Value.int IntKind.i64 n, Value.slice a n_1 c,
  Value.slice a_1 n_2 c_1, Value.slice a_2 n_3 c_2, Value.int IntKind.i64 n_4] }) H'_3 ∧ ∃ n a n_5 c a_3 n_6 c_3 a_4 n_7 c_4 n_8, Ld Try.prog (26 : Nat) H'_3 ⟨b, (0 : Nat), none⟩ (Value.agg {
  toList := [Value.int IntKind.i64 n, Value.slice a n_5 c, Value.slice a_3 n_6 c_3, Value.slice a_4 n_7 c_4, Value.int IntKind.i64 n_8] }) ∧ R (Value.tuple { toList := [Value.agg { toList :=
  [Value.int IntKind.i64 n, Value.slice a n_5 c, Value.slice a_3 n_6 c_3, Value.slice a_4 n_7 c_4, Value.int IntKind.i64 n_8] }, Value.int IntKind.i64 (0 : Int)] }) H'_3)) (∃ (M : List Value →
  Heap → Prop), (∃ (M_1 : List Value → Heap → Prop), (∃ b, Ld Try.prog (4 : Nat) H' ⟨b_1, (2 : Nat), none⟩ (Value.bool b) ∧ brB (!b) (M_1 [Value.bool true] H') (∃ n, Ld Try.prog (3 : Nat) H'
  ⟨b_1, (1 : Nat), none⟩ (Value.int IntKind.i64 n) ∧ brB (n != (↑(ByteArray.size s) : Int)) (M_1 [Value.bool true] H') (∃ n a n_1 c a_1 n_2 c_1 a_2 n_3 c_2 n_4, Ld Try.prog (26 : Nat) H' ⟨b_2,
  (0 : Nat), none⟩ (Value.agg { toList := [Value.int IntKind.i64 n, Value.slice a n_1 c, Value.slice a_1 n_2 c_1, Value.slice a_2 n_3 c_2, Value.int IntKind.i64 n_4] }) ∧ CallH Try.prog (13 :
  Nat) { toList := [Value.agg { toList := [Value.int IntKind.i64 n, Value.slice a n_1 c, Value.slice a_1 n_2 c_1, Value.slice a_2 n_3 c_2, Value.int IntKind.i64 n_4] }] } H' fun v H' => ∃ b, v
  = Value.bool b ∧ M_1 [Value.bool !b] H'))) ∧ ∀ (J : F) (b_4 : Bool) (H' : Heap), M_1 [Value.bool b_4] H' → brB b_4 (∃ H'_3, St Try.prog (26 : Nat) H' ⟨b, (0 : Nat), none⟩ (Value.agg { toList
  := [Value.int IntKind.i64 (0 : Int), Value.slice none (0 : Nat) (0 : Nat), Value.slice none (0 : Nat) (0 : Nat), Value.slice none (0 : Nat) (0 : Nat), Value.int IntKind.i64 (0 : Int)] })
  H'_3 ∧ ∃ n a n_1 c a_1 n_2 c_1 a_2 n_3 c_2 n_4, Ld Try.prog (26 : Nat) H'_3 ⟨b, (0 : Nat), none⟩ (Value.agg { toList := [Value.int IntKind.i64 n, Value.slice a n_1 c, Value.slice a_1 n_2
  c_1, Value.slice a_2 n_3 c_2, Value.int IntKind.i64 n_4] }) ∧ R (Value.tuple { toList := [Value.agg { toList := [Value.int IntKind.i64 n, Value.slice a n_1 c, Value.slice a_1 n_2 c_1,
  Value.slice a_2 n_3 c_2, Value.int IntKind.i64 n_4] }, Value.int IntKind.i64 (11 : Int)] }) H'_3) (M [] H')) ∧ ∀ (J : F) (H' : Heap), M [] H' → ∃ n a n_1 c a_1 n_2 c_1 a_2 n_3 c_2 n_4, Ld
  Try.prog (26 : Nat) H' ⟨b_2, (0 : Nat), none⟩ (Value.agg { toList := [Value.int IntKind.i64 n, Value.slice a n_1 c, Value.slice a_1 n_2 c_1, Value.slice a_2 n_3 c_2, Value.int IntKind.i64
  n_4] }) ∧ ∃ H'_3, St Try.prog (26 : Nat) H' ⟨b, (0 : Nat), none⟩ (Value.agg { toList := [Value.int IntKind.i64 n, Value.slice a n_1 c, Value.slice a_1 n_2 c_1, Value.slice a_2 n_3 c_2,
  Value.int IntKind.i64 n_4] }) H'_3 ∧ ∃ n a n_5 c a_3 n_6 c_3 a_4 n_7 c_4 n_8, Ld Try.prog (26 : Nat) H'_3 ⟨b, (0 : Nat), none⟩ (Value.agg { toList := [Value.int IntKind.i64 n, Value.slice a
  n_5 c, Value.slice a_3 n_6 c_3, Value.slice a_4 n_7 c_4, Value.int IntKind.i64 n_8] }) ∧ R (Value.tuple { toList := [Value.agg { toList := [Value.int IntKind.i64 n, Value.slice a n_5 c,
  Value.slice a_3 n_6 c_3, Value.slice a_4 n_7 c_4, Value.int IntKind.i64 n_8] }, Value.int IntKind.i64 (0 : Int)] }) H'_3)) : CallH Try.prog 9 (List.toArray [Value.string s]) H R := vc_call
  (annOf [([0, 1, 0, 1, 1, 1], .reg [0, 0, 2, 7, 15, 0, 63] (.quiet 1 (.quiet 2 (.quiet 5 (.pick (.alt 0 (.quiet 3 (.quiet 4 (.pick (.alt 6 (.done) .stop)))) .stop)))))), ([1, 1, 1, 1], .cut
  []), ([0, 1, 1, 1, 1], .cut [(41, .one .bool)])]) followsAll Go.Proofs.Try.func9 rfl Go.Proofs.Try.ntmps9 rfl rfl (Eq.mpr (by kernel_rfl) h)

/- 10 strandline/strandlineref11.Same
  slots: [0=a, 1=b, 2=a, 3=b, 5=i, 6=x, 7=y, 8=k, 9=k]  -/
abbrev fn_ref11_Same : Nat := 10
theorem vc_ref11_Same (a_a : Option Addr) (a_n : Nat) (a_c : Nat) (b_a : Option Addr) (b_n : Nat) (b_c : Nat) (H : Heap) (R : Value → Heap → Prop) (h : brB ((↑a_n : Int) != (↑b_n : Int)) (R
  (Value.bool false) H) (∃ (I : List Value → Heap → Prop) (μ : List Value → Heap → Nat), I [Value.int IntKind.i64 (0 : Int)] H ∧ ∀ (J : F) (n : Int) (H' : Heap), I [Value.int IntKind.i64 n] H'
  → brB (decide (n < (↑a_n : Int))) (∃ (M : List Value → Heap → Prop), (exSome a_a fun ad => chk (decide ((0 : Int) ≤ n ∧ n < (↑a_n : Int))) (∃ n_1 a n_2 c a_1 n_3 c_1 a_2 n_4 c_2 n_5, Ld
  Try.prog (33 : Nat) H' (Addr.add ad (Int.toNat n * (5 : Nat))) (Value.agg { toList := [Value.int IntKind.i64 n_1, Value.slice a n_2 c, Value.slice a_1 n_3 c_1, Value.slice a_2 n_4 c_2,
  Value.int IntKind.i64 n_5] }) ∧ ∀ (b : Nat) (H'_1 : Heap), New H' b (Obj.cells { toList := [Value.int IntKind.i64 (0 : Int), Value.slice none (0 : Nat) (0 : Nat), Value.slice none (0 : Nat)
  (0 : Nat), Value.slice none (0 : Nat) (0 : Nat), Value.int IntKind.i64 (0 : Int)] } (33 : Nat)) H'_1 → ∃ H', St Try.prog (33 : Nat) H'_1 ⟨b, (0 : Nat), none⟩ (Value.agg { toList :=
  [Value.int IntKind.i64 n_1, Value.slice a n_2 c, Value.slice a_1 n_3 c_1, Value.slice a_2 n_4 c_2, Value.int IntKind.i64 n_5] }) H' ∧ exSome b_a fun ad => chk (decide ((0 : Int) ≤ n ∧ n <
  (↑b_n : Int))) (∃ n_6 a n_7 c a_4 n_8 c_3 a_5 n_9 c_4 n_10, Ld Try.prog (33 : Nat) H' (Addr.add ad (Int.toNat n * (5 : Nat))) (Value.agg { toList := [Value.int IntKind.i64 n_6, Value.slice a
  n_7 c, Value.slice a_4 n_8 c_3, Value.slice a_5 n_9 c_4, Value.int IntKind.i64 n_10] }) ∧ ∀ (b_1 : Nat) (H'_2 : Heap), New H' b_1 (Obj.cells { toList := [Value.int IntKind.i64 (0 : Int),
  Value.slice none (0 : Nat) (0 : Nat), Value.slice none (0 : Nat) (0 : Nat), Value.slice none (0 : Nat) (0 : Nat), Value.int IntKind.i64 (0 : Int)] } (33 : Nat)) H'_2 → ∃ H', St Try.prog (33
  : Nat) H'_2 ⟨b_1, (0 : Nat), none⟩ (Value.agg { toList := [Value.int IntKind.i64 n_6, Value.slice a n_7 c, Value.slice a_4 n_8 c_3, Value.slice a_5 n_9 c_4, Value.int IntKind.i64 n_10] }) H'
  ∧ ∃ (M_1 : List Value → Heap → Prop), (∃ n, Ld Try.prog (3 : Nat) H' ⟨b, (0 : Nat), none⟩ (Value.int IntKind.i64 n) ∧ ∃ n_11, Ld Try.prog (3 : Nat) H' ⟨b_1, (0 : Nat), none⟩ (Value.int
  IntKind.i64 n_11) ∧ brB (n != n_11) (R (Value.bool false) H') (∃ n, Ld Try.prog (3 : Nat) H' ⟨b, (4 : Nat), none⟩ (Value.int IntKind.i64 n) ∧ ∃ n_12, Ld Try.prog (3 : Nat) H' ⟨b_1, (4 :
  Nat), none⟩ (Value.int IntKind.i64 n_12) ∧ brB (n != n_12) (R (Value.bool false) H') (∃ a n c, Ld Try.prog (22 : Nat) H' ⟨b, (1 : Nat), none⟩ (Value.slice a n c) ∧ ∃ a_7 n_13 c_5, Ld
  Try.prog (22 : Nat) H' ⟨b_1, (1 : Nat), none⟩ (Value.slice a_7 n_13 c_5) ∧ CallH Try.prog (22 : Nat) { toList := [Value.slice a n c, Value.slice a_7 n_13 c_5] } H' fun v H' => ∃ b_2, v =
  Value.bool b_2 ∧ brB (!b_2) (R (Value.bool false) H') (∃ a n c, Ld Try.prog (23 : Nat) H' ⟨b, (2 : Nat), none⟩ (Value.slice a n c) ∧ ∃ a n_14 c, Ld Try.prog (23 : Nat) H' ⟨b_1, (2 : Nat),
  none⟩ (Value.slice a n_14 c) ∧ brB ((↑n : Int) != (↑n_14 : Int)) (R (Value.bool false) H') (∃ a n c, Ld Try.prog (24 : Nat) H' ⟨b, (3 : Nat), none⟩ (Value.slice a n c) ∧ ∃ a n_15 c, Ld
  Try.prog (24 : Nat) H' ⟨b_1, (3 : Nat), none⟩ (Value.slice a n_15 c) ∧ brB ((↑n : Int) != (↑n_15 : Int)) (R (Value.bool false) H') (M_1 [] H')))))) ∧ ∀ (J : F) (H' : Heap), M_1 [] H' → ∃ (I
  : List Value → Heap → Prop) (μ : List Value → Heap → Nat), I [Value.int IntKind.i64 (0 : Int)] H' ∧ ∀ (J : F) (n : Int) (H' : Heap), I [Value.int IntKind.i64 n] H' → ∃ a n_11 c, Ld Try.prog
  (23 : Nat) H' ⟨b, (2 : Nat), none⟩ (Value.slice a n_11 c) ∧ brB (decide (n < (↑n_11 : Int))) (∃ a n_12 c, Ld Try.prog (23 : Nat) H' ⟨b, (2 : Nat), none⟩ (Value.slice a n_12 c) ∧ exSome a fun
  ad => chk (decide ((0 : Int) ≤ n ∧ n < (↑n_12 : Int))) (∃ n_13 n_14 n_15, Ld Try.prog (58 : Nat) H' (Addr.add ad (Int.toNat n * (3 : Nat))) (Value.agg { toList := [Value.int IntKind.i64
  n_13, Value.int IntKind.i64 n_14, Value.int IntKind.i64 n_15] }) ∧ ∃ a n_16 c, Ld Try.prog (23 : Nat) H' ⟨b_1, (2 : Nat), none⟩ (Value.slice a n_16 c) ∧ exSome a fun ad => chk (decide ((0 :
  Int) ≤ n ∧ n < (↑n_16 : Int))) (∃ n_17 n_18 n_19, Ld Try.prog (58 : Nat) H' (Addr.add ad (Int.toNat n * (3 : Nat))) (Value.agg { toList := [Value.int IntKind.i64 n_17, Value.int IntKind.i64
  n_18, Value.int IntKind.i64 n_19] }) ∧ brB (!(n_13 == n_17 && (n_14 == n_18 && (n_15 == n_19 && true)))) (R (Value.bool false) H') (I [Value.int IntKind.i64 (IntKind.wrap IntKind.i64 (n + (1
  : Int)))] H' ∧ μ [Value.int IntKind.i64 (IntKind.wrap IntKind.i64 (n + (1 : Int)))] H' < μ [Value.int IntKind.i64 n] H')))) (∃ (I : List Value → Heap → Prop) (μ : List Value → Heap → Nat), I
  [Value.int IntKind.i64 (0 : Int)] H' ∧ ∀ (J : F) (n : Int) (H' : Heap), I [Value.int IntKind.i64 n] H' → ∃ a n_12 c, Ld Try.prog (24 : Nat) H' ⟨b, (3 : Nat), none⟩ (Value.slice a n_12 c) ∧
  brB (decide (n < (↑n_12 : Int))) (∃ a n_13 c, Ld Try.prog (24 : Nat) H' ⟨b, (3 : Nat), none⟩ (Value.slice a n_13 c) ∧ exSome a fun ad => chk (decide ((0 : Int) ≤ n ∧ n < (↑n_13 : Int))) (∃
  n_14 n_15 n_16, Ld Try.prog (62 : Nat) H' (Addr.add ad (Int.toNat n * (3 : Nat))) (Value.agg { toList := [Value.int IntKind.i64 n_14, Value.int IntKind.i64 n_15, Value.int IntKind.i64 n_16]
  }) ∧ ∃ a n_17 c, Ld Try.prog (24 : Nat) H' ⟨b_1, (3 : Nat), none⟩ (Value.slice a n_17 c) ∧ exSome a fun ad => chk (decide ((0 : Int) ≤ n ∧ n < (↑n_17 : Int))) (∃ n_18 n_19 n_20, Ld Try.prog
  (62 : Nat) H' (Addr.add ad (Int.toNat n * (3 : Nat))) (Value.agg { toList := [Value.int IntKind.i64 n_18, Value.int IntKind.i64 n_19, Value.int IntKind.i64 n_20] }) ∧ brB (!(n_14 == n_18 &&
  (n_15 == n_19 && (n_16 == n_20 && true) && true))) (R (Value.bool false) H') (I [Value.int IntKind.i64 (IntKind.wrap IntKind.i64 (n + (1 : Int)))] H' ∧ μ [Value.int IntKind.i64 (IntKind.wrap
  IntKind.i64 (n + (1 : Int)))] H' < μ [Value.int IntKind.i64 n] H')))) (M [] H'))))) ∧ ∀ (J : F) (H'_1 : Heap), M [] H'_1 → I [Value.int IntKind.i64 (IntKind.wrap IntKind.i64 (n + (1 :
  Int)))] H'_1 ∧ μ [Value.int IntKind.i64 (IntKind.wrap IntKind.i64 (n + (1 : Int)))] H'_1 < μ [Value.int IntKind.i64 n] H') (R (Value.bool true) H'))) : CallH Try.prog 10 (List.toArray
  [Value.slice a_a a_n a_c, Value.slice b_a b_n b_c]) H R := vc_call (annOf [([0, 1, 0, 1, 1], .cut [(5, .one (.int .i64))]), ([1, 0, 0, 1, 0, 1, 1], .cut []), ([1, 1, 0, 0, 1, 0, 0, 1, 0, 1,
  1], .cut []), ([0, 1, 0, 1, 1, 1, 0, 0, 1, 0, 0, 1, 0, 1, 1], .cut [(8, .one (.int .i64))]), ([0, 1, 1, 1, 1, 1, 0, 0, 1, 0, 0, 1, 0, 1, 1], .cut [(9, .one (.int .i64))])]) followsAll
  Go.Proofs.Try.func10 rfl Go.Proofs.Try.ntmps10 rfl rfl (Eq.mpr (by kernel_rfl) h)

/- 11 strandline/strandlineref11.Decode
  slots: [0=s, 1=s, 4=r, 5=is, 6=t, 7=e]  -/
abbrev fn_ref11_Decode : Nat := 11
theorem vc_ref11_Decode (s : ByteArray) (H : Heap) (R : Value → Heap → Prop) (h : ∀ (b : Nat) (H' : Heap), New H b (Obj.cells { toList := [Value.int IntKind.i64 (0 : Int), Value.slice none
  (0 : Nat) (0 : Nat), Value.slice none (0 : Nat) (0 : Nat), Value.slice none (0 : Nat) (0 : Nat), Value.int IntKind.i64 (0 : Int)] } (33 : Nat)) H' → CallH Try.prog (23 : Nat) { toList :=
  [Value.string s] } H' fun v H' => ∃ n a n_1 c a_1 n_2 c_1 a_2 n_3 c_2 n_4 b_1, v = Value.tuple { toList := [Value.agg { toList := [Value.int IntKind.i64 n, Value.slice a n_1 c, Value.slice
  a_1 n_2 c_1, Value.slice a_2 n_3 c_2, Value.int IntKind.i64 n_4] }, Value.bool b_1] } ∧ ∀ (b_2 : Nat) (H'_1 : Heap), New H' b_2 (Obj.cells { toList := [Value.int IntKind.i64 (0 : Int),
  Value.slice none (0 : Nat) (0 : Nat), Value.slice none (0 : Nat) (0 : Nat), Value.slice none (0 : Nat) (0 : Nat), Value.int IntKind.i64 (0 : Int)] } (33 : Nat)) H'_1 → ∃ H', St Try.prog (33
  : Nat) H'_1 ⟨b_2, (0 : Nat), none⟩ (Value.agg { toList := [Value.int IntKind.i64 n, Value.slice a n_1 c, Value.slice a_1 n_2 c_1, Value.slice a_2 n_3 c_2, Value.int IntKind.i64 n_4] }) H' ∧
  brB (!b_1) (∃ H'_2, St Try.prog (33 : Nat) H' ⟨b, (0 : Nat), none⟩ (Value.agg { toList := [Value.int IntKind.i64 (0 : Int), Value.slice none (0 : Nat) (0 : Nat), Value.slice none (0 : Nat)
  (0 : Nat), Value.slice none (0 : Nat) (0 : Nat), Value.int IntKind.i64 (0 : Int)] }) H'_2 ∧ ∃ n a n_5 c a_4 n_6 c_3 a_5 n_7 c_4 n_8, Ld Try.prog (33 : Nat) H'_2 ⟨b, (0 : Nat), none⟩
  (Value.agg { toList := [Value.int IntKind.i64 n, Value.slice a n_5 c, Value.slice a_4 n_6 c_3, Value.slice a_5 n_7 c_4, Value.int IntKind.i64 n_8] }) ∧ R (Value.tuple { toList := [Value.agg
  { toList := [Value.int IntKind.i64 n, Value.slice a n_5 c, Value.slice a_4 n_6 c_3, Value.slice a_5 n_7 c_4, Value.int IntKind.i64 n_8] }, Value.int IntKind.i64 (11 : Int)] }) H'_2) (∃ n a
  n_5 c a_4 n_6 c_3 a_5 n_7 c_4 n_8, Ld Try.prog (33 : Nat) H' ⟨b_2, (0 : Nat), none⟩ (Value.agg { toList := [Value.int IntKind.i64 n, Value.slice a n_5 c, Value.slice a_4 n_6 c_3, Value.slice
  a_5 n_7 c_4, Value.int IntKind.i64 n_8] }) ∧ CallH Try.prog (7 : Nat) { toList := [Value.agg { toList := [Value.int IntKind.i64 n, Value.slice a n_5 c, Value.slice a_4 n_6 c_3, Value.slice
  a_5 n_7 c_4, Value.int IntKind.i64 n_8] }] } H' fun v H' => ∃ s_1 n, v = Value.tuple { toList := [Value.string s_1, Value.int IntKind.i64 n] } ∧ brB (n != (0 : Int)) (∃ H'_2, St Try.prog (33
  : Nat) H' ⟨b, (0 : Nat), none⟩ (Value.agg { toList := [Value.int IntKind.i64 (0 : Int), Value.slice none (0 : Nat) (0 : Nat), Value.slice none (0 : Nat) (0 : Nat), Value.slice none (0 : Nat)
  (0 : Nat), Value.int IntKind.i64 (0 : Int)] }) H'_2 ∧ ∃ n a n_9 c a_6 n_10 c_5 a_7 n_11 c_6 n_12, Ld Try.prog (33 : Nat) H'_2 ⟨b, (0 : Nat), none⟩ (Value.agg { toList := [Value.int
  IntKind.i64 n, Value.slice a n_9 c, Value.slice a_6 n_10 c_5, Value.slice a_7 n_11 c_6, Value.int IntKind.i64 n_12] }) ∧ R (Value.tuple { toList := [Value.agg { toList := [Value.int
  IntKind.i64 n, Value.slice a n_9 c, Value.slice a_6 n_10 c_5, Value.slice a_7 n_11 c_6, Value.int IntKind.i64 n_12] }, Value.int IntKind.i64 (11 : Int)] }) H'_2) (brB (!ByteArray.toList s_1
  == ByteArray.toList s) (∃ H'_2, St Try.prog (33 : Nat) H' ⟨b, (0 : Nat), none⟩ (Value.agg { toList := [Value.int IntKind.i64 (0 : Int), Value.slice none (0 : Nat) (0 : Nat), Value.slice none
  (0 : Nat) (0 : Nat), Value.slice none (0 : Nat) (0 : Nat), Value.int IntKind.i64 (0 : Int)] }) H'_2 ∧ ∃ n a n_9 c a_6 n_10 c_5 a_7 n_11 c_6 n_12, Ld Try.prog (33 : Nat) H'_2 ⟨b, (0 : Nat),
  none⟩ (Value.agg { toList := [Value.int IntKind.i64 n, Value.slice a n_9 c, Value.slice a_6 n_10 c_5, Value.slice a_7 n_11 c_6, Value.int IntKind.i64 n_12] }) ∧ R (Value.tuple { toList :=
  [Value.agg { toList := [Value.int IntKind.i64 n, Value.slice a n_9 c, Value.slice a_6 n_10 c_5, Value.slice a_7 n_11 c_6, Value.int IntKind.i64 n_12] }, Value.int IntKind.i64 (11 : Int)] })
  H'_2) (∃ n a n_9 c a_6 n_10 c_5 a_7 n_11 c_6 n_12, Ld Try.prog (33 : Nat) H' ⟨b_2, (0 : Nat), none⟩ (Value.agg { toList := [Value.int IntKind.i64 n, Value.slice a n_9 c, Value.slice a_6 n_10
  c_5, Value.slice a_7 n_11 c_6, Value.int IntKind.i64 n_12] }) ∧ ∃ H'_2, St Try.prog (33 : Nat) H' ⟨b, (0 : Nat), none⟩ (Value.agg { toList := [Value.int IntKind.i64 n, Value.slice a n_9 c,
  Value.slice a_6 n_10 c_5, Value.slice a_7 n_11 c_6, Value.int IntKind.i64 n_12] }) H'_2 ∧ ∃ n a n_13 c a_8 n_14 c_7 a_9 n_15 c_8 n_16, Ld Try.prog (33 : Nat) H'_2 ⟨b, (0 : Nat), none⟩
  (Value.agg { toList := [Value.int IntKind.i64 n, Value.slice a n_13 c, Value.slice a_8 n_14 c_7, Value.slice a_9 n_15 c_8, Value.int IntKind.i64 n_16] }) ∧ R (Value.tuple { toList :=
  [Value.agg { toList := [Value.int IntKind.i64 n, Value.slice a n_13 c, Value.slice a_8 n_14 c_7, Value.slice a_9 n_15 c_8, Value.int IntKind.i64 n_16] }, Value.int IntKind.i64 (0 : Int)] })
  H'_2)))) : CallH Try.prog 11 (List.toArray [Value.string s]) H R := vc_call (annOf []) followsAll Go.Proofs.Try.func11 rfl Go.Proofs.Try.ntmps11 rfl rfl (Eq.mpr (by kernel_rfl) h)

/- 12 strandline/wal.Encode$1
  slots: []  -/
abbrev fn_wal_Encode_1 : Nat := 12
theorem vc_wal_Encode_1 (a0 : Addr) (a1 : Addr) (H : Heap) (R : Value → Heap → Prop) (h : ∃ n, Ld Try.prog (29 : Nat) H a0 (Value.int IntKind.i64 n) ∧ brB (n != (0 : Int)) (∃ H', St Try.prog
  (9 : Nat) H a1 (Value.string { data := #[] }) H' ∧ R (Value.tuple ⟨[]⟩) H') (R (Value.tuple ⟨[]⟩) H)) : CallH Try.prog 12 (List.toArray [Value.pointer (some a0), Value.pointer (some a1)]) H
  R := vc_call (annOf []) followsAll Go.Proofs.Try.func12 rfl Go.Proofs.Try.ntmps12 rfl rfl (Eq.mpr (by kernel_rfl) h)
theorem vcD_wal_Encode_1 (a0 : Addr) (a1 : Addr) (H : Heap) (R : Value → Heap → Prop) (h : ∃ n, Ld Try.prog (29 : Nat) H a0 (Value.int IntKind.i64 n) ∧ brB (n != (0 : Int)) (∃ H', St
  Try.prog (9 : Nat) H a1 (Value.string { data := #[] }) H' ∧ R (Value.tuple ⟨[]⟩) H') (R (Value.tuple ⟨[]⟩) H)) : CallDH Try.prog 12 (List.toArray [Value.pointer (some a0), Value.pointer
  (some a1)]) H R := vc_callD (annOf []) followsAll Go.Proofs.Try.func12 rfl Go.Proofs.Try.ntmps12 rfl rfl (Eq.mpr (by kernel_rfl) h)

/- 13 strandline/wal.check
  slots: [0=r, 1=r, 3=own, 4=k, 5=is, 6=_, 7=x, 8=_, 9=x]  -/
abbrev fn_wal_check : Nat := 13
theorem vc_wal_check (r_0 : Int) (r_1_a : Option Addr) (r_1_n : Nat) (r_1_c : Nat) (r_2_a : Option Addr) (r_2_n : Nat) (r_2_c : Nat) (r_3_a : Option Addr) (r_3_n : Nat) (r_3_c : Nat) (r_4 :
  Int) (H : Heap) (R : Value → Heap → Prop) (h : ∀ (b : Nat) (H' : Heap), New H b (Obj.cells { toList := [Value.int IntKind.i64 r_0, Value.slice r_1_a r_1_n r_1_c, Value.slice r_2_a r_2_n
  r_2_c, Value.slice r_3_a r_3_n r_3_c, Value.int IntKind.i64 r_4] } (26 : Nat)) H' → ∃ a n c, Ld Try.prog (22 : Nat) H' ⟨b, (1 : Nat), none⟩ (Value.slice a n c) ∧ ∃ a n_1 c, Ld Try.prog (23 :
  Nat) H' ⟨b, (2 : Nat), none⟩ (Value.slice a n_1 c) ∧ ∃ a n_2 c, Ld Try.prog (24 : Nat) H' ⟨b, (3 : Nat), none⟩ (Value.slice a n_2 c) ∧ ∃ n_3, Ld Try.prog (3 : Nat) H' ⟨b, (4 : Nat), none⟩
  (Value.int IntKind.i64 n_3) ∧ ∀ (b_1 : Nat) (H'_1 : Heap), New H' b_1 (Obj.cells { toList := [Value.bool false, Value.bool false, Value.bool false, Value.bool false] } (70 : Nat)) H'_1 → ∃
  H', St Try.prog (70 : Nat) H'_1 ⟨b_1, (0 : Nat), none⟩ (Value.agg { toList := [Value.bool (decide ((↑n : Int) > (0 : Int))), Value.bool (decide ((↑n_1 : Int) > (0 : Int))), Value.bool
  (decide ((↑n_2 : Int) > (0 : Int))), Value.bool (n_3 != (0 : Int))] }) H' ∧ ∃ b_2 b_3 b_4 b_5, Ld Try.prog (70 : Nat) H' ⟨b_1, (0 : Nat), none⟩ (Value.agg { toList := [Value.bool b_2,
  Value.bool b_3, Value.bool b_4, Value.bool b_5] }) ∧ ∃ (I : List Value → Heap → Prop) (μ : List Value → Heap → Nat), I [Value.int IntKind.i64 (0 : Int)] H' ∧ ∀ (J : F) (n : Int) (H' : Heap),
  I [Value.int IntKind.i64 n] H' → brB (decide (n < (4 : Int))) (chk (decide ((0 : Int) ≤ n ∧ n < (↑(4 : Nat) : Int))) (∃ b_6, Pt Try.prog (4 : Nat) [Value.bool b_2, Value.bool b_3, Value.bool
  b_4, Value.bool b_5] (Int.toNat n * (1 : Nat)) (Value.bool b_6) ∧ brB b_6 (∃ n_4, Ld Try.prog (3 : Nat) H' ⟨b, (0 : Nat), none⟩ (Value.int IntKind.i64 n_4) ∧ brB (n != n_4) (R (Value.bool
  false) H') (I [Value.int IntKind.i64 (IntKind.wrap IntKind.i64 (n + (1 : Int)))] H' ∧ μ [Value.int IntKind.i64 (IntKind.wrap IntKind.i64 (n + (1 : Int)))] H' < μ [Value.int IntKind.i64 n]
  H')) (I [Value.int IntKind.i64 (IntKind.wrap IntKind.i64 (n + (1 : Int)))] H' ∧ μ [Value.int IntKind.i64 (IntKind.wrap IntKind.i64 (n + (1 : Int)))] H' < μ [Value.int IntKind.i64 n] H'))) (∃
  a n c, Ld Try.prog (23 : Nat) H' ⟨b, (2 : Nat), none⟩ (Value.slice a n c) ∧ ∃ (I : List Value → Heap → Prop) (μ : List Value → Heap → Nat), I [Value.int IntKind.i64 (0 : Int)] H' ∧ ∀ (J : F)
  (n_4 : Int) (H' : Heap), I [Value.int IntKind.i64 n_4] H' → brB (decide (n_4 < (↑n : Int))) (exSome a fun ad => chk (decide ((0 : Int) ≤ n_4 ∧ n_4 < (↑n : Int))) (∃ n n_5 n_6, Ld Try.prog
  (58 : Nat) H' (Addr.add ad (Int.toNat n_4 * (3 : Nat))) (Value.agg { toList := [Value.int IntKind.i64 n, Value.int IntKind.i64 n_5, Value.int IntKind.i64 n_6] }) ∧ ∀ (b : Nat) (H'_2 : Heap),
  New H' b (Obj.cells { toList := [Value.int IntKind.i64 (0 : Int), Value.int IntKind.i64 (0 : Int), Value.int IntKind.i64 (0 : Int)] } (58 : Nat)) H'_2 → ∃ H'_3, St Try.prog (58 : Nat) H'_2
  ⟨b, (0 : Nat), none⟩ (Value.agg { toList := [Value.int IntKind.i64 n, Value.int IntKind.i64 n_5, Value.int IntKind.i64 n_6] }) H'_3 ∧ ∃ n, Ld Try.prog (3 : Nat) H'_3 ⟨b, (0 : Nat), none⟩
  (Value.int IntKind.i64 n) ∧ CallH Try.prog (24 : Nat) { toList := [Value.int IntKind.i64 n, Value.int IntKind.i64 (1099511627776 : Int)] } H'_3 fun v H'_4 => ∃ b_6, v = Value.bool b_6 ∧ brB
  (!b_6) (R (Value.bool false) H'_4) (∃ n, Ld Try.prog (3 : Nat) H'_4 ⟨b, (1 : Nat), none⟩ (Value.int IntKind.i64 n) ∧ CallH Try.prog (24 : Nat) { toList := [Value.int IntKind.i64 n, Value.int
  IntKind.i64 (199 : Int)] } H'_4 fun v H'_5 => ∃ b, v = Value.bool b ∧ brB (!b) (R (Value.bool false) H'_5) (I [Value.int IntKind.i64 (IntKind.wrap IntKind.i64 (n_4 + (1 : Int)))] H'_5 ∧ μ
  [Value.int IntKind.i64 (IntKind.wrap IntKind.i64 (n_4 + (1 : Int)))] H'_5 < μ [Value.int IntKind.i64 n_4] H')))) (∃ a n c, Ld Try.prog (24 : Nat) H' ⟨b, (3 : Nat), none⟩ (Value.slice a n c)
  ∧ ∃ (I : List Value → Heap → Prop) (μ : List Value → Heap → Nat), I [Value.int IntKind.i64 (0 : Int)] H' ∧ ∀ (J : F) (n_5 : Int) (H' : Heap), I [Value.int IntKind.i64 n_5] H' → brB (decide
  (n_5 < (↑n : Int))) (∃ (M : List Value → Heap → Prop), (exSome a fun ad => chk (decide ((0 : Int) ≤ n_5 ∧ n_5 < (↑n : Int))) (∃ n n_6 n_7, Ld Try.prog (62 : Nat) H' (Addr.add ad (Int.toNat
  n_5 * (3 : Nat))) (Value.agg { toList := [Value.int IntKind.i64 n, Value.int IntKind.i64 n_6, Value.int IntKind.i64 n_7] }) ∧ ∀ (b : Nat) (H'_2 : Heap), New H' b (Obj.cells { toList :=
  [Value.int IntKind.i64 (0 : Int), Value.int IntKind.i64 (0 : Int), Value.int IntKind.i64 (0 : Int)] } (62 : Nat)) H'_2 → ∃ H', St Try.prog (62 : Nat) H'_2 ⟨b, (0 : Nat), none⟩ (Value.agg {
  toList := [Value.int IntKind.i64 n, Value.int IntKind.i64 n_6, Value.int IntKind.i64 n_7] }) H' ∧ ∃ n, Ld Try.prog (3 : Nat) H' ⟨b, (0 : Nat), none⟩ (Value.int IntKind.i64 n) ∧ CallH
  Try.prog (24 : Nat) { toList := [Value.int IntKind.i64 n, Value.int IntKind.i64 (199 : Int)] } H' fun v H' => ∃ b_6, v = Value.bool b_6 ∧ brB (!b_6) (R (Value.bool false) H') (∃ n, Ld
  Try.prog (3 : Nat) H' ⟨b, (1 : Nat), none⟩ (Value.int IntKind.i64 n) ∧ brB (decide (n < (0 : Int))) (R (Value.bool false) H') (∃ n, Ld Try.prog (3 : Nat) H' ⟨b, (2 : Nat), none⟩ (Value.int
  IntKind.i64 n) ∧ ∃ n_8, Ld Try.prog (3 : Nat) H' ⟨b, (1 : Nat), none⟩ (Value.int IntKind.i64 n_8) ∧ brB (decide (n ≤ n_8)) (R (Value.bool false) H') (∃ n, Ld Try.prog (3 : Nat) H' ⟨b, (2 :
  Nat), none⟩ (Value.int IntKind.i64 n) ∧ brB (decide (n > (1099511627776 : Int))) (R (Value.bool false) H') (M [] H')))))) ∧ ∀ (J : F) (H'_2 : Heap), M [] H'_2 → I [Value.int IntKind.i64
  (IntKind.wrap IntKind.i64 (n_5 + (1 : Int)))] H'_2 ∧ μ [Value.int IntKind.i64 (IntKind.wrap IntKind.i64 (n_5 + (1 : Int)))] H'_2 < μ [Value.int IntKind.i64 n_5] H') (∃ n, Ld Try.prog (3 :
  Nat) H' ⟨b, (0 : Nat), none⟩ (Value.int IntKind.i64 n) ∧ CallH Try.prog (24 : Nat) { toList := [Value.int IntKind.i64 n, Value.int IntKind.i64 (3 : Int)] } H' fun v H' => ∃ b_6, v =
  Value.bool b_6 ∧ brB b_6 (∃ n, Ld Try.prog (3 : Nat) H' ⟨b, (4 : Nat), none⟩ (Value.int IntKind.i64 n) ∧ CallH Try.prog (24 : Nat) { toList := [Value.int IntKind.i64 n, Value.int IntKind.i64
  (1099511627776 : Int)] } H' fun v H' => ∃ b_7, v = Value.bool b_7 ∧ brB b_7 (∃ a n c, Ld Try.prog (23 : Nat) H' ⟨b, (2 : Nat), none⟩ (Value.slice a n c) ∧ brB (decide ((↑n : Int) ≤ (5000 :
  Int))) (∃ a n c, Ld Try.prog (24 : Nat) H' ⟨b, (3 : Nat), none⟩ (Value.slice a n c) ∧ R (Value.bool (decide ((↑n : Int) ≤ (5000 : Int)))) H') (R (Value.bool false) H')) (R (Value.bool false)
  H')) (R (Value.bool false) H'))))) : CallH Try.prog 13 (List.toArray [Value.agg #[Value.int IntKind.i64 r_0, Value.slice r_1_a r_1_n r_1_c, Value.slice r_2_a r_2_n r_2_c, Value.slice r_3_a
  r_3_n r_3_c, Value.int IntKind.i64 r_4]]) H R := vc_call (annOf [([0, 1, 0, 1, 1], .cut [(27, .one (.int .i64))]), ([0, 1, 0, 1, 1, 1], .cut [(42, .one (.int .i64))]), ([0, 1, 0, 1, 1, 1,
  1], .cut [(60, .one (.int .i64))]), ([1, 1, 0, 0, 1, 0, 1, 1, 1, 1], .cut [])]) followsAll Go.Proofs.Try.func13 rfl Go.Proofs.Try.ntmps13 rfl rfl (Eq.mpr (by kernel_rfl) h)

/- 14 strandline/wal.forms
  slots: []  -/
abbrev fn_wal_forms : Nat := 14
theorem vc_wal_forms (H : Heap) (R : Value → Heap → Prop) (h : ∀ (b : Nat) (H' : Heap), New H b (Obj.cells { toList := [Value.nilFunc, Value.nilFunc, Value.nilFunc, Value.nilFunc,
  Value.nilFunc, Value.nilFunc, Value.nilFunc, Value.nilFunc] } (49 : Nat)) H' → ∃ H'_1, St Try.prog (49 : Nat) H' ⟨b, (0 : Nat), none⟩ (Value.agg { toList := [Value.func (Fn.func (25 : Nat))
  ⟨[]⟩ ⟨[]⟩, Value.func (Fn.func (28 : Nat)) ⟨[]⟩ ⟨[]⟩, Value.func (Fn.func (31 : Nat)) ⟨[]⟩ ⟨[]⟩, Value.func (Fn.func (33 : Nat)) ⟨[]⟩ ⟨[]⟩, Value.func (Fn.func (35 : Nat)) ⟨[]⟩ ⟨[]⟩,
  Value.func (Fn.func (36 : Nat)) ⟨[]⟩ ⟨[]⟩, Value.func (Fn.func (37 : Nat)) ⟨[]⟩ ⟨[]⟩, Value.func (Fn.func (38 : Nat)) ⟨[]⟩ ⟨[]⟩] }) H'_1 ∧ ∃ v v_1 v_2 v_3 v_4 v_5 v_6 v_7, Ld Try.prog (49 :
  Nat) H'_1 ⟨b, (0 : Nat), none⟩ (Value.agg { toList := [v, v_1, v_2, v_3, v_4, v_5, v_6, v_7] }) ∧ R (Value.agg { toList := [v, v_1, v_2, v_3, v_4, v_5, v_6, v_7] }) H'_1) : CallH Try.prog 14
  (List.toArray []) H R := vc_call (annOf []) followsAll Go.Proofs.Try.func14 rfl Go.Proofs.Try.ntmps14 rfl rfl (Eq.mpr (by kernel_rfl) h)

/- 15 strandline/wal.numbers
  slots: [0=l, 1=l, 3=b, 4=_, 5=n]  -/
abbrev fn_wal_numbers : Nat := 15
theorem vc_wal_numbers (l_a : Option Addr) (l_n : Nat) (l_c : Nat) (H : Heap) (R : Value → Heap → Prop) (h : ∀ (b : Nat) (H' : Heap), New H b (Obj.cells { toList := [Value.pointer none,
  Value.slice none (0 : Nat) (0 : Nat)] } (81 : Nat)) H' → ∃ (I : List Value → Heap → Prop) (μ : List Value → Heap → Nat), I [Value.int IntKind.i64 (0 : Int)] H' ∧ ∀ (J : F) (n : Int) (H' :
  Heap), I [Value.int IntKind.i64 n] H' → brB (decide (n < (↑l_n : Int))) (exSome l_a fun ad => chk (decide ((0 : Int) ≤ n ∧ n < (↑l_n : Int))) (∃ n_1, Ld Try.prog (3 : Nat) H' (Addr.add ad
  (Int.toNat n * (1 : Nat))) (Value.int IntKind.i64 n_1) ∧ CallH Try.prog (40 : Nat) { toList := [Value.int IntKind.u64 (IntKind.wrap IntKind.u64 n_1)] } H' fun v H'_1 => ∃ s, v = Value.string
  s ∧ CallH Try.prog (39 : Nat) { toList := [Value.pointer (some ⟨b, (0 : Nat), none⟩), Value.string s] } H'_1 fun v H'_2 => ∃ n_2 v_1, v = Value.tuple { toList := [Value.int IntKind.i64 n_2,
  v_1] } ∧ I [Value.int IntKind.i64 (IntKind.wrap IntKind.i64 (n + (1 : Int)))] H'_2 ∧ μ [Value.int IntKind.i64 (IntKind.wrap IntKind.i64 (n + (1 : Int)))] H'_2 < μ [Value.int IntKind.i64 n]
  H')) (CallH Try.prog (41 : Nat) { toList := [Value.pointer (some ⟨b, (0 : Nat), none⟩)] } H' fun v H' => ∃ s, v = Value.string s ∧ R (Value.string s) H')) : CallH Try.prog 15 (List.toArray
  [Value.slice l_a l_n l_c]) H R := vc_call (annOf [([0, 1, 0, 1, 1], .cut [(8, .one (.int .i64))])]) followsAll Go.Proofs.Try.func15 rfl Go.Proofs.Try.ntmps15 rfl rfl (Eq.mpr (by kernel_rfl)
  h)

/- 16 strandline/strandlineref11.fine
  slots: [0=r, 1=r, 3=i, 4=i, 5=x]  -/
abbrev fn_ref11_fine : Nat := 16
theorem vc_ref11_fine (r_0 : Int) (r_1_a : Option Addr) (r_1_n : Nat) (r_1_c : Nat) (r_2_a : Option Addr) (r_2_n : Nat) (r_2_c : Nat) (r_3_a : Option Addr) (r_3_n : Nat) (r_3_c : Nat) (r_4 :
  Int) (H : Heap) (R : Value → Heap → Prop) (h : ∀ (b : Nat) (H' : Heap), New H b (Obj.cells { toList := [Value.int IntKind.i64 r_0, Value.slice r_1_a r_1_n r_1_c, Value.slice r_2_a r_2_n
  r_2_c, Value.slice r_3_a r_3_n r_3_c, Value.int IntKind.i64 r_4] } (33 : Nat)) H' → ∃ (M : List Value → Heap → Prop), (∃ (M_1 : List Value → Heap → Prop), (∃ n, Ld Try.prog (3 : Nat) H' ⟨b,
  (0 : Nat), none⟩ (Value.int IntKind.i64 n) ∧ brB (decide (n < (0 : Int))) (M_1 [Value.bool true] H') (∃ n, Ld Try.prog (3 : Nat) H' ⟨b, (0 : Nat), none⟩ (Value.int IntKind.i64 n) ∧ brB
  (decide (n > (3 : Int))) (M_1 [Value.bool true] H') (∃ n, Ld Try.prog (3 : Nat) H' ⟨b, (0 : Nat), none⟩ (Value.int IntKind.i64 n) ∧ brB (n != (0 : Int)) (∃ a n c, Ld Try.prog (22 : Nat) H'
  ⟨b, (1 : Nat), none⟩ (Value.slice a n c) ∧ brB (decide ((↑n : Int) > (0 : Int))) (M_1 [Value.bool true] H') (∃ n, Ld Try.prog (3 : Nat) H' ⟨b, (0 : Nat), none⟩ (Value.int IntKind.i64 n) ∧
  brB (n != (1 : Int)) (∃ a n c, Ld Try.prog (23 : Nat) H' ⟨b, (2 : Nat), none⟩ (Value.slice a n c) ∧ brB (decide ((↑n : Int) > (0 : Int))) (M_1 [Value.bool true] H') (∃ n, Ld Try.prog (3 :
  Nat) H' ⟨b, (0 : Nat), none⟩ (Value.int IntKind.i64 n) ∧ brB (n != (2 : Int)) (∃ a n c, Ld Try.prog (24 : Nat) H' ⟨b, (3 : Nat), none⟩ (Value.slice a n c) ∧ brB (decide ((↑n : Int) > (0 :
  Int))) (M_1 [Value.bool true] H') (∃ n, Ld Try.prog (3 : Nat) H' ⟨b, (0 : Nat), none⟩ (Value.int IntKind.i64 n) ∧ brB (n != (3 : Int)) (∃ n, Ld Try.prog (3 : Nat) H' ⟨b, (4 : Nat), none⟩
  (Value.int IntKind.i64 n) ∧ brB (n != (0 : Int)) (M_1 [Value.bool true] H') (∃ n, Ld Try.prog (3 : Nat) H' ⟨b, (4 : Nat), none⟩ (Value.int IntKind.i64 n) ∧ CallH Try.prog (42 : Nat) { toList
  := [Value.int IntKind.i64 n] } H' fun v H' => ∃ b_1, v = Value.bool b_1 ∧ brB (!b_1) (M_1 [Value.bool true] H') (∃ a n c, Ld Try.prog (23 : Nat) H' ⟨b, (2 : Nat), none⟩ (Value.slice a n c) ∧
  brB (decide ((↑n : Int) > (5000 : Int))) (M_1 [Value.bool true] H') (∃ a n c, Ld Try.prog (24 : Nat) H' ⟨b, (3 : Nat), none⟩ (Value.slice a n c) ∧ M_1 [Value.bool (decide ((↑n : Int) > (5000
  : Int)))] H')))) (∃ n, Ld Try.prog (3 : Nat) H' ⟨b, (4 : Nat), none⟩ (Value.int IntKind.i64 n) ∧ CallH Try.prog (42 : Nat) { toList := [Value.int IntKind.i64 n] } H' fun v H' => ∃ b_1, v =
  Value.bool b_1 ∧ brB (!b_1) (M_1 [Value.bool true] H') (∃ a n c, Ld Try.prog (23 : Nat) H' ⟨b, (2 : Nat), none⟩ (Value.slice a n c) ∧ brB (decide ((↑n : Int) > (5000 : Int))) (M_1
  [Value.bool true] H') (∃ a n c, Ld Try.prog (24 : Nat) H' ⟨b, (3 : Nat), none⟩ (Value.slice a n c) ∧ M_1 [Value.bool (decide ((↑n : Int) > (5000 : Int)))] H'))))) (∃ n, Ld Try.prog (3 : Nat)
  H' ⟨b, (0 : Nat), none⟩ (Value.int IntKind.i64 n) ∧ brB (n != (3 : Int)) (∃ n, Ld Try.prog (3 : Nat) H' ⟨b, (4 : Nat), none⟩ (Value.int IntKind.i64 n) ∧ brB (n != (0 : Int)) (M_1 [Value.bool
  true] H') (∃ n, Ld Try.prog (3 : Nat) H' ⟨b, (4 : Nat), none⟩ (Value.int IntKind.i64 n) ∧ CallH Try.prog (42 : Nat) { toList := [Value.int IntKind.i64 n] } H' fun v H' => ∃ b_1, v =
  Value.bool b_1 ∧ brB (!b_1) (M_1 [Value.bool true] H') (∃ a n c, Ld Try.prog (23 : Nat) H' ⟨b, (2 : Nat), none⟩ (Value.slice a n c) ∧ brB (decide ((↑n : Int) > (5000 : Int))) (M_1
  [Value.bool true] H') (∃ a n c, Ld Try.prog (24 : Nat) H' ⟨b, (3 : Nat), none⟩ (Value.slice a n c) ∧ M_1 [Value.bool (decide ((↑n : Int) > (5000 : Int)))] H')))) (∃ n, Ld Try.prog (3 : Nat)
  H' ⟨b, (4 : Nat), none⟩ (Value.int IntKind.i64 n) ∧ CallH Try.prog (42 : Nat) { toList := [Value.int IntKind.i64 n] } H' fun v H' => ∃ b_1, v = Value.bool b_1 ∧ brB (!b_1) (M_1 [Value.bool
  true] H') (∃ a n c, Ld Try.prog (23 : Nat) H' ⟨b, (2 : Nat), none⟩ (Value.slice a n c) ∧ brB (decide ((↑n : Int) > (5000 : Int))) (M_1 [Value.bool true] H') (∃ a n c, Ld Try.prog (24 : Nat)
  H' ⟨b, (3 : Nat), none⟩ (Value.slice a n c) ∧ M_1 [Value.bool (decide ((↑n : Int) > (5000 : Int)))] H')))))) (∃ n, Ld Try.prog (3 : Nat) H' ⟨b, (0 : Nat), none⟩ (Value.int IntKind.i64 n) ∧
  brB (n != (2 : Int)) (∃ a n c, Ld Try.prog (24 : Nat) H' ⟨b, (3 : Nat), none⟩ (Value.slice a n c) ∧ brB (decide ((↑n : Int) > (0 : Int))) (M_1 [Value.bool true] H') (∃ n, Ld Try.prog (3 :
  Nat) H' ⟨b, (0 : Nat), none⟩ (Value.int IntKind.i64 n) ∧ brB (n != (3 : Int)) (∃ n, Ld Try.prog (3 : Nat) H' ⟨b, (4 : Nat), none⟩ (Value.int IntKind.i64 n) ∧ brB (n != (0 : Int)) (M_1
  [Value.bool true] H') (∃ n, Ld Try.prog (3 : Nat) H' ⟨b, (4 : Nat), none⟩ (Value.int IntKind.i64 n) ∧ CallH Try.prog (42 : Nat) { toList := [Value.int IntKind.i64 n] } H' fun v H' => ∃ b_1,
  v = Value.bool b_1 ∧ brB (!b_1) (M_1 [Value.bool true] H') (∃ a n c, Ld Try.prog (23 : Nat) H' ⟨b, (2 : Nat), none⟩ (Value.slice a n c) ∧ brB (decide ((↑n : Int) > (5000 : Int))) (M_1
  [Value.bool true] H') (∃ a n c, Ld Try.prog (24 : Nat) H' ⟨b, (3 : Nat), none⟩ (Value.slice a n c) ∧ M_1 [Value.bool (decide ((↑n : Int) > (5000 : Int)))] H')))) (∃ n, Ld Try.prog (3 : Nat)
  H' ⟨b, (4 : Nat), none⟩ (Value.int IntKind.i64 n) ∧ CallH Try.prog (42 : Nat) { toList := [Value.int IntKind.i64 n] } H' fun v H' => ∃ b_1, v = Value.bool b_1 ∧ brB (!b_1) (M_1 [Value.bool
  true] H') (∃ a n c, Ld Try.prog (23 : Nat) H' ⟨b, (2 : Nat), none⟩ (Value.slice a n c) ∧ brB (decide ((↑n : Int) > (5000 : Int))) (M_1 [Value.bool true] H') (∃ a n c, Ld Try.prog (24 : Nat)
  H' ⟨b, (3 : Nat), none⟩ (Value.slice a n c) ∧ M_1 [Value.bool (decide ((↑n : Int) > (5000 : Int)))] H'))))) (∃ n, Ld Try.prog (3 : Nat) H' ⟨b, (0 : Nat), none⟩ (Value.int IntKind.i64 n) ∧
  brB (n != (3 : Int)) (∃ n, Ld Try.prog (3 : Nat) H' ⟨b, (4 : Nat), none⟩ (Value.int IntKind.i64 n) ∧ brB (n != (0 : Int)) (M_1 [Value.bool true] H') (∃ n, Ld Try.prog (3 : Nat) H' ⟨b, (4 :
  Nat), none⟩ (Value.int IntKind.i64 n) ∧ CallH Try.prog (42 : Nat) { toList := [Value.int IntKind.i64 n] } H' fun v H' => ∃ b_1, v = Value.bool b_1 ∧ brB (!b_1) (M_1 [Value.bool true] H') (∃
  a n c, Ld Try.prog (23 : Nat) H' ⟨b, (2 : Nat), none⟩ (Value.slice a n c) ∧ brB (decide ((↑n : Int) > (5000 : Int))) (M_1 [Value.bool true] H') (∃ a n c, Ld Try.prog (24 : Nat) H' ⟨b, (3 :
  Nat), none⟩ (Value.slice a n c) ∧ M_1 [Value.bool (decide ((↑n : Int) > (5000 : Int)))] H')))) (∃ n, Ld Try.prog (3 : Nat) H' ⟨b, (4 : Nat), none⟩ (Value.int IntKind.i64 n) ∧ CallH Try.prog
  (42 : Nat) { toList := [Value.int IntKind.i64 n] } H' fun v H' => ∃ b_1, v = Value.bool b_1 ∧ brB (!b_1) (M_1 [Value.bool true] H') (∃ a n c, Ld Try.prog (23 : Nat) H' ⟨b, (2 : Nat), none⟩
  (Value.slice a n c) ∧ brB (decide ((↑n : Int) > (5000 : Int))) (M_1 [Value.bool true] H') (∃ a n c, Ld Try.prog (24 : Nat) H' ⟨b, (3 : Nat), none⟩ (Value.slice a n c) ∧ M_1 [Value.bool
  (decide ((↑n : Int) > (5000 : Int)))] H'))))))) (∃ n, Ld Try.prog (3 : Nat) H' ⟨b, (0 : Nat), none⟩ (Value.int IntKind.i64 n) ∧ brB (n != (1 : Int)) (∃ a n c, Ld Try.prog (23 : Nat) H' ⟨b,
  (2 : Nat), none⟩ (Value.slice a n c) ∧ brB (decide ((↑n : Int) > (0 : Int))) (M_1 [Value.bool true] H') (∃ n, Ld Try.prog (3 : Nat) H' ⟨b, (0 : Nat), none⟩ (Value.int IntKind.i64 n) ∧ brB (n
  != (2 : Int)) (∃ a n c, Ld Try.prog (24 : Nat) H' ⟨b, (3 : Nat), none⟩ (Value.slice a n c) ∧ brB (decide ((↑n : Int) > (0 : Int))) (M_1 [Value.bool true] H') (∃ n, Ld Try.prog (3 : Nat) H'
  ⟨b, (0 : Nat), none⟩ (Value.int IntKind.i64 n) ∧ brB (n != (3 : Int)) (∃ n, Ld Try.prog (3 : Nat) H' ⟨b, (4 : Nat), none⟩ (Value.int IntKind.i64 n) ∧ brB (n != (0 : Int)) (M_1 [Value.bool
  true] H') (∃ n, Ld Try.prog (3 : Nat) H' ⟨b, (4 : Nat), none⟩ (Value.int IntKind.i64 n) ∧ CallH Try.prog (42 : Nat) { toList := [Value.int IntKind.i64 n] } H' fun v H' => ∃ b_1, v =
  Value.bool b_1 ∧ brB (!b_1) (M_1 [Value.bool true] H') (∃ a n c, Ld Try.prog (23 : Nat) H' ⟨b, (2 : Nat), none⟩ (Value.slice a n c) ∧ brB (decide ((↑n : Int) > (5000 : Int))) (M_1
  [Value.bool true] H') (∃ a n c, Ld Try.prog (24 : Nat) H' ⟨b, (3 : Nat), none⟩ (Value.slice a n c) ∧ M_1 [Value.bool (decide ((↑n : Int) > (5000 : Int)))] H')))) (∃ n, Ld Try.prog (3 : Nat)
  H' ⟨b, (4 : Nat), none⟩ (Value.int IntKind.i64 n) ∧ CallH Try.prog (42 : Nat) { toList := [Value.int IntKind.i64 n] } H' fun v H' => ∃ b_1, v = Value.bool b_1 ∧ brB (!b_1) (M_1 [Value.bool
  true] H') (∃ a n c, Ld Try.prog (23 : Nat) H' ⟨b, (2 : Nat), none⟩ (Value.slice a n c) ∧ brB (decide ((↑n : Int) > (5000 : Int))) (M_1 [Value.bool true] H') (∃ a n c, Ld Try.prog (24 : Nat)
  H' ⟨b, (3 : Nat), none⟩ (Value.slice a n c) ∧ M_1 [Value.bool (decide ((↑n : Int) > (5000 : Int)))] H'))))) (∃ n, Ld Try.prog (3 : Nat) H' ⟨b, (0 : Nat), none⟩ (Value.int IntKind.i64 n) ∧
  brB (n != (3 : Int)) (∃ n, Ld Try.prog (3 : Nat) H' ⟨b, (4 : Nat), none⟩ (Value.int IntKind.i64 n) ∧ brB (n != (0 : Int)) (M_1 [Value.bool true] H') (∃ n, Ld Try.prog (3 : Nat) H' ⟨b, (4 :
  Nat), none⟩ (Value.int IntKind.i64 n) ∧ CallH Try.prog (42 : Nat) { toList := [Value.int IntKind.i64 n] } H' fun v H' => ∃ b_1, v = Value.bool b_1 ∧ brB (!b_1) (M_1 [Value.bool true] H') (∃
  a n c, Ld Try.prog (23 : Nat) H' ⟨b, (2 : Nat), none⟩ (Value.slice a n c) ∧ brB (decide ((↑n : Int) > (5000 : Int))) (M_1 [Value.bool true] H') (∃ a n c, Ld Try.prog (24 : Nat) H' ⟨b, (3 :
  Nat), none⟩ (Value.slice a n c) ∧ M_1 [Value.bool (decide ((↑n : Int) > (5000 : Int)))] H')))) (∃ n, Ld Try.prog (3 : Nat) H' ⟨b, (4 : Nat), none⟩ (Value.int IntKind.i64 n) ∧ CallH Try.prog
  (42 : Nat) { toList := [Value.int IntKind.i64 n] } H' fun v H' => ∃ b_1, v = Value.bool b_1 ∧ brB (!b_1) (M_1 [Value.bool true] H') (∃ a n c, Ld Try.prog (23 : Nat) H' ⟨b, (2 : Nat), none⟩
  (Value.slice a n c) ∧ brB (decide ((↑n : Int) > (5000 : Int))) (M_1 [Value.bool true] H') (∃ a n c, Ld Try.prog (24 : Nat) H' ⟨b, (3 : Nat), none⟩ (Value.slice a n c) ∧ M_1 [Value.bool
  (decide ((↑n : Int) > (5000 : Int)))] H')))))) (∃ n, Ld Try.prog (3 : Nat) H' ⟨b, (0 : Nat), none⟩ (Value.int IntKind.i64 n) ∧ brB (n != (2 : Int)) (∃ a n c, Ld Try.prog (24 : Nat) H' ⟨b, (3
  : Nat), none⟩ (Value.slice a n c) ∧ brB (decide ((↑n : Int) > (0 : Int))) (M_1 [Value.bool true] H') (∃ n, Ld Try.prog (3 : Nat) H' ⟨b, (0 : Nat), none⟩ (Value.int IntKind.i64 n) ∧ brB (n !=
  (3 : Int)) (∃ n, Ld Try.prog (3 : Nat) H' ⟨b, (4 : Nat), none⟩ (Value.int IntKind.i64 n) ∧ brB (n != (0 : Int)) (M_1 [Value.bool true] H') (∃ n, Ld Try.prog (3 : Nat) H' ⟨b, (4 : Nat), none⟩
  (Value.int IntKind.i64 n) ∧ CallH Try.prog (42 : Nat) { toList := [Value.int IntKind.i64 n] } H' fun v H' => ∃ b_1, v = Value.bool b_1 ∧ brB (!b_1) (M_1 [Value.bool true] H') (∃ a n c, Ld
  Try.prog (23 : Nat) H' ⟨b, (2 : Nat), none⟩ (Value.slice a n c) ∧ brB (decide ((↑n : Int) > (5000 : Int))) (M_1 [Value.bool true] H') (∃ a n c, Ld Try.prog (24 : Nat) H' ⟨b, (3 : Nat), none⟩
  (Value.slice a n c) ∧ M_1 [Value.bool (decide ((↑n : Int) > (5000 : Int)))] H')))) (∃ n, Ld Try.prog (3 : Nat) H' ⟨b, (4 : Nat), none⟩ (Value.int IntKind.i64 n) ∧ CallH Try.prog (42 : Nat) {
  toList := [Value.int IntKind.i64 n] } H' fun v H' => ∃ b_1, v = Value.bool b_1 ∧ brB (!b_1) (M_1 [Value.bool true] H') (∃ a n c, Ld Try.prog (23 : Nat) H' ⟨b, (2 : Nat), none⟩ (Value.slice a
  n c) ∧ brB (decide ((↑n : Int) > (5000 : Int))) (M_1 [Value.bool true] H') (∃ a n c, Ld Try.prog (24 : Nat) H' ⟨b, (3 : Nat), none⟩ (Value.slice a n c) ∧ M_1 [Value.bool (decide ((↑n : Int)
  > (5000 : Int)))] H'))))) (∃ n, Ld Try.prog (3 : Nat) H' ⟨b, (0 : Nat), none⟩ (Value.int IntKind.i64 n) ∧ brB (n != (3 : Int)) (∃ n, Ld Try.prog (3 : Nat) H' ⟨b, (4 : Nat), none⟩ (Value.int
  IntKind.i64 n) ∧ brB (n != (0 : Int)) (M_1 [Value.bool true] H') (∃ n, Ld Try.prog (3 : Nat) H' ⟨b, (4 : Nat), none⟩ (Value.int IntKind.i64 n) ∧ CallH Try.prog (42 : Nat) { toList :=
  [Value.int IntKind.i64 n] } H' fun v H' => ∃ b_1, v = Value.bool b_1 ∧ brB (!b_1) (M_1 [Value.bool true] H') (∃ a n c, Ld Try.prog (23 : Nat) H' ⟨b, (2 : Nat), none⟩ (Value.slice a n c) ∧
  brB (decide ((↑n : Int) > (5000 : Int))) (M_1 [Value.bool true] H') (∃ a n c, Ld Try.prog (24 : Nat) H' ⟨b, (3 : Nat), none⟩ (Value.slice a n c) ∧ M_1 [Value.bool (decide ((↑n : Int) > (5000
  : Int)))] H')))) (∃ n, Ld Try.prog (3 : Nat) H' ⟨b, (4 : Nat), none⟩ (Value.int IntKind.i64 n) ∧ CallH Try.prog (42 : Nat) { toList := [Value.int IntKind.i64 n] } H' fun v H' => ∃ b_1, v =
  Value.bool b_1 ∧ brB (!b_1) (M_1 [Value.bool true] H') (∃ a n c, Ld Try.prog (23 : Nat) H' ⟨b, (2 : Nat), none⟩ (Value.slice a n c) ∧ brB (decide ((↑n : Int) > (5000 : Int))) (M_1
  [Value.bool true] H') (∃ a n c, Ld Try.prog (24 : Nat) H' ⟨b, (3 : Nat), none⟩ (Value.slice a n c) ∧ M_1 [Value.bool (decide ((↑n : Int) > (5000 : Int)))] H'))))))))) ∧ ∀ (J : F) (b : Bool)
  (H' : Heap), M_1 [Value.bool b] H' → brB b (R (Value.bool false) H') (M [] H')) ∧ ∀ (J : F) (H' : Heap), M [] H' → ∃ (I : List Value → Heap → Prop) (μ : List Value → Heap → Nat), I
  [Value.int IntKind.i64 (0 : Int)] H' ∧ ∀ (J : F) (n : Int) (H' : Heap), I [Value.int IntKind.i64 n] H' → ∃ a n_1 c, Ld Try.prog (23 : Nat) H' ⟨b, (2 : Nat), none⟩ (Value.slice a n_1 c) ∧ brB
  (decide (n < (↑n_1 : Int))) (∃ a n_2 c, Ld Try.prog (23 : Nat) H' ⟨b, (2 : Nat), none⟩ (Value.slice a n_2 c) ∧ exSome a fun ad => chk (decide ((0 : Int) ≤ n ∧ n < (↑n_2 : Int))) (∃ n_3, Ld
  Try.prog (3 : Nat) H' (Addr.add ad (Int.toNat n * (3 : Nat))) (Value.int IntKind.i64 n_3) ∧ CallH Try.prog (42 : Nat) { toList := [Value.int IntKind.i64 n_3] } H' fun v H'_1 => ∃ b_1, v =
  Value.bool b_1 ∧ brB (!b_1) (R (Value.bool false) H'_1) (∃ a n_4 c, Ld Try.prog (23 : Nat) H'_1 ⟨b, (2 : Nat), none⟩ (Value.slice a n_4 c) ∧ exSome a fun ad => chk (decide ((0 : Int) ≤ n ∧ n
  < (↑n_4 : Int))) (∃ n_5, Ld Try.prog (3 : Nat) H'_1 (Addr.add (Addr.add ad (Int.toNat n * (3 : Nat))) (1 : Nat)) (Value.int IntKind.i64 n_5) ∧ CallH Try.prog (43 : Nat) { toList :=
  [Value.int IntKind.i64 n_5] } H'_1 fun v H'_2 => ∃ b, v = Value.bool b ∧ brB (!b) (R (Value.bool false) H'_2) (I [Value.int IntKind.i64 (IntKind.wrap IntKind.i64 (n + (1 : Int)))] H'_2 ∧ μ
  [Value.int IntKind.i64 (IntKind.wrap IntKind.i64 (n + (1 : Int)))] H'_2 < μ [Value.int IntKind.i64 n] H'))))) (∃ (I : List Value → Heap → Prop) (μ : List Value → Heap → Nat), I [Value.int
  IntKind.i64 (0 : Int)] H' ∧ ∀ (J : F) (n : Int) (H' : Heap), I [Value.int IntKind.i64 n] H' → ∃ a n_2 c, Ld Try.prog (24 : Nat) H' ⟨b, (3 : Nat), none⟩ (Value.slice a n_2 c) ∧ brB (decide (n
  < (↑n_2 : Int))) (∃ (M : List Value → Heap → Prop), (∃ a n_3 c, Ld Try.prog (24 : Nat) H' ⟨b, (3 : Nat), none⟩ (Value.slice a n_3 c) ∧ exSome a fun ad => chk (decide ((0 : Int) ≤ n ∧ n <
  (↑n_3 : Int))) (∃ n_4 n_5 n_6, Ld Try.prog (62 : Nat) H' (Addr.add ad (Int.toNat n * (3 : Nat))) (Value.agg { toList := [Value.int IntKind.i64 n_4, Value.int IntKind.i64 n_5, Value.int
  IntKind.i64 n_6] }) ∧ ∀ (b : Nat) (H'_1 : Heap), New H' b (Obj.cells { toList := [Value.int IntKind.i64 (0 : Int), Value.int IntKind.i64 (0 : Int), Value.int IntKind.i64 (0 : Int)] } (62 :
  Nat)) H'_1 → ∃ H', St Try.prog (62 : Nat) H'_1 ⟨b, (0 : Nat), none⟩ (Value.agg { toList := [Value.int IntKind.i64 n_4, Value.int IntKind.i64 n_5, Value.int IntKind.i64 n_6] }) H' ∧ ∃ n, Ld
  Try.prog (3 : Nat) H' ⟨b, (0 : Nat), none⟩ (Value.int IntKind.i64 n) ∧ CallH Try.prog (43 : Nat) { toList := [Value.int IntKind.i64 n] } H' fun v H' => ∃ b_1, v = Value.bool b_1 ∧ brB (!b_1)
  (R (Value.bool false) H') (∃ n, Ld Try.prog (3 : Nat) H' ⟨b, (1 : Nat), none⟩ (Value.int IntKind.i64 n) ∧ CallH Try.prog (42 : Nat) { toList := [Value.int IntKind.i64 n] } H' fun v H' => ∃
  b_2, v = Value.bool b_2 ∧ brB (!b_2) (R (Value.bool false) H') (∃ n, Ld Try.prog (3 : Nat) H' ⟨b, (2 : Nat), none⟩ (Value.int IntKind.i64 n) ∧ CallH Try.prog (42 : Nat) { toList :=
  [Value.int IntKind.i64 n] } H' fun v H' => ∃ b_3, v = Value.bool b_3 ∧ brB (!b_3) (R (Value.bool false) H') (∃ n, Ld Try.prog (3 : Nat) H' ⟨b, (1 : Nat), none⟩ (Value.int IntKind.i64 n) ∧ ∃
  n_7, Ld Try.prog (3 : Nat) H' ⟨b, (2 : Nat), none⟩ (Value.int IntKind.i64 n_7) ∧ brB (decide (n ≥ n_7)) (R (Value.bool false) H') (M [] H')))))) ∧ ∀ (J : F) (H'_1 : Heap), M [] H'_1 → I
  [Value.int IntKind.i64 (IntKind.wrap IntKind.i64 (n + (1 : Int)))] H'_1 ∧ μ [Value.int IntKind.i64 (IntKind.wrap IntKind.i64 (n + (1 : Int)))] H'_1 < μ [Value.int IntKind.i64 n] H') (R
  (Value.bool true) H'))) : CallH Try.prog 16 (List.toArray [Value.agg #[Value.int IntKind.i64 r_0, Value.slice r_1_a r_1_n r_1_c, Value.slice r_2_a r_2_n r_2_c, Value.slice r_3_a r_3_n r_3_c,
  Value.int IntKind.i64 r_4]]) H R := vc_call (annOf [([1], .cut []), ([0, 1], .cut [(74, .one .bool)]), ([0, 1, 0, 1, 1], .cut [(3, .one (.int .i64))]), ([0, 1, 0, 1, 1, 1], .cut [(4, .one
  (.int .i64))]), ([1, 0, 0, 1, 0, 1, 1, 1], .cut [])]) followsAll Go.Proofs.Try.func16 rfl Go.Proofs.Try.ntmps16 rfl rfl (Eq.mpr (by kernel_rfl) h)

/- 17 strandline/strandlineref11.u
  slots: [0=n, 1=n]  -/
abbrev fn_ref11_u : Nat := 17
theorem vc_ref11_u (n : Int) (H : Heap) (R : Value → Heap → Prop) (h : CallH Try.prog (44 : Nat) { toList := [Value.int IntKind.u64 (IntKind.wrap IntKind.u64 n)] } H fun v H' => ∃ s, v =
  Value.string s ∧ R (Value.string s) H') : CallH Try.prog 17 (List.toArray [Value.int IntKind.i64 n]) H R := vc_call (annOf []) followsAll Go.Proofs.Try.func17 rfl Go.Proofs.Try.ntmps17 rfl
  rfl (Eq.mpr (by kernel_rfl) h)

/- 18 strandline/strandlineref04.Print
  slots: [0=l, 1=l, 4=e, 5=s, 6=i]  -/
abbrev fn_ref04_Print : Nat := 18
theorem vc_ref04_Print (l_a : Option Addr) (l_n : Nat) (l_c : Nat) (H : Heap) (R : Value → Heap → Prop) (h : CallH Try.prog (45 : Nat) { toList := [Value.slice l_a l_n l_c] } H fun v H' => ∃
  n, v = Value.int IntKind.i64 n ∧ brB (n != (0 : Int)) (R (Value.tuple { toList := [Value.string { data := #[] }, Value.int IntKind.i64 n] }) H') (∃ (I : List Value → Heap → Prop) (μ : List
  Value → Heap → Nat), I [Value.string { data := #[(123 : UInt8)] }, Value.int IntKind.i64 (0 : Int)] H' ∧ ∀ (J : F) (s : ByteArray) (n : Int) (H' : Heap), I [Value.string s, Value.int
  IntKind.i64 n] H' → brB (decide (n < (↑l_n : Int))) (brB (decide (n > (0 : Int))) (chk (decide (ByteArray.size s + (1 : Nat) ≤ (9223372036854775807 : Nat))) (exSome l_a fun ad => chk (decide
  ((0 : Int) ≤ n ∧ n < (↑l_n : Int))) (∃ s_1, Ld Try.prog (9 : Nat) H' (Addr.add ad (Int.toNat n * (2 : Nat))) (Value.string s_1) ∧ chk (decide (ByteArray.size (s ++ { data := #[(44 : UInt8)]
  }) + ByteArray.size s_1 ≤ (9223372036854775807 : Nat))) (chk (decide (ByteArray.size (s ++ { data := #[(44 : UInt8)] } ++ s_1) + (1 : Nat) ≤ (9223372036854775807 : Nat))) (exSome l_a fun
  ad_1 => chk (decide ((0 : Int) ≤ n ∧ n < (↑l_n : Int))) (∃ s_2, Ld Try.prog (9 : Nat) H' (Addr.add (Addr.add ad_1 (Int.toNat n * (2 : Nat))) (1 : Nat)) (Value.string s_2) ∧ CallH Try.prog
  (46 : Nat) { toList := [Value.string s_2] } H' fun v H'_1 => ∃ s_3, v = Value.string s_3 ∧ Ld Try.prog (9 : Nat) H'_1 (Addr.add ad (Int.toNat n * (2 : Nat))) (Value.string s_1) ∧ chk (decide
  (ByteArray.size (s ++ { data := #[(44 : UInt8)] } ++ s_1 ++ { data := #[(61 : UInt8)] }) + ByteArray.size s_3 ≤ (9223372036854775807 : Nat))) (I [Value.string (s ++ { data := #[(44 : UInt8)]
  } ++ s_1 ++ { data := #[(61 : UInt8)] } ++ s_3), Value.int IntKind.i64 (IntKind.wrap IntKind.i64 (n + (1 : Int)))] H'_1 ∧ μ [Value.string (s ++ { data := #[(44 : UInt8)] } ++ s_1 ++ { data
  := #[(61 : UInt8)] } ++ s_3), Value.int IntKind.i64 (IntKind.wrap IntKind.i64 (n + (1 : Int)))] H'_1 < μ [Value.string s, Value.int IntKind.i64 n] H'))))))) (exSome l_a fun ad => chk (decide
  ((0 : Int) ≤ n ∧ n < (↑l_n : Int))) (∃ s_1, Ld Try.prog (9 : Nat) H' (Addr.add ad (Int.toNat n * (2 : Nat))) (Value.string s_1) ∧ chk (decide (ByteArray.size s + ByteArray.size s_1 ≤
  (9223372036854775807 : Nat))) (chk (decide (ByteArray.size (s ++ s_1) + (1 : Nat) ≤ (9223372036854775807 : Nat))) (exSome l_a fun ad_1 => chk (decide ((0 : Int) ≤ n ∧ n < (↑l_n : Int))) (∃
  s_2, Ld Try.prog (9 : Nat) H' (Addr.add (Addr.add ad_1 (Int.toNat n * (2 : Nat))) (1 : Nat)) (Value.string s_2) ∧ CallH Try.prog (46 : Nat) { toList := [Value.string s_2] } H' fun v H'_1 =>
  ∃ s_3, v = Value.string s_3 ∧ Ld Try.prog (9 : Nat) H'_1 (Addr.add ad (Int.toNat n * (2 : Nat))) (Value.string s_1) ∧ chk (decide (ByteArray.size (s ++ s_1 ++ { data := #[(61 : UInt8)] }) +
  ByteArray.size s_3 ≤ (9223372036854775807 : Nat))) (I [Value.string (s ++ s_1 ++ { data := #[(61 : UInt8)] } ++ s_3), Value.int IntKind.i64 (IntKind.wrap IntKind.i64 (n + (1 : Int)))] H'_1 ∧
  μ [Value.string (s ++ s_1 ++ { data := #[(61 : UInt8)] } ++ s_3), Value.int IntKind.i64 (IntKind.wrap IntKind.i64 (n + (1 : Int)))] H'_1 < μ [Value.string s, Value.int IntKind.i64 n]
  H'))))))) (chk (decide (ByteArray.size s + (1 : Nat) ≤ (9223372036854775807 : Nat))) (R (Value.tuple { toList := [Value.string (s ++ { data := #[(125 : UInt8)] }), Value.int IntKind.i64 (0 :
  Int)] }) H')))) : CallH Try.prog 18 (List.toArray [Value.slice l_a l_n l_c]) H R := vc_call (annOf [([0, 1, 0, 1, 1, 1, 1], .cut [(5, .one .str), (6, .one (.int .i64))]), ([1, 0, 0, 1, 0, 0,
  1, 0, 1, 1, 1, 1], .reg [0, 0, 0, 6, 14, 30, 63, 127, 0, 0, 768, 1792, 3840, 7936, 16383, 32767] (.quiet 0 (.quiet 1 (.quiet 2 (.quiet 3 (.quiet 4 (.quiet 5 (.quiet 6 (.quiet 7 (.quiet 8
  (.quiet 9 (.quiet 10 (.quiet 11 (.quiet 12 (.pick (.alt 13 (.quiet 14 (.quiet 15 .done)) .stop))))))))))))))))]) followsAll Go.Proofs.Try.func18 rfl Go.Proofs.Try.ntmps18 rfl rfl (Eq.mpr (by
  kernel_rfl) h)

/- 19 strandline/strandlineref01.Text
  slots: [0=s, 1=s]  -/
abbrev fn_ref01_Text : Nat := 19
theorem vc_ref01_Text (s : ByteArray) (H : Heap) (R : Value → Heap → Prop) (h : CallH Try.prog (44 : Nat) { toList := [Value.int IntKind.u64 (IntKind.wrap IntKind.u64 (↑(ByteArray.size s) :
  Int))] } H fun v H' => ∃ s_1, v = Value.string s_1 ∧ chk (decide (ByteArray.size s_1 + ByteArray.size s ≤ (9223372036854775807 : Nat))) (R (Value.string (s_1 ++ s)) H')) : CallH Try.prog 19
  (List.toArray [Value.string s]) H R := vc_call (annOf []) followsAll Go.Proofs.Try.func19 rfl Go.Proofs.Try.ntmps19 rfl rfl (Eq.mpr (by kernel_rfl) h)

/- 20 strandline/strandlineref01.Int
  slots: [0=n, 1=n]  -/
abbrev fn_ref01_Int : Nat := 20
theorem vc_ref01_Int (n : Int) (H : Heap) (R : Value → Heap → Prop) (h : CallH Try.prog (47 : Nat) { toList := [Value.int IntKind.i64 n] } H fun v H' => ∃ n, v = Value.int IntKind.u64 n ∧
  CallH Try.prog (44 : Nat) { toList := [Value.int IntKind.u64 n] } H' fun v H' => ∃ s, v = Value.string s ∧ R (Value.string s) H') : CallH Try.prog 20 (List.toArray [Value.int IntKind.i64 n])
  H R := vc_call (annOf []) followsAll Go.Proofs.Try.func20 rfl Go.Proofs.Try.ntmps20 rfl rfl (Eq.mpr (by kernel_rfl) h)

/- 21 (*strandline/wal.reader).number
  slots: [0=x, 1=most, 2=x, 3=most, 5=n, 6=next, 7=e]  -/
abbrev fn_wal_reader_number : Nat := 21
theorem vc_wal_reader_number (x : Addr) (most : Int) (H : Heap) (R : Value → Heap → Prop) (h : ∃ s, Ld Try.prog (9 : Nat) H x (Value.string s) ∧ ∃ n, Ld Try.prog (3 : Nat) H (Addr.add x (1 :
  Nat)) (Value.int IntKind.i64 n) ∧ CallH Try.prog (48 : Nat) { toList := [Value.string s, Value.int IntKind.i64 n] } H fun v H' => ∃ n n_1 n_2, v = Value.tuple { toList := [Value.int
  IntKind.u64 n, Value.int IntKind.i64 n_1, Value.int IntKind.i64 n_2] } ∧ ∃ (M : List Value → Heap → Prop), (∃ (M_1 : List Value → Heap → Prop), (∃ b, Ld Try.prog (4 : Nat) H' (Addr.add x (2
  : Nat)) (Value.bool b) ∧ brB (!b) (M_1 [Value.bool true] H') (brB (n_2 != (0 : Int)) (M_1 [Value.bool true] H') (M_1 [Value.bool (decide (n > IntKind.wrap IntKind.u64 most))] H'))) ∧ ∀ (J :
  F) (b : Bool) (H' : Heap), M_1 [Value.bool b] H' → brB b (∃ H'_1, St Try.prog (4 : Nat) H' (Addr.add x (2 : Nat)) (Value.bool false) H'_1 ∧ R (Value.int IntKind.i64 (0 : Int)) H'_1) (M []
  H')) ∧ ∀ (J : F) (H' : Heap), M [] H' → ∃ H'_1, St Try.prog (3 : Nat) H' (Addr.add x (1 : Nat)) (Value.int IntKind.i64 n_1) H'_1 ∧ R (Value.int IntKind.i64 (IntKind.wrap IntKind.i64 n))
  H'_1) : CallH Try.prog 21 (List.toArray [Value.pointer (some x), Value.int IntKind.i64 most]) H R := vc_call (annOf [([0, 1], .reg [0, 1, 3, 7, 0, 16, 48, 112, 255, 511, 1023, 1023, 1023,
  2047, 12287, 32767] (.quiet 0 (.quiet 1 (.quiet 2 (.quiet 3 (.quiet 4 (.quiet 5 (.quiet 6 (.quiet 7 (.pick (.alt 8 (.quiet 9 (.quiet 10 (.quiet 11 (.quiet 12 (.quiet 13 (.quiet 14 (.quiet 15
  .done))))))) .stop))))))))))), ([1, 1], .cut []), ([0, 1, 1], .cut [(35, .one .bool)])]) followsAll Go.Proofs.Try.func21 rfl Go.Proofs.Try.ntmps21 rfl rfl (Eq.mpr (by kernel_rfl) h)

/- 22 strandline/strandlineref04.Same
  slots: [0=a, 1=b, 2=a, 3=b, 5=i]  -/
abbrev fn_ref04_Same : Nat := 22
theorem vc_ref04_Same (a_a : Option Addr) (a_n : Nat) (a_c : Nat) (b_a : Option Addr) (b_n : Nat) (b_c : Nat) (H : Heap) (R : Value → Heap → Prop) (h : brB ((↑a_n : Int) != (↑b_n : Int)) (R
  (Value.bool false) H) (∃ (I : List Value → Heap → Prop) (μ : List Value → Heap → Nat), I [Value.int IntKind.i64 (0 : Int)] H ∧ ∀ (J : F) (n : Int) (H' : Heap), I [Value.int IntKind.i64 n] H'
  → brB (decide (n < (↑a_n : Int))) (exSome a_a fun ad => chk (decide ((0 : Int) ≤ n ∧ n < (↑a_n : Int))) (∃ s s_1, Ld Try.prog (44 : Nat) H' (Addr.add ad (Int.toNat n * (2 : Nat))) (Value.agg
  { toList := [Value.string s, Value.string s_1] }) ∧ exSome b_a fun ad => chk (decide ((0 : Int) ≤ n ∧ n < (↑b_n : Int))) (∃ s_2 s_3, Ld Try.prog (44 : Nat) H' (Addr.add ad (Int.toNat n * (2
  : Nat))) (Value.agg { toList := [Value.string s_2, Value.string s_3] }) ∧ brB (!(s == s_2 && (s_1 == s_3 && true))) (R (Value.bool false) H') (I [Value.int IntKind.i64 (IntKind.wrap
  IntKind.i64 (n + (1 : Int)))] H' ∧ μ [Value.int IntKind.i64 (IntKind.wrap IntKind.i64 (n + (1 : Int)))] H' < μ [Value.int IntKind.i64 n] H')))) (R (Value.bool true) H'))) : CallH Try.prog 22
  (List.toArray [Value.slice a_a a_n a_c, Value.slice b_a b_n b_c]) H R := vc_call (annOf [([0, 1, 0, 1, 1], .cut [(5, .one (.int .i64))])]) followsAll Go.Proofs.Try.func22 rfl
  Go.Proofs.Try.ntmps22 rfl rfl (Eq.mpr (by kernel_rfl) h)

/- 23 strandline/strandlineref11.read
  slots: [0=s, 1=s, 4=h, 5=at, 6=r, 7=t, 8=_, 9=e, 10=l, 11=f, 12=n, 13=next, 14=i, 15=l, 16=b, 17=v, 18=c, 19=e, 20=l, 21=b]  -/
abbrev fn_ref11_read : Nat := 23
theorem vc_ref11_read (s : ByteArray) (H : Heap) (R : Value → Heap → Prop) (h : ∀ (b : Nat) (H' : Heap), New H b (Obj.cells { toList := [Value.int IntKind.i64 (0 : Int), Value.slice none (0
  : Nat) (0 : Nat), Value.slice none (0 : Nat) (0 : Nat), Value.slice none (0 : Nat) (0 : Nat), Value.int IntKind.i64 (0 : Int)] } (33 : Nat)) H' → CallH Try.prog (49 : Nat) { toList :=
  [Value.string s, Value.int IntKind.i64 (0 : Int), Value.int IntKind.i64 (1 : Int)] } H' fun v H' => ∃ a n c n_1, v = Value.tuple { toList := [Value.slice a n c, Value.int IntKind.i64 n_1] }
  ∧ brB (decide (n_1 < (0 : Int))) (∃ H'_1, St Try.prog (33 : Nat) H' ⟨b, (0 : Nat), none⟩ (Value.agg { toList := [Value.int IntKind.i64 (0 : Int), Value.slice none (0 : Nat) (0 : Nat),
  Value.slice none (0 : Nat) (0 : Nat), Value.slice none (0 : Nat) (0 : Nat), Value.int IntKind.i64 (0 : Int)] }) H'_1 ∧ ∃ n a n_2 c a_1 n_3 c_1 a_2 n_4 c_2 n_5, Ld Try.prog (33 : Nat) H'_1
  ⟨b, (0 : Nat), none⟩ (Value.agg { toList := [Value.int IntKind.i64 n, Value.slice a n_2 c, Value.slice a_1 n_3 c_1, Value.slice a_2 n_4 c_2, Value.int IntKind.i64 n_5] }) ∧ R (Value.tuple {
  toList := [Value.agg { toList := [Value.int IntKind.i64 n, Value.slice a n_2 c, Value.slice a_1 n_3 c_1, Value.slice a_2 n_4 c_2, Value.int IntKind.i64 n_5] }, Value.bool false] }) H'_1)
  (exSome a fun ad => chk (decide ((0 : Int) ≤ (0 : Int) ∧ (0 : Int) < (↑n : Int))) (∃ n, Ld Try.prog (3 : Nat) H' ad (Value.int IntKind.i64 n) ∧ ∀ (b_1 : Nat) (H'_1 : Heap), New H' b_1
  (Obj.cells { toList := [Value.int IntKind.i64 (0 : Int), Value.slice none (0 : Nat) (0 : Nat), Value.slice none (0 : Nat) (0 : Nat), Value.slice none (0 : Nat) (0 : Nat), Value.int
  IntKind.i64 (0 : Int)] } (33 : Nat)) H'_1 → ∃ H', St Try.prog (33 : Nat) H'_1 ⟨b_1, (0 : Nat), none⟩ (Value.agg { toList := [Value.int IntKind.i64 n, Value.slice none (0 : Nat) (0 : Nat),
  Value.slice none (0 : Nat) (0 : Nat), Value.slice none (0 : Nat) (0 : Nat), Value.int IntKind.i64 (0 : Int)] }) H' ∧ ∃ n, Ld Try.prog (3 : Nat) H' ⟨b_1, (0 : Nat), none⟩ (Value.int
  IntKind.i64 n) ∧ brB (n == (0 : Int)) (CallH Try.prog (50 : Nat) { toList := [Value.string s, Value.int IntKind.i64 n_1] } H' fun v H' => ∃ s n n_2, v = Value.tuple { toList := [Value.string
  s, Value.int IntKind.i64 n, Value.int IntKind.i64 n_2] } ∧ CallH Try.prog (51 : Nat) { toList := [Value.string s] } H' fun v H' => ∃ a n c n_3, v = Value.tuple { toList := [Value.slice a n
  c, Value.int IntKind.i64 n_3] } ∧ ∃ H'_2, St Try.prog (22 : Nat) H' ⟨b_1, (1 : Nat), none⟩ (Value.slice a n c) H'_2 ∧ ∃ n a n_4 c a_1 n_5 c_1 a_2 n_6 c_2 n_7, Ld Try.prog (33 : Nat) H'_2
  ⟨b_1, (0 : Nat), none⟩ (Value.agg { toList := [Value.int IntKind.i64 n, Value.slice a n_4 c, Value.slice a_1 n_5 c_1, Value.slice a_2 n_6 c_2, Value.int IntKind.i64 n_7] }) ∧ brB (n_2 == (0
  : Int)) (∃ H', St Try.prog (33 : Nat) H'_2 ⟨b, (0 : Nat), none⟩ (Value.agg { toList := [Value.int IntKind.i64 n, Value.slice a n_4 c, Value.slice a_1 n_5 c_1, Value.slice a_2 n_6 c_2,
  Value.int IntKind.i64 n_7] }) H' ∧ ∃ n a n_8 c a_3 n_9 c_3 a_4 n_10 c_4 n_11, Ld Try.prog (33 : Nat) H' ⟨b, (0 : Nat), none⟩ (Value.agg { toList := [Value.int IntKind.i64 n, Value.slice a
  n_8 c, Value.slice a_3 n_9 c_3, Value.slice a_4 n_10 c_4, Value.int IntKind.i64 n_11] }) ∧ R (Value.tuple { toList := [Value.agg { toList := [Value.int IntKind.i64 n, Value.slice a n_8 c,
  Value.slice a_3 n_9 c_3, Value.slice a_4 n_10 c_4, Value.int IntKind.i64 n_11] }, Value.bool (n_3 == (0 : Int))] }) H') (∃ H', St Try.prog (33 : Nat) H'_2 ⟨b, (0 : Nat), none⟩ (Value.agg {
  toList := [Value.int IntKind.i64 n, Value.slice a n_4 c, Value.slice a_1 n_5 c_1, Value.slice a_2 n_6 c_2, Value.int IntKind.i64 n_7] }) H' ∧ ∃ n a n_8 c a_3 n_9 c_3 a_4 n_10 c_4 n_11, Ld
  Try.prog (33 : Nat) H' ⟨b, (0 : Nat), none⟩ (Value.agg { toList := [Value.int IntKind.i64 n, Value.slice a n_8 c, Value.slice a_3 n_9 c_3, Value.slice a_4 n_10 c_4, Value.int IntKind.i64
  n_11] }) ∧ R (Value.tuple { toList := [Value.agg { toList := [Value.int IntKind.i64 n, Value.slice a n_8 c, Value.slice a_3 n_9 c_3, Value.slice a_4 n_10 c_4, Value.int IntKind.i64 n_11] },
  Value.bool false] }) H')) (CallH Try.prog (49 : Nat) { toList := [Value.string s, Value.int IntKind.i64 n_1, Value.int IntKind.i64 (1 : Int)] } H' fun v H' => ∃ a n c n_2, v = Value.tuple {
  toList := [Value.slice a n c, Value.int IntKind.i64 n_2] } ∧ brB (decide (n_2 < (0 : Int))) (∃ H'_2, St Try.prog (33 : Nat) H' ⟨b, (0 : Nat), none⟩ (Value.agg { toList := [Value.int
  IntKind.i64 (0 : Int), Value.slice none (0 : Nat) (0 : Nat), Value.slice none (0 : Nat) (0 : Nat), Value.slice none (0 : Nat) (0 : Nat), Value.int IntKind.i64 (0 : Int)] }) H'_2 ∧ ∃ n a n_3
  c a_1 n_4 c_1 a_2 n_5 c_2 n_6, Ld Try.prog (33 : Nat) H'_2 ⟨b, (0 : Nat), none⟩ (Value.agg { toList := [Value.int IntKind.i64 n, Value.slice a n_3 c, Value.slice a_1 n_4 c_1, Value.slice a_2
  n_5 c_2, Value.int IntKind.i64 n_6] }) ∧ R (Value.tuple { toList := [Value.agg { toList := [Value.int IntKind.i64 n, Value.slice a n_3 c, Value.slice a_1 n_4 c_1, Value.slice a_2 n_5 c_2,
  Value.int IntKind.i64 n_6] }, Value.bool false] }) H'_2) (∃ n_3, Ld Try.prog (3 : Nat) H' ⟨b_1, (0 : Nat), none⟩ (Value.int IntKind.i64 n_3) ∧ brB (n_3 == (3 : Int)) (exSome a fun ad => chk
  (decide ((0 : Int) ≤ (0 : Int) ∧ (0 : Int) < (↑n : Int))) (∃ n, Ld Try.prog (3 : Nat) H' ad (Value.int IntKind.i64 n) ∧ ∃ H'_2, St Try.prog (3 : Nat) H' ⟨b_1, (4 : Nat), none⟩ (Value.int
  IntKind.i64 n) H'_2 ∧ ∃ n a n_4 c a_1 n_5 c_1 a_2 n_6 c_2 n_7, Ld Try.prog (33 : Nat) H'_2 ⟨b_1, (0 : Nat), none⟩ (Value.agg { toList := [Value.int IntKind.i64 n, Value.slice a n_4 c,
  Value.slice a_1 n_5 c_1, Value.slice a_2 n_6 c_2, Value.int IntKind.i64 n_7] }) ∧ ∃ H', St Try.prog (33 : Nat) H'_2 ⟨b, (0 : Nat), none⟩ (Value.agg { toList := [Value.int IntKind.i64 n,
  Value.slice a n_4 c, Value.slice a_1 n_5 c_1, Value.slice a_2 n_6 c_2, Value.int IntKind.i64 n_7] }) H' ∧ ∃ n a n_8 c a_3 n_9 c_3 a_4 n_10 c_4 n_11, Ld Try.prog (33 : Nat) H' ⟨b, (0 : Nat),
  none⟩ (Value.agg { toList := [Value.int IntKind.i64 n, Value.slice a n_8 c, Value.slice a_3 n_9 c_3, Value.slice a_4 n_10 c_4, Value.int IntKind.i64 n_11] }) ∧ R (Value.tuple { toList :=
  [Value.agg { toList := [Value.int IntKind.i64 n, Value.slice a n_8 c, Value.slice a_3 n_9 c_3, Value.slice a_4 n_10 c_4, Value.int IntKind.i64 n_11] }, Value.bool true] }) H')) (∃ (I : List
  Value → Heap → Prop) (μ : List Value → Heap → Nat), I [Value.int IntKind.i64 n_2, Value.int IntKind.i64 (0 : Int)] H' ∧ ∀ (J : F) (n_4 n_5 : Int) (H' : Heap), I [Value.int IntKind.i64 n_4,
  Value.int IntKind.i64 n_5] H' → ∃ (M : List Value → Heap → Prop), (exSome a fun ad => chk (decide ((0 : Int) ≤ (0 : Int) ∧ (0 : Int) < (↑n : Int))) (∃ n, Ld Try.prog (3 : Nat) H' ad
  (Value.int IntKind.i64 n) ∧ brB (decide (n_5 < n)) (brB (decide (n_5 ≤ (5000 : Int))) (M [] H') (∃ n a n_6 c a_2 n_7 c_1 a_3 n_8 c_2 n_9, Ld Try.prog (33 : Nat) H' ⟨b_1, (0 : Nat), none⟩
  (Value.agg { toList := [Value.int IntKind.i64 n, Value.slice a n_6 c, Value.slice a_2 n_7 c_1, Value.slice a_3 n_8 c_2, Value.int IntKind.i64 n_9] }) ∧ ∃ H'_2, St Try.prog (33 : Nat) H' ⟨b,
  (0 : Nat), none⟩ (Value.agg { toList := [Value.int IntKind.i64 n, Value.slice a n_6 c, Value.slice a_2 n_7 c_1, Value.slice a_3 n_8 c_2, Value.int IntKind.i64 n_9] }) H'_2 ∧ ∃ n a n_10 c a_4
  n_11 c_3 a_5 n_12 c_4 n_13, Ld Try.prog (33 : Nat) H'_2 ⟨b, (0 : Nat), none⟩ (Value.agg { toList := [Value.int IntKind.i64 n, Value.slice a n_10 c, Value.slice a_4 n_11 c_3, Value.slice a_5
  n_12 c_4, Value.int IntKind.i64 n_13] }) ∧ R (Value.tuple { toList := [Value.agg { toList := [Value.int IntKind.i64 n, Value.slice a n_10 c, Value.slice a_4 n_11 c_3, Value.slice a_5 n_12
  c_4, Value.int IntKind.i64 n_13] }, Value.bool true] }) H'_2)) (∃ n a n_6 c a_2 n_7 c_1 a_3 n_8 c_2 n_9, Ld Try.prog (33 : Nat) H' ⟨b_1, (0 : Nat), none⟩ (Value.agg { toList := [Value.int
  IntKind.i64 n, Value.slice a n_6 c, Value.slice a_2 n_7 c_1, Value.slice a_3 n_8 c_2, Value.int IntKind.i64 n_9] }) ∧ ∃ H'_2, St Try.prog (33 : Nat) H' ⟨b, (0 : Nat), none⟩ (Value.agg {
  toList := [Value.int IntKind.i64 n, Value.slice a n_6 c, Value.slice a_2 n_7 c_1, Value.slice a_3 n_8 c_2, Value.int IntKind.i64 n_9] }) H'_2 ∧ ∃ n a n_10 c a_4 n_11 c_3 a_5 n_12 c_4 n_13,
  Ld Try.prog (33 : Nat) H'_2 ⟨b, (0 : Nat), none⟩ (Value.agg { toList := [Value.int IntKind.i64 n, Value.slice a n_10 c, Value.slice a_4 n_11 c_3, Value.slice a_5 n_12 c_4, Value.int
  IntKind.i64 n_13] }) ∧ R (Value.tuple { toList := [Value.agg { toList := [Value.int IntKind.i64 n, Value.slice a n_10 c, Value.slice a_4 n_11 c_3, Value.slice a_5 n_12 c_4, Value.int
  IntKind.i64 n_13] }, Value.bool true] }) H'_2))) ∧ ∀ (J : F) (H'_2 : Heap), M [] H'_2 → ∃ n, Ld Try.prog (3 : Nat) H'_2 ⟨b_1, (0 : Nat), none⟩ (Value.int IntKind.i64 n) ∧ brB (n == (1 :
  Int)) (CallH Try.prog (49 : Nat) { toList := [Value.string s, Value.int IntKind.i64 n_4, Value.int IntKind.i64 (2 : Int)] } H'_2 fun v H'_3 => ∃ a n c n_6, v = Value.tuple { toList :=
  [Value.slice a n c, Value.int IntKind.i64 n_6] } ∧ brB (decide (n_6 < (0 : Int))) (∃ H', St Try.prog (33 : Nat) H'_3 ⟨b, (0 : Nat), none⟩ (Value.agg { toList := [Value.int IntKind.i64 (0 :
  Int), Value.slice none (0 : Nat) (0 : Nat), Value.slice none (0 : Nat) (0 : Nat), Value.slice none (0 : Nat) (0 : Nat), Value.int IntKind.i64 (0 : Int)] }) H' ∧ ∃ n a n_7 c a_2 n_8 c_1 a_3
  n_9 c_2 n_10, Ld Try.prog (33 : Nat) H' ⟨b, (0 : Nat), none⟩ (Value.agg { toList := [Value.int IntKind.i64 n, Value.slice a n_7 c, Value.slice a_2 n_8 c_1, Value.slice a_3 n_9 c_2, Value.int
  IntKind.i64 n_10] }) ∧ R (Value.tuple { toList := [Value.agg { toList := [Value.int IntKind.i64 n, Value.slice a n_7 c, Value.slice a_2 n_8 c_1, Value.slice a_3 n_9 c_2, Value.int
  IntKind.i64 n_10] }, Value.bool false] }) H') (CallH Try.prog (52 : Nat) { toList := [Value.string s, Value.int IntKind.i64 n_6] } H'_3 fun v H'_4 => ∃ n_7 n_8 n_9, v = Value.tuple { toList
  := [Value.int IntKind.i64 n_7, Value.int IntKind.i64 n_8, Value.int IntKind.i64 n_9] } ∧ brB (n_9 != (0 : Int)) (∃ H', St Try.prog (33 : Nat) H'_4 ⟨b, (0 : Nat), none⟩ (Value.agg { toList :=
  [Value.int IntKind.i64 (0 : Int), Value.slice none (0 : Nat) (0 : Nat), Value.slice none (0 : Nat) (0 : Nat), Value.slice none (0 : Nat) (0 : Nat), Value.int IntKind.i64 (0 : Int)] }) H' ∧ ∃
  n a n_10 c a_2 n_11 c_1 a_3 n_12 c_2 n_13, Ld Try.prog (33 : Nat) H' ⟨b, (0 : Nat), none⟩ (Value.agg { toList := [Value.int IntKind.i64 n, Value.slice a n_10 c, Value.slice a_2 n_11 c_1,
  Value.slice a_3 n_12 c_2, Value.int IntKind.i64 n_13] }) ∧ R (Value.tuple { toList := [Value.agg { toList := [Value.int IntKind.i64 n, Value.slice a n_10 c, Value.slice a_2 n_11 c_1,
  Value.slice a_3 n_12 c_2, Value.int IntKind.i64 n_13] }, Value.bool false] }) H') (∃ a_2 n_10 c, Ld Try.prog (23 : Nat) H'_4 ⟨b_1, (2 : Nat), none⟩ (Value.slice a_2 n_10 c) ∧ exSome a fun ad
  => chk (decide ((0 : Int) ≤ (0 : Int) ∧ (0 : Int) < (↑n : Int))) (∃ n_11, Ld Try.prog (3 : Nat) H'_4 ad (Value.int IntKind.i64 n_11) ∧ exSome a fun ad => chk (decide ((0 : Int) ≤ (1 : Int) ∧
  (1 : Int) < (↑n : Int))) (∃ n, Ld Try.prog (3 : Nat) H'_4 (Addr.add ad (1 : Nat)) (Value.int IntKind.i64 n) ∧ ∀ (b : Nat) (H'_5 : Heap), New H'_4 b (Obj.cells { toList := [Value.int
  IntKind.i64 n_11, Value.int IntKind.i64 n, Value.int IntKind.i64 n_7] } (58 : Nat)) H'_5 → Ld Try.prog (23 : Nat) H'_5 ⟨b_1, (2 : Nat), none⟩ (Value.slice a_2 n_10 c) ∧ SemWp Try.prog
  (Builtin.append_ { toList := [(23 : Nat), (23 : Nat)] } (23 : Nat) { toList := [Value.slice a_2 n_10 c, Value.slice (some ⟨b, (0 : Nat), none⟩) (1 : Nat) (1 : Nat)] }) H'_5 fun v H'_6 => ∃ a
  n c, v = Value.slice a n c ∧ ∃ H'_7, St Try.prog (23 : Nat) H'_6 ⟨b_1, (2 : Nat), none⟩ (Value.slice a n c) H'_7 ∧ I [Value.int IntKind.i64 n_8, Value.int IntKind.i64 (IntKind.wrap
  IntKind.i64 (n_5 + (1 : Int)))] H'_7 ∧ μ [Value.int IntKind.i64 n_8, Value.int IntKind.i64 (IntKind.wrap IntKind.i64 (n_5 + (1 : Int)))] H'_7 < μ [Value.int IntKind.i64 n_4, Value.int
  IntKind.i64 n_5] H'))))) (CallH Try.prog (49 : Nat) { toList := [Value.string s, Value.int IntKind.i64 n_4, Value.int IntKind.i64 (3 : Int)] } H'_2 fun v H'_3 => ∃ a n c n_6, v = Value.tuple
  { toList := [Value.slice a n c, Value.int IntKind.i64 n_6] } ∧ brB (decide (n_6 < (0 : Int))) (∃ H', St Try.prog (33 : Nat) H'_3 ⟨b, (0 : Nat), none⟩ (Value.agg { toList := [Value.int
  IntKind.i64 (0 : Int), Value.slice none (0 : Nat) (0 : Nat), Value.slice none (0 : Nat) (0 : Nat), Value.slice none (0 : Nat) (0 : Nat), Value.int IntKind.i64 (0 : Int)] }) H' ∧ ∃ n a n_7 c
  a_2 n_8 c_1 a_3 n_9 c_2 n_10, Ld Try.prog (33 : Nat) H' ⟨b, (0 : Nat), none⟩ (Value.agg { toList := [Value.int IntKind.i64 n, Value.slice a n_7 c, Value.slice a_2 n_8 c_1, Value.slice a_3
  n_9 c_2, Value.int IntKind.i64 n_10] }) ∧ R (Value.tuple { toList := [Value.agg { toList := [Value.int IntKind.i64 n, Value.slice a n_7 c, Value.slice a_2 n_8 c_1, Value.slice a_3 n_9 c_2,
  Value.int IntKind.i64 n_10] }, Value.bool false] }) H') (∃ a_2 n_7 c, Ld Try.prog (24 : Nat) H'_3 ⟨b_1, (3 : Nat), none⟩ (Value.slice a_2 n_7 c) ∧ exSome a fun ad => chk (decide ((0 : Int) ≤
  (0 : Int) ∧ (0 : Int) < (↑n : Int))) (∃ n_8, Ld Try.prog (3 : Nat) H'_3 ad (Value.int IntKind.i64 n_8) ∧ exSome a fun ad => chk (decide ((0 : Int) ≤ (1 : Int) ∧ (1 : Int) < (↑n : Int))) (∃
  n_9, Ld Try.prog (3 : Nat) H'_3 (Addr.add ad (1 : Nat)) (Value.int IntKind.i64 n_9) ∧ exSome a fun ad => chk (decide ((0 : Int) ≤ (2 : Int) ∧ (2 : Int) < (↑n : Int))) (∃ n, Ld Try.prog (3 :
  Nat) H'_3 (Addr.add ad (2 : Nat)) (Value.int IntKind.i64 n) ∧ ∀ (b : Nat) (H'_4 : Heap), New H'_3 b (Obj.cells { toList := [Value.int IntKind.i64 n_8, Value.int IntKind.i64 n_9, Value.int
  IntKind.i64 n] } (62 : Nat)) H'_4 → Ld Try.prog (24 : Nat) H'_4 ⟨b_1, (3 : Nat), none⟩ (Value.slice a_2 n_7 c) ∧ SemWp Try.prog (Builtin.append_ { toList := [(24 : Nat), (24 : Nat)] } (24 :
  Nat) { toList := [Value.slice a_2 n_7 c, Value.slice (some ⟨b, (0 : Nat), none⟩) (1 : Nat) (1 : Nat)] }) H'_4 fun v H'_5 => ∃ a n c, v = Value.slice a n c ∧ ∃ H'_6, St Try.prog (24 : Nat)
  H'_5 ⟨b_1, (3 : Nat), none⟩ (Value.slice a n c) H'_6 ∧ I [Value.int IntKind.i64 n_6, Value.int IntKind.i64 (IntKind.wrap IntKind.i64 (n_5 + (1 : Int)))] H'_6 ∧ μ [Value.int IntKind.i64 n_6,
  Value.int IntKind.i64 (IntKind.wrap IntKind.i64 (n_5 + (1 : Int)))] H'_6 < μ [Value.int IntKind.i64 n_4, Value.int IntKind.i64 n_5] H'))))))))))) : CallH Try.prog 23 (List.toArray
  [Value.string s]) H R := vc_call (annOf [([0, 1, 0, 1, 1, 1, 1, 1, 1, 1, 1], .cut [(13, .one (.int .i64)), (14, .one (.int .i64))]), ([0, 0, 1, 0, 1, 1, 1, 1, 1, 1, 1, 1], .cut []), ([0, 1,
  1, 1, 1, 0, 1, 0, 0, 1, 0, 0, 1, 0, 1, 1, 1, 1, 1, 1, 1, 1], .reg [0, 1, 0, 4, 12, 0, 32, 96, 0, 508, 1020, 2047, 4095, 8191] (.quiet 0 (.quiet 1 (.quiet 2 (.quiet 3 (.quiet 4 (.quiet 5
  (.quiet 6 (.quiet 7 (.quiet 8 (.quiet 9 (.pick (.alt 10 (.pick (.alt 11 (.quiet 12 (.pick (.alt 13 (.done) .stop))) .stop)) .stop))))))))))))), ([0, 1, 1, 1, 1, 0, 0, 1, 0, 0, 1, 0, 1, 1, 1,
  1, 1, 1, 1, 1], .reg [0, 1, 0, 4, 12, 0, 32, 96, 0, 256, 768, 2016, 4092, 8188, 16383, 32767, 65535] (.quiet 0 (.quiet 1 (.quiet 2 (.quiet 3 (.quiet 4 (.quiet 5 (.quiet 6 (.quiet 7 (.quiet 8
  (.quiet 9 (.quiet 10 (.quiet 11 (.quiet 12 (.pick (.alt 13 (.pick (.alt 14 (.quiet 15 (.pick (.alt 16 (.done) .stop))) .stop)) .stop))))))))))))))))]) followsAll Go.Proofs.Try.func23 rfl
  Go.Proofs.Try.ntmps23 rfl rfl (Eq.mpr (by kernel_rfl) h)

/- 24 strandline/wal.within
  slots: [0=n, 1=most, 2=n, 3=most]  -/
abbrev fn_wal_within : Nat := 24
theorem vc_wal_within (n : Int) (most : Int) (H : Heap) (R : Value → Heap → Prop) (h : brB (decide (n ≥ (0 : Int))) (R (Value.bool (decide (n ≤ most))) H) (R (Value.bool false) H)) : CallH
  Try.prog 24 (List.toArray [Value.int IntKind.i64 n, Value.int IntKind.i64 most]) H R := vc_call (annOf []) followsAll Go.Proofs.Try.func24 rfl Go.Proofs.Try.ntmps24 rfl rfl (Eq.mpr (by
  kernel_rfl) h)

/- 25 strandline/wal.forms$1
  slots: [0=r, 1=r, 4=t, 5=e]  -/
abbrev fn_wal_forms_1 : Nat := 25
theorem vc_wal_forms_1 (r : Addr) (H : Heap) (R : Value → Heap → Prop) (h : ∃ a n c, Ld Try.prog (22 : Nat) H (Addr.add r (1 : Nat)) (Value.slice a n c) ∧ CallH Try.prog (26 : Nat) { toList
  := [Value.slice a n c] } H fun v H' => ∃ s n, v = Value.tuple { toList := [Value.string s, Value.int IntKind.i64 n] } ∧ CallH Try.prog (27 : Nat) { toList := [Value.string s] } H' fun v H'
  => ∃ s, v = Value.string s ∧ R (Value.tuple { toList := [Value.string s, Value.int IntKind.i64 n] }) H') : CallH Try.prog 25 (List.toArray [Value.pointer (some r)]) H R := vc_call (annOf [])
  followsAll Go.Proofs.Try.func25 rfl Go.Proofs.Try.ntmps25 rfl rfl (Eq.mpr (by kernel_rfl) h)

/- 26 strandline/label.Print
  slots: [0=l, 1=l, 4=e, 5=parts, 6=_, 7=x]  -/
abbrev fn_label_Print : Nat := 26
theorem vc_label_Print (l_a : Option Addr) (l_n : Nat) (l_c : Nat) (H : Heap) (R : Value → Heap → Prop) (h : CallH Try.prog (53 : Nat) { toList := [Value.slice l_a l_n l_c] } H fun v H' => ∃
  n, v = Value.int IntKind.i64 n ∧ brB (n != (0 : Int)) (R (Value.tuple { toList := [Value.string { data := #[] }, Value.int IntKind.i64 n] }) H') (∃ (I : List Value → Heap → Prop) (μ : List
  Value → Heap → Nat), I [Value.slice none (0 : Nat) (0 : Nat), Value.int IntKind.i64 (0 : Int)] H' ∧ ∀ (J : F) (a : Option Addr) (n c : Nat) (n_1 : Int) (H' : Heap), I [Value.slice a n c,
  Value.int IntKind.i64 n_1] H' → brB (decide (n_1 < (↑l_n : Int))) (exSome l_a fun ad => chk (decide ((0 : Int) ≤ n_1 ∧ n_1 < (↑l_n : Int))) (∃ s s_1, Ld Try.prog (44 : Nat) H' (Addr.add ad
  (Int.toNat n_1 * (2 : Nat))) (Value.agg { toList := [Value.string s, Value.string s_1] }) ∧ ∀ (b : Nat) (H'_1 : Heap), New H' b (Obj.cells { toList := [Value.string { data := #[] },
  Value.string { data := #[] }] } (44 : Nat)) H'_1 → ∃ H'_2, St Try.prog (44 : Nat) H'_1 ⟨b, (0 : Nat), none⟩ (Value.agg { toList := [Value.string s, Value.string s_1] }) H'_2 ∧ ∃ s, Ld
  Try.prog (9 : Nat) H'_2 ⟨b, (0 : Nat), none⟩ (Value.string s) ∧ chk (decide (ByteArray.size s + (1 : Nat) ≤ (9223372036854775807 : Nat))) (∃ s_2, Ld Try.prog (9 : Nat) H'_2 ⟨b, (1 : Nat),
  none⟩ (Value.string s_2) ∧ CallH Try.prog (54 : Nat) { toList := [Value.string s_2] } H'_2 fun v H'_3 => ∃ s_3, v = Value.string s_3 ∧ Ld Try.prog (9 : Nat) H'_3 ⟨b, (0 : Nat), none⟩
  (Value.string s) ∧ chk (decide (ByteArray.size (s ++ { data := #[(61 : UInt8)] }) + ByteArray.size s_3 ≤ (9223372036854775807 : Nat))) (∀ (b : Nat) (H'_4 : Heap), New H'_3 b (Obj.cells {
  toList := [Value.string (s ++ { data := #[(61 : UInt8)] } ++ s_3)] } (9 : Nat)) H'_4 → SemWp Try.prog (Builtin.append_ { toList := [(98 : Nat), (98 : Nat)] } (98 : Nat) { toList :=
  [Value.slice a n c, Value.slice (some ⟨b, (0 : Nat), none⟩) (1 : Nat) (1 : Nat)] }) H'_4 fun v H'_5 => ∃ a_4 n_2 c_1, v = Value.slice a_4 n_2 c_1 ∧ I [Value.slice a_4 n_2 c_1, Value.int
  IntKind.i64 (IntKind.wrap IntKind.i64 (n_1 + (1 : Int)))] H'_5 ∧ μ [Value.slice a_4 n_2 c_1, Value.int IntKind.i64 (IntKind.wrap IntKind.i64 (n_1 + (1 : Int)))] H'_5 < μ [Value.slice a n c,
  Value.int IntKind.i64 n_1] H')))) (CallH Try.prog (55 : Nat) { toList := [Value.slice a n c, Value.string { data := #[(44 : UInt8)] }] } H' fun v H' => ∃ s, v = Value.string s ∧ chk (decide
  ((1 : Nat) + ByteArray.size s ≤ (9223372036854775807 : Nat))) (chk (decide (ByteArray.size ({ data := #[(123 : UInt8)] } ++ s) + (1 : Nat) ≤ (9223372036854775807 : Nat))) (R (Value.tuple {
  toList := [Value.string ({ data := #[(123 : UInt8)] } ++ s ++ { data := #[(125 : UInt8)] }), Value.int IntKind.i64 (0 : Int)] }) H'))))) : CallH Try.prog 26 (List.toArray [Value.slice l_a
  l_n l_c]) H R := vc_call (annOf [([0, 1, 0, 1, 1, 1], .cut [(5, .one .slice), (15, .one (.int .i64))]), ([1, 0, 0, 1, 1, 0, 0, 1, 0, 1, 1, 1], .reg [0, 0, 2, 6, 0, 16, 48, 126, 254, 511,
  1023] (.quiet 0 (.quiet 1 (.quiet 2 (.quiet 3 (.quiet 4 (.quiet 5 (.pick (.alt 6 (.quiet 7 (.pick (.alt 8 (.pick (.alt 9 (.quiet 10 .done) .stop)) .stop))) .stop)))))))))]) followsAll
  Go.Proofs.Try.func26 rfl Go.Proofs.Try.ntmps26 rfl rfl (Eq.mpr (by kernel_rfl) h)

/- 27 strandline/zig.Text
  slots: [0=s, 1=s]  -/
abbrev fn_zig_Text : Nat := 27
theorem vc_zig_Text (s : ByteArray) (H : Heap) (R : Value → Heap → Prop) (h : CallH Try.prog (40 : Nat) { toList := [Value.int IntKind.u64 (IntKind.wrap IntKind.u64 (↑(ByteArray.size s) :
  Int))] } H fun v H' => ∃ s_1, v = Value.string s_1 ∧ chk (decide (ByteArray.size s_1 + ByteArray.size s ≤ (9223372036854775807 : Nat))) (R (Value.string (s_1 ++ s)) H')) : CallH Try.prog 27
  (List.toArray [Value.string s]) H R := vc_call (annOf []) followsAll Go.Proofs.Try.func27 rfl Go.Proofs.Try.ntmps27 rfl rfl (Eq.mpr (by kernel_rfl) h)

/- 28 strandline/wal.forms$2
  slots: [0=r, 1=x, 2=r, 3=x, 4=t, 5=next, 6=e, 7=l, 8=f]  -/
abbrev fn_wal_forms_2 : Nat := 28
theorem vc_wal_forms_2 (r : Addr) (x : Addr) (H : Heap) (R : Value → Heap → Prop) (h : ∃ s, Ld Try.prog (9 : Nat) H x (Value.string s) ∧ ∃ n, Ld Try.prog (3 : Nat) H (Addr.add x (1 : Nat))
  (Value.int IntKind.i64 n) ∧ CallH Try.prog (29 : Nat) { toList := [Value.string s, Value.int IntKind.i64 n] } H fun v H' => ∃ s n n_1, v = Value.tuple { toList := [Value.string s, Value.int
  IntKind.i64 n, Value.int IntKind.i64 n_1] } ∧ CallH Try.prog (30 : Nat) { toList := [Value.string s] } H' fun v H' => ∃ a n_2 c n_3, v = Value.tuple { toList := [Value.slice a n_2 c,
  Value.int IntKind.i64 n_3] } ∧ ∃ b, Ld Try.prog (4 : Nat) H' (Addr.add x (2 : Nat)) (Value.bool b) ∧ brB b (brB (n_1 == (0 : Int)) (∃ H'_1, St Try.prog (22 : Nat) H' (Addr.add r (1 : Nat))
  (Value.slice a n_2 c) H'_1 ∧ ∃ H', St Try.prog (3 : Nat) H'_1 (Addr.add x (1 : Nat)) (Value.int IntKind.i64 n) H' ∧ ∃ H'_2, St Try.prog (4 : Nat) H' (Addr.add x (2 : Nat)) (Value.bool (n_3
  == (0 : Int))) H'_2 ∧ R (Value.tuple ⟨[]⟩) H'_2) (∃ H'_1, St Try.prog (22 : Nat) H' (Addr.add r (1 : Nat)) (Value.slice a n_2 c) H'_1 ∧ ∃ H', St Try.prog (3 : Nat) H'_1 (Addr.add x (1 :
  Nat)) (Value.int IntKind.i64 n) H' ∧ ∃ H'_2, St Try.prog (4 : Nat) H' (Addr.add x (2 : Nat)) (Value.bool false) H'_2 ∧ R (Value.tuple ⟨[]⟩) H'_2)) (∃ H'_1, St Try.prog (22 : Nat) H'
  (Addr.add r (1 : Nat)) (Value.slice a n_2 c) H'_1 ∧ ∃ H', St Try.prog (3 : Nat) H'_1 (Addr.add x (1 : Nat)) (Value.int IntKind.i64 n) H' ∧ ∃ H'_2, St Try.prog (4 : Nat) H' (Addr.add x (2 :
  Nat)) (Value.bool false) H'_2 ∧ R (Value.tuple ⟨[]⟩) H'_2)) : CallH Try.prog 28 (List.toArray [Value.pointer (some r), Value.pointer (some x)]) H R := vc_call (annOf [([0], .reg [0, 1, 3, 7,
  0, 16, 48, 112, 255, 511, 1023, 1023, 1023, 2047, 12287, 32767] (.quiet 0 (.quiet 1 (.quiet 2 (.quiet 3 (.quiet 4 (.quiet 5 (.quiet 6 (.quiet 7 (.pick (.alt 8 (.quiet 9 (.quiet 10 (.quiet 11
  (.quiet 12 (.quiet 13 (.quiet 14 (.quiet 15 .done))))))) .stop)))))))))))]) followsAll Go.Proofs.Try.func28 rfl Go.Proofs.Try.ntmps28 rfl rfl (Eq.mpr (by kernel_rfl) h)

/- 29 strandline/zig.GetText
  slots: [0=s, 1=at, 2=s, 3=at, 7=n, 8=next, 9=e]  -/
abbrev fn_zig_GetText : Nat := 29
theorem vc_zig_GetText (s : ByteArray) (at' : Int) (H : Heap) (R : Value → Heap → Prop) (h : CallH Try.prog (48 : Nat) { toList := [Value.string s, Value.int IntKind.i64 at'] } H fun v H' =>
  ∃ n n_1 n_2, v = Value.tuple { toList := [Value.int IntKind.u64 n, Value.int IntKind.i64 n_1, Value.int IntKind.i64 n_2] } ∧ brB (n_2 != (0 : Int)) (R (Value.tuple { toList := [Value.string
  { data := #[] }, Value.int IntKind.i64 (0 : Int), Value.int IntKind.i64 n_2] }) H') (brB (decide (n > IntKind.wrap IntKind.u64 (IntKind.wrap IntKind.i64 ((↑(ByteArray.size s) : Int) -
  n_1)))) (R (Value.tuple { toList := [Value.string { data := #[] }, Value.int IntKind.i64 (0 : Int), Value.int IntKind.i64 (10 : Int)] }) H') (chk (decide ((0 : Int) ≤ n_1 ∧ n_1 ≤
  IntKind.wrap IntKind.i64 (n_1 + IntKind.wrap IntKind.i64 n) ∧ IntKind.wrap IntKind.i64 (n_1 + IntKind.wrap IntKind.i64 n) ≤ (↑(ByteArray.size s) : Int))) (R (Value.tuple { toList :=
  [Value.string (ByteArray.extract s (Int.toNat n_1) (Int.toNat (IntKind.wrap IntKind.i64 (n_1 + IntKind.wrap IntKind.i64 n)))), Value.int IntKind.i64 (IntKind.wrap IntKind.i64 (n_1 +
  IntKind.wrap IntKind.i64 n)), Value.int IntKind.i64 (0 : Int)] }) H')))) : CallH Try.prog 29 (List.toArray [Value.string s, Value.int IntKind.i64 at']) H R := vc_call (annOf []) followsAll
  Go.Proofs.Try.func29 rfl Go.Proofs.Try.ntmps29 rfl rfl (Eq.mpr (by kernel_rfl) h)

/- 30 strandline/label.Parse
  slots: [0=s, 1=s, 4=p, 5=l, 6=more, 7=name, 8=rest, 9=_, 10=v, 11=is]  -/
abbrev fn_label_Parse : Nat := 30
theorem vc_label_Parse (s : ByteArray) (H : Heap) (R : Value → Heap → Prop) (h : ∀ (b : Nat) (H' : Heap), New H b (Obj.cells { toList := [Value.string s] } (102 : Nat)) H' → CallH Try.prog
  (56 : Nat) { toList := [Value.pointer (some ⟨b, (0 : Nat), none⟩), Value.string { data := #[(123 : UInt8)] }] } H' fun v H' => ∃ b_1, v = Value.bool b_1 ∧ brB (!b_1) (R (Value.tuple { toList
  := [Value.slice none (0 : Nat) (0 : Nat), Value.int IntKind.i64 (11 : Int)] }) H') (∃ s, Ld Try.prog (9 : Nat) H' ⟨b, (0 : Nat), none⟩ (Value.string s) ∧ brB (ByteArray.toList s ==
  ByteArray.toList { data := #[(125 : UInt8)] }) (R (Value.tuple { toList := [Value.slice none (0 : Nat) (0 : Nat), Value.int IntKind.i64 (0 : Int)] }) H') (∃ (I : List Value → Heap → Prop) (μ
  : List Value → Heap → Nat), I [Value.slice none (0 : Nat) (0 : Nat), Value.bool true] H' ∧ ∀ (J : F) (a : Option Addr) (n c : Nat) (b_2 : Bool) (H' : Heap), I [Value.slice a n c, Value.bool
  b_2] H' → brB b_2 (∃ s, Ld Try.prog (9 : Nat) H' ⟨b, (0 : Nat), none⟩ (Value.string s) ∧ CallH Try.prog (57 : Nat) { toList := [Value.string s, Value.string { data := #[(61 : UInt8)] }] } H'
  fun v H'_1 => ∃ s s_1 b_3, v = Value.tuple { toList := [Value.string s, Value.string s_1, Value.bool b_3] } ∧ ∃ H'_2, St Try.prog (9 : Nat) H'_1 ⟨b, (0 : Nat), none⟩ (Value.string s_1) H'_2
  ∧ CallH Try.prog (58 : Nat) { toList := [Value.pointer (some ⟨b, (0 : Nat), none⟩)] } H'_2 fun v H'_3 => ∃ s_2 b_4, v = Value.tuple { toList := [Value.string s_2, Value.bool b_4] } ∧ brB
  (!b_4) (R (Value.tuple { toList := [Value.slice none (0 : Nat) (0 : Nat), Value.int IntKind.i64 (11 : Int)] }) H'_3) (∀ (b_5 : Nat) (H'_4 : Heap), New H'_3 b_5 (Obj.cells { toList :=
  [Value.string s, Value.string s_2] } (44 : Nat)) H'_4 → SemWp Try.prog (Builtin.append_ { toList := [(22 : Nat), (22 : Nat)] } (22 : Nat) { toList := [Value.slice a n c, Value.slice (some
  ⟨b_5, (0 : Nat), none⟩) (1 : Nat) (1 : Nat)] }) H'_4 fun v H'_5 => ∃ a_3 n_1 c_1, v = Value.slice a_3 n_1 c_1 ∧ CallH Try.prog (56 : Nat) { toList := [Value.pointer (some ⟨b, (0 : Nat),
  none⟩), Value.string { data := #[(44 : UInt8)] }] } H'_5 fun v H'_6 => ∃ b, v = Value.bool b ∧ I [Value.slice a_3 n_1 c_1, Value.bool b] H'_6 ∧ μ [Value.slice a_3 n_1 c_1, Value.bool b] H'_6
  < μ [Value.slice a n c, Value.bool b_2] H')) (∃ s, Ld Try.prog (9 : Nat) H' ⟨b, (0 : Nat), none⟩ (Value.string s) ∧ brB (!ByteArray.toList s == ByteArray.toList { data := #[(125 : UInt8)] })
  (R (Value.tuple { toList := [Value.slice none (0 : Nat) (0 : Nat), Value.int IntKind.i64 (11 : Int)] }) H') (CallH Try.prog (53 : Nat) { toList := [Value.slice a n c] } H' fun v H' => ∃ n_1,
  v = Value.int IntKind.i64 n_1 ∧ brB (n_1 != (0 : Int)) (R (Value.tuple { toList := [Value.slice none (0 : Nat) (0 : Nat), Value.int IntKind.i64 (11 : Int)] }) H') (R (Value.tuple { toList :=
  [Value.slice a n c, Value.int IntKind.i64 (0 : Int)] }) H')))))) : CallH Try.prog 30 (List.toArray [Value.string s]) H R := vc_call (annOf [([0, 1, 0, 1, 1, 1, 1, 1], .cut [(5, .one .slice),
  (6, .one .bool)])]) followsAll Go.Proofs.Try.func30 rfl Go.Proofs.Try.ntmps30 rfl rfl (Eq.mpr (by kernel_rfl) h)

/- 31 strandline/wal.forms$3
  slots: [0=r, 1=r, 4=s, 5=_, 6=y]  -/
abbrev fn_wal_forms_3 : Nat := 31
theorem vc_wal_forms_3 (r : Addr) (H : Heap) (R : Value → Heap → Prop) (h : ∃ a n c, Ld Try.prog (23 : Nat) H (Addr.add r (2 : Nat)) (Value.slice a n c) ∧ ∀ (b : Nat) (H' : Heap), New H b
  (Obj.cells { toList := [Value.int IntKind.i64 (↑n : Int)] } (3 : Nat)) H' → CallH Try.prog (15 : Nat) { toList := [Value.slice (some ⟨b, (0 : Nat), none⟩) (1 : Nat) (1 : Nat)] } H' fun v H'
  => ∃ s, v = Value.string s ∧ ∃ a n c, Ld Try.prog (23 : Nat) H' (Addr.add r (2 : Nat)) (Value.slice a n c) ∧ ∃ (I : List Value → Heap → Prop) (μ : List Value → Heap → Nat), I [Value.string
  s, Value.int IntKind.i64 (0 : Int)] H' ∧ ∀ (J : F) (s : ByteArray) (n_1 : Int) (H' : Heap), I [Value.string s, Value.int IntKind.i64 n_1] H' → brB (decide (n_1 < (↑n : Int))) (exSome a fun
  ad => chk (decide ((0 : Int) ≤ n_1 ∧ n_1 < (↑n : Int))) (∃ n n_2 n_3, Ld Try.prog (58 : Nat) H' (Addr.add ad (Int.toNat n_1 * (3 : Nat))) (Value.agg { toList := [Value.int IntKind.i64 n,
  Value.int IntKind.i64 n_2, Value.int IntKind.i64 n_3] }) ∧ ∀ (b : Nat) (H'_1 : Heap), New H' b (Obj.cells { toList := [Value.int IntKind.i64 (0 : Int), Value.int IntKind.i64 (0 : Int),
  Value.int IntKind.i64 (0 : Int)] } (58 : Nat)) H'_1 → ∃ H'_2, St Try.prog (58 : Nat) H'_1 ⟨b, (0 : Nat), none⟩ (Value.agg { toList := [Value.int IntKind.i64 n, Value.int IntKind.i64 n_2,
  Value.int IntKind.i64 n_3] }) H'_2 ∧ ∃ n, Ld Try.prog (3 : Nat) H'_2 ⟨b, (0 : Nat), none⟩ (Value.int IntKind.i64 n) ∧ ∃ n_4, Ld Try.prog (3 : Nat) H'_2 ⟨b, (1 : Nat), none⟩ (Value.int
  IntKind.i64 n_4) ∧ ∃ n_5, Ld Try.prog (3 : Nat) H'_2 ⟨b, (2 : Nat), none⟩ (Value.int IntKind.i64 n_5) ∧ ∀ (b_1 : Nat) (H'_3 : Heap), New H'_2 b_1 (Obj.cells { toList := [Value.int
  IntKind.i64 n, Value.int IntKind.i64 n_4] } (3 : Nat)) H'_3 → Ld Try.prog (3 : Nat) H'_3 ⟨b, (2 : Nat), none⟩ (Value.int IntKind.i64 n_5) ∧ CallH Try.prog (15 : Nat) { toList := [Value.slice
  (some ⟨b_1, (0 : Nat), none⟩) (2 : Nat) (2 : Nat)] } H'_3 fun v H'_4 => ∃ s_1, v = Value.string s_1 ∧ Ld Try.prog (3 : Nat) H'_4 ⟨b, (2 : Nat), none⟩ (Value.int IntKind.i64 n_5) ∧ CallH
  Try.prog (32 : Nat) { toList := [Value.int IntKind.i64 n_5] } H'_4 fun v H'_5 => ∃ s_2, v = Value.string s_2 ∧ chk (decide (ByteArray.size s_1 + ByteArray.size s_2 ≤ (9223372036854775807 :
  Nat))) (chk (decide (ByteArray.size s + ByteArray.size (s_1 ++ s_2) ≤ (9223372036854775807 : Nat))) (I [Value.string (s ++ (s_1 ++ s_2)), Value.int IntKind.i64 (IntKind.wrap IntKind.i64 (n_1
  + (1 : Int)))] H'_5 ∧ μ [Value.string (s ++ (s_1 ++ s_2)), Value.int IntKind.i64 (IntKind.wrap IntKind.i64 (n_1 + (1 : Int)))] H'_5 < μ [Value.string s, Value.int IntKind.i64 n_1] H')))) (R
  (Value.tuple { toList := [Value.string s, Value.int IntKind.i64 (0 : Int)] }) H')) : CallH Try.prog 31 (List.toArray [Value.pointer (some r)]) H R := vc_call (annOf [([0, 1, 0, 1, 1], .cut
  [(4, .one .str), (19, .one (.int .i64))]), ([1, 0, 0, 1, 1, 0, 0, 1, 0, 1, 1], .reg [0, 0, 2, 0, 8, 30, 62, 0, 128, 510, 1022, 2047, 4095] (.quiet 0 (.quiet 1 (.quiet 2 (.quiet 3 (.quiet 4
  (.quiet 7 (.quiet 8 (.pick (.alt 5 (.pick (.alt 6 (.pick (.alt 9 (.quiet 10 (.quiet 11 (.quiet 12 .done))) .stop)) .stop)) .stop))))))))))]) followsAll Go.Proofs.Try.func31 rfl
  Go.Proofs.Try.ntmps31 rfl rfl (Eq.mpr (by kernel_rfl) h)

/- 32 strandline/zig.Int
  slots: [0=n, 1=n]  -/
abbrev fn_zig_Int : Nat := 32
theorem vc_zig_Int (n : Int) (H : Heap) (R : Value → Heap → Prop) (h : CallH Try.prog (59 : Nat) { toList := [Value.int IntKind.i64 n] } H fun v H' => ∃ n, v = Value.int IntKind.u64 n ∧
  CallH Try.prog (40 : Nat) { toList := [Value.int IntKind.u64 n] } H' fun v H' => ∃ s, v = Value.string s ∧ R (Value.string s) H') : CallH Try.prog 32 (List.toArray [Value.int IntKind.i64 n])
  H R := vc_call (annOf []) followsAll Go.Proofs.Try.func32 rfl Go.Proofs.Try.ntmps32 rfl rfl (Eq.mpr (by kernel_rfl) h)

/- 33 strandline/wal.forms$4
  slots: [0=r, 1=x, 2=r, 3=x, 4=many, 5=t, 6=id]  -/
abbrev fn_wal_forms_4 : Nat := 33
theorem vc_wal_forms_4 (r : Addr) (x : Addr) (H : Heap) (R : Value → Heap → Prop) (h : CallH Try.prog (21 : Nat) { toList := [Value.pointer (some x), Value.int IntKind.i64 (5000 : Int)] } H
  fun v H' => ∃ n, v = Value.int IntKind.i64 n ∧ ∃ (I : List Value → Heap → Prop) (μ : List Value → Heap → Nat), I [] H' ∧ ∀ (J : F) (H' : Heap), I [] H' → ∃ (M : List Value → Heap → Prop), (∃
  b, Ld Try.prog (4 : Nat) H' (Addr.add x (2 : Nat)) (Value.bool b) ∧ brB b (∃ a n_1 c, Ld Try.prog (23 : Nat) H' (Addr.add r (2 : Nat)) (Value.slice a n_1 c) ∧ brB (decide ((↑n_1 : Int) < n))
  (M [] H') (R (Value.tuple ⟨[]⟩) H')) (R (Value.tuple ⟨[]⟩) H')) ∧ ∀ (J : F) (H'_1 : Heap), M [] H'_1 → CallH Try.prog (21 : Nat) { toList := [Value.pointer (some x), Value.int IntKind.i64
  (1099511627776 : Int)] } H'_1 fun v H'_2 => ∃ n, v = Value.int IntKind.i64 n ∧ CallH Try.prog (21 : Nat) { toList := [Value.pointer (some x), Value.int IntKind.i64 (200 : Int)] } H'_2 fun v
  H'_3 => ∃ n_1, v = Value.int IntKind.i64 n_1 ∧ ∃ a n_2 c, Ld Try.prog (23 : Nat) H'_3 (Addr.add r (2 : Nat)) (Value.slice a n_2 c) ∧ CallH Try.prog (34 : Nat) { toList := [Value.pointer
  (some x)] } H'_3 fun v H'_4 => ∃ n_3, v = Value.int IntKind.i64 n_3 ∧ Ld Try.prog (23 : Nat) H'_4 (Addr.add r (2 : Nat)) (Value.slice a n_2 c) ∧ ∀ (b : Nat) (H'_5 : Heap), New H'_4 b
  (Obj.cells { toList := [Value.int IntKind.i64 n, Value.int IntKind.i64 n_1, Value.int IntKind.i64 n_3] } (58 : Nat)) H'_5 → Ld Try.prog (23 : Nat) H'_5 (Addr.add r (2 : Nat)) (Value.slice a
  n_2 c) ∧ SemWp Try.prog (Builtin.append_ { toList := [(23 : Nat), (23 : Nat)] } (23 : Nat) { toList := [Value.slice a n_2 c, Value.slice (some ⟨b, (0 : Nat), none⟩) (1 : Nat) (1 : Nat)] })
  H'_5 fun v H'_6 => ∃ a n c, v = Value.slice a n c ∧ ∃ H'_7, St Try.prog (23 : Nat) H'_6 (Addr.add r (2 : Nat)) (Value.slice a n c) H'_7 ∧ I [] H'_7 ∧ μ [] H'_7 < μ [] H') : CallH Try.prog 33
  (List.toArray [Value.pointer (some r), Value.pointer (some x)]) H R := vc_call (annOf [([0, 1], .cut []), ([0, 0, 1], .cut []), ([1, 0, 1, 0, 0, 1], .reg [0, 0, 2, 6, 14, 0, 0, 0, 128, 480,
  992, 2046, 4095, 8191, 16383] (.quiet 0 (.quiet 1 (.quiet 2 (.quiet 3 (.quiet 4 (.quiet 5 (.quiet 6 (.quiet 7 (.pick (.alt 8 (.quiet 9 (.pick (.alt 10 (.pick (.alt 11 (.quiet 12 (.quiet 13
  (.pick (.alt 14 (.done) .stop)))) .stop)) .stop))) .stop)))))))))))]) followsAll Go.Proofs.Try.func33 rfl Go.Proofs.Try.ntmps33 rfl rfl (Eq.mpr (by kernel_rfl) h)

/- 34 (*strandline/wal.reader).value
  slots: [0=x, 1=x, 3=n, 4=next, 5=e]  -/
abbrev fn_wal_reader_value : Nat := 34
theorem vc_wal_reader_value (x : Addr) (H : Heap) (R : Value → Heap → Prop) (h : ∃ s, Ld Try.prog (9 : Nat) H x (Value.string s) ∧ ∃ n, Ld Try.prog (3 : Nat) H (Addr.add x (1 : Nat))
  (Value.int IntKind.i64 n) ∧ CallH Try.prog (60 : Nat) { toList := [Value.string s, Value.int IntKind.i64 n] } H fun v H' => ∃ n n_1 n_2, v = Value.tuple { toList := [Value.int IntKind.i64 n,
  Value.int IntKind.i64 n_1, Value.int IntKind.i64 n_2] } ∧ ∃ b, Ld Try.prog (4 : Nat) H' (Addr.add x (2 : Nat)) (Value.bool b) ∧ brB (!b) (∃ H'_1, St Try.prog (4 : Nat) H' (Addr.add x (2 :
  Nat)) (Value.bool false) H'_1 ∧ R (Value.int IntKind.i64 (0 : Int)) H'_1) (brB (n_2 != (0 : Int)) (∃ H'_1, St Try.prog (4 : Nat) H' (Addr.add x (2 : Nat)) (Value.bool false) H'_1 ∧ R
  (Value.int IntKind.i64 (0 : Int)) H'_1) (∃ H'_1, St Try.prog (3 : Nat) H' (Addr.add x (1 : Nat)) (Value.int IntKind.i64 n_1) H'_1 ∧ R (Value.int IntKind.i64 n) H'_1))) : CallH Try.prog 34
  (List.toArray [Value.pointer (some x)]) H R := vc_call (annOf [([0, 1], .reg [0, 1, 3, 7, 0, 16, 48, 112, 255, 511, 1023, 1023, 1023, 2047, 12287, 32767] (.quiet 0 (.quiet 1 (.quiet 2
  (.quiet 3 (.quiet 4 (.quiet 5 (.quiet 6 (.quiet 7 (.pick (.alt 8 (.quiet 9 (.quiet 10 (.quiet 11 (.quiet 12 (.quiet 13 (.quiet 14 (.quiet 15 .done))))))) .stop)))))))))))]) followsAll
  Go.Proofs.Try.func34 rfl Go.Proofs.Try.ntmps34 rfl rfl (Eq.mpr (by kernel_rfl) h)

/- 35 strandline/wal.forms$5
  slots: [0=r, 1=r, 4=s, 5=_, 6=y]  -/
abbrev fn_wal_forms_5 : Nat := 35
theorem vc_wal_forms_5 (r : Addr) (H : Heap) (R : Value → Heap → Prop) (h : ∃ a n c, Ld Try.prog (24 : Nat) H (Addr.add r (3 : Nat)) (Value.slice a n c) ∧ ∀ (b : Nat) (H' : Heap), New H b
  (Obj.cells { toList := [Value.int IntKind.i64 (↑n : Int)] } (3 : Nat)) H' → CallH Try.prog (15 : Nat) { toList := [Value.slice (some ⟨b, (0 : Nat), none⟩) (1 : Nat) (1 : Nat)] } H' fun v H'
  => ∃ s, v = Value.string s ∧ ∃ a n c, Ld Try.prog (24 : Nat) H' (Addr.add r (3 : Nat)) (Value.slice a n c) ∧ ∃ (I : List Value → Heap → Prop) (μ : List Value → Heap → Nat), I [Value.string
  s, Value.int IntKind.i64 (0 : Int)] H' ∧ ∀ (J : F) (s : ByteArray) (n_1 : Int) (H' : Heap), I [Value.string s, Value.int IntKind.i64 n_1] H' → brB (decide (n_1 < (↑n : Int))) (exSome a fun
  ad => chk (decide ((0 : Int) ≤ n_1 ∧ n_1 < (↑n : Int))) (∃ n n_2 n_3, Ld Try.prog (62 : Nat) H' (Addr.add ad (Int.toNat n_1 * (3 : Nat))) (Value.agg { toList := [Value.int IntKind.i64 n,
  Value.int IntKind.i64 n_2, Value.int IntKind.i64 n_3] }) ∧ ∀ (b : Nat) (H'_1 : Heap), New H' b (Obj.cells { toList := [Value.int IntKind.i64 (0 : Int), Value.int IntKind.i64 (0 : Int),
  Value.int IntKind.i64 (0 : Int)] } (62 : Nat)) H'_1 → ∃ H'_2, St Try.prog (62 : Nat) H'_1 ⟨b, (0 : Nat), none⟩ (Value.agg { toList := [Value.int IntKind.i64 n, Value.int IntKind.i64 n_2,
  Value.int IntKind.i64 n_3] }) H'_2 ∧ ∃ n, Ld Try.prog (3 : Nat) H'_2 ⟨b, (0 : Nat), none⟩ (Value.int IntKind.i64 n) ∧ ∃ n_4, Ld Try.prog (3 : Nat) H'_2 ⟨b, (1 : Nat), none⟩ (Value.int
  IntKind.i64 n_4) ∧ ∃ n_5, Ld Try.prog (3 : Nat) H'_2 ⟨b, (2 : Nat), none⟩ (Value.int IntKind.i64 n_5) ∧ ∀ (b : Nat) (H'_3 : Heap), New H'_2 b (Obj.cells { toList := [Value.int IntKind.i64 n,
  Value.int IntKind.i64 n_4, Value.int IntKind.i64 n_5] } (3 : Nat)) H'_3 → CallH Try.prog (15 : Nat) { toList := [Value.slice (some ⟨b, (0 : Nat), none⟩) (3 : Nat) (3 : Nat)] } H'_3 fun v
  H'_4 => ∃ s_1, v = Value.string s_1 ∧ chk (decide (ByteArray.size s + ByteArray.size s_1 ≤ (9223372036854775807 : Nat))) (I [Value.string (s ++ s_1), Value.int IntKind.i64 (IntKind.wrap
  IntKind.i64 (n_1 + (1 : Int)))] H'_4 ∧ μ [Value.string (s ++ s_1), Value.int IntKind.i64 (IntKind.wrap IntKind.i64 (n_1 + (1 : Int)))] H'_4 < μ [Value.string s, Value.int IntKind.i64 n_1]
  H'))) (R (Value.tuple { toList := [Value.string s, Value.int IntKind.i64 (0 : Int)] }) H')) : CallH Try.prog 35 (List.toArray [Value.pointer (some r)]) H R := vc_call (annOf [([0, 1, 0, 1,
  1], .cut [(4, .one .str), (19, .one (.int .i64))])]) followsAll Go.Proofs.Try.func35 rfl Go.Proofs.Try.ntmps35 rfl rfl (Eq.mpr (by kernel_rfl) h)

/- 36 strandline/wal.forms$6
  slots: [0=r, 1=x, 2=r, 3=x, 4=many, 5=id, 6=from, 7=to]  -/
abbrev fn_wal_forms_6 : Nat := 36
theorem vc_wal_forms_6 (r : Addr) (x : Addr) (H : Heap) (R : Value → Heap → Prop) (h : CallH Try.prog (21 : Nat) { toList := [Value.pointer (some x), Value.int IntKind.i64 (5000 : Int)] } H
  fun v H' => ∃ n, v = Value.int IntKind.i64 n ∧ ∃ (I : List Value → Heap → Prop) (μ : List Value → Heap → Nat), I [] H' ∧ ∀ (J : F) (H' : Heap), I [] H' → ∃ (M : List Value → Heap → Prop), (∃
  b, Ld Try.prog (4 : Nat) H' (Addr.add x (2 : Nat)) (Value.bool b) ∧ brB b (∃ a n_1 c, Ld Try.prog (24 : Nat) H' (Addr.add r (3 : Nat)) (Value.slice a n_1 c) ∧ brB (decide ((↑n_1 : Int) < n))
  (M [] H') (R (Value.tuple ⟨[]⟩) H')) (R (Value.tuple ⟨[]⟩) H')) ∧ ∀ (J : F) (H'_1 : Heap), M [] H'_1 → CallH Try.prog (21 : Nat) { toList := [Value.pointer (some x), Value.int IntKind.i64
  (200 : Int)] } H'_1 fun v H'_2 => ∃ n, v = Value.int IntKind.i64 n ∧ CallH Try.prog (21 : Nat) { toList := [Value.pointer (some x), Value.int IntKind.i64 (1099511627776 : Int)] } H'_2 fun v
  H'_3 => ∃ n_1, v = Value.int IntKind.i64 n_1 ∧ CallH Try.prog (21 : Nat) { toList := [Value.pointer (some x), Value.int IntKind.i64 (1099511627776 : Int)] } H'_3 fun v H'_4 => ∃ n_2, v =
  Value.int IntKind.i64 n_2 ∧ ∃ a n_3 c, Ld Try.prog (24 : Nat) H'_4 (Addr.add r (3 : Nat)) (Value.slice a n_3 c) ∧ ∀ (b : Nat) (H'_5 : Heap), New H'_4 b (Obj.cells { toList := [Value.int
  IntKind.i64 n, Value.int IntKind.i64 n_1, Value.int IntKind.i64 n_2] } (62 : Nat)) H'_5 → SemWp Try.prog (Builtin.append_ { toList := [(24 : Nat), (24 : Nat)] } (24 : Nat) { toList :=
  [Value.slice a n_3 c, Value.slice (some ⟨b, (0 : Nat), none⟩) (1 : Nat) (1 : Nat)] }) H'_5 fun v H'_6 => ∃ a n c, v = Value.slice a n c ∧ ∃ H'_7, St Try.prog (24 : Nat) H'_6 (Addr.add r (3 :
  Nat)) (Value.slice a n c) H'_7 ∧ I [] H'_7 ∧ μ [] H'_7 < μ [] H') : CallH Try.prog 36 (List.toArray [Value.pointer (some r), Value.pointer (some x)]) H R := vc_call (annOf [([0, 1], .cut
  []), ([0, 0, 1], .cut [])]) followsAll Go.Proofs.Try.func36 rfl Go.Proofs.Try.ntmps36 rfl rfl (Eq.mpr (by kernel_rfl) h)

/- 37 strandline/wal.forms$7
  slots: [0=r, 1=r]  -/
abbrev fn_wal_forms_7 : Nat := 37
theorem vc_wal_forms_7 (r : Addr) (H : Heap) (R : Value → Heap → Prop) (h : ∃ n, Ld Try.prog (3 : Nat) H (Addr.add r (4 : Nat)) (Value.int IntKind.i64 n) ∧ ∀ (b : Nat) (H' : Heap), New H b
  (Obj.cells { toList := [Value.int IntKind.i64 n] } (3 : Nat)) H' → CallH Try.prog (15 : Nat) { toList := [Value.slice (some ⟨b, (0 : Nat), none⟩) (1 : Nat) (1 : Nat)] } H' fun v H' => ∃ s, v
  = Value.string s ∧ R (Value.tuple { toList := [Value.string s, Value.int IntKind.i64 (0 : Int)] }) H') : CallH Try.prog 37 (List.toArray [Value.pointer (some r)]) H R := vc_call (annOf [])
  followsAll Go.Proofs.Try.func37 rfl Go.Proofs.Try.ntmps37 rfl rfl (Eq.mpr (by kernel_rfl) h)

/- 38 strandline/wal.forms$8
  slots: [0=r, 1=x, 2=r, 3=x]  -/
abbrev fn_wal_forms_8 : Nat := 38
theorem vc_wal_forms_8 (r : Addr) (x : Addr) (H : Heap) (R : Value → Heap → Prop) (h : CallH Try.prog (21 : Nat) { toList := [Value.pointer (some x), Value.int IntKind.i64 (1099511627776 :
  Int)] } H fun v H' => ∃ n, v = Value.int IntKind.i64 n ∧ ∃ H'_1, St Try.prog (3 : Nat) H' (Addr.add r (4 : Nat)) (Value.int IntKind.i64 n) H'_1 ∧ R (Value.tuple ⟨[]⟩) H'_1) : CallH Try.prog
  38 (List.toArray [Value.pointer (some r), Value.pointer (some x)]) H R := vc_call (annOf []) followsAll Go.Proofs.Try.func38 rfl Go.Proofs.Try.ntmps38 rfl rfl (Eq.mpr (by kernel_rfl) h)

/- 39 (*strings.Builder).WriteString
  slots: [0=b, 1=s, 2=b, 3=s]  -/
abbrev fn_strings_Builder_WriteString : Nat := 39
theorem vc_strings_Builder_WriteString (b : Addr) (s : ByteArray) (H : Heap) (R : Value → Heap → Prop) (h : CallH Try.prog (61 : Nat) { toList := [Value.pointer (some b)] } H fun v H' => v =
  Value.tuple ⟨[]⟩ ∧ ∃ a n c, Ld Try.prog (79 : Nat) H' (Addr.add b (1 : Nat)) (Value.slice a n c) ∧ SemWp Try.prog (Builtin.append_ { toList := [(79 : Nat), (9 : Nat)] } (79 : Nat) { toList
  := [Value.slice a n c, Value.string s] }) H' fun v H' => ∃ a n c, v = Value.slice a n c ∧ ∃ H'_1, St Try.prog (79 : Nat) H' (Addr.add b (1 : Nat)) (Value.slice a n c) H'_1 ∧ R (Value.tuple {
  toList := [Value.int IntKind.i64 (↑(ByteArray.size s) : Int), Value.nilIface] }) H'_1) : CallH Try.prog 39 (List.toArray [Value.pointer (some b), Value.string s]) H R := vc_call (annOf [])
  followsAll Go.Proofs.Try.func39 rfl Go.Proofs.Try.ntmps39 rfl rfl (Eq.mpr (by kernel_rfl) h)

/- 40 strandline/zig.Uint
  slots: [0=n, 1=n, 3=b]  -/
abbrev fn_zig_Uint : Nat := 40
theorem vc_zig_Uint (n : Int) (H : Heap) (R : Value → Heap → Prop) (h : SemWp Try.prog (Instr.makeSlice (79 : Nat) (Value.int IntKind.i64 (0 : Int)) (Value.int IntKind.i64 (10 : Int))) H fun
  v H' => ∃ a n_1 c, v = Value.slice a n_1 c ∧ ∃ (I : List Value → Heap → Prop) (μ : List Value → Heap → Nat), I [Value.int IntKind.u64 n, Value.slice a n_1 c] H' ∧ ∀ (J : F) (n : Int) (a :
  Option Addr) (n_2 c : Nat) (H' : Heap), I [Value.int IntKind.u64 n, Value.slice a n_2 c] H' → brB (decide (n ≥ (128 : Int))) (∀ (b : Nat) (H'_1 : Heap), New H' b (Obj.cells { toList :=
  [Value.int IntKind.u8 (IntKind.wrap IntKind.u8 (↑(BitVec.toNat (BitVec.ofInt (8 : Nat) (IntKind.wrap IntKind.u8 n) ||| BitVec.ofInt (8 : Nat) (128 : Int))) : Int))] } (5 : Nat)) H'_1 → SemWp
  Try.prog (Builtin.append_ { toList := [(79 : Nat), (79 : Nat)] } (79 : Nat) { toList := [Value.slice a n_2 c, Value.slice (some ⟨b, (0 : Nat), none⟩) (1 : Nat) (1 : Nat)] }) H'_1 fun v H'_2
  => ∃ a_3 n_3 c_1, v = Value.slice a_3 n_3 c_1 ∧ I [Value.int IntKind.u64 (Int.fdiv n ((2 : Int) ^ (7 : Nat))), Value.slice a_3 n_3 c_1] H'_2 ∧ μ [Value.int IntKind.u64 (Int.fdiv n ((2 : Int)
  ^ (7 : Nat))), Value.slice a_3 n_3 c_1] H'_2 < μ [Value.int IntKind.u64 n, Value.slice a n_2 c] H') (∀ (b : Nat) (H'_1 : Heap), New H' b (Obj.cells { toList := [Value.int IntKind.u8
  (IntKind.wrap IntKind.u8 n)] } (5 : Nat)) H'_1 → SemWp Try.prog (Builtin.append_ { toList := [(79 : Nat), (79 : Nat)] } (79 : Nat) { toList := [Value.slice a n_2 c, Value.slice (some ⟨b, (0
  : Nat), none⟩) (1 : Nat) (1 : Nat)] }) H'_1 fun v H' => ∃ a n c, v = Value.slice a n c ∧ SemWp Try.prog (convert (79 : Nat) (9 : Nat) (Value.slice a n c)) H' fun v H' => ∃ s, v =
  Value.string s ∧ R (Value.string s) H')) : CallH Try.prog 40 (List.toArray [Value.int IntKind.u64 n]) H R := vc_call (annOf [([0, 0, 1, 1], .cut [(0, .one (.int .u64)), (3, .one .slice)])])
  followsAll Go.Proofs.Try.func40 rfl Go.Proofs.Try.ntmps40 rfl rfl (Eq.mpr (by kernel_rfl) h)

/- 41 (*strings.Builder).String
  slots: [0=b, 1=b]  -/
abbrev fn_strings_Builder_String : Nat := 41
theorem vc_strings_Builder_String (b : Addr) (H : Heap) (R : Value → Heap → Prop) (h : ∃ a n c, Ld Try.prog (79 : Nat) H (Addr.add b (1 : Nat)) (Value.slice a n c) ∧ ∃ a_1 n_1 c_1, Ld
  Try.prog (79 : Nat) H (Addr.add b (1 : Nat)) (Value.slice a_1 n_1 c_1) ∧ SemWp Try.prog (Builtin.unsafeSliceData_ { toList := [(79 : Nat)] } (108 : Nat) { toList := [Value.slice a n c] }) H
  fun v H' => ∃ a, v = Value.pointer a ∧ Ld Try.prog (79 : Nat) H' (Addr.add b (1 : Nat)) (Value.slice a_1 n_1 c_1) ∧ SemWp Try.prog (Builtin.unsafeString_ { toList := [(108 : Nat), (3 : Nat)]
  } (9 : Nat) { toList := [Value.pointer a, Value.int IntKind.i64 (↑n_1 : Int)] }) H' fun v H' => ∃ s, v = Value.string s ∧ R (Value.string s) H') : CallH Try.prog 41 (List.toArray
  [Value.pointer (some b)]) H R := vc_call (annOf [([0, 1], .reg [0, 1, 3, 7, 15, 0, 32, 96, 224, 480, 1023, 2047] (.quiet 0 (.quiet 1 (.quiet 2 (.quiet 3 (.quiet 5 (.quiet 6 (.quiet 7 (.quiet
  8 (.quiet 9 (.pick (.alt 4 (.pick (.alt 10 (.quiet 11 .done) .stop)) .stop))))))))))))]) followsAll Go.Proofs.Try.func41 rfl Go.Proofs.Try.ntmps41 rfl rfl (Eq.mpr (by kernel_rfl) h)

/- 42 strandline/strandlineref11.time
  slots: [0=t, 1=t]  -/
abbrev fn_ref11_time : Nat := 42
theorem vc_ref11_time (t : Int) (H : Heap) (R : Value → Heap → Prop) (h : brB (decide (t ≥ (0 : Int))) (R (Value.bool (decide (t ≤ (1099511627776 : Int)))) H) (R (Value.bool false) H)) :
  CallH Try.prog 42 (List.toArray [Value.int IntKind.i64 t]) H R := vc_call (annOf []) followsAll Go.Proofs.Try.func42 rfl Go.Proofs.Try.ntmps42 rfl rfl (Eq.mpr (by kernel_rfl) h)

/- 43 strandline/strandlineref11.id
  slots: [0=n, 1=n]  -/
abbrev fn_ref11_id : Nat := 43
theorem vc_ref11_id (n : Int) (H : Heap) (R : Value → Heap → Prop) (h : brB (decide (n ≥ (0 : Int))) (R (Value.bool (decide (n < (200 : Int)))) H) (R (Value.bool false) H)) : CallH Try.prog
  43 (List.toArray [Value.int IntKind.i64 n]) H R := vc_call (annOf []) followsAll Go.Proofs.Try.func43 rfl Go.Proofs.Try.ntmps43 rfl rfl (Eq.mpr (by kernel_rfl) h)

/- 44 strandline/strandlineref01.Uint
  slots: [0=n, 1=n, 3=s]  -/
abbrev fn_ref01_Uint : Nat := 44
theorem vc_ref01_Uint (n : Int) (H : Heap) (R : Value → Heap → Prop) (h : ∃ (I : List Value → Heap → Prop) (μ : List Value → Heap → Nat), I [Value.int IntKind.u64 n, Value.string { data :=
  #[] }] H ∧ ∀ (J : F) (n : Int) (s : ByteArray) (H' : Heap), I [Value.int IntKind.u64 n, Value.string s] H' → brB (decide (n > (127 : Int))) (∀ (b : Nat) (H'_1 : Heap), New H' b (Obj.cells {
  toList := [Value.int IntKind.u8 (IntKind.wrap IntKind.u8 (IntKind.wrap IntKind.u64 (Int.tmod n (128 : Int) + (128 : Int))))] } (5 : Nat)) H'_1 → SemWp Try.prog (convert (79 : Nat) (9 : Nat)
  (Value.slice (some ⟨b, (0 : Nat), none⟩) (1 : Nat) (1 : Nat))) H'_1 fun v H'_2 => ∃ s_1, v = Value.string s_1 ∧ chk (decide (ByteArray.size s + ByteArray.size s_1 ≤ (9223372036854775807 :
  Nat))) (I [Value.int IntKind.u64 (IntKind.wrap IntKind.u64 (Int.tdiv n (128 : Int))), Value.string (s ++ s_1)] H'_2 ∧ μ [Value.int IntKind.u64 (IntKind.wrap IntKind.u64 (Int.tdiv n (128 :
  Int))), Value.string (s ++ s_1)] H'_2 < μ [Value.int IntKind.u64 n, Value.string s] H')) (∀ (b : Nat) (H'_1 : Heap), New H' b (Obj.cells { toList := [Value.int IntKind.u8 (IntKind.wrap
  IntKind.u8 n)] } (5 : Nat)) H'_1 → SemWp Try.prog (convert (79 : Nat) (9 : Nat) (Value.slice (some ⟨b, (0 : Nat), none⟩) (1 : Nat) (1 : Nat))) H'_1 fun v H' => ∃ s_1, v = Value.string s_1 ∧
  chk (decide (ByteArray.size s + ByteArray.size s_1 ≤ (9223372036854775807 : Nat))) (R (Value.string (s ++ s_1)) H'))) : CallH Try.prog 44 (List.toArray [Value.int IntKind.u64 n]) H R :=
  vc_call (annOf [([0, 0, 1, 1], .cut [(0, .one (.int .u64)), (3, .one .str)])]) followsAll Go.Proofs.Try.func44 rfl Go.Proofs.Try.ntmps44 rfl rfl (Eq.mpr (by kernel_rfl) h)

/- 45 strandline/strandlineref04.Check
  slots: [0=l, 1=l, 3=i]  -/
abbrev fn_ref04_Check : Nat := 45
theorem vc_ref04_Check (l_a : Option Addr) (l_n : Nat) (l_c : Nat) (H : Heap) (R : Value → Heap → Prop) (h : brB (decide ((↑l_n : Int) > (8 : Int))) (R (Value.int IntKind.i64 (40 : Int)) H)
  (∃ (I : List Value → Heap → Prop) (μ : List Value → Heap → Nat), I [Value.int IntKind.i64 (0 : Int)] H ∧ ∀ (J : F) (n : Int) (H' : Heap), I [Value.int IntKind.i64 n] H' → brB (decide (n <
  (↑l_n : Int))) (∃ (M : List Value → Heap → Prop), (exSome l_a fun ad => chk (decide ((0 : Int) ≤ n ∧ n < (↑l_n : Int))) (∃ s, Ld Try.prog (9 : Nat) H' (Addr.add ad (Int.toNat n * (2 : Nat)))
  (Value.string s) ∧ CallH Try.prog (62 : Nat) { toList := [Value.string s] } H' fun v H' => ∃ b, v = Value.bool b ∧ brB (!b) (R (Value.int IntKind.i64 (40 : Int)) H') (exSome l_a fun ad =>
  chk (decide ((0 : Int) ≤ n ∧ n < (↑l_n : Int))) (∃ s, Ld Try.prog (9 : Nat) H' (Addr.add (Addr.add ad (Int.toNat n * (2 : Nat))) (1 : Nat)) (Value.string s) ∧ CallH Try.prog (63 : Nat) {
  toList := [Value.string s] } H' fun v H' => ∃ b, v = Value.bool b ∧ brB (!b) (R (Value.int IntKind.i64 (40 : Int)) H') (exSome l_a fun ad => chk (decide ((0 : Int) ≤ n ∧ n < (↑l_n : Int)))
  (∃ s, Ld Try.prog (9 : Nat) H' (Addr.add (Addr.add ad (Int.toNat n * (2 : Nat))) (1 : Nat)) (Value.string s) ∧ brB (ByteArray.toList s == ByteArray.toList { data := #[] }) (R (Value.int
  IntKind.i64 (40 : Int)) H') (brB (decide (n > (0 : Int))) (exSome l_a fun ad => chk (decide ((0 : Int) ≤ n ∧ n < (↑l_n : Int))) (∃ s, Ld Try.prog (9 : Nat) H' (Addr.add ad (Int.toNat n * (2
  : Nat))) (Value.string s) ∧ exSome l_a fun ad => chk (decide ((0 : Int) ≤ IntKind.wrap IntKind.i64 (n - (1 : Int)) ∧ IntKind.wrap IntKind.i64 (n - (1 : Int)) < (↑l_n : Int))) (∃ s_1, Ld
  Try.prog (9 : Nat) H' (Addr.add ad (Int.toNat (IntKind.wrap IntKind.i64 (n - (1 : Int))) * (2 : Nat))) (Value.string s_1) ∧ brB (Op.bytesLess (ByteArray.toList s) (ByteArray.toList s_1) ||
  ByteArray.toList s == ByteArray.toList s_1) (R (Value.int IntKind.i64 (40 : Int)) H') (M [] H')))) (M [] H')))))))) ∧ ∀ (J : F) (H'_1 : Heap), M [] H'_1 → I [Value.int IntKind.i64
  (IntKind.wrap IntKind.i64 (n + (1 : Int)))] H'_1 ∧ μ [Value.int IntKind.i64 (IntKind.wrap IntKind.i64 (n + (1 : Int)))] H'_1 < μ [Value.int IntKind.i64 n] H') (R (Value.int IntKind.i64 (0 :
  Int)) H'))) : CallH Try.prog 45 (List.toArray [Value.slice l_a l_n l_c]) H R := vc_call (annOf [([0, 1, 0, 1, 1], .cut [(3, .one (.int .i64))]), ([1, 0, 0, 1, 0, 1, 1], .cut []), ([0, 0, 0,
  1, 0, 0, 1, 0, 1, 1], .reg [0, 0, 3, 7, 15, 31, 63, 127, 255, 255, 1023, 2047, 4095, 8191, 16383, 32767, 65535, 131071, 131071, 524287, 1048575, 2097151, 4194303, 8388607, 16777215,
  33554431, 67108863, 134217727, 268435455, 268435455, 1073741823, 2147483647, 4294967295, 268435455, 268435455, 17448304639, 60397977599, 129117454335, 266556407807, 549755813887,
  1099511627775, 2199023255551] (.quiet 0 (.quiet 1 (.quiet 2 (.quiet 3 (.quiet 4 (.pick (.alt 5 (.quiet 6 (.quiet 7 (.quiet 8 (.quiet 9 (.quiet 10 (.quiet 11 (.quiet 12 (.pick (.alt 13
  (.quiet 14 (.quiet 15 (.quiet 16 (.quiet 17 (.quiet 18 (.quiet 19 (.quiet 20 (.quiet 21 (.quiet 22 (.quiet 23 (.quiet 24 (.quiet 25 (.quiet 26 (.quiet 27 (.quiet 28 (.quiet 29 (.quiet 30
  (.quiet 31 (.quiet 32 (.quiet 33 (.quiet 34 (.quiet 35 (.quiet 36 (.quiet 37 (.quiet 38 (.quiet 39 (.quiet 40 (.quiet 41 .done)))))))))))))))))))))))))))) .stop))))))))) .stop))))))))])
  followsAll Go.Proofs.Try.func45 rfl Go.Proofs.Try.ntmps45 rfl rfl (Eq.mpr (by kernel_rfl) h)

/- 46 strandline/strandlineref04.Quote
  slots: [0=s, 1=s, 3=t, 4=i]  -/
abbrev fn_ref04_Quote : Nat := 46
theorem vc_ref04_Quote (s : ByteArray) (H : Heap) (R : Value → Heap → Prop) (h : ∃ (I : List Value → Heap → Prop) (μ : List Value → Heap → Nat), I [Value.string { data := #[] }, Value.int
  IntKind.i64 (0 : Int)] H ∧ ∀ (J : F) (s_1 : ByteArray) (n : Int) (H' : Heap), I [Value.string s_1, Value.int IntKind.i64 n] H' → brB (decide (n < (↑(ByteArray.size s) : Int))) (chk (decide
  ((0 : Int) ≤ n ∧ n < (↑(ByteArray.size s) : Int))) (brB ((↑(atB s (Int.toNat n)) : Int) == (34 : Int)) (chk (decide (ByteArray.size s_1 + (2 : Nat) ≤ (9223372036854775807 : Nat))) (I
  [Value.string (s_1 ++ { data := #[(92 : UInt8), (34 : UInt8)] }), Value.int IntKind.i64 (IntKind.wrap IntKind.i64 (n + (1 : Int)))] H' ∧ μ [Value.string (s_1 ++ { data := #[(92 : UInt8), (34
  : UInt8)] }), Value.int IntKind.i64 (IntKind.wrap IntKind.i64 (n + (1 : Int)))] H' < μ [Value.string s_1, Value.int IntKind.i64 n] H')) (brB ((↑(atB s (Int.toNat n)) : Int) == (92 : Int))
  (chk (decide (ByteArray.size s_1 + (2 : Nat) ≤ (9223372036854775807 : Nat))) (I [Value.string (s_1 ++ { data := #[(92 : UInt8), (92 : UInt8)] }), Value.int IntKind.i64 (IntKind.wrap
  IntKind.i64 (n + (1 : Int)))] H' ∧ μ [Value.string (s_1 ++ { data := #[(92 : UInt8), (92 : UInt8)] }), Value.int IntKind.i64 (IntKind.wrap IntKind.i64 (n + (1 : Int)))] H' < μ [Value.string
  s_1, Value.int IntKind.i64 n] H')) (brB ((↑(atB s (Int.toNat n)) : Int) == (10 : Int)) (chk (decide (ByteArray.size s_1 + (2 : Nat) ≤ (9223372036854775807 : Nat))) (I [Value.string (s_1 ++ {
  data := #[(92 : UInt8), (110 : UInt8)] }), Value.int IntKind.i64 (IntKind.wrap IntKind.i64 (n + (1 : Int)))] H' ∧ μ [Value.string (s_1 ++ { data := #[(92 : UInt8), (110 : UInt8)] }),
  Value.int IntKind.i64 (IntKind.wrap IntKind.i64 (n + (1 : Int)))] H' < μ [Value.string s_1, Value.int IntKind.i64 n] H')) (chk (decide ((0 : Int) ≤ n ∧ n ≤ IntKind.wrap IntKind.i64 (n + (1 :
  Int)) ∧ IntKind.wrap IntKind.i64 (n + (1 : Int)) ≤ (↑(ByteArray.size s) : Int))) (chk (decide (ByteArray.size s_1 + ByteArray.size (ByteArray.extract s (Int.toNat n) (Int.toNat (IntKind.wrap
  IntKind.i64 (n + (1 : Int))))) ≤ (9223372036854775807 : Nat))) (I [Value.string (s_1 ++ ByteArray.extract s (Int.toNat n) (Int.toNat (IntKind.wrap IntKind.i64 (n + (1 : Int))))), Value.int
  IntKind.i64 (IntKind.wrap IntKind.i64 (n + (1 : Int)))] H' ∧ μ [Value.string (s_1 ++ ByteArray.extract s (Int.toNat n) (Int.toNat (IntKind.wrap IntKind.i64 (n + (1 : Int))))), Value.int
  IntKind.i64 (IntKind.wrap IntKind.i64 (n + (1 : Int)))] H' < μ [Value.string s_1, Value.int IntKind.i64 n] H'))))))) (chk (decide ((1 : Nat) + ByteArray.size s_1 ≤ (9223372036854775807 :
  Nat))) (chk (decide (ByteArray.size ({ data := #[(34 : UInt8)] } ++ s_1) + (1 : Nat) ≤ (9223372036854775807 : Nat))) (R (Value.string ({ data := #[(34 : UInt8)] } ++ s_1 ++ { data := #[(34 :
  UInt8)] })) H')))) : CallH Try.prog 46 (List.toArray [Value.string s]) H R := vc_call (annOf [([0, 1, 0, 1, 1], .cut [(3, .one .str), (4, .one (.int .i64))])]) followsAll
  Go.Proofs.Try.func46 rfl Go.Proofs.Try.ntmps46 rfl rfl (Eq.mpr (by kernel_rfl) h)

/- 47 strandline/strandlineref01.Fold
  slots: [0=n, 1=n]  -/
abbrev fn_ref01_Fold : Nat := 47
theorem vc_ref01_Fold (n : Int) (H : Heap) (R : Value → Heap → Prop) (h : brB (decide (n ≥ (0 : Int))) (R (Value.int IntKind.u64 (IntKind.wrap IntKind.u64 ((2 : Int) * IntKind.wrap
  IntKind.u64 n))) H) (R (Value.int IntKind.u64 (IntKind.wrap IntKind.u64 (IntKind.wrap IntKind.u64 ((2 : Int) * IntKind.wrap IntKind.u64 (IntKind.wrap IntKind.i64 ((0 : Int) - IntKind.wrap
  IntKind.i64 (n + (1 : Int))))) + (1 : Int)))) H)) : CallH Try.prog 47 (List.toArray [Value.int IntKind.i64 n]) H R := vc_call (annOf []) followsAll Go.Proofs.Try.func47 rfl
  Go.Proofs.Try.ntmps47 rfl rfl (Eq.mpr (by kernel_rfl) h)

/- 48 strandline/zig.GetUint
  slots: [0=s, 1=at, 2=s, 3=at, 4=n, 5=next, 6=e, 7=i, 8=c]  -/
abbrev fn_zig_GetUint : Nat := 48
theorem vc_zig_GetUint (s : ByteArray) (at' : Int) (H : Heap) (R : Value → Heap → Prop) (h : ∃ (M : List Value → Heap → Prop), brB (decide (at' < (0 : Int))) (R (Value.tuple { toList :=
  [Value.int IntKind.u64 (0 : Int), Value.int IntKind.i64 (0 : Int), Value.int IntKind.i64 (1 : Int)] }) H) (brB (decide (at' > (↑(ByteArray.size s) : Int))) (R (Value.tuple { toList :=
  [Value.int IntKind.u64 (0 : Int), Value.int IntKind.i64 (0 : Int), Value.int IntKind.i64 (1 : Int)] }) H) (M [Value.int IntKind.u64 (0 : Int)] H)) ∧ ∀ (J : F) (n : Int) (H' : Heap), M
  [Value.int IntKind.u64 n] H' → ∃ (I : List Value → Heap → Prop) (μ : List Value → Heap → Nat), I [Value.int IntKind.u64 n, Value.int IntKind.i64 (0 : Int)] H' ∧ ∀ (J : F) (n n_1 : Int) (H' :
  Heap), I [Value.int IntKind.u64 n, Value.int IntKind.i64 n_1] H' → brB (decide (n_1 < (10 : Int))) (brB (IntKind.wrap IntKind.i64 (at' + n_1) == (↑(ByteArray.size s) : Int)) (R (Value.tuple
  { toList := [Value.int IntKind.u64 (0 : Int), Value.int IntKind.i64 (0 : Int), Value.int IntKind.i64 (10 : Int)] }) H') (chk (decide ((0 : Int) ≤ IntKind.wrap IntKind.i64 (at' + n_1) ∧
  IntKind.wrap IntKind.i64 (at' + n_1) < (↑(ByteArray.size s) : Int))) (∃ (M : List Value → Heap → Prop), brB (n_1 == (9 : Int)) (brB (decide ((↑(atB s (Int.toNat (IntKind.wrap IntKind.i64
  (at' + n_1)))) : Int) > (1 : Int))) (R (Value.tuple { toList := [Value.int IntKind.u64 (0 : Int), Value.int IntKind.i64 (0 : Int), Value.int IntKind.i64 (11 : Int)] }) H') (brB ((↑(atB s
  (Int.toNat (IntKind.wrap IntKind.i64 (at' + n_1)))) : Int) == (0 : Int)) (brB (decide (n_1 > (0 : Int))) (R (Value.tuple { toList := [Value.int IntKind.u64 (0 : Int), Value.int IntKind.i64
  (0 : Int), Value.int IntKind.i64 (11 : Int)] }) H') (M [Value.int IntKind.u64 n] H')) (M [Value.int IntKind.u64 n] H'))) (brB ((↑(atB s (Int.toNat (IntKind.wrap IntKind.i64 (at' + n_1)))) :
  Int) == (0 : Int)) (brB (decide (n_1 > (0 : Int))) (R (Value.tuple { toList := [Value.int IntKind.u64 (0 : Int), Value.int IntKind.i64 (0 : Int), Value.int IntKind.i64 (11 : Int)] }) H') (M
  [Value.int IntKind.u64 n] H')) (M [Value.int IntKind.u64 n] H')) ∧ ∀ (J : F) (n_2 : Int) (H'_1 : Heap), M [Value.int IntKind.u64 n_2] H'_1 → chk (decide ((0 : Int) ≤ IntKind.wrap IntKind.u64
  (IntKind.wrap IntKind.i64 ((7 : Int) * n_1)))) (brB (decide ((↑(atB s (Int.toNat (IntKind.wrap IntKind.i64 (at' + n_1)))) : Int) < (128 : Int))) (R (Value.tuple { toList := [Value.int
  IntKind.u64 (IntKind.wrap IntKind.u64 (↑(BitVec.toNat (BitVec.ofInt (64 : Nat) n_2 ||| BitVec.ofInt (64 : Nat) (IntKind.wrap IntKind.u64 (IntKind.wrap IntKind.u64 (IntKind.wrap IntKind.u8
  (↑(BitVec.toNat (BitVec.ofInt (8 : Nat) (↑(atB s (Int.toNat (IntKind.wrap IntKind.i64 (at' + n_1)))) : Int) &&& BitVec.ofInt (8 : Nat) (127 : Int))) : Int)) * (2 : Int) ^ min (Int.toNat
  (IntKind.wrap IntKind.u64 (IntKind.wrap IntKind.i64 ((7 : Int) * n_1)))) (64 : Nat))))) : Int)), Value.int IntKind.i64 (IntKind.wrap IntKind.i64 (IntKind.wrap IntKind.i64 (at' + n_1) + (1 :
  Int))), Value.int IntKind.i64 (0 : Int)] }) H'_1) (I [Value.int IntKind.u64 (IntKind.wrap IntKind.u64 (↑(BitVec.toNat (BitVec.ofInt (64 : Nat) n_2 ||| BitVec.ofInt (64 : Nat) (IntKind.wrap
  IntKind.u64 (IntKind.wrap IntKind.u64 (IntKind.wrap IntKind.u8 (↑(BitVec.toNat (BitVec.ofInt (8 : Nat) (↑(atB s (Int.toNat (IntKind.wrap IntKind.i64 (at' + n_1)))) : Int) &&& BitVec.ofInt (8
  : Nat) (127 : Int))) : Int)) * (2 : Int) ^ min (Int.toNat (IntKind.wrap IntKind.u64 (IntKind.wrap IntKind.i64 ((7 : Int) * n_1)))) (64 : Nat))))) : Int)), Value.int IntKind.i64 (IntKind.wrap
  IntKind.i64 (n_1 + (1 : Int)))] H'_1 ∧ μ [Value.int IntKind.u64 (IntKind.wrap IntKind.u64 (↑(BitVec.toNat (BitVec.ofInt (64 : Nat) n_2 ||| BitVec.ofInt (64 : Nat) (IntKind.wrap IntKind.u64
  (IntKind.wrap IntKind.u64 (IntKind.wrap IntKind.u8 (↑(BitVec.toNat (BitVec.ofInt (8 : Nat) (↑(atB s (Int.toNat (IntKind.wrap IntKind.i64 (at' + n_1)))) : Int) &&& BitVec.ofInt (8 : Nat) (127
  : Int))) : Int)) * (2 : Int) ^ min (Int.toNat (IntKind.wrap IntKind.u64 (IntKind.wrap IntKind.i64 ((7 : Int) * n_1)))) (64 : Nat))))) : Int)), Value.int IntKind.i64 (IntKind.wrap IntKind.i64
  (n_1 + (1 : Int)))] H'_1 < μ [Value.int IntKind.u64 n, Value.int IntKind.i64 n_1] H'))))) (R (Value.tuple { toList := [Value.int IntKind.u64 (0 : Int), Value.int IntKind.i64 (0 : Int),
  Value.int IntKind.i64 (11 : Int)] }) H')) : CallH Try.prog 48 (List.toArray [Value.string s, Value.int IntKind.i64 at']) H R := vc_call (annOf [([1], .cut [(4, .one (.int .u64))]), ([0, 1,
  0, 1, 1], .cut [(4, .one (.int .u64)), (17, .one (.int .i64))]), ([1, 1, 1, 0, 0, 1, 1, 0, 0, 1, 0, 1, 1], .cut [(4, .one (.int .u64))])]) followsAll Go.Proofs.Try.func48 rfl
  Go.Proofs.Try.ntmps48 rfl rfl (Eq.mpr (by kernel_rfl) h)

/- 49 strandline/strandlineref11.numbers
  slots: [0=s, 1=at, 2=many, 3=s, 4=at, 5=many, 8=l, 9=i, 10=n, 11=next, 12=e]  -/
abbrev fn_ref11_numbers : Nat := 49
theorem vc_ref11_numbers (s : ByteArray) (at' : Int) (many : Int) (H : Heap) (R : Value → Heap → Prop) (h : ∀ (b : Nat) (H' : Heap), New H b (Obj.cells ⟨[]⟩ (3 : Nat)) H' → ∃ (I : List Value
  → Heap → Prop) (μ : List Value → Heap → Nat), I [Value.int IntKind.i64 at', Value.slice (some ⟨b, (0 : Nat), none⟩) (0 : Nat) (0 : Nat), Value.int IntKind.i64 (0 : Int)] H' ∧ ∀ (J : F) (n :
  Int) (a : Option Addr) (n_1 c : Nat) (n_2 : Int) (H' : Heap), I [Value.int IntKind.i64 n, Value.slice a n_1 c, Value.int IntKind.i64 n_2] H' → brB (decide (n_2 < many)) (CallH Try.prog (64 :
  Nat) { toList := [Value.string s, Value.int IntKind.i64 n] } H' fun v H'_1 => ∃ n_3 n_4 n_5, v = Value.tuple { toList := [Value.int IntKind.u64 n_3, Value.int IntKind.i64 n_4, Value.int
  IntKind.i64 n_5] } ∧ brB (n_5 != (0 : Int)) (R (Value.tuple { toList := [Value.slice none (0 : Nat) (0 : Nat), Value.int IntKind.i64 (-1 : Int)] }) H'_1) (brB (decide (n_3 > (1099511627776 :
  Int))) (R (Value.tuple { toList := [Value.slice none (0 : Nat) (0 : Nat), Value.int IntKind.i64 (-1 : Int)] }) H'_1) (∀ (b : Nat) (H'_2 : Heap), New H'_1 b (Obj.cells { toList := [Value.int
  IntKind.i64 (IntKind.wrap IntKind.i64 n_3)] } (3 : Nat)) H'_2 → SemWp Try.prog (Builtin.append_ { toList := [(77 : Nat), (77 : Nat)] } (77 : Nat) { toList := [Value.slice a n_1 c,
  Value.slice (some ⟨b, (0 : Nat), none⟩) (1 : Nat) (1 : Nat)] }) H'_2 fun v H'_3 => ∃ a_3 n_6 c_1, v = Value.slice a_3 n_6 c_1 ∧ I [Value.int IntKind.i64 n_4, Value.slice a_3 n_6 c_1,
  Value.int IntKind.i64 (IntKind.wrap IntKind.i64 (n_2 + (1 : Int)))] H'_3 ∧ μ [Value.int IntKind.i64 n_4, Value.slice a_3 n_6 c_1, Value.int IntKind.i64 (IntKind.wrap IntKind.i64 (n_2 + (1 :
  Int)))] H'_3 < μ [Value.int IntKind.i64 n, Value.slice a n_1 c, Value.int IntKind.i64 n_2] H'))) (R (Value.tuple { toList := [Value.slice a n_1 c, Value.int IntKind.i64 n] }) H')) : CallH
  Try.prog 49 (List.toArray [Value.string s, Value.int IntKind.i64 at', Value.int IntKind.i64 many]) H R := vc_call (annOf [([0, 1, 0, 1, 1], .cut [(1, .one (.int .i64)), (8, .one .slice), (9,
  .one (.int .i64))])]) followsAll Go.Proofs.Try.func49 rfl Go.Proofs.Try.ntmps49 rfl rfl (Eq.mpr (by kernel_rfl) h)

/- 50 strandline/strandlineref01.GetText
  slots: [0=s, 1=at, 2=s, 3=at, 7=n, 8=next, 9=e]  -/
abbrev fn_ref01_GetText : Nat := 50
theorem vc_ref01_GetText (s : ByteArray) (at' : Int) (H : Heap) (R : Value → Heap → Prop) (h : CallH Try.prog (64 : Nat) { toList := [Value.string s, Value.int IntKind.i64 at'] } H fun v H'
  => ∃ n n_1 n_2, v = Value.tuple { toList := [Value.int IntKind.u64 n, Value.int IntKind.i64 n_1, Value.int IntKind.i64 n_2] } ∧ brB (n_2 != (0 : Int)) (R (Value.tuple { toList :=
  [Value.string { data := #[] }, Value.int IntKind.i64 (0 : Int), Value.int IntKind.i64 n_2] }) H') (brB (decide (n > IntKind.wrap IntKind.u64 (IntKind.wrap IntKind.i64 ((↑(ByteArray.size s) :
  Int) - n_1)))) (R (Value.tuple { toList := [Value.string { data := #[] }, Value.int IntKind.i64 (0 : Int), Value.int IntKind.i64 (10 : Int)] }) H') (chk (decide ((0 : Int) ≤ n_1 ∧ n_1 ≤
  IntKind.wrap IntKind.i64 (n_1 + IntKind.wrap IntKind.i64 n) ∧ IntKind.wrap IntKind.i64 (n_1 + IntKind.wrap IntKind.i64 n) ≤ (↑(ByteArray.size s) : Int))) (R (Value.tuple { toList :=
  [Value.string (ByteArray.extract s (Int.toNat n_1) (Int.toNat (IntKind.wrap IntKind.i64 (n_1 + IntKind.wrap IntKind.i64 n)))), Value.int IntKind.i64 (IntKind.wrap IntKind.i64 (n_1 +
  IntKind.wrap IntKind.i64 n)), Value.int IntKind.i64 (0 : Int)] }) H')))) : CallH Try.prog 50 (List.toArray [Value.string s, Value.int IntKind.i64 at']) H R := vc_call (annOf []) followsAll
  Go.Proofs.Try.func50 rfl Go.Proofs.Try.ntmps50 rfl rfl (Eq.mpr (by kernel_rfl) h)

/- 51 strandline/strandlineref04.Parse
  slots: [0=s, 1=s, 4=l, 5=at, 6=k, 7=v, 8=n, 9=t, 10=e]  -/
abbrev fn_ref04_Parse : Nat := 51
theorem vc_ref04_Parse (s : ByteArray) (H : Heap) (R : Value → Heap → Prop) (h : ∀ (b : Nat) (H' : Heap), New H b (Obj.cells ⟨[]⟩ (44 : Nat)) H' → brB (ByteArray.toList s == ByteArray.toList
  { data := #[(123 : UInt8), (125 : UInt8)] }) (R (Value.tuple { toList := [Value.slice (some ⟨b, (0 : Nat), none⟩) (0 : Nat) (0 : Nat), Value.int IntKind.i64 (0 : Int)] }) H') (∃ (I : List
  Value → Heap → Prop) (μ : List Value → Heap → Nat), I [Value.slice (some ⟨b, (0 : Nat), none⟩) (0 : Nat) (0 : Nat), Value.int IntKind.i64 (1 : Int)] H' ∧ ∀ (J : F) (a : Option Addr) (n c :
  Nat) (n_1 : Int) (H' : Heap), I [Value.slice a n c, Value.int IntKind.i64 n_1] H' → brB (decide (n_1 < (↑(ByteArray.size s) : Int))) (∃ (I_1 : List Value → Heap → Prop) (μ_1 : List Value →
  Heap → Nat), I_1 [Value.int IntKind.i64 n_1] H' ∧ ∀ (J : F) (n_2 : Int) (H'_1 : Heap), I_1 [Value.int IntKind.i64 n_2] H'_1 → brB (decide (n_2 < (↑(ByteArray.size s) : Int))) (chk (decide
  ((0 : Int) ≤ n_2 ∧ n_2 < (↑(ByteArray.size s) : Int))) (brB ((↑(atB s (Int.toNat n_2)) : Int) != (61 : Int)) (I_1 [Value.int IntKind.i64 (IntKind.wrap IntKind.i64 (n_2 + (1 : Int)))] H'_1 ∧
  μ_1 [Value.int IntKind.i64 (IntKind.wrap IntKind.i64 (n_2 + (1 : Int)))] H'_1 < μ_1 [Value.int IntKind.i64 n_2] H'_1) (brB (n_2 == (↑(ByteArray.size s) : Int)) (R (Value.tuple { toList :=
  [Value.slice none (0 : Nat) (0 : Nat), Value.int IntKind.i64 (11 : Int)] }) H'_1) (chk (decide ((0 : Int) ≤ IntKind.wrap IntKind.i64 (n_2 + (1 : Int)) ∧ IntKind.wrap IntKind.i64 (n_2 + (1 :
  Int)) ≤ (↑(ByteArray.size s) : Int) ∧ (↑(ByteArray.size s) : Int) ≤ (↑(ByteArray.size s) : Int))) (CallH Try.prog (65 : Nat) { toList := [Value.string (ByteArray.extract s (Int.toNat
  (IntKind.wrap IntKind.i64 (n_2 + (1 : Int)))) (Int.toNat (↑(ByteArray.size s) : Int)))] } H'_1 fun v H'_2 => ∃ s_1 n_3, v = Value.tuple { toList := [Value.string s_1, Value.int IntKind.i64
  n_3] } ∧ brB (n_3 == (0 : Int)) (R (Value.tuple { toList := [Value.slice none (0 : Nat) (0 : Nat), Value.int IntKind.i64 (11 : Int)] }) H'_2) (chk (decide ((0 : Int) ≤ n_1 ∧ n_1 ≤ n_2 ∧ n_2
  ≤ (↑(ByteArray.size s) : Int))) (∀ (b : Nat) (H'_3 : Heap), New H'_2 b (Obj.cells { toList := [Value.string (ByteArray.extract s (Int.toNat n_1) (Int.toNat n_2)), Value.string s_1] } (44 :
  Nat)) H'_3 → SemWp Try.prog (Builtin.append_ { toList := [(22 : Nat), (22 : Nat)] } (22 : Nat) { toList := [Value.slice a n c, Value.slice (some ⟨b, (0 : Nat), none⟩) (1 : Nat) (1 : Nat)] })
  H'_3 fun v H'_4 => ∃ a_4 n_4 c_1, v = Value.slice a_4 n_4 c_1 ∧ I [Value.slice a_4 n_4 c_1, Value.int IntKind.i64 (IntKind.wrap IntKind.i64 (IntKind.wrap IntKind.i64 (IntKind.wrap
  IntKind.i64 (n_2 + (1 : Int)) + n_3) + (1 : Int)))] H'_4 ∧ μ [Value.slice a_4 n_4 c_1, Value.int IntKind.i64 (IntKind.wrap IntKind.i64 (IntKind.wrap IntKind.i64 (IntKind.wrap IntKind.i64
  (n_2 + (1 : Int)) + n_3) + (1 : Int)))] H'_4 < μ [Value.slice a n c, Value.int IntKind.i64 n_1] H'))))))) (brB (n_2 == (↑(ByteArray.size s) : Int)) (R (Value.tuple { toList := [Value.slice
  none (0 : Nat) (0 : Nat), Value.int IntKind.i64 (11 : Int)] }) H'_1) (chk (decide ((0 : Int) ≤ IntKind.wrap IntKind.i64 (n_2 + (1 : Int)) ∧ IntKind.wrap IntKind.i64 (n_2 + (1 : Int)) ≤
  (↑(ByteArray.size s) : Int) ∧ (↑(ByteArray.size s) : Int) ≤ (↑(ByteArray.size s) : Int))) (CallH Try.prog (65 : Nat) { toList := [Value.string (ByteArray.extract s (Int.toNat (IntKind.wrap
  IntKind.i64 (n_2 + (1 : Int)))) (Int.toNat (↑(ByteArray.size s) : Int)))] } H'_1 fun v H'_2 => ∃ s_1 n_3, v = Value.tuple { toList := [Value.string s_1, Value.int IntKind.i64 n_3] } ∧ brB
  (n_3 == (0 : Int)) (R (Value.tuple { toList := [Value.slice none (0 : Nat) (0 : Nat), Value.int IntKind.i64 (11 : Int)] }) H'_2) (chk (decide ((0 : Int) ≤ n_1 ∧ n_1 ≤ n_2 ∧ n_2 ≤
  (↑(ByteArray.size s) : Int))) (∀ (b : Nat) (H'_3 : Heap), New H'_2 b (Obj.cells { toList := [Value.string (ByteArray.extract s (Int.toNat n_1) (Int.toNat n_2)), Value.string s_1] } (44 :
  Nat)) H'_3 → SemWp Try.prog (Builtin.append_ { toList := [(22 : Nat), (22 : Nat)] } (22 : Nat) { toList := [Value.slice a n c, Value.slice (some ⟨b, (0 : Nat), none⟩) (1 : Nat) (1 : Nat)] })
  H'_3 fun v H'_4 => ∃ a_4 n_4 c_1, v = Value.slice a_4 n_4 c_1 ∧ I [Value.slice a_4 n_4 c_1, Value.int IntKind.i64 (IntKind.wrap IntKind.i64 (IntKind.wrap IntKind.i64 (IntKind.wrap
  IntKind.i64 (n_2 + (1 : Int)) + n_3) + (1 : Int)))] H'_4 ∧ μ [Value.slice a_4 n_4 c_1, Value.int IntKind.i64 (IntKind.wrap IntKind.i64 (IntKind.wrap IntKind.i64 (IntKind.wrap IntKind.i64
  (n_2 + (1 : Int)) + n_3) + (1 : Int)))] H'_4 < μ [Value.slice a n c, Value.int IntKind.i64 n_1] H')))))) (CallH Try.prog (18 : Nat) { toList := [Value.slice a n c] } H' fun v H' => ∃ s_1
  n_2, v = Value.tuple { toList := [Value.string s_1, Value.int IntKind.i64 n_2] } ∧ brB (n_2 != (0 : Int)) (R (Value.tuple { toList := [Value.slice none (0 : Nat) (0 : Nat), Value.int
  IntKind.i64 (11 : Int)] }) H') (brB (!ByteArray.toList s_1 == ByteArray.toList s) (R (Value.tuple { toList := [Value.slice none (0 : Nat) (0 : Nat), Value.int IntKind.i64 (11 : Int)] }) H')
  (R (Value.tuple { toList := [Value.slice a n c, Value.int IntKind.i64 (0 : Int)] }) H'))))) : CallH Try.prog 51 (List.toArray [Value.string s]) H R := vc_call (annOf [([0, 1, 0, 1, 1, 1],
  .cut [(4, .one .slice), (5, .one (.int .i64))]), ([0, 0, 1, 0, 1, 0, 0, 1, 0, 1, 1, 1], .cut [(6, .one (.int .i64))])]) followsAll Go.Proofs.Try.func51 rfl Go.Proofs.Try.ntmps51 rfl rfl
  (Eq.mpr (by kernel_rfl) h)

/- 52 strandline/strandlineref01.GetInt
  slots: [0=s, 1=at, 2=s, 3=at, 7=v, 8=next, 9=e]  -/
abbrev fn_ref01_GetInt : Nat := 52
theorem vc_ref01_GetInt (s : ByteArray) (at' : Int) (H : Heap) (R : Value → Heap → Prop) (h : CallH Try.prog (64 : Nat) { toList := [Value.string s, Value.int IntKind.i64 at'] } H fun v H'
  => ∃ n n_1 n_2, v = Value.tuple { toList := [Value.int IntKind.u64 n, Value.int IntKind.i64 n_1, Value.int IntKind.i64 n_2] } ∧ brB (n_2 != (0 : Int)) (R (Value.tuple { toList := [Value.int
  IntKind.i64 (0 : Int), Value.int IntKind.i64 (0 : Int), Value.int IntKind.i64 n_2] }) H') (CallH Try.prog (66 : Nat) { toList := [Value.int IntKind.u64 n] } H' fun v H' => ∃ n, v = Value.int
  IntKind.i64 n ∧ R (Value.tuple { toList := [Value.int IntKind.i64 n, Value.int IntKind.i64 n_1, Value.int IntKind.i64 (0 : Int)] }) H')) : CallH Try.prog 52 (List.toArray [Value.string s,
  Value.int IntKind.i64 at']) H R := vc_call (annOf []) followsAll Go.Proofs.Try.func52 rfl Go.Proofs.Try.ntmps52 rfl rfl (Eq.mpr (by kernel_rfl) h)

/- 53 strandline/label.Check
  slots: [0=l, 1=l, 3=last, 4=_, 5=x]  -/
abbrev fn_label_Check : Nat := 53
theorem vc_label_Check (l_a : Option Addr) (l_n : Nat) (l_c : Nat) (H : Heap) (R : Value → Heap → Prop) (h : ∃ (I : List Value → Heap → Prop) (μ : List Value → Heap → Nat), I [Value.string {
  data := #[] }, Value.int IntKind.i64 (0 : Int)] H ∧ ∀ (J : F) (s : ByteArray) (n : Int) (H' : Heap), I [Value.string s, Value.int IntKind.i64 n] H' → brB (decide (n < (↑l_n : Int))) (exSome
  l_a fun ad => chk (decide ((0 : Int) ≤ n ∧ n < (↑l_n : Int))) (∃ s_1 s_2, Ld Try.prog (44 : Nat) H' (Addr.add ad (Int.toNat n * (2 : Nat))) (Value.agg { toList := [Value.string s_1,
  Value.string s_2] }) ∧ ∀ (b : Nat) (H'_1 : Heap), New H' b (Obj.cells { toList := [Value.string { data := #[] }, Value.string { data := #[] }] } (44 : Nat)) H'_1 → ∃ H'_2, St Try.prog (44 :
  Nat) H'_1 ⟨b, (0 : Nat), none⟩ (Value.agg { toList := [Value.string s_1, Value.string s_2] }) H'_2 ∧ ∃ (M : List Value → Heap → Prop), (∃ s_3, Ld Try.prog (9 : Nat) H'_2 ⟨b, (0 : Nat), none⟩
  (Value.string s_3) ∧ CallH Try.prog (67 : Nat) { toList := [Value.string s_3] } H'_2 fun v H' => ∃ b_1, v = Value.bool b_1 ∧ brB (!b_1) (R (Value.int IntKind.i64 (40 : Int)) H') (∃ s_4, Ld
  Try.prog (9 : Nat) H' ⟨b, (0 : Nat), none⟩ (Value.string s_4) ∧ brB (Op.bytesLess (ByteArray.toList s_4) (ByteArray.toList s) || ByteArray.toList s_4 == ByteArray.toList s) (R (Value.int
  IntKind.i64 (40 : Int)) H') (∃ s, Ld Try.prog (9 : Nat) H' ⟨b, (1 : Nat), none⟩ (Value.string s) ∧ brB (ByteArray.toList s == ByteArray.toList { data := #[] }) (R (Value.int IntKind.i64 (40
  : Int)) H') (∃ s, Ld Try.prog (9 : Nat) H' ⟨b, (1 : Nat), none⟩ (Value.string s) ∧ CallH Try.prog (68 : Nat) { toList := [Value.string s] } H' fun v H' => ∃ b, v = Value.bool b ∧ brB (!b) (R
  (Value.int IntKind.i64 (40 : Int)) H') (M [] H'))))) ∧ ∀ (J : F) (H'_3 : Heap), M [] H'_3 → ∃ s_3, Ld Try.prog (9 : Nat) H'_3 ⟨b, (0 : Nat), none⟩ (Value.string s_3) ∧ I [Value.string s_3,
  Value.int IntKind.i64 (IntKind.wrap IntKind.i64 (n + (1 : Int)))] H'_3 ∧ μ [Value.string s_3, Value.int IntKind.i64 (IntKind.wrap IntKind.i64 (n + (1 : Int)))] H'_3 < μ [Value.string s,
  Value.int IntKind.i64 n] H')) (brB (decide ((↑l_n : Int) > (8 : Int))) (R (Value.int IntKind.i64 (40 : Int)) H') (R (Value.int IntKind.i64 (0 : Int)) H'))) : CallH Try.prog 53 (List.toArray
  [Value.slice l_a l_n l_c]) H R := vc_call (annOf [([0, 1, 0, 1, 1], .cut [(3, .one .str), (8, .one (.int .i64))]), ([1, 0, 0, 1, 1, 0, 0, 1, 0, 1, 1], .cut [])]) followsAll
  Go.Proofs.Try.func53 rfl Go.Proofs.Try.ntmps53 rfl rfl (Eq.mpr (by kernel_rfl) h)

/- 54 strandline/label.Quote
  slots: [0=s, 1=s, 3=b, 4=_, 5=c]  -/
abbrev fn_label_Quote : Nat := 54
theorem vc_label_Quote (s : ByteArray) (H : Heap) (R : Value → Heap → Prop) (h : ∀ (b : Nat) (H' : Heap), New H b (Obj.cells { toList := [Value.pointer none, Value.slice none (0 : Nat) (0 :
  Nat)] } (81 : Nat)) H' → CallH Try.prog (69 : Nat) { toList := [Value.pointer (some ⟨b, (0 : Nat), none⟩), Value.int IntKind.u8 (34 : Int)] } H' fun v H' => ∃ v_1, v = v_1 ∧ SemWp Try.prog
  (convert (9 : Nat) (79 : Nat) (Value.string s)) H' fun v H' => ∃ a n c, v = Value.slice a n c ∧ ∃ (I : List Value → Heap → Prop) (μ : List Value → Heap → Nat), I [Value.int IntKind.i64 (0 :
  Int)] H' ∧ ∀ (J : F) (n_1 : Int) (H' : Heap), I [Value.int IntKind.i64 n_1] H' → brB (decide (n_1 < (↑n : Int))) (exSome a fun ad => chk (decide ((0 : Int) ≤ n_1 ∧ n_1 < (↑n : Int))) (∃ n,
  Ld Try.prog (5 : Nat) H' (Addr.add ad (Int.toNat n_1 * (1 : Nat))) (Value.int IntKind.u8 n) ∧ brB (n == (10 : Int)) (CallH Try.prog (39 : Nat) { toList := [Value.pointer (some ⟨b, (0 : Nat),
  none⟩), Value.string { data := #[(92 : UInt8), (110 : UInt8)] }] } H' fun v H'_1 => ∃ n v_2, v = Value.tuple { toList := [Value.int IntKind.i64 n, v_2] } ∧ I [Value.int IntKind.i64
  (IntKind.wrap IntKind.i64 (n_1 + (1 : Int)))] H'_1 ∧ μ [Value.int IntKind.i64 (IntKind.wrap IntKind.i64 (n_1 + (1 : Int)))] H'_1 < μ [Value.int IntKind.i64 n_1] H') (brB (n == (34 : Int))
  (brB (n == (34 : Int)) (CallH Try.prog (69 : Nat) { toList := [Value.pointer (some ⟨b, (0 : Nat), none⟩), Value.int IntKind.u8 (92 : Int)] } H' fun v H'_1 => ∃ v_2, v = v_2 ∧ CallH Try.prog
  (69 : Nat) { toList := [Value.pointer (some ⟨b, (0 : Nat), none⟩), Value.int IntKind.u8 n] } H'_1 fun v H'_2 => ∃ v_3, v = v_3 ∧ I [Value.int IntKind.i64 (IntKind.wrap IntKind.i64 (n_1 + (1
  : Int)))] H'_2 ∧ μ [Value.int IntKind.i64 (IntKind.wrap IntKind.i64 (n_1 + (1 : Int)))] H'_2 < μ [Value.int IntKind.i64 n_1] H') (CallH Try.prog (69 : Nat) { toList := [Value.pointer (some
  ⟨b, (0 : Nat), none⟩), Value.int IntKind.u8 n] } H' fun v H'_1 => ∃ v_2, v = v_2 ∧ I [Value.int IntKind.i64 (IntKind.wrap IntKind.i64 (n_1 + (1 : Int)))] H'_1 ∧ μ [Value.int IntKind.i64
  (IntKind.wrap IntKind.i64 (n_1 + (1 : Int)))] H'_1 < μ [Value.int IntKind.i64 n_1] H')) (brB (n == (92 : Int)) (CallH Try.prog (69 : Nat) { toList := [Value.pointer (some ⟨b, (0 : Nat),
  none⟩), Value.int IntKind.u8 (92 : Int)] } H' fun v H'_1 => ∃ v_2, v = v_2 ∧ CallH Try.prog (69 : Nat) { toList := [Value.pointer (some ⟨b, (0 : Nat), none⟩), Value.int IntKind.u8 n] } H'_1
  fun v H'_2 => ∃ v_3, v = v_3 ∧ I [Value.int IntKind.i64 (IntKind.wrap IntKind.i64 (n_1 + (1 : Int)))] H'_2 ∧ μ [Value.int IntKind.i64 (IntKind.wrap IntKind.i64 (n_1 + (1 : Int)))] H'_2 < μ
  [Value.int IntKind.i64 n_1] H') (CallH Try.prog (69 : Nat) { toList := [Value.pointer (some ⟨b, (0 : Nat), none⟩), Value.int IntKind.u8 n] } H' fun v H'_1 => ∃ v_2, v = v_2 ∧ I [Value.int
  IntKind.i64 (IntKind.wrap IntKind.i64 (n_1 + (1 : Int)))] H'_1 ∧ μ [Value.int IntKind.i64 (IntKind.wrap IntKind.i64 (n_1 + (1 : Int)))] H'_1 < μ [Value.int IntKind.i64 n_1] H'))))) (CallH
  Try.prog (69 : Nat) { toList := [Value.pointer (some ⟨b, (0 : Nat), none⟩), Value.int IntKind.u8 (34 : Int)] } H' fun v H' => ∃ v_2, v = v_2 ∧ CallH Try.prog (41 : Nat) { toList :=
  [Value.pointer (some ⟨b, (0 : Nat), none⟩)] } H' fun v H' => ∃ s, v = Value.string s ∧ R (Value.string s) H')) : CallH Try.prog 54 (List.toArray [Value.string s]) H R := vc_call (annOf [([0,
  1, 0, 1, 1, 1], .cut [(10, .one (.int .i64))])]) followsAll Go.Proofs.Try.func54 rfl Go.Proofs.Try.ntmps54 rfl rfl (Eq.mpr (by kernel_rfl) h)

/- 55 strings.Join
  slots: [0=elems, 1=sep, 2=elems, 3=sep, 5=n, 6=_, 7=elem, 8=b, 9=_, 10=s]  -/
abbrev fn_strings_Join : Nat := 55
theorem vc_strings_Join (elems_a : Option Addr) (elems_n : Nat) (elems_c : Nat) (sep : ByteArray) (H : Heap) (R : Value → Heap → Prop) (h : brB ((↑elems_n : Int) == (0 : Int)) (R
  (Value.string { data := #[] }) H) (brB ((↑elems_n : Int) == (1 : Int)) (exSome elems_a fun ad => chk (decide ((0 : Int) ≤ (0 : Int) ∧ (0 : Int) < (↑elems_n : Int))) (∃ s, Ld Try.prog (9 :
  Nat) H ad (Value.string s) ∧ R (Value.string s) H)) (∃ (M : List Value → Heap → Prop), brB (decide ((↑(ByteArray.size sep) : Int) > (0 : Int))) (chk (decide (IntKind.wrap IntKind.i64
  ((↑elems_n : Int) - (1 : Int)) ≠ (0 : Int))) (brB (decide ((↑(ByteArray.size sep) : Int) ≥ IntKind.wrap IntKind.i64 (Int.tdiv (9223372036854775807 : Int) (IntKind.wrap IntKind.i64 ((↑elems_n
  : Int) - (1 : Int)))))) False (M [Value.int IntKind.i64 (IntKind.wrap IntKind.i64 ((0 : Int) + IntKind.wrap IntKind.i64 ((↑(ByteArray.size sep) : Int) * IntKind.wrap IntKind.i64 ((↑elems_n :
  Int) - (1 : Int)))))] H))) (M [Value.int IntKind.i64 (0 : Int)] H) ∧ ∀ (J : F) (n : Int) (H' : Heap), M [Value.int IntKind.i64 n] H' → ∃ (I : List Value → Heap → Prop) (μ : List Value → Heap
  → Nat), I [Value.int IntKind.i64 n, Value.int IntKind.i64 (0 : Int)] H' ∧ ∀ (J : F) (n n_1 : Int) (H' : Heap), I [Value.int IntKind.i64 n, Value.int IntKind.i64 n_1] H' → brB (decide (n_1 <
  (↑elems_n : Int))) (exSome elems_a fun ad => chk (decide ((0 : Int) ≤ n_1 ∧ n_1 < (↑elems_n : Int))) (∃ s, Ld Try.prog (9 : Nat) H' (Addr.add ad (Int.toNat n_1 * (1 : Nat))) (Value.string s)
  ∧ brB (decide ((↑(ByteArray.size s) : Int) > IntKind.wrap IntKind.i64 ((9223372036854775807 : Int) - n))) False (I [Value.int IntKind.i64 (IntKind.wrap IntKind.i64 (n + (↑(ByteArray.size s)
  : Int))), Value.int IntKind.i64 (IntKind.wrap IntKind.i64 (n_1 + (1 : Int)))] H' ∧ μ [Value.int IntKind.i64 (IntKind.wrap IntKind.i64 (n + (↑(ByteArray.size s) : Int))), Value.int
  IntKind.i64 (IntKind.wrap IntKind.i64 (n_1 + (1 : Int)))] H' < μ [Value.int IntKind.i64 n, Value.int IntKind.i64 n_1] H'))) (∀ (b : Nat) (H'_1 : Heap), New H' b (Obj.cells { toList :=
  [Value.pointer none, Value.slice none (0 : Nat) (0 : Nat)] } (81 : Nat)) H'_1 → CallH Try.prog (70 : Nat) { toList := [Value.pointer (some ⟨b, (0 : Nat), none⟩), Value.int IntKind.i64 n] }
  H'_1 fun v H' => v = Value.tuple ⟨[]⟩ ∧ exSome elems_a fun ad => chk (decide ((0 : Int) ≤ (0 : Int) ∧ (0 : Int) < (↑elems_n : Int))) (∃ s, Ld Try.prog (9 : Nat) H' ad (Value.string s) ∧
  CallH Try.prog (39 : Nat) { toList := [Value.pointer (some ⟨b, (0 : Nat), none⟩), Value.string s] } H' fun v H' => ∃ n v_1, v = Value.tuple { toList := [Value.int IntKind.i64 n, v_1] } ∧ chk
  (decide ((0 : Int) ≤ (1 : Int) ∧ (1 : Int) ≤ (↑elems_n : Int) ∧ (↑elems_n : Int) ≤ (↑elems_c : Int))) (∃ (I : List Value → Heap → Prop) (μ : List Value → Heap → Nat), I [Value.int
  IntKind.i64 (0 : Int)] H' ∧ ∀ (J : F) (n : Int) (H' : Heap), I [Value.int IntKind.i64 n] H' → brB (decide (n < (↑(Int.toNat (↑elems_n : Int) - Int.toNat (1 : Int)) : Int))) (exSome (slA
  elems_c (1 : Nat) (1 : Nat) elems_a) fun ad => chk (decide ((0 : Int) ≤ n ∧ n < (↑(Int.toNat (↑elems_n : Int) - (1 : Nat)) : Int))) (∃ s, Ld Try.prog (9 : Nat) H' (Addr.add ad (Int.toNat n *
  (1 : Nat))) (Value.string s) ∧ CallH Try.prog (39 : Nat) { toList := [Value.pointer (some ⟨b, (0 : Nat), none⟩), Value.string sep] } H' fun v H'_2 => ∃ n_2 v_2, v = Value.tuple { toList :=
  [Value.int IntKind.i64 n_2, v_2] } ∧ CallH Try.prog (39 : Nat) { toList := [Value.pointer (some ⟨b, (0 : Nat), none⟩), Value.string s] } H'_2 fun v H'_3 => ∃ n_3 v_3, v = Value.tuple {
  toList := [Value.int IntKind.i64 n_3, v_3] } ∧ I [Value.int IntKind.i64 (IntKind.wrap IntKind.i64 (n + (1 : Int)))] H'_3 ∧ μ [Value.int IntKind.i64 (IntKind.wrap IntKind.i64 (n + (1 :
  Int)))] H'_3 < μ [Value.int IntKind.i64 n] H')) (CallH Try.prog (41 : Nat) { toList := [Value.pointer (some ⟨b, (0 : Nat), none⟩)] } H' fun v H' => ∃ s, v = Value.string s ∧ R (Value.string
  s) H'))))))) : CallH Try.prog 55 (List.toArray [Value.slice elems_a elems_n elems_c, Value.string sep]) H R := vc_call (annOf [([1, 1, 1], .cut [(5, .one (.int .i64))]), ([0, 1, 0, 1, 1, 1,
  1], .cut [(5, .one (.int .i64)), (41, .one (.int .i64))]), ([0, 1, 0, 1, 1, 1, 1, 1, 1, 1, 1], .cut [(65, .one (.int .i64))])]) followsAll Go.Proofs.Try.func55 rfl Go.Proofs.Try.ntmps55 rfl
  rfl (Eq.mpr (by kernel_rfl) h)

/- 56 (*strandline/label.parser).take
  slots: [0=p, 1=t, 2=p, 3=t, 5=rest, 6=is]  -/
abbrev fn_label_parser_take : Nat := 56
theorem vc_label_parser_take (p : Addr) (t : ByteArray) (H : Heap) (R : Value → Heap → Prop) (h : ∃ s, Ld Try.prog (9 : Nat) H p (Value.string s) ∧ CallH Try.prog (71 : Nat) { toList :=
  [Value.string s, Value.string t] } H fun v H' => ∃ s b, v = Value.tuple { toList := [Value.string s, Value.bool b] } ∧ brB b (∃ H'_1, St Try.prog (9 : Nat) H' p (Value.string s) H'_1 ∧ R
  (Value.bool b) H'_1) (R (Value.bool b) H')) : CallH Try.prog 56 (List.toArray [Value.pointer (some p), Value.string t]) H R := vc_call (annOf []) followsAll Go.Proofs.Try.func56 rfl
  Go.Proofs.Try.ntmps56 rfl rfl (Eq.mpr (by kernel_rfl) h)

/- 57 strings.Cut
  slots: [0=s, 1=sep, 2=s, 3=sep, 4=before, 5=after, 6=found]  -/
abbrev fn_strings_Cut : Nat := 57
theorem vc_strings_Cut (s : ByteArray) (sep : ByteArray) (H : Heap) (R : Value → Heap → Prop) (h : CallH Try.prog (72 : Nat) { toList := [Value.string s, Value.string sep] } H fun v H' => ∃
  s s_1 b, v = Value.tuple { toList := [Value.string s, Value.string s_1, Value.bool b] } ∧ R (Value.tuple { toList := [Value.string s, Value.string s_1, Value.bool b] }) H') : CallH Try.prog
  57 (List.toArray [Value.string s, Value.string sep]) H R := vc_call (annOf []) followsAll Go.Proofs.Try.func57 rfl Go.Proofs.Try.ntmps57 rfl rfl (Eq.mpr (by kernel_rfl) h)

/- 58 (*strandline/label.parser).value
  slots: [0=p, 1=p, 4=b, 5=back, 6=i, 7=c]  -/
abbrev fn_label_parser_value : Nat := 58
theorem vc_label_parser_value (p : Addr) (H : Heap) (R : Value → Heap → Prop) (h : CallH Try.prog (56 : Nat) { toList := [Value.pointer (some p), Value.string { data := #[(34 : UInt8)] }] }
  H fun v H' => ∃ b, v = Value.bool b ∧ brB (!b) (R (Value.tuple { toList := [Value.string { data := #[] }, Value.bool false] }) H') (∀ (b : Nat) (H'_1 : Heap), New H' b (Obj.cells { toList :=
  [Value.pointer none, Value.slice none (0 : Nat) (0 : Nat)] } (81 : Nat)) H'_1 → ∃ s, Ld Try.prog (9 : Nat) H'_1 p (Value.string s) ∧ SemWp Try.prog (convert (9 : Nat) (79 : Nat)
  (Value.string s)) H'_1 fun v H' => ∃ a n c, v = Value.slice a n c ∧ ∃ (I : List Value → Heap → Prop) (μ : List Value → Heap → Nat), I [Value.bool false, Value.int IntKind.i64 (0 : Int)] H' ∧
  ∀ (J : F) (b_1 : Bool) (n_1 : Int) (H' : Heap), I [Value.bool b_1, Value.int IntKind.i64 n_1] H' → brB (decide (n_1 < (↑n : Int))) (∃ (M : List Value → Heap → Prop), (exSome a fun ad => chk
  (decide ((0 : Int) ≤ n_1 ∧ n_1 < (↑n : Int))) (∃ n, Ld Try.prog (5 : Nat) H' (Addr.add ad (Int.toNat n_1 * (1 : Nat))) (Value.int IntKind.u8 n) ∧ ∃ (M_1 : List Value → Heap → Prop), brB b_1
  (M_1 [Value.bool (n == (110 : Int))] H') (M_1 [Value.bool false] H') ∧ ∀ (J : F) (b_2 : Bool) (H' : Heap), M_1 [Value.bool b_2] H' → brB b_2 (CallH Try.prog (69 : Nat) { toList :=
  [Value.pointer (some ⟨b, (0 : Nat), none⟩), Value.int IntKind.u8 (10 : Int)] } H' fun v H' => ∃ v_1, v = v_1 ∧ M [Value.bool false] H') (brB b_1 (brB (n != (34 : Int)) (brB (n != (92 : Int))
  (R (Value.tuple { toList := [Value.string { data := #[] }, Value.bool false] }) H') (CallH Try.prog (69 : Nat) { toList := [Value.pointer (some ⟨b, (0 : Nat), none⟩), Value.int IntKind.u8 n]
  } H' fun v H' => ∃ v_1, v = v_1 ∧ M [Value.bool false] H')) (CallH Try.prog (69 : Nat) { toList := [Value.pointer (some ⟨b, (0 : Nat), none⟩), Value.int IntKind.u8 n] } H' fun v H' => ∃ v_1,
  v = v_1 ∧ M [Value.bool false] H')) (brB (n == (92 : Int)) (M [Value.bool true] H') (brB (n == (34 : Int)) (∃ s, Ld Try.prog (9 : Nat) H' p (Value.string s) ∧ chk (decide ((0 : Int) ≤
  IntKind.wrap IntKind.i64 (n_1 + (1 : Int)) ∧ IntKind.wrap IntKind.i64 (n_1 + (1 : Int)) ≤ (↑(ByteArray.size s) : Int) ∧ (↑(ByteArray.size s) : Int) ≤ (↑(ByteArray.size s) : Int))) (∃ H'_2,
  St Try.prog (9 : Nat) H' p (Value.string (ByteArray.extract s (Int.toNat (IntKind.wrap IntKind.i64 (n_1 + (1 : Int)))) (Int.toNat (↑(ByteArray.size s) : Int)))) H'_2 ∧ CallH Try.prog (41 :
  Nat) { toList := [Value.pointer (some ⟨b, (0 : Nat), none⟩)] } H'_2 fun v H' => ∃ s, v = Value.string s ∧ R (Value.tuple { toList := [Value.string s, Value.bool true] }) H')) (brB (n == (10
  : Int)) (R (Value.tuple { toList := [Value.string { data := #[] }, Value.bool false] }) H') (CallH Try.prog (69 : Nat) { toList := [Value.pointer (some ⟨b, (0 : Nat), none⟩), Value.int
  IntKind.u8 n] } H' fun v H' => ∃ v_1, v = v_1 ∧ M [Value.bool b_1] H'))))))) ∧ ∀ (J : F) (b : Bool) (H'_2 : Heap), M [Value.bool b] H'_2 → I [Value.bool b, Value.int IntKind.i64
  (IntKind.wrap IntKind.i64 (n_1 + (1 : Int)))] H'_2 ∧ μ [Value.bool b, Value.int IntKind.i64 (IntKind.wrap IntKind.i64 (n_1 + (1 : Int)))] H'_2 < μ [Value.bool b_1, Value.int IntKind.i64 n_1]
  H') (R (Value.tuple { toList := [Value.string { data := #[] }, Value.bool false] }) H'))) : CallH Try.prog 58 (List.toArray [Value.pointer (some p)]) H R := vc_call (annOf [([0, 1, 0, 1, 1,
  1, 1], .cut [(5, .one .bool), (17, .one (.int .i64))]), ([1, 1, 0, 0, 1, 0, 1, 1, 1, 1], .cut [(5, .one .bool)]), ([0, 1, 0, 0, 1, 1, 0, 0, 1, 0, 1, 1, 1, 1], .cut [(24, .one .bool)])])
  followsAll Go.Proofs.Try.func58 rfl Go.Proofs.Try.ntmps58 rfl rfl (Eq.mpr (by kernel_rfl) h)

/- 59 strandline/zig.Fold
  slots: [0=n, 1=n]  -/
abbrev fn_zig_Fold : Nat := 59
theorem vc_zig_Fold (n : Int) (H : Heap) (R : Value → Heap → Prop) (h : R (Value.int IntKind.u64 (IntKind.wrap IntKind.u64 (↑(BitVec.toNat (BitVec.ofInt (64 : Nat) (IntKind.wrap IntKind.u64
  (IntKind.wrap IntKind.i64 (n * (2 : Int) ^ (1 : Nat)))) ^^^ BitVec.ofInt (64 : Nat) (IntKind.wrap IntKind.u64 (Int.fdiv n ((2 : Int) ^ (63 : Nat)))))) : Int))) H) : CallH Try.prog 59
  (List.toArray [Value.int IntKind.i64 n]) H R := vc_call (annOf []) followsAll Go.Proofs.Try.func59 rfl Go.Proofs.Try.ntmps59 rfl rfl (Eq.mpr (by kernel_rfl) h)

/- 60 strandline/zig.GetInt
  slots: [0=s, 1=at, 2=s, 3=at, 7=n, 8=next, 9=e]  -/
abbrev fn_zig_GetInt : Nat := 60
theorem vc_zig_GetInt (s : ByteArray) (at' : Int) (H : Heap) (R : Value → Heap → Prop) (h : CallH Try.prog (48 : Nat) { toList := [Value.string s, Value.int IntKind.i64 at'] } H fun v H' =>
  ∃ n n_1 n_2, v = Value.tuple { toList := [Value.int IntKind.u64 n, Value.int IntKind.i64 n_1, Value.int IntKind.i64 n_2] } ∧ CallH Try.prog (73 : Nat) { toList := [Value.int IntKind.u64 n] }
  H' fun v H' => ∃ n, v = Value.int IntKind.i64 n ∧ R (Value.tuple { toList := [Value.int IntKind.i64 n, Value.int IntKind.i64 n_1, Value.int IntKind.i64 n_2] }) H') : CallH Try.prog 60
  (List.toArray [Value.string s, Value.int IntKind.i64 at']) H R := vc_call (annOf []) followsAll Go.Proofs.Try.func60 rfl Go.Proofs.Try.ntmps60 rfl rfl (Eq.mpr (by kernel_rfl) h)

/- 61 (*strings.Builder).copyCheck
  slots: [0=b, 1=b]  -/
abbrev fn_strings_Builder_copyCheck : Nat := 61
theorem vc_strings_Builder_copyCheck (b : Addr) (H : Heap) (R : Value → Heap → Prop) (h : ∃ a, Ld Try.prog (78 : Nat) H b (Value.pointer a) ∧ brB (Option.isNone a) (SemWp Try.prog (convert
  (78 : Nat) (115 : Nat) (Value.pointer (some b))) H fun v H' => ∃ v_1, v = v_1 ∧ ExtH Try.prog (74 : Nat) { toList := [v_1] } H' fun v H' => ∃ v_2, v = v_2 ∧ SemWp Try.prog (convert (115 :
  Nat) (78 : Nat) v_2) H' fun v H' => ∃ a, v = Value.pointer a ∧ ∃ H'_1, St Try.prog (78 : Nat) H' b (Value.pointer a) H'_1 ∧ R (Value.tuple ⟨[]⟩) H'_1) (∃ a, Ld Try.prog (78 : Nat) H b
  (Value.pointer a) ∧ ∃ r, RdA Try.prog (eqSem BinOp.neq (78 : Nat) (Operand.tmp (17 : Nat)) (Operand.tmp (18 : Nat)) (Value.pointer a) (Value.pointer (some b))) (Value.bool r) ∧ brB r False
  (R (Value.tuple ⟨[]⟩) H))) : CallH Try.prog 61 (List.toArray [Value.pointer (some b)]) H R := vc_call (annOf []) followsAll Go.Proofs.Try.func61 rfl Go.Proofs.Try.ntmps61 rfl rfl (Eq.mpr (by
  kernel_rfl) h)

/- 62 strandline/strandlineref04.Name
  slots: [0=s, 1=s, 3=i, 4=c]  -/
abbrev fn_ref04_Name : Nat := 62
theorem vc_ref04_Name (s : ByteArray) (H : Heap) (R : Value → Heap → Prop) (h : ∃ (M : List Value → Heap → Prop), brB (decide ((↑(ByteArray.size s) : Int) < (1 : Int))) (R (Value.bool false)
  H) (brB (decide ((↑(ByteArray.size s) : Int) > (16 : Int))) (R (Value.bool false) H) (chk (decide ((0 : Int) ≤ (0 : Int) ∧ (0 : Int) < (↑(ByteArray.size s) : Int))) (brB (decide ((↑(atB s
  (Int.toNat (0 : Int))) : Int) < (97 : Int))) (R (Value.bool false) H) (chk (decide ((0 : Int) ≤ (0 : Int) ∧ (0 : Int) < (↑(ByteArray.size s) : Int))) (brB (decide ((↑(atB s (Int.toNat (0 :
  Int))) : Int) > (122 : Int))) (R (Value.bool false) H) (M [] H)))))) ∧ ∀ (J : F) (H' : Heap), M [] H' → ∃ (I : List Value → Heap → Prop) (μ : List Value → Heap → Nat), I [Value.int
  IntKind.i64 (0 : Int)] H' ∧ ∀ (J : F) (n : Int) (H' : Heap), I [Value.int IntKind.i64 n] H' → brB (decide (n < (↑(ByteArray.size s) : Int))) (∃ (M : List Value → Heap → Prop), chk (decide
  ((0 : Int) ≤ n ∧ n < (↑(ByteArray.size s) : Int))) (brB (decide ((↑(atB s (Int.toNat n)) : Int) < (97 : Int))) (brB (decide ((↑(atB s (Int.toNat n)) : Int) < (48 : Int))) (brB ((↑(atB s
  (Int.toNat n)) : Int) != (95 : Int)) (R (Value.bool false) H') (M [] H')) (brB (decide ((↑(atB s (Int.toNat n)) : Int) > (57 : Int))) (brB ((↑(atB s (Int.toNat n)) : Int) != (95 : Int)) (R
  (Value.bool false) H') (M [] H')) (M [] H'))) (brB (decide ((↑(atB s (Int.toNat n)) : Int) > (122 : Int))) (brB (decide ((↑(atB s (Int.toNat n)) : Int) < (48 : Int))) (brB ((↑(atB s
  (Int.toNat n)) : Int) != (95 : Int)) (R (Value.bool false) H') (M [] H')) (brB (decide ((↑(atB s (Int.toNat n)) : Int) > (57 : Int))) (brB ((↑(atB s (Int.toNat n)) : Int) != (95 : Int)) (R
  (Value.bool false) H') (M [] H')) (M [] H'))) (M [] H'))) ∧ ∀ (J : F) (H'_1 : Heap), M [] H'_1 → I [Value.int IntKind.i64 (IntKind.wrap IntKind.i64 (n + (1 : Int)))] H'_1 ∧ μ [Value.int
  IntKind.i64 (IntKind.wrap IntKind.i64 (n + (1 : Int)))] H'_1 < μ [Value.int IntKind.i64 n] H') (R (Value.bool true) H')) : CallH Try.prog 62 (List.toArray [Value.string s]) H R := vc_call
  (annOf [([1], .cut []), ([0, 1, 0, 1, 1], .cut [(3, .one (.int .i64))]), ([1, 0, 0, 1, 0, 1, 1], .cut [])]) followsAll Go.Proofs.Try.func62 rfl Go.Proofs.Try.ntmps62 rfl rfl (Eq.mpr (by
  kernel_rfl) h)

/- 63 strandline/strandlineref04.Value
  slots: [0=s, 1=s, 3=n]  -/
abbrev fn_ref04_Value : Nat := 63
theorem vc_ref04_Value (s : ByteArray) (H : Heap) (R : Value → Heap → Prop) (h : brB (decide ((↑(ByteArray.size s) : Int) > (32 : Int))) (R (Value.bool false) H) (∃ (I : List Value → Heap →
  Prop) (μ : List Value → Heap → Nat), I [Value.string s] H ∧ ∀ (J : F) (s : ByteArray) (H' : Heap), I [Value.string s] H' → brB (decide ((↑(ByteArray.size s) : Int) > (0 : Int))) (CallH
  Try.prog (75 : Nat) { toList := [Value.string s] } H' fun v H'_1 => ∃ n, v = Value.int IntKind.i64 n ∧ brB (n == (0 : Int)) (R (Value.bool false) H'_1) (chk (decide ((0 : Int) ≤ n ∧ n ≤
  (↑(ByteArray.size s) : Int) ∧ (↑(ByteArray.size s) : Int) ≤ (↑(ByteArray.size s) : Int))) (I [Value.string (ByteArray.extract s (Int.toNat n) (Int.toNat (↑(ByteArray.size s) : Int)))] H'_1 ∧
  μ [Value.string (ByteArray.extract s (Int.toNat n) (Int.toNat (↑(ByteArray.size s) : Int)))] H'_1 < μ [Value.string s] H'))) (R (Value.bool true) H'))) : CallH Try.prog 63 (List.toArray
  [Value.string s]) H R := vc_call (annOf [([0, 0, 1, 1], .cut [(0, .one .str)])]) followsAll Go.Proofs.Try.func63 rfl Go.Proofs.Try.ntmps63 rfl rfl (Eq.mpr (by kernel_rfl) h)

/- 64 strandline/strandlineref01.GetUint
  slots: [0=s, 1=at, 2=s, 3=at, 7=n, 8=v, 9=i]  -/
abbrev fn_ref01_GetUint : Nat := 64
theorem vc_ref01_GetUint (s : ByteArray) (at' : Int) (H : Heap) (R : Value → Heap → Prop) (h : ∃ (M : List Value → Heap → Prop), brB (decide (at' < (0 : Int))) (R (Value.tuple { toList :=
  [Value.int IntKind.u64 (0 : Int), Value.int IntKind.i64 (0 : Int), Value.int IntKind.i64 (1 : Int)] }) H) (brB (decide (at' > (↑(ByteArray.size s) : Int))) (R (Value.tuple { toList :=
  [Value.int IntKind.u64 (0 : Int), Value.int IntKind.i64 (0 : Int), Value.int IntKind.i64 (1 : Int)] }) H) (M [] H)) ∧ ∀ (J : F) (H' : Heap), M [] H' → ∃ (I : List Value → Heap → Prop) (μ :
  List Value → Heap → Nat), I [Value.int IntKind.i64 (0 : Int)] H' ∧ ∀ (J : F) (n : Int) (H' : Heap), I [Value.int IntKind.i64 n] H' → ∃ (M : List Value → Heap → Prop), brB (decide (n < (10 :
  Int))) (brB (decide (IntKind.wrap IntKind.i64 (at' + n) < (↑(ByteArray.size s) : Int))) (chk (decide ((0 : Int) ≤ IntKind.wrap IntKind.i64 (at' + n) ∧ IntKind.wrap IntKind.i64 (at' + n) <
  (↑(ByteArray.size s) : Int))) (brB (decide ((↑(atB s (Int.toNat (IntKind.wrap IntKind.i64 (at' + n)))) : Int) > (127 : Int))) (M [] H') (brB (n == (10 : Int)) (R (Value.tuple { toList :=
  [Value.int IntKind.u64 (0 : Int), Value.int IntKind.i64 (0 : Int), Value.int IntKind.i64 (11 : Int)] }) H') (brB (IntKind.wrap IntKind.i64 (at' + n) == (↑(ByteArray.size s) : Int)) (R
  (Value.tuple { toList := [Value.int IntKind.u64 (0 : Int), Value.int IntKind.i64 (0 : Int), Value.int IntKind.i64 (10 : Int)] }) H') (∃ (I : List Value → Heap → Prop) (μ : List Value → Heap
  → Nat), I [Value.int IntKind.u64 (0 : Int), Value.int IntKind.i64 n] H' ∧ ∀ (J : F) (n_1 n_2 : Int) (H' : Heap), I [Value.int IntKind.u64 n_1, Value.int IntKind.i64 n_2] H' → brB (decide
  (n_2 ≥ (0 : Int))) (brB (decide (n_1 > (144115188075855871 : Int))) (R (Value.tuple { toList := [Value.int IntKind.u64 (0 : Int), Value.int IntKind.i64 (0 : Int), Value.int IntKind.i64 (11 :
  Int)] }) H') (chk (decide ((0 : Int) ≤ IntKind.wrap IntKind.i64 (at' + n_2) ∧ IntKind.wrap IntKind.i64 (at' + n_2) < (↑(ByteArray.size s) : Int))) (I [Value.int IntKind.u64 (IntKind.wrap
  IntKind.u64 (IntKind.wrap IntKind.u64 (n_1 * (128 : Int)) + IntKind.wrap IntKind.u64 (Int.tmod (↑(atB s (Int.toNat (IntKind.wrap IntKind.i64 (at' + n_2)))) : Int) (128 : Int)))), Value.int
  IntKind.i64 (IntKind.wrap IntKind.i64 (n_2 - (1 : Int)))] H' ∧ μ [Value.int IntKind.u64 (IntKind.wrap IntKind.u64 (IntKind.wrap IntKind.u64 (n_1 * (128 : Int)) + IntKind.wrap IntKind.u64
  (Int.tmod (↑(atB s (Int.toNat (IntKind.wrap IntKind.i64 (at' + n_2)))) : Int) (128 : Int)))), Value.int IntKind.i64 (IntKind.wrap IntKind.i64 (n_2 - (1 : Int)))] H' < μ [Value.int
  IntKind.u64 n_1, Value.int IntKind.i64 n_2] H'))) (chk (decide ((0 : Int) ≤ at' ∧ at' ≤ IntKind.wrap IntKind.i64 (IntKind.wrap IntKind.i64 (at' + n) + (1 : Int)) ∧ IntKind.wrap IntKind.i64
  (IntKind.wrap IntKind.i64 (at' + n) + (1 : Int)) ≤ (↑(ByteArray.size s) : Int))) (CallH Try.prog (44 : Nat) { toList := [Value.int IntKind.u64 n_1] } H' fun v H' => ∃ s_1, v = Value.string
  s_1 ∧ brB (!ByteArray.toList s_1 == ByteArray.toList (ByteArray.extract s (Int.toNat at') (Int.toNat (IntKind.wrap IntKind.i64 (IntKind.wrap IntKind.i64 (at' + n) + (1 : Int)))))) (R
  (Value.tuple { toList := [Value.int IntKind.u64 (0 : Int), Value.int IntKind.i64 (0 : Int), Value.int IntKind.i64 (11 : Int)] }) H') (R (Value.tuple { toList := [Value.int IntKind.u64 n_1,
  Value.int IntKind.i64 (IntKind.wrap IntKind.i64 (IntKind.wrap IntKind.i64 (at' + n) + (1 : Int))), Value.int IntKind.i64 (0 : Int)] }) H')))))))) (brB (n == (10 : Int)) (R (Value.tuple {
  toList := [Value.int IntKind.u64 (0 : Int), Value.int IntKind.i64 (0 : Int), Value.int IntKind.i64 (11 : Int)] }) H') (brB (IntKind.wrap IntKind.i64 (at' + n) == (↑(ByteArray.size s) : Int))
  (R (Value.tuple { toList := [Value.int IntKind.u64 (0 : Int), Value.int IntKind.i64 (0 : Int), Value.int IntKind.i64 (10 : Int)] }) H') (∃ (I : List Value → Heap → Prop) (μ : List Value →
  Heap → Nat), I [Value.int IntKind.u64 (0 : Int), Value.int IntKind.i64 n] H' ∧ ∀ (J : F) (n_1 n_2 : Int) (H' : Heap), I [Value.int IntKind.u64 n_1, Value.int IntKind.i64 n_2] H' → brB
  (decide (n_2 ≥ (0 : Int))) (brB (decide (n_1 > (144115188075855871 : Int))) (R (Value.tuple { toList := [Value.int IntKind.u64 (0 : Int), Value.int IntKind.i64 (0 : Int), Value.int
  IntKind.i64 (11 : Int)] }) H') (chk (decide ((0 : Int) ≤ IntKind.wrap IntKind.i64 (at' + n_2) ∧ IntKind.wrap IntKind.i64 (at' + n_2) < (↑(ByteArray.size s) : Int))) (I [Value.int IntKind.u64
  (IntKind.wrap IntKind.u64 (IntKind.wrap IntKind.u64 (n_1 * (128 : Int)) + IntKind.wrap IntKind.u64 (Int.tmod (↑(atB s (Int.toNat (IntKind.wrap IntKind.i64 (at' + n_2)))) : Int) (128 :
  Int)))), Value.int IntKind.i64 (IntKind.wrap IntKind.i64 (n_2 - (1 : Int)))] H' ∧ μ [Value.int IntKind.u64 (IntKind.wrap IntKind.u64 (IntKind.wrap IntKind.u64 (n_1 * (128 : Int)) +
  IntKind.wrap IntKind.u64 (Int.tmod (↑(atB s (Int.toNat (IntKind.wrap IntKind.i64 (at' + n_2)))) : Int) (128 : Int)))), Value.int IntKind.i64 (IntKind.wrap IntKind.i64 (n_2 - (1 : Int)))] H'
  < μ [Value.int IntKind.u64 n_1, Value.int IntKind.i64 n_2] H'))) (chk (decide ((0 : Int) ≤ at' ∧ at' ≤ IntKind.wrap IntKind.i64 (IntKind.wrap IntKind.i64 (at' + n) + (1 : Int)) ∧
  IntKind.wrap IntKind.i64 (IntKind.wrap IntKind.i64 (at' + n) + (1 : Int)) ≤ (↑(ByteArray.size s) : Int))) (CallH Try.prog (44 : Nat) { toList := [Value.int IntKind.u64 n_1] } H' fun v H' =>
  ∃ s_1, v = Value.string s_1 ∧ brB (!ByteArray.toList s_1 == ByteArray.toList (ByteArray.extract s (Int.toNat at') (Int.toNat (IntKind.wrap IntKind.i64 (IntKind.wrap IntKind.i64 (at' + n) +
  (1 : Int)))))) (R (Value.tuple { toList := [Value.int IntKind.u64 (0 : Int), Value.int IntKind.i64 (0 : Int), Value.int IntKind.i64 (11 : Int)] }) H') (R (Value.tuple { toList := [Value.int
  IntKind.u64 n_1, Value.int IntKind.i64 (IntKind.wrap IntKind.i64 (IntKind.wrap IntKind.i64 (at' + n) + (1 : Int))), Value.int IntKind.i64 (0 : Int)] }) H'))))))) (brB (n == (10 : Int)) (R
  (Value.tuple { toList := [Value.int IntKind.u64 (0 : Int), Value.int IntKind.i64 (0 : Int), Value.int IntKind.i64 (11 : Int)] }) H') (brB (IntKind.wrap IntKind.i64 (at' + n) ==
  (↑(ByteArray.size s) : Int)) (R (Value.tuple { toList := [Value.int IntKind.u64 (0 : Int), Value.int IntKind.i64 (0 : Int), Value.int IntKind.i64 (10 : Int)] }) H') (∃ (I : List Value → Heap
  → Prop) (μ : List Value → Heap → Nat), I [Value.int IntKind.u64 (0 : Int), Value.int IntKind.i64 n] H' ∧ ∀ (J : F) (n_1 n_2 : Int) (H' : Heap), I [Value.int IntKind.u64 n_1, Value.int
  IntKind.i64 n_2] H' → brB (decide (n_2 ≥ (0 : Int))) (brB (decide (n_1 > (144115188075855871 : Int))) (R (Value.tuple { toList := [Value.int IntKind.u64 (0 : Int), Value.int IntKind.i64 (0 :
  Int), Value.int IntKind.i64 (11 : Int)] }) H') (chk (decide ((0 : Int) ≤ IntKind.wrap IntKind.i64 (at' + n_2) ∧ IntKind.wrap IntKind.i64 (at' + n_2) < (↑(ByteArray.size s) : Int))) (I
  [Value.int IntKind.u64 (IntKind.wrap IntKind.u64 (IntKind.wrap IntKind.u64 (n_1 * (128 : Int)) + IntKind.wrap IntKind.u64 (Int.tmod (↑(atB s (Int.toNat (IntKind.wrap IntKind.i64 (at' +
  n_2)))) : Int) (128 : Int)))), Value.int IntKind.i64 (IntKind.wrap IntKind.i64 (n_2 - (1 : Int)))] H' ∧ μ [Value.int IntKind.u64 (IntKind.wrap IntKind.u64 (IntKind.wrap IntKind.u64 (n_1 *
  (128 : Int)) + IntKind.wrap IntKind.u64 (Int.tmod (↑(atB s (Int.toNat (IntKind.wrap IntKind.i64 (at' + n_2)))) : Int) (128 : Int)))), Value.int IntKind.i64 (IntKind.wrap IntKind.i64 (n_2 -
  (1 : Int)))] H' < μ [Value.int IntKind.u64 n_1, Value.int IntKind.i64 n_2] H'))) (chk (decide ((0 : Int) ≤ at' ∧ at' ≤ IntKind.wrap IntKind.i64 (IntKind.wrap IntKind.i64 (at' + n) + (1 :
  Int)) ∧ IntKind.wrap IntKind.i64 (IntKind.wrap IntKind.i64 (at' + n) + (1 : Int)) ≤ (↑(ByteArray.size s) : Int))) (CallH Try.prog (44 : Nat) { toList := [Value.int IntKind.u64 n_1] } H' fun
  v H' => ∃ s_1, v = Value.string s_1 ∧ brB (!ByteArray.toList s_1 == ByteArray.toList (ByteArray.extract s (Int.toNat at') (Int.toNat (IntKind.wrap IntKind.i64 (IntKind.wrap IntKind.i64 (at'
  + n) + (1 : Int)))))) (R (Value.tuple { toList := [Value.int IntKind.u64 (0 : Int), Value.int IntKind.i64 (0 : Int), Value.int IntKind.i64 (11 : Int)] }) H') (R (Value.tuple { toList :=
  [Value.int IntKind.u64 n_1, Value.int IntKind.i64 (IntKind.wrap IntKind.i64 (IntKind.wrap IntKind.i64 (at' + n) + (1 : Int))), Value.int IntKind.i64 (0 : Int)] }) H')))))) ∧ ∀ (J : F) (H'_1
  : Heap), M [] H'_1 → I [Value.int IntKind.i64 (IntKind.wrap IntKind.i64 (n + (1 : Int)))] H'_1 ∧ μ [Value.int IntKind.i64 (IntKind.wrap IntKind.i64 (n + (1 : Int)))] H'_1 < μ [Value.int
  IntKind.i64 n] H') : CallH Try.prog 64 (List.toArray [Value.string s, Value.int IntKind.i64 at']) H R := vc_call (annOf [([1], .cut []), ([0, 0, 1, 1, 1], .cut [(7, .one (.int .i64))]), ([0,
  0, 0, 1, 1, 1], .cut []), ([0, 1, 0, 1, 1, 1, 1, 1, 1, 1], .cut [(8, .one (.int .u64)), (9, .one (.int .i64))]), ([0, 0, 1, 1, 1, 1, 1, 1, 1, 1], .reg [0, 1, 0, 0, 0, 0, 48, 112, 252, 511]
  (.quiet 0 (.quiet 2 (.quiet 3 (.quiet 4 (.quiet 5 (.quiet 6 (.quiet 7 (.quiet 8 (.pick (.alt 1 (.quiet 9 .done) .stop)))))))))))]) followsAll Go.Proofs.Try.func64 rfl Go.Proofs.Try.ntmps64
  rfl rfl (Eq.mpr (by kernel_rfl) h)

/- 65 strandline/strandlineref04.Quoted
  slots: [0=s, 1=s, 4=t, 5=i]  -/
abbrev fn_ref04_Quoted : Nat := 65
theorem vc_ref04_Quoted (s : ByteArray) (H : Heap) (R : Value → Heap → Prop) (h : ∃ (M : List Value → Heap → Prop), brB ((↑(ByteArray.size s) : Int) == (0 : Int)) (R (Value.tuple { toList :=
  [Value.string { data := #[] }, Value.int IntKind.i64 (0 : Int)] }) H) (chk (decide ((0 : Int) ≤ (0 : Int) ∧ (0 : Int) < (↑(ByteArray.size s) : Int))) (brB ((↑(atB s (Int.toNat (0 : Int))) :
  Int) != (34 : Int)) (R (Value.tuple { toList := [Value.string { data := #[] }, Value.int IntKind.i64 (0 : Int)] }) H) (M [] H))) ∧ ∀ (J : F) (H' : Heap), M [] H' → ∃ (I : List Value → Heap →
  Prop) (μ : List Value → Heap → Nat), I [Value.string { data := #[] }, Value.int IntKind.i64 (1 : Int)] H' ∧ ∀ (J : F) (s_1 : ByteArray) (n : Int) (H' : Heap), I [Value.string s_1, Value.int
  IntKind.i64 n] H' → brB (decide (n < (↑(ByteArray.size s) : Int))) (chk (decide ((0 : Int) ≤ n ∧ n < (↑(ByteArray.size s) : Int))) (brB ((↑(atB s (Int.toNat n)) : Int) == (34 : Int)) (R
  (Value.tuple { toList := [Value.string s_1, Value.int IntKind.i64 (IntKind.wrap IntKind.i64 (n + (1 : Int)))] }) H') (brB ((↑(atB s (Int.toNat n)) : Int) == (92 : Int)) (brB (IntKind.wrap
  IntKind.i64 (n + (1 : Int)) == (↑(ByteArray.size s) : Int)) (R (Value.tuple { toList := [Value.string { data := #[] }, Value.int IntKind.i64 (0 : Int)] }) H') (chk (decide ((0 : Int) ≤
  IntKind.wrap IntKind.i64 (n + (1 : Int)) ∧ IntKind.wrap IntKind.i64 (n + (1 : Int)) < (↑(ByteArray.size s) : Int))) (brB ((↑(atB s (Int.toNat (IntKind.wrap IntKind.i64 (n + (1 : Int))))) :
  Int) == (110 : Int)) (chk (decide (ByteArray.size s_1 + (1 : Nat) ≤ (9223372036854775807 : Nat))) (I [Value.string (s_1 ++ { data := #[(10 : UInt8)] }), Value.int IntKind.i64 (IntKind.wrap
  IntKind.i64 (IntKind.wrap IntKind.i64 (n + (1 : Int)) + (1 : Int)))] H' ∧ μ [Value.string (s_1 ++ { data := #[(10 : UInt8)] }), Value.int IntKind.i64 (IntKind.wrap IntKind.i64 (IntKind.wrap
  IntKind.i64 (n + (1 : Int)) + (1 : Int)))] H' < μ [Value.string s_1, Value.int IntKind.i64 n] H')) (chk (decide ((0 : Int) ≤ IntKind.wrap IntKind.i64 (n + (1 : Int)) ∧ IntKind.wrap
  IntKind.i64 (n + (1 : Int)) ≤ IntKind.wrap IntKind.i64 (IntKind.wrap IntKind.i64 (n + (1 : Int)) + (1 : Int)) ∧ IntKind.wrap IntKind.i64 (IntKind.wrap IntKind.i64 (n + (1 : Int)) + (1 :
  Int)) ≤ (↑(ByteArray.size s) : Int))) (chk (decide (ByteArray.size s_1 + ByteArray.size (ByteArray.extract s (Int.toNat (IntKind.wrap IntKind.i64 (n + (1 : Int)))) (Int.toNat (IntKind.wrap
  IntKind.i64 (IntKind.wrap IntKind.i64 (n + (1 : Int)) + (1 : Int))))) ≤ (9223372036854775807 : Nat))) (I [Value.string (s_1 ++ ByteArray.extract s (Int.toNat (IntKind.wrap IntKind.i64 (n +
  (1 : Int)))) (Int.toNat (IntKind.wrap IntKind.i64 (IntKind.wrap IntKind.i64 (n + (1 : Int)) + (1 : Int))))), Value.int IntKind.i64 (IntKind.wrap IntKind.i64 (IntKind.wrap IntKind.i64 (n + (1
  : Int)) + (1 : Int)))] H' ∧ μ [Value.string (s_1 ++ ByteArray.extract s (Int.toNat (IntKind.wrap IntKind.i64 (n + (1 : Int)))) (Int.toNat (IntKind.wrap IntKind.i64 (IntKind.wrap IntKind.i64
  (n + (1 : Int)) + (1 : Int))))), Value.int IntKind.i64 (IntKind.wrap IntKind.i64 (IntKind.wrap IntKind.i64 (n + (1 : Int)) + (1 : Int)))] H' < μ [Value.string s_1, Value.int IntKind.i64 n]
  H')))))) (chk (decide ((0 : Int) ≤ n ∧ n ≤ IntKind.wrap IntKind.i64 (n + (1 : Int)) ∧ IntKind.wrap IntKind.i64 (n + (1 : Int)) ≤ (↑(ByteArray.size s) : Int))) (chk (decide (ByteArray.size
  s_1 + ByteArray.size (ByteArray.extract s (Int.toNat n) (Int.toNat (IntKind.wrap IntKind.i64 (n + (1 : Int))))) ≤ (9223372036854775807 : Nat))) (I [Value.string (s_1 ++ ByteArray.extract s
  (Int.toNat n) (Int.toNat (IntKind.wrap IntKind.i64 (n + (1 : Int))))), Value.int IntKind.i64 (IntKind.wrap IntKind.i64 (n + (1 : Int)))] H' ∧ μ [Value.string (s_1 ++ ByteArray.extract s
  (Int.toNat n) (Int.toNat (IntKind.wrap IntKind.i64 (n + (1 : Int))))), Value.int IntKind.i64 (IntKind.wrap IntKind.i64 (n + (1 : Int)))] H' < μ [Value.string s_1, Value.int IntKind.i64 n]
  H')))))) (R (Value.tuple { toList := [Value.string { data := #[] }, Value.int IntKind.i64 (0 : Int)] }) H')) : CallH Try.prog 65 (List.toArray [Value.string s]) H R := vc_call (annOf [([1],
  .cut []), ([0, 1, 0, 1, 1, 1], .cut [(4, .one .str), (5, .one (.int .i64))])]) followsAll Go.Proofs.Try.func65 rfl Go.Proofs.Try.ntmps65 rfl rfl (Eq.mpr (by kernel_rfl) h)

/- 66 strandline/strandlineref01.Unfold
  slots: [0=n, 1=n]  -/
abbrev fn_ref01_Unfold : Nat := 66
theorem vc_ref01_Unfold (n : Int) (H : Heap) (R : Value → Heap → Prop) (h : brB (Int.tmod n (2 : Int) == (0 : Int)) (R (Value.int IntKind.i64 (IntKind.wrap IntKind.i64 (IntKind.wrap
  IntKind.u64 (Int.tdiv n (2 : Int))))) H) (R (Value.int IntKind.i64 (IntKind.wrap IntKind.i64 (IntKind.wrap IntKind.i64 ((0 : Int) - IntKind.wrap IntKind.i64 (IntKind.wrap IntKind.u64
  (Int.tdiv n (2 : Int)))) - (1 : Int)))) H)) : CallH Try.prog 66 (List.toArray [Value.int IntKind.u64 n]) H R := vc_call (annOf []) followsAll Go.Proofs.Try.func66 rfl Go.Proofs.Try.ntmps66
  rfl rfl (Eq.mpr (by kernel_rfl) h)

/- 67 strandline/label.Name
  slots: [0=s, 1=s, 3=i, 4=r, 5=low]  -/
abbrev fn_label_Name : Nat := 67
theorem vc_label_Name (s : ByteArray) (H : Heap) (R : Value → Heap → Prop) (h : ∃ (M : List Value → Heap → Prop), brB (ByteArray.toList s == ByteArray.toList { data := #[] }) (R (Value.bool
  false) H) (brB (decide ((↑(ByteArray.size s) : Int) > (16 : Int))) (R (Value.bool false) H) (M [] H)) ∧ ∀ (J : F) (H' : Heap), M [] H' → SemWp Try.prog (Instr.range (9 : Nat) (Value.string
  s)) H' fun v H' => ∃ a, v = Value.pointer a ∧ ∃ (I : List Value → Heap → Prop) (μ : List Value → Heap → Nat), I [] H' ∧ ∀ (J : F) (H' : Heap), I [] H' → SemWp Try.prog (Instr.next
  (Value.pointer a) true (0 : Nat)) H' fun v H'_1 => v = Value.tuple { toList := [Value.bool false] } ∧ R (Value.bool true) H'_1 ∨ ∃ k x, v = Value.tuple { toList := [Value.bool true, k, x] }
  ∧ ∃ n, k = Value.int IntKind.i64 n ∧ ∃ n_1, x = Value.int IntKind.i32 n_1 ∧ ∃ (M : List Value → Heap → Prop), brB (decide ((97 : Int) ≤ n_1)) (M [Value.bool (decide (n_1 ≤ (122 : Int)))]
  H'_1) (M [Value.bool false] H'_1) ∧ ∀ (J : F) (b : Bool) (H'_2 : Heap), M [Value.bool b] H'_2 → brB (!b) (brB (n == (0 : Int)) (R (Value.bool false) H'_2) (brB (n_1 != (95 : Int)) (brB
  (decide (n_1 < (48 : Int))) (R (Value.bool false) H'_2) (brB (decide ((57 : Int) < n_1)) (R (Value.bool false) H'_2) (I [] H'_2 ∧ μ [] H'_2 < μ [] H'))) (I [] H'_2 ∧ μ [] H'_2 < μ [] H')))
  (I [] H'_2 ∧ μ [] H'_2 < μ [] H')) : CallH Try.prog 67 (List.toArray [Value.string s]) H R := vc_call (annOf [([1], .cut []), ([0, 1, 0, 1, 1], .cut []), ([0, 0, 1, 1, 0, 0, 1, 0, 1, 1],
  .ext), ([1, 0, 1, 1, 0, 0, 1, 0, 1, 1], .cut [(5, .one .bool)])]) followsAll Go.Proofs.Try.func67 rfl Go.Proofs.Try.ntmps67 rfl rfl (Eq.mpr (by kernel_rfl) h)

/- 68 strandline/label.Value
  slots: [0=s, 1=s, 3=wide, 4=_, 5=r]  -/
abbrev fn_label_Value : Nat := 68
theorem vc_label_Value (s : ByteArray) (H : Heap) (R : Value → Heap → Prop) (h : brB (decide ((↑(ByteArray.size s) : Int) > (32 : Int))) (R (Value.bool false) H) (SemWp Try.prog (Instr.range
  (9 : Nat) (Value.string s)) H fun v H' => ∃ a, v = Value.pointer a ∧ ∃ (I : List Value → Heap → Prop) (μ : List Value → Heap → Nat), I [Value.int IntKind.i64 (0 : Int)] H' ∧ ∀ (J : F) (n :
  Int) (H' : Heap), I [Value.int IntKind.i64 n] H' → SemWp Try.prog (Instr.next (Value.pointer a) true (0 : Nat)) H' fun v H'_1 => v = Value.tuple { toList := [Value.bool false] } ∧ R
  (Value.bool (n == (↑(ByteArray.size s) : Int))) H'_1 ∨ ∃ k x, v = Value.tuple { toList := [Value.bool true, k, x] } ∧ ∃ n_1, x = Value.int IntKind.i32 n_1 ∧ CallH Try.prog (76 : Nat) {
  toList := [Value.int IntKind.i32 n_1] } H'_1 fun v H'_2 => ∃ n_2, v = Value.int IntKind.i64 n_2 ∧ I [Value.int IntKind.i64 (IntKind.wrap IntKind.i64 (n + n_2))] H'_2 ∧ μ [Value.int
  IntKind.i64 (IntKind.wrap IntKind.i64 (n + n_2))] H'_2 < μ [Value.int IntKind.i64 n] H')) : CallH Try.prog 68 (List.toArray [Value.string s]) H R := vc_call (annOf [([0, 1, 0, 1, 1, 1], .cut
  [(3, .one (.int .i64))]), ([0, 0, 1, 1, 0, 0, 1, 0, 1, 1, 1], .ext)]) followsAll Go.Proofs.Try.func68 rfl Go.Proofs.Try.ntmps68 rfl rfl (Eq.mpr (by kernel_rfl) h)

/- 69 (*strings.Builder).WriteByte
  slots: [0=b, 1=c, 2=b, 3=c]  -/
abbrev fn_strings_Builder_WriteByte : Nat := 69
theorem vc_strings_Builder_WriteByte (b : Addr) (c : Int) (H : Heap) (R : Value → Heap → Prop) (h : CallH Try.prog (61 : Nat) { toList := [Value.pointer (some b)] } H fun v H' => v =
  Value.tuple ⟨[]⟩ ∧ ∃ a n c_1, Ld Try.prog (79 : Nat) H' (Addr.add b (1 : Nat)) (Value.slice a n c_1) ∧ ∀ (b_1 : Nat) (H'_1 : Heap), New H' b_1 (Obj.cells { toList := [Value.int IntKind.u8 c]
  } (5 : Nat)) H'_1 → SemWp Try.prog (Builtin.append_ { toList := [(79 : Nat), (79 : Nat)] } (79 : Nat) { toList := [Value.slice a n c_1, Value.slice (some ⟨b_1, (0 : Nat), none⟩) (1 : Nat) (1
  : Nat)] }) H'_1 fun v H' => ∃ a n c, v = Value.slice a n c ∧ ∃ H'_2, St Try.prog (79 : Nat) H' (Addr.add b (1 : Nat)) (Value.slice a n c) H'_2 ∧ R Value.nilIface H'_2) : CallH Try.prog 69
  (List.toArray [Value.pointer (some b), Value.int IntKind.u8 c]) H R := vc_call (annOf []) followsAll Go.Proofs.Try.func69 rfl Go.Proofs.Try.ntmps69 rfl rfl (Eq.mpr (by kernel_rfl) h)

/- 70 (*strings.Builder).Grow
  slots: [0=b, 1=n, 2=b, 3=n]  -/
abbrev fn_strings_Builder_Grow : Nat := 70
theorem vc_strings_Builder_Grow (b : Addr) (n : Int) (H : Heap) (R : Value → Heap → Prop) (h : CallH Try.prog (61 : Nat) { toList := [Value.pointer (some b)] } H fun v H' => v = Value.tuple
  ⟨[]⟩ ∧ brB (decide (n < (0 : Int))) False (∃ a n_1 c, Ld Try.prog (79 : Nat) H' (Addr.add b (1 : Nat)) (Value.slice a n_1 c) ∧ ∃ a n_2 c_1, Ld Try.prog (79 : Nat) H' (Addr.add b (1 : Nat))
  (Value.slice a n_2 c_1) ∧ brB (decide (IntKind.wrap IntKind.i64 ((↑c : Int) - (↑n_2 : Int)) < n)) (CallH Try.prog (77 : Nat) { toList := [Value.pointer (some b), Value.int IntKind.i64 n] }
  H' fun v H' => v = Value.tuple ⟨[]⟩ ∧ R (Value.tuple ⟨[]⟩) H') (R (Value.tuple ⟨[]⟩) H'))) : CallH Try.prog 70 (List.toArray [Value.pointer (some b), Value.int IntKind.i64 n]) H R := vc_call
  (annOf []) followsAll Go.Proofs.Try.func70 rfl Go.Proofs.Try.ntmps70 rfl rfl (Eq.mpr (by kernel_rfl) h)

/- 71 strings.CutPrefix
  slots: [0=s, 1=prefix, 2=s, 3=prefix, 4=after, 5=found]  -/
abbrev fn_strings_CutPrefix : Nat := 71
theorem vc_strings_CutPrefix (s : ByteArray) (prefix_ : ByteArray) (H : Heap) (R : Value → Heap → Prop) (h : CallH Try.prog (78 : Nat) { toList := [Value.string s, Value.string «prefix_»] }
  H fun v H' => ∃ s b, v = Value.tuple { toList := [Value.string s, Value.bool b] } ∧ R (Value.tuple { toList := [Value.string s, Value.bool b] }) H') : CallH Try.prog 71 (List.toArray
  [Value.string s, Value.string «prefix_»]) H R := vc_call (annOf []) followsAll Go.Proofs.Try.func71 rfl Go.Proofs.Try.ntmps71 rfl rfl (Eq.mpr (by kernel_rfl) h)

/- 72 internal/stringslite.Cut
  slots: [0=s, 1=sep, 2=s, 3=sep, 4=before, 5=after, 6=found, 7=i]  -/
abbrev fn_internal_stringslite_Cut : Nat := 72
theorem vc_internal_stringslite_Cut (s : ByteArray) (sep : ByteArray) (H : Heap) (R : Value → Heap → Prop) (h : CallH Try.prog (79 : Nat) { toList := [Value.string s, Value.string sep] } H
  fun v H' => ∃ n, v = Value.int IntKind.i64 n ∧ brB (decide (n ≥ (0 : Int))) (chk (decide ((0 : Int) ≤ (0 : Int) ∧ (0 : Int) ≤ n ∧ n ≤ (↑(ByteArray.size s) : Int))) (chk (decide ((0 : Int) ≤
  IntKind.wrap IntKind.i64 (n + (↑(ByteArray.size sep) : Int)) ∧ IntKind.wrap IntKind.i64 (n + (↑(ByteArray.size sep) : Int)) ≤ (↑(ByteArray.size s) : Int) ∧ (↑(ByteArray.size s) : Int) ≤
  (↑(ByteArray.size s) : Int))) (R (Value.tuple { toList := [Value.string (ByteArray.extract s (0 : Nat) (Int.toNat n)), Value.string (ByteArray.extract s (Int.toNat (IntKind.wrap IntKind.i64
  (n + (↑(ByteArray.size sep) : Int)))) (Int.toNat (↑(ByteArray.size s) : Int))), Value.bool true] }) H'))) (R (Value.tuple { toList := [Value.string s, Value.string { data := #[] },
  Value.bool false] }) H')) : CallH Try.prog 72 (List.toArray [Value.string s, Value.string sep]) H R := vc_call (annOf []) followsAll Go.Proofs.Try.func72 rfl Go.Proofs.Try.ntmps72 rfl rfl
  (Eq.mpr (by kernel_rfl) h)

/- 73 strandline/zig.Unfold
  slots: [0=n, 1=n]  -/
abbrev fn_zig_Unfold : Nat := 73
theorem vc_zig_Unfold (n : Int) (H : Heap) (R : Value → Heap → Prop) (h : R (Value.int IntKind.i64 (IntKind.wrap IntKind.i64 (↑(BitVec.toNat (BitVec.ofInt (64 : Nat) (IntKind.wrap
  IntKind.i64 (Int.fdiv n ((2 : Int) ^ (1 : Nat)))) ^^^ BitVec.ofInt (64 : Nat) (IntKind.wrap IntKind.i64 ((0 : Int) - IntKind.wrap IntKind.i64 (IntKind.wrap IntKind.u64 (↑(BitVec.toNat
  (BitVec.ofInt (64 : Nat) n &&& BitVec.ofInt (64 : Nat) (1 : Int))) : Int)))))) : Int))) H) : CallH Try.prog 73 (List.toArray [Value.int IntKind.u64 n]) H R := vc_call (annOf []) followsAll
  Go.Proofs.Try.func73 rfl Go.Proofs.Try.ntmps73 rfl rfl (Eq.mpr (by kernel_rfl) h)

/- 75 strandline/strandlineref04.wide
  slots: [0=s, 1=s, 3=c, 4=n, 5=r, 6=i]  -/
abbrev fn_ref04_wide : Nat := 75
theorem vc_ref04_wide (s : ByteArray) (H : Heap) (R : Value → Heap → Prop) (h : chk (decide ((0 : Int) ≤ (0 : Int) ∧ (0 : Int) < (↑(ByteArray.size s) : Int))) (∃ (M : List Value → Heap →
  Prop), brB (decide (IntKind.wrap IntKind.i64 (↑(atB s (Int.toNat (0 : Int))) : Int) < (128 : Int))) (R (Value.int IntKind.i64 (1 : Int)) H) (∃ (M_1 : List Value → Heap → Prop), brB (decide
  (IntKind.wrap IntKind.i64 (↑(atB s (Int.toNat (0 : Int))) : Int) ≥ (192 : Int))) (M_1 [Value.bool (decide (IntKind.wrap IntKind.i64 (↑(atB s (0 : Nat)) : Int) < (224 : Int)))] H) (M_1
  [Value.bool false] H) ∧ ∀ (J : F) (b : Bool) (H' : Heap), M_1 [Value.bool b] H' → brB b (M [Value.int IntKind.i64 (2 : Int), Value.int IntKind.i64 (IntKind.wrap IntKind.i64 (IntKind.wrap
  IntKind.i64 (↑(atB s (0 : Nat)) : Int) - (192 : Int)))] H') (∃ (M_2 : List Value → Heap → Prop), brB (decide (IntKind.wrap IntKind.i64 (↑(atB s (Int.toNat (0 : Int))) : Int) ≥ (224 : Int)))
  (M_2 [Value.bool (decide (IntKind.wrap IntKind.i64 (↑(atB s (0 : Nat)) : Int) < (240 : Int)))] H') (M_2 [Value.bool false] H') ∧ ∀ (J : F) (b : Bool) (H' : Heap), M_2 [Value.bool b] H' → brB
  b (M [Value.int IntKind.i64 (3 : Int), Value.int IntKind.i64 (IntKind.wrap IntKind.i64 (IntKind.wrap IntKind.i64 (↑(atB s (0 : Nat)) : Int) - (224 : Int)))] H') (brB (decide (IntKind.wrap
  IntKind.i64 (↑(atB s (Int.toNat (0 : Int))) : Int) ≥ (240 : Int))) (brB (decide (IntKind.wrap IntKind.i64 (↑(atB s (Int.toNat (0 : Int))) : Int) < (248 : Int))) (M [Value.int IntKind.i64 (4
  : Int), Value.int IntKind.i64 (IntKind.wrap IntKind.i64 (IntKind.wrap IntKind.i64 (↑(atB s (0 : Nat)) : Int) - (240 : Int)))] H') (M [Value.int IntKind.i64 (0 : Int), Value.int IntKind.i64
  (0 : Int)] H')) (M [Value.int IntKind.i64 (0 : Int), Value.int IntKind.i64 (0 : Int)] H')))) ∧ ∀ (J : F) (n n_1 : Int) (H' : Heap), M [Value.int IntKind.i64 n, Value.int IntKind.i64 n_1] H'
  → ∃ (M : List Value → Heap → Prop), brB (n == (0 : Int)) (R (Value.int IntKind.i64 (0 : Int)) H') (brB (decide ((↑(ByteArray.size s) : Int) < n)) (R (Value.int IntKind.i64 (0 : Int)) H') (M
  [] H')) ∧ ∀ (J : F) (H' : Heap), M [] H' → ∃ (I : List Value → Heap → Prop) (μ : List Value → Heap → Nat), I [Value.int IntKind.i64 n_1, Value.int IntKind.i64 (1 : Int)] H' ∧ ∀ (J : F) (n_2
  n_3 : Int) (H' : Heap), I [Value.int IntKind.i64 n_2, Value.int IntKind.i64 n_3] H' → brB (decide (n_3 < n)) (∃ (M : List Value → Heap → Prop), chk (decide ((0 : Int) ≤ n_3 ∧ n_3 <
  (↑(ByteArray.size s) : Int))) (brB (decide ((↑(atB s (Int.toNat n_3)) : Int) < (128 : Int))) (R (Value.int IntKind.i64 (0 : Int)) H') (chk (decide ((0 : Int) ≤ n_3 ∧ n_3 < (↑(ByteArray.size
  s) : Int))) (brB (decide ((↑(atB s (Int.toNat n_3)) : Int) ≥ (192 : Int))) (R (Value.int IntKind.i64 (0 : Int)) H') (M [] H')))) ∧ ∀ (J : F) (H'_1 : Heap), M [] H'_1 → chk (decide ((0 : Int)
  ≤ n_3 ∧ n_3 < (↑(ByteArray.size s) : Int))) (I [Value.int IntKind.i64 (IntKind.wrap IntKind.i64 (IntKind.wrap IntKind.i64 (IntKind.wrap IntKind.i64 (n_2 * (64 : Int)) + IntKind.wrap
  IntKind.i64 (↑(atB s (Int.toNat n_3)) : Int)) - (128 : Int))), Value.int IntKind.i64 (IntKind.wrap IntKind.i64 (n_3 + (1 : Int)))] H'_1 ∧ μ [Value.int IntKind.i64 (IntKind.wrap IntKind.i64
  (IntKind.wrap IntKind.i64 (IntKind.wrap IntKind.i64 (n_2 * (64 : Int)) + IntKind.wrap IntKind.i64 (↑(atB s (Int.toNat n_3)) : Int)) - (128 : Int))), Value.int IntKind.i64 (IntKind.wrap
  IntKind.i64 (n_3 + (1 : Int)))] H'_1 < μ [Value.int IntKind.i64 n_2, Value.int IntKind.i64 n_3] H')) (∃ (M : List Value → Heap → Prop), brB (n == (2 : Int)) (brB (decide (n_2 < (128 : Int)))
  (R (Value.int IntKind.i64 (0 : Int)) H') (brB (n == (3 : Int)) (brB (decide (n_2 < (2048 : Int))) (R (Value.int IntKind.i64 (0 : Int)) H') (brB (n == (4 : Int)) (brB (decide (n_2 < (65536 :
  Int))) (R (Value.int IntKind.i64 (0 : Int)) H') (brB (decide (n_2 > (1114111 : Int))) (R (Value.int IntKind.i64 (0 : Int)) H') (brB (decide (n_2 ≥ (55296 : Int))) (brB (decide (n_2 < (57344
  : Int))) (R (Value.int IntKind.i64 (0 : Int)) H') (M [] H')) (M [] H')))) (brB (decide (n_2 > (1114111 : Int))) (R (Value.int IntKind.i64 (0 : Int)) H') (brB (decide (n_2 ≥ (55296 : Int)))
  (brB (decide (n_2 < (57344 : Int))) (R (Value.int IntKind.i64 (0 : Int)) H') (M [] H')) (M [] H'))))) (brB (n == (4 : Int)) (brB (decide (n_2 < (65536 : Int))) (R (Value.int IntKind.i64 (0 :
  Int)) H') (brB (decide (n_2 > (1114111 : Int))) (R (Value.int IntKind.i64 (0 : Int)) H') (brB (decide (n_2 ≥ (55296 : Int))) (brB (decide (n_2 < (57344 : Int))) (R (Value.int IntKind.i64 (0
  : Int)) H') (M [] H')) (M [] H')))) (brB (decide (n_2 > (1114111 : Int))) (R (Value.int IntKind.i64 (0 : Int)) H') (brB (decide (n_2 ≥ (55296 : Int))) (brB (decide (n_2 < (57344 : Int))) (R
  (Value.int IntKind.i64 (0 : Int)) H') (M [] H')) (M [] H')))))) (brB (n == (3 : Int)) (brB (decide (n_2 < (2048 : Int))) (R (Value.int IntKind.i64 (0 : Int)) H') (brB (n == (4 : Int)) (brB
  (decide (n_2 < (65536 : Int))) (R (Value.int IntKind.i64 (0 : Int)) H') (brB (decide (n_2 > (1114111 : Int))) (R (Value.int IntKind.i64 (0 : Int)) H') (brB (decide (n_2 ≥ (55296 : Int)))
  (brB (decide (n_2 < (57344 : Int))) (R (Value.int IntKind.i64 (0 : Int)) H') (M [] H')) (M [] H')))) (brB (decide (n_2 > (1114111 : Int))) (R (Value.int IntKind.i64 (0 : Int)) H') (brB
  (decide (n_2 ≥ (55296 : Int))) (brB (decide (n_2 < (57344 : Int))) (R (Value.int IntKind.i64 (0 : Int)) H') (M [] H')) (M [] H'))))) (brB (n == (4 : Int)) (brB (decide (n_2 < (65536 : Int)))
  (R (Value.int IntKind.i64 (0 : Int)) H') (brB (decide (n_2 > (1114111 : Int))) (R (Value.int IntKind.i64 (0 : Int)) H') (brB (decide (n_2 ≥ (55296 : Int))) (brB (decide (n_2 < (57344 :
  Int))) (R (Value.int IntKind.i64 (0 : Int)) H') (M [] H')) (M [] H')))) (brB (decide (n_2 > (1114111 : Int))) (R (Value.int IntKind.i64 (0 : Int)) H') (brB (decide (n_2 ≥ (55296 : Int)))
  (brB (decide (n_2 < (57344 : Int))) (R (Value.int IntKind.i64 (0 : Int)) H') (M [] H')) (M [] H'))))) ∧ ∀ (J : F) (H' : Heap), M [] H' → R (Value.int IntKind.i64 n) H'))) : CallH Try.prog 75
  (List.toArray [Value.string s]) H R := vc_call (annOf [([1, 1, 1, 1], .cut [(4, .one (.int .i64)), (5, .one (.int .i64))]), ([1, 1, 0, 0, 1, 1, 1, 1], .cut [(13, .one .bool)]), ([1, 1, 1, 1,
  0, 0, 1, 1, 1, 1], .cut [(22, .one .bool)]), ([1, 1, 1, 1, 1], .cut []), ([0, 1, 0, 1, 1, 1, 1, 1, 1], .cut [(5, .one (.int .i64)), (6, .one (.int .i64))]), ([0, 0, 1, 0, 0, 1, 0, 1, 1, 1,
  1, 1, 1], .cut []), ([1, 1, 1, 1, 1, 1, 1], .cut [])]) followsAll Go.Proofs.Try.func75 rfl Go.Proofs.Try.ntmps75 rfl rfl (Eq.mpr (by kernel_rfl) h)

/- 76 unicode/utf8.RuneLen
  slots: [0=r, 1=r]  -/
abbrev fn_unicode_utf8_RuneLen : Nat := 76
theorem vc_unicode_utf8_RuneLen (r : Int) (H : Heap) (R : Value → Heap → Prop) (h : brB (decide (r < (0 : Int))) (R (Value.int IntKind.i64 (-1 : Int)) H) (brB (decide (r ≤ (127 : Int))) (R
  (Value.int IntKind.i64 (1 : Int)) H) (brB (decide (r ≤ (2047 : Int))) (R (Value.int IntKind.i64 (2 : Int)) H) (brB (decide ((55296 : Int) ≤ r)) (brB (decide (r ≤ (57343 : Int))) (R
  (Value.int IntKind.i64 (-1 : Int)) H) (brB (decide (r ≤ (65535 : Int))) (R (Value.int IntKind.i64 (3 : Int)) H) (brB (decide (r ≤ (1114111 : Int))) (R (Value.int IntKind.i64 (4 : Int)) H) (R
  (Value.int IntKind.i64 (-1 : Int)) H)))) (brB (decide (r ≤ (65535 : Int))) (R (Value.int IntKind.i64 (3 : Int)) H) (brB (decide (r ≤ (1114111 : Int))) (R (Value.int IntKind.i64 (4 : Int)) H)
  (R (Value.int IntKind.i64 (-1 : Int)) H))))))) : CallH Try.prog 76 (List.toArray [Value.int IntKind.i32 r]) H R := vc_call (annOf []) followsAll Go.Proofs.Try.func76 rfl
  Go.Proofs.Try.ntmps76 rfl rfl (Eq.mpr (by kernel_rfl) h)

/- 77 (*strings.Builder).grow
  slots: [0=b, 1=n, 2=b, 3=n, 4=buf]  -/
abbrev fn_strings_Builder_grow : Nat := 77
theorem vc_strings_Builder_grow (b : Addr) (n : Int) (H : Heap) (R : Value → Heap → Prop) (h : ∃ a n_1 c, Ld Try.prog (79 : Nat) H (Addr.add b (1 : Nat)) (Value.slice a n_1 c) ∧ ∃ a n_2 c_1,
  Ld Try.prog (79 : Nat) H (Addr.add b (1 : Nat)) (Value.slice a n_2 c_1) ∧ ExtH Try.prog (80 : Nat) { toList := [Value.int IntKind.i64 (IntKind.wrap IntKind.i64 (IntKind.wrap IntKind.i64 ((2
  : Int) * (↑c : Int)) + n))] } H fun v H' => ∃ a_1 n c, v = Value.slice a_1 n c ∧ Ld Try.prog (79 : Nat) H' (Addr.add b (1 : Nat)) (Value.slice a n_2 c_1) ∧ chk (decide ((0 : Int) ≤ (0 : Int)
  ∧ (0 : Int) ≤ (↑n_2 : Int) ∧ (↑n_2 : Int) ≤ (↑c : Int))) (∃ a n c_2, Ld Try.prog (79 : Nat) H' (Addr.add b (1 : Nat)) (Value.slice a n c_2) ∧ SemWp Try.prog (Builtin.copy_ { toList := [(79 :
  Nat), (79 : Nat)] } (3 : Nat) { toList := [Value.slice a_1 (Int.toNat (↑n_2 : Int) - (0 : Nat)) (c - (0 : Nat)), Value.slice a n c_2] }) H' fun v H' => ∃ n, v = Value.int IntKind.i64 n ∧ ∃
  H'_1, St Try.prog (79 : Nat) H' (Addr.add b (1 : Nat)) (Value.slice a_1 (Int.toNat (↑n_2 : Int) - (0 : Nat)) (c - (0 : Nat))) H'_1 ∧ R (Value.tuple ⟨[]⟩) H'_1)) : CallH Try.prog 77
  (List.toArray [Value.pointer (some b), Value.int IntKind.i64 n]) H R := vc_call (annOf [([0], .reg [0, 1, 3, 7, 15, 31, 0, 127, 255, 0, 512, 1536, 3584, 7680, 16383, 32767] (.quiet 0 (.quiet
  1 (.quiet 2 (.quiet 3 (.quiet 4 (.quiet 5 (.quiet 6 (.quiet 7 (.quiet 9 (.quiet 10 (.quiet 11 (.quiet 12 (.quiet 13 (.pick (.alt 8 (.quiet 14 (.quiet 15 .done)) .stop))))))))))))))))])
  followsAll Go.Proofs.Try.func77 rfl Go.Proofs.Try.ntmps77 rfl rfl (Eq.mpr (by kernel_rfl) h)

/- 78 internal/stringslite.CutPrefix
  slots: [0=s, 1=prefix, 2=s, 3=prefix, 4=after, 5=found]  -/
abbrev fn_internal_stringslite_CutPrefix : Nat := 78
theorem vc_internal_stringslite_CutPrefix (s : ByteArray) (prefix_ : ByteArray) (H : Heap) (R : Value → Heap → Prop) (h : CallH Try.prog (81 : Nat) { toList := [Value.string s, Value.string
  «prefix_»] } H fun v H' => ∃ b, v = Value.bool b ∧ brB (!b) (R (Value.tuple { toList := [Value.string s, Value.bool false] }) H') (chk (decide ((0 : Int) ≤ (↑(ByteArray.size «prefix_») :
  Int) ∧ (↑(ByteArray.size «prefix_») : Int) ≤ (↑(ByteArray.size s) : Int) ∧ (↑(ByteArray.size s) : Int) ≤ (↑(ByteArray.size s) : Int))) (R (Value.tuple { toList := [Value.string
  (ByteArray.extract s (Int.toNat (↑(ByteArray.size «prefix_») : Int)) (Int.toNat (↑(ByteArray.size s) : Int))), Value.bool true] }) H'))) : CallH Try.prog 78 (List.toArray [Value.string s,
  Value.string «prefix_»]) H R := vc_call (annOf []) followsAll Go.Proofs.Try.func78 rfl Go.Proofs.Try.ntmps78 rfl rfl (Eq.mpr (by kernel_rfl) h)

/- 79 internal/stringslite.Index
  slots: [0=s, 1=substr, 2=s, 3=substr, 5=n, 6=c0, 7=c1, 8=i, 9=t, 10=fails, 11=o, 12=r, 13=j]  -/
abbrev fn_internal_stringslite_Index : Nat := 79
theorem vc_internal_stringslite_Index (s : ByteArray) (substr : ByteArray) (H : Heap) (R : Value → Heap → Prop) (h : ∃ (M : List Value → Heap → Prop), (∃ (M_1 : List Value → Heap → Prop),
  brB ((↑(ByteArray.size substr) : Int) == (0 : Int)) (M_1 [Value.bool true] H) (M_1 [Value.bool (ByteArray.toList substr == ByteArray.toList s)] H) ∧ ∀ (J : F) (b : Bool) (H' : Heap), M_1
  [Value.bool b] H' → brB b (R (Value.int IntKind.i64 (0 : Int)) H') (brB ((↑(ByteArray.size substr) : Int) == (1 : Int)) (chk (decide ((0 : Int) ≤ (0 : Int) ∧ (0 : Int) < (↑(ByteArray.size
  substr) : Int))) (CallH Try.prog (82 : Nat) { toList := [Value.string s, Value.int IntKind.u8 (↑(atB substr (0 : Nat)) : Int)] } H' fun v H' => ∃ n, v = Value.int IntKind.i64 n ∧ R
  (Value.int IntKind.i64 n) H')) (brB (decide ((↑(ByteArray.size substr) : Int) ≥ (↑(ByteArray.size s) : Int))) (R (Value.int IntKind.i64 (-1 : Int)) H') (∃ n, Ld Try.prog (3 : Nat) H' ⟨(0 :
  Nat), (0 : Nat), none⟩ (Value.int IntKind.i64 n) ∧ brB (decide ((↑(ByteArray.size substr) : Int) ≤ n)) (brB (decide ((↑(ByteArray.size s) : Int) ≤ (64 : Int))) (ExtH Try.prog (83 : Nat) {
  toList := [Value.string s, Value.string substr] } H' fun v H' => ∃ n, v = Value.int IntKind.i64 n ∧ R (Value.int IntKind.i64 n) H') (M [] H')) (M [] H'))))) ∧ ∀ (J : F) (H' : Heap), M [] H'
  → chk (decide ((0 : Int) ≤ (0 : Int) ∧ (0 : Int) < (↑(ByteArray.size substr) : Int))) (chk (decide ((0 : Int) ≤ (1 : Int) ∧ (1 : Int) < (↑(ByteArray.size substr) : Int))) (∃ (I : List Value
  → Heap → Prop) (μ : List Value → Heap → Nat), I [Value.int IntKind.i64 (0 : Int), Value.int IntKind.i64 (0 : Int)] H' ∧ ∀ (J : F) (n n_1 : Int) (H' : Heap), I [Value.int IntKind.i64 n,
  Value.int IntKind.i64 n_1] H' → brB (decide (n < IntKind.wrap IntKind.i64 (IntKind.wrap IntKind.i64 ((↑(ByteArray.size s) : Int) - (↑(ByteArray.size substr) : Int)) + (1 : Int)))) (∃ (M :
  List Value → Heap → Prop), chk (decide ((0 : Int) ≤ n ∧ n < (↑(ByteArray.size s) : Int))) (brB ((↑(atB s (Int.toNat n)) : Int) != (↑(atB substr (Int.toNat (0 : Int))) : Int)) (chk (decide
  ((0 : Int) ≤ IntKind.wrap IntKind.i64 (n + (1 : Int)) ∧ IntKind.wrap IntKind.i64 (n + (1 : Int)) ≤ IntKind.wrap IntKind.i64 (IntKind.wrap IntKind.i64 ((↑(ByteArray.size s) : Int) -
  (↑(ByteArray.size substr) : Int)) + (1 : Int)) ∧ IntKind.wrap IntKind.i64 (IntKind.wrap IntKind.i64 ((↑(ByteArray.size s) : Int) - (↑(ByteArray.size substr) : Int)) + (1 : Int)) ≤
  (↑(ByteArray.size s) : Int))) (CallH Try.prog (82 : Nat) { toList := [Value.string (ByteArray.extract s (Int.toNat (IntKind.wrap IntKind.i64 (n + (1 : Int)))) (Int.toNat (IntKind.wrap
  IntKind.i64 (IntKind.wrap IntKind.i64 ((↑(ByteArray.size s) : Int) - (↑(ByteArray.size substr) : Int)) + (1 : Int))))), Value.int IntKind.u8 (↑(atB substr (0 : Nat)) : Int)] } H' fun v H' =>
  ∃ n_2, v = Value.int IntKind.i64 n_2 ∧ brB (decide (n_2 < (0 : Int))) (R (Value.int IntKind.i64 (-1 : Int)) H') (M [Value.int IntKind.i64 (IntKind.wrap IntKind.i64 (n + IntKind.wrap
  IntKind.i64 (n_2 + (1 : Int))))] H'))) (M [Value.int IntKind.i64 n] H')) ∧ ∀ (J : F) (n_2 : Int) (H'_1 : Heap), M [Value.int IntKind.i64 n_2] H'_1 → ∃ (M : List Value → Heap → Prop), chk
  (decide ((0 : Int) ≤ IntKind.wrap IntKind.i64 (n_2 + (1 : Int)) ∧ IntKind.wrap IntKind.i64 (n_2 + (1 : Int)) < (↑(ByteArray.size s) : Int))) (brB ((↑(atB s (Int.toNat (IntKind.wrap
  IntKind.i64 (n_2 + (1 : Int))))) : Int) == (↑(atB substr (Int.toNat (1 : Int))) : Int)) (chk (decide ((0 : Int) ≤ n_2 ∧ n_2 ≤ IntKind.wrap IntKind.i64 (n_2 + (↑(ByteArray.size substr) :
  Int)) ∧ IntKind.wrap IntKind.i64 (n_2 + (↑(ByteArray.size substr) : Int)) ≤ (↑(ByteArray.size s) : Int))) (brB (ByteArray.toList (ByteArray.extract s (Int.toNat n_2) (Int.toNat (IntKind.wrap
  IntKind.i64 (n_2 + (↑(ByteArray.size substr) : Int))))) == ByteArray.toList substr) (R (Value.int IntKind.i64 n_2) H'_1) (M [] H'_1))) (M [] H'_1)) ∧ ∀ (J : F) (H'_2 : Heap), M [] H'_2 → ∃
  (M : List Value → Heap → Prop), (∃ n, Ld Try.prog (3 : Nat) H'_2 ⟨(0 : Nat), (0 : Nat), none⟩ (Value.int IntKind.i64 n) ∧ brB (decide ((↑(ByteArray.size substr) : Int) ≤ n)) (CallH Try.prog
  (84 : Nat) { toList := [Value.int IntKind.i64 (IntKind.wrap IntKind.i64 (n_2 + (1 : Int)))] } H'_2 fun v H' => ∃ n, v = Value.int IntKind.i64 n ∧ M [Value.bool (decide (IntKind.wrap
  IntKind.i64 (n_1 + (1 : Int)) > n))] H') (M [Value.bool false] H'_2)) ∧ ∀ (J : F) (b : Bool) (H'_3 : Heap), M [Value.bool b] H'_3 → brB b (chk (decide ((0 : Int) ≤ IntKind.wrap IntKind.i64
  (n_2 + (1 : Int)) ∧ IntKind.wrap IntKind.i64 (n_2 + (1 : Int)) ≤ (↑(ByteArray.size s) : Int) ∧ (↑(ByteArray.size s) : Int) ≤ (↑(ByteArray.size s) : Int))) (ExtH Try.prog (83 : Nat) { toList
  := [Value.string (ByteArray.extract s (Int.toNat (IntKind.wrap IntKind.i64 (n_2 + (1 : Int)))) (Int.toNat (↑(ByteArray.size s) : Int))), Value.string substr] } H'_3 fun v H' => ∃ n, v =
  Value.int IntKind.i64 n ∧ brB (decide (n ≥ (0 : Int))) (R (Value.int IntKind.i64 (IntKind.wrap IntKind.i64 (n + IntKind.wrap IntKind.i64 (n_2 + (1 : Int))))) H') (R (Value.int IntKind.i64
  (-1 : Int)) H'))) (∃ (M : List Value → Heap → Prop), (∃ n, Ld Try.prog (3 : Nat) H'_3 ⟨(0 : Nat), (0 : Nat), none⟩ (Value.int IntKind.i64 n) ∧ brB (decide ((↑(ByteArray.size substr) : Int) >
  n)) (brB (decide (IntKind.wrap IntKind.i64 (n_1 + (1 : Int)) ≥ IntKind.wrap IntKind.i64 ((4 : Int) + Int.fdiv (IntKind.wrap IntKind.i64 (n_2 + (1 : Int))) ((2 : Int) ^ min (Int.toNat (4 :
  Int)) (IntKind.bits IntKind.i64))))) (M [Value.bool (decide (IntKind.wrap IntKind.i64 (n_2 + (1 : Int)) < IntKind.wrap IntKind.i64 (IntKind.wrap IntKind.i64 ((↑(ByteArray.size s) : Int) -
  (↑(ByteArray.size substr) : Int)) + (1 : Int))))] H'_3) (M [Value.bool false] H'_3)) (M [Value.bool false] H'_3)) ∧ ∀ (J : F) (b : Bool) (H'_4 : Heap), M [Value.bool b] H'_4 → brB b (chk
  (decide ((0 : Int) ≤ IntKind.wrap IntKind.i64 (n_2 + (1 : Int)) ∧ IntKind.wrap IntKind.i64 (n_2 + (1 : Int)) ≤ (↑(ByteArray.size s) : Int) ∧ (↑(ByteArray.size s) : Int) ≤ (↑(ByteArray.size
  s) : Int))) (CallH Try.prog (85 : Nat) { toList := [Value.string (ByteArray.extract s (Int.toNat (IntKind.wrap IntKind.i64 (n_2 + (1 : Int)))) (Int.toNat (↑(ByteArray.size s) : Int))),
  Value.string substr] } H'_4 fun v H' => ∃ n, v = Value.int IntKind.i64 n ∧ brB (decide (n < (0 : Int))) (R (Value.int IntKind.i64 (-1 : Int)) H') (R (Value.int IntKind.i64 (IntKind.wrap
  IntKind.i64 (IntKind.wrap IntKind.i64 (n_2 + (1 : Int)) + n))) H'))) (I [Value.int IntKind.i64 (IntKind.wrap IntKind.i64 (n_2 + (1 : Int))), Value.int IntKind.i64 (IntKind.wrap IntKind.i64
  (n_1 + (1 : Int)))] H'_4 ∧ μ [Value.int IntKind.i64 (IntKind.wrap IntKind.i64 (n_2 + (1 : Int))), Value.int IntKind.i64 (IntKind.wrap IntKind.i64 (n_1 + (1 : Int)))] H'_4 < μ [Value.int
  IntKind.i64 n, Value.int IntKind.i64 n_1] H'))) (R (Value.int IntKind.i64 (-1 : Int)) H')))) : CallH Try.prog 79 (List.toArray [Value.string s, Value.string substr]) H R := vc_call (annOf
  [([1, 1], .cut []), ([0, 0, 1, 1], .cut [(16, .one .bool)]), ([0, 0, 1, 1, 1, 1, 1, 1, 1, 1], .cut [(8, .one (.int .i64)), (10, .one (.int .i64))]), ([0, 1, 0, 0, 0, 1, 1, 1, 1, 1, 1, 1, 1],
  .cut [(8, .one (.int .i64))]), ([1, 0, 1, 0, 0, 0, 1, 1, 1, 1, 1, 1, 1, 1], .cut []), ([1, 1, 1, 1, 0, 1, 0, 0, 0, 1, 1, 1, 1, 1, 1, 1, 1], .cut [(107, .one .bool)]), ([1, 1, 1, 1, 1, 1, 0,
  1, 0, 0, 0, 1, 1, 1, 1, 1, 1, 1, 1], .cut [(132, .one .bool)])]) followsAll Go.Proofs.Try.func79 rfl Go.Proofs.Try.ntmps79 rfl rfl (Eq.mpr (by kernel_rfl) h)

/- 81 internal/stringslite.HasPrefix
  slots: [0=s, 1=prefix, 2=s, 3=prefix]  -/
abbrev fn_internal_stringslite_HasPrefix : Nat := 81
theorem vc_internal_stringslite_HasPrefix (s : ByteArray) (prefix_ : ByteArray) (H : Heap) (R : Value → Heap → Prop) (h : brB (decide ((↑(ByteArray.size s) : Int) ≥ (↑(ByteArray.size
  «prefix_») : Int))) (chk (decide ((0 : Int) ≤ (0 : Int) ∧ (0 : Int) ≤ (↑(ByteArray.size «prefix_») : Int) ∧ (↑(ByteArray.size «prefix_») : Int) ≤ (↑(ByteArray.size s) : Int))) (R (Value.bool
  (ByteArray.toList (ByteArray.extract s (0 : Nat) (Int.toNat (↑(ByteArray.size «prefix_») : Int))) == ByteArray.toList «prefix_»)) H)) (R (Value.bool false) H)) : CallH Try.prog 81
  (List.toArray [Value.string s, Value.string «prefix_»]) H R := vc_call (annOf []) followsAll Go.Proofs.Try.func81 rfl Go.Proofs.Try.ntmps81 rfl rfl (Eq.mpr (by kernel_rfl) h)

/- 82 internal/stringslite.IndexByte
  slots: [0=s, 1=c, 2=s, 3=c]  -/
abbrev fn_internal_stringslite_IndexByte : Nat := 82
theorem vc_internal_stringslite_IndexByte (s : ByteArray) (c : Int) (H : Heap) (R : Value → Heap → Prop) (h : ExtH Try.prog (86 : Nat) { toList := [Value.string s, Value.int IntKind.u8 c] }
  H fun v H' => ∃ n, v = Value.int IntKind.i64 n ∧ R (Value.int IntKind.i64 n) H') : CallH Try.prog 82 (List.toArray [Value.string s, Value.int IntKind.u8 c]) H R := vc_call (annOf [])
  followsAll Go.Proofs.Try.func82 rfl Go.Proofs.Try.ntmps82 rfl rfl (Eq.mpr (by kernel_rfl) h)
end Go.Proofs
