/- A part of a proof: see the last text of this claim. -/
import Derived.Test.YtddfciphdbdemaaGvCore
import Derived.Test.YtddfciphdbdemaaRows
set_option linter.unusedVariables false
set_option maxRecDepth 100000
open Go Go.GV
namespace Go.Proofs
theorem followsAll : Try.prog.follows .mixedOrders = true := by kernel_rfl

/- 11 strandline/strandlinelaw07.heavy
  slots: [0=l, 1=l, 3=n, 4=i, 5=k]  -/
abbrev fn_law07_heavy : Nat := 11
theorem vc_law07_heavy (l_a : Option Addr) (l_n : Nat) (l_c : Nat) (H : Heap) (R : Value → Heap → Prop) (h : ∃ (I : List Value → Heap → Prop) (μ : List Value → Heap → Nat), I [Value.int
  IntKind.i64 (if (1048576 : Int) < (↑l_n : Int) then (1048576 : Int) else (↑l_n : Int)), Value.int IntKind.i64 (0 : Int)] H ∧ ∀ (J : F) (n n_1 : Int) (H' : Heap), I [Value.int IntKind.i64 n,
  Value.int IntKind.i64 n_1] H' → ∃ (M : List Value → Heap → Prop), brB (decide (n_1 < (↑l_n : Int))) (brB (decide (n ≤ (4096 : Int))) (M [] H') (R (Value.bool (decide (n > (4096 : Int))))
  H')) (R (Value.bool (decide (n > (4096 : Int)))) H') ∧ ∀ (J : F) (H'_1 : Heap), M [] H'_1 → exSome l_a fun ad => chk (decide ((0 : Int) ≤ n_1 ∧ n_1 < (↑l_n : Int))) (∃ a n_2 c, Ld Try.prog
  (23 : Nat) H'_1 (Addr.add ad (Int.toNat n_1 * (1 : Nat))) (Value.slice a n_2 c) ∧ ∃ (I_1 : List Value → Heap → Prop) (μ_1 : List Value → Heap → Nat), I_1 [Value.int IntKind.i64 (IntKind.wrap
  IntKind.i64 (n + if (1048576 : Int) < (↑n_2 : Int) then (1048576 : Int) else (↑n_2 : Int))), Value.int IntKind.i64 (0 : Int)] H'_1 ∧ ∀ (J : F) (n_3 n_4 : Int) (H'_2 : Heap), I_1 [Value.int
  IntKind.i64 n_3, Value.int IntKind.i64 n_4] H'_2 → ∃ (M : List Value → Heap → Prop), (exSome l_a fun ad => chk (decide ((0 : Int) ≤ n_1 ∧ n_1 < (↑l_n : Int))) (∃ a n_5 c, Ld Try.prog (23 :
  Nat) H'_2 (Addr.add ad (Int.toNat n_1 * (1 : Nat))) (Value.slice a n_5 c) ∧ brB (decide (n_4 < (↑n_5 : Int))) (brB (decide (n_3 ≤ (4096 : Int))) (M [] H'_2) (I [Value.int IntKind.i64 n_3,
  Value.int IntKind.i64 (IntKind.wrap IntKind.i64 (n_1 + (1 : Int)))] H'_2 ∧ μ [Value.int IntKind.i64 n_3, Value.int IntKind.i64 (IntKind.wrap IntKind.i64 (n_1 + (1 : Int)))] H'_2 < μ
  [Value.int IntKind.i64 n, Value.int IntKind.i64 n_1] H')) (I [Value.int IntKind.i64 n_3, Value.int IntKind.i64 (IntKind.wrap IntKind.i64 (n_1 + (1 : Int)))] H'_2 ∧ μ [Value.int IntKind.i64
  n_3, Value.int IntKind.i64 (IntKind.wrap IntKind.i64 (n_1 + (1 : Int)))] H'_2 < μ [Value.int IntKind.i64 n, Value.int IntKind.i64 n_1] H'))) ∧ ∀ (J : F) (H' : Heap), M [] H' → exSome l_a fun
  ad => chk (decide ((0 : Int) ≤ n_1 ∧ n_1 < (↑l_n : Int))) (∃ a n c, Ld Try.prog (23 : Nat) H' (Addr.add ad (Int.toNat n_1 * (1 : Nat))) (Value.slice a n c) ∧ exSome a fun ad => chk (decide
  ((0 : Int) ≤ n_4 ∧ n_4 < (↑n : Int))) (∃ s, Ld Try.prog (9 : Nat) H' (Addr.add ad (Int.toNat n_4 * (2 : Nat))) (Value.string s) ∧ exSome l_a fun ad => chk (decide ((0 : Int) ≤ n_1 ∧ n_1 <
  (↑l_n : Int))) (∃ a n c, Ld Try.prog (23 : Nat) H' (Addr.add ad (Int.toNat n_1 * (1 : Nat))) (Value.slice a n c) ∧ exSome a fun ad => chk (decide ((0 : Int) ≤ n_4 ∧ n_4 < (↑n : Int))) (∃
  s_1, Ld Try.prog (9 : Nat) H' (Addr.add (Addr.add ad (Int.toNat n_4 * (2 : Nat))) (1 : Nat)) (Value.string s_1) ∧ I_1 [Value.int IntKind.i64 (IntKind.wrap IntKind.i64 (n_3 + IntKind.wrap
  IntKind.i64 ((if (1048576 : Int) < (↑(ByteArray.size s) : Int) then (1048576 : Int) else (↑(ByteArray.size s) : Int)) + if (1048576 : Int) < (↑(ByteArray.size s_1) : Int) then (1048576 :
  Int) else (↑(ByteArray.size s_1) : Int)))), Value.int IntKind.i64 (IntKind.wrap IntKind.i64 (n_4 + (1 : Int)))] H' ∧ μ_1 [Value.int IntKind.i64 (IntKind.wrap IntKind.i64 (n_3 + IntKind.wrap
  IntKind.i64 ((if (1048576 : Int) < (↑(ByteArray.size s) : Int) then (1048576 : Int) else (↑(ByteArray.size s) : Int)) + if (1048576 : Int) < (↑(ByteArray.size s_1) : Int) then (1048576 :
  Int) else (↑(ByteArray.size s_1) : Int)))), Value.int IntKind.i64 (IntKind.wrap IntKind.i64 (n_4 + (1 : Int)))] H' < μ_1 [Value.int IntKind.i64 n_3, Value.int IntKind.i64 n_4] H'_2)))))) :
  CallH Try.prog 11 (List.toArray [Value.slice l_a l_n l_c]) H R := vc_call (annOf [([0, 1, 0, 1, 1], .cut [(3, .one (.int .i64)), (4, .one (.int .i64))]), ([0, 0, 1, 0, 1, 1], .cut []), ([0,
  1, 1, 0, 0, 1, 0, 0, 1, 0, 1, 1], .cut [(3, .one (.int .i64)), (5, .one (.int .i64))]), ([0, 0, 1, 1, 0, 0, 1, 0, 0, 1, 0, 1, 1], .cut [])]) followsAll Go.Proofs.Try.func11 rfl
  Go.Proofs.Try.ntmps11 rfl rfl (Eq.mpr (by kernel_rfl) h)

/- 12 strandline/strandlinelaw07.made
  slots: [0=l, 1=l, 5=x, 6=r, 7=i, 8=a, 9=e, 10=b, 11=f]  -/
abbrev fn_law07_made : Nat := 12
theorem vc_law07_made (l_a : Option Addr) (l_n : Nat) (l_c : Nat) (H : Heap) (R : Value → Heap → Prop) (h : CallH Try.prog (37 : Nat) ⟨[]⟩ H fun v H' => ∃ a, v = Value.pointer a ∧ CallH
  Try.prog (38 : Nat) ⟨[]⟩ H' fun v H' => ∃ a_1, v = Value.pointer a_1 ∧ brB (Option.isNone a) (R (Value.tuple { toList := [Value.pointer none, Value.pointer none, Value.bool false] }) H') (∃
  (I : List Value → Heap → Prop) (μ : List Value → Heap → Nat), I [Value.int IntKind.i64 (0 : Int)] H' ∧ ∀ (J : F) (n : Int) (H' : Heap), I [Value.int IntKind.i64 n] H' → brB (decide (n <
  (↑l_n : Int))) (exSome l_a fun ad => chk (decide ((0 : Int) ≤ n ∧ n < (↑l_n : Int))) (∃ a_3 n_1 c, Ld Try.prog (23 : Nat) H' (Addr.add ad (Int.toNat n * (1 : Nat))) (Value.slice a_3 n_1 c) ∧
  CallH Try.prog (18 : Nat) { toList := [Value.pointer a, Value.slice a_3 n_1 c] } H' fun v H'_1 => ∃ n_2 n_3, v = Value.tuple { toList := [Value.int IntKind.i64 n_2, Value.int IntKind.i64
  n_3] } ∧ exSome l_a fun ad => chk (decide ((0 : Int) ≤ n ∧ n < (↑l_n : Int))) (∃ a n_4 c, Ld Try.prog (23 : Nat) H'_1 (Addr.add ad (Int.toNat n * (1 : Nat))) (Value.slice a n_4 c) ∧ CallH
  Try.prog (28 : Nat) { toList := [Value.pointer a_1, Value.slice a n_4 c] } H'_1 fun v H'_2 => ∃ n_5 n_6, v = Value.tuple { toList := [Value.int IntKind.i64 n_5, Value.int IntKind.i64 n_6] }
  ∧ brB (n_2 != n_5) (R (Value.tuple { toList := [Value.pointer none, Value.pointer none, Value.bool false] }) H'_2) (brB (n_3 != n_6) (R (Value.tuple { toList := [Value.pointer none,
  Value.pointer none, Value.bool false] }) H'_2) (I [Value.int IntKind.i64 (IntKind.wrap IntKind.i64 (n + (1 : Int)))] H'_2 ∧ μ [Value.int IntKind.i64 (IntKind.wrap IntKind.i64 (n + (1 :
  Int)))] H'_2 < μ [Value.int IntKind.i64 n] H'))))) (CallH Try.prog (20 : Nat) { toList := [Value.pointer a] } H' fun v H' => ∃ n, v = Value.int IntKind.i64 n ∧ CallH Try.prog (13 : Nat) {
  toList := [Value.pointer a_1] } H' fun v H' => ∃ n_1, v = Value.int IntKind.i64 n_1 ∧ R (Value.tuple { toList := [Value.pointer a, Value.pointer a_1, Value.bool (n == n_1)] }) H'))) : CallH
  Try.prog 12 (List.toArray [Value.slice l_a l_n l_c]) H R := vc_call (annOf [([0, 1, 0, 1, 1, 1, 1], .cut [(7, .one (.int .i64))])]) followsAll Go.Proofs.Try.func12 rfl Go.Proofs.Try.ntmps12
  rfl rfl (Eq.mpr (by kernel_rfl) h)

/- 13 (*strandline/strandlineref07.Index).Len
  slots: [0=x, 1=x]  -/
abbrev fn_ref07_Index_Len : Nat := 13
theorem vc_ref07_Index_Len (x : Addr) (H : Heap) (R : Value → Heap → Prop) (h : ∃ a n c, Ld Try.prog (22 : Nat) H x (Value.slice a n c) ∧ R (Value.int IntKind.i64 (↑n : Int)) H) : CallH
  Try.prog 13 (List.toArray [Value.pointer (some x)]) H R := vc_call (annOf []) followsAll Go.Proofs.Try.func13 rfl Go.Proofs.Try.ntmps13 rfl rfl (Eq.mpr (by kernel_rfl) h)

/- 14 strandline/strandlineref04.Same
  slots: [0=a, 1=b, 2=a, 3=b, 5=i]  -/
abbrev fn_ref04_Same : Nat := 14
theorem vc_ref04_Same (a_a : Option Addr) (a_n : Nat) (a_c : Nat) (b_a : Option Addr) (b_n : Nat) (b_c : Nat) (H : Heap) (R : Value → Heap → Prop) (h : brB ((↑a_n : Int) != (↑b_n : Int)) (R
  (Value.bool false) H) (∃ (I : List Value → Heap → Prop) (μ : List Value → Heap → Nat), I [Value.int IntKind.i64 (0 : Int)] H ∧ ∀ (J : F) (n : Int) (H' : Heap), I [Value.int IntKind.i64 n] H'
  → brB (decide (n < (↑a_n : Int))) (exSome a_a fun ad => chk (decide ((0 : Int) ≤ n ∧ n < (↑a_n : Int))) (∃ s s_1, Ld Try.prog (64 : Nat) H' (Addr.add ad (Int.toNat n * (2 : Nat))) (Value.agg
  { toList := [Value.string s, Value.string s_1] }) ∧ exSome b_a fun ad => chk (decide ((0 : Int) ≤ n ∧ n < (↑b_n : Int))) (∃ s_2 s_3, Ld Try.prog (64 : Nat) H' (Addr.add ad (Int.toNat n * (2
  : Nat))) (Value.agg { toList := [Value.string s_2, Value.string s_3] }) ∧ brB (!(s == s_2 && (s_1 == s_3 && true))) (R (Value.bool false) H') (I [Value.int IntKind.i64 (IntKind.wrap
  IntKind.i64 (n + (1 : Int)))] H' ∧ μ [Value.int IntKind.i64 (IntKind.wrap IntKind.i64 (n + (1 : Int)))] H' < μ [Value.int IntKind.i64 n] H')))) (R (Value.bool true) H'))) : CallH Try.prog 14
  (List.toArray [Value.slice a_a a_n a_c, Value.slice b_a b_n b_c]) H R := vc_call (annOf [([0, 1, 0, 1, 1], .cut [(5, .one (.int .i64))])]) followsAll Go.Proofs.Try.func14 rfl
  Go.Proofs.Try.ntmps14 rfl rfl (Eq.mpr (by kernel_rfl) h)

/- 15 (*strandline/index.Index).Labels
  slots: [0=x, 1=id, 2=x, 3=id]  -/
abbrev fn_index_Index_Labels : Nat := 15
theorem vc_index_Index_Labels (x : Addr) (id : Int) (H : Heap) (R : Value → Heap → Prop) (h : ∃ (M : List Value → Heap → Prop), brB (decide (id < (0 : Int))) (R (Value.slice none (0 : Nat)
  (0 : Nat)) H) (∃ a n c, Ld Try.prog (22 : Nat) H x (Value.slice a n c) ∧ brB (decide (id ≥ (↑n : Int))) (R (Value.slice none (0 : Nat) (0 : Nat)) H) (M [] H)) ∧ ∀ (J : F) (H' : Heap), M []
  H' → ∃ a n c, Ld Try.prog (22 : Nat) H' x (Value.slice a n c) ∧ exSome a fun ad => chk (decide ((0 : Int) ≤ id ∧ id < (↑n : Int))) (∃ a n c, Ld Try.prog (23 : Nat) H' (Addr.add ad (Int.toNat
  id * (1 : Nat))) (Value.slice a n c) ∧ CallH Try.prog (39 : Nat) { toList := [Value.slice a n c] } H' fun v H' => ∃ a n c, v = Value.slice a n c ∧ R (Value.slice a n c) H')) : CallH Try.prog
  15 (List.toArray [Value.pointer (some x), Value.int IntKind.i64 id]) H R := vc_call (annOf [([1], .cut [])]) followsAll Go.Proofs.Try.func15 rfl Go.Proofs.Try.ntmps15 rfl rfl (Eq.mpr (by
  kernel_rfl) h)

/- 16 (*strandline/strandlineref07.Index).Labels
  slots: [0=x, 1=id, 2=x, 3=id, 5=out]  -/
abbrev fn_ref07_Index_Labels : Nat := 16
theorem vc_ref07_Index_Labels (x : Addr) (id : Int) (H : Heap) (R : Value → Heap → Prop) (h : ∃ (M : List Value → Heap → Prop), brB (decide (id < (0 : Int))) (R (Value.slice none (0 : Nat)
  (0 : Nat)) H) (∃ a n c, Ld Try.prog (22 : Nat) H x (Value.slice a n c) ∧ brB (decide (id ≥ (↑n : Int))) (R (Value.slice none (0 : Nat) (0 : Nat)) H) (M [] H)) ∧ ∀ (J : F) (H' : Heap), M []
  H' → ∀ (b : Nat) (H'_1 : Heap), New H' b (Obj.cells ⟨[]⟩ (64 : Nat)) H'_1 → ∃ a n c, Ld Try.prog (22 : Nat) H'_1 x (Value.slice a n c) ∧ exSome a fun ad => chk (decide ((0 : Int) ≤ id ∧ id <
  (↑n : Int))) (∃ a n c, Ld Try.prog (23 : Nat) H'_1 (Addr.add ad (Int.toNat id * (1 : Nat))) (Value.slice a n c) ∧ SemWp Try.prog (Builtin.append_ { toList := [(23 : Nat), (23 : Nat)] } (23 :
  Nat) { toList := [Value.slice (some ⟨b, (0 : Nat), none⟩) (0 : Nat) (0 : Nat), Value.slice a n c] }) H'_1 fun v H' => ∃ a n c, v = Value.slice a n c ∧ R (Value.slice a n c) H')) : CallH
  Try.prog 16 (List.toArray [Value.pointer (some x), Value.int IntKind.i64 id]) H R := vc_call (annOf [([1], .cut [])]) followsAll Go.Proofs.Try.func16 rfl Go.Proofs.Try.ntmps16 rfl rfl
  (Eq.mpr (by kernel_rfl) h)

/- 17 (*strandline/index.Index).Find
  slots: [0=x, 1=l, 2=x, 3=l, 6=k, 7=e, 8=id, 9=is]  -/
abbrev fn_index_Index_Find : Nat := 17
theorem vc_index_Index_Find (x : Addr) (l_a : Option Addr) (l_n : Nat) (l_c : Nat) (H : Heap) (R : Value → Heap → Prop) (h : CallH Try.prog (40 : Nat) { toList := [Value.slice l_a l_n l_c] }
  H fun v H' => ∃ s n, v = Value.tuple { toList := [Value.string s, Value.int IntKind.i64 n] } ∧ ∃ r, Ld Try.prog (69 : Nat) H' (Addr.add x (1 : Nat)) (Value.map r) ∧ ∃ n_1 b, Rd Try.prog
  (Instr.lookup (69 : Nat) (Value.map r) (Value.string s) true) H' (Value.tuple { toList := [Value.int IntKind.i64 n_1, Value.bool b] }) ∧ brB (n != (0 : Int)) (R (Value.tuple { toList :=
  [Value.int IntKind.i64 (-1 : Int), Value.bool false] }) H') (brB (!b) (R (Value.tuple { toList := [Value.int IntKind.i64 (-1 : Int), Value.bool false] }) H') (R (Value.tuple { toList :=
  [Value.int IntKind.i64 n_1, Value.bool true] }) H'))) : CallH Try.prog 17 (List.toArray [Value.pointer (some x), Value.slice l_a l_n l_c]) H R := vc_call (annOf []) followsAll
  Go.Proofs.Try.func17 rfl Go.Proofs.Try.ntmps17 rfl rfl (Eq.mpr (by kernel_rfl) h)

/- 18 (*strandline/index.Index).Add
  slots: [0=x, 1=l, 2=x, 3=l, 6=k, 7=e, 8=id, 9=is, 10=id, 11=_, 12=y]  -/
abbrev fn_index_Index_Add : Nat := 18
theorem vc_index_Index_Add (x : Addr) (l_a : Option Addr) (l_n : Nat) (l_c : Nat) (H : Heap) (R : Value → Heap → Prop) (h : CallH Try.prog (40 : Nat) { toList := [Value.slice l_a l_n l_c] }
  H fun v H' => ∃ s n, v = Value.tuple { toList := [Value.string s, Value.int IntKind.i64 n] } ∧ brB (n != (0 : Int)) (R (Value.tuple { toList := [Value.int IntKind.i64 (0 : Int), Value.int
  IntKind.i64 n] }) H') (∃ r, Ld Try.prog (69 : Nat) H' (Addr.add x (1 : Nat)) (Value.map r) ∧ ∃ n b, Rd Try.prog (Instr.lookup (69 : Nat) (Value.map r) (Value.string s) true) H' (Value.tuple
  { toList := [Value.int IntKind.i64 n, Value.bool b] }) ∧ brB b (R (Value.tuple { toList := [Value.int IntKind.i64 n, Value.int IntKind.i64 (0 : Int)] }) H') (∃ a n c, Ld Try.prog (22 : Nat)
  H' x (Value.slice a n c) ∧ brB (decide ((↑n : Int) ≥ (200 : Int))) (R (Value.tuple { toList := [Value.int IntKind.i64 (0 : Int), Value.int IntKind.i64 (2 : Int)] }) H') (∃ a n_1 c, Ld
  Try.prog (22 : Nat) H' x (Value.slice a n_1 c) ∧ CallH Try.prog (39 : Nat) { toList := [Value.slice l_a l_n l_c] } H' fun v H' => ∃ a_1 n_2 c_1, v = Value.slice a_1 n_2 c_1 ∧ Ld Try.prog (22
  : Nat) H' x (Value.slice a n_1 c) ∧ ∀ (b : Nat) (H'_1 : Heap), New H' b (Obj.cells { toList := [Value.slice a_1 n_2 c_1] } (23 : Nat)) H'_1 → Ld Try.prog (22 : Nat) H'_1 x (Value.slice a n_1
  c) ∧ SemWp Try.prog (Builtin.append_ { toList := [(22 : Nat), (22 : Nat)] } (22 : Nat) { toList := [Value.slice a n_1 c, Value.slice (some ⟨b, (0 : Nat), none⟩) (1 : Nat) (1 : Nat)] }) H'_1
  fun v H' => ∃ a n_3 c, v = Value.slice a n_3 c ∧ ∃ H'_2, St Try.prog (22 : Nat) H' x (Value.slice a n_3 c) H'_2 ∧ ∃ r, Ld Try.prog (69 : Nat) H'_2 (Addr.add x (1 : Nat)) (Value.map r) ∧ SemU
  Try.prog (Instr.mapUpdate (69 : Nat) (Value.map r) (Value.string s) (Value.int IntKind.i64 (↑n : Int))) H'_2 fun H' => ∃ (I : List Value → Heap → Prop) (μ : List Value → Heap → Nat), I
  [Value.int IntKind.i64 (0 : Int)] H' ∧ ∀ (J : F) (n_4 : Int) (H' : Heap), I [Value.int IntKind.i64 n_4] H' → brB (decide (n_4 < (↑l_n : Int))) (exSome l_a fun ad => chk (decide ((0 : Int) ≤
  n_4 ∧ n_4 < (↑l_n : Int))) (∃ s s_1, Ld Try.prog (64 : Nat) H' (Addr.add ad (Int.toNat n_4 * (2 : Nat))) (Value.agg { toList := [Value.string s, Value.string s_1] }) ∧ ∀ (b : Nat) (H'_3 :
  Heap), New H' b (Obj.cells { toList := [Value.string { data := #[] }, Value.string { data := #[] }] } (64 : Nat)) H'_3 → ∃ H'_4, St Try.prog (64 : Nat) H'_3 ⟨b, (0 : Nat), none⟩ (Value.agg {
  toList := [Value.string s, Value.string s_1] }) H'_4 ∧ ∃ (M : List Value → Heap → Prop), (∃ r, Ld Try.prog (70 : Nat) H'_4 (Addr.add x (2 : Nat)) (Value.map r) ∧ ∃ s, Ld Try.prog (9 : Nat)
  H'_4 ⟨b, (0 : Nat), none⟩ (Value.string s) ∧ ∃ r_1, Rd Try.prog (Instr.lookup (70 : Nat) (Value.map r) (Value.string s) false) H'_4 (Value.map r_1) ∧ brB (Option.isNone r_1) (∃ r, Ld
  Try.prog (70 : Nat) H'_4 (Addr.add x (2 : Nat)) (Value.map r) ∧ ∃ s, Ld Try.prog (9 : Nat) H'_4 ⟨b, (0 : Nat), none⟩ (Value.string s) ∧ ∀ (b_1 : Nat) (H' : Heap), New H'_4 b_1 (Obj.map ⟨[]⟩
  (0 : Nat)) H' → Ld Try.prog (9 : Nat) H' ⟨b, (0 : Nat), none⟩ (Value.string s) ∧ Ld Try.prog (70 : Nat) H' (Addr.add x (2 : Nat)) (Value.map r) ∧ SemU Try.prog (Instr.mapUpdate (70 : Nat)
  (Value.map r) (Value.string s) (Value.map (some b_1))) H' fun H' => M [] H') (M [] H'_4)) ∧ ∀ (J : F) (H'_5 : Heap), M [] H'_5 → ∃ r, Ld Try.prog (70 : Nat) H'_5 (Addr.add x (2 : Nat))
  (Value.map r) ∧ ∃ s, Ld Try.prog (9 : Nat) H'_5 ⟨b, (0 : Nat), none⟩ (Value.string s) ∧ ∃ r_1, Rd Try.prog (Instr.lookup (70 : Nat) (Value.map r) (Value.string s) false) H'_5 (Value.map r_1)
  ∧ ∃ s_2, Ld Try.prog (9 : Nat) H'_5 ⟨b, (1 : Nat), none⟩ (Value.string s_2) ∧ ∃ r_2, Ld Try.prog (70 : Nat) H'_5 (Addr.add x (2 : Nat)) (Value.map r_2) ∧ ∃ s_3, Ld Try.prog (9 : Nat) H'_5
  ⟨b, (0 : Nat), none⟩ (Value.string s_3) ∧ ∃ r_3, Rd Try.prog (Instr.lookup (70 : Nat) (Value.map r_2) (Value.string s_3) false) H'_5 (Value.map r_3) ∧ ∃ s_4, Ld Try.prog (9 : Nat) H'_5 ⟨b,
  (1 : Nat), none⟩ (Value.string s_4) ∧ ∃ a n_5 c, Rd Try.prog (Instr.lookup (76 : Nat) (Value.map r_3) (Value.string s_4) false) H'_5 (Value.slice a n_5 c) ∧ ∀ (b_1 : Nat) (H'_6 : Heap), New
  H'_5 b_1 (Obj.cells { toList := [Value.int IntKind.i64 (↑n : Int)] } (3 : Nat)) H'_6 → Rd Try.prog (Instr.lookup (76 : Nat) (Value.map r_3) (Value.string s_4) false) H'_6 (Value.slice a n_5
  c) ∧ Ld Try.prog (9 : Nat) H'_6 ⟨b, (1 : Nat), none⟩ (Value.string s_4) ∧ Rd Try.prog (Instr.lookup (70 : Nat) (Value.map r_2) (Value.string s_3) false) H'_6 (Value.map r_3) ∧ Ld Try.prog (9
  : Nat) H'_6 ⟨b, (0 : Nat), none⟩ (Value.string s_3) ∧ Ld Try.prog (70 : Nat) H'_6 (Addr.add x (2 : Nat)) (Value.map r_2) ∧ Ld Try.prog (9 : Nat) H'_6 ⟨b, (1 : Nat), none⟩ (Value.string s_2)
  ∧ Rd Try.prog (Instr.lookup (70 : Nat) (Value.map r) (Value.string s) false) H'_6 (Value.map r_1) ∧ Ld Try.prog (9 : Nat) H'_6 ⟨b, (0 : Nat), none⟩ (Value.string s) ∧ Ld Try.prog (70 : Nat)
  H'_6 (Addr.add x (2 : Nat)) (Value.map r) ∧ SemWp Try.prog (Builtin.append_ { toList := [(40 : Nat), (40 : Nat)] } (40 : Nat) { toList := [Value.slice a n_5 c, Value.slice (some ⟨b_1, (0 :
  Nat), none⟩) (1 : Nat) (1 : Nat)] }) H'_6 fun v H'_7 => ∃ a n c, v = Value.slice a n c ∧ Ld Try.prog (9 : Nat) H'_7 ⟨b, (1 : Nat), none⟩ (Value.string s_2) ∧ Rd Try.prog (Instr.lookup (70 :
  Nat) (Value.map r) (Value.string s) false) H'_7 (Value.map r_1) ∧ Ld Try.prog (9 : Nat) H'_7 ⟨b, (0 : Nat), none⟩ (Value.string s) ∧ Ld Try.prog (70 : Nat) H'_7 (Addr.add x (2 : Nat))
  (Value.map r) ∧ SemU Try.prog (Instr.mapUpdate (76 : Nat) (Value.map r_1) (Value.string s_2) (Value.slice a n c)) H'_7 fun H'_8 => I [Value.int IntKind.i64 (IntKind.wrap IntKind.i64 (n_4 +
  (1 : Int)))] H'_8 ∧ μ [Value.int IntKind.i64 (IntKind.wrap IntKind.i64 (n_4 + (1 : Int)))] H'_8 < μ [Value.int IntKind.i64 n_4] H')) (R (Value.tuple { toList := [Value.int IntKind.i64 (↑n :
  Int), Value.int IntKind.i64 (0 : Int)] }) H'))))) : CallH Try.prog 18 (List.toArray [Value.pointer (some x), Value.slice l_a l_n l_c]) H R := vc_call (annOf [([0, 1, 1, 1, 1, 1, 1], .reg [0,
  0, 2, 6, 14, 0, 32, 96, 254, 511, 1023, 2047] (.quiet 0 (.quiet 1 (.quiet 2 (.quiet 3 (.quiet 4 (.quiet 5 (.pick (.alt 6 (.pick (.alt 7 (.pick (.alt 8 (.quiet 9 (.quiet 10 (.pick (.alt 11
  (.done) .stop)))) .stop)) .stop)) .stop))))))))), ([0, 1, 0, 1, 1, 1, 1, 1, 1, 1, 1], .cut [(58, .one (.int .i64))]), ([1, 0, 0, 1, 1, 0, 0, 1, 0, 1, 1, 1, 1, 1, 1, 1, 1], .cut []), ([0, 1,
  0, 1, 0, 0, 1, 1, 0, 0, 1, 0, 1, 1, 1, 1, 1, 1, 1, 1], .reg [0, 1, 3, 7, 0, 16, 0, 127] (.quiet 0 (.quiet 1 (.quiet 2 (.quiet 3 (.quiet 4 (.quiet 5 (.pick (.alt 6 (.pick (.alt 7 (.done)
  .stop)) .stop))))))))), ([1, 1, 0, 0, 1, 1, 0, 0, 1, 0, 1, 1, 1, 1, 1, 1, 1, 1], .reg [0, 1, 3, 7, 0, 16, 63, 0, 128, 0, 512, 1536, 3584, 0, 8192, 32256, 0, 65536, 261632, 0, 524288,
  2096640, 4194303] (.quiet 0 (.quiet 1 (.quiet 2 (.quiet 3 (.quiet 4 (.quiet 5 (.quiet 6 (.quiet 7 (.quiet 8 (.quiet 9 (.quiet 10 (.quiet 11 (.quiet 12 (.quiet 13 (.quiet 14 (.quiet 15
  (.quiet 16 (.quiet 17 (.quiet 18 (.quiet 19 (.pick (.alt 20 (.pick (.alt 21 (.pick (.alt 22 (.done) .stop)) .stop)) .stop)))))))))))))))))))))))]) followsAll Go.Proofs.Try.func18 rfl
  Go.Proofs.Try.ntmps18 rfl rfl (Eq.mpr (by kernel_rfl) h)

/- 19 (*strandline/strandlineref07.Index).Find
  slots: [0=x, 1=l, 2=x, 3=l, 6=i]  -/
abbrev fn_ref07_Index_Find : Nat := 19
theorem vc_ref07_Index_Find (x : Addr) (l_a : Option Addr) (l_n : Nat) (l_c : Nat) (H : Heap) (R : Value → Heap → Prop) (h : ∃ (I : List Value → Heap → Prop) (μ : List Value → Heap → Nat), I
  [Value.int IntKind.i64 (0 : Int)] H ∧ ∀ (J : F) (n : Int) (H' : Heap), I [Value.int IntKind.i64 n] H' → ∃ a n_1 c, Ld Try.prog (22 : Nat) H' x (Value.slice a n_1 c) ∧ brB (decide (n < (↑n_1
  : Int))) (∃ a n_2 c, Ld Try.prog (22 : Nat) H' x (Value.slice a n_2 c) ∧ exSome a fun ad => chk (decide ((0 : Int) ≤ n ∧ n < (↑n_2 : Int))) (∃ a n_3 c, Ld Try.prog (23 : Nat) H' (Addr.add ad
  (Int.toNat n * (1 : Nat))) (Value.slice a n_3 c) ∧ CallH Try.prog (14 : Nat) { toList := [Value.slice a n_3 c, Value.slice l_a l_n l_c] } H' fun v H'_1 => ∃ b, v = Value.bool b ∧ brB b (R
  (Value.tuple { toList := [Value.int IntKind.i64 n, Value.bool true] }) H'_1) (I [Value.int IntKind.i64 (IntKind.wrap IntKind.i64 (n + (1 : Int)))] H'_1 ∧ μ [Value.int IntKind.i64
  (IntKind.wrap IntKind.i64 (n + (1 : Int)))] H'_1 < μ [Value.int IntKind.i64 n] H'))) (R (Value.tuple { toList := [Value.int IntKind.i64 (-1 : Int), Value.bool false] }) H')) : CallH Try.prog
  19 (List.toArray [Value.pointer (some x), Value.slice l_a l_n l_c]) H R := vc_call (annOf [([0, 1, 0, 1], .cut [(6, .one (.int .i64))])]) followsAll Go.Proofs.Try.func19 rfl
  Go.Proofs.Try.ntmps19 rfl rfl (Eq.mpr (by kernel_rfl) h)

/- 20 (*strandline/index.Index).Len
  slots: [0=x, 1=x]  -/
abbrev fn_index_Index_Len : Nat := 20
theorem vc_index_Index_Len (x : Addr) (H : Heap) (R : Value → Heap → Prop) (h : ∃ a n c, Ld Try.prog (22 : Nat) H x (Value.slice a n c) ∧ R (Value.int IntKind.i64 (↑n : Int)) H) : CallH
  Try.prog 20 (List.toArray [Value.pointer (some x)]) H R := vc_call (annOf []) followsAll Go.Proofs.Try.func20 rfl Go.Proofs.Try.ntmps20 rfl rfl (Eq.mpr (by kernel_rfl) h)

/- 21 strandline/strandlinelaw07.large
  slots: [0=ms, 1=ms, 3=i, 4=k]  -/
abbrev fn_law07_large : Nat := 21
theorem vc_law07_large (ms_a : Option Addr) (ms_n : Nat) (ms_c : Nat) (H : Heap) (R : Value → Heap → Prop) (h : brB (decide ((↑ms_n : Int) > (20 : Int))) (R (Value.bool true) H) (∃ (I : List
  Value → Heap → Prop) (μ : List Value → Heap → Nat), I [Value.int IntKind.i64 (0 : Int)] H ∧ ∀ (J : F) (n : Int) (H' : Heap), I [Value.int IntKind.i64 n] H' → brB (decide (n < (↑ms_n : Int)))
  (∃ (M : List Value → Heap → Prop), (∃ (M_1 : List Value → Heap → Prop), (exSome ms_a fun ad => chk (decide ((0 : Int) ≤ n ∧ n < (↑ms_n : Int))) (∃ s, Ld Try.prog (9 : Nat) H' (Addr.add
  (Addr.add ad (Int.toNat n * (4 : Nat))) (1 : Nat)) (Value.string s) ∧ brB (decide ((↑(ByteArray.size s) : Int) > (1024 : Int))) (R (Value.bool true) H') (exSome ms_a fun ad => chk (decide
  ((0 : Int) ≤ n ∧ n < (↑ms_n : Int))) (∃ s, Ld Try.prog (9 : Nat) H' (Addr.add (Addr.add ad (Int.toNat n * (4 : Nat))) (2 : Nat)) (Value.string s) ∧ brB (decide ((↑(ByteArray.size s) : Int) >
  (1024 : Int))) (R (Value.bool true) H') (exSome ms_a fun ad => chk (decide ((0 : Int) ≤ n ∧ n < (↑ms_n : Int))) (∃ a n_1 c, Ld Try.prog (45 : Nat) H' (Addr.add (Addr.add ad (Int.toNat n * (4
  : Nat))) (3 : Nat)) (Value.slice a n_1 c) ∧ brB (decide ((↑n_1 : Int) > (20 : Int))) (R (Value.bool true) H') (M_1 [] H'))))))) ∧ ∀ (J : F) (H' : Heap), M_1 [] H' → ∃ (I : List Value → Heap
  → Prop) (μ : List Value → Heap → Nat), I [Value.int IntKind.i64 (0 : Int)] H' ∧ ∀ (J : F) (n_1 : Int) (H' : Heap), I [Value.int IntKind.i64 n_1] H' → exSome ms_a fun ad => chk (decide ((0 :
  Int) ≤ n ∧ n < (↑ms_n : Int))) (∃ a n_2 c, Ld Try.prog (45 : Nat) H' (Addr.add (Addr.add ad (Int.toNat n * (4 : Nat))) (3 : Nat)) (Value.slice a n_2 c) ∧ brB (decide (n_1 < (↑n_2 : Int)))
  (exSome ms_a fun ad => chk (decide ((0 : Int) ≤ n ∧ n < (↑ms_n : Int))) (∃ a n_3 c, Ld Try.prog (45 : Nat) H' (Addr.add (Addr.add ad (Int.toNat n * (4 : Nat))) (3 : Nat)) (Value.slice a n_3
  c) ∧ exSome a fun ad => chk (decide ((0 : Int) ≤ n_1 ∧ n_1 < (↑n_3 : Int))) (∃ s, Ld Try.prog (9 : Nat) H' (Addr.add ad (Int.toNat n_1 * (1 : Nat))) (Value.string s) ∧ brB (decide
  ((↑(ByteArray.size s) : Int) > (1024 : Int))) (R (Value.bool true) H') (I [Value.int IntKind.i64 (IntKind.wrap IntKind.i64 (n_1 + (1 : Int)))] H' ∧ μ [Value.int IntKind.i64 (IntKind.wrap
  IntKind.i64 (n_1 + (1 : Int)))] H' < μ [Value.int IntKind.i64 n_1] H')))) (M [] H'))) ∧ ∀ (J : F) (H'_1 : Heap), M [] H'_1 → I [Value.int IntKind.i64 (IntKind.wrap IntKind.i64 (n + (1 :
  Int)))] H'_1 ∧ μ [Value.int IntKind.i64 (IntKind.wrap IntKind.i64 (n + (1 : Int)))] H'_1 < μ [Value.int IntKind.i64 n] H') (R (Value.bool false) H'))) : CallH Try.prog 21 (List.toArray
  [Value.slice ms_a ms_n ms_c]) H R := vc_call (annOf [([0, 1, 0, 1, 1], .cut [(3, .one (.int .i64))]), ([1, 0, 0, 1, 0, 1, 1], .cut []), ([0, 0, 1, 0, 0, 1, 0, 1, 1], .cut []), ([0, 1, 1, 0,
  0, 1, 0, 0, 1, 0, 1, 1], .cut [(4, .one (.int .i64))])]) followsAll Go.Proofs.Try.func21 rfl Go.Proofs.Try.ntmps21 rfl rfl (Eq.mpr (by kernel_rfl) h)

/- 22 (*strandline/index.Index).Select
  slots: [0=x, 1=ms, 2=x, 3=ms, 6=l, 7=_, 8=m, 9=e]  -/
abbrev fn_index_Index_Select : Nat := 22
theorem vc_index_Index_Select (x : Addr) (ms_a : Option Addr) (ms_n : Nat) (ms_c : Nat) (H : Heap) (R : Value → Heap → Prop) (h : CallH Try.prog (41 : Nat) { toList := [Value.pointer (some
  x)] } H fun v H' => ∃ a n c, v = Value.slice a n c ∧ ∃ (I : List Value → Heap → Prop) (μ : List Value → Heap → Nat), I [Value.slice a n c, Value.int IntKind.i64 (0 : Int)] H' ∧ ∀ (J : F) (a
  : Option Addr) (n c : Nat) (n_1 : Int) (H' : Heap), I [Value.slice a n c, Value.int IntKind.i64 n_1] H' → brB (decide (n_1 < (↑ms_n : Int))) (exSome ms_a fun ad => chk (decide ((0 : Int) ≤
  n_1 ∧ n_1 < (↑ms_n : Int))) (∃ n_2 s s_1 a_2 n_3 c_1, Ld Try.prog (47 : Nat) H' (Addr.add ad (Int.toNat n_1 * (4 : Nat))) (Value.agg { toList := [Value.int IntKind.i64 n_2, Value.string s,
  Value.string s_1, Value.slice a_2 n_3 c_1] }) ∧ ∀ (b : Nat) (H'_1 : Heap), New H' b (Obj.cells { toList := [Value.int IntKind.i64 (0 : Int), Value.string { data := #[] }, Value.string { data
  := #[] }, Value.slice none (0 : Nat) (0 : Nat)] } (47 : Nat)) H'_1 → ∃ H'_2, St Try.prog (47 : Nat) H'_1 ⟨b, (0 : Nat), none⟩ (Value.agg { toList := [Value.int IntKind.i64 n_2, Value.string
  s, Value.string s_1, Value.slice a_2 n_3 c_1] }) H'_2 ∧ ∃ n_4 s s_2 a_4 n_5 c_2, Ld Try.prog (47 : Nat) H'_2 ⟨b, (0 : Nat), none⟩ (Value.agg { toList := [Value.int IntKind.i64 n_4,
  Value.string s, Value.string s_2, Value.slice a_4 n_5 c_2] }) ∧ CallH Try.prog (42 : Nat) { toList := [Value.agg { toList := [Value.int IntKind.i64 n_4, Value.string s, Value.string s_2,
  Value.slice a_4 n_5 c_2] }] } H'_2 fun v H'_3 => ∃ n_6, v = Value.int IntKind.i64 n_6 ∧ brB (n_6 != (0 : Int)) (R (Value.tuple { toList := [Value.slice none (0 : Nat) (0 : Nat), Value.int
  IntKind.i64 n_6] }) H'_3) (∃ n_7 s s_3 a_5 n_8 c_3, Ld Try.prog (47 : Nat) H'_3 ⟨b, (0 : Nat), none⟩ (Value.agg { toList := [Value.int IntKind.i64 n_7, Value.string s, Value.string s_3,
  Value.slice a_5 n_8 c_3] }) ∧ CallH Try.prog (44 : Nat) { toList := [Value.pointer (some x), Value.agg { toList := [Value.int IntKind.i64 n_7, Value.string s, Value.string s_3, Value.slice
  a_5 n_8 c_3] }] } H'_3 fun v H'_4 => ∃ a_6 n_9 c_4, v = Value.slice a_6 n_9 c_4 ∧ CallH Try.prog (43 : Nat) { toList := [Value.slice a n c, Value.slice a_6 n_9 c_4] } H'_4 fun v H'_5 => ∃
  a_7 n_10 c_5, v = Value.slice a_7 n_10 c_5 ∧ I [Value.slice a_7 n_10 c_5, Value.int IntKind.i64 (IntKind.wrap IntKind.i64 (n_1 + (1 : Int)))] H'_5 ∧ μ [Value.slice a_7 n_10 c_5, Value.int
  IntKind.i64 (IntKind.wrap IntKind.i64 (n_1 + (1 : Int)))] H'_5 < μ [Value.slice a n c, Value.int IntKind.i64 n_1] H'))) (R (Value.tuple { toList := [Value.slice a n c, Value.int IntKind.i64
  (0 : Int)] }) H')) : CallH Try.prog 22 (List.toArray [Value.pointer (some x), Value.slice ms_a ms_n ms_c]) H R := vc_call (annOf [([0, 1, 0, 1, 1], .cut [(6, .one .slice), (14, .one (.int
  .i64))])]) followsAll Go.Proofs.Try.func22 rfl Go.Proofs.Try.ntmps22 rfl rfl (Eq.mpr (by kernel_rfl) h)

/- 23 (*strandline/strandlineref07.Index).Select
  slots: [0=x, 1=ms, 2=x, 3=ms, 6=i, 7=e, 8=out, 9=i]  -/
abbrev fn_ref07_Index_Select : Nat := 23
theorem vc_ref07_Index_Select (x : Addr) (ms_a : Option Addr) (ms_n : Nat) (ms_c : Nat) (H : Heap) (R : Value → Heap → Prop) (h : ∃ (I : List Value → Heap → Prop) (μ : List Value → Heap →
  Nat), I [Value.int IntKind.i64 (0 : Int)] H ∧ ∀ (J : F) (n : Int) (H' : Heap), I [Value.int IntKind.i64 n] H' → brB (decide (n < (↑ms_n : Int))) (exSome ms_a fun ad => chk (decide ((0 : Int)
  ≤ n ∧ n < (↑ms_n : Int))) (∃ n_1 s s_1 a n_2 c, Ld Try.prog (47 : Nat) H' (Addr.add ad (Int.toNat n * (4 : Nat))) (Value.agg { toList := [Value.int IntKind.i64 n_1, Value.string s,
  Value.string s_1, Value.slice a n_2 c] }) ∧ CallH Try.prog (45 : Nat) { toList := [Value.agg { toList := [Value.int IntKind.i64 n_1, Value.string s, Value.string s_1, Value.slice a n_2 c] }]
  } H' fun v H'_1 => ∃ n_3, v = Value.int IntKind.i64 n_3 ∧ brB (n_3 != (0 : Int)) (R (Value.tuple { toList := [Value.slice none (0 : Nat) (0 : Nat), Value.int IntKind.i64 n_3] }) H'_1) (I
  [Value.int IntKind.i64 (IntKind.wrap IntKind.i64 (n + (1 : Int)))] H'_1 ∧ μ [Value.int IntKind.i64 (IntKind.wrap IntKind.i64 (n + (1 : Int)))] H'_1 < μ [Value.int IntKind.i64 n] H'))) (∀ (b
  : Nat) (H'_1 : Heap), New H' b (Obj.cells ⟨[]⟩ (3 : Nat)) H'_1 → ∃ (I : List Value → Heap → Prop) (μ : List Value → Heap → Nat), I [Value.slice (some ⟨b, (0 : Nat), none⟩) (0 : Nat) (0 :
  Nat), Value.int IntKind.i64 (0 : Int)] H'_1 ∧ ∀ (J : F) (a : Option Addr) (n c : Nat) (n_1 : Int) (H' : Heap), I [Value.slice a n c, Value.int IntKind.i64 n_1] H' → ∃ a_2 n_2 c_1, Ld
  Try.prog (22 : Nat) H' x (Value.slice a_2 n_2 c_1) ∧ brB (decide (n_1 < (↑n_2 : Int))) (∃ a_3 n_3 c_2, Ld Try.prog (22 : Nat) H' x (Value.slice a_3 n_3 c_2) ∧ exSome a_3 fun ad => chk
  (decide ((0 : Int) ≤ n_1 ∧ n_1 < (↑n_3 : Int))) (∃ a_4 n_4 c_3, Ld Try.prog (23 : Nat) H' (Addr.add ad (Int.toNat n_1 * (1 : Nat))) (Value.slice a_4 n_4 c_3) ∧ CallH Try.prog (46 : Nat) {
  toList := [Value.slice ms_a ms_n ms_c, Value.slice a_4 n_4 c_3] } H' fun v H'_2 => ∃ b, v = Value.bool b ∧ brB b (∀ (b : Nat) (H'_3 : Heap), New H'_2 b (Obj.cells { toList := [Value.int
  IntKind.i64 n_1] } (3 : Nat)) H'_3 → SemWp Try.prog (Builtin.append_ { toList := [(40 : Nat), (40 : Nat)] } (40 : Nat) { toList := [Value.slice a n c, Value.slice (some ⟨b, (0 : Nat), none⟩)
  (1 : Nat) (1 : Nat)] }) H'_3 fun v H'_4 => ∃ a_6 n_5 c_4, v = Value.slice a_6 n_5 c_4 ∧ I [Value.slice a_6 n_5 c_4, Value.int IntKind.i64 (IntKind.wrap IntKind.i64 (n_1 + (1 : Int)))] H'_4 ∧
  μ [Value.slice a_6 n_5 c_4, Value.int IntKind.i64 (IntKind.wrap IntKind.i64 (n_1 + (1 : Int)))] H'_4 < μ [Value.slice a n c, Value.int IntKind.i64 n_1] H') (I [Value.slice a n c, Value.int
  IntKind.i64 (IntKind.wrap IntKind.i64 (n_1 + (1 : Int)))] H'_2 ∧ μ [Value.slice a n c, Value.int IntKind.i64 (IntKind.wrap IntKind.i64 (n_1 + (1 : Int)))] H'_2 < μ [Value.slice a n c,
  Value.int IntKind.i64 n_1] H'))) (R (Value.tuple { toList := [Value.slice a n c, Value.int IntKind.i64 (0 : Int)] }) H'))) : CallH Try.prog 23 (List.toArray [Value.pointer (some x),
  Value.slice ms_a ms_n ms_c]) H R := vc_call (annOf [([0, 1, 0, 1], .cut [(6, .one (.int .i64))]), ([0, 1, 0, 1, 1, 1], .cut [(8, .one .slice), (9, .one (.int .i64))])]) followsAll
  Go.Proofs.Try.func23 rfl Go.Proofs.Try.ntmps23 rfl rfl (Eq.mpr (by kernel_rfl) h)

/- 24 strandline/strandlineref06.Same
  slots: [0=a, 1=b, 2=a, 3=b, 5=i]  -/
abbrev fn_ref06_Same : Nat := 24
theorem vc_ref06_Same (a_a : Option Addr) (a_n : Nat) (a_c : Nat) (b_a : Option Addr) (b_n : Nat) (b_c : Nat) (H : Heap) (R : Value → Heap → Prop) (h : brB ((↑a_n : Int) != (↑b_n : Int)) (R
  (Value.bool false) H) (∃ (I : List Value → Heap → Prop) (μ : List Value → Heap → Nat), I [Value.int IntKind.i64 (0 : Int)] H ∧ ∀ (J : F) (n : Int) (H' : Heap), I [Value.int IntKind.i64 n] H'
  → brB (decide (n < (↑a_n : Int))) (exSome a_a fun ad => chk (decide ((0 : Int) ≤ n ∧ n < (↑a_n : Int))) (∃ n_1, Ld Try.prog (3 : Nat) H' (Addr.add ad (Int.toNat n * (1 : Nat))) (Value.int
  IntKind.i64 n_1) ∧ exSome b_a fun ad => chk (decide ((0 : Int) ≤ n ∧ n < (↑b_n : Int))) (∃ n_2, Ld Try.prog (3 : Nat) H' (Addr.add ad (Int.toNat n * (1 : Nat))) (Value.int IntKind.i64 n_2) ∧
  brB (n_1 != n_2) (R (Value.bool false) H') (I [Value.int IntKind.i64 (IntKind.wrap IntKind.i64 (n + (1 : Int)))] H' ∧ μ [Value.int IntKind.i64 (IntKind.wrap IntKind.i64 (n + (1 : Int)))] H'
  < μ [Value.int IntKind.i64 n] H')))) (R (Value.bool true) H'))) : CallH Try.prog 24 (List.toArray [Value.slice a_a a_n a_c, Value.slice b_a b_n b_c]) H R := vc_call (annOf [([0, 1, 0, 1, 1],
  .cut [(5, .one (.int .i64))])]) followsAll Go.Proofs.Try.func24 rfl Go.Proofs.Try.ntmps24 rfl rfl (Eq.mpr (by kernel_rfl) h)

/- 25 strandline/strandlineref06.Or
  slots: [0=a, 1=b, 2=a, 3=b, 5=out, 6=k, 7=i]  -/
abbrev fn_ref06_Or : Nat := 25
theorem vc_ref06_Or (a_a : Option Addr) (a_n : Nat) (a_c : Nat) (b_a : Option Addr) (b_n : Nat) (b_c : Nat) (H : Heap) (R : Value → Heap → Prop) (h : ∀ (b : Nat) (H' : Heap), New H b
  (Obj.cells ⟨[]⟩ (3 : Nat)) H' → ∃ (I : List Value → Heap → Prop) (μ : List Value → Heap → Nat), I [Value.slice (some ⟨b, (0 : Nat), none⟩) (0 : Nat) (0 : Nat), Value.int IntKind.i64 (0 :
  Int), Value.int IntKind.i64 (0 : Int)] H' ∧ ∀ (J : F) (a : Option Addr) (n c : Nat) (n_1 n_2 : Int) (H' : Heap), I [Value.slice a n c, Value.int IntKind.i64 n_1, Value.int IntKind.i64 n_2]
  H' → brB (decide (n_2 < (↑a_n : Int))) (∃ (M : List Value → Heap → Prop), (∃ (I : List Value → Heap → Prop) (μ : List Value → Heap → Nat), I [Value.slice a n c, Value.int IntKind.i64 n_1] H'
  ∧ ∀ (J : F) (a : Option Addr) (n c : Nat) (n_3 : Int) (H' : Heap), I [Value.slice a n c, Value.int IntKind.i64 n_3] H' → ∃ (M_1 : List Value → Heap → Prop), brB (decide (n_3 < (↑b_n : Int)))
  (exSome b_a fun ad => chk (decide ((0 : Int) ≤ n_3 ∧ n_3 < (↑b_n : Int))) (∃ n_4, Ld Try.prog (3 : Nat) H' (Addr.add ad (Int.toNat n_3 * (1 : Nat))) (Value.int IntKind.i64 n_4) ∧ exSome a_a
  fun ad => chk (decide ((0 : Int) ≤ n_2 ∧ n_2 < (↑a_n : Int))) (∃ n_5, Ld Try.prog (3 : Nat) H' (Addr.add ad (Int.toNat n_2 * (1 : Nat))) (Value.int IntKind.i64 n_5) ∧ brB (decide (n_4 <
  n_5)) (M_1 [] H') (∃ (M_2 : List Value → Heap → Prop), brB (decide (n_3 < (↑b_n : Int))) (exSome b_a fun ad => chk (decide ((0 : Int) ≤ n_3 ∧ n_3 < (↑b_n : Int))) (∃ n, Ld Try.prog (3 : Nat)
  H' (Addr.add ad (Int.toNat n_3 * (1 : Nat))) (Value.int IntKind.i64 n) ∧ exSome a_a fun ad => chk (decide ((0 : Int) ≤ n_2 ∧ n_2 < (↑a_n : Int))) (∃ n_6, Ld Try.prog (3 : Nat) H' (Addr.add
  ad (Int.toNat n_2 * (1 : Nat))) (Value.int IntKind.i64 n_6) ∧ brB (n == n_6) (M_2 [Value.int IntKind.i64 (IntKind.wrap IntKind.i64 (n_3 + (1 : Int)))] H') (M_2 [Value.int IntKind.i64 n_3]
  H')))) (M_2 [Value.int IntKind.i64 n_3] H') ∧ ∀ (J : F) (n_6 : Int) (H' : Heap), M_2 [Value.int IntKind.i64 n_6] H' → exSome a_a fun ad => chk (decide ((0 : Int) ≤ n_2 ∧ n_2 < (↑a_n : Int)))
  (∃ n_7, Ld Try.prog (3 : Nat) H' (Addr.add ad (Int.toNat n_2 * (1 : Nat))) (Value.int IntKind.i64 n_7) ∧ ∀ (b : Nat) (H'_1 : Heap), New H' b (Obj.cells { toList := [Value.int IntKind.i64
  n_7] } (3 : Nat)) H'_1 → SemWp Try.prog (Builtin.append_ { toList := [(40 : Nat), (40 : Nat)] } (40 : Nat) { toList := [Value.slice a n c, Value.slice (some ⟨b, (0 : Nat), none⟩) (1 : Nat)
  (1 : Nat)] }) H'_1 fun v H' => ∃ a n c, v = Value.slice a n c ∧ M [Value.slice a n c, Value.int IntKind.i64 n_6] H'))))) (∃ (M_2 : List Value → Heap → Prop), brB (decide (n_3 < (↑b_n :
  Int))) (exSome b_a fun ad => chk (decide ((0 : Int) ≤ n_3 ∧ n_3 < (↑b_n : Int))) (∃ n, Ld Try.prog (3 : Nat) H' (Addr.add ad (Int.toNat n_3 * (1 : Nat))) (Value.int IntKind.i64 n) ∧ exSome
  a_a fun ad => chk (decide ((0 : Int) ≤ n_2 ∧ n_2 < (↑a_n : Int))) (∃ n_4, Ld Try.prog (3 : Nat) H' (Addr.add ad (Int.toNat n_2 * (1 : Nat))) (Value.int IntKind.i64 n_4) ∧ brB (n == n_4) (M_2
  [Value.int IntKind.i64 (IntKind.wrap IntKind.i64 (n_3 + (1 : Int)))] H') (M_2 [Value.int IntKind.i64 n_3] H')))) (M_2 [Value.int IntKind.i64 n_3] H') ∧ ∀ (J : F) (n_4 : Int) (H' : Heap), M_2
  [Value.int IntKind.i64 n_4] H' → exSome a_a fun ad => chk (decide ((0 : Int) ≤ n_2 ∧ n_2 < (↑a_n : Int))) (∃ n_5, Ld Try.prog (3 : Nat) H' (Addr.add ad (Int.toNat n_2 * (1 : Nat)))
  (Value.int IntKind.i64 n_5) ∧ ∀ (b : Nat) (H'_1 : Heap), New H' b (Obj.cells { toList := [Value.int IntKind.i64 n_5] } (3 : Nat)) H'_1 → SemWp Try.prog (Builtin.append_ { toList := [(40 :
  Nat), (40 : Nat)] } (40 : Nat) { toList := [Value.slice a n c, Value.slice (some ⟨b, (0 : Nat), none⟩) (1 : Nat) (1 : Nat)] }) H'_1 fun v H' => ∃ a n c, v = Value.slice a n c ∧ M
  [Value.slice a n c, Value.int IntKind.i64 n_4] H')) ∧ ∀ (J : F) (H'_1 : Heap), M_1 [] H'_1 → exSome b_a fun ad => chk (decide ((0 : Int) ≤ n_3 ∧ n_3 < (↑b_n : Int))) (∃ n_4, Ld Try.prog (3 :
  Nat) H'_1 (Addr.add ad (Int.toNat n_3 * (1 : Nat))) (Value.int IntKind.i64 n_4) ∧ ∀ (b : Nat) (H'_2 : Heap), New H'_1 b (Obj.cells { toList := [Value.int IntKind.i64 n_4] } (3 : Nat)) H'_2 →
  SemWp Try.prog (Builtin.append_ { toList := [(40 : Nat), (40 : Nat)] } (40 : Nat) { toList := [Value.slice a n c, Value.slice (some ⟨b, (0 : Nat), none⟩) (1 : Nat) (1 : Nat)] }) H'_2 fun v
  H'_3 => ∃ a_5 n_5 c_1, v = Value.slice a_5 n_5 c_1 ∧ I [Value.slice a_5 n_5 c_1, Value.int IntKind.i64 (IntKind.wrap IntKind.i64 (n_3 + (1 : Int)))] H'_3 ∧ μ [Value.slice a_5 n_5 c_1,
  Value.int IntKind.i64 (IntKind.wrap IntKind.i64 (n_3 + (1 : Int)))] H'_3 < μ [Value.slice a n c, Value.int IntKind.i64 n_3] H')) ∧ ∀ (J : F) (a_2 : Option Addr) (n_3 c_1 : Nat) (n_4 : Int)
  (H'_1 : Heap), M [Value.slice a_2 n_3 c_1, Value.int IntKind.i64 n_4] H'_1 → I [Value.slice a_2 n_3 c_1, Value.int IntKind.i64 n_4, Value.int IntKind.i64 (IntKind.wrap IntKind.i64 (n_2 + (1
  : Int)))] H'_1 ∧ μ [Value.slice a_2 n_3 c_1, Value.int IntKind.i64 n_4, Value.int IntKind.i64 (IntKind.wrap IntKind.i64 (n_2 + (1 : Int)))] H'_1 < μ [Value.slice a n c, Value.int IntKind.i64
  n_1, Value.int IntKind.i64 n_2] H') (chk (decide ((0 : Int) ≤ n_1 ∧ n_1 ≤ (↑b_n : Int) ∧ (↑b_n : Int) ≤ (↑b_c : Int))) (SemWp Try.prog (Builtin.append_ { toList := [(40 : Nat), (40 : Nat)] }
  (40 : Nat) { toList := [Value.slice a n c, Value.slice (slA b_c (Int.toNat n_1) (1 : Nat) b_a) (Int.toNat (↑b_n : Int) - Int.toNat n_1) (b_c - Int.toNat n_1)] }) H' fun v H' => ∃ a n c, v =
  Value.slice a n c ∧ R (Value.slice a n c) H'))) : CallH Try.prog 25 (List.toArray [Value.slice a_a a_n a_c, Value.slice b_a b_n b_c]) H R := vc_call (annOf [([0, 1, 0, 1, 1, 1], .cut [(5,
  .one .slice), (6, .one (.int .i64)), (7, .one (.int .i64))]), ([1, 0, 0, 1, 0, 1, 1, 1], .cut [(5, .one .slice), (6, .one (.int .i64))]), ([0, 0, 0, 0, 1, 0, 0, 1, 0, 1, 1, 1], .cut [(5,
  .one .slice), (6, .one (.int .i64))]), ([0, 0, 0, 0, 0, 1, 0, 0, 1, 0, 1, 1, 1], .cut []), ([1, 0, 0, 1, 0, 0, 1, 0, 1, 1, 1], .cut [(6, .one (.int .i64))])]) followsAll Go.Proofs.Try.func25
  rfl Go.Proofs.Try.ntmps25 rfl rfl (Eq.mpr (by kernel_rfl) h)

/- 26 strandline/strandlineref06.And
  slots: [0=a, 1=b, 2=a, 3=b, 5=out, 6=i]  -/
abbrev fn_ref06_And : Nat := 26
theorem vc_ref06_And (a_a : Option Addr) (a_n : Nat) (a_c : Nat) (b_a : Option Addr) (b_n : Nat) (b_c : Nat) (H : Heap) (R : Value → Heap → Prop) (h : ∀ (b : Nat) (H' : Heap), New H b
  (Obj.cells ⟨[]⟩ (3 : Nat)) H' → ∃ (I : List Value → Heap → Prop) (μ : List Value → Heap → Nat), I [Value.slice (some ⟨b, (0 : Nat), none⟩) (0 : Nat) (0 : Nat), Value.int IntKind.i64 (0 :
  Int)] H' ∧ ∀ (J : F) (a : Option Addr) (n c : Nat) (n_1 : Int) (H' : Heap), I [Value.slice a n c, Value.int IntKind.i64 n_1] H' → brB (decide (n_1 < (↑a_n : Int))) (exSome a_a fun ad => chk
  (decide ((0 : Int) ≤ n_1 ∧ n_1 < (↑a_n : Int))) (∃ n_2, Ld Try.prog (3 : Nat) H' (Addr.add ad (Int.toNat n_1 * (1 : Nat))) (Value.int IntKind.i64 n_2) ∧ CallH Try.prog (47 : Nat) { toList :=
  [Value.slice b_a b_n b_c, Value.int IntKind.i64 n_2] } H' fun v H'_1 => ∃ b, v = Value.bool b ∧ brB b (exSome a_a fun ad => chk (decide ((0 : Int) ≤ n_1 ∧ n_1 < (↑a_n : Int))) (∃ n_3, Ld
  Try.prog (3 : Nat) H'_1 (Addr.add ad (Int.toNat n_1 * (1 : Nat))) (Value.int IntKind.i64 n_3) ∧ ∀ (b : Nat) (H'_2 : Heap), New H'_1 b (Obj.cells { toList := [Value.int IntKind.i64 n_3] } (3
  : Nat)) H'_2 → SemWp Try.prog (Builtin.append_ { toList := [(40 : Nat), (40 : Nat)] } (40 : Nat) { toList := [Value.slice a n c, Value.slice (some ⟨b, (0 : Nat), none⟩) (1 : Nat) (1 : Nat)]
  }) H'_2 fun v H'_3 => ∃ a_3 n_4 c_1, v = Value.slice a_3 n_4 c_1 ∧ I [Value.slice a_3 n_4 c_1, Value.int IntKind.i64 (IntKind.wrap IntKind.i64 (n_1 + (1 : Int)))] H'_3 ∧ μ [Value.slice a_3
  n_4 c_1, Value.int IntKind.i64 (IntKind.wrap IntKind.i64 (n_1 + (1 : Int)))] H'_3 < μ [Value.slice a n c, Value.int IntKind.i64 n_1] H')) (I [Value.slice a n c, Value.int IntKind.i64
  (IntKind.wrap IntKind.i64 (n_1 + (1 : Int)))] H'_1 ∧ μ [Value.slice a n c, Value.int IntKind.i64 (IntKind.wrap IntKind.i64 (n_1 + (1 : Int)))] H'_1 < μ [Value.slice a n c, Value.int
  IntKind.i64 n_1] H'))) (R (Value.slice a n c) H')) : CallH Try.prog 26 (List.toArray [Value.slice a_a a_n a_c, Value.slice b_a b_n b_c]) H R := vc_call (annOf [([0, 1, 0, 1, 1], .cut [(5,
  .one .slice), (6, .one (.int .i64))])]) followsAll Go.Proofs.Try.func26 rfl Go.Proofs.Try.ntmps26 rfl rfl (Eq.mpr (by kernel_rfl) h)

/- 27 (*strandline/index.Index).Encode
  slots: [0=x, 1=x, 3=s, 4=_, 5=l, 6=t, 7=_]  -/
abbrev fn_index_Index_Encode : Nat := 27
theorem vc_index_Index_Encode (x : Addr) (H : Heap) (R : Value → Heap → Prop) (h : ∃ a n c, Ld Try.prog (22 : Nat) H x (Value.slice a n c) ∧ CallH Try.prog (48 : Nat) { toList := [Value.int
  IntKind.u64 (IntKind.wrap IntKind.u64 (↑n : Int))] } H fun v H' => ∃ s, v = Value.string s ∧ ∃ a n c, Ld Try.prog (22 : Nat) H' x (Value.slice a n c) ∧ ∃ (I : List Value → Heap → Prop) (μ :
  List Value → Heap → Nat), I [Value.string s, Value.int IntKind.i64 (0 : Int)] H' ∧ ∀ (J : F) (s : ByteArray) (n_1 : Int) (H' : Heap), I [Value.string s, Value.int IntKind.i64 n_1] H' → brB
  (decide (n_1 < (↑n : Int))) (exSome a fun ad => chk (decide ((0 : Int) ≤ n_1 ∧ n_1 < (↑n : Int))) (∃ a n c, Ld Try.prog (23 : Nat) H' (Addr.add ad (Int.toNat n_1 * (1 : Nat))) (Value.slice a
  n c) ∧ CallH Try.prog (49 : Nat) { toList := [Value.slice a n c] } H' fun v H'_1 => ∃ s_1 n, v = Value.tuple { toList := [Value.string s_1, Value.int IntKind.i64 n] } ∧ CallH Try.prog (50 :
  Nat) { toList := [Value.string s_1] } H'_1 fun v H'_2 => ∃ s_2, v = Value.string s_2 ∧ chk (decide (ByteArray.size s + ByteArray.size s_2 ≤ (9223372036854775807 : Nat))) (I [Value.string (s
  ++ s_2), Value.int IntKind.i64 (IntKind.wrap IntKind.i64 (n_1 + (1 : Int)))] H'_2 ∧ μ [Value.string (s ++ s_2), Value.int IntKind.i64 (IntKind.wrap IntKind.i64 (n_1 + (1 : Int)))] H'_2 < μ
  [Value.string s, Value.int IntKind.i64 n_1] H'))) (R (Value.string s) H')) : CallH Try.prog 27 (List.toArray [Value.pointer (some x)]) H R := vc_call (annOf [([0, 1, 0, 1, 1], .cut [(3, .one
  .str), (20, .one (.int .i64))])]) followsAll Go.Proofs.Try.func27 rfl Go.Proofs.Try.ntmps27 rfl rfl (Eq.mpr (by kernel_rfl) h)

/- 28 (*strandline/strandlineref07.Index).Add
  slots: [0=x, 1=l, 2=x, 3=l, 6=e, 7=i, 8=is, 9=own]  -/
abbrev fn_ref07_Index_Add : Nat := 28
theorem vc_ref07_Index_Add (x : Addr) (l_a : Option Addr) (l_n : Nat) (l_c : Nat) (H : Heap) (R : Value → Heap → Prop) (h : CallH Try.prog (51 : Nat) { toList := [Value.slice l_a l_n l_c] }
  H fun v H' => ∃ n, v = Value.int IntKind.i64 n ∧ brB (n != (0 : Int)) (R (Value.tuple { toList := [Value.int IntKind.i64 (0 : Int), Value.int IntKind.i64 n] }) H') (CallH Try.prog (19 : Nat)
  { toList := [Value.pointer (some x), Value.slice l_a l_n l_c] } H' fun v H' => ∃ n b, v = Value.tuple { toList := [Value.int IntKind.i64 n, Value.bool b] } ∧ brB b (R (Value.tuple { toList
  := [Value.int IntKind.i64 n, Value.int IntKind.i64 (0 : Int)] }) H') (∃ a n c, Ld Try.prog (22 : Nat) H' x (Value.slice a n c) ∧ brB (decide ((↑n : Int) ≥ (200 : Int))) (R (Value.tuple {
  toList := [Value.int IntKind.i64 (0 : Int), Value.int IntKind.i64 (2 : Int)] }) H') (∀ (b : Nat) (H'_1 : Heap), New H' b (Obj.cells ⟨[]⟩ (64 : Nat)) H'_1 → ∃ a n c, Ld Try.prog (22 : Nat)
  H'_1 x (Value.slice a n c) ∧ SemWp Try.prog (Builtin.append_ { toList := [(23 : Nat), (23 : Nat)] } (23 : Nat) { toList := [Value.slice (some ⟨b, (0 : Nat), none⟩) (0 : Nat) (0 : Nat),
  Value.slice l_a l_n l_c] }) H'_1 fun v H' => ∃ a_1 n_1 c_1, v = Value.slice a_1 n_1 c_1 ∧ Ld Try.prog (22 : Nat) H' x (Value.slice a n c) ∧ ∀ (b : Nat) (H'_2 : Heap), New H' b (Obj.cells {
  toList := [Value.slice a_1 n_1 c_1] } (23 : Nat)) H'_2 → Ld Try.prog (22 : Nat) H'_2 x (Value.slice a n c) ∧ SemWp Try.prog (Builtin.append_ { toList := [(22 : Nat), (22 : Nat)] } (22 : Nat)
  { toList := [Value.slice a n c, Value.slice (some ⟨b, (0 : Nat), none⟩) (1 : Nat) (1 : Nat)] }) H'_2 fun v H' => ∃ a n c, v = Value.slice a n c ∧ ∃ H'_3, St Try.prog (22 : Nat) H' x
  (Value.slice a n c) H'_3 ∧ ∃ a n c, Ld Try.prog (22 : Nat) H'_3 x (Value.slice a n c) ∧ R (Value.tuple { toList := [Value.int IntKind.i64 (IntKind.wrap IntKind.i64 ((↑n : Int) - (1 : Int))),
  Value.int IntKind.i64 (0 : Int)] }) H'_3)))) : CallH Try.prog 28 (List.toArray [Value.pointer (some x), Value.slice l_a l_n l_c]) H R := vc_call (annOf [([0, 1, 1, 1, 1, 1, 1, 1], .reg [0,
  0, 2, 6, 14, 0, 0, 96, 224, 510, 1023, 2047, 4095] (.quiet 0 (.quiet 1 (.quiet 2 (.quiet 3 (.quiet 4 (.quiet 5 (.quiet 6 (.pick (.alt 7 (.pick (.alt 8 (.pick (.alt 9 (.quiet 10 (.quiet 11
  (.pick (.alt 12 (.done) .stop)))) .stop)) .stop)) .stop))))))))))]) followsAll Go.Proofs.Try.func28 rfl Go.Proofs.Try.ntmps28 rfl rfl (Eq.mpr (by kernel_rfl) h)

/- 29 (*strandline/strandlineref07.Index).Encode
  slots: [0=x, 1=x, 3=s, 4=i, 5=t, 6=_]  -/
abbrev fn_ref07_Index_Encode : Nat := 29
theorem vc_ref07_Index_Encode (x : Addr) (H : Heap) (R : Value → Heap → Prop) (h : ∃ a n c, Ld Try.prog (22 : Nat) H x (Value.slice a n c) ∧ CallH Try.prog (52 : Nat) { toList := [Value.int
  IntKind.u64 (IntKind.wrap IntKind.u64 (↑n : Int))] } H fun v H' => ∃ s, v = Value.string s ∧ ∃ (I : List Value → Heap → Prop) (μ : List Value → Heap → Nat), I [Value.string s, Value.int
  IntKind.i64 (0 : Int)] H' ∧ ∀ (J : F) (s : ByteArray) (n : Int) (H' : Heap), I [Value.string s, Value.int IntKind.i64 n] H' → ∃ a n_1 c, Ld Try.prog (22 : Nat) H' x (Value.slice a n_1 c) ∧
  brB (decide (n < (↑n_1 : Int))) (∃ a n_2 c, Ld Try.prog (22 : Nat) H' x (Value.slice a n_2 c) ∧ exSome a fun ad => chk (decide ((0 : Int) ≤ n ∧ n < (↑n_2 : Int))) (∃ a n_3 c, Ld Try.prog (23
  : Nat) H' (Addr.add ad (Int.toNat n * (1 : Nat))) (Value.slice a n_3 c) ∧ CallH Try.prog (53 : Nat) { toList := [Value.slice a n_3 c] } H' fun v H'_1 => ∃ s_1 n_4, v = Value.tuple { toList
  := [Value.string s_1, Value.int IntKind.i64 n_4] } ∧ CallH Try.prog (54 : Nat) { toList := [Value.string s_1] } H'_1 fun v H'_2 => ∃ s_2, v = Value.string s_2 ∧ chk (decide (ByteArray.size s
  + ByteArray.size s_2 ≤ (9223372036854775807 : Nat))) (I [Value.string (s ++ s_2), Value.int IntKind.i64 (IntKind.wrap IntKind.i64 (n + (1 : Int)))] H'_2 ∧ μ [Value.string (s ++ s_2),
  Value.int IntKind.i64 (IntKind.wrap IntKind.i64 (n + (1 : Int)))] H'_2 < μ [Value.string s, Value.int IntKind.i64 n] H'))) (R (Value.string s) H')) : CallH Try.prog 29 (List.toArray
  [Value.pointer (some x)]) H R := vc_call (annOf [([0, 1, 0, 1, 1], .cut [(3, .one .str), (4, .one (.int .i64))])]) followsAll Go.Proofs.Try.func29 rfl Go.Proofs.Try.ntmps29 rfl rfl (Eq.mpr
  (by kernel_rfl) h)

/- 30 strandline/index.Decode
  slots: [0=s, 1=s, 4=n, 5=at, 6=e, 7=x, 8=t, 9=l, 10=f, 11=was, 12=id, 13=g]  -/
abbrev fn_index_Decode : Nat := 30
theorem vc_index_Decode (s : ByteArray) (H : Heap) (R : Value → Heap → Prop) (h : CallH Try.prog (55 : Nat) { toList := [Value.string s, Value.int IntKind.i64 (0 : Int)] } H fun v H' => ∃ n
  n_1 n_2, v = Value.tuple { toList := [Value.int IntKind.u64 n, Value.int IntKind.i64 n_1, Value.int IntKind.i64 n_2] } ∧ CallH Try.prog (37 : Nat) ⟨[]⟩ H' fun v H' => ∃ a, v = Value.pointer
  a ∧ ∃ (I : List Value → Heap → Prop) (μ : List Value → Heap → Nat), I [Value.int IntKind.u64 n, Value.int IntKind.i64 n_1, Value.int IntKind.i64 n_2] H' ∧ ∀ (J : F) (n n_3 n_4 : Int) (H' :
  Heap), I [Value.int IntKind.u64 n, Value.int IntKind.i64 n_3, Value.int IntKind.i64 n_4] H' → ∃ (M : List Value → Heap → Prop), brB (n_4 == (0 : Int)) (CallH Try.prog (20 : Nat) { toList :=
  [Value.pointer a] } H' fun v H' => ∃ n_5, v = Value.int IntKind.i64 n_5 ∧ brB (decide (IntKind.wrap IntKind.u64 n_5 < n)) (M [] H') (brB (n_4 != (0 : Int)) (R (Value.tuple { toList :=
  [Value.pointer none, Value.int IntKind.i64 (11 : Int)] }) H') (brB (n_3 != (↑(ByteArray.size s) : Int)) (R (Value.tuple { toList := [Value.pointer none, Value.int IntKind.i64 (11 : Int)] })
  H') (R (Value.tuple { toList := [Value.pointer a, Value.int IntKind.i64 (0 : Int)] }) H')))) (brB (n_4 != (0 : Int)) (R (Value.tuple { toList := [Value.pointer none, Value.int IntKind.i64
  (11 : Int)] }) H') (brB (n_3 != (↑(ByteArray.size s) : Int)) (R (Value.tuple { toList := [Value.pointer none, Value.int IntKind.i64 (11 : Int)] }) H') (R (Value.tuple { toList :=
  [Value.pointer a, Value.int IntKind.i64 (0 : Int)] }) H'))) ∧ ∀ (J : F) (H'_1 : Heap), M [] H'_1 → CallH Try.prog (56 : Nat) { toList := [Value.string s, Value.int IntKind.i64 n_3] } H'_1
  fun v H'_2 => ∃ s_1 n_5 n_6, v = Value.tuple { toList := [Value.string s_1, Value.int IntKind.i64 n_5, Value.int IntKind.i64 n_6] } ∧ brB (n_6 != (0 : Int)) (brB (n_6 != (0 : Int)) (R
  (Value.tuple { toList := [Value.pointer none, Value.int IntKind.i64 (11 : Int)] }) H'_2) (brB (n_5 != (↑(ByteArray.size s) : Int)) (R (Value.tuple { toList := [Value.pointer none, Value.int
  IntKind.i64 (11 : Int)] }) H'_2) (R (Value.tuple { toList := [Value.pointer a, Value.int IntKind.i64 (0 : Int)] }) H'_2))) (CallH Try.prog (57 : Nat) { toList := [Value.string s_1] } H'_2
  fun v H'_3 => ∃ a_3 n_7 c n_8, v = Value.tuple { toList := [Value.slice a_3 n_7 c, Value.int IntKind.i64 n_8] } ∧ CallH Try.prog (20 : Nat) { toList := [Value.pointer a] } H'_3 fun v H'_4 =>
  ∃ n_9, v = Value.int IntKind.i64 n_9 ∧ CallH Try.prog (18 : Nat) { toList := [Value.pointer a, Value.slice a_3 n_7 c] } H'_4 fun v H'_5 => ∃ n_10 n_11, v = Value.tuple { toList := [Value.int
  IntKind.i64 n_10, Value.int IntKind.i64 n_11] } ∧ brB (n_8 != (0 : Int)) (R (Value.tuple { toList := [Value.pointer none, Value.int IntKind.i64 (11 : Int)] }) H'_5) (brB (n_11 != (0 : Int))
  (R (Value.tuple { toList := [Value.pointer none, Value.int IntKind.i64 (11 : Int)] }) H'_5) (brB (n_10 != n_9) (R (Value.tuple { toList := [Value.pointer none, Value.int IntKind.i64 (11 :
  Int)] }) H'_5) (I [Value.int IntKind.u64 (if (201 : Int) < n then (201 : Int) else n), Value.int IntKind.i64 n_5, Value.int IntKind.i64 n_6] H'_5 ∧ μ [Value.int IntKind.u64 (if (201 : Int) <
  n then (201 : Int) else n), Value.int IntKind.i64 n_5, Value.int IntKind.i64 n_6] H'_5 < μ [Value.int IntKind.u64 n, Value.int IntKind.i64 n_3, Value.int IntKind.i64 n_4] H'))))) : CallH
  Try.prog 30 (List.toArray [Value.string s]) H R := vc_call (annOf [([0, 0, 1, 1, 1], .cut [(4, .one (.int .u64)), (5, .one (.int .i64)), (6, .one (.int .i64))]), ([0, 0, 0, 1, 1, 1], .cut
  [])]) followsAll Go.Proofs.Try.func30 rfl Go.Proofs.Try.ntmps30 rfl rfl (Eq.mpr (by kernel_rfl) h)

/- 31 strandline/strandlineref07.Decode
  slots: [0=s, 1=s, 4=n, 5=at, 6=e, 7=x, 8=i, 9=t, 10=next, 11=f, 12=l, 13=g, 14=id, 15=_]  -/
abbrev fn_ref07_Decode : Nat := 31
theorem vc_ref07_Decode (s : ByteArray) (H : Heap) (R : Value → Heap → Prop) (h : CallH Try.prog (58 : Nat) { toList := [Value.string s, Value.int IntKind.i64 (0 : Int)] } H fun v H' => ∃ n
  n_1 n_2, v = Value.tuple { toList := [Value.int IntKind.u64 n, Value.int IntKind.i64 n_1, Value.int IntKind.i64 n_2] } ∧ ∃ (M : List Value → Heap → Prop), brB (n_2 != (0 : Int)) (R
  (Value.tuple { toList := [Value.pointer none, Value.int IntKind.i64 (11 : Int)] }) H') (brB (decide (n > (200 : Int))) (R (Value.tuple { toList := [Value.pointer none, Value.int IntKind.i64
  (11 : Int)] }) H') (M [] H')) ∧ ∀ (J : F) (H' : Heap), M [] H' → CallH Try.prog (38 : Nat) ⟨[]⟩ H' fun v H' => ∃ a, v = Value.pointer a ∧ ∃ (I : List Value → Heap → Prop) (μ : List Value →
  Heap → Nat), I [Value.int IntKind.i64 n_1, Value.int IntKind.i64 (0 : Int)] H' ∧ ∀ (J : F) (n_3 n_4 : Int) (H' : Heap), I [Value.int IntKind.i64 n_3, Value.int IntKind.i64 n_4] H' → brB
  (decide (n_4 < IntKind.wrap IntKind.i64 n)) (CallH Try.prog (59 : Nat) { toList := [Value.string s, Value.int IntKind.i64 n_3] } H' fun v H'_1 => ∃ s n n_5, v = Value.tuple { toList :=
  [Value.string s, Value.int IntKind.i64 n, Value.int IntKind.i64 n_5] } ∧ brB (n_5 != (0 : Int)) (R (Value.tuple { toList := [Value.pointer none, Value.int IntKind.i64 (11 : Int)] }) H'_1)
  (CallH Try.prog (60 : Nat) { toList := [Value.string s] } H'_1 fun v H'_2 => ∃ a_2 n_6 c n_7, v = Value.tuple { toList := [Value.slice a_2 n_6 c, Value.int IntKind.i64 n_7] } ∧ brB (n_7 !=
  (0 : Int)) (R (Value.tuple { toList := [Value.pointer none, Value.int IntKind.i64 (11 : Int)] }) H'_2) (CallH Try.prog (28 : Nat) { toList := [Value.pointer a, Value.slice a_2 n_6 c] } H'_2
  fun v H'_3 => ∃ n_8 n_9, v = Value.tuple { toList := [Value.int IntKind.i64 n_8, Value.int IntKind.i64 n_9] } ∧ brB (n_8 != n_4) (R (Value.tuple { toList := [Value.pointer none, Value.int
  IntKind.i64 (11 : Int)] }) H'_3) (I [Value.int IntKind.i64 n, Value.int IntKind.i64 (IntKind.wrap IntKind.i64 (n_4 + (1 : Int)))] H'_3 ∧ μ [Value.int IntKind.i64 n, Value.int IntKind.i64
  (IntKind.wrap IntKind.i64 (n_4 + (1 : Int)))] H'_3 < μ [Value.int IntKind.i64 n_3, Value.int IntKind.i64 n_4] H')))) (brB (n_3 != (↑(ByteArray.size s) : Int)) (R (Value.tuple { toList :=
  [Value.pointer none, Value.int IntKind.i64 (11 : Int)] }) H') (R (Value.tuple { toList := [Value.pointer a, Value.int IntKind.i64 (0 : Int)] }) H'))) : CallH Try.prog 31 (List.toArray
  [Value.string s]) H R := vc_call (annOf [([1, 1], .cut []), ([0, 1, 0, 1, 1, 1, 1], .cut [(5, .one (.int .i64)), (8, .one (.int .i64))])]) followsAll Go.Proofs.Try.func31 rfl
  Go.Proofs.Try.ntmps31 rfl rfl (Eq.mpr (by kernel_rfl) h)

/- 32 (*strandline/strandlineref07.Index).Names
  slots: [0=x, 1=x, 3=out, 4=i, 5=k]  -/
abbrev fn_ref07_Index_Names : Nat := 32
theorem vc_ref07_Index_Names (x : Addr) (H : Heap) (R : Value → Heap → Prop) (h : ∀ (b : Nat) (H' : Heap), New H b (Obj.cells ⟨[]⟩ (9 : Nat)) H' → ∃ (I : List Value → Heap → Prop) (μ : List
  Value → Heap → Nat), I [Value.slice (some ⟨b, (0 : Nat), none⟩) (0 : Nat) (0 : Nat), Value.int IntKind.i64 (0 : Int)] H' ∧ ∀ (J : F) (a : Option Addr) (n c : Nat) (n_1 : Int) (H' : Heap), I
  [Value.slice a n c, Value.int IntKind.i64 n_1] H' → ∃ a_2 n_2 c_1, Ld Try.prog (22 : Nat) H' x (Value.slice a_2 n_2 c_1) ∧ brB (decide (n_1 < (↑n_2 : Int))) (∃ (I_1 : List Value → Heap →
  Prop) (μ_1 : List Value → Heap → Nat), I_1 [Value.slice a n c, Value.int IntKind.i64 (0 : Int)] H' ∧ ∀ (J : F) (a_3 : Option Addr) (n_3 c_2 : Nat) (n_4 : Int) (H'_1 : Heap), I_1 [Value.slice
  a_3 n_3 c_2, Value.int IntKind.i64 n_4] H'_1 → ∃ a_5 n_5 c_3, Ld Try.prog (22 : Nat) H'_1 x (Value.slice a_5 n_5 c_3) ∧ exSome a_5 fun ad => chk (decide ((0 : Int) ≤ n_1 ∧ n_1 < (↑n_5 :
  Int))) (∃ a_6 n_6 c_4, Ld Try.prog (23 : Nat) H'_1 (Addr.add ad (Int.toNat n_1 * (1 : Nat))) (Value.slice a_6 n_6 c_4) ∧ brB (decide (n_4 < (↑n_6 : Int))) (∃ a n c, Ld Try.prog (22 : Nat)
  H'_1 x (Value.slice a n c) ∧ exSome a fun ad => chk (decide ((0 : Int) ≤ n_1 ∧ n_1 < (↑n : Int))) (∃ a n c, Ld Try.prog (23 : Nat) H'_1 (Addr.add ad (Int.toNat n_1 * (1 : Nat))) (Value.slice
  a n c) ∧ exSome a fun ad => chk (decide ((0 : Int) ≤ n_4 ∧ n_4 < (↑n : Int))) (∃ s, Ld Try.prog (9 : Nat) H'_1 (Addr.add ad (Int.toNat n_4 * (2 : Nat))) (Value.string s) ∧ CallH Try.prog (61
  : Nat) { toList := [Value.slice a_3 n_3 c_2, Value.string s] } H'_1 fun v H' => ∃ a n c, v = Value.slice a n c ∧ I_1 [Value.slice a n c, Value.int IntKind.i64 (IntKind.wrap IntKind.i64 (n_4
  + (1 : Int)))] H' ∧ μ_1 [Value.slice a n c, Value.int IntKind.i64 (IntKind.wrap IntKind.i64 (n_4 + (1 : Int)))] H' < μ_1 [Value.slice a_3 n_3 c_2, Value.int IntKind.i64 n_4] H'_1))) (I
  [Value.slice a_3 n_3 c_2, Value.int IntKind.i64 (IntKind.wrap IntKind.i64 (n_1 + (1 : Int)))] H'_1 ∧ μ [Value.slice a_3 n_3 c_2, Value.int IntKind.i64 (IntKind.wrap IntKind.i64 (n_1 + (1 :
  Int)))] H'_1 < μ [Value.slice a n c, Value.int IntKind.i64 n_1] H'))) (R (Value.slice a n c) H')) : CallH Try.prog 32 (List.toArray [Value.pointer (some x)]) H R := vc_call (annOf [([0, 1,
  0, 1, 1], .cut [(3, .one .slice), (4, .one (.int .i64))]), ([0, 1, 0, 0, 1, 0, 0, 1, 0, 1, 1], .cut [(3, .one .slice), (5, .one (.int .i64))])]) followsAll Go.Proofs.Try.func32 rfl
  Go.Proofs.Try.ntmps32 rfl rfl (Eq.mpr (by kernel_rfl) h)

/- 33 strandline/strandlineref07.Same
  slots: [0=a, 1=b, 2=a, 3=b, 5=i]  -/
abbrev fn_ref07_Same : Nat := 33
theorem vc_ref07_Same (a_a : Option Addr) (a_n : Nat) (a_c : Nat) (b_a : Option Addr) (b_n : Nat) (b_c : Nat) (H : Heap) (R : Value → Heap → Prop) (h : brB ((↑a_n : Int) != (↑b_n : Int)) (R
  (Value.bool false) H) (∃ (I : List Value → Heap → Prop) (μ : List Value → Heap → Nat), I [Value.int IntKind.i64 (0 : Int)] H ∧ ∀ (J : F) (n : Int) (H' : Heap), I [Value.int IntKind.i64 n] H'
  → brB (decide (n < (↑a_n : Int))) (exSome a_a fun ad => chk (decide ((0 : Int) ≤ n ∧ n < (↑a_n : Int))) (∃ s, Ld Try.prog (9 : Nat) H' (Addr.add ad (Int.toNat n * (1 : Nat))) (Value.string
  s) ∧ exSome b_a fun ad => chk (decide ((0 : Int) ≤ n ∧ n < (↑b_n : Int))) (∃ s_1, Ld Try.prog (9 : Nat) H' (Addr.add ad (Int.toNat n * (1 : Nat))) (Value.string s_1) ∧ brB (!ByteArray.toList
  s == ByteArray.toList s_1) (R (Value.bool false) H') (I [Value.int IntKind.i64 (IntKind.wrap IntKind.i64 (n + (1 : Int)))] H' ∧ μ [Value.int IntKind.i64 (IntKind.wrap IntKind.i64 (n + (1 :
  Int)))] H' < μ [Value.int IntKind.i64 n] H')))) (R (Value.bool true) H'))) : CallH Try.prog 33 (List.toArray [Value.slice a_a a_n a_c, Value.slice b_a b_n b_c]) H R := vc_call (annOf [([0,
  1, 0, 1, 1], .cut [(5, .one (.int .i64))])]) followsAll Go.Proofs.Try.func33 rfl Go.Proofs.Try.ntmps33 rfl rfl (Eq.mpr (by kernel_rfl) h)

/- 34 (*strandline/index.Index).Values
  slots: [0=x, 1=name, 2=x, 3=name, 5=l, 6=v]  -/
abbrev fn_index_Index_Values : Nat := 34
theorem vc_index_Index_Values (x : Addr) (name : ByteArray) (H : Heap) (R : Value → Heap → Prop) (h : ∃ r, Ld Try.prog (70 : Nat) H (Addr.add x (2 : Nat)) (Value.map r) ∧ ∃ r_1, Rd Try.prog
  (Instr.lookup (70 : Nat) (Value.map r) (Value.string name) false) H (Value.map r_1) ∧ SemWp Try.prog (Instr.range (76 : Nat) (Value.map r_1)) H fun v H' => ∃ a, v = Value.pointer a ∧ ∃ (I :
  List Value → Heap → Prop) (μ : List Value → Heap → Nat), I [Value.slice none (0 : Nat) (0 : Nat)] H' ∧ ∀ (J : F) (a_1 : Option Addr) (n c : Nat) (H' : Heap), I [Value.slice a_1 n c] H' →
  SemWp Try.prog (Instr.next (Value.pointer a) false (0 : Nat)) H' fun v H'_1 => (v = Value.tuple { toList := [Value.bool false] } ∧ CallH Try.prog (62 : Nat) { toList := [Value.slice a_1 n c]
  } H'_1 fun v H' => v = Value.tuple ⟨[]⟩ ∧ R (Value.slice a_1 n c) H') ∨ ∃ k x, v = Value.tuple { toList := [Value.bool true, k, x] } ∧ SemWp Try.prog (Instr.entry (Value.pointer a)) H'_1 fun
  v H'_2 => ∃ k x, v = Value.tuple { toList := [k, x] } ∧ ∃ s, k = Value.string s ∧ ∀ (b : Nat) (H'_3 : Heap), New H'_2 b (Obj.cells { toList := [Value.string s] } (9 : Nat)) H'_3 → SemWp
  Try.prog (Builtin.append_ { toList := [(45 : Nat), (45 : Nat)] } (45 : Nat) { toList := [Value.slice a_1 n c, Value.slice (some ⟨b, (0 : Nat), none⟩) (1 : Nat) (1 : Nat)] }) H'_3 fun v H'_4
  => ∃ a n_1 c_1, v = Value.slice a n_1 c_1 ∧ I [Value.slice a n_1 c_1] H'_4 ∧ μ [Value.slice a n_1 c_1] H'_4 < μ [Value.slice a_1 n c] H') : CallH Try.prog 34 (List.toArray [Value.pointer
  (some x), Value.string name]) H R := vc_call (annOf [([0, 1, 0, 1, 1], .cut [(5, .one .slice)]), ([0, 0, 1, 1, 0, 0, 1, 0, 1, 1], .ext)]) followsAll Go.Proofs.Try.func34 rfl
  Go.Proofs.Try.ntmps34 rfl rfl (Eq.mpr (by kernel_rfl) h)

/- 35 (*strandline/strandlineref07.Index).Values
  slots: [0=x, 1=name, 2=x, 3=name, 5=out, 6=i, 7=v]  -/
abbrev fn_ref07_Index_Values : Nat := 35
theorem vc_ref07_Index_Values (x : Addr) (name : ByteArray) (H : Heap) (R : Value → Heap → Prop) (h : ∀ (b : Nat) (H' : Heap), New H b (Obj.cells ⟨[]⟩ (9 : Nat)) H' → ∃ (I : List Value →
  Heap → Prop) (μ : List Value → Heap → Nat), I [Value.slice (some ⟨b, (0 : Nat), none⟩) (0 : Nat) (0 : Nat), Value.int IntKind.i64 (0 : Int)] H' ∧ ∀ (J : F) (a : Option Addr) (n c : Nat) (n_1
  : Int) (H' : Heap), I [Value.slice a n c, Value.int IntKind.i64 n_1] H' → ∃ a_2 n_2 c_1, Ld Try.prog (22 : Nat) H' x (Value.slice a_2 n_2 c_1) ∧ brB (decide (n_1 < (↑n_2 : Int))) (∃ a_3 n_3
  c_2, Ld Try.prog (22 : Nat) H' x (Value.slice a_3 n_3 c_2) ∧ exSome a_3 fun ad => chk (decide ((0 : Int) ≤ n_1 ∧ n_1 < (↑n_3 : Int))) (∃ a_4 n_4 c_3, Ld Try.prog (23 : Nat) H' (Addr.add ad
  (Int.toNat n_1 * (1 : Nat))) (Value.slice a_4 n_4 c_3) ∧ CallH Try.prog (63 : Nat) { toList := [Value.slice a_4 n_4 c_3, Value.string name] } H' fun v H'_1 => ∃ s, v = Value.string s ∧ brB
  (!ByteArray.toList s == ByteArray.toList { data := #[] }) (CallH Try.prog (61 : Nat) { toList := [Value.slice a n c, Value.string s] } H'_1 fun v H'_2 => ∃ a_5 n_5 c_4, v = Value.slice a_5
  n_5 c_4 ∧ I [Value.slice a_5 n_5 c_4, Value.int IntKind.i64 (IntKind.wrap IntKind.i64 (n_1 + (1 : Int)))] H'_2 ∧ μ [Value.slice a_5 n_5 c_4, Value.int IntKind.i64 (IntKind.wrap IntKind.i64
  (n_1 + (1 : Int)))] H'_2 < μ [Value.slice a n c, Value.int IntKind.i64 n_1] H') (I [Value.slice a n c, Value.int IntKind.i64 (IntKind.wrap IntKind.i64 (n_1 + (1 : Int)))] H'_1 ∧ μ
  [Value.slice a n c, Value.int IntKind.i64 (IntKind.wrap IntKind.i64 (n_1 + (1 : Int)))] H'_1 < μ [Value.slice a n c, Value.int IntKind.i64 n_1] H'))) (R (Value.slice a n c) H')) : CallH
  Try.prog 35 (List.toArray [Value.pointer (some x), Value.string name]) H R := vc_call (annOf [([0, 1, 0, 1, 1], .cut [(5, .one .slice), (6, .one (.int .i64))])]) followsAll
  Go.Proofs.Try.func35 rfl Go.Proofs.Try.ntmps35 rfl rfl (Eq.mpr (by kernel_rfl) h)

/- 36 (*strandline/index.Index).Names
  slots: [0=x, 1=x, 3=l, 4=name]  -/
abbrev fn_index_Index_Names : Nat := 36
theorem vc_index_Index_Names (x : Addr) (H : Heap) (R : Value → Heap → Prop) (h : ∃ r, Ld Try.prog (70 : Nat) H (Addr.add x (2 : Nat)) (Value.map r) ∧ SemWp Try.prog (Instr.range (70 : Nat)
  (Value.map r)) H fun v H' => ∃ a, v = Value.pointer a ∧ ∃ (I : List Value → Heap → Prop) (μ : List Value → Heap → Nat), I [Value.slice none (0 : Nat) (0 : Nat)] H' ∧ ∀ (J : F) (a_1 : Option
  Addr) (n c : Nat) (H' : Heap), I [Value.slice a_1 n c] H' → SemWp Try.prog (Instr.next (Value.pointer a) false (0 : Nat)) H' fun v H'_1 => (v = Value.tuple { toList := [Value.bool false] } ∧
  CallH Try.prog (62 : Nat) { toList := [Value.slice a_1 n c] } H'_1 fun v H' => v = Value.tuple ⟨[]⟩ ∧ R (Value.slice a_1 n c) H') ∨ ∃ k x, v = Value.tuple { toList := [Value.bool true, k, x]
  } ∧ SemWp Try.prog (Instr.entry (Value.pointer a)) H'_1 fun v H'_2 => ∃ k x, v = Value.tuple { toList := [k, x] } ∧ ∃ s, k = Value.string s ∧ ∀ (b : Nat) (H'_3 : Heap), New H'_2 b (Obj.cells
  { toList := [Value.string s] } (9 : Nat)) H'_3 → SemWp Try.prog (Builtin.append_ { toList := [(45 : Nat), (45 : Nat)] } (45 : Nat) { toList := [Value.slice a_1 n c, Value.slice (some ⟨b, (0
  : Nat), none⟩) (1 : Nat) (1 : Nat)] }) H'_3 fun v H'_4 => ∃ a n_1 c_1, v = Value.slice a n_1 c_1 ∧ I [Value.slice a n_1 c_1] H'_4 ∧ μ [Value.slice a n_1 c_1] H'_4 < μ [Value.slice a_1 n c]
  H') : CallH Try.prog 36 (List.toArray [Value.pointer (some x)]) H R := vc_call (annOf [([0, 1, 0, 1, 1], .cut [(3, .one .slice)]), ([0, 0, 1, 1, 0, 0, 1, 0, 1, 1], .ext)]) followsAll
  Go.Proofs.Try.func36 rfl Go.Proofs.Try.ntmps36 rfl rfl (Eq.mpr (by kernel_rfl) h)

/- 37 strandline/index.New
  slots: []  -/
abbrev fn_index_New : Nat := 37
theorem vc_index_New (H : Heap) (R : Value → Heap → Prop) (h : ∀ (b : Nat) (H' : Heap), New H b (Obj.map ⟨[]⟩ (0 : Nat)) H' → ∀ (b_1 : Nat) (H'_1 : Heap), New H' b_1 (Obj.map ⟨[]⟩ (0 : Nat))
  H'_1 → ∀ (b_2 : Nat) (H' : Heap), New H'_1 b_2 (Obj.cells { toList := [Value.slice none (0 : Nat) (0 : Nat), Value.map (some b), Value.map (some b_1)] } (72 : Nat)) H' → R (Value.pointer
  (some ⟨b_2, (0 : Nat), none⟩)) H') : CallH Try.prog 37 (List.toArray []) H R := vc_call (annOf []) followsAll Go.Proofs.Try.func37 rfl Go.Proofs.Try.ntmps37 rfl rfl (Eq.mpr (by kernel_rfl)
  h)

/- 38 strandline/strandlineref07.New
  slots: []  -/
abbrev fn_ref07_New : Nat := 38
theorem vc_ref07_New (H : Heap) (R : Value → Heap → Prop) (h : ∀ (b : Nat) (H' : Heap), New H b (Obj.cells { toList := [Value.slice none (0 : Nat) (0 : Nat)] } (68 : Nat)) H' → R
  (Value.pointer (some ⟨b, (0 : Nat), none⟩)) H') : CallH Try.prog 38 (List.toArray []) H R := vc_call (annOf []) followsAll Go.Proofs.Try.func38 rfl Go.Proofs.Try.ntmps38 rfl rfl (Eq.mpr (by
  kernel_rfl) h)

/- 39 slices.Clone[[]strandline/api.Label,strandline/api.Label]
  slots: [0=s, 1=s]  -/
abbrev fn_slices_Clone___api_Label_api_Label_ : Nat := 39
theorem vc_slices_Clone___api_Label_api_Label_ (s_a : Option Addr) (s_n : Nat) (s_c : Nat) (H : Heap) (R : Value → Heap → Prop) (h : brB (Option.isNone s_a) (R (Value.slice none (0 : Nat) (0
  : Nat)) H) (∀ (b : Nat) (H' : Heap), New H b (Obj.cells ⟨[]⟩ (64 : Nat)) H' → SemWp Try.prog (Builtin.append_ { toList := [(23 : Nat), (23 : Nat)] } (23 : Nat) { toList := [Value.slice (some
  ⟨b, (0 : Nat), none⟩) (0 : Nat) (0 : Nat), Value.slice s_a s_n s_c] }) H' fun v H' => ∃ a n c, v = Value.slice a n c ∧ R (Value.slice a n c) H')) : CallH Try.prog 39 (List.toArray
  [Value.slice s_a s_n s_c]) H R := vc_call (annOf []) followsAll Go.Proofs.Try.func39 rfl Go.Proofs.Try.ntmps39 rfl rfl (Eq.mpr (by kernel_rfl) h)

/- 40 strandline/label.Key
  slots: [0=l, 1=l, 4=e, 5=b, 6=_, 7=x]  -/
abbrev fn_label_Key : Nat := 40
theorem vc_label_Key (l_a : Option Addr) (l_n : Nat) (l_c : Nat) (H : Heap) (R : Value → Heap → Prop) (h : CallH Try.prog (64 : Nat) { toList := [Value.slice l_a l_n l_c] } H fun v H' => ∃
  n, v = Value.int IntKind.i64 n ∧ brB (n != (0 : Int)) (R (Value.tuple { toList := [Value.string { data := #[] }, Value.int IntKind.i64 n] }) H') (∀ (b : Nat) (H'_1 : Heap), New H' b
  (Obj.cells { toList := [Value.pointer none, Value.slice none (0 : Nat) (0 : Nat)] } (98 : Nat)) H'_1 → ∃ (I : List Value → Heap → Prop) (μ : List Value → Heap → Nat), I [Value.int
  IntKind.i64 (0 : Int)] H'_1 ∧ ∀ (J : F) (n : Int) (H' : Heap), I [Value.int IntKind.i64 n] H' → brB (decide (n < (↑l_n : Int))) (exSome l_a fun ad => chk (decide ((0 : Int) ≤ n ∧ n < (↑l_n :
  Int))) (∃ s s_1, Ld Try.prog (64 : Nat) H' (Addr.add ad (Int.toNat n * (2 : Nat))) (Value.agg { toList := [Value.string s, Value.string s_1] }) ∧ ∀ (b_1 : Nat) (H'_2 : Heap), New H' b_1
  (Obj.cells { toList := [Value.string { data := #[] }, Value.string { data := #[] }] } (64 : Nat)) H'_2 → ∃ H'_3, St Try.prog (64 : Nat) H'_2 ⟨b_1, (0 : Nat), none⟩ (Value.agg { toList :=
  [Value.string s, Value.string s_1] }) H'_3 ∧ ∃ s, Ld Try.prog (9 : Nat) H'_3 ⟨b_1, (0 : Nat), none⟩ (Value.string s) ∧ ∃ s_2, Ld Try.prog (9 : Nat) H'_3 ⟨b_1, (1 : Nat), none⟩ (Value.string
  s_2) ∧ CallH Try.prog (50 : Nat) { toList := [Value.string s] } H'_3 fun v H'_4 => ∃ s, v = Value.string s ∧ Ld Try.prog (9 : Nat) H'_4 ⟨b_1, (1 : Nat), none⟩ (Value.string s_2) ∧ CallH
  Try.prog (50 : Nat) { toList := [Value.string s_2] } H'_4 fun v H'_5 => ∃ s_3, v = Value.string s_3 ∧ chk (decide (ByteArray.size s + ByteArray.size s_3 ≤ (9223372036854775807 : Nat)))
  (CallH Try.prog (65 : Nat) { toList := [Value.pointer (some ⟨b, (0 : Nat), none⟩), Value.string (s ++ s_3)] } H'_5 fun v H'_6 => ∃ n_1 v_1, v = Value.tuple { toList := [Value.int IntKind.i64
  n_1, v_1] } ∧ I [Value.int IntKind.i64 (IntKind.wrap IntKind.i64 (n + (1 : Int)))] H'_6 ∧ μ [Value.int IntKind.i64 (IntKind.wrap IntKind.i64 (n + (1 : Int)))] H'_6 < μ [Value.int IntKind.i64
  n] H'))) (CallH Try.prog (66 : Nat) { toList := [Value.pointer (some ⟨b, (0 : Nat), none⟩)] } H' fun v H' => ∃ s, v = Value.string s ∧ R (Value.tuple { toList := [Value.string s, Value.int
  IntKind.i64 (0 : Int)] }) H'))) : CallH Try.prog 40 (List.toArray [Value.slice l_a l_n l_c]) H R := vc_call (annOf [([0, 1, 0, 1, 1, 1], .cut [(15, .one (.int .i64))]), ([1, 0, 0, 1, 1, 0,
  0, 1, 0, 1, 1, 1], .reg [0, 1, 3, 0, 8, 31, 63, 127] (.quiet 0 (.quiet 1 (.quiet 3 (.quiet 4 (.pick (.alt 2 (.pick (.alt 5 (.quiet 6 (.pick (.alt 7 (.done) .stop))) .stop)) .stop)))))))])
  followsAll Go.Proofs.Try.func40 rfl Go.Proofs.Try.ntmps40 rfl rfl (Eq.mpr (by kernel_rfl) h)

/- 41 (*strandline/index.Index).every
  slots: [0=x, 1=x, 3=l, 4=id]  -/
abbrev fn_index_Index_every : Nat := 41
theorem vc_index_Index_every (x : Addr) (H : Heap) (R : Value → Heap → Prop) (h : ∃ a n c, Ld Try.prog (22 : Nat) H x (Value.slice a n c) ∧ ∃ (I : List Value → Heap → Prop) (μ : List Value →
  Heap → Nat), I [Value.slice none (0 : Nat) (0 : Nat), Value.int IntKind.i64 (0 : Int)] H ∧ ∀ (J : F) (a : Option Addr) (n_1 c : Nat) (n_2 : Int) (H' : Heap), I [Value.slice a n_1 c,
  Value.int IntKind.i64 n_2] H' → brB (decide (n_2 < (↑n : Int))) (∀ (b : Nat) (H'_1 : Heap), New H' b (Obj.cells { toList := [Value.int IntKind.i64 n_2] } (3 : Nat)) H'_1 → SemWp Try.prog
  (Builtin.append_ { toList := [(40 : Nat), (40 : Nat)] } (40 : Nat) { toList := [Value.slice a n_1 c, Value.slice (some ⟨b, (0 : Nat), none⟩) (1 : Nat) (1 : Nat)] }) H'_1 fun v H'_2 => ∃ a_3
  n c_1, v = Value.slice a_3 n c_1 ∧ I [Value.slice a_3 n c_1, Value.int IntKind.i64 (IntKind.wrap IntKind.i64 (n_2 + (1 : Int)))] H'_2 ∧ μ [Value.slice a_3 n c_1, Value.int IntKind.i64
  (IntKind.wrap IntKind.i64 (n_2 + (1 : Int)))] H'_2 < μ [Value.slice a n_1 c, Value.int IntKind.i64 n_2] H') (R (Value.slice a n_1 c) H')) : CallH Try.prog 41 (List.toArray [Value.pointer
  (some x)]) H R := vc_call (annOf [([0, 1, 0, 1, 1], .cut [(3, .one .slice), (10, .one (.int .i64))])]) followsAll Go.Proofs.Try.func41 rfl Go.Proofs.Try.ntmps41 rfl rfl (Eq.mpr (by
  kernel_rfl) h)

/- 42 strandline/match.Check
  slots: [0=m, 1=m, 3=is]  -/
abbrev fn_match_Check : Nat := 42
theorem vc_match_Check (m_0 : Int) (m_1 : ByteArray) (m_2 : ByteArray) (m_3_a : Option Addr) (m_3_n : Nat) (m_3_c : Nat) (H : Heap) (R : Value → Heap → Prop) (h : ∀ (b : Nat) (H' : Heap),
  New H b (Obj.cells { toList := [Value.int IntKind.i64 m_0, Value.string m_1, Value.string m_2, Value.slice m_3_a m_3_n m_3_c] } (47 : Nat)) H' → ∃ s, Ld Try.prog (9 : Nat) H' ⟨b, (1 : Nat),
  none⟩ (Value.string s) ∧ CallH Try.prog (67 : Nat) { toList := [Value.string s] } H' fun v H' => ∃ b_1, v = Value.bool b_1 ∧ ∃ (M : List Value → Heap → Prop), (∃ n, Ld Try.prog (3 : Nat) H'
  ⟨b, (0 : Nat), none⟩ (Value.int IntKind.i64 n) ∧ ∃ (M_1 : List Value → Heap → Prop), brB (n == (3 : Int)) (brB b_1 (∃ s, Ld Try.prog (9 : Nat) H' ⟨b, (2 : Nat), none⟩ (Value.string s) ∧ brB
  (ByteArray.toList s == ByteArray.toList { data := #[] }) (∃ a n c, Ld Try.prog (45 : Nat) H' ⟨b, (3 : Nat), none⟩ (Value.slice a n c) ∧ brB (decide ((↑n : Int) > (0 : Int))) (∃ a n c, Ld
  Try.prog (45 : Nat) H' ⟨b, (3 : Nat), none⟩ (Value.slice a n c) ∧ brB (decide ((↑n : Int) ≤ (8 : Int))) (∃ a n c, Ld Try.prog (45 : Nat) H' ⟨b, (3 : Nat), none⟩ (Value.slice a n c) ∧ CallH
  Try.prog (68 : Nat) { toList := [Value.slice a n c] } H' fun v H' => ∃ b, v = Value.bool b ∧ M [Value.bool b] H') (M [Value.bool false] H')) (M [Value.bool false] H')) (M [Value.bool false]
  H')) (M [Value.bool false] H')) (brB (n == (0 : Int)) (brB (n == (0 : Int)) (M_1 [Value.bool b_1] H') (brB (n == (2 : Int)) (M_1 [Value.bool b_1] H') (M [Value.bool false] H'))) (brB (n ==
  (1 : Int)) (M_1 [Value.bool b_1] H') (brB (n == (2 : Int)) (M_1 [Value.bool b_1] H') (M [Value.bool false] H')))) ∧ ∀ (J : F) (b_2 : Bool) (H' : Heap), M_1 [Value.bool b_2] H' → brB b_2 (∃ a
  n c, Ld Try.prog (45 : Nat) H' ⟨b, (3 : Nat), none⟩ (Value.slice a n c) ∧ brB ((↑n : Int) == (0 : Int)) (∃ s, Ld Try.prog (9 : Nat) H' ⟨b, (2 : Nat), none⟩ (Value.string s) ∧ CallH Try.prog
  (69 : Nat) { toList := [Value.string s] } H' fun v H' => ∃ b, v = Value.bool b ∧ M [Value.bool b] H') (M [Value.bool false] H')) (M [Value.bool false] H')) ∧ ∀ (J : F) (b : Bool) (H' :
  Heap), M [Value.bool b] H' → brB (!b) (R (Value.int IntKind.i64 (50 : Int)) H') (R (Value.int IntKind.i64 (0 : Int)) H')) : CallH Try.prog 42 (List.toArray [Value.agg #[Value.int IntKind.i64
  m_0, Value.string m_1, Value.string m_2, Value.slice m_3_a m_3_n m_3_c]]) H R := vc_call (annOf [([1, 1], .cut [(3, .one .bool)]), ([0, 0, 0, 1, 0, 1, 1], .cut [(3, .one .bool)])])
  followsAll Go.Proofs.Try.func42 rfl Go.Proofs.Try.ntmps42 rfl rfl (Eq.mpr (by kernel_rfl) h)

/- 43 strandline/post.And
  slots: [0=a, 1=b, 2=a, 3=b]  -/
abbrev fn_post_And : Nat := 43
theorem vc_post_And (a_a : Option Addr) (a_n : Nat) (a_c : Nat) (b_a : Option Addr) (b_n : Nat) (b_c : Nat) (H : Heap) (R : Value → Heap → Prop) (h : CallH Try.prog (70 : Nat) { toList :=
  [Value.slice a_a a_n a_c, Value.slice b_a b_n b_c, Value.func (Fn.func (71 : Nat)) ⟨[]⟩ ⟨[]⟩] } H fun v H' => ∃ a n c, v = Value.slice a n c ∧ R (Value.slice a n c) H') : CallH Try.prog 43
  (List.toArray [Value.slice a_a a_n a_c, Value.slice b_a b_n b_c]) H R := vc_call (annOf []) followsAll Go.Proofs.Try.func43 rfl Go.Proofs.Try.ntmps43 rfl rfl (Eq.mpr (by kernel_rfl) h)

/- 44 (*strandline/index.Index).of
  slots: [0=x, 1=m, 2=x, 3=m, 5=one, 6=l]  -/
abbrev fn_index_Index_of : Nat := 44
theorem vc_index_Index_of (x : Addr) (m_0 : Int) (m_1 : ByteArray) (m_2 : ByteArray) (m_3_a : Option Addr) (m_3_n : Nat) (m_3_c : Nat) (H : Heap) (R : Value → Heap → Prop) (h : ∀ (b : Nat)
  (H' : Heap), New H b (Obj.cells { toList := [Value.int IntKind.i64 m_0, Value.string m_1, Value.string m_2, Value.slice m_3_a m_3_n m_3_c] } (47 : Nat)) H' → ∃ s, Ld Try.prog (9 : Nat) H'
  ⟨b, (1 : Nat), none⟩ (Value.string s) ∧ CallH Try.prog (74 : Nat) { toList := [Value.pointer (some x), Value.string s, Value.func (Fn.func (72 : Nat)) ⟨[]⟩ { toList := [Value.pointer (some
  ⟨b, (0 : Nat), none⟩)] }] } H' fun v H' => ∃ a n c, v = Value.slice a n c ∧ CallV Try.prog (Value.func (Fn.func (72 : Nat)) ⟨[]⟩ { toList := [Value.pointer (some ⟨b, (0 : Nat), none⟩)] })
  [Value.string { data := #[] }] H' fun v H' => ∃ b_1, v = Value.bool b_1 ∧ brB b_1 (∃ s, Ld Try.prog (9 : Nat) H' ⟨b, (1 : Nat), none⟩ (Value.string s) ∧ CallH Try.prog (41 : Nat) { toList :=
  [Value.pointer (some x)] } H' fun v H' => ∃ a_1 n_1 c_1, v = Value.slice a_1 n_1 c_1 ∧ Ld Try.prog (9 : Nat) H' ⟨b, (1 : Nat), none⟩ (Value.string s) ∧ CallH Try.prog (74 : Nat) { toList :=
  [Value.pointer (some x), Value.string s, Value.func (Fn.func (77 : Nat)) ⟨[]⟩ ⟨[]⟩] } H' fun v H' => ∃ a_2 n_2 c_2, v = Value.slice a_2 n_2 c_2 ∧ CallH Try.prog (76 : Nat) { toList :=
  [Value.slice a_1 n_1 c_1, Value.slice a_2 n_2 c_2] } H' fun v H' => ∃ a_3 n_3 c_3, v = Value.slice a_3 n_3 c_3 ∧ CallH Try.prog (75 : Nat) { toList := [Value.slice a n c, Value.slice a_3 n_3
  c_3] } H' fun v H' => ∃ a n c, v = Value.slice a n c ∧ R (Value.slice a n c) H') (R (Value.slice a n c) H')) : CallH Try.prog 44 (List.toArray [Value.pointer (some x), Value.agg #[Value.int
  IntKind.i64 m_0, Value.string m_1, Value.string m_2, Value.slice m_3_a m_3_n m_3_c]]) H R := vc_call (annOf [([0, 1, 0, 1, 1, 1], .reg [0, 0, 2, 0, 0, 16, 62, 126, 255, 511] (.quiet 0
  (.quiet 1 (.quiet 3 (.quiet 4 (.quiet 5 (.pick (.alt 2 (.pick (.alt 6 (.pick (.alt 7 (.pick (.alt 8 (.quiet 9 .done) .stop)) .stop)) .stop)) .stop))))))))]) followsAll Go.Proofs.Try.func44
  rfl Go.Proofs.Try.ntmps44 rfl rfl (Eq.mpr (by kernel_rfl) h)

/- 45 strandline/strandlineref05.Check
  slots: [0=m, 1=m, 3=i]  -/
abbrev fn_ref05_Check : Nat := 45
theorem vc_ref05_Check (m_0 : Int) (m_1 : ByteArray) (m_2 : ByteArray) (m_3_a : Option Addr) (m_3_n : Nat) (m_3_c : Nat) (H : Heap) (R : Value → Heap → Prop) (h : ∀ (b : Nat) (H' : Heap),
  New H b (Obj.cells { toList := [Value.int IntKind.i64 m_0, Value.string m_1, Value.string m_2, Value.slice m_3_a m_3_n m_3_c] } (47 : Nat)) H' → ∃ s, Ld Try.prog (9 : Nat) H' ⟨b, (1 : Nat),
  none⟩ (Value.string s) ∧ CallH Try.prog (78 : Nat) { toList := [Value.string s] } H' fun v H' => ∃ b_1, v = Value.bool b_1 ∧ brB (!b_1) (R (Value.int IntKind.i64 (50 : Int)) H') (∃ (M : List
  Value → Heap → Prop), (∃ n, Ld Try.prog (3 : Nat) H' ⟨b, (0 : Nat), none⟩ (Value.int IntKind.i64 n) ∧ brB (decide (n ≥ (0 : Int))) (∃ n, Ld Try.prog (3 : Nat) H' ⟨b, (0 : Nat), none⟩
  (Value.int IntKind.i64 n) ∧ brB (decide (n < (3 : Int))) (∃ s, Ld Try.prog (9 : Nat) H' ⟨b, (2 : Nat), none⟩ (Value.string s) ∧ CallH Try.prog (79 : Nat) { toList := [Value.string s] } H'
  fun v H' => ∃ b_2, v = Value.bool b_2 ∧ brB b_2 (∃ a n c, Ld Try.prog (45 : Nat) H' ⟨b, (3 : Nat), none⟩ (Value.slice a n c) ∧ brB ((↑n : Int) == (0 : Int)) (R (Value.int IntKind.i64 (0 :
  Int)) H') (M [] H')) (M [] H')) (M [] H')) (M [] H')) ∧ ∀ (J : F) (H' : Heap), M [] H' → ∃ (M : List Value → Heap → Prop), (∃ n, Ld Try.prog (3 : Nat) H' ⟨b, (0 : Nat), none⟩ (Value.int
  IntKind.i64 n) ∧ brB (n != (3 : Int)) (R (Value.int IntKind.i64 (50 : Int)) H') (∃ s, Ld Try.prog (9 : Nat) H' ⟨b, (2 : Nat), none⟩ (Value.string s) ∧ brB (!ByteArray.toList s ==
  ByteArray.toList { data := #[] }) (R (Value.int IntKind.i64 (50 : Int)) H') (∃ a n c, Ld Try.prog (45 : Nat) H' ⟨b, (3 : Nat), none⟩ (Value.slice a n c) ∧ brB (decide ((↑n : Int) < (1 :
  Int))) (R (Value.int IntKind.i64 (50 : Int)) H') (∃ a n c, Ld Try.prog (45 : Nat) H' ⟨b, (3 : Nat), none⟩ (Value.slice a n c) ∧ brB (decide ((↑n : Int) > (8 : Int))) (R (Value.int
  IntKind.i64 (50 : Int)) H') (M [] H'))))) ∧ ∀ (J : F) (H' : Heap), M [] H' → ∃ (I : List Value → Heap → Prop) (μ : List Value → Heap → Nat), I [Value.int IntKind.i64 (0 : Int)] H' ∧ ∀ (J :
  F) (n : Int) (H' : Heap), I [Value.int IntKind.i64 n] H' → ∃ a n_1 c, Ld Try.prog (45 : Nat) H' ⟨b, (3 : Nat), none⟩ (Value.slice a n_1 c) ∧ brB (decide (n < (↑n_1 : Int))) (∃ (M : List
  Value → Heap → Prop), (∃ a n_2 c, Ld Try.prog (45 : Nat) H' ⟨b, (3 : Nat), none⟩ (Value.slice a n_2 c) ∧ exSome a fun ad => chk (decide ((0 : Int) ≤ n ∧ n < (↑n_2 : Int))) (∃ s, Ld Try.prog
  (9 : Nat) H' (Addr.add ad (Int.toNat n * (1 : Nat))) (Value.string s) ∧ CallH Try.prog (79 : Nat) { toList := [Value.string s] } H' fun v H' => ∃ b_2, v = Value.bool b_2 ∧ brB (!b_2) (R
  (Value.int IntKind.i64 (50 : Int)) H') (brB (decide (n > (0 : Int))) (∃ a n_3 c, Ld Try.prog (45 : Nat) H' ⟨b, (3 : Nat), none⟩ (Value.slice a n_3 c) ∧ exSome a fun ad => chk (decide ((0 :
  Int) ≤ n ∧ n < (↑n_3 : Int))) (∃ s, Ld Try.prog (9 : Nat) H' (Addr.add ad (Int.toNat n * (1 : Nat))) (Value.string s) ∧ ∃ a n_4 c, Ld Try.prog (45 : Nat) H' ⟨b, (3 : Nat), none⟩ (Value.slice
  a n_4 c) ∧ exSome a fun ad => chk (decide ((0 : Int) ≤ IntKind.wrap IntKind.i64 (n - (1 : Int)) ∧ IntKind.wrap IntKind.i64 (n - (1 : Int)) < (↑n_4 : Int))) (∃ s_1, Ld Try.prog (9 : Nat) H'
  (Addr.add ad (Int.toNat (IntKind.wrap IntKind.i64 (n - (1 : Int))) * (1 : Nat))) (Value.string s_1) ∧ brB (Op.bytesLess (ByteArray.toList s) (ByteArray.toList s_1) || ByteArray.toList s ==
  ByteArray.toList s_1) (R (Value.int IntKind.i64 (50 : Int)) H') (M [] H')))) (M [] H')))) ∧ ∀ (J : F) (H'_1 : Heap), M [] H'_1 → I [Value.int IntKind.i64 (IntKind.wrap IntKind.i64 (n + (1 :
  Int)))] H'_1 ∧ μ [Value.int IntKind.i64 (IntKind.wrap IntKind.i64 (n + (1 : Int)))] H'_1 < μ [Value.int IntKind.i64 n] H') (R (Value.int IntKind.i64 (0 : Int)) H'))) : CallH Try.prog 45
  (List.toArray [Value.agg #[Value.int IntKind.i64 m_0, Value.string m_1, Value.string m_2, Value.slice m_3_a m_3_n m_3_c]]) H R := vc_call (annOf [([1, 1], .cut []), ([1, 1, 1], .cut []),
  ([0, 1, 0, 1, 1, 1, 1], .cut [(3, .one (.int .i64))]), ([1, 0, 0, 1, 0, 1, 1, 1, 1], .cut []), ([0, 0, 0, 1, 0, 0, 1, 0, 1, 1, 1, 1], .reg [0, 1, 0, 7, 15, 31, 63, 127, 255, 511, 1023, 2047,
  4095, 2047, 16383, 32767, 2047, 67583, 2047, 264191, 985087, 2033663, 4194303, 8388607, 16777215] (.quiet 0 (.quiet 1 (.quiet 2 (.quiet 3 (.quiet 4 (.pick (.alt 5 (.quiet 6 (.quiet 7 (.quiet
  8 (.quiet 9 (.quiet 10 (.quiet 11 (.quiet 12 (.quiet 13 (.quiet 14 (.quiet 15 (.quiet 16 (.quiet 17 (.quiet 18 (.quiet 19 (.quiet 20 (.quiet 21 (.quiet 22 (.quiet 23 (.quiet 24
  .done))))))))))))))))))) .stop))))))))]) followsAll Go.Proofs.Try.func45 rfl Go.Proofs.Try.ntmps45 rfl rfl (Eq.mpr (by kernel_rfl) h)

/- 46 strandline/strandlineref05.All
  slots: [0=ms, 1=l, 2=ms, 3=l, 5=i]  -/
abbrev fn_ref05_All : Nat := 46
theorem vc_ref05_All (ms_a : Option Addr) (ms_n : Nat) (ms_c : Nat) (l_a : Option Addr) (l_n : Nat) (l_c : Nat) (H : Heap) (R : Value → Heap → Prop) (h : ∃ (I : List Value → Heap → Prop) (μ
  : List Value → Heap → Nat), I [Value.int IntKind.i64 (0 : Int)] H ∧ ∀ (J : F) (n : Int) (H' : Heap), I [Value.int IntKind.i64 n] H' → brB (decide (n < (↑ms_n : Int))) (exSome ms_a fun ad =>
  chk (decide ((0 : Int) ≤ n ∧ n < (↑ms_n : Int))) (∃ n_1 s s_1 a n_2 c, Ld Try.prog (47 : Nat) H' (Addr.add ad (Int.toNat n * (4 : Nat))) (Value.agg { toList := [Value.int IntKind.i64 n_1,
  Value.string s, Value.string s_1, Value.slice a n_2 c] }) ∧ CallH Try.prog (80 : Nat) { toList := [Value.agg { toList := [Value.int IntKind.i64 n_1, Value.string s, Value.string s_1,
  Value.slice a n_2 c] }, Value.slice l_a l_n l_c] } H' fun v H'_1 => ∃ b, v = Value.bool b ∧ brB (!b) (R (Value.bool false) H'_1) (I [Value.int IntKind.i64 (IntKind.wrap IntKind.i64 (n + (1 :
  Int)))] H'_1 ∧ μ [Value.int IntKind.i64 (IntKind.wrap IntKind.i64 (n + (1 : Int)))] H'_1 < μ [Value.int IntKind.i64 n] H'))) (R (Value.bool true) H')) : CallH Try.prog 46 (List.toArray
  [Value.slice ms_a ms_n ms_c, Value.slice l_a l_n l_c]) H R := vc_call (annOf [([0, 1, 0, 1], .cut [(5, .one (.int .i64))])]) followsAll Go.Proofs.Try.func46 rfl Go.Proofs.Try.ntmps46 rfl rfl
  (Eq.mpr (by kernel_rfl) h)

/- 47 strandline/strandlineref06.Has
  slots: [0=a, 1=n, 2=a, 3=n, 5=i]  -/
abbrev fn_ref06_Has : Nat := 47
theorem vc_ref06_Has (a_a : Option Addr) (a_n : Nat) (a_c : Nat) (n : Int) (H : Heap) (R : Value → Heap → Prop) (h : ∃ (I : List Value → Heap → Prop) (μ : List Value → Heap → Nat), I
  [Value.int IntKind.i64 (0 : Int)] H ∧ ∀ (J : F) (n_1 : Int) (H' : Heap), I [Value.int IntKind.i64 n_1] H' → brB (decide (n_1 < (↑a_n : Int))) (exSome a_a fun ad => chk (decide ((0 : Int) ≤
  n_1 ∧ n_1 < (↑a_n : Int))) (∃ n_2, Ld Try.prog (3 : Nat) H' (Addr.add ad (Int.toNat n_1 * (1 : Nat))) (Value.int IntKind.i64 n_2) ∧ brB (n_2 == n) (R (Value.bool true) H') (I [Value.int
  IntKind.i64 (IntKind.wrap IntKind.i64 (n_1 + (1 : Int)))] H' ∧ μ [Value.int IntKind.i64 (IntKind.wrap IntKind.i64 (n_1 + (1 : Int)))] H' < μ [Value.int IntKind.i64 n_1] H'))) (R (Value.bool
  false) H')) : CallH Try.prog 47 (List.toArray [Value.slice a_a a_n a_c, Value.int IntKind.i64 n]) H R := vc_call (annOf [([0, 1, 0, 1], .cut [(5, .one (.int .i64))])]) followsAll
  Go.Proofs.Try.func47 rfl Go.Proofs.Try.ntmps47 rfl rfl (Eq.mpr (by kernel_rfl) h)

/- 48 strandline/zig.Uint
  slots: [0=n, 1=n, 3=b]  -/
abbrev fn_zig_Uint : Nat := 48
theorem vc_zig_Uint (n : Int) (H : Heap) (R : Value → Heap → Prop) (h : SemWp Try.prog (Instr.makeSlice (96 : Nat) (Value.int IntKind.i64 (0 : Int)) (Value.int IntKind.i64 (10 : Int))) H fun
  v H' => ∃ a n_1 c, v = Value.slice a n_1 c ∧ ∃ (I : List Value → Heap → Prop) (μ : List Value → Heap → Nat), I [Value.int IntKind.u64 n, Value.slice a n_1 c] H' ∧ ∀ (J : F) (n : Int) (a :
  Option Addr) (n_2 c : Nat) (H' : Heap), I [Value.int IntKind.u64 n, Value.slice a n_2 c] H' → brB (decide (n ≥ (128 : Int))) (∀ (b : Nat) (H'_1 : Heap), New H' b (Obj.cells { toList :=
  [Value.int IntKind.u8 (IntKind.wrap IntKind.u8 (↑(BitVec.toNat (BitVec.ofInt (8 : Nat) (IntKind.wrap IntKind.u8 n) ||| BitVec.ofInt (8 : Nat) (128 : Int))) : Int))] } (5 : Nat)) H'_1 → SemWp
  Try.prog (Builtin.append_ { toList := [(96 : Nat), (96 : Nat)] } (96 : Nat) { toList := [Value.slice a n_2 c, Value.slice (some ⟨b, (0 : Nat), none⟩) (1 : Nat) (1 : Nat)] }) H'_1 fun v H'_2
  => ∃ a_3 n_3 c_1, v = Value.slice a_3 n_3 c_1 ∧ I [Value.int IntKind.u64 (Int.fdiv n ((2 : Int) ^ (7 : Nat))), Value.slice a_3 n_3 c_1] H'_2 ∧ μ [Value.int IntKind.u64 (Int.fdiv n ((2 : Int)
  ^ (7 : Nat))), Value.slice a_3 n_3 c_1] H'_2 < μ [Value.int IntKind.u64 n, Value.slice a n_2 c] H') (∀ (b : Nat) (H'_1 : Heap), New H' b (Obj.cells { toList := [Value.int IntKind.u8
  (IntKind.wrap IntKind.u8 n)] } (5 : Nat)) H'_1 → SemWp Try.prog (Builtin.append_ { toList := [(96 : Nat), (96 : Nat)] } (96 : Nat) { toList := [Value.slice a n_2 c, Value.slice (some ⟨b, (0
  : Nat), none⟩) (1 : Nat) (1 : Nat)] }) H'_1 fun v H' => ∃ a n c, v = Value.slice a n c ∧ SemWp Try.prog (convert (96 : Nat) (9 : Nat) (Value.slice a n c)) H' fun v H' => ∃ s, v =
  Value.string s ∧ R (Value.string s) H')) : CallH Try.prog 48 (List.toArray [Value.int IntKind.u64 n]) H R := vc_call (annOf [([0, 0, 1, 1], .cut [(0, .one (.int .u64)), (3, .one .slice)])])
  followsAll Go.Proofs.Try.func48 rfl Go.Proofs.Try.ntmps48 rfl rfl (Eq.mpr (by kernel_rfl) h)

/- 49 strandline/label.Print
  slots: [0=l, 1=l, 4=e, 5=parts, 6=_, 7=x]  -/
abbrev fn_label_Print : Nat := 49
theorem vc_label_Print (l_a : Option Addr) (l_n : Nat) (l_c : Nat) (H : Heap) (R : Value → Heap → Prop) (h : CallH Try.prog (64 : Nat) { toList := [Value.slice l_a l_n l_c] } H fun v H' => ∃
  n, v = Value.int IntKind.i64 n ∧ brB (n != (0 : Int)) (R (Value.tuple { toList := [Value.string { data := #[] }, Value.int IntKind.i64 n] }) H') (∃ (I : List Value → Heap → Prop) (μ : List
  Value → Heap → Nat), I [Value.slice none (0 : Nat) (0 : Nat), Value.int IntKind.i64 (0 : Int)] H' ∧ ∀ (J : F) (a : Option Addr) (n c : Nat) (n_1 : Int) (H' : Heap), I [Value.slice a n c,
  Value.int IntKind.i64 n_1] H' → brB (decide (n_1 < (↑l_n : Int))) (exSome l_a fun ad => chk (decide ((0 : Int) ≤ n_1 ∧ n_1 < (↑l_n : Int))) (∃ s s_1, Ld Try.prog (64 : Nat) H' (Addr.add ad
  (Int.toNat n_1 * (2 : Nat))) (Value.agg { toList := [Value.string s, Value.string s_1] }) ∧ ∀ (b : Nat) (H'_1 : Heap), New H' b (Obj.cells { toList := [Value.string { data := #[] },
  Value.string { data := #[] }] } (64 : Nat)) H'_1 → ∃ H'_2, St Try.prog (64 : Nat) H'_1 ⟨b, (0 : Nat), none⟩ (Value.agg { toList := [Value.string s, Value.string s_1] }) H'_2 ∧ ∃ s, Ld
  Try.prog (9 : Nat) H'_2 ⟨b, (0 : Nat), none⟩ (Value.string s) ∧ chk (decide (ByteArray.size s + (1 : Nat) ≤ (9223372036854775807 : Nat))) (∃ s_2, Ld Try.prog (9 : Nat) H'_2 ⟨b, (1 : Nat),
  none⟩ (Value.string s_2) ∧ CallH Try.prog (81 : Nat) { toList := [Value.string s_2] } H'_2 fun v H'_3 => ∃ s_3, v = Value.string s_3 ∧ Ld Try.prog (9 : Nat) H'_3 ⟨b, (0 : Nat), none⟩
  (Value.string s) ∧ chk (decide (ByteArray.size (s ++ { data := #[(61 : UInt8)] }) + ByteArray.size s_3 ≤ (9223372036854775807 : Nat))) (∀ (b : Nat) (H'_4 : Heap), New H'_3 b (Obj.cells {
  toList := [Value.string (s ++ { data := #[(61 : UInt8)] } ++ s_3)] } (9 : Nat)) H'_4 → SemWp Try.prog (Builtin.append_ { toList := [(45 : Nat), (45 : Nat)] } (45 : Nat) { toList :=
  [Value.slice a n c, Value.slice (some ⟨b, (0 : Nat), none⟩) (1 : Nat) (1 : Nat)] }) H'_4 fun v H'_5 => ∃ a_4 n_2 c_1, v = Value.slice a_4 n_2 c_1 ∧ I [Value.slice a_4 n_2 c_1, Value.int
  IntKind.i64 (IntKind.wrap IntKind.i64 (n_1 + (1 : Int)))] H'_5 ∧ μ [Value.slice a_4 n_2 c_1, Value.int IntKind.i64 (IntKind.wrap IntKind.i64 (n_1 + (1 : Int)))] H'_5 < μ [Value.slice a n c,
  Value.int IntKind.i64 n_1] H')))) (CallH Try.prog (82 : Nat) { toList := [Value.slice a n c, Value.string { data := #[(44 : UInt8)] }] } H' fun v H' => ∃ s, v = Value.string s ∧ chk (decide
  ((1 : Nat) + ByteArray.size s ≤ (9223372036854775807 : Nat))) (chk (decide (ByteArray.size ({ data := #[(123 : UInt8)] } ++ s) + (1 : Nat) ≤ (9223372036854775807 : Nat))) (R (Value.tuple {
  toList := [Value.string ({ data := #[(123 : UInt8)] } ++ s ++ { data := #[(125 : UInt8)] }), Value.int IntKind.i64 (0 : Int)] }) H'))))) : CallH Try.prog 49 (List.toArray [Value.slice l_a
  l_n l_c]) H R := vc_call (annOf [([0, 1, 0, 1, 1, 1], .cut [(5, .one .slice), (15, .one (.int .i64))]), ([1, 0, 0, 1, 1, 0, 0, 1, 0, 1, 1, 1], .reg [0, 0, 2, 6, 0, 16, 48, 126, 254, 511,
  1023] (.quiet 0 (.quiet 1 (.quiet 2 (.quiet 3 (.quiet 4 (.quiet 5 (.pick (.alt 6 (.quiet 7 (.pick (.alt 8 (.pick (.alt 9 (.quiet 10 .done) .stop)) .stop))) .stop)))))))))]) followsAll
  Go.Proofs.Try.func49 rfl Go.Proofs.Try.ntmps49 rfl rfl (Eq.mpr (by kernel_rfl) h)

/- 50 strandline/zig.Text
  slots: [0=s, 1=s]  -/
abbrev fn_zig_Text : Nat := 50
theorem vc_zig_Text (s : ByteArray) (H : Heap) (R : Value → Heap → Prop) (h : CallH Try.prog (48 : Nat) { toList := [Value.int IntKind.u64 (IntKind.wrap IntKind.u64 (↑(ByteArray.size s) :
  Int))] } H fun v H' => ∃ s_1, v = Value.string s_1 ∧ chk (decide (ByteArray.size s_1 + ByteArray.size s ≤ (9223372036854775807 : Nat))) (R (Value.string (s_1 ++ s)) H')) : CallH Try.prog 50
  (List.toArray [Value.string s]) H R := vc_call (annOf []) followsAll Go.Proofs.Try.func50 rfl Go.Proofs.Try.ntmps50 rfl rfl (Eq.mpr (by kernel_rfl) h)

/- 51 strandline/strandlineref04.Check
  slots: [0=l, 1=l, 3=i]  -/
abbrev fn_ref04_Check : Nat := 51
theorem vc_ref04_Check (l_a : Option Addr) (l_n : Nat) (l_c : Nat) (H : Heap) (R : Value → Heap → Prop) (h : brB (decide ((↑l_n : Int) > (8 : Int))) (R (Value.int IntKind.i64 (40 : Int)) H)
  (∃ (I : List Value → Heap → Prop) (μ : List Value → Heap → Nat), I [Value.int IntKind.i64 (0 : Int)] H ∧ ∀ (J : F) (n : Int) (H' : Heap), I [Value.int IntKind.i64 n] H' → brB (decide (n <
  (↑l_n : Int))) (∃ (M : List Value → Heap → Prop), (exSome l_a fun ad => chk (decide ((0 : Int) ≤ n ∧ n < (↑l_n : Int))) (∃ s, Ld Try.prog (9 : Nat) H' (Addr.add ad (Int.toNat n * (2 : Nat)))
  (Value.string s) ∧ CallH Try.prog (78 : Nat) { toList := [Value.string s] } H' fun v H' => ∃ b, v = Value.bool b ∧ brB (!b) (R (Value.int IntKind.i64 (40 : Int)) H') (exSome l_a fun ad =>
  chk (decide ((0 : Int) ≤ n ∧ n < (↑l_n : Int))) (∃ s, Ld Try.prog (9 : Nat) H' (Addr.add (Addr.add ad (Int.toNat n * (2 : Nat))) (1 : Nat)) (Value.string s) ∧ CallH Try.prog (79 : Nat) {
  toList := [Value.string s] } H' fun v H' => ∃ b, v = Value.bool b ∧ brB (!b) (R (Value.int IntKind.i64 (40 : Int)) H') (exSome l_a fun ad => chk (decide ((0 : Int) ≤ n ∧ n < (↑l_n : Int)))
  (∃ s, Ld Try.prog (9 : Nat) H' (Addr.add (Addr.add ad (Int.toNat n * (2 : Nat))) (1 : Nat)) (Value.string s) ∧ brB (ByteArray.toList s == ByteArray.toList { data := #[] }) (R (Value.int
  IntKind.i64 (40 : Int)) H') (brB (decide (n > (0 : Int))) (exSome l_a fun ad => chk (decide ((0 : Int) ≤ n ∧ n < (↑l_n : Int))) (∃ s, Ld Try.prog (9 : Nat) H' (Addr.add ad (Int.toNat n * (2
  : Nat))) (Value.string s) ∧ exSome l_a fun ad => chk (decide ((0 : Int) ≤ IntKind.wrap IntKind.i64 (n - (1 : Int)) ∧ IntKind.wrap IntKind.i64 (n - (1 : Int)) < (↑l_n : Int))) (∃ s_1, Ld
  Try.prog (9 : Nat) H' (Addr.add ad (Int.toNat (IntKind.wrap IntKind.i64 (n - (1 : Int))) * (2 : Nat))) (Value.string s_1) ∧ brB (Op.bytesLess (ByteArray.toList s) (ByteArray.toList s_1) ||
  ByteArray.toList s == ByteArray.toList s_1) (R (Value.int IntKind.i64 (40 : Int)) H') (M [] H')))) (M [] H')))))))) ∧ ∀ (J : F) (H'_1 : Heap), M [] H'_1 → I [Value.int IntKind.i64
  (IntKind.wrap IntKind.i64 (n + (1 : Int)))] H'_1 ∧ μ [Value.int IntKind.i64 (IntKind.wrap IntKind.i64 (n + (1 : Int)))] H'_1 < μ [Value.int IntKind.i64 n] H') (R (Value.int IntKind.i64 (0 :
  Int)) H'))) : CallH Try.prog 51 (List.toArray [Value.slice l_a l_n l_c]) H R := vc_call (annOf [([0, 1, 0, 1, 1], .cut [(3, .one (.int .i64))]), ([1, 0, 0, 1, 0, 1, 1], .cut []), ([0, 0, 0,
  1, 0, 0, 1, 0, 1, 1], .reg [0, 0, 3, 7, 15, 31, 63, 127, 255, 255, 1023, 2047, 4095, 8191, 16383, 32767, 65535, 131071, 131071, 524287, 1048575, 2097151, 4194303, 8388607, 16777215,
  33554431, 67108863, 134217727, 268435455, 268435455, 1073741823, 2147483647, 4294967295, 268435455, 268435455, 17448304639, 60397977599, 129117454335, 266556407807, 549755813887,
  1099511627775, 2199023255551] (.quiet 0 (.quiet 1 (.quiet 2 (.quiet 3 (.quiet 4 (.pick (.alt 5 (.quiet 6 (.quiet 7 (.quiet 8 (.quiet 9 (.quiet 10 (.quiet 11 (.quiet 12 (.pick (.alt 13
  (.quiet 14 (.quiet 15 (.quiet 16 (.quiet 17 (.quiet 18 (.quiet 19 (.quiet 20 (.quiet 21 (.quiet 22 (.quiet 23 (.quiet 24 (.quiet 25 (.quiet 26 (.quiet 27 (.quiet 28 (.quiet 29 (.quiet 30
  (.quiet 31 (.quiet 32 (.quiet 33 (.quiet 34 (.quiet 35 (.quiet 36 (.quiet 37 (.quiet 38 (.quiet 39 (.quiet 40 (.quiet 41 .done)))))))))))))))))))))))))))) .stop))))))))) .stop))))))))])
  followsAll Go.Proofs.Try.func51 rfl Go.Proofs.Try.ntmps51 rfl rfl (Eq.mpr (by kernel_rfl) h)

/- 52 strandline/strandlineref01.Uint
  slots: [0=n, 1=n, 3=s]  -/
abbrev fn_ref01_Uint : Nat := 52
theorem vc_ref01_Uint (n : Int) (H : Heap) (R : Value → Heap → Prop) (h : ∃ (I : List Value → Heap → Prop) (μ : List Value → Heap → Nat), I [Value.int IntKind.u64 n, Value.string { data :=
  #[] }] H ∧ ∀ (J : F) (n : Int) (s : ByteArray) (H' : Heap), I [Value.int IntKind.u64 n, Value.string s] H' → brB (decide (n > (127 : Int))) (∀ (b : Nat) (H'_1 : Heap), New H' b (Obj.cells {
  toList := [Value.int IntKind.u8 (IntKind.wrap IntKind.u8 (IntKind.wrap IntKind.u64 (Int.tmod n (128 : Int) + (128 : Int))))] } (5 : Nat)) H'_1 → SemWp Try.prog (convert (96 : Nat) (9 : Nat)
  (Value.slice (some ⟨b, (0 : Nat), none⟩) (1 : Nat) (1 : Nat))) H'_1 fun v H'_2 => ∃ s_1, v = Value.string s_1 ∧ chk (decide (ByteArray.size s + ByteArray.size s_1 ≤ (9223372036854775807 :
  Nat))) (I [Value.int IntKind.u64 (IntKind.wrap IntKind.u64 (Int.tdiv n (128 : Int))), Value.string (s ++ s_1)] H'_2 ∧ μ [Value.int IntKind.u64 (IntKind.wrap IntKind.u64 (Int.tdiv n (128 :
  Int))), Value.string (s ++ s_1)] H'_2 < μ [Value.int IntKind.u64 n, Value.string s] H')) (∀ (b : Nat) (H'_1 : Heap), New H' b (Obj.cells { toList := [Value.int IntKind.u8 (IntKind.wrap
  IntKind.u8 n)] } (5 : Nat)) H'_1 → SemWp Try.prog (convert (96 : Nat) (9 : Nat) (Value.slice (some ⟨b, (0 : Nat), none⟩) (1 : Nat) (1 : Nat))) H'_1 fun v H' => ∃ s_1, v = Value.string s_1 ∧
  chk (decide (ByteArray.size s + ByteArray.size s_1 ≤ (9223372036854775807 : Nat))) (R (Value.string (s ++ s_1)) H'))) : CallH Try.prog 52 (List.toArray [Value.int IntKind.u64 n]) H R :=
  vc_call (annOf [([0, 0, 1, 1], .cut [(0, .one (.int .u64)), (3, .one .str)])]) followsAll Go.Proofs.Try.func52 rfl Go.Proofs.Try.ntmps52 rfl rfl (Eq.mpr (by kernel_rfl) h)

/- 53 strandline/strandlineref04.Print
  slots: [0=l, 1=l, 4=e, 5=s, 6=i]  -/
abbrev fn_ref04_Print : Nat := 53
theorem vc_ref04_Print (l_a : Option Addr) (l_n : Nat) (l_c : Nat) (H : Heap) (R : Value → Heap → Prop) (h : CallH Try.prog (51 : Nat) { toList := [Value.slice l_a l_n l_c] } H fun v H' => ∃
  n, v = Value.int IntKind.i64 n ∧ brB (n != (0 : Int)) (R (Value.tuple { toList := [Value.string { data := #[] }, Value.int IntKind.i64 n] }) H') (∃ (I : List Value → Heap → Prop) (μ : List
  Value → Heap → Nat), I [Value.string { data := #[(123 : UInt8)] }, Value.int IntKind.i64 (0 : Int)] H' ∧ ∀ (J : F) (s : ByteArray) (n : Int) (H' : Heap), I [Value.string s, Value.int
  IntKind.i64 n] H' → brB (decide (n < (↑l_n : Int))) (brB (decide (n > (0 : Int))) (chk (decide (ByteArray.size s + (1 : Nat) ≤ (9223372036854775807 : Nat))) (exSome l_a fun ad => chk (decide
  ((0 : Int) ≤ n ∧ n < (↑l_n : Int))) (∃ s_1, Ld Try.prog (9 : Nat) H' (Addr.add ad (Int.toNat n * (2 : Nat))) (Value.string s_1) ∧ chk (decide (ByteArray.size (s ++ { data := #[(44 : UInt8)]
  }) + ByteArray.size s_1 ≤ (9223372036854775807 : Nat))) (chk (decide (ByteArray.size (s ++ { data := #[(44 : UInt8)] } ++ s_1) + (1 : Nat) ≤ (9223372036854775807 : Nat))) (exSome l_a fun
  ad_1 => chk (decide ((0 : Int) ≤ n ∧ n < (↑l_n : Int))) (∃ s_2, Ld Try.prog (9 : Nat) H' (Addr.add (Addr.add ad_1 (Int.toNat n * (2 : Nat))) (1 : Nat)) (Value.string s_2) ∧ CallH Try.prog
  (83 : Nat) { toList := [Value.string s_2] } H' fun v H'_1 => ∃ s_3, v = Value.string s_3 ∧ Ld Try.prog (9 : Nat) H'_1 (Addr.add ad (Int.toNat n * (2 : Nat))) (Value.string s_1) ∧ chk (decide
  (ByteArray.size (s ++ { data := #[(44 : UInt8)] } ++ s_1 ++ { data := #[(61 : UInt8)] }) + ByteArray.size s_3 ≤ (9223372036854775807 : Nat))) (I [Value.string (s ++ { data := #[(44 : UInt8)]
  } ++ s_1 ++ { data := #[(61 : UInt8)] } ++ s_3), Value.int IntKind.i64 (IntKind.wrap IntKind.i64 (n + (1 : Int)))] H'_1 ∧ μ [Value.string (s ++ { data := #[(44 : UInt8)] } ++ s_1 ++ { data
  := #[(61 : UInt8)] } ++ s_3), Value.int IntKind.i64 (IntKind.wrap IntKind.i64 (n + (1 : Int)))] H'_1 < μ [Value.string s, Value.int IntKind.i64 n] H'))))))) (exSome l_a fun ad => chk (decide
  ((0 : Int) ≤ n ∧ n < (↑l_n : Int))) (∃ s_1, Ld Try.prog (9 : Nat) H' (Addr.add ad (Int.toNat n * (2 : Nat))) (Value.string s_1) ∧ chk (decide (ByteArray.size s + ByteArray.size s_1 ≤
  (9223372036854775807 : Nat))) (chk (decide (ByteArray.size (s ++ s_1) + (1 : Nat) ≤ (9223372036854775807 : Nat))) (exSome l_a fun ad_1 => chk (decide ((0 : Int) ≤ n ∧ n < (↑l_n : Int))) (∃
  s_2, Ld Try.prog (9 : Nat) H' (Addr.add (Addr.add ad_1 (Int.toNat n * (2 : Nat))) (1 : Nat)) (Value.string s_2) ∧ CallH Try.prog (83 : Nat) { toList := [Value.string s_2] } H' fun v H'_1 =>
  ∃ s_3, v = Value.string s_3 ∧ Ld Try.prog (9 : Nat) H'_1 (Addr.add ad (Int.toNat n * (2 : Nat))) (Value.string s_1) ∧ chk (decide (ByteArray.size (s ++ s_1 ++ { data := #[(61 : UInt8)] }) +
  ByteArray.size s_3 ≤ (9223372036854775807 : Nat))) (I [Value.string (s ++ s_1 ++ { data := #[(61 : UInt8)] } ++ s_3), Value.int IntKind.i64 (IntKind.wrap IntKind.i64 (n + (1 : Int)))] H'_1 ∧
  μ [Value.string (s ++ s_1 ++ { data := #[(61 : UInt8)] } ++ s_3), Value.int IntKind.i64 (IntKind.wrap IntKind.i64 (n + (1 : Int)))] H'_1 < μ [Value.string s, Value.int IntKind.i64 n]
  H'))))))) (chk (decide (ByteArray.size s + (1 : Nat) ≤ (9223372036854775807 : Nat))) (R (Value.tuple { toList := [Value.string (s ++ { data := #[(125 : UInt8)] }), Value.int IntKind.i64 (0 :
  Int)] }) H')))) : CallH Try.prog 53 (List.toArray [Value.slice l_a l_n l_c]) H R := vc_call (annOf [([0, 1, 0, 1, 1, 1, 1], .cut [(5, .one .str), (6, .one (.int .i64))]), ([1, 0, 0, 1, 0, 0,
  1, 0, 1, 1, 1, 1], .reg [0, 0, 0, 6, 14, 30, 63, 127, 0, 0, 768, 1792, 3840, 7936, 16383, 32767] (.quiet 0 (.quiet 1 (.quiet 2 (.quiet 3 (.quiet 4 (.quiet 5 (.quiet 6 (.quiet 7 (.quiet 8
  (.quiet 9 (.quiet 10 (.quiet 11 (.quiet 12 (.pick (.alt 13 (.quiet 14 (.quiet 15 .done)) .stop))))))))))))))))]) followsAll Go.Proofs.Try.func53 rfl Go.Proofs.Try.ntmps53 rfl rfl (Eq.mpr (by
  kernel_rfl) h)

/- 54 strandline/strandlineref01.Text
  slots: [0=s, 1=s]  -/
abbrev fn_ref01_Text : Nat := 54
theorem vc_ref01_Text (s : ByteArray) (H : Heap) (R : Value → Heap → Prop) (h : CallH Try.prog (52 : Nat) { toList := [Value.int IntKind.u64 (IntKind.wrap IntKind.u64 (↑(ByteArray.size s) :
  Int))] } H fun v H' => ∃ s_1, v = Value.string s_1 ∧ chk (decide (ByteArray.size s_1 + ByteArray.size s ≤ (9223372036854775807 : Nat))) (R (Value.string (s_1 ++ s)) H')) : CallH Try.prog 54
  (List.toArray [Value.string s]) H R := vc_call (annOf []) followsAll Go.Proofs.Try.func54 rfl Go.Proofs.Try.ntmps54 rfl rfl (Eq.mpr (by kernel_rfl) h)

/- 55 strandline/zig.GetUint
  slots: [0=s, 1=at, 2=s, 3=at, 4=n, 5=next, 6=e, 7=i, 8=c]  -/
abbrev fn_zig_GetUint : Nat := 55
theorem vc_zig_GetUint (s : ByteArray) (at' : Int) (H : Heap) (R : Value → Heap → Prop) (h : ∃ (M : List Value → Heap → Prop), brB (decide (at' < (0 : Int))) (R (Value.tuple { toList :=
  [Value.int IntKind.u64 (0 : Int), Value.int IntKind.i64 (0 : Int), Value.int IntKind.i64 (1 : Int)] }) H) (brB (decide (at' > (↑(ByteArray.size s) : Int))) (R (Value.tuple { toList :=
  [Value.int IntKind.u64 (0 : Int), Value.int IntKind.i64 (0 : Int), Value.int IntKind.i64 (1 : Int)] }) H) (M [Value.int IntKind.u64 (0 : Int)] H)) ∧ ∀ (J : F) (n : Int) (H' : Heap), M
  [Value.int IntKind.u64 n] H' → ∃ (I : List Value → Heap → Prop) (μ : List Value → Heap → Nat), I [Value.int IntKind.u64 n, Value.int IntKind.i64 (0 : Int)] H' ∧ ∀ (J : F) (n n_1 : Int) (H' :
  Heap), I [Value.int IntKind.u64 n, Value.int IntKind.i64 n_1] H' → brB (decide (n_1 < (10 : Int))) (brB (IntKind.wrap IntKind.i64 (at' + n_1) == (↑(ByteArray.size s) : Int)) (R (Value.tuple
  { toList := [Value.int IntKind.u64 (0 : Int), Value.int IntKind.i64 (0 : Int), Value.int IntKind.i64 (10 : Int)] }) H') (chk (decide ((0 : Int) ≤ IntKind.wrap IntKind.i64 (at' + n_1) ∧
  IntKind.wrap IntKind.i64 (at' + n_1) < (↑(ByteArray.size s) : Int))) (∃ (M : List Value → Heap → Prop), brB (n_1 == (9 : Int)) (brB (decide ((↑(atB s (Int.toNat (IntKind.wrap IntKind.i64
  (at' + n_1)))) : Int) > (1 : Int))) (R (Value.tuple { toList := [Value.int IntKind.u64 (0 : Int), Value.int IntKind.i64 (0 : Int), Value.int IntKind.i64 (11 : Int)] }) H') (brB ((↑(atB s
  (Int.toNat (IntKind.wrap IntKind.i64 (at' + n_1)))) : Int) == (0 : Int)) (brB (decide (n_1 > (0 : Int))) (R (Value.tuple { toList := [Value.int IntKind.u64 (0 : Int), Value.int IntKind.i64
  (0 : Int), Value.int IntKind.i64 (11 : Int)] }) H') (M [Value.int IntKind.u64 n] H')) (M [Value.int IntKind.u64 n] H'))) (brB ((↑(atB s (Int.toNat (IntKind.wrap IntKind.i64 (at' + n_1)))) :
  Int) == (0 : Int)) (brB (decide (n_1 > (0 : Int))) (R (Value.tuple { toList := [Value.int IntKind.u64 (0 : Int), Value.int IntKind.i64 (0 : Int), Value.int IntKind.i64 (11 : Int)] }) H') (M
  [Value.int IntKind.u64 n] H')) (M [Value.int IntKind.u64 n] H')) ∧ ∀ (J : F) (n_2 : Int) (H'_1 : Heap), M [Value.int IntKind.u64 n_2] H'_1 → chk (decide ((0 : Int) ≤ IntKind.wrap IntKind.u64
  (IntKind.wrap IntKind.i64 ((7 : Int) * n_1)))) (brB (decide ((↑(atB s (Int.toNat (IntKind.wrap IntKind.i64 (at' + n_1)))) : Int) < (128 : Int))) (R (Value.tuple { toList := [Value.int
  IntKind.u64 (IntKind.wrap IntKind.u64 (↑(BitVec.toNat (BitVec.ofInt (64 : Nat) n_2 ||| BitVec.ofInt (64 : Nat) (IntKind.wrap IntKind.u64 (IntKind.wrap IntKind.u64 (IntKind.wrap IntKind.u8
  (↑(BitVec.toNat (BitVec.ofInt (8 : Nat) (↑(atB s (Int.toNat (IntKind.wrap IntKind.i64 (at' + n_1)))) : Int) &&& BitVec.ofInt (8 : Nat) (127 : Int))) : Int)) * (2 : Int) ^ min (Int.toNat
  (IntKind.wrap IntKind.u64 (IntKind.wrap IntKind.i64 ((7 : Int) * n_1)))) (64 : Nat))))) : Int)), Value.int IntKind.i64 (IntKind.wrap IntKind.i64 (IntKind.wrap IntKind.i64 (at' + n_1) + (1 :
  Int))), Value.int IntKind.i64 (0 : Int)] }) H'_1) (I [Value.int IntKind.u64 (IntKind.wrap IntKind.u64 (↑(BitVec.toNat (BitVec.ofInt (64 : Nat) n_2 ||| BitVec.ofInt (64 : Nat) (IntKind.wrap
  IntKind.u64 (IntKind.wrap IntKind.u64 (IntKind.wrap IntKind.u8 (↑(BitVec.toNat (BitVec.ofInt (8 : Nat) (↑(atB s (Int.toNat (IntKind.wrap IntKind.i64 (at' + n_1)))) : Int) &&& BitVec.ofInt (8
  : Nat) (127 : Int))) : Int)) * (2 : Int) ^ min (Int.toNat (IntKind.wrap IntKind.u64 (IntKind.wrap IntKind.i64 ((7 : Int) * n_1)))) (64 : Nat))))) : Int)), Value.int IntKind.i64 (IntKind.wrap
  IntKind.i64 (n_1 + (1 : Int)))] H'_1 ∧ μ [Value.int IntKind.u64 (IntKind.wrap IntKind.u64 (↑(BitVec.toNat (BitVec.ofInt (64 : Nat) n_2 ||| BitVec.ofInt (64 : Nat) (IntKind.wrap IntKind.u64
  (IntKind.wrap IntKind.u64 (IntKind.wrap IntKind.u8 (↑(BitVec.toNat (BitVec.ofInt (8 : Nat) (↑(atB s (Int.toNat (IntKind.wrap IntKind.i64 (at' + n_1)))) : Int) &&& BitVec.ofInt (8 : Nat) (127
  : Int))) : Int)) * (2 : Int) ^ min (Int.toNat (IntKind.wrap IntKind.u64 (IntKind.wrap IntKind.i64 ((7 : Int) * n_1)))) (64 : Nat))))) : Int)), Value.int IntKind.i64 (IntKind.wrap IntKind.i64
  (n_1 + (1 : Int)))] H'_1 < μ [Value.int IntKind.u64 n, Value.int IntKind.i64 n_1] H'))))) (R (Value.tuple { toList := [Value.int IntKind.u64 (0 : Int), Value.int IntKind.i64 (0 : Int),
  Value.int IntKind.i64 (11 : Int)] }) H')) : CallH Try.prog 55 (List.toArray [Value.string s, Value.int IntKind.i64 at']) H R := vc_call (annOf [([1], .cut [(4, .one (.int .u64))]), ([0, 1,
  0, 1, 1], .cut [(4, .one (.int .u64)), (17, .one (.int .i64))]), ([1, 1, 1, 0, 0, 1, 1, 0, 0, 1, 0, 1, 1], .cut [(4, .one (.int .u64))])]) followsAll Go.Proofs.Try.func55 rfl
  Go.Proofs.Try.ntmps55 rfl rfl (Eq.mpr (by kernel_rfl) h)

/- 56 strandline/zig.GetText
  slots: [0=s, 1=at, 2=s, 3=at, 7=n, 8=next, 9=e]  -/
abbrev fn_zig_GetText : Nat := 56
theorem vc_zig_GetText (s : ByteArray) (at' : Int) (H : Heap) (R : Value → Heap → Prop) (h : CallH Try.prog (55 : Nat) { toList := [Value.string s, Value.int IntKind.i64 at'] } H fun v H' =>
  ∃ n n_1 n_2, v = Value.tuple { toList := [Value.int IntKind.u64 n, Value.int IntKind.i64 n_1, Value.int IntKind.i64 n_2] } ∧ brB (n_2 != (0 : Int)) (R (Value.tuple { toList := [Value.string
  { data := #[] }, Value.int IntKind.i64 (0 : Int), Value.int IntKind.i64 n_2] }) H') (brB (decide (n > IntKind.wrap IntKind.u64 (IntKind.wrap IntKind.i64 ((↑(ByteArray.size s) : Int) -
  n_1)))) (R (Value.tuple { toList := [Value.string { data := #[] }, Value.int IntKind.i64 (0 : Int), Value.int IntKind.i64 (10 : Int)] }) H') (chk (decide ((0 : Int) ≤ n_1 ∧ n_1 ≤
  IntKind.wrap IntKind.i64 (n_1 + IntKind.wrap IntKind.i64 n) ∧ IntKind.wrap IntKind.i64 (n_1 + IntKind.wrap IntKind.i64 n) ≤ (↑(ByteArray.size s) : Int))) (R (Value.tuple { toList :=
  [Value.string (ByteArray.extract s (Int.toNat n_1) (Int.toNat (IntKind.wrap IntKind.i64 (n_1 + IntKind.wrap IntKind.i64 n)))), Value.int IntKind.i64 (IntKind.wrap IntKind.i64 (n_1 +
  IntKind.wrap IntKind.i64 n)), Value.int IntKind.i64 (0 : Int)] }) H')))) : CallH Try.prog 56 (List.toArray [Value.string s, Value.int IntKind.i64 at']) H R := vc_call (annOf []) followsAll
  Go.Proofs.Try.func56 rfl Go.Proofs.Try.ntmps56 rfl rfl (Eq.mpr (by kernel_rfl) h)

/- 57 strandline/label.Parse
  slots: [0=s, 1=s, 4=p, 5=l, 6=more, 7=name, 8=rest, 9=_, 10=v, 11=is]  -/
abbrev fn_label_Parse : Nat := 57
theorem vc_label_Parse (s : ByteArray) (H : Heap) (R : Value → Heap → Prop) (h : ∀ (b : Nat) (H' : Heap), New H b (Obj.cells { toList := [Value.string s] } (112 : Nat)) H' → CallH Try.prog
  (84 : Nat) { toList := [Value.pointer (some ⟨b, (0 : Nat), none⟩), Value.string { data := #[(123 : UInt8)] }] } H' fun v H' => ∃ b_1, v = Value.bool b_1 ∧ brB (!b_1) (R (Value.tuple { toList
  := [Value.slice none (0 : Nat) (0 : Nat), Value.int IntKind.i64 (11 : Int)] }) H') (∃ s, Ld Try.prog (9 : Nat) H' ⟨b, (0 : Nat), none⟩ (Value.string s) ∧ brB (ByteArray.toList s ==
  ByteArray.toList { data := #[(125 : UInt8)] }) (R (Value.tuple { toList := [Value.slice none (0 : Nat) (0 : Nat), Value.int IntKind.i64 (0 : Int)] }) H') (∃ (I : List Value → Heap → Prop) (μ
  : List Value → Heap → Nat), I [Value.slice none (0 : Nat) (0 : Nat), Value.bool true] H' ∧ ∀ (J : F) (a : Option Addr) (n c : Nat) (b_2 : Bool) (H' : Heap), I [Value.slice a n c, Value.bool
  b_2] H' → brB b_2 (∃ s, Ld Try.prog (9 : Nat) H' ⟨b, (0 : Nat), none⟩ (Value.string s) ∧ CallH Try.prog (85 : Nat) { toList := [Value.string s, Value.string { data := #[(61 : UInt8)] }] } H'
  fun v H'_1 => ∃ s s_1 b_3, v = Value.tuple { toList := [Value.string s, Value.string s_1, Value.bool b_3] } ∧ ∃ H'_2, St Try.prog (9 : Nat) H'_1 ⟨b, (0 : Nat), none⟩ (Value.string s_1) H'_2
  ∧ CallH Try.prog (86 : Nat) { toList := [Value.pointer (some ⟨b, (0 : Nat), none⟩)] } H'_2 fun v H'_3 => ∃ s_2 b_4, v = Value.tuple { toList := [Value.string s_2, Value.bool b_4] } ∧ brB
  (!b_4) (R (Value.tuple { toList := [Value.slice none (0 : Nat) (0 : Nat), Value.int IntKind.i64 (11 : Int)] }) H'_3) (∀ (b_5 : Nat) (H'_4 : Heap), New H'_3 b_5 (Obj.cells { toList :=
  [Value.string s, Value.string s_2] } (64 : Nat)) H'_4 → SemWp Try.prog (Builtin.append_ { toList := [(23 : Nat), (23 : Nat)] } (23 : Nat) { toList := [Value.slice a n c, Value.slice (some
  ⟨b_5, (0 : Nat), none⟩) (1 : Nat) (1 : Nat)] }) H'_4 fun v H'_5 => ∃ a_3 n_1 c_1, v = Value.slice a_3 n_1 c_1 ∧ CallH Try.prog (84 : Nat) { toList := [Value.pointer (some ⟨b, (0 : Nat),
  none⟩), Value.string { data := #[(44 : UInt8)] }] } H'_5 fun v H'_6 => ∃ b, v = Value.bool b ∧ I [Value.slice a_3 n_1 c_1, Value.bool b] H'_6 ∧ μ [Value.slice a_3 n_1 c_1, Value.bool b] H'_6
  < μ [Value.slice a n c, Value.bool b_2] H')) (∃ s, Ld Try.prog (9 : Nat) H' ⟨b, (0 : Nat), none⟩ (Value.string s) ∧ brB (!ByteArray.toList s == ByteArray.toList { data := #[(125 : UInt8)] })
  (R (Value.tuple { toList := [Value.slice none (0 : Nat) (0 : Nat), Value.int IntKind.i64 (11 : Int)] }) H') (CallH Try.prog (64 : Nat) { toList := [Value.slice a n c] } H' fun v H' => ∃ n_1,
  v = Value.int IntKind.i64 n_1 ∧ brB (n_1 != (0 : Int)) (R (Value.tuple { toList := [Value.slice none (0 : Nat) (0 : Nat), Value.int IntKind.i64 (11 : Int)] }) H') (R (Value.tuple { toList :=
  [Value.slice a n c, Value.int IntKind.i64 (0 : Int)] }) H')))))) : CallH Try.prog 57 (List.toArray [Value.string s]) H R := vc_call (annOf [([0, 1, 0, 1, 1, 1, 1, 1], .cut [(5, .one .slice),
  (6, .one .bool)])]) followsAll Go.Proofs.Try.func57 rfl Go.Proofs.Try.ntmps57 rfl rfl (Eq.mpr (by kernel_rfl) h)

/- 58 strandline/strandlineref01.GetUint
  slots: [0=s, 1=at, 2=s, 3=at, 7=n, 8=v, 9=i]  -/
abbrev fn_ref01_GetUint : Nat := 58
theorem vc_ref01_GetUint (s : ByteArray) (at' : Int) (H : Heap) (R : Value → Heap → Prop) (h : ∃ (M : List Value → Heap → Prop), brB (decide (at' < (0 : Int))) (R (Value.tuple { toList :=
  [Value.int IntKind.u64 (0 : Int), Value.int IntKind.i64 (0 : Int), Value.int IntKind.i64 (1 : Int)] }) H) (brB (decide (at' > (↑(ByteArray.size s) : Int))) (R (Value.tuple { toList :=
  [Value.int IntKind.u64 (0 : Int), Value.int IntKind.i64 (0 : Int), Value.int IntKind.i64 (1 : Int)] }) H) (M [] H)) ∧ ∀ (J : F) (H' : Heap), M [] H' → ∃ (I : List Value → Heap → Prop) (μ :
  List Value → Heap → Nat), I [Value.int IntKind.i64 (0 : Int)] H' ∧ ∀ (J : F) (n : Int) (H' : Heap), I [Value.int IntKind.i64 n] H' → ∃ (M : List Value → Heap → Prop), brB (decide (n < (10 :
  Int))) (brB (decide (IntKind.wrap IntKind.i64 (at' + n) < (↑(ByteArray.size s) : Int))) (chk (decide ((0 : Int) ≤ IntKind.wrap IntKind.i64 (at' + n) ∧ IntKind.wrap IntKind.i64 (at' + n) <
  (↑(ByteArray.size s) : Int))) (brB (decide ((↑(atB s (Int.toNat (IntKind.wrap IntKind.i64 (at' + n)))) : Int) > (127 : Int))) (M [] H') (brB (n == (10 : Int)) (R (Value.tuple { toList :=
  [Value.int IntKind.u64 (0 : Int), Value.int IntKind.i64 (0 : Int), Value.int IntKind.i64 (11 : Int)] }) H') (brB (IntKind.wrap IntKind.i64 (at' + n) == (↑(ByteArray.size s) : Int)) (R
  (Value.tuple { toList := [Value.int IntKind.u64 (0 : Int), Value.int IntKind.i64 (0 : Int), Value.int IntKind.i64 (10 : Int)] }) H') (∃ (I : List Value → Heap → Prop) (μ : List Value → Heap
  → Nat), I [Value.int IntKind.u64 (0 : Int), Value.int IntKind.i64 n] H' ∧ ∀ (J : F) (n_1 n_2 : Int) (H' : Heap), I [Value.int IntKind.u64 n_1, Value.int IntKind.i64 n_2] H' → brB (decide
  (n_2 ≥ (0 : Int))) (brB (decide (n_1 > (144115188075855871 : Int))) (R (Value.tuple { toList := [Value.int IntKind.u64 (0 : Int), Value.int IntKind.i64 (0 : Int), Value.int IntKind.i64 (11 :
  Int)] }) H') (chk (decide ((0 : Int) ≤ IntKind.wrap IntKind.i64 (at' + n_2) ∧ IntKind.wrap IntKind.i64 (at' + n_2) < (↑(ByteArray.size s) : Int))) (I [Value.int IntKind.u64 (IntKind.wrap
  IntKind.u64 (IntKind.wrap IntKind.u64 (n_1 * (128 : Int)) + IntKind.wrap IntKind.u64 (Int.tmod (↑(atB s (Int.toNat (IntKind.wrap IntKind.i64 (at' + n_2)))) : Int) (128 : Int)))), Value.int
  IntKind.i64 (IntKind.wrap IntKind.i64 (n_2 - (1 : Int)))] H' ∧ μ [Value.int IntKind.u64 (IntKind.wrap IntKind.u64 (IntKind.wrap IntKind.u64 (n_1 * (128 : Int)) + IntKind.wrap IntKind.u64
  (Int.tmod (↑(atB s (Int.toNat (IntKind.wrap IntKind.i64 (at' + n_2)))) : Int) (128 : Int)))), Value.int IntKind.i64 (IntKind.wrap IntKind.i64 (n_2 - (1 : Int)))] H' < μ [Value.int
  IntKind.u64 n_1, Value.int IntKind.i64 n_2] H'))) (chk (decide ((0 : Int) ≤ at' ∧ at' ≤ IntKind.wrap IntKind.i64 (IntKind.wrap IntKind.i64 (at' + n) + (1 : Int)) ∧ IntKind.wrap IntKind.i64
  (IntKind.wrap IntKind.i64 (at' + n) + (1 : Int)) ≤ (↑(ByteArray.size s) : Int))) (CallH Try.prog (52 : Nat) { toList := [Value.int IntKind.u64 n_1] } H' fun v H' => ∃ s_1, v = Value.string
  s_1 ∧ brB (!ByteArray.toList s_1 == ByteArray.toList (ByteArray.extract s (Int.toNat at') (Int.toNat (IntKind.wrap IntKind.i64 (IntKind.wrap IntKind.i64 (at' + n) + (1 : Int)))))) (R
  (Value.tuple { toList := [Value.int IntKind.u64 (0 : Int), Value.int IntKind.i64 (0 : Int), Value.int IntKind.i64 (11 : Int)] }) H') (R (Value.tuple { toList := [Value.int IntKind.u64 n_1,
  Value.int IntKind.i64 (IntKind.wrap IntKind.i64 (IntKind.wrap IntKind.i64 (at' + n) + (1 : Int))), Value.int IntKind.i64 (0 : Int)] }) H')))))))) (brB (n == (10 : Int)) (R (Value.tuple {
  toList := [Value.int IntKind.u64 (0 : Int), Value.int IntKind.i64 (0 : Int), Value.int IntKind.i64 (11 : Int)] }) H') (brB (IntKind.wrap IntKind.i64 (at' + n) == (↑(ByteArray.size s) : Int))
  (R (Value.tuple { toList := [Value.int IntKind.u64 (0 : Int), Value.int IntKind.i64 (0 : Int), Value.int IntKind.i64 (10 : Int)] }) H') (∃ (I : List Value → Heap → Prop) (μ : List Value →
  Heap → Nat), I [Value.int IntKind.u64 (0 : Int), Value.int IntKind.i64 n] H' ∧ ∀ (J : F) (n_1 n_2 : Int) (H' : Heap), I [Value.int IntKind.u64 n_1, Value.int IntKind.i64 n_2] H' → brB
  (decide (n_2 ≥ (0 : Int))) (brB (decide (n_1 > (144115188075855871 : Int))) (R (Value.tuple { toList := [Value.int IntKind.u64 (0 : Int), Value.int IntKind.i64 (0 : Int), Value.int
  IntKind.i64 (11 : Int)] }) H') (chk (decide ((0 : Int) ≤ IntKind.wrap IntKind.i64 (at' + n_2) ∧ IntKind.wrap IntKind.i64 (at' + n_2) < (↑(ByteArray.size s) : Int))) (I [Value.int IntKind.u64
  (IntKind.wrap IntKind.u64 (IntKind.wrap IntKind.u64 (n_1 * (128 : Int)) + IntKind.wrap IntKind.u64 (Int.tmod (↑(atB s (Int.toNat (IntKind.wrap IntKind.i64 (at' + n_2)))) : Int) (128 :
  Int)))), Value.int IntKind.i64 (IntKind.wrap IntKind.i64 (n_2 - (1 : Int)))] H' ∧ μ [Value.int IntKind.u64 (IntKind.wrap IntKind.u64 (IntKind.wrap IntKind.u64 (n_1 * (128 : Int)) +
  IntKind.wrap IntKind.u64 (Int.tmod (↑(atB s (Int.toNat (IntKind.wrap IntKind.i64 (at' + n_2)))) : Int) (128 : Int)))), Value.int IntKind.i64 (IntKind.wrap IntKind.i64 (n_2 - (1 : Int)))] H'
  < μ [Value.int IntKind.u64 n_1, Value.int IntKind.i64 n_2] H'))) (chk (decide ((0 : Int) ≤ at' ∧ at' ≤ IntKind.wrap IntKind.i64 (IntKind.wrap IntKind.i64 (at' + n) + (1 : Int)) ∧
  IntKind.wrap IntKind.i64 (IntKind.wrap IntKind.i64 (at' + n) + (1 : Int)) ≤ (↑(ByteArray.size s) : Int))) (CallH Try.prog (52 : Nat) { toList := [Value.int IntKind.u64 n_1] } H' fun v H' =>
  ∃ s_1, v = Value.string s_1 ∧ brB (!ByteArray.toList s_1 == ByteArray.toList (ByteArray.extract s (Int.toNat at') (Int.toNat (IntKind.wrap IntKind.i64 (IntKind.wrap IntKind.i64 (at' + n) +
  (1 : Int)))))) (R (Value.tuple { toList := [Value.int IntKind.u64 (0 : Int), Value.int IntKind.i64 (0 : Int), Value.int IntKind.i64 (11 : Int)] }) H') (R (Value.tuple { toList := [Value.int
  IntKind.u64 n_1, Value.int IntKind.i64 (IntKind.wrap IntKind.i64 (IntKind.wrap IntKind.i64 (at' + n) + (1 : Int))), Value.int IntKind.i64 (0 : Int)] }) H'))))))) (brB (n == (10 : Int)) (R
  (Value.tuple { toList := [Value.int IntKind.u64 (0 : Int), Value.int IntKind.i64 (0 : Int), Value.int IntKind.i64 (11 : Int)] }) H') (brB (IntKind.wrap IntKind.i64 (at' + n) ==
  (↑(ByteArray.size s) : Int)) (R (Value.tuple { toList := [Value.int IntKind.u64 (0 : Int), Value.int IntKind.i64 (0 : Int), Value.int IntKind.i64 (10 : Int)] }) H') (∃ (I : List Value → Heap
  → Prop) (μ : List Value → Heap → Nat), I [Value.int IntKind.u64 (0 : Int), Value.int IntKind.i64 n] H' ∧ ∀ (J : F) (n_1 n_2 : Int) (H' : Heap), I [Value.int IntKind.u64 n_1, Value.int
  IntKind.i64 n_2] H' → brB (decide (n_2 ≥ (0 : Int))) (brB (decide (n_1 > (144115188075855871 : Int))) (R (Value.tuple { toList := [Value.int IntKind.u64 (0 : Int), Value.int IntKind.i64 (0 :
  Int), Value.int IntKind.i64 (11 : Int)] }) H') (chk (decide ((0 : Int) ≤ IntKind.wrap IntKind.i64 (at' + n_2) ∧ IntKind.wrap IntKind.i64 (at' + n_2) < (↑(ByteArray.size s) : Int))) (I
  [Value.int IntKind.u64 (IntKind.wrap IntKind.u64 (IntKind.wrap IntKind.u64 (n_1 * (128 : Int)) + IntKind.wrap IntKind.u64 (Int.tmod (↑(atB s (Int.toNat (IntKind.wrap IntKind.i64 (at' +
  n_2)))) : Int) (128 : Int)))), Value.int IntKind.i64 (IntKind.wrap IntKind.i64 (n_2 - (1 : Int)))] H' ∧ μ [Value.int IntKind.u64 (IntKind.wrap IntKind.u64 (IntKind.wrap IntKind.u64 (n_1 *
  (128 : Int)) + IntKind.wrap IntKind.u64 (Int.tmod (↑(atB s (Int.toNat (IntKind.wrap IntKind.i64 (at' + n_2)))) : Int) (128 : Int)))), Value.int IntKind.i64 (IntKind.wrap IntKind.i64 (n_2 -
  (1 : Int)))] H' < μ [Value.int IntKind.u64 n_1, Value.int IntKind.i64 n_2] H'))) (chk (decide ((0 : Int) ≤ at' ∧ at' ≤ IntKind.wrap IntKind.i64 (IntKind.wrap IntKind.i64 (at' + n) + (1 :
  Int)) ∧ IntKind.wrap IntKind.i64 (IntKind.wrap IntKind.i64 (at' + n) + (1 : Int)) ≤ (↑(ByteArray.size s) : Int))) (CallH Try.prog (52 : Nat) { toList := [Value.int IntKind.u64 n_1] } H' fun
  v H' => ∃ s_1, v = Value.string s_1 ∧ brB (!ByteArray.toList s_1 == ByteArray.toList (ByteArray.extract s (Int.toNat at') (Int.toNat (IntKind.wrap IntKind.i64 (IntKind.wrap IntKind.i64 (at'
  + n) + (1 : Int)))))) (R (Value.tuple { toList := [Value.int IntKind.u64 (0 : Int), Value.int IntKind.i64 (0 : Int), Value.int IntKind.i64 (11 : Int)] }) H') (R (Value.tuple { toList :=
  [Value.int IntKind.u64 n_1, Value.int IntKind.i64 (IntKind.wrap IntKind.i64 (IntKind.wrap IntKind.i64 (at' + n) + (1 : Int))), Value.int IntKind.i64 (0 : Int)] }) H')))))) ∧ ∀ (J : F) (H'_1
  : Heap), M [] H'_1 → I [Value.int IntKind.i64 (IntKind.wrap IntKind.i64 (n + (1 : Int)))] H'_1 ∧ μ [Value.int IntKind.i64 (IntKind.wrap IntKind.i64 (n + (1 : Int)))] H'_1 < μ [Value.int
  IntKind.i64 n] H') : CallH Try.prog 58 (List.toArray [Value.string s, Value.int IntKind.i64 at']) H R := vc_call (annOf [([1], .cut []), ([0, 0, 1, 1, 1], .cut [(7, .one (.int .i64))]), ([0,
  0, 0, 1, 1, 1], .cut []), ([0, 1, 0, 1, 1, 1, 1, 1, 1, 1], .cut [(8, .one (.int .u64)), (9, .one (.int .i64))]), ([0, 0, 1, 1, 1, 1, 1, 1, 1, 1], .reg [0, 1, 0, 0, 0, 0, 48, 112, 252, 511]
  (.quiet 0 (.quiet 2 (.quiet 3 (.quiet 4 (.quiet 5 (.quiet 6 (.quiet 7 (.quiet 8 (.pick (.alt 1 (.quiet 9 .done) .stop)))))))))))]) followsAll Go.Proofs.Try.func58 rfl Go.Proofs.Try.ntmps58
  rfl rfl (Eq.mpr (by kernel_rfl) h)

/- 59 strandline/strandlineref01.GetText
  slots: [0=s, 1=at, 2=s, 3=at, 7=n, 8=next, 9=e]  -/
abbrev fn_ref01_GetText : Nat := 59
theorem vc_ref01_GetText (s : ByteArray) (at' : Int) (H : Heap) (R : Value → Heap → Prop) (h : CallH Try.prog (58 : Nat) { toList := [Value.string s, Value.int IntKind.i64 at'] } H fun v H'
  => ∃ n n_1 n_2, v = Value.tuple { toList := [Value.int IntKind.u64 n, Value.int IntKind.i64 n_1, Value.int IntKind.i64 n_2] } ∧ brB (n_2 != (0 : Int)) (R (Value.tuple { toList :=
  [Value.string { data := #[] }, Value.int IntKind.i64 (0 : Int), Value.int IntKind.i64 n_2] }) H') (brB (decide (n > IntKind.wrap IntKind.u64 (IntKind.wrap IntKind.i64 ((↑(ByteArray.size s) :
  Int) - n_1)))) (R (Value.tuple { toList := [Value.string { data := #[] }, Value.int IntKind.i64 (0 : Int), Value.int IntKind.i64 (10 : Int)] }) H') (chk (decide ((0 : Int) ≤ n_1 ∧ n_1 ≤
  IntKind.wrap IntKind.i64 (n_1 + IntKind.wrap IntKind.i64 n) ∧ IntKind.wrap IntKind.i64 (n_1 + IntKind.wrap IntKind.i64 n) ≤ (↑(ByteArray.size s) : Int))) (R (Value.tuple { toList :=
  [Value.string (ByteArray.extract s (Int.toNat n_1) (Int.toNat (IntKind.wrap IntKind.i64 (n_1 + IntKind.wrap IntKind.i64 n)))), Value.int IntKind.i64 (IntKind.wrap IntKind.i64 (n_1 +
  IntKind.wrap IntKind.i64 n)), Value.int IntKind.i64 (0 : Int)] }) H')))) : CallH Try.prog 59 (List.toArray [Value.string s, Value.int IntKind.i64 at']) H R := vc_call (annOf []) followsAll
  Go.Proofs.Try.func59 rfl Go.Proofs.Try.ntmps59 rfl rfl (Eq.mpr (by kernel_rfl) h)

/- 60 strandline/strandlineref04.Parse
  slots: [0=s, 1=s, 4=l, 5=at, 6=k, 7=v, 8=n, 9=t, 10=e]  -/
abbrev fn_ref04_Parse : Nat := 60
theorem vc_ref04_Parse (s : ByteArray) (H : Heap) (R : Value → Heap → Prop) (h : ∀ (b : Nat) (H' : Heap), New H b (Obj.cells ⟨[]⟩ (64 : Nat)) H' → brB (ByteArray.toList s == ByteArray.toList
  { data := #[(123 : UInt8), (125 : UInt8)] }) (R (Value.tuple { toList := [Value.slice (some ⟨b, (0 : Nat), none⟩) (0 : Nat) (0 : Nat), Value.int IntKind.i64 (0 : Int)] }) H') (∃ (I : List
  Value → Heap → Prop) (μ : List Value → Heap → Nat), I [Value.slice (some ⟨b, (0 : Nat), none⟩) (0 : Nat) (0 : Nat), Value.int IntKind.i64 (1 : Int)] H' ∧ ∀ (J : F) (a : Option Addr) (n c :
  Nat) (n_1 : Int) (H' : Heap), I [Value.slice a n c, Value.int IntKind.i64 n_1] H' → brB (decide (n_1 < (↑(ByteArray.size s) : Int))) (∃ (I_1 : List Value → Heap → Prop) (μ_1 : List Value →
  Heap → Nat), I_1 [Value.int IntKind.i64 n_1] H' ∧ ∀ (J : F) (n_2 : Int) (H'_1 : Heap), I_1 [Value.int IntKind.i64 n_2] H'_1 → brB (decide (n_2 < (↑(ByteArray.size s) : Int))) (chk (decide
  ((0 : Int) ≤ n_2 ∧ n_2 < (↑(ByteArray.size s) : Int))) (brB ((↑(atB s (Int.toNat n_2)) : Int) != (61 : Int)) (I_1 [Value.int IntKind.i64 (IntKind.wrap IntKind.i64 (n_2 + (1 : Int)))] H'_1 ∧
  μ_1 [Value.int IntKind.i64 (IntKind.wrap IntKind.i64 (n_2 + (1 : Int)))] H'_1 < μ_1 [Value.int IntKind.i64 n_2] H'_1) (brB (n_2 == (↑(ByteArray.size s) : Int)) (R (Value.tuple { toList :=
  [Value.slice none (0 : Nat) (0 : Nat), Value.int IntKind.i64 (11 : Int)] }) H'_1) (chk (decide ((0 : Int) ≤ IntKind.wrap IntKind.i64 (n_2 + (1 : Int)) ∧ IntKind.wrap IntKind.i64 (n_2 + (1 :
  Int)) ≤ (↑(ByteArray.size s) : Int) ∧ (↑(ByteArray.size s) : Int) ≤ (↑(ByteArray.size s) : Int))) (CallH Try.prog (87 : Nat) { toList := [Value.string (ByteArray.extract s (Int.toNat
  (IntKind.wrap IntKind.i64 (n_2 + (1 : Int)))) (Int.toNat (↑(ByteArray.size s) : Int)))] } H'_1 fun v H'_2 => ∃ s_1 n_3, v = Value.tuple { toList := [Value.string s_1, Value.int IntKind.i64
  n_3] } ∧ brB (n_3 == (0 : Int)) (R (Value.tuple { toList := [Value.slice none (0 : Nat) (0 : Nat), Value.int IntKind.i64 (11 : Int)] }) H'_2) (chk (decide ((0 : Int) ≤ n_1 ∧ n_1 ≤ n_2 ∧ n_2
  ≤ (↑(ByteArray.size s) : Int))) (∀ (b : Nat) (H'_3 : Heap), New H'_2 b (Obj.cells { toList := [Value.string (ByteArray.extract s (Int.toNat n_1) (Int.toNat n_2)), Value.string s_1] } (64 :
  Nat)) H'_3 → SemWp Try.prog (Builtin.append_ { toList := [(23 : Nat), (23 : Nat)] } (23 : Nat) { toList := [Value.slice a n c, Value.slice (some ⟨b, (0 : Nat), none⟩) (1 : Nat) (1 : Nat)] })
  H'_3 fun v H'_4 => ∃ a_4 n_4 c_1, v = Value.slice a_4 n_4 c_1 ∧ I [Value.slice a_4 n_4 c_1, Value.int IntKind.i64 (IntKind.wrap IntKind.i64 (IntKind.wrap IntKind.i64 (IntKind.wrap
  IntKind.i64 (n_2 + (1 : Int)) + n_3) + (1 : Int)))] H'_4 ∧ μ [Value.slice a_4 n_4 c_1, Value.int IntKind.i64 (IntKind.wrap IntKind.i64 (IntKind.wrap IntKind.i64 (IntKind.wrap IntKind.i64
  (n_2 + (1 : Int)) + n_3) + (1 : Int)))] H'_4 < μ [Value.slice a n c, Value.int IntKind.i64 n_1] H'))))))) (brB (n_2 == (↑(ByteArray.size s) : Int)) (R (Value.tuple { toList := [Value.slice
  none (0 : Nat) (0 : Nat), Value.int IntKind.i64 (11 : Int)] }) H'_1) (chk (decide ((0 : Int) ≤ IntKind.wrap IntKind.i64 (n_2 + (1 : Int)) ∧ IntKind.wrap IntKind.i64 (n_2 + (1 : Int)) ≤
  (↑(ByteArray.size s) : Int) ∧ (↑(ByteArray.size s) : Int) ≤ (↑(ByteArray.size s) : Int))) (CallH Try.prog (87 : Nat) { toList := [Value.string (ByteArray.extract s (Int.toNat (IntKind.wrap
  IntKind.i64 (n_2 + (1 : Int)))) (Int.toNat (↑(ByteArray.size s) : Int)))] } H'_1 fun v H'_2 => ∃ s_1 n_3, v = Value.tuple { toList := [Value.string s_1, Value.int IntKind.i64 n_3] } ∧ brB
  (n_3 == (0 : Int)) (R (Value.tuple { toList := [Value.slice none (0 : Nat) (0 : Nat), Value.int IntKind.i64 (11 : Int)] }) H'_2) (chk (decide ((0 : Int) ≤ n_1 ∧ n_1 ≤ n_2 ∧ n_2 ≤
  (↑(ByteArray.size s) : Int))) (∀ (b : Nat) (H'_3 : Heap), New H'_2 b (Obj.cells { toList := [Value.string (ByteArray.extract s (Int.toNat n_1) (Int.toNat n_2)), Value.string s_1] } (64 :
  Nat)) H'_3 → SemWp Try.prog (Builtin.append_ { toList := [(23 : Nat), (23 : Nat)] } (23 : Nat) { toList := [Value.slice a n c, Value.slice (some ⟨b, (0 : Nat), none⟩) (1 : Nat) (1 : Nat)] })
  H'_3 fun v H'_4 => ∃ a_4 n_4 c_1, v = Value.slice a_4 n_4 c_1 ∧ I [Value.slice a_4 n_4 c_1, Value.int IntKind.i64 (IntKind.wrap IntKind.i64 (IntKind.wrap IntKind.i64 (IntKind.wrap
  IntKind.i64 (n_2 + (1 : Int)) + n_3) + (1 : Int)))] H'_4 ∧ μ [Value.slice a_4 n_4 c_1, Value.int IntKind.i64 (IntKind.wrap IntKind.i64 (IntKind.wrap IntKind.i64 (IntKind.wrap IntKind.i64
  (n_2 + (1 : Int)) + n_3) + (1 : Int)))] H'_4 < μ [Value.slice a n c, Value.int IntKind.i64 n_1] H')))))) (CallH Try.prog (53 : Nat) { toList := [Value.slice a n c] } H' fun v H' => ∃ s_1
  n_2, v = Value.tuple { toList := [Value.string s_1, Value.int IntKind.i64 n_2] } ∧ brB (n_2 != (0 : Int)) (R (Value.tuple { toList := [Value.slice none (0 : Nat) (0 : Nat), Value.int
  IntKind.i64 (11 : Int)] }) H') (brB (!ByteArray.toList s_1 == ByteArray.toList s) (R (Value.tuple { toList := [Value.slice none (0 : Nat) (0 : Nat), Value.int IntKind.i64 (11 : Int)] }) H')
  (R (Value.tuple { toList := [Value.slice a n c, Value.int IntKind.i64 (0 : Int)] }) H'))))) : CallH Try.prog 60 (List.toArray [Value.string s]) H R := vc_call (annOf [([0, 1, 0, 1, 1, 1],
  .cut [(4, .one .slice), (5, .one (.int .i64))]), ([0, 0, 1, 0, 1, 0, 0, 1, 0, 1, 1, 1], .cut [(6, .one (.int .i64))])]) followsAll Go.Proofs.Try.func60 rfl Go.Proofs.Try.ntmps60 rfl rfl
  (Eq.mpr (by kernel_rfl) h)

/- 61 strandline/strandlineref07.put
  slots: [0=l, 1=s, 2=l, 3=s, 5=out, 6=done, 7=i]  -/
abbrev fn_ref07_put : Nat := 61
theorem vc_ref07_put (l_a : Option Addr) (l_n : Nat) (l_c : Nat) (s : ByteArray) (H : Heap) (R : Value → Heap → Prop) (h : ∀ (b : Nat) (H' : Heap), New H b (Obj.cells ⟨[]⟩ (9 : Nat)) H' → ∃
  (I : List Value → Heap → Prop) (μ : List Value → Heap → Nat), I [Value.slice (some ⟨b, (0 : Nat), none⟩) (0 : Nat) (0 : Nat), Value.bool false, Value.int IntKind.i64 (0 : Int)] H' ∧ ∀ (J :
  F) (a : Option Addr) (n c : Nat) (b : Bool) (n_1 : Int) (H' : Heap), I [Value.slice a n c, Value.bool b, Value.int IntKind.i64 n_1] H' → brB (decide (n_1 < (↑l_n : Int))) (∃ (M : List Value
  → Heap → Prop), (exSome l_a fun ad => chk (decide ((0 : Int) ≤ n_1 ∧ n_1 < (↑l_n : Int))) (∃ s_1, Ld Try.prog (9 : Nat) H' (Addr.add ad (Int.toNat n_1 * (1 : Nat))) (Value.string s_1) ∧ brB
  (ByteArray.toList s_1 == ByteArray.toList s) (R (Value.slice l_a l_n l_c) H') (∃ (M_1 : List Value → Heap → Prop), (∃ (M : List Value → Heap → Prop), brB (!b) (exSome l_a fun ad => chk
  (decide ((0 : Int) ≤ n_1 ∧ n_1 < (↑l_n : Int))) (∃ s_2, Ld Try.prog (9 : Nat) H' (Addr.add ad (Int.toNat n_1 * (1 : Nat))) (Value.string s_2) ∧ M [Value.bool (Op.bytesLess (ByteArray.toList
  s) (ByteArray.toList s_2))] H')) (M [Value.bool false] H') ∧ ∀ (J : F) (b_1 : Bool) (H' : Heap), M [Value.bool b_1] H' → brB b_1 (∀ (b : Nat) (H'_1 : Heap), New H' b (Obj.cells { toList :=
  [Value.string s] } (9 : Nat)) H'_1 → SemWp Try.prog (Builtin.append_ { toList := [(45 : Nat), (45 : Nat)] } (45 : Nat) { toList := [Value.slice a n c, Value.slice (some ⟨b, (0 : Nat), none⟩)
  (1 : Nat) (1 : Nat)] }) H'_1 fun v H' => ∃ a n c, v = Value.slice a n c ∧ M_1 [Value.slice a n c, Value.bool true] H') (M_1 [Value.slice a n c, Value.bool b] H')) ∧ ∀ (J : F) (a : Option
  Addr) (n c : Nat) (b : Bool) (H' : Heap), M_1 [Value.slice a n c, Value.bool b] H' → exSome l_a fun ad => chk (decide ((0 : Int) ≤ n_1 ∧ n_1 < (↑l_n : Int))) (∃ s, Ld Try.prog (9 : Nat) H'
  (Addr.add ad (Int.toNat n_1 * (1 : Nat))) (Value.string s) ∧ ∀ (b_1 : Nat) (H'_1 : Heap), New H' b_1 (Obj.cells { toList := [Value.string s] } (9 : Nat)) H'_1 → SemWp Try.prog
  (Builtin.append_ { toList := [(45 : Nat), (45 : Nat)] } (45 : Nat) { toList := [Value.slice a n c, Value.slice (some ⟨b_1, (0 : Nat), none⟩) (1 : Nat) (1 : Nat)] }) H'_1 fun v H' => ∃ a n c,
  v = Value.slice a n c ∧ M [Value.slice a n c, Value.bool b] H')))) ∧ ∀ (J : F) (a_2 : Option Addr) (n_2 c_1 : Nat) (b_1 : Bool) (H'_1 : Heap), M [Value.slice a_2 n_2 c_1, Value.bool b_1]
  H'_1 → I [Value.slice a_2 n_2 c_1, Value.bool b_1, Value.int IntKind.i64 (IntKind.wrap IntKind.i64 (n_1 + (1 : Int)))] H'_1 ∧ μ [Value.slice a_2 n_2 c_1, Value.bool b_1, Value.int
  IntKind.i64 (IntKind.wrap IntKind.i64 (n_1 + (1 : Int)))] H'_1 < μ [Value.slice a n c, Value.bool b, Value.int IntKind.i64 n_1] H') (brB (!b) (∀ (b : Nat) (H'_1 : Heap), New H' b (Obj.cells
  { toList := [Value.string s] } (9 : Nat)) H'_1 → SemWp Try.prog (Builtin.append_ { toList := [(45 : Nat), (45 : Nat)] } (45 : Nat) { toList := [Value.slice a n c, Value.slice (some ⟨b, (0 :
  Nat), none⟩) (1 : Nat) (1 : Nat)] }) H'_1 fun v H' => ∃ a n c, v = Value.slice a n c ∧ R (Value.slice a n c) H') (R (Value.slice a n c) H'))) : CallH Try.prog 61 (List.toArray [Value.slice
  l_a l_n l_c, Value.string s]) H R := vc_call (annOf [([0, 1, 0, 1, 1, 1], .cut [(5, .one .slice), (6, .one .bool), (7, .one (.int .i64))]), ([1, 0, 0, 1, 0, 1, 1, 1], .cut [(5, .one .slice),
  (6, .one .bool)]), ([1, 0, 0, 1, 0, 0, 1, 0, 1, 1, 1], .cut [(5, .one .slice), (6, .one .bool)]), ([0, 1, 0, 0, 1, 0, 0, 1, 0, 1, 1, 1], .cut [(31, .one .bool)])]) followsAll
  Go.Proofs.Try.func61 rfl Go.Proofs.Try.ntmps61 rfl rfl (Eq.mpr (by kernel_rfl) h)

/- 62 slices.Sort[[]string,string]
  slots: [0=x, 1=x, 2=n]  -/
abbrev fn_slices_Sort___string_string_ : Nat := 62
theorem vc_slices_Sort___string_string_ (x_a : Option Addr) (x_n : Nat) (x_c : Nat) (H : Heap) (R : Value → Heap → Prop) (h : CallH Try.prog (89 : Nat) { toList := [Value.int IntKind.u64
  (IntKind.wrap IntKind.u64 (↑x_n : Int))] } H fun v H' => ∃ n, v = Value.int IntKind.i64 n ∧ CallH Try.prog (88 : Nat) { toList := [Value.slice x_a x_n x_c, Value.int IntKind.i64 (0 : Int),
  Value.int IntKind.i64 (↑x_n : Int), Value.int IntKind.i64 n] } H' fun v H' => v = Value.tuple ⟨[]⟩ ∧ R (Value.tuple ⟨[]⟩) H') : CallH Try.prog 62 (List.toArray [Value.slice x_a x_n x_c]) H R
  := vc_call (annOf []) followsAll Go.Proofs.Try.func62 rfl Go.Proofs.Try.ntmps62 rfl rfl (Eq.mpr (by kernel_rfl) h)

/- 63 strandline/strandlineref04.Get
  slots: [0=l, 1=name, 2=l, 3=name, 5=i]  -/
abbrev fn_ref04_Get : Nat := 63
theorem vc_ref04_Get (l_a : Option Addr) (l_n : Nat) (l_c : Nat) (name : ByteArray) (H : Heap) (R : Value → Heap → Prop) (h : ∃ (I : List Value → Heap → Prop) (μ : List Value → Heap → Nat),
  I [Value.int IntKind.i64 (0 : Int)] H ∧ ∀ (J : F) (n : Int) (H' : Heap), I [Value.int IntKind.i64 n] H' → brB (decide (n < (↑l_n : Int))) (exSome l_a fun ad => chk (decide ((0 : Int) ≤ n ∧ n
  < (↑l_n : Int))) (∃ s, Ld Try.prog (9 : Nat) H' (Addr.add ad (Int.toNat n * (2 : Nat))) (Value.string s) ∧ brB (ByteArray.toList s == ByteArray.toList name) (exSome l_a fun ad => chk (decide
  ((0 : Int) ≤ n ∧ n < (↑l_n : Int))) (∃ s, Ld Try.prog (9 : Nat) H' (Addr.add (Addr.add ad (Int.toNat n * (2 : Nat))) (1 : Nat)) (Value.string s) ∧ R (Value.string s) H')) (I [Value.int
  IntKind.i64 (IntKind.wrap IntKind.i64 (n + (1 : Int)))] H' ∧ μ [Value.int IntKind.i64 (IntKind.wrap IntKind.i64 (n + (1 : Int)))] H' < μ [Value.int IntKind.i64 n] H'))) (R (Value.string {
  data := #[] }) H')) : CallH Try.prog 63 (List.toArray [Value.slice l_a l_n l_c, Value.string name]) H R := vc_call (annOf [([0, 1, 0, 1], .cut [(5, .one (.int .i64))])]) followsAll
  Go.Proofs.Try.func63 rfl Go.Proofs.Try.ntmps63 rfl rfl (Eq.mpr (by kernel_rfl) h)

/- 64 strandline/label.Check
  slots: [0=l, 1=l, 3=last, 4=_, 5=x]  -/
abbrev fn_label_Check : Nat := 64
theorem vc_label_Check (l_a : Option Addr) (l_n : Nat) (l_c : Nat) (H : Heap) (R : Value → Heap → Prop) (h : ∃ (I : List Value → Heap → Prop) (μ : List Value → Heap → Nat), I [Value.string {
  data := #[] }, Value.int IntKind.i64 (0 : Int)] H ∧ ∀ (J : F) (s : ByteArray) (n : Int) (H' : Heap), I [Value.string s, Value.int IntKind.i64 n] H' → brB (decide (n < (↑l_n : Int))) (exSome
  l_a fun ad => chk (decide ((0 : Int) ≤ n ∧ n < (↑l_n : Int))) (∃ s_1 s_2, Ld Try.prog (64 : Nat) H' (Addr.add ad (Int.toNat n * (2 : Nat))) (Value.agg { toList := [Value.string s_1,
  Value.string s_2] }) ∧ ∀ (b : Nat) (H'_1 : Heap), New H' b (Obj.cells { toList := [Value.string { data := #[] }, Value.string { data := #[] }] } (64 : Nat)) H'_1 → ∃ H'_2, St Try.prog (64 :
  Nat) H'_1 ⟨b, (0 : Nat), none⟩ (Value.agg { toList := [Value.string s_1, Value.string s_2] }) H'_2 ∧ ∃ (M : List Value → Heap → Prop), (∃ s_3, Ld Try.prog (9 : Nat) H'_2 ⟨b, (0 : Nat), none⟩
  (Value.string s_3) ∧ CallH Try.prog (67 : Nat) { toList := [Value.string s_3] } H'_2 fun v H' => ∃ b_1, v = Value.bool b_1 ∧ brB (!b_1) (R (Value.int IntKind.i64 (40 : Int)) H') (∃ s_4, Ld
  Try.prog (9 : Nat) H' ⟨b, (0 : Nat), none⟩ (Value.string s_4) ∧ brB (Op.bytesLess (ByteArray.toList s_4) (ByteArray.toList s) || ByteArray.toList s_4 == ByteArray.toList s) (R (Value.int
  IntKind.i64 (40 : Int)) H') (∃ s, Ld Try.prog (9 : Nat) H' ⟨b, (1 : Nat), none⟩ (Value.string s) ∧ brB (ByteArray.toList s == ByteArray.toList { data := #[] }) (R (Value.int IntKind.i64 (40
  : Int)) H') (∃ s, Ld Try.prog (9 : Nat) H' ⟨b, (1 : Nat), none⟩ (Value.string s) ∧ CallH Try.prog (69 : Nat) { toList := [Value.string s] } H' fun v H' => ∃ b, v = Value.bool b ∧ brB (!b) (R
  (Value.int IntKind.i64 (40 : Int)) H') (M [] H'))))) ∧ ∀ (J : F) (H'_3 : Heap), M [] H'_3 → ∃ s_3, Ld Try.prog (9 : Nat) H'_3 ⟨b, (0 : Nat), none⟩ (Value.string s_3) ∧ I [Value.string s_3,
  Value.int IntKind.i64 (IntKind.wrap IntKind.i64 (n + (1 : Int)))] H'_3 ∧ μ [Value.string s_3, Value.int IntKind.i64 (IntKind.wrap IntKind.i64 (n + (1 : Int)))] H'_3 < μ [Value.string s,
  Value.int IntKind.i64 n] H')) (brB (decide ((↑l_n : Int) > (8 : Int))) (R (Value.int IntKind.i64 (40 : Int)) H') (R (Value.int IntKind.i64 (0 : Int)) H'))) : CallH Try.prog 64 (List.toArray
  [Value.slice l_a l_n l_c]) H R := vc_call (annOf [([0, 1, 0, 1, 1], .cut [(3, .one .str), (8, .one (.int .i64))]), ([1, 0, 0, 1, 1, 0, 0, 1, 0, 1, 1], .cut [])]) followsAll
  Go.Proofs.Try.func64 rfl Go.Proofs.Try.ntmps64 rfl rfl (Eq.mpr (by kernel_rfl) h)

/- 65 (*strings.Builder).WriteString
  slots: [0=b, 1=s, 2=b, 3=s]  -/
abbrev fn_strings_Builder_WriteString : Nat := 65
theorem vc_strings_Builder_WriteString (b : Addr) (s : ByteArray) (H : Heap) (R : Value → Heap → Prop) (h : CallH Try.prog (90 : Nat) { toList := [Value.pointer (some b)] } H fun v H' => v =
  Value.tuple ⟨[]⟩ ∧ ∃ a n c, Ld Try.prog (96 : Nat) H' (Addr.add b (1 : Nat)) (Value.slice a n c) ∧ SemWp Try.prog (Builtin.append_ { toList := [(96 : Nat), (9 : Nat)] } (96 : Nat) { toList
  := [Value.slice a n c, Value.string s] }) H' fun v H' => ∃ a n c, v = Value.slice a n c ∧ ∃ H'_1, St Try.prog (96 : Nat) H' (Addr.add b (1 : Nat)) (Value.slice a n c) H'_1 ∧ R (Value.tuple {
  toList := [Value.int IntKind.i64 (↑(ByteArray.size s) : Int), Value.nilIface] }) H'_1) : CallH Try.prog 65 (List.toArray [Value.pointer (some b), Value.string s]) H R := vc_call (annOf [])
  followsAll Go.Proofs.Try.func65 rfl Go.Proofs.Try.ntmps65 rfl rfl (Eq.mpr (by kernel_rfl) h)

/- 66 (*strings.Builder).String
  slots: [0=b, 1=b]  -/
abbrev fn_strings_Builder_String : Nat := 66
theorem vc_strings_Builder_String (b : Addr) (H : Heap) (R : Value → Heap → Prop) (h : ∃ a n c, Ld Try.prog (96 : Nat) H (Addr.add b (1 : Nat)) (Value.slice a n c) ∧ ∃ a_1 n_1 c_1, Ld
  Try.prog (96 : Nat) H (Addr.add b (1 : Nat)) (Value.slice a_1 n_1 c_1) ∧ SemWp Try.prog (Builtin.unsafeSliceData_ { toList := [(96 : Nat)] } (121 : Nat) { toList := [Value.slice a n c] }) H
  fun v H' => ∃ a, v = Value.pointer a ∧ Ld Try.prog (96 : Nat) H' (Addr.add b (1 : Nat)) (Value.slice a_1 n_1 c_1) ∧ SemWp Try.prog (Builtin.unsafeString_ { toList := [(121 : Nat), (3 : Nat)]
  } (9 : Nat) { toList := [Value.pointer a, Value.int IntKind.i64 (↑n_1 : Int)] }) H' fun v H' => ∃ s, v = Value.string s ∧ R (Value.string s) H') : CallH Try.prog 66 (List.toArray
  [Value.pointer (some b)]) H R := vc_call (annOf [([0, 1], .reg [0, 1, 3, 7, 15, 0, 32, 96, 224, 480, 1023, 2047] (.quiet 0 (.quiet 1 (.quiet 2 (.quiet 3 (.quiet 5 (.quiet 6 (.quiet 7 (.quiet
  8 (.quiet 9 (.pick (.alt 4 (.pick (.alt 10 (.quiet 11 .done) .stop)) .stop))))))))))))]) followsAll Go.Proofs.Try.func66 rfl Go.Proofs.Try.ntmps66 rfl rfl (Eq.mpr (by kernel_rfl) h)

/- 67 strandline/label.Name
  slots: [0=s, 1=s, 3=i, 4=r, 5=low]  -/
abbrev fn_label_Name : Nat := 67
theorem vc_label_Name (s : ByteArray) (H : Heap) (R : Value → Heap → Prop) (h : ∃ (M : List Value → Heap → Prop), brB (ByteArray.toList s == ByteArray.toList { data := #[] }) (R (Value.bool
  false) H) (brB (decide ((↑(ByteArray.size s) : Int) > (16 : Int))) (R (Value.bool false) H) (M [] H)) ∧ ∀ (J : F) (H' : Heap), M [] H' → SemWp Try.prog (Instr.range (9 : Nat) (Value.string
  s)) H' fun v H' => ∃ a, v = Value.pointer a ∧ ∃ (I : List Value → Heap → Prop) (μ : List Value → Heap → Nat), I [] H' ∧ ∀ (J : F) (H' : Heap), I [] H' → SemWp Try.prog (Instr.next
  (Value.pointer a) true (0 : Nat)) H' fun v H'_1 => v = Value.tuple { toList := [Value.bool false] } ∧ R (Value.bool true) H'_1 ∨ ∃ k x, v = Value.tuple { toList := [Value.bool true, k, x] }
  ∧ ∃ n, k = Value.int IntKind.i64 n ∧ ∃ n_1, x = Value.int IntKind.i32 n_1 ∧ ∃ (M : List Value → Heap → Prop), brB (decide ((97 : Int) ≤ n_1)) (M [Value.bool (decide (n_1 ≤ (122 : Int)))]
  H'_1) (M [Value.bool false] H'_1) ∧ ∀ (J : F) (b : Bool) (H'_2 : Heap), M [Value.bool b] H'_2 → brB (!b) (brB (n == (0 : Int)) (R (Value.bool false) H'_2) (brB (n_1 != (95 : Int)) (brB
  (decide (n_1 < (48 : Int))) (R (Value.bool false) H'_2) (brB (decide ((57 : Int) < n_1)) (R (Value.bool false) H'_2) (I [] H'_2 ∧ μ [] H'_2 < μ [] H'))) (I [] H'_2 ∧ μ [] H'_2 < μ [] H')))
  (I [] H'_2 ∧ μ [] H'_2 < μ [] H')) : CallH Try.prog 67 (List.toArray [Value.string s]) H R := vc_call (annOf [([1], .cut []), ([0, 1, 0, 1, 1], .cut []), ([0, 0, 1, 1, 0, 0, 1, 0, 1, 1],
  .ext), ([1, 0, 1, 1, 0, 0, 1, 0, 1, 1], .cut [(5, .one .bool)])]) followsAll Go.Proofs.Try.func67 rfl Go.Proofs.Try.ntmps67 rfl rfl (Eq.mpr (by kernel_rfl) h)

/- 68 strandline/match.rising
  slots: [0=l, 1=l, 3=i, 4=v]  -/
abbrev fn_match_rising : Nat := 68
theorem vc_match_rising (l_a : Option Addr) (l_n : Nat) (l_c : Nat) (H : Heap) (R : Value → Heap → Prop) (h : ∃ (I : List Value → Heap → Prop) (μ : List Value → Heap → Nat), I [Value.int
  IntKind.i64 (0 : Int)] H ∧ ∀ (J : F) (n : Int) (H' : Heap), I [Value.int IntKind.i64 n] H' → brB (decide (n < (↑l_n : Int))) (exSome l_a fun ad => chk (decide ((0 : Int) ≤ n ∧ n < (↑l_n :
  Int))) (∃ s, Ld Try.prog (9 : Nat) H' (Addr.add ad (Int.toNat n * (1 : Nat))) (Value.string s) ∧ CallH Try.prog (69 : Nat) { toList := [Value.string s] } H' fun v H'_1 => ∃ b, v = Value.bool
  b ∧ brB (!b) (R (Value.bool false) H'_1) (brB (decide (n > (0 : Int))) (exSome l_a fun ad => chk (decide ((0 : Int) ≤ IntKind.wrap IntKind.i64 (n - (1 : Int)) ∧ IntKind.wrap IntKind.i64 (n -
  (1 : Int)) < (↑l_n : Int))) (∃ s_1, Ld Try.prog (9 : Nat) H'_1 (Addr.add ad (Int.toNat (IntKind.wrap IntKind.i64 (n - (1 : Int))) * (1 : Nat))) (Value.string s_1) ∧ brB (Op.bytesLess
  (ByteArray.toList s) (ByteArray.toList s_1) || ByteArray.toList s == ByteArray.toList s_1) (R (Value.bool false) H'_1) (I [Value.int IntKind.i64 (IntKind.wrap IntKind.i64 (n + (1 : Int)))]
  H'_1 ∧ μ [Value.int IntKind.i64 (IntKind.wrap IntKind.i64 (n + (1 : Int)))] H'_1 < μ [Value.int IntKind.i64 n] H'))) (I [Value.int IntKind.i64 (IntKind.wrap IntKind.i64 (n + (1 : Int)))]
  H'_1 ∧ μ [Value.int IntKind.i64 (IntKind.wrap IntKind.i64 (n + (1 : Int)))] H'_1 < μ [Value.int IntKind.i64 n] H')))) (R (Value.bool true) H')) : CallH Try.prog 68 (List.toArray [Value.slice
  l_a l_n l_c]) H R := vc_call (annOf [([0, 1, 0, 1], .cut [(7, .one (.int .i64))])]) followsAll Go.Proofs.Try.func68 rfl Go.Proofs.Try.ntmps68 rfl rfl (Eq.mpr (by kernel_rfl) h)

/- 69 strandline/label.Value
  slots: [0=s, 1=s, 3=wide, 4=_, 5=r]  -/
abbrev fn_label_Value : Nat := 69
theorem vc_label_Value (s : ByteArray) (H : Heap) (R : Value → Heap → Prop) (h : brB (decide ((↑(ByteArray.size s) : Int) > (32 : Int))) (R (Value.bool false) H) (SemWp Try.prog (Instr.range
  (9 : Nat) (Value.string s)) H fun v H' => ∃ a, v = Value.pointer a ∧ ∃ (I : List Value → Heap → Prop) (μ : List Value → Heap → Nat), I [Value.int IntKind.i64 (0 : Int)] H' ∧ ∀ (J : F) (n :
  Int) (H' : Heap), I [Value.int IntKind.i64 n] H' → SemWp Try.prog (Instr.next (Value.pointer a) true (0 : Nat)) H' fun v H'_1 => v = Value.tuple { toList := [Value.bool false] } ∧ R
  (Value.bool (n == (↑(ByteArray.size s) : Int))) H'_1 ∨ ∃ k x, v = Value.tuple { toList := [Value.bool true, k, x] } ∧ ∃ n_1, x = Value.int IntKind.i32 n_1 ∧ CallH Try.prog (91 : Nat) {
  toList := [Value.int IntKind.i32 n_1] } H'_1 fun v H'_2 => ∃ n_2, v = Value.int IntKind.i64 n_2 ∧ I [Value.int IntKind.i64 (IntKind.wrap IntKind.i64 (n + n_2))] H'_2 ∧ μ [Value.int
  IntKind.i64 (IntKind.wrap IntKind.i64 (n + n_2))] H'_2 < μ [Value.int IntKind.i64 n] H')) : CallH Try.prog 69 (List.toArray [Value.string s]) H R := vc_call (annOf [([0, 1, 0, 1, 1, 1], .cut
  [(3, .one (.int .i64))]), ([0, 0, 1, 1, 0, 0, 1, 0, 1, 1, 1], .ext)]) followsAll Go.Proofs.Try.func69 rfl Go.Proofs.Try.ntmps69 rfl rfl (Eq.mpr (by kernel_rfl) h)

/- 70 strandline/post.merge[int]
  slots: [0=a, 1=b, 2=wish, 3=a, 4=b, 5=wish, 7=out, 8=first, 9=second, 10=x]  -/
abbrev fn_post_merge_int_ : Nat := 70
theorem vc_post_merge_int_ (a_a : Option Addr) (a_n : Nat) (a_c : Nat) (b_a : Option Addr) (b_n : Nat) (b_c : Nat) (wish : Value) (H : Heap) (R : Value → Heap → Prop) (h : ∃ (I : List Value
  → Heap → Prop) (μ : List Value → Heap → Nat), I [Value.slice a_a a_n a_c, Value.slice b_a b_n b_c, Value.slice none (0 : Nat) (0 : Nat)] H ∧ ∀ (J : F) (a : Option Addr) (n c : Nat) (a_1 :
  Option Addr) (n_1 c_1 : Nat) (a_2 : Option Addr) (n_2 c_2 : Nat) (H' : Heap), I [Value.slice a n c, Value.slice a_1 n_1 c_1, Value.slice a_2 n_2 c_2] H' → ∃ (M : List Value → Heap → Prop),
  brB (decide ((↑n : Int) > (0 : Int))) (M [] H') (brB (decide ((↑n_1 : Int) > (0 : Int))) (M [] H') (R (Value.slice a_2 n_2 c_2) H')) ∧ ∀ (J : F) (H'_1 : Heap), M [] H'_1 → ∃ (M : List Value
  → Heap → Prop), brB ((↑n_1 : Int) == (0 : Int)) (M [Value.bool true] H'_1) (brB (decide ((↑n : Int) > (0 : Int))) (exSome a fun ad => chk (decide ((0 : Int) ≤ (0 : Int) ∧ (0 : Int) < (↑n :
  Int))) (∃ n, Ld Try.prog (3 : Nat) H'_1 ad (Value.int IntKind.i64 n) ∧ exSome a_1 fun ad => chk (decide ((0 : Int) ≤ (0 : Int) ∧ (0 : Int) < (↑n_1 : Int))) (∃ n_3, Ld Try.prog (3 : Nat) H'_1
  ad (Value.int IntKind.i64 n_3) ∧ M [Value.bool (decide (n ≤ n_3))] H'_1))) (M [Value.bool false] H'_1)) ∧ ∀ (J : F) (b : Bool) (H'_2 : Heap), M [Value.bool b] H'_2 → ∃ (M : List Value → Heap
  → Prop), brB ((↑n : Int) == (0 : Int)) (M [Value.bool true] H'_2) (brB (decide ((↑n_1 : Int) > (0 : Int))) (exSome a_1 fun ad => chk (decide ((0 : Int) ≤ (0 : Int) ∧ (0 : Int) < (↑n_1 :
  Int))) (∃ n_3, Ld Try.prog (3 : Nat) H'_2 ad (Value.int IntKind.i64 n_3) ∧ exSome a fun ad => chk (decide ((0 : Int) ≤ (0 : Int) ∧ (0 : Int) < (↑n : Int))) (∃ n, Ld Try.prog (3 : Nat) H'_2
  ad (Value.int IntKind.i64 n) ∧ M [Value.bool (decide (n_3 ≤ n))] H'_2))) (M [Value.bool false] H'_2)) ∧ ∀ (J : F) (b_1 : Bool) (H'_3 : Heap), M [Value.bool b_1] H'_3 → brB b (exSome a fun ad
  => chk (decide ((0 : Int) ≤ (0 : Int) ∧ (0 : Int) < (↑n : Int))) (∃ n_3, Ld Try.prog (3 : Nat) H'_3 ad (Value.int IntKind.i64 n_3) ∧ chk (decide ((0 : Int) ≤ (1 : Int) ∧ (1 : Int) ≤ (↑n :
  Int) ∧ (↑n : Int) ≤ (↑c : Int))) (brB b_1 (exSome a_1 fun ad => chk (decide ((0 : Int) ≤ (0 : Int) ∧ (0 : Int) < (↑n_1 : Int))) (∃ n_4, Ld Try.prog (3 : Nat) H'_3 ad (Value.int IntKind.i64
  n_4) ∧ chk (decide ((0 : Int) ≤ (1 : Int) ∧ (1 : Int) ≤ (↑n_1 : Int) ∧ (↑n_1 : Int) ≤ (↑c_1 : Int))) (CallV Try.prog wish [Value.bool b, Value.bool b_1] H'_3 fun v H'_4 => ∃ b, v =
  Value.bool b ∧ brB b (∀ (b : Nat) (H'_5 : Heap), New H'_4 b (Obj.cells { toList := [Value.int IntKind.i64 n_4] } (3 : Nat)) H'_5 → SemWp Try.prog (Builtin.append_ { toList := [(40 : Nat),
  (40 : Nat)] } (40 : Nat) { toList := [Value.slice a_2 n_2 c_2, Value.slice (some ⟨b, (0 : Nat), none⟩) (1 : Nat) (1 : Nat)] }) H'_5 fun v H'_6 => ∃ a_8 n_5 c_3, v = Value.slice a_8 n_5 c_3 ∧
  I [Value.slice (slA c (1 : Nat) (1 : Nat) a) (Int.toNat (↑n : Int) - (1 : Nat)) (c - (1 : Nat)), Value.slice (slA c_1 (1 : Nat) (1 : Nat) a_1) (Int.toNat (↑n_1 : Int) - (1 : Nat)) (c_1 - (1
  : Nat)), Value.slice a_8 n_5 c_3] H'_6 ∧ μ [Value.slice (slA c (1 : Nat) (1 : Nat) a) (Int.toNat (↑n : Int) - (1 : Nat)) (c - (1 : Nat)), Value.slice (slA c_1 (1 : Nat) (1 : Nat) a_1)
  (Int.toNat (↑n_1 : Int) - (1 : Nat)) (c_1 - (1 : Nat)), Value.slice a_8 n_5 c_3] H'_6 < μ [Value.slice a n c, Value.slice a_1 n_1 c_1, Value.slice a_2 n_2 c_2] H') (I [Value.slice (slA c (1
  : Nat) (1 : Nat) a) (Int.toNat (↑n : Int) - (1 : Nat)) (c - (1 : Nat)), Value.slice (slA c_1 (1 : Nat) (1 : Nat) a_1) (Int.toNat (↑n_1 : Int) - (1 : Nat)) (c_1 - (1 : Nat)), Value.slice a_2
  n_2 c_2] H'_4 ∧ μ [Value.slice (slA c (1 : Nat) (1 : Nat) a) (Int.toNat (↑n : Int) - (1 : Nat)) (c - (1 : Nat)), Value.slice (slA c_1 (1 : Nat) (1 : Nat) a_1) (Int.toNat (↑n_1 : Int) - (1 :
  Nat)) (c_1 - (1 : Nat)), Value.slice a_2 n_2 c_2] H'_4 < μ [Value.slice a n c, Value.slice a_1 n_1 c_1, Value.slice a_2 n_2 c_2] H')))) (CallV Try.prog wish [Value.bool b, Value.bool b_1]
  H'_3 fun v H'_4 => ∃ b, v = Value.bool b ∧ brB b (∀ (b : Nat) (H'_5 : Heap), New H'_4 b (Obj.cells { toList := [Value.int IntKind.i64 n_3] } (3 : Nat)) H'_5 → SemWp Try.prog (Builtin.append_
  { toList := [(40 : Nat), (40 : Nat)] } (40 : Nat) { toList := [Value.slice a_2 n_2 c_2, Value.slice (some ⟨b, (0 : Nat), none⟩) (1 : Nat) (1 : Nat)] }) H'_5 fun v H'_6 => ∃ a_8 n_4 c_3, v =
  Value.slice a_8 n_4 c_3 ∧ I [Value.slice (slA c (1 : Nat) (1 : Nat) a) (Int.toNat (↑n : Int) - (1 : Nat)) (c - (1 : Nat)), Value.slice a_1 n_1 c_1, Value.slice a_8 n_4 c_3] H'_6 ∧ μ
  [Value.slice (slA c (1 : Nat) (1 : Nat) a) (Int.toNat (↑n : Int) - (1 : Nat)) (c - (1 : Nat)), Value.slice a_1 n_1 c_1, Value.slice a_8 n_4 c_3] H'_6 < μ [Value.slice a n c, Value.slice a_1
  n_1 c_1, Value.slice a_2 n_2 c_2] H') (I [Value.slice (slA c (1 : Nat) (1 : Nat) a) (Int.toNat (↑n : Int) - (1 : Nat)) (c - (1 : Nat)), Value.slice a_1 n_1 c_1, Value.slice a_2 n_2 c_2] H'_4
  ∧ μ [Value.slice (slA c (1 : Nat) (1 : Nat) a) (Int.toNat (↑n : Int) - (1 : Nat)) (c - (1 : Nat)), Value.slice a_1 n_1 c_1, Value.slice a_2 n_2 c_2] H'_4 < μ [Value.slice a n c, Value.slice
  a_1 n_1 c_1, Value.slice a_2 n_2 c_2] H'))))) (brB b_1 (exSome a_1 fun ad => chk (decide ((0 : Int) ≤ (0 : Int) ∧ (0 : Int) < (↑n_1 : Int))) (∃ n_3, Ld Try.prog (3 : Nat) H'_3 ad (Value.int
  IntKind.i64 n_3) ∧ chk (decide ((0 : Int) ≤ (1 : Int) ∧ (1 : Int) ≤ (↑n_1 : Int) ∧ (↑n_1 : Int) ≤ (↑c_1 : Int))) (CallV Try.prog wish [Value.bool b, Value.bool b_1] H'_3 fun v H'_4 => ∃ b, v
  = Value.bool b ∧ brB b (∀ (b : Nat) (H'_5 : Heap), New H'_4 b (Obj.cells { toList := [Value.int IntKind.i64 n_3] } (3 : Nat)) H'_5 → SemWp Try.prog (Builtin.append_ { toList := [(40 : Nat),
  (40 : Nat)] } (40 : Nat) { toList := [Value.slice a_2 n_2 c_2, Value.slice (some ⟨b, (0 : Nat), none⟩) (1 : Nat) (1 : Nat)] }) H'_5 fun v H'_6 => ∃ a_8 n_4 c_3, v = Value.slice a_8 n_4 c_3 ∧
  I [Value.slice a n c, Value.slice (slA c_1 (1 : Nat) (1 : Nat) a_1) (Int.toNat (↑n_1 : Int) - (1 : Nat)) (c_1 - (1 : Nat)), Value.slice a_8 n_4 c_3] H'_6 ∧ μ [Value.slice a n c, Value.slice
  (slA c_1 (1 : Nat) (1 : Nat) a_1) (Int.toNat (↑n_1 : Int) - (1 : Nat)) (c_1 - (1 : Nat)), Value.slice a_8 n_4 c_3] H'_6 < μ [Value.slice a n c, Value.slice a_1 n_1 c_1, Value.slice a_2 n_2
  c_2] H') (I [Value.slice a n c, Value.slice (slA c_1 (1 : Nat) (1 : Nat) a_1) (Int.toNat (↑n_1 : Int) - (1 : Nat)) (c_1 - (1 : Nat)), Value.slice a_2 n_2 c_2] H'_4 ∧ μ [Value.slice a n c,
  Value.slice (slA c_1 (1 : Nat) (1 : Nat) a_1) (Int.toNat (↑n_1 : Int) - (1 : Nat)) (c_1 - (1 : Nat)), Value.slice a_2 n_2 c_2] H'_4 < μ [Value.slice a n c, Value.slice a_1 n_1 c_1,
  Value.slice a_2 n_2 c_2] H')))) (CallV Try.prog wish [Value.bool b, Value.bool b_1] H'_3 fun v H'_4 => ∃ b, v = Value.bool b ∧ brB b (∀ (b : Nat) (H'_5 : Heap), New H'_4 b (Obj.cells {
  toList := [Value.int IntKind.i64 (0 : Int)] } (3 : Nat)) H'_5 → SemWp Try.prog (Builtin.append_ { toList := [(40 : Nat), (40 : Nat)] } (40 : Nat) { toList := [Value.slice a_2 n_2 c_2,
  Value.slice (some ⟨b, (0 : Nat), none⟩) (1 : Nat) (1 : Nat)] }) H'_5 fun v H'_6 => ∃ a_8 n_3 c_3, v = Value.slice a_8 n_3 c_3 ∧ I [Value.slice a n c, Value.slice a_1 n_1 c_1, Value.slice a_8
  n_3 c_3] H'_6 ∧ μ [Value.slice a n c, Value.slice a_1 n_1 c_1, Value.slice a_8 n_3 c_3] H'_6 < μ [Value.slice a n c, Value.slice a_1 n_1 c_1, Value.slice a_2 n_2 c_2] H') (I [Value.slice a n
  c, Value.slice a_1 n_1 c_1, Value.slice a_2 n_2 c_2] H'_4 ∧ μ [Value.slice a n c, Value.slice a_1 n_1 c_1, Value.slice a_2 n_2 c_2] H'_4 < μ [Value.slice a n c, Value.slice a_1 n_1 c_1,
  Value.slice a_2 n_2 c_2] H')))) : CallH Try.prog 70 (List.toArray [Value.slice a_a a_n a_c, Value.slice b_a b_n b_c, wish]) H R := vc_call (annOf [([0, 0, 1, 1], .cut [(0, .one .slice), (1,
  .one .slice), (7, .one .slice)]), ([0, 0, 0, 1, 1], .cut []), ([0, 1, 0, 0, 0, 1, 1], .cut [(8, .one .bool)]), ([1, 0, 1, 0, 0, 0, 1, 1], .cut [(9, .one .bool)])]) followsAll
  Go.Proofs.Try.func70 rfl Go.Proofs.Try.ntmps70 rfl rfl (Eq.mpr (by kernel_rfl) h)

/- 71 strandline/post.And$1
  slots: [0=first, 1=second, 2=first, 3=second]  -/
abbrev fn_post_And_1 : Nat := 71
theorem vc_post_And_1 (first : Bool) (second : Bool) (H : Heap) (R : Value → Heap → Prop) (h : brB first (R (Value.bool second) H) (R (Value.bool false) H)) : CallH Try.prog 71 (List.toArray
  [Value.bool first, Value.bool second]) H R := vc_call (annOf []) followsAll Go.Proofs.Try.func71 rfl Go.Proofs.Try.ntmps71 rfl rfl (Eq.mpr (by kernel_rfl) h)

/- 72 (*strandline/index.Index).of$1
  slots: [0=v, 2=v]  -/
abbrev fn_index_Index_of_1 : Nat := 72
theorem vc_index_Index_of_1 (v : ByteArray) (a1 : Addr) (H : Heap) (R : Value → Heap → Prop) (h : ∃ n s s_1 a n_1 c, Ld Try.prog (47 : Nat) H a1 (Value.agg { toList := [Value.int IntKind.i64
  n, Value.string s, Value.string s_1, Value.slice a n_1 c] }) ∧ ∃ s_2, Ld Try.prog (9 : Nat) H (Addr.add a1 (1 : Nat)) (Value.string s_2) ∧ ∀ (b : Nat) (H' : Heap), New H b (Obj.cells {
  toList := [Value.string s_2, Value.string v] } (64 : Nat)) H' → CallH Try.prog (73 : Nat) { toList := [Value.agg { toList := [Value.int IntKind.i64 n, Value.string s, Value.string s_1,
  Value.slice a n_1 c] }, Value.slice (some ⟨b, (0 : Nat), none⟩) (1 : Nat) (1 : Nat)] } H' fun v H' => ∃ b, v = Value.bool b ∧ R (Value.bool b) H') : CallH Try.prog 72 (List.toArray
  [Value.string v, Value.pointer (some a1)]) H R := vc_call (annOf []) followsAll Go.Proofs.Try.func72 rfl Go.Proofs.Try.ntmps72 rfl rfl (Eq.mpr (by kernel_rfl) h)

/- 73 strandline/match.One
  slots: [0=m, 1=l, 2=m, 3=l]  -/
abbrev fn_match_One : Nat := 73
theorem vc_match_One (m_0 : Int) (m_1 : ByteArray) (m_2 : ByteArray) (m_3_a : Option Addr) (m_3_n : Nat) (m_3_c : Nat) (l_a : Option Addr) (l_n : Nat) (l_c : Nat) (H : Heap) (R : Value →
  Heap → Prop) (h : ∀ (b : Nat) (H' : Heap), New H b (Obj.cells { toList := [Value.int IntKind.i64 m_0, Value.string m_1, Value.string m_2, Value.slice m_3_a m_3_n m_3_c] } (47 : Nat)) H' → ∃
  (M : List Value → Heap → Prop), (∃ n, Ld Try.prog (3 : Nat) H' ⟨b, (0 : Nat), none⟩ (Value.int IntKind.i64 n) ∧ brB (decide (n < (0 : Int))) (R (Value.bool false) H') (∃ n, Ld Try.prog (3 :
  Nat) H' ⟨b, (0 : Nat), none⟩ (Value.int IntKind.i64 n) ∧ brB (decide (n > (3 : Int))) (R (Value.bool false) H') (M [] H'))) ∧ ∀ (J : F) (H' : Heap), M [] H' → ∃ n, Ld Try.prog (3 : Nat) H'
  ⟨b, (0 : Nat), none⟩ (Value.int IntKind.i64 n) ∧ ∃ n_1 s s_1 a n_2 c, Ld Try.prog (47 : Nat) H' ⟨b, (0 : Nat), none⟩ (Value.agg { toList := [Value.int IntKind.i64 n_1, Value.string s,
  Value.string s_1, Value.slice a n_2 c] }) ∧ ∃ s_2, Ld Try.prog (9 : Nat) H' ⟨b, (1 : Nat), none⟩ (Value.string s_2) ∧ CallH Try.prog (92 : Nat) ⟨[]⟩ H' fun v H' => ∃ s_3 v_1 s_4 v_2 s_5 v_3
  s_6 v_4, v = Value.agg { toList := [Value.string s_3, v_1, Value.string s_4, v_2, Value.string s_5, v_3, Value.string s_6, v_4] } ∧ Ld Try.prog (9 : Nat) H' ⟨b, (1 : Nat), none⟩
  (Value.string s_2) ∧ Ld Try.prog (47 : Nat) H' ⟨b, (0 : Nat), none⟩ (Value.agg { toList := [Value.int IntKind.i64 n_1, Value.string s, Value.string s_1, Value.slice a n_2 c] }) ∧ Ld Try.prog
  (3 : Nat) H' ⟨b, (0 : Nat), none⟩ (Value.int IntKind.i64 n) ∧ chk (decide ((0 : Int) ≤ n ∧ n < (↑(4 : Nat) : Int))) (∃ s_7 v, Pt Try.prog (125 : Nat) [Value.string s_3, v_1, Value.string
  s_4, v_2, Value.string s_5, v_3, Value.string s_6, v_4] (Int.toNat n * (2 : Nat)) (Value.agg { toList := [Value.string s_7, v] }) ∧ CallH Try.prog (93 : Nat) { toList := [Value.slice l_a l_n
  l_c, Value.string s_2] } H' fun v_5 H' => ∃ s_8, v_5 = Value.string s_8 ∧ Ld Try.prog (47 : Nat) H' ⟨b, (0 : Nat), none⟩ (Value.agg { toList := [Value.int IntKind.i64 n_1, Value.string s,
  Value.string s_1, Value.slice a n_2 c] }) ∧ Ld Try.prog (3 : Nat) H' ⟨b, (0 : Nat), none⟩ (Value.int IntKind.i64 n) ∧ CallV Try.prog v [Value.agg { toList := [Value.int IntKind.i64 n_1,
  Value.string s, Value.string s_1, Value.slice a n_2 c] }, Value.string s_8] H' fun v H' => ∃ b, v = Value.bool b ∧ R (Value.bool b) H')) : CallH Try.prog 73 (List.toArray [Value.agg
  #[Value.int IntKind.i64 m_0, Value.string m_1, Value.string m_2, Value.slice m_3_a m_3_n m_3_c], Value.slice l_a l_n l_c]) H R := vc_call (annOf [([1], .cut []), ([0, 1, 1], .reg [0, 0, 2,
  7, 15, 0, 0, 0, 128, 449, 1023, 2047] (.quiet 1 (.quiet 2 (.quiet 5 (.quiet 6 (.quiet 7 (.quiet 8 (.pick (.alt 0 (.quiet 3 (.quiet 4 (.pick (.alt 9 (.pick (.alt 10 (.quiet 11 .done) .stop))
  .stop)))) .stop)))))))))]) followsAll Go.Proofs.Try.func73 rfl Go.Proofs.Try.ntmps73 rfl rfl (Eq.mpr (by kernel_rfl) h)

/- 74 (*strandline/index.Index).some
  slots: [0=x, 1=name, 2=wish, 3=x, 4=name, 5=wish, 7=lists, 8=v, 9=l]  -/
abbrev fn_index_Index_some : Nat := 74
theorem vc_index_Index_some (x : Addr) (name : ByteArray) (wish : Value) (H : Heap) (R : Value → Heap → Prop) (h : ∃ r, Ld Try.prog (70 : Nat) H (Addr.add x (2 : Nat)) (Value.map r) ∧ ∃ r_1,
  Rd Try.prog (Instr.lookup (70 : Nat) (Value.map r) (Value.string name) false) H (Value.map r_1) ∧ SemWp Try.prog (Instr.range (76 : Nat) (Value.map r_1)) H fun v H' => ∃ a, v = Value.pointer
  a ∧ ∃ (I : List Value → Heap → Prop) (μ : List Value → Heap → Nat), I [Value.slice none (0 : Nat) (0 : Nat)] H' ∧ ∀ (J : F) (a_1 : Option Addr) (n c : Nat) (H' : Heap), I [Value.slice a_1 n
  c] H' → SemWp Try.prog (Instr.next (Value.pointer a) false (0 : Nat)) H' fun v H'_1 => (v = Value.tuple { toList := [Value.bool false] } ∧ CallH Try.prog (94 : Nat) { toList := [Value.slice
  a_1 n c] } H'_1 fun v H' => ∃ a n c, v = Value.slice a n c ∧ R (Value.slice a n c) H') ∨ ∃ k x, v = Value.tuple { toList := [Value.bool true, k, x] } ∧ SemWp Try.prog (Instr.entry
  (Value.pointer a)) H'_1 fun v H'_2 => ∃ k x, v = Value.tuple { toList := [k, x] } ∧ ∃ s, k = Value.string s ∧ ∃ a n_1 c_1, x = Value.slice a n_1 c_1 ∧ CallV Try.prog wish [Value.string s]
  H'_2 fun v H'_3 => ∃ b, v = Value.bool b ∧ brB b (∀ (b : Nat) (H'_4 : Heap), New H'_3 b (Obj.cells { toList := [Value.slice a n_1 c_1] } (40 : Nat)) H'_4 → SemWp Try.prog (Builtin.append_ {
  toList := [(128 : Nat), (128 : Nat)] } (128 : Nat) { toList := [Value.slice a_1 n c, Value.slice (some ⟨b, (0 : Nat), none⟩) (1 : Nat) (1 : Nat)] }) H'_4 fun v H'_5 => ∃ a n_2 c_2, v =
  Value.slice a n_2 c_2 ∧ I [Value.slice a n_2 c_2] H'_5 ∧ μ [Value.slice a n_2 c_2] H'_5 < μ [Value.slice a_1 n c] H') (I [Value.slice a_1 n c] H'_3 ∧ μ [Value.slice a_1 n c] H'_3 < μ
  [Value.slice a_1 n c] H')) : CallH Try.prog 74 (List.toArray [Value.pointer (some x), Value.string name, wish]) H R := vc_call (annOf [([0, 1, 0, 1, 1], .cut [(7, .one .slice)]), ([0, 0, 1,
  1, 0, 0, 1, 0, 1, 1], .ext)]) followsAll Go.Proofs.Try.func74 rfl Go.Proofs.Try.ntmps74 rfl rfl (Eq.mpr (by kernel_rfl) h)

/- 75 strandline/post.Or
  slots: [0=a, 1=b, 2=a, 3=b]  -/
abbrev fn_post_Or : Nat := 75
theorem vc_post_Or (a_a : Option Addr) (a_n : Nat) (a_c : Nat) (b_a : Option Addr) (b_n : Nat) (b_c : Nat) (H : Heap) (R : Value → Heap → Prop) (h : CallH Try.prog (70 : Nat) { toList :=
  [Value.slice a_a a_n a_c, Value.slice b_a b_n b_c, Value.func (Fn.func (95 : Nat)) ⟨[]⟩ ⟨[]⟩] } H fun v H' => ∃ a n c, v = Value.slice a n c ∧ R (Value.slice a n c) H') : CallH Try.prog 75
  (List.toArray [Value.slice a_a a_n a_c, Value.slice b_a b_n b_c]) H R := vc_call (annOf []) followsAll Go.Proofs.Try.func75 rfl Go.Proofs.Try.ntmps75 rfl rfl (Eq.mpr (by kernel_rfl) h)

/- 76 strandline/post.Not
  slots: [0=a, 1=b, 2=a, 3=b]  -/
abbrev fn_post_Not : Nat := 76
theorem vc_post_Not (a_a : Option Addr) (a_n : Nat) (a_c : Nat) (b_a : Option Addr) (b_n : Nat) (b_c : Nat) (H : Heap) (R : Value → Heap → Prop) (h : CallH Try.prog (70 : Nat) { toList :=
  [Value.slice a_a a_n a_c, Value.slice b_a b_n b_c, Value.func (Fn.func (96 : Nat)) ⟨[]⟩ ⟨[]⟩] } H fun v H' => ∃ a n c, v = Value.slice a n c ∧ R (Value.slice a n c) H') : CallH Try.prog 76
  (List.toArray [Value.slice a_a a_n a_c, Value.slice b_a b_n b_c]) H R := vc_call (annOf []) followsAll Go.Proofs.Try.func76 rfl Go.Proofs.Try.ntmps76 rfl rfl (Eq.mpr (by kernel_rfl) h)

/- 77 (*strandline/index.Index).of$2
  slots: []  -/
abbrev fn_index_Index_of_2 : Nat := 77
theorem vc_index_Index_of_2 (a0 : ByteArray) (H : Heap) (R : Value → Heap → Prop) (h : R (Value.bool true) H) : CallH Try.prog 77 (List.toArray [Value.string a0]) H R := vc_call (annOf [])
  followsAll Go.Proofs.Try.func77 rfl Go.Proofs.Try.ntmps77 rfl rfl (Eq.mpr (by kernel_rfl) h)

/- 78 strandline/strandlineref04.Name
  slots: [0=s, 1=s, 3=i, 4=c]  -/
abbrev fn_ref04_Name : Nat := 78
theorem vc_ref04_Name (s : ByteArray) (H : Heap) (R : Value → Heap → Prop) (h : ∃ (M : List Value → Heap → Prop), brB (decide ((↑(ByteArray.size s) : Int) < (1 : Int))) (R (Value.bool false)
  H) (brB (decide ((↑(ByteArray.size s) : Int) > (16 : Int))) (R (Value.bool false) H) (chk (decide ((0 : Int) ≤ (0 : Int) ∧ (0 : Int) < (↑(ByteArray.size s) : Int))) (brB (decide ((↑(atB s
  (Int.toNat (0 : Int))) : Int) < (97 : Int))) (R (Value.bool false) H) (chk (decide ((0 : Int) ≤ (0 : Int) ∧ (0 : Int) < (↑(ByteArray.size s) : Int))) (brB (decide ((↑(atB s (Int.toNat (0 :
  Int))) : Int) > (122 : Int))) (R (Value.bool false) H) (M [] H)))))) ∧ ∀ (J : F) (H' : Heap), M [] H' → ∃ (I : List Value → Heap → Prop) (μ : List Value → Heap → Nat), I [Value.int
  IntKind.i64 (0 : Int)] H' ∧ ∀ (J : F) (n : Int) (H' : Heap), I [Value.int IntKind.i64 n] H' → brB (decide (n < (↑(ByteArray.size s) : Int))) (∃ (M : List Value → Heap → Prop), chk (decide
  ((0 : Int) ≤ n ∧ n < (↑(ByteArray.size s) : Int))) (brB (decide ((↑(atB s (Int.toNat n)) : Int) < (97 : Int))) (brB (decide ((↑(atB s (Int.toNat n)) : Int) < (48 : Int))) (brB ((↑(atB s
  (Int.toNat n)) : Int) != (95 : Int)) (R (Value.bool false) H') (M [] H')) (brB (decide ((↑(atB s (Int.toNat n)) : Int) > (57 : Int))) (brB ((↑(atB s (Int.toNat n)) : Int) != (95 : Int)) (R
  (Value.bool false) H') (M [] H')) (M [] H'))) (brB (decide ((↑(atB s (Int.toNat n)) : Int) > (122 : Int))) (brB (decide ((↑(atB s (Int.toNat n)) : Int) < (48 : Int))) (brB ((↑(atB s
  (Int.toNat n)) : Int) != (95 : Int)) (R (Value.bool false) H') (M [] H')) (brB (decide ((↑(atB s (Int.toNat n)) : Int) > (57 : Int))) (brB ((↑(atB s (Int.toNat n)) : Int) != (95 : Int)) (R
  (Value.bool false) H') (M [] H')) (M [] H'))) (M [] H'))) ∧ ∀ (J : F) (H'_1 : Heap), M [] H'_1 → I [Value.int IntKind.i64 (IntKind.wrap IntKind.i64 (n + (1 : Int)))] H'_1 ∧ μ [Value.int
  IntKind.i64 (IntKind.wrap IntKind.i64 (n + (1 : Int)))] H'_1 < μ [Value.int IntKind.i64 n] H') (R (Value.bool true) H')) : CallH Try.prog 78 (List.toArray [Value.string s]) H R := vc_call
  (annOf [([1], .cut []), ([0, 1, 0, 1, 1], .cut [(3, .one (.int .i64))]), ([1, 0, 0, 1, 0, 1, 1], .cut [])]) followsAll Go.Proofs.Try.func78 rfl Go.Proofs.Try.ntmps78 rfl rfl (Eq.mpr (by
  kernel_rfl) h)

/- 79 strandline/strandlineref04.Value
  slots: [0=s, 1=s, 3=n]  -/
abbrev fn_ref04_Value : Nat := 79
theorem vc_ref04_Value (s : ByteArray) (H : Heap) (R : Value → Heap → Prop) (h : brB (decide ((↑(ByteArray.size s) : Int) > (32 : Int))) (R (Value.bool false) H) (∃ (I : List Value → Heap →
  Prop) (μ : List Value → Heap → Nat), I [Value.string s] H ∧ ∀ (J : F) (s : ByteArray) (H' : Heap), I [Value.string s] H' → brB (decide ((↑(ByteArray.size s) : Int) > (0 : Int))) (CallH
  Try.prog (97 : Nat) { toList := [Value.string s] } H' fun v H'_1 => ∃ n, v = Value.int IntKind.i64 n ∧ brB (n == (0 : Int)) (R (Value.bool false) H'_1) (chk (decide ((0 : Int) ≤ n ∧ n ≤
  (↑(ByteArray.size s) : Int) ∧ (↑(ByteArray.size s) : Int) ≤ (↑(ByteArray.size s) : Int))) (I [Value.string (ByteArray.extract s (Int.toNat n) (Int.toNat (↑(ByteArray.size s) : Int)))] H'_1 ∧
  μ [Value.string (ByteArray.extract s (Int.toNat n) (Int.toNat (↑(ByteArray.size s) : Int)))] H'_1 < μ [Value.string s] H'))) (R (Value.bool true) H'))) : CallH Try.prog 79 (List.toArray
  [Value.string s]) H R := vc_call (annOf [([0, 0, 1, 1], .cut [(0, .one .str)])]) followsAll Go.Proofs.Try.func79 rfl Go.Proofs.Try.ntmps79 rfl rfl (Eq.mpr (by kernel_rfl) h)

/- 80 strandline/strandlineref05.One
  slots: [0=m, 1=l, 2=m, 3=l, 5=v, 6=i]  -/
abbrev fn_ref05_One : Nat := 80
theorem vc_ref05_One (m_0 : Int) (m_1 : ByteArray) (m_2 : ByteArray) (m_3_a : Option Addr) (m_3_n : Nat) (m_3_c : Nat) (l_a : Option Addr) (l_n : Nat) (l_c : Nat) (H : Heap) (R : Value →
  Heap → Prop) (h : ∀ (b : Nat) (H' : Heap), New H b (Obj.cells { toList := [Value.int IntKind.i64 m_0, Value.string m_1, Value.string m_2, Value.slice m_3_a m_3_n m_3_c] } (47 : Nat)) H' → ∃
  s, Ld Try.prog (9 : Nat) H' ⟨b, (1 : Nat), none⟩ (Value.string s) ∧ CallH Try.prog (63 : Nat) { toList := [Value.slice l_a l_n l_c, Value.string s] } H' fun v H' => ∃ s, v = Value.string s ∧
  ∃ n, Ld Try.prog (3 : Nat) H' ⟨b, (0 : Nat), none⟩ (Value.int IntKind.i64 n) ∧ brB (n == (0 : Int)) (∃ s_1, Ld Try.prog (9 : Nat) H' ⟨b, (2 : Nat), none⟩ (Value.string s_1) ∧ R (Value.bool
  (ByteArray.toList s == ByteArray.toList s_1)) H') (brB (n == (1 : Int)) (∃ s_1, Ld Try.prog (9 : Nat) H' ⟨b, (2 : Nat), none⟩ (Value.string s_1) ∧ R (Value.bool !ByteArray.toList s ==
  ByteArray.toList s_1) H') (brB (n == (2 : Int)) (∃ s_1, Ld Try.prog (9 : Nat) H' ⟨b, (2 : Nat), none⟩ (Value.string s_1) ∧ brB (decide ((↑(ByteArray.size s) : Int) ≥ (↑(ByteArray.size s_1) :
  Int))) (∃ s_2, Ld Try.prog (9 : Nat) H' ⟨b, (2 : Nat), none⟩ (Value.string s_2) ∧ chk (decide ((0 : Int) ≤ (0 : Int) ∧ (0 : Int) ≤ (↑(ByteArray.size s_2) : Int) ∧ (↑(ByteArray.size s_2) :
  Int) ≤ (↑(ByteArray.size s) : Int))) (∃ s_3, Ld Try.prog (9 : Nat) H' ⟨b, (2 : Nat), none⟩ (Value.string s_3) ∧ R (Value.bool (ByteArray.toList (ByteArray.extract s (0 : Nat) (Int.toNat
  (↑(ByteArray.size s_2) : Int))) == ByteArray.toList s_3)) H')) (R (Value.bool false) H')) (brB (n == (3 : Int)) (∃ (I : List Value → Heap → Prop) (μ : List Value → Heap → Nat), I [Value.int
  IntKind.i64 (0 : Int)] H' ∧ ∀ (J : F) (n : Int) (H' : Heap), I [Value.int IntKind.i64 n] H' → ∃ a n_1 c, Ld Try.prog (45 : Nat) H' ⟨b, (3 : Nat), none⟩ (Value.slice a n_1 c) ∧ brB (decide (n
  < (↑n_1 : Int))) (∃ a n_2 c, Ld Try.prog (45 : Nat) H' ⟨b, (3 : Nat), none⟩ (Value.slice a n_2 c) ∧ exSome a fun ad => chk (decide ((0 : Int) ≤ n ∧ n < (↑n_2 : Int))) (∃ s_1, Ld Try.prog (9
  : Nat) H' (Addr.add ad (Int.toNat n * (1 : Nat))) (Value.string s_1) ∧ brB (ByteArray.toList s_1 == ByteArray.toList s) (R (Value.bool true) H') (I [Value.int IntKind.i64 (IntKind.wrap
  IntKind.i64 (n + (1 : Int)))] H' ∧ μ [Value.int IntKind.i64 (IntKind.wrap IntKind.i64 (n + (1 : Int)))] H' < μ [Value.int IntKind.i64 n] H'))) (R (Value.bool false) H')) (R (Value.bool
  false) H'))))) : CallH Try.prog 80 (List.toArray [Value.agg #[Value.int IntKind.i64 m_0, Value.string m_1, Value.string m_2, Value.slice m_3_a m_3_n m_3_c], Value.slice l_a l_n l_c]) H R :=
  vc_call (annOf [([0, 1, 0, 1, 1, 1, 1, 1, 1, 1, 0, 1, 0, 1, 1], .cut [(6, .one (.int .i64))])]) followsAll Go.Proofs.Try.func80 rfl Go.Proofs.Try.ntmps80 rfl rfl (Eq.mpr (by kernel_rfl) h)

/- 81 strandline/label.Quote
  slots: [0=s, 1=s, 3=b, 4=_, 5=c]  -/
abbrev fn_label_Quote : Nat := 81
theorem vc_label_Quote (s : ByteArray) (H : Heap) (R : Value → Heap → Prop) (h : ∀ (b : Nat) (H' : Heap), New H b (Obj.cells { toList := [Value.pointer none, Value.slice none (0 : Nat) (0 :
  Nat)] } (98 : Nat)) H' → CallH Try.prog (98 : Nat) { toList := [Value.pointer (some ⟨b, (0 : Nat), none⟩), Value.int IntKind.u8 (34 : Int)] } H' fun v H' => ∃ v_1, v = v_1 ∧ SemWp Try.prog
  (convert (9 : Nat) (96 : Nat) (Value.string s)) H' fun v H' => ∃ a n c, v = Value.slice a n c ∧ ∃ (I : List Value → Heap → Prop) (μ : List Value → Heap → Nat), I [Value.int IntKind.i64 (0 :
  Int)] H' ∧ ∀ (J : F) (n_1 : Int) (H' : Heap), I [Value.int IntKind.i64 n_1] H' → brB (decide (n_1 < (↑n : Int))) (exSome a fun ad => chk (decide ((0 : Int) ≤ n_1 ∧ n_1 < (↑n : Int))) (∃ n,
  Ld Try.prog (5 : Nat) H' (Addr.add ad (Int.toNat n_1 * (1 : Nat))) (Value.int IntKind.u8 n) ∧ brB (n == (10 : Int)) (CallH Try.prog (65 : Nat) { toList := [Value.pointer (some ⟨b, (0 : Nat),
  none⟩), Value.string { data := #[(92 : UInt8), (110 : UInt8)] }] } H' fun v H'_1 => ∃ n v_2, v = Value.tuple { toList := [Value.int IntKind.i64 n, v_2] } ∧ I [Value.int IntKind.i64
  (IntKind.wrap IntKind.i64 (n_1 + (1 : Int)))] H'_1 ∧ μ [Value.int IntKind.i64 (IntKind.wrap IntKind.i64 (n_1 + (1 : Int)))] H'_1 < μ [Value.int IntKind.i64 n_1] H') (brB (n == (34 : Int))
  (brB (n == (34 : Int)) (CallH Try.prog (98 : Nat) { toList := [Value.pointer (some ⟨b, (0 : Nat), none⟩), Value.int IntKind.u8 (92 : Int)] } H' fun v H'_1 => ∃ v_2, v = v_2 ∧ CallH Try.prog
  (98 : Nat) { toList := [Value.pointer (some ⟨b, (0 : Nat), none⟩), Value.int IntKind.u8 n] } H'_1 fun v H'_2 => ∃ v_3, v = v_3 ∧ I [Value.int IntKind.i64 (IntKind.wrap IntKind.i64 (n_1 + (1
  : Int)))] H'_2 ∧ μ [Value.int IntKind.i64 (IntKind.wrap IntKind.i64 (n_1 + (1 : Int)))] H'_2 < μ [Value.int IntKind.i64 n_1] H') (CallH Try.prog (98 : Nat) { toList := [Value.pointer (some
  ⟨b, (0 : Nat), none⟩), Value.int IntKind.u8 n] } H' fun v H'_1 => ∃ v_2, v = v_2 ∧ I [Value.int IntKind.i64 (IntKind.wrap IntKind.i64 (n_1 + (1 : Int)))] H'_1 ∧ μ [Value.int IntKind.i64
  (IntKind.wrap IntKind.i64 (n_1 + (1 : Int)))] H'_1 < μ [Value.int IntKind.i64 n_1] H')) (brB (n == (92 : Int)) (CallH Try.prog (98 : Nat) { toList := [Value.pointer (some ⟨b, (0 : Nat),
  none⟩), Value.int IntKind.u8 (92 : Int)] } H' fun v H'_1 => ∃ v_2, v = v_2 ∧ CallH Try.prog (98 : Nat) { toList := [Value.pointer (some ⟨b, (0 : Nat), none⟩), Value.int IntKind.u8 n] } H'_1
  fun v H'_2 => ∃ v_3, v = v_3 ∧ I [Value.int IntKind.i64 (IntKind.wrap IntKind.i64 (n_1 + (1 : Int)))] H'_2 ∧ μ [Value.int IntKind.i64 (IntKind.wrap IntKind.i64 (n_1 + (1 : Int)))] H'_2 < μ
  [Value.int IntKind.i64 n_1] H') (CallH Try.prog (98 : Nat) { toList := [Value.pointer (some ⟨b, (0 : Nat), none⟩), Value.int IntKind.u8 n] } H' fun v H'_1 => ∃ v_2, v = v_2 ∧ I [Value.int
  IntKind.i64 (IntKind.wrap IntKind.i64 (n_1 + (1 : Int)))] H'_1 ∧ μ [Value.int IntKind.i64 (IntKind.wrap IntKind.i64 (n_1 + (1 : Int)))] H'_1 < μ [Value.int IntKind.i64 n_1] H'))))) (CallH
  Try.prog (98 : Nat) { toList := [Value.pointer (some ⟨b, (0 : Nat), none⟩), Value.int IntKind.u8 (34 : Int)] } H' fun v H' => ∃ v_2, v = v_2 ∧ CallH Try.prog (66 : Nat) { toList :=
  [Value.pointer (some ⟨b, (0 : Nat), none⟩)] } H' fun v H' => ∃ s, v = Value.string s ∧ R (Value.string s) H')) : CallH Try.prog 81 (List.toArray [Value.string s]) H R := vc_call (annOf [([0,
  1, 0, 1, 1, 1], .cut [(10, .one (.int .i64))])]) followsAll Go.Proofs.Try.func81 rfl Go.Proofs.Try.ntmps81 rfl rfl (Eq.mpr (by kernel_rfl) h)

/- 82 strings.Join
  slots: [0=elems, 1=sep, 2=elems, 3=sep, 5=n, 6=_, 7=elem, 8=b, 9=_, 10=s]  -/
abbrev fn_strings_Join : Nat := 82
theorem vc_strings_Join (elems_a : Option Addr) (elems_n : Nat) (elems_c : Nat) (sep : ByteArray) (H : Heap) (R : Value → Heap → Prop) (h : brB ((↑elems_n : Int) == (0 : Int)) (R
  (Value.string { data := #[] }) H) (brB ((↑elems_n : Int) == (1 : Int)) (exSome elems_a fun ad => chk (decide ((0 : Int) ≤ (0 : Int) ∧ (0 : Int) < (↑elems_n : Int))) (∃ s, Ld Try.prog (9 :
  Nat) H ad (Value.string s) ∧ R (Value.string s) H)) (∃ (M : List Value → Heap → Prop), brB (decide ((↑(ByteArray.size sep) : Int) > (0 : Int))) (chk (decide (IntKind.wrap IntKind.i64
  ((↑elems_n : Int) - (1 : Int)) ≠ (0 : Int))) (brB (decide ((↑(ByteArray.size sep) : Int) ≥ IntKind.wrap IntKind.i64 (Int.tdiv (9223372036854775807 : Int) (IntKind.wrap IntKind.i64 ((↑elems_n
  : Int) - (1 : Int)))))) False (M [Value.int IntKind.i64 (IntKind.wrap IntKind.i64 ((0 : Int) + IntKind.wrap IntKind.i64 ((↑(ByteArray.size sep) : Int) * IntKind.wrap IntKind.i64 ((↑elems_n :
  Int) - (1 : Int)))))] H))) (M [Value.int IntKind.i64 (0 : Int)] H) ∧ ∀ (J : F) (n : Int) (H' : Heap), M [Value.int IntKind.i64 n] H' → ∃ (I : List Value → Heap → Prop) (μ : List Value → Heap
  → Nat), I [Value.int IntKind.i64 n, Value.int IntKind.i64 (0 : Int)] H' ∧ ∀ (J : F) (n n_1 : Int) (H' : Heap), I [Value.int IntKind.i64 n, Value.int IntKind.i64 n_1] H' → brB (decide (n_1 <
  (↑elems_n : Int))) (exSome elems_a fun ad => chk (decide ((0 : Int) ≤ n_1 ∧ n_1 < (↑elems_n : Int))) (∃ s, Ld Try.prog (9 : Nat) H' (Addr.add ad (Int.toNat n_1 * (1 : Nat))) (Value.string s)
  ∧ brB (decide ((↑(ByteArray.size s) : Int) > IntKind.wrap IntKind.i64 ((9223372036854775807 : Int) - n))) False (I [Value.int IntKind.i64 (IntKind.wrap IntKind.i64 (n + (↑(ByteArray.size s)
  : Int))), Value.int IntKind.i64 (IntKind.wrap IntKind.i64 (n_1 + (1 : Int)))] H' ∧ μ [Value.int IntKind.i64 (IntKind.wrap IntKind.i64 (n + (↑(ByteArray.size s) : Int))), Value.int
  IntKind.i64 (IntKind.wrap IntKind.i64 (n_1 + (1 : Int)))] H' < μ [Value.int IntKind.i64 n, Value.int IntKind.i64 n_1] H'))) (∀ (b : Nat) (H'_1 : Heap), New H' b (Obj.cells { toList :=
  [Value.pointer none, Value.slice none (0 : Nat) (0 : Nat)] } (98 : Nat)) H'_1 → CallH Try.prog (99 : Nat) { toList := [Value.pointer (some ⟨b, (0 : Nat), none⟩), Value.int IntKind.i64 n] }
  H'_1 fun v H' => v = Value.tuple ⟨[]⟩ ∧ exSome elems_a fun ad => chk (decide ((0 : Int) ≤ (0 : Int) ∧ (0 : Int) < (↑elems_n : Int))) (∃ s, Ld Try.prog (9 : Nat) H' ad (Value.string s) ∧
  CallH Try.prog (65 : Nat) { toList := [Value.pointer (some ⟨b, (0 : Nat), none⟩), Value.string s] } H' fun v H' => ∃ n v_1, v = Value.tuple { toList := [Value.int IntKind.i64 n, v_1] } ∧ chk
  (decide ((0 : Int) ≤ (1 : Int) ∧ (1 : Int) ≤ (↑elems_n : Int) ∧ (↑elems_n : Int) ≤ (↑elems_c : Int))) (∃ (I : List Value → Heap → Prop) (μ : List Value → Heap → Nat), I [Value.int
  IntKind.i64 (0 : Int)] H' ∧ ∀ (J : F) (n : Int) (H' : Heap), I [Value.int IntKind.i64 n] H' → brB (decide (n < (↑(Int.toNat (↑elems_n : Int) - Int.toNat (1 : Int)) : Int))) (exSome (slA
  elems_c (1 : Nat) (1 : Nat) elems_a) fun ad => chk (decide ((0 : Int) ≤ n ∧ n < (↑(Int.toNat (↑elems_n : Int) - (1 : Nat)) : Int))) (∃ s, Ld Try.prog (9 : Nat) H' (Addr.add ad (Int.toNat n *
  (1 : Nat))) (Value.string s) ∧ CallH Try.prog (65 : Nat) { toList := [Value.pointer (some ⟨b, (0 : Nat), none⟩), Value.string sep] } H' fun v H'_2 => ∃ n_2 v_2, v = Value.tuple { toList :=
  [Value.int IntKind.i64 n_2, v_2] } ∧ CallH Try.prog (65 : Nat) { toList := [Value.pointer (some ⟨b, (0 : Nat), none⟩), Value.string s] } H'_2 fun v H'_3 => ∃ n_3 v_3, v = Value.tuple {
  toList := [Value.int IntKind.i64 n_3, v_3] } ∧ I [Value.int IntKind.i64 (IntKind.wrap IntKind.i64 (n + (1 : Int)))] H'_3 ∧ μ [Value.int IntKind.i64 (IntKind.wrap IntKind.i64 (n + (1 :
  Int)))] H'_3 < μ [Value.int IntKind.i64 n] H')) (CallH Try.prog (66 : Nat) { toList := [Value.pointer (some ⟨b, (0 : Nat), none⟩)] } H' fun v H' => ∃ s, v = Value.string s ∧ R (Value.string
  s) H'))))))) : CallH Try.prog 82 (List.toArray [Value.slice elems_a elems_n elems_c, Value.string sep]) H R := vc_call (annOf [([1, 1, 1], .cut [(5, .one (.int .i64))]), ([0, 1, 0, 1, 1, 1,
  1], .cut [(5, .one (.int .i64)), (41, .one (.int .i64))]), ([0, 1, 0, 1, 1, 1, 1, 1, 1, 1, 1], .cut [(65, .one (.int .i64))])]) followsAll Go.Proofs.Try.func82 rfl Go.Proofs.Try.ntmps82 rfl
  rfl (Eq.mpr (by kernel_rfl) h)

/- 83 strandline/strandlineref04.Quote
  slots: [0=s, 1=s, 3=t, 4=i]  -/
abbrev fn_ref04_Quote : Nat := 83
theorem vc_ref04_Quote (s : ByteArray) (H : Heap) (R : Value → Heap → Prop) (h : ∃ (I : List Value → Heap → Prop) (μ : List Value → Heap → Nat), I [Value.string { data := #[] }, Value.int
  IntKind.i64 (0 : Int)] H ∧ ∀ (J : F) (s_1 : ByteArray) (n : Int) (H' : Heap), I [Value.string s_1, Value.int IntKind.i64 n] H' → brB (decide (n < (↑(ByteArray.size s) : Int))) (chk (decide
  ((0 : Int) ≤ n ∧ n < (↑(ByteArray.size s) : Int))) (brB ((↑(atB s (Int.toNat n)) : Int) == (34 : Int)) (chk (decide (ByteArray.size s_1 + (2 : Nat) ≤ (9223372036854775807 : Nat))) (I
  [Value.string (s_1 ++ { data := #[(92 : UInt8), (34 : UInt8)] }), Value.int IntKind.i64 (IntKind.wrap IntKind.i64 (n + (1 : Int)))] H' ∧ μ [Value.string (s_1 ++ { data := #[(92 : UInt8), (34
  : UInt8)] }), Value.int IntKind.i64 (IntKind.wrap IntKind.i64 (n + (1 : Int)))] H' < μ [Value.string s_1, Value.int IntKind.i64 n] H')) (brB ((↑(atB s (Int.toNat n)) : Int) == (92 : Int))
  (chk (decide (ByteArray.size s_1 + (2 : Nat) ≤ (9223372036854775807 : Nat))) (I [Value.string (s_1 ++ { data := #[(92 : UInt8), (92 : UInt8)] }), Value.int IntKind.i64 (IntKind.wrap
  IntKind.i64 (n + (1 : Int)))] H' ∧ μ [Value.string (s_1 ++ { data := #[(92 : UInt8), (92 : UInt8)] }), Value.int IntKind.i64 (IntKind.wrap IntKind.i64 (n + (1 : Int)))] H' < μ [Value.string
  s_1, Value.int IntKind.i64 n] H')) (brB ((↑(atB s (Int.toNat n)) : Int) == (10 : Int)) (chk (decide (ByteArray.size s_1 + (2 : Nat) ≤ (9223372036854775807 : Nat))) (I [Value.string (s_1 ++ {
  data := #[(92 : UInt8), (110 : UInt8)] }), Value.int IntKind.i64 (IntKind.wrap IntKind.i64 (n + (1 : Int)))] H' ∧ μ [Value.string (s_1 ++ { data := #[(92 : UInt8), (110 : UInt8)] }),
  Value.int IntKind.i64 (IntKind.wrap IntKind.i64 (n + (1 : Int)))] H' < μ [Value.string s_1, Value.int IntKind.i64 n] H')) (chk (decide ((0 : Int) ≤ n ∧ n ≤ IntKind.wrap IntKind.i64 (n + (1 :
  Int)) ∧ IntKind.wrap IntKind.i64 (n + (1 : Int)) ≤ (↑(ByteArray.size s) : Int))) (chk (decide (ByteArray.size s_1 + ByteArray.size (ByteArray.extract s (Int.toNat n) (Int.toNat (IntKind.wrap
  IntKind.i64 (n + (1 : Int))))) ≤ (9223372036854775807 : Nat))) (I [Value.string (s_1 ++ ByteArray.extract s (Int.toNat n) (Int.toNat (IntKind.wrap IntKind.i64 (n + (1 : Int))))), Value.int
  IntKind.i64 (IntKind.wrap IntKind.i64 (n + (1 : Int)))] H' ∧ μ [Value.string (s_1 ++ ByteArray.extract s (Int.toNat n) (Int.toNat (IntKind.wrap IntKind.i64 (n + (1 : Int))))), Value.int
  IntKind.i64 (IntKind.wrap IntKind.i64 (n + (1 : Int)))] H' < μ [Value.string s_1, Value.int IntKind.i64 n] H'))))))) (chk (decide ((1 : Nat) + ByteArray.size s_1 ≤ (9223372036854775807 :
  Nat))) (chk (decide (ByteArray.size ({ data := #[(34 : UInt8)] } ++ s_1) + (1 : Nat) ≤ (9223372036854775807 : Nat))) (R (Value.string ({ data := #[(34 : UInt8)] } ++ s_1 ++ { data := #[(34 :
  UInt8)] })) H')))) : CallH Try.prog 83 (List.toArray [Value.string s]) H R := vc_call (annOf [([0, 1, 0, 1, 1], .cut [(3, .one .str), (4, .one (.int .i64))])]) followsAll
  Go.Proofs.Try.func83 rfl Go.Proofs.Try.ntmps83 rfl rfl (Eq.mpr (by kernel_rfl) h)

/- 84 (*strandline/label.parser).take
  slots: [0=p, 1=t, 2=p, 3=t, 5=rest, 6=is]  -/
abbrev fn_label_parser_take : Nat := 84
theorem vc_label_parser_take (p : Addr) (t : ByteArray) (H : Heap) (R : Value → Heap → Prop) (h : ∃ s, Ld Try.prog (9 : Nat) H p (Value.string s) ∧ CallH Try.prog (100 : Nat) { toList :=
  [Value.string s, Value.string t] } H fun v H' => ∃ s b, v = Value.tuple { toList := [Value.string s, Value.bool b] } ∧ brB b (∃ H'_1, St Try.prog (9 : Nat) H' p (Value.string s) H'_1 ∧ R
  (Value.bool b) H'_1) (R (Value.bool b) H')) : CallH Try.prog 84 (List.toArray [Value.pointer (some p), Value.string t]) H R := vc_call (annOf []) followsAll Go.Proofs.Try.func84 rfl
  Go.Proofs.Try.ntmps84 rfl rfl (Eq.mpr (by kernel_rfl) h)

/- 85 strings.Cut
  slots: [0=s, 1=sep, 2=s, 3=sep, 4=before, 5=after, 6=found]  -/
abbrev fn_strings_Cut : Nat := 85
theorem vc_strings_Cut (s : ByteArray) (sep : ByteArray) (H : Heap) (R : Value → Heap → Prop) (h : CallH Try.prog (101 : Nat) { toList := [Value.string s, Value.string sep] } H fun v H' => ∃
  s s_1 b, v = Value.tuple { toList := [Value.string s, Value.string s_1, Value.bool b] } ∧ R (Value.tuple { toList := [Value.string s, Value.string s_1, Value.bool b] }) H') : CallH Try.prog
  85 (List.toArray [Value.string s, Value.string sep]) H R := vc_call (annOf []) followsAll Go.Proofs.Try.func85 rfl Go.Proofs.Try.ntmps85 rfl rfl (Eq.mpr (by kernel_rfl) h)

/- 86 (*strandline/label.parser).value
  slots: [0=p, 1=p, 4=b, 5=back, 6=i, 7=c]  -/
abbrev fn_label_parser_value : Nat := 86
theorem vc_label_parser_value (p : Addr) (H : Heap) (R : Value → Heap → Prop) (h : CallH Try.prog (84 : Nat) { toList := [Value.pointer (some p), Value.string { data := #[(34 : UInt8)] }] }
  H fun v H' => ∃ b, v = Value.bool b ∧ brB (!b) (R (Value.tuple { toList := [Value.string { data := #[] }, Value.bool false] }) H') (∀ (b : Nat) (H'_1 : Heap), New H' b (Obj.cells { toList :=
  [Value.pointer none, Value.slice none (0 : Nat) (0 : Nat)] } (98 : Nat)) H'_1 → ∃ s, Ld Try.prog (9 : Nat) H'_1 p (Value.string s) ∧ SemWp Try.prog (convert (9 : Nat) (96 : Nat)
  (Value.string s)) H'_1 fun v H' => ∃ a n c, v = Value.slice a n c ∧ ∃ (I : List Value → Heap → Prop) (μ : List Value → Heap → Nat), I [Value.bool false, Value.int IntKind.i64 (0 : Int)] H' ∧
  ∀ (J : F) (b_1 : Bool) (n_1 : Int) (H' : Heap), I [Value.bool b_1, Value.int IntKind.i64 n_1] H' → brB (decide (n_1 < (↑n : Int))) (∃ (M : List Value → Heap → Prop), (exSome a fun ad => chk
  (decide ((0 : Int) ≤ n_1 ∧ n_1 < (↑n : Int))) (∃ n, Ld Try.prog (5 : Nat) H' (Addr.add ad (Int.toNat n_1 * (1 : Nat))) (Value.int IntKind.u8 n) ∧ ∃ (M_1 : List Value → Heap → Prop), brB b_1
  (M_1 [Value.bool (n == (110 : Int))] H') (M_1 [Value.bool false] H') ∧ ∀ (J : F) (b_2 : Bool) (H' : Heap), M_1 [Value.bool b_2] H' → brB b_2 (CallH Try.prog (98 : Nat) { toList :=
  [Value.pointer (some ⟨b, (0 : Nat), none⟩), Value.int IntKind.u8 (10 : Int)] } H' fun v H' => ∃ v_1, v = v_1 ∧ M [Value.bool false] H') (brB b_1 (brB (n != (34 : Int)) (brB (n != (92 : Int))
  (R (Value.tuple { toList := [Value.string { data := #[] }, Value.bool false] }) H') (CallH Try.prog (98 : Nat) { toList := [Value.pointer (some ⟨b, (0 : Nat), none⟩), Value.int IntKind.u8 n]
  } H' fun v H' => ∃ v_1, v = v_1 ∧ M [Value.bool false] H')) (CallH Try.prog (98 : Nat) { toList := [Value.pointer (some ⟨b, (0 : Nat), none⟩), Value.int IntKind.u8 n] } H' fun v H' => ∃ v_1,
  v = v_1 ∧ M [Value.bool false] H')) (brB (n == (92 : Int)) (M [Value.bool true] H') (brB (n == (34 : Int)) (∃ s, Ld Try.prog (9 : Nat) H' p (Value.string s) ∧ chk (decide ((0 : Int) ≤
  IntKind.wrap IntKind.i64 (n_1 + (1 : Int)) ∧ IntKind.wrap IntKind.i64 (n_1 + (1 : Int)) ≤ (↑(ByteArray.size s) : Int) ∧ (↑(ByteArray.size s) : Int) ≤ (↑(ByteArray.size s) : Int))) (∃ H'_2,
  St Try.prog (9 : Nat) H' p (Value.string (ByteArray.extract s (Int.toNat (IntKind.wrap IntKind.i64 (n_1 + (1 : Int)))) (Int.toNat (↑(ByteArray.size s) : Int)))) H'_2 ∧ CallH Try.prog (66 :
  Nat) { toList := [Value.pointer (some ⟨b, (0 : Nat), none⟩)] } H'_2 fun v H' => ∃ s, v = Value.string s ∧ R (Value.tuple { toList := [Value.string s, Value.bool true] }) H')) (brB (n == (10
  : Int)) (R (Value.tuple { toList := [Value.string { data := #[] }, Value.bool false] }) H') (CallH Try.prog (98 : Nat) { toList := [Value.pointer (some ⟨b, (0 : Nat), none⟩), Value.int
  IntKind.u8 n] } H' fun v H' => ∃ v_1, v = v_1 ∧ M [Value.bool b_1] H'))))))) ∧ ∀ (J : F) (b : Bool) (H'_2 : Heap), M [Value.bool b] H'_2 → I [Value.bool b, Value.int IntKind.i64
  (IntKind.wrap IntKind.i64 (n_1 + (1 : Int)))] H'_2 ∧ μ [Value.bool b, Value.int IntKind.i64 (IntKind.wrap IntKind.i64 (n_1 + (1 : Int)))] H'_2 < μ [Value.bool b_1, Value.int IntKind.i64 n_1]
  H') (R (Value.tuple { toList := [Value.string { data := #[] }, Value.bool false] }) H'))) : CallH Try.prog 86 (List.toArray [Value.pointer (some p)]) H R := vc_call (annOf [([0, 1, 0, 1, 1,
  1, 1], .cut [(5, .one .bool), (17, .one (.int .i64))]), ([1, 1, 0, 0, 1, 0, 1, 1, 1, 1], .cut [(5, .one .bool)]), ([0, 1, 0, 0, 1, 1, 0, 0, 1, 0, 1, 1, 1, 1], .cut [(24, .one .bool)])])
  followsAll Go.Proofs.Try.func86 rfl Go.Proofs.Try.ntmps86 rfl rfl (Eq.mpr (by kernel_rfl) h)

/- 87 strandline/strandlineref04.Quoted
  slots: [0=s, 1=s, 4=t, 5=i]  -/
abbrev fn_ref04_Quoted : Nat := 87
theorem vc_ref04_Quoted (s : ByteArray) (H : Heap) (R : Value → Heap → Prop) (h : ∃ (M : List Value → Heap → Prop), brB ((↑(ByteArray.size s) : Int) == (0 : Int)) (R (Value.tuple { toList :=
  [Value.string { data := #[] }, Value.int IntKind.i64 (0 : Int)] }) H) (chk (decide ((0 : Int) ≤ (0 : Int) ∧ (0 : Int) < (↑(ByteArray.size s) : Int))) (brB ((↑(atB s (Int.toNat (0 : Int))) :
  Int) != (34 : Int)) (R (Value.tuple { toList := [Value.string { data := #[] }, Value.int IntKind.i64 (0 : Int)] }) H) (M [] H))) ∧ ∀ (J : F) (H' : Heap), M [] H' → ∃ (I : List Value → Heap →
  Prop) (μ : List Value → Heap → Nat), I [Value.string { data := #[] }, Value.int IntKind.i64 (1 : Int)] H' ∧ ∀ (J : F) (s_1 : ByteArray) (n : Int) (H' : Heap), I [Value.string s_1, Value.int
  IntKind.i64 n] H' → brB (decide (n < (↑(ByteArray.size s) : Int))) (chk (decide ((0 : Int) ≤ n ∧ n < (↑(ByteArray.size s) : Int))) (brB ((↑(atB s (Int.toNat n)) : Int) == (34 : Int)) (R
  (Value.tuple { toList := [Value.string s_1, Value.int IntKind.i64 (IntKind.wrap IntKind.i64 (n + (1 : Int)))] }) H') (brB ((↑(atB s (Int.toNat n)) : Int) == (92 : Int)) (brB (IntKind.wrap
  IntKind.i64 (n + (1 : Int)) == (↑(ByteArray.size s) : Int)) (R (Value.tuple { toList := [Value.string { data := #[] }, Value.int IntKind.i64 (0 : Int)] }) H') (chk (decide ((0 : Int) ≤
  IntKind.wrap IntKind.i64 (n + (1 : Int)) ∧ IntKind.wrap IntKind.i64 (n + (1 : Int)) < (↑(ByteArray.size s) : Int))) (brB ((↑(atB s (Int.toNat (IntKind.wrap IntKind.i64 (n + (1 : Int))))) :
  Int) == (110 : Int)) (chk (decide (ByteArray.size s_1 + (1 : Nat) ≤ (9223372036854775807 : Nat))) (I [Value.string (s_1 ++ { data := #[(10 : UInt8)] }), Value.int IntKind.i64 (IntKind.wrap
  IntKind.i64 (IntKind.wrap IntKind.i64 (n + (1 : Int)) + (1 : Int)))] H' ∧ μ [Value.string (s_1 ++ { data := #[(10 : UInt8)] }), Value.int IntKind.i64 (IntKind.wrap IntKind.i64 (IntKind.wrap
  IntKind.i64 (n + (1 : Int)) + (1 : Int)))] H' < μ [Value.string s_1, Value.int IntKind.i64 n] H')) (chk (decide ((0 : Int) ≤ IntKind.wrap IntKind.i64 (n + (1 : Int)) ∧ IntKind.wrap
  IntKind.i64 (n + (1 : Int)) ≤ IntKind.wrap IntKind.i64 (IntKind.wrap IntKind.i64 (n + (1 : Int)) + (1 : Int)) ∧ IntKind.wrap IntKind.i64 (IntKind.wrap IntKind.i64 (n + (1 : Int)) + (1 :
  Int)) ≤ (↑(ByteArray.size s) : Int))) (chk (decide (ByteArray.size s_1 + ByteArray.size (ByteArray.extract s (Int.toNat (IntKind.wrap IntKind.i64 (n + (1 : Int)))) (Int.toNat (IntKind.wrap
  IntKind.i64 (IntKind.wrap IntKind.i64 (n + (1 : Int)) + (1 : Int))))) ≤ (9223372036854775807 : Nat))) (I [Value.string (s_1 ++ ByteArray.extract s (Int.toNat (IntKind.wrap IntKind.i64 (n +
  (1 : Int)))) (Int.toNat (IntKind.wrap IntKind.i64 (IntKind.wrap IntKind.i64 (n + (1 : Int)) + (1 : Int))))), Value.int IntKind.i64 (IntKind.wrap IntKind.i64 (IntKind.wrap IntKind.i64 (n + (1
  : Int)) + (1 : Int)))] H' ∧ μ [Value.string (s_1 ++ ByteArray.extract s (Int.toNat (IntKind.wrap IntKind.i64 (n + (1 : Int)))) (Int.toNat (IntKind.wrap IntKind.i64 (IntKind.wrap IntKind.i64
  (n + (1 : Int)) + (1 : Int))))), Value.int IntKind.i64 (IntKind.wrap IntKind.i64 (IntKind.wrap IntKind.i64 (n + (1 : Int)) + (1 : Int)))] H' < μ [Value.string s_1, Value.int IntKind.i64 n]
  H')))))) (chk (decide ((0 : Int) ≤ n ∧ n ≤ IntKind.wrap IntKind.i64 (n + (1 : Int)) ∧ IntKind.wrap IntKind.i64 (n + (1 : Int)) ≤ (↑(ByteArray.size s) : Int))) (chk (decide (ByteArray.size
  s_1 + ByteArray.size (ByteArray.extract s (Int.toNat n) (Int.toNat (IntKind.wrap IntKind.i64 (n + (1 : Int))))) ≤ (9223372036854775807 : Nat))) (I [Value.string (s_1 ++ ByteArray.extract s
  (Int.toNat n) (Int.toNat (IntKind.wrap IntKind.i64 (n + (1 : Int))))), Value.int IntKind.i64 (IntKind.wrap IntKind.i64 (n + (1 : Int)))] H' ∧ μ [Value.string (s_1 ++ ByteArray.extract s
  (Int.toNat n) (Int.toNat (IntKind.wrap IntKind.i64 (n + (1 : Int))))), Value.int IntKind.i64 (IntKind.wrap IntKind.i64 (n + (1 : Int)))] H' < μ [Value.string s_1, Value.int IntKind.i64 n]
  H')))))) (R (Value.tuple { toList := [Value.string { data := #[] }, Value.int IntKind.i64 (0 : Int)] }) H')) : CallH Try.prog 87 (List.toArray [Value.string s]) H R := vc_call (annOf [([1],
  .cut []), ([0, 1, 0, 1, 1, 1], .cut [(4, .one .str), (5, .one (.int .i64))])]) followsAll Go.Proofs.Try.func87 rfl Go.Proofs.Try.ntmps87 rfl rfl (Eq.mpr (by kernel_rfl) h)

/- 90 (*strings.Builder).copyCheck
  slots: [0=b, 1=b]  -/
abbrev fn_strings_Builder_copyCheck : Nat := 90
theorem vc_strings_Builder_copyCheck (b : Addr) (H : Heap) (R : Value → Heap → Prop) (h : ∃ a, Ld Try.prog (95 : Nat) H b (Value.pointer a) ∧ brB (Option.isNone a) (SemWp Try.prog (convert
  (95 : Nat) (145 : Nat) (Value.pointer (some b))) H fun v H' => ∃ v_1, v = v_1 ∧ ExtH Try.prog (113 : Nat) { toList := [v_1] } H' fun v H' => ∃ v_2, v = v_2 ∧ SemWp Try.prog (convert (145 :
  Nat) (95 : Nat) v_2) H' fun v H' => ∃ a, v = Value.pointer a ∧ ∃ H'_1, St Try.prog (95 : Nat) H' b (Value.pointer a) H'_1 ∧ R (Value.tuple ⟨[]⟩) H'_1) (∃ a, Ld Try.prog (95 : Nat) H b
  (Value.pointer a) ∧ ∃ r, RdA Try.prog (eqSem BinOp.neq (95 : Nat) (Operand.tmp (17 : Nat)) (Operand.tmp (18 : Nat)) (Value.pointer a) (Value.pointer (some b))) (Value.bool r) ∧ brB r False
  (R (Value.tuple ⟨[]⟩) H))) : CallH Try.prog 90 (List.toArray [Value.pointer (some b)]) H R := vc_call (annOf []) followsAll Go.Proofs.Try.func90 rfl Go.Proofs.Try.ntmps90 rfl rfl (Eq.mpr (by
  kernel_rfl) h)

/- 91 unicode/utf8.RuneLen
  slots: [0=r, 1=r]  -/
abbrev fn_unicode_utf8_RuneLen : Nat := 91
theorem vc_unicode_utf8_RuneLen (r : Int) (H : Heap) (R : Value → Heap → Prop) (h : brB (decide (r < (0 : Int))) (R (Value.int IntKind.i64 (-1 : Int)) H) (brB (decide (r ≤ (127 : Int))) (R
  (Value.int IntKind.i64 (1 : Int)) H) (brB (decide (r ≤ (2047 : Int))) (R (Value.int IntKind.i64 (2 : Int)) H) (brB (decide ((55296 : Int) ≤ r)) (brB (decide (r ≤ (57343 : Int))) (R
  (Value.int IntKind.i64 (-1 : Int)) H) (brB (decide (r ≤ (65535 : Int))) (R (Value.int IntKind.i64 (3 : Int)) H) (brB (decide (r ≤ (1114111 : Int))) (R (Value.int IntKind.i64 (4 : Int)) H) (R
  (Value.int IntKind.i64 (-1 : Int)) H)))) (brB (decide (r ≤ (65535 : Int))) (R (Value.int IntKind.i64 (3 : Int)) H) (brB (decide (r ≤ (1114111 : Int))) (R (Value.int IntKind.i64 (4 : Int)) H)
  (R (Value.int IntKind.i64 (-1 : Int)) H))))))) : CallH Try.prog 91 (List.toArray [Value.int IntKind.i32 r]) H R := vc_call (annOf []) followsAll Go.Proofs.Try.func91 rfl
  Go.Proofs.Try.ntmps91 rfl rfl (Eq.mpr (by kernel_rfl) h)

/- 92 strandline/match.kinds
  slots: []  -/
abbrev fn_match_kinds : Nat := 92
theorem vc_match_kinds (H : Heap) (R : Value → Heap → Prop) (h : ∀ (b : Nat) (H' : Heap), New H b (Obj.cells { toList := [Value.string { data := #[] }, Value.nilFunc, Value.string { data :=
  #[] }, Value.nilFunc, Value.string { data := #[] }, Value.nilFunc, Value.string { data := #[] }, Value.nilFunc] } (126 : Nat)) H' → ∃ H'_1, St Try.prog (126 : Nat) H' ⟨b, (0 : Nat), none⟩
  (Value.agg { toList := [Value.string { data := #[(61 : UInt8)] }, Value.func (Fn.func (114 : Nat)) ⟨[]⟩ ⟨[]⟩, Value.string { data := #[(33 : UInt8), (61 : UInt8)] }, Value.func (Fn.func (115
  : Nat)) ⟨[]⟩ ⟨[]⟩, Value.string { data := #[(94 : UInt8), (61 : UInt8)] }, Value.func (Fn.func (116 : Nat)) ⟨[]⟩ ⟨[]⟩, Value.string { data := #[(64 : UInt8), (61 : UInt8)] }, Value.func
  (Fn.func (118 : Nat)) ⟨[]⟩ ⟨[]⟩] }) H'_1 ∧ ∃ s v s_1 v_1 s_2 v_2 s_3 v_3, Ld Try.prog (126 : Nat) H'_1 ⟨b, (0 : Nat), none⟩ (Value.agg { toList := [Value.string s, v, Value.string s_1, v_1,
  Value.string s_2, v_2, Value.string s_3, v_3] }) ∧ R (Value.agg { toList := [Value.string s, v, Value.string s_1, v_1, Value.string s_2, v_2, Value.string s_3, v_3] }) H'_1) : CallH Try.prog
  92 (List.toArray []) H R := vc_call (annOf []) followsAll Go.Proofs.Try.func92 rfl Go.Proofs.Try.ntmps92 rfl rfl (Eq.mpr (by kernel_rfl) h)

/- 93 strandline/label.Get
  slots: [0=l, 1=name, 2=l, 3=name, 5=_, 6=x]  -/
abbrev fn_label_Get : Nat := 93
theorem vc_label_Get (l_a : Option Addr) (l_n : Nat) (l_c : Nat) (name : ByteArray) (H : Heap) (R : Value → Heap → Prop) (h : ∃ (I : List Value → Heap → Prop) (μ : List Value → Heap → Nat),
  I [Value.int IntKind.i64 (0 : Int)] H ∧ ∀ (J : F) (n : Int) (H' : Heap), I [Value.int IntKind.i64 n] H' → brB (decide (n < (↑l_n : Int))) (exSome l_a fun ad => chk (decide ((0 : Int) ≤ n ∧ n
  < (↑l_n : Int))) (∃ s s_1, Ld Try.prog (64 : Nat) H' (Addr.add ad (Int.toNat n * (2 : Nat))) (Value.agg { toList := [Value.string s, Value.string s_1] }) ∧ ∀ (b : Nat) (H'_1 : Heap), New H'
  b (Obj.cells { toList := [Value.string { data := #[] }, Value.string { data := #[] }] } (64 : Nat)) H'_1 → ∃ H'_2, St Try.prog (64 : Nat) H'_1 ⟨b, (0 : Nat), none⟩ (Value.agg { toList :=
  [Value.string s, Value.string s_1] }) H'_2 ∧ ∃ s, Ld Try.prog (9 : Nat) H'_2 ⟨b, (0 : Nat), none⟩ (Value.string s) ∧ brB (ByteArray.toList s == ByteArray.toList name) (∃ s, Ld Try.prog (9 :
  Nat) H'_2 ⟨b, (1 : Nat), none⟩ (Value.string s) ∧ R (Value.string s) H'_2) (I [Value.int IntKind.i64 (IntKind.wrap IntKind.i64 (n + (1 : Int)))] H'_2 ∧ μ [Value.int IntKind.i64 (IntKind.wrap
  IntKind.i64 (n + (1 : Int)))] H'_2 < μ [Value.int IntKind.i64 n] H'))) (R (Value.string { data := #[] }) H')) : CallH Try.prog 93 (List.toArray [Value.slice l_a l_n l_c, Value.string name])
  H R := vc_call (annOf [([0, 1, 0, 1], .cut [(9, .one (.int .i64))])]) followsAll Go.Proofs.Try.func93 rfl Go.Proofs.Try.ntmps93 rfl rfl (Eq.mpr (by kernel_rfl) h)

/- 94 strandline/post.Union
  slots: [0=lists, 1=lists, 3=n]  -/
abbrev fn_post_Union : Nat := 94
theorem vc_post_Union (lists_a : Option Addr) (lists_n : Nat) (lists_c : Nat) (H : Heap) (R : Value → Heap → Prop) (h : brB ((↑lists_n : Int) == (0 : Int)) (R (Value.slice none (0 : Nat) (0
  : Nat)) H) (brB ((↑lists_n : Int) == (1 : Int)) (exSome lists_a fun ad => chk (decide ((0 : Int) ≤ (0 : Int) ∧ (0 : Int) < (↑lists_n : Int))) (∃ a n c, Ld Try.prog (40 : Nat) H ad
  (Value.slice a n c) ∧ CallH Try.prog (120 : Nat) { toList := [Value.slice a n c] } H fun v H' => ∃ a n c, v = Value.slice a n c ∧ R (Value.slice a n c) H')) (chk (decide ((0 : Int) ≤ (0 :
  Int) ∧ (0 : Int) ≤ IntKind.wrap IntKind.i64 (Int.tdiv (↑lists_n : Int) (2 : Int)) ∧ IntKind.wrap IntKind.i64 (Int.tdiv (↑lists_n : Int) (2 : Int)) ≤ (↑lists_c : Int))) (chk (decide ((0 :
  Int) ≤ IntKind.wrap IntKind.i64 (Int.tdiv (↑lists_n : Int) (2 : Int)) ∧ IntKind.wrap IntKind.i64 (Int.tdiv (↑lists_n : Int) (2 : Int)) ≤ (↑lists_n : Int) ∧ (↑lists_n : Int) ≤ (↑lists_c :
  Int))) (CallH Try.prog (94 : Nat) { toList := [Value.slice lists_a (Int.toNat (IntKind.wrap IntKind.i64 (Int.tdiv (↑lists_n : Int) (2 : Int))) - (0 : Nat)) (lists_c - (0 : Nat))] } H fun v
  H' => ∃ a n c, v = Value.slice a n c ∧ CallH Try.prog (94 : Nat) { toList := [Value.slice (slA lists_c (Int.toNat (IntKind.wrap IntKind.i64 (Int.tdiv (↑lists_n : Int) (2 : Int)))) (1 : Nat)
  lists_a) (Int.toNat (↑lists_n : Int) - Int.toNat (IntKind.wrap IntKind.i64 (Int.tdiv (↑lists_n : Int) (2 : Int)))) (lists_c - Int.toNat (IntKind.wrap IntKind.i64 (Int.tdiv (↑lists_n : Int)
  (2 : Int))))] } H' fun v H' => ∃ a_1 n_1 c_1, v = Value.slice a_1 n_1 c_1 ∧ CallH Try.prog (75 : Nat) { toList := [Value.slice a n c, Value.slice a_1 n_1 c_1] } H' fun v H' => ∃ a n c, v =
  Value.slice a n c ∧ R (Value.slice a n c) H'))))) : CallH Try.prog 94 (List.toArray [Value.slice lists_a lists_n lists_c]) H R := vc_call (annOf [([0, 1, 1, 1, 1, 0, 1, 1, 1], .reg [0, 0, 2,
  7, 15, 0, 0, 64, 224, 511, 1023, 2047] (.quiet 0 (.quiet 1 (.quiet 2 (.quiet 3 (.quiet 5 (.quiet 6 (.quiet 7 (.quiet 8 (.pick (.alt 4 (.pick (.alt 9 (.pick (.alt 10 (.quiet 11 .done) .stop))
  .stop)) .stop)))))))))))]) followsAll Go.Proofs.Try.func94 rfl Go.Proofs.Try.ntmps94 rfl rfl (Eq.mpr (by kernel_rfl) h)

/- 95 strandline/post.Or$1
  slots: []  -/
abbrev fn_post_Or_1 : Nat := 95
theorem vc_post_Or_1 (a0 : Bool) (a1 : Bool) (H : Heap) (R : Value → Heap → Prop) (h : R (Value.bool true) H) : CallH Try.prog 95 (List.toArray [Value.bool a0, Value.bool a1]) H R := vc_call
  (annOf []) followsAll Go.Proofs.Try.func95 rfl Go.Proofs.Try.ntmps95 rfl rfl (Eq.mpr (by kernel_rfl) h)

/- 96 strandline/post.Not$1
  slots: [0=first, 1=second, 2=first, 3=second]  -/
abbrev fn_post_Not_1 : Nat := 96
theorem vc_post_Not_1 (first : Bool) (second : Bool) (H : Heap) (R : Value → Heap → Prop) (h : brB first (R (Value.bool !second) H) (R (Value.bool false) H)) : CallH Try.prog 96
  (List.toArray [Value.bool first, Value.bool second]) H R := vc_call (annOf []) followsAll Go.Proofs.Try.func96 rfl Go.Proofs.Try.ntmps96 rfl rfl (Eq.mpr (by kernel_rfl) h)

/- 97 strandline/strandlineref04.wide
  slots: [0=s, 1=s, 3=c, 4=n, 5=r, 6=i]  -/
abbrev fn_ref04_wide : Nat := 97
theorem vc_ref04_wide (s : ByteArray) (H : Heap) (R : Value → Heap → Prop) (h : chk (decide ((0 : Int) ≤ (0 : Int) ∧ (0 : Int) < (↑(ByteArray.size s) : Int))) (∃ (M : List Value → Heap →
  Prop), brB (decide (IntKind.wrap IntKind.i64 (↑(atB s (Int.toNat (0 : Int))) : Int) < (128 : Int))) (R (Value.int IntKind.i64 (1 : Int)) H) (∃ (M_1 : List Value → Heap → Prop), brB (decide
  (IntKind.wrap IntKind.i64 (↑(atB s (Int.toNat (0 : Int))) : Int) ≥ (192 : Int))) (M_1 [Value.bool (decide (IntKind.wrap IntKind.i64 (↑(atB s (0 : Nat)) : Int) < (224 : Int)))] H) (M_1
  [Value.bool false] H) ∧ ∀ (J : F) (b : Bool) (H' : Heap), M_1 [Value.bool b] H' → brB b (M [Value.int IntKind.i64 (2 : Int), Value.int IntKind.i64 (IntKind.wrap IntKind.i64 (IntKind.wrap
  IntKind.i64 (↑(atB s (0 : Nat)) : Int) - (192 : Int)))] H') (∃ (M_2 : List Value → Heap → Prop), brB (decide (IntKind.wrap IntKind.i64 (↑(atB s (Int.toNat (0 : Int))) : Int) ≥ (224 : Int)))
  (M_2 [Value.bool (decide (IntKind.wrap IntKind.i64 (↑(atB s (0 : Nat)) : Int) < (240 : Int)))] H') (M_2 [Value.bool false] H') ∧ ∀ (J : F) (b : Bool) (H' : Heap), M_2 [Value.bool b] H' → brB
  b (M [Value.int IntKind.i64 (3 : Int), Value.int IntKind.i64 (IntKind.wrap IntKind.i64 (IntKind.wrap IntKind.i64 (↑(atB s (0 : Nat)) : Int) - (224 : Int)))] H') (brB (decide (IntKind.wrap
  IntKind.i64 (↑(atB s (Int.toNat (0 : Int))) : Int) ≥ (240 : Int))) (brB (decide (IntKind.wrap IntKind.i64 (↑(atB s (Int.toNat (0 : Int))) : Int) < (248 : Int))) (M [Value.int IntKind.i64 (4
  : Int), Value.int IntKind.i64 (IntKind.wrap IntKind.i64 (IntKind.wrap IntKind.i64 (↑(atB s (0 : Nat)) : Int) - (240 : Int)))] H') (M [Value.int IntKind.i64 (0 : Int), Value.int IntKind.i64
  (0 : Int)] H')) (M [Value.int IntKind.i64 (0 : Int), Value.int IntKind.i64 (0 : Int)] H')))) ∧ ∀ (J : F) (n n_1 : Int) (H' : Heap), M [Value.int IntKind.i64 n, Value.int IntKind.i64 n_1] H'
  → ∃ (M : List Value → Heap → Prop), brB (n == (0 : Int)) (R (Value.int IntKind.i64 (0 : Int)) H') (brB (decide ((↑(ByteArray.size s) : Int) < n)) (R (Value.int IntKind.i64 (0 : Int)) H') (M
  [] H')) ∧ ∀ (J : F) (H' : Heap), M [] H' → ∃ (I : List Value → Heap → Prop) (μ : List Value → Heap → Nat), I [Value.int IntKind.i64 n_1, Value.int IntKind.i64 (1 : Int)] H' ∧ ∀ (J : F) (n_2
  n_3 : Int) (H' : Heap), I [Value.int IntKind.i64 n_2, Value.int IntKind.i64 n_3] H' → brB (decide (n_3 < n)) (∃ (M : List Value → Heap → Prop), chk (decide ((0 : Int) ≤ n_3 ∧ n_3 <
  (↑(ByteArray.size s) : Int))) (brB (decide ((↑(atB s (Int.toNat n_3)) : Int) < (128 : Int))) (R (Value.int IntKind.i64 (0 : Int)) H') (chk (decide ((0 : Int) ≤ n_3 ∧ n_3 < (↑(ByteArray.size
  s) : Int))) (brB (decide ((↑(atB s (Int.toNat n_3)) : Int) ≥ (192 : Int))) (R (Value.int IntKind.i64 (0 : Int)) H') (M [] H')))) ∧ ∀ (J : F) (H'_1 : Heap), M [] H'_1 → chk (decide ((0 : Int)
  ≤ n_3 ∧ n_3 < (↑(ByteArray.size s) : Int))) (I [Value.int IntKind.i64 (IntKind.wrap IntKind.i64 (IntKind.wrap IntKind.i64 (IntKind.wrap IntKind.i64 (n_2 * (64 : Int)) + IntKind.wrap
  IntKind.i64 (↑(atB s (Int.toNat n_3)) : Int)) - (128 : Int))), Value.int IntKind.i64 (IntKind.wrap IntKind.i64 (n_3 + (1 : Int)))] H'_1 ∧ μ [Value.int IntKind.i64 (IntKind.wrap IntKind.i64
  (IntKind.wrap IntKind.i64 (IntKind.wrap IntKind.i64 (n_2 * (64 : Int)) + IntKind.wrap IntKind.i64 (↑(atB s (Int.toNat n_3)) : Int)) - (128 : Int))), Value.int IntKind.i64 (IntKind.wrap
  IntKind.i64 (n_3 + (1 : Int)))] H'_1 < μ [Value.int IntKind.i64 n_2, Value.int IntKind.i64 n_3] H')) (∃ (M : List Value → Heap → Prop), brB (n == (2 : Int)) (brB (decide (n_2 < (128 : Int)))
  (R (Value.int IntKind.i64 (0 : Int)) H') (brB (n == (3 : Int)) (brB (decide (n_2 < (2048 : Int))) (R (Value.int IntKind.i64 (0 : Int)) H') (brB (n == (4 : Int)) (brB (decide (n_2 < (65536 :
  Int))) (R (Value.int IntKind.i64 (0 : Int)) H') (brB (decide (n_2 > (1114111 : Int))) (R (Value.int IntKind.i64 (0 : Int)) H') (brB (decide (n_2 ≥ (55296 : Int))) (brB (decide (n_2 < (57344
  : Int))) (R (Value.int IntKind.i64 (0 : Int)) H') (M [] H')) (M [] H')))) (brB (decide (n_2 > (1114111 : Int))) (R (Value.int IntKind.i64 (0 : Int)) H') (brB (decide (n_2 ≥ (55296 : Int)))
  (brB (decide (n_2 < (57344 : Int))) (R (Value.int IntKind.i64 (0 : Int)) H') (M [] H')) (M [] H'))))) (brB (n == (4 : Int)) (brB (decide (n_2 < (65536 : Int))) (R (Value.int IntKind.i64 (0 :
  Int)) H') (brB (decide (n_2 > (1114111 : Int))) (R (Value.int IntKind.i64 (0 : Int)) H') (brB (decide (n_2 ≥ (55296 : Int))) (brB (decide (n_2 < (57344 : Int))) (R (Value.int IntKind.i64 (0
  : Int)) H') (M [] H')) (M [] H')))) (brB (decide (n_2 > (1114111 : Int))) (R (Value.int IntKind.i64 (0 : Int)) H') (brB (decide (n_2 ≥ (55296 : Int))) (brB (decide (n_2 < (57344 : Int))) (R
  (Value.int IntKind.i64 (0 : Int)) H') (M [] H')) (M [] H')))))) (brB (n == (3 : Int)) (brB (decide (n_2 < (2048 : Int))) (R (Value.int IntKind.i64 (0 : Int)) H') (brB (n == (4 : Int)) (brB
  (decide (n_2 < (65536 : Int))) (R (Value.int IntKind.i64 (0 : Int)) H') (brB (decide (n_2 > (1114111 : Int))) (R (Value.int IntKind.i64 (0 : Int)) H') (brB (decide (n_2 ≥ (55296 : Int)))
  (brB (decide (n_2 < (57344 : Int))) (R (Value.int IntKind.i64 (0 : Int)) H') (M [] H')) (M [] H')))) (brB (decide (n_2 > (1114111 : Int))) (R (Value.int IntKind.i64 (0 : Int)) H') (brB
  (decide (n_2 ≥ (55296 : Int))) (brB (decide (n_2 < (57344 : Int))) (R (Value.int IntKind.i64 (0 : Int)) H') (M [] H')) (M [] H'))))) (brB (n == (4 : Int)) (brB (decide (n_2 < (65536 : Int)))
  (R (Value.int IntKind.i64 (0 : Int)) H') (brB (decide (n_2 > (1114111 : Int))) (R (Value.int IntKind.i64 (0 : Int)) H') (brB (decide (n_2 ≥ (55296 : Int))) (brB (decide (n_2 < (57344 :
  Int))) (R (Value.int IntKind.i64 (0 : Int)) H') (M [] H')) (M [] H')))) (brB (decide (n_2 > (1114111 : Int))) (R (Value.int IntKind.i64 (0 : Int)) H') (brB (decide (n_2 ≥ (55296 : Int)))
  (brB (decide (n_2 < (57344 : Int))) (R (Value.int IntKind.i64 (0 : Int)) H') (M [] H')) (M [] H'))))) ∧ ∀ (J : F) (H' : Heap), M [] H' → R (Value.int IntKind.i64 n) H'))) : CallH Try.prog 97
  (List.toArray [Value.string s]) H R := vc_call (annOf [([1, 1, 1, 1], .cut [(4, .one (.int .i64)), (5, .one (.int .i64))]), ([1, 1, 0, 0, 1, 1, 1, 1], .cut [(13, .one .bool)]), ([1, 1, 1, 1,
  0, 0, 1, 1, 1, 1], .cut [(22, .one .bool)]), ([1, 1, 1, 1, 1], .cut []), ([0, 1, 0, 1, 1, 1, 1, 1, 1], .cut [(5, .one (.int .i64)), (6, .one (.int .i64))]), ([0, 0, 1, 0, 0, 1, 0, 1, 1, 1,
  1, 1, 1], .cut []), ([1, 1, 1, 1, 1, 1, 1], .cut [])]) followsAll Go.Proofs.Try.func97 rfl Go.Proofs.Try.ntmps97 rfl rfl (Eq.mpr (by kernel_rfl) h)

/- 98 (*strings.Builder).WriteByte
  slots: [0=b, 1=c, 2=b, 3=c]  -/
abbrev fn_strings_Builder_WriteByte : Nat := 98
theorem vc_strings_Builder_WriteByte (b : Addr) (c : Int) (H : Heap) (R : Value → Heap → Prop) (h : CallH Try.prog (90 : Nat) { toList := [Value.pointer (some b)] } H fun v H' => v =
  Value.tuple ⟨[]⟩ ∧ ∃ a n c_1, Ld Try.prog (96 : Nat) H' (Addr.add b (1 : Nat)) (Value.slice a n c_1) ∧ ∀ (b_1 : Nat) (H'_1 : Heap), New H' b_1 (Obj.cells { toList := [Value.int IntKind.u8 c]
  } (5 : Nat)) H'_1 → SemWp Try.prog (Builtin.append_ { toList := [(96 : Nat), (96 : Nat)] } (96 : Nat) { toList := [Value.slice a n c_1, Value.slice (some ⟨b_1, (0 : Nat), none⟩) (1 : Nat) (1
  : Nat)] }) H'_1 fun v H' => ∃ a n c, v = Value.slice a n c ∧ ∃ H'_2, St Try.prog (96 : Nat) H' (Addr.add b (1 : Nat)) (Value.slice a n c) H'_2 ∧ R Value.nilIface H'_2) : CallH Try.prog 98
  (List.toArray [Value.pointer (some b), Value.int IntKind.u8 c]) H R := vc_call (annOf []) followsAll Go.Proofs.Try.func98 rfl Go.Proofs.Try.ntmps98 rfl rfl (Eq.mpr (by kernel_rfl) h)

/- 99 (*strings.Builder).Grow
  slots: [0=b, 1=n, 2=b, 3=n]  -/
abbrev fn_strings_Builder_Grow : Nat := 99
theorem vc_strings_Builder_Grow (b : Addr) (n : Int) (H : Heap) (R : Value → Heap → Prop) (h : CallH Try.prog (90 : Nat) { toList := [Value.pointer (some b)] } H fun v H' => v = Value.tuple
  ⟨[]⟩ ∧ brB (decide (n < (0 : Int))) False (∃ a n_1 c, Ld Try.prog (96 : Nat) H' (Addr.add b (1 : Nat)) (Value.slice a n_1 c) ∧ ∃ a n_2 c_1, Ld Try.prog (96 : Nat) H' (Addr.add b (1 : Nat))
  (Value.slice a n_2 c_1) ∧ brB (decide (IntKind.wrap IntKind.i64 ((↑c : Int) - (↑n_2 : Int)) < n)) (CallH Try.prog (121 : Nat) { toList := [Value.pointer (some b), Value.int IntKind.i64 n] }
  H' fun v H' => v = Value.tuple ⟨[]⟩ ∧ R (Value.tuple ⟨[]⟩) H') (R (Value.tuple ⟨[]⟩) H'))) : CallH Try.prog 99 (List.toArray [Value.pointer (some b), Value.int IntKind.i64 n]) H R := vc_call
  (annOf []) followsAll Go.Proofs.Try.func99 rfl Go.Proofs.Try.ntmps99 rfl rfl (Eq.mpr (by kernel_rfl) h)

/- 100 strings.CutPrefix
  slots: [0=s, 1=prefix, 2=s, 3=prefix, 4=after, 5=found]  -/
abbrev fn_strings_CutPrefix : Nat := 100
theorem vc_strings_CutPrefix (s : ByteArray) (prefix_ : ByteArray) (H : Heap) (R : Value → Heap → Prop) (h : CallH Try.prog (122 : Nat) { toList := [Value.string s, Value.string «prefix_»] }
  H fun v H' => ∃ s b, v = Value.tuple { toList := [Value.string s, Value.bool b] } ∧ R (Value.tuple { toList := [Value.string s, Value.bool b] }) H') : CallH Try.prog 100 (List.toArray
  [Value.string s, Value.string «prefix_»]) H R := vc_call (annOf []) followsAll Go.Proofs.Try.func100 rfl Go.Proofs.Try.ntmps100 rfl rfl (Eq.mpr (by kernel_rfl) h)

/- 101 internal/stringslite.Cut
  slots: [0=s, 1=sep, 2=s, 3=sep, 4=before, 5=after, 6=found, 7=i]  -/
abbrev fn_internal_stringslite_Cut : Nat := 101
theorem vc_internal_stringslite_Cut (s : ByteArray) (sep : ByteArray) (H : Heap) (R : Value → Heap → Prop) (h : CallH Try.prog (123 : Nat) { toList := [Value.string s, Value.string sep] } H
  fun v H' => ∃ n, v = Value.int IntKind.i64 n ∧ brB (decide (n ≥ (0 : Int))) (chk (decide ((0 : Int) ≤ (0 : Int) ∧ (0 : Int) ≤ n ∧ n ≤ (↑(ByteArray.size s) : Int))) (chk (decide ((0 : Int) ≤
  IntKind.wrap IntKind.i64 (n + (↑(ByteArray.size sep) : Int)) ∧ IntKind.wrap IntKind.i64 (n + (↑(ByteArray.size sep) : Int)) ≤ (↑(ByteArray.size s) : Int) ∧ (↑(ByteArray.size s) : Int) ≤
  (↑(ByteArray.size s) : Int))) (R (Value.tuple { toList := [Value.string (ByteArray.extract s (0 : Nat) (Int.toNat n)), Value.string (ByteArray.extract s (Int.toNat (IntKind.wrap IntKind.i64
  (n + (↑(ByteArray.size sep) : Int)))) (Int.toNat (↑(ByteArray.size s) : Int))), Value.bool true] }) H'))) (R (Value.tuple { toList := [Value.string s, Value.string { data := #[] },
  Value.bool false] }) H')) : CallH Try.prog 101 (List.toArray [Value.string s, Value.string sep]) H R := vc_call (annOf []) followsAll Go.Proofs.Try.func101 rfl Go.Proofs.Try.ntmps101 rfl rfl
  (Eq.mpr (by kernel_rfl) h)

/- 114 strandline/match.kinds$1
  slots: [0=m, 1=v, 2=m, 3=v]  -/
abbrev fn_match_kinds_1 : Nat := 114
theorem vc_match_kinds_1 (m_0 : Int) (m_1 : ByteArray) (m_2 : ByteArray) (m_3_a : Option Addr) (m_3_n : Nat) (m_3_c : Nat) (v : ByteArray) (H : Heap) (R : Value → Heap → Prop) (h : ∀ (b :
  Nat) (H' : Heap), New H b (Obj.cells { toList := [Value.int IntKind.i64 m_0, Value.string m_1, Value.string m_2, Value.slice m_3_a m_3_n m_3_c] } (47 : Nat)) H' → ∃ s, Ld Try.prog (9 : Nat)
  H' ⟨b, (2 : Nat), none⟩ (Value.string s) ∧ R (Value.bool (ByteArray.toList v == ByteArray.toList s)) H') : CallH Try.prog 114 (List.toArray [Value.agg #[Value.int IntKind.i64 m_0,
  Value.string m_1, Value.string m_2, Value.slice m_3_a m_3_n m_3_c], Value.string v]) H R := vc_call (annOf []) followsAll Go.Proofs.Try.func114 rfl Go.Proofs.Try.ntmps114 rfl rfl (Eq.mpr (by
  kernel_rfl) h)

/- 115 strandline/match.kinds$2
  slots: [0=m, 1=v, 2=m, 3=v]  -/
abbrev fn_match_kinds_2 : Nat := 115
theorem vc_match_kinds_2 (m_0 : Int) (m_1 : ByteArray) (m_2 : ByteArray) (m_3_a : Option Addr) (m_3_n : Nat) (m_3_c : Nat) (v : ByteArray) (H : Heap) (R : Value → Heap → Prop) (h : ∀ (b :
  Nat) (H' : Heap), New H b (Obj.cells { toList := [Value.int IntKind.i64 m_0, Value.string m_1, Value.string m_2, Value.slice m_3_a m_3_n m_3_c] } (47 : Nat)) H' → ∃ s, Ld Try.prog (9 : Nat)
  H' ⟨b, (2 : Nat), none⟩ (Value.string s) ∧ R (Value.bool !ByteArray.toList v == ByteArray.toList s) H') : CallH Try.prog 115 (List.toArray [Value.agg #[Value.int IntKind.i64 m_0,
  Value.string m_1, Value.string m_2, Value.slice m_3_a m_3_n m_3_c], Value.string v]) H R := vc_call (annOf []) followsAll Go.Proofs.Try.func115 rfl Go.Proofs.Try.ntmps115 rfl rfl (Eq.mpr (by
  kernel_rfl) h)

/- 116 strandline/match.kinds$3
  slots: [0=m, 1=v, 2=m, 3=v]  -/
abbrev fn_match_kinds_3 : Nat := 116
theorem vc_match_kinds_3 (m_0 : Int) (m_1 : ByteArray) (m_2 : ByteArray) (m_3_a : Option Addr) (m_3_n : Nat) (m_3_c : Nat) (v : ByteArray) (H : Heap) (R : Value → Heap → Prop) (h : ∀ (b :
  Nat) (H' : Heap), New H b (Obj.cells { toList := [Value.int IntKind.i64 m_0, Value.string m_1, Value.string m_2, Value.slice m_3_a m_3_n m_3_c] } (47 : Nat)) H' → ∃ s, Ld Try.prog (9 : Nat)
  H' ⟨b, (2 : Nat), none⟩ (Value.string s) ∧ CallH Try.prog (117 : Nat) { toList := [Value.string v, Value.string s] } H' fun v H' => ∃ b, v = Value.bool b ∧ R (Value.bool b) H') : CallH
  Try.prog 116 (List.toArray [Value.agg #[Value.int IntKind.i64 m_0, Value.string m_1, Value.string m_2, Value.slice m_3_a m_3_n m_3_c], Value.string v]) H R := vc_call (annOf []) followsAll
  Go.Proofs.Try.func116 rfl Go.Proofs.Try.ntmps116 rfl rfl (Eq.mpr (by kernel_rfl) h)

/- 117 strings.HasPrefix
  slots: [0=s, 1=prefix, 2=s, 3=prefix]  -/
abbrev fn_strings_HasPrefix : Nat := 117
theorem vc_strings_HasPrefix (s : ByteArray) (prefix_ : ByteArray) (H : Heap) (R : Value → Heap → Prop) (h : CallH Try.prog (130 : Nat) { toList := [Value.string s, Value.string «prefix_»] }
  H fun v H' => ∃ b, v = Value.bool b ∧ R (Value.bool b) H') : CallH Try.prog 117 (List.toArray [Value.string s, Value.string «prefix_»]) H R := vc_call (annOf []) followsAll
  Go.Proofs.Try.func117 rfl Go.Proofs.Try.ntmps117 rfl rfl (Eq.mpr (by kernel_rfl) h)

/- 118 strandline/match.kinds$4
  slots: [0=m, 1=v, 2=m, 3=v]  -/
abbrev fn_match_kinds_4 : Nat := 118
theorem vc_match_kinds_4 (m_0 : Int) (m_1 : ByteArray) (m_2 : ByteArray) (m_3_a : Option Addr) (m_3_n : Nat) (m_3_c : Nat) (v : ByteArray) (H : Heap) (R : Value → Heap → Prop) (h : ∀ (b :
  Nat) (H' : Heap), New H b (Obj.cells { toList := [Value.int IntKind.i64 m_0, Value.string m_1, Value.string m_2, Value.slice m_3_a m_3_n m_3_c] } (47 : Nat)) H' → ∃ a n c, Ld Try.prog (45 :
  Nat) H' ⟨b, (3 : Nat), none⟩ (Value.slice a n c) ∧ CallH Try.prog (119 : Nat) { toList := [Value.slice a n c, Value.string v] } H' fun v H' => ∃ b, v = Value.bool b ∧ R (Value.bool b) H') :
  CallH Try.prog 118 (List.toArray [Value.agg #[Value.int IntKind.i64 m_0, Value.string m_1, Value.string m_2, Value.slice m_3_a m_3_n m_3_c], Value.string v]) H R := vc_call (annOf [])
  followsAll Go.Proofs.Try.func118 rfl Go.Proofs.Try.ntmps118 rfl rfl (Eq.mpr (by kernel_rfl) h)

/- 119 slices.Contains[[]string,string]
  slots: [0=s, 1=v, 2=s, 3=v]  -/
abbrev fn_slices_Contains___string_string_ : Nat := 119
theorem vc_slices_Contains___string_string_ (s_a : Option Addr) (s_n : Nat) (s_c : Nat) (v : ByteArray) (H : Heap) (R : Value → Heap → Prop) (h : CallH Try.prog (131 : Nat) { toList :=
  [Value.slice s_a s_n s_c, Value.string v] } H fun v H' => ∃ n, v = Value.int IntKind.i64 n ∧ R (Value.bool (decide (n ≥ (0 : Int)))) H') : CallH Try.prog 119 (List.toArray [Value.slice s_a
  s_n s_c, Value.string v]) H R := vc_call (annOf []) followsAll Go.Proofs.Try.func119 rfl Go.Proofs.Try.ntmps119 rfl rfl (Eq.mpr (by kernel_rfl) h)

/- 120 slices.Clone[[]int,int]
  slots: [0=s, 1=s]  -/
abbrev fn_slices_Clone___int_int_ : Nat := 120
theorem vc_slices_Clone___int_int_ (s_a : Option Addr) (s_n : Nat) (s_c : Nat) (H : Heap) (R : Value → Heap → Prop) (h : brB (Option.isNone s_a) (R (Value.slice none (0 : Nat) (0 : Nat)) H)
  (∀ (b : Nat) (H' : Heap), New H b (Obj.cells ⟨[]⟩ (3 : Nat)) H' → SemWp Try.prog (Builtin.append_ { toList := [(40 : Nat), (40 : Nat)] } (40 : Nat) { toList := [Value.slice (some ⟨b, (0 :
  Nat), none⟩) (0 : Nat) (0 : Nat), Value.slice s_a s_n s_c] }) H' fun v H' => ∃ a n c, v = Value.slice a n c ∧ R (Value.slice a n c) H')) : CallH Try.prog 120 (List.toArray [Value.slice s_a
  s_n s_c]) H R := vc_call (annOf []) followsAll Go.Proofs.Try.func120 rfl Go.Proofs.Try.ntmps120 rfl rfl (Eq.mpr (by kernel_rfl) h)

/- 122 internal/stringslite.CutPrefix
  slots: [0=s, 1=prefix, 2=s, 3=prefix, 4=after, 5=found]  -/
abbrev fn_internal_stringslite_CutPrefix : Nat := 122
theorem vc_internal_stringslite_CutPrefix (s : ByteArray) (prefix_ : ByteArray) (H : Heap) (R : Value → Heap → Prop) (h : CallH Try.prog (130 : Nat) { toList := [Value.string s, Value.string
  «prefix_»] } H fun v H' => ∃ b, v = Value.bool b ∧ brB (!b) (R (Value.tuple { toList := [Value.string s, Value.bool false] }) H') (chk (decide ((0 : Int) ≤ (↑(ByteArray.size «prefix_») :
  Int) ∧ (↑(ByteArray.size «prefix_») : Int) ≤ (↑(ByteArray.size s) : Int) ∧ (↑(ByteArray.size s) : Int) ≤ (↑(ByteArray.size s) : Int))) (R (Value.tuple { toList := [Value.string
  (ByteArray.extract s (Int.toNat (↑(ByteArray.size «prefix_») : Int)) (Int.toNat (↑(ByteArray.size s) : Int))), Value.bool true] }) H'))) : CallH Try.prog 122 (List.toArray [Value.string s,
  Value.string «prefix_»]) H R := vc_call (annOf []) followsAll Go.Proofs.Try.func122 rfl Go.Proofs.Try.ntmps122 rfl rfl (Eq.mpr (by kernel_rfl) h)

/- 123 internal/stringslite.Index
  slots: [0=s, 1=substr, 2=s, 3=substr, 5=n, 6=c0, 7=c1, 8=i, 9=t, 10=fails, 11=o, 12=r, 13=j]  -/
abbrev fn_internal_stringslite_Index : Nat := 123
theorem vc_internal_stringslite_Index (s : ByteArray) (substr : ByteArray) (H : Heap) (R : Value → Heap → Prop) (h : ∃ (M : List Value → Heap → Prop), (∃ (M_1 : List Value → Heap → Prop),
  brB ((↑(ByteArray.size substr) : Int) == (0 : Int)) (M_1 [Value.bool true] H) (M_1 [Value.bool (ByteArray.toList substr == ByteArray.toList s)] H) ∧ ∀ (J : F) (b : Bool) (H' : Heap), M_1
  [Value.bool b] H' → brB b (R (Value.int IntKind.i64 (0 : Int)) H') (brB ((↑(ByteArray.size substr) : Int) == (1 : Int)) (chk (decide ((0 : Int) ≤ (0 : Int) ∧ (0 : Int) < (↑(ByteArray.size
  substr) : Int))) (CallH Try.prog (133 : Nat) { toList := [Value.string s, Value.int IntKind.u8 (↑(atB substr (0 : Nat)) : Int)] } H' fun v H' => ∃ n, v = Value.int IntKind.i64 n ∧ R
  (Value.int IntKind.i64 n) H')) (brB (decide ((↑(ByteArray.size substr) : Int) ≥ (↑(ByteArray.size s) : Int))) (R (Value.int IntKind.i64 (-1 : Int)) H') (∃ n, Ld Try.prog (3 : Nat) H' ⟨(0 :
  Nat), (0 : Nat), none⟩ (Value.int IntKind.i64 n) ∧ brB (decide ((↑(ByteArray.size substr) : Int) ≤ n)) (brB (decide ((↑(ByteArray.size s) : Int) ≤ (64 : Int))) (ExtH Try.prog (134 : Nat) {
  toList := [Value.string s, Value.string substr] } H' fun v H' => ∃ n, v = Value.int IntKind.i64 n ∧ R (Value.int IntKind.i64 n) H') (M [] H')) (M [] H'))))) ∧ ∀ (J : F) (H' : Heap), M [] H'
  → chk (decide ((0 : Int) ≤ (0 : Int) ∧ (0 : Int) < (↑(ByteArray.size substr) : Int))) (chk (decide ((0 : Int) ≤ (1 : Int) ∧ (1 : Int) < (↑(ByteArray.size substr) : Int))) (∃ (I : List Value
  → Heap → Prop) (μ : List Value → Heap → Nat), I [Value.int IntKind.i64 (0 : Int), Value.int IntKind.i64 (0 : Int)] H' ∧ ∀ (J : F) (n n_1 : Int) (H' : Heap), I [Value.int IntKind.i64 n,
  Value.int IntKind.i64 n_1] H' → brB (decide (n < IntKind.wrap IntKind.i64 (IntKind.wrap IntKind.i64 ((↑(ByteArray.size s) : Int) - (↑(ByteArray.size substr) : Int)) + (1 : Int)))) (∃ (M :
  List Value → Heap → Prop), chk (decide ((0 : Int) ≤ n ∧ n < (↑(ByteArray.size s) : Int))) (brB ((↑(atB s (Int.toNat n)) : Int) != (↑(atB substr (Int.toNat (0 : Int))) : Int)) (chk (decide
  ((0 : Int) ≤ IntKind.wrap IntKind.i64 (n + (1 : Int)) ∧ IntKind.wrap IntKind.i64 (n + (1 : Int)) ≤ IntKind.wrap IntKind.i64 (IntKind.wrap IntKind.i64 ((↑(ByteArray.size s) : Int) -
  (↑(ByteArray.size substr) : Int)) + (1 : Int)) ∧ IntKind.wrap IntKind.i64 (IntKind.wrap IntKind.i64 ((↑(ByteArray.size s) : Int) - (↑(ByteArray.size substr) : Int)) + (1 : Int)) ≤
  (↑(ByteArray.size s) : Int))) (CallH Try.prog (133 : Nat) { toList := [Value.string (ByteArray.extract s (Int.toNat (IntKind.wrap IntKind.i64 (n + (1 : Int)))) (Int.toNat (IntKind.wrap
  IntKind.i64 (IntKind.wrap IntKind.i64 ((↑(ByteArray.size s) : Int) - (↑(ByteArray.size substr) : Int)) + (1 : Int))))), Value.int IntKind.u8 (↑(atB substr (0 : Nat)) : Int)] } H' fun v H' =>
  ∃ n_2, v = Value.int IntKind.i64 n_2 ∧ brB (decide (n_2 < (0 : Int))) (R (Value.int IntKind.i64 (-1 : Int)) H') (M [Value.int IntKind.i64 (IntKind.wrap IntKind.i64 (n + IntKind.wrap
  IntKind.i64 (n_2 + (1 : Int))))] H'))) (M [Value.int IntKind.i64 n] H')) ∧ ∀ (J : F) (n_2 : Int) (H'_1 : Heap), M [Value.int IntKind.i64 n_2] H'_1 → ∃ (M : List Value → Heap → Prop), chk
  (decide ((0 : Int) ≤ IntKind.wrap IntKind.i64 (n_2 + (1 : Int)) ∧ IntKind.wrap IntKind.i64 (n_2 + (1 : Int)) < (↑(ByteArray.size s) : Int))) (brB ((↑(atB s (Int.toNat (IntKind.wrap
  IntKind.i64 (n_2 + (1 : Int))))) : Int) == (↑(atB substr (Int.toNat (1 : Int))) : Int)) (chk (decide ((0 : Int) ≤ n_2 ∧ n_2 ≤ IntKind.wrap IntKind.i64 (n_2 + (↑(ByteArray.size substr) :
  Int)) ∧ IntKind.wrap IntKind.i64 (n_2 + (↑(ByteArray.size substr) : Int)) ≤ (↑(ByteArray.size s) : Int))) (brB (ByteArray.toList (ByteArray.extract s (Int.toNat n_2) (Int.toNat (IntKind.wrap
  IntKind.i64 (n_2 + (↑(ByteArray.size substr) : Int))))) == ByteArray.toList substr) (R (Value.int IntKind.i64 n_2) H'_1) (M [] H'_1))) (M [] H'_1)) ∧ ∀ (J : F) (H'_2 : Heap), M [] H'_2 → ∃
  (M : List Value → Heap → Prop), (∃ n, Ld Try.prog (3 : Nat) H'_2 ⟨(0 : Nat), (0 : Nat), none⟩ (Value.int IntKind.i64 n) ∧ brB (decide ((↑(ByteArray.size substr) : Int) ≤ n)) (CallH Try.prog
  (135 : Nat) { toList := [Value.int IntKind.i64 (IntKind.wrap IntKind.i64 (n_2 + (1 : Int)))] } H'_2 fun v H' => ∃ n, v = Value.int IntKind.i64 n ∧ M [Value.bool (decide (IntKind.wrap
  IntKind.i64 (n_1 + (1 : Int)) > n))] H') (M [Value.bool false] H'_2)) ∧ ∀ (J : F) (b : Bool) (H'_3 : Heap), M [Value.bool b] H'_3 → brB b (chk (decide ((0 : Int) ≤ IntKind.wrap IntKind.i64
  (n_2 + (1 : Int)) ∧ IntKind.wrap IntKind.i64 (n_2 + (1 : Int)) ≤ (↑(ByteArray.size s) : Int) ∧ (↑(ByteArray.size s) : Int) ≤ (↑(ByteArray.size s) : Int))) (ExtH Try.prog (134 : Nat) { toList
  := [Value.string (ByteArray.extract s (Int.toNat (IntKind.wrap IntKind.i64 (n_2 + (1 : Int)))) (Int.toNat (↑(ByteArray.size s) : Int))), Value.string substr] } H'_3 fun v H' => ∃ n, v =
  Value.int IntKind.i64 n ∧ brB (decide (n ≥ (0 : Int))) (R (Value.int IntKind.i64 (IntKind.wrap IntKind.i64 (n + IntKind.wrap IntKind.i64 (n_2 + (1 : Int))))) H') (R (Value.int IntKind.i64
  (-1 : Int)) H'))) (∃ (M : List Value → Heap → Prop), (∃ n, Ld Try.prog (3 : Nat) H'_3 ⟨(0 : Nat), (0 : Nat), none⟩ (Value.int IntKind.i64 n) ∧ brB (decide ((↑(ByteArray.size substr) : Int) >
  n)) (brB (decide (IntKind.wrap IntKind.i64 (n_1 + (1 : Int)) ≥ IntKind.wrap IntKind.i64 ((4 : Int) + Int.fdiv (IntKind.wrap IntKind.i64 (n_2 + (1 : Int))) ((2 : Int) ^ min (Int.toNat (4 :
  Int)) (IntKind.bits IntKind.i64))))) (M [Value.bool (decide (IntKind.wrap IntKind.i64 (n_2 + (1 : Int)) < IntKind.wrap IntKind.i64 (IntKind.wrap IntKind.i64 ((↑(ByteArray.size s) : Int) -
  (↑(ByteArray.size substr) : Int)) + (1 : Int))))] H'_3) (M [Value.bool false] H'_3)) (M [Value.bool false] H'_3)) ∧ ∀ (J : F) (b : Bool) (H'_4 : Heap), M [Value.bool b] H'_4 → brB b (chk
  (decide ((0 : Int) ≤ IntKind.wrap IntKind.i64 (n_2 + (1 : Int)) ∧ IntKind.wrap IntKind.i64 (n_2 + (1 : Int)) ≤ (↑(ByteArray.size s) : Int) ∧ (↑(ByteArray.size s) : Int) ≤ (↑(ByteArray.size
  s) : Int))) (CallH Try.prog (136 : Nat) { toList := [Value.string (ByteArray.extract s (Int.toNat (IntKind.wrap IntKind.i64 (n_2 + (1 : Int)))) (Int.toNat (↑(ByteArray.size s) : Int))),
  Value.string substr] } H'_4 fun v H' => ∃ n, v = Value.int IntKind.i64 n ∧ brB (decide (n < (0 : Int))) (R (Value.int IntKind.i64 (-1 : Int)) H') (R (Value.int IntKind.i64 (IntKind.wrap
  IntKind.i64 (IntKind.wrap IntKind.i64 (n_2 + (1 : Int)) + n))) H'))) (I [Value.int IntKind.i64 (IntKind.wrap IntKind.i64 (n_2 + (1 : Int))), Value.int IntKind.i64 (IntKind.wrap IntKind.i64
  (n_1 + (1 : Int)))] H'_4 ∧ μ [Value.int IntKind.i64 (IntKind.wrap IntKind.i64 (n_2 + (1 : Int))), Value.int IntKind.i64 (IntKind.wrap IntKind.i64 (n_1 + (1 : Int)))] H'_4 < μ [Value.int
  IntKind.i64 n, Value.int IntKind.i64 n_1] H'))) (R (Value.int IntKind.i64 (-1 : Int)) H')))) : CallH Try.prog 123 (List.toArray [Value.string s, Value.string substr]) H R := vc_call (annOf
  [([1, 1], .cut []), ([0, 0, 1, 1], .cut [(16, .one .bool)]), ([0, 0, 1, 1, 1, 1, 1, 1, 1, 1], .cut [(8, .one (.int .i64)), (10, .one (.int .i64))]), ([0, 1, 0, 0, 0, 1, 1, 1, 1, 1, 1, 1, 1],
  .cut [(8, .one (.int .i64))]), ([1, 0, 1, 0, 0, 0, 1, 1, 1, 1, 1, 1, 1, 1], .cut []), ([1, 1, 1, 1, 0, 1, 0, 0, 0, 1, 1, 1, 1, 1, 1, 1, 1], .cut [(107, .one .bool)]), ([1, 1, 1, 1, 1, 1, 0,
  1, 0, 0, 0, 1, 1, 1, 1, 1, 1, 1, 1], .cut [(132, .one .bool)])]) followsAll Go.Proofs.Try.func123 rfl Go.Proofs.Try.ntmps123 rfl rfl (Eq.mpr (by kernel_rfl) h)

/- 130 internal/stringslite.HasPrefix
  slots: [0=s, 1=prefix, 2=s, 3=prefix]  -/
abbrev fn_internal_stringslite_HasPrefix : Nat := 130
theorem vc_internal_stringslite_HasPrefix (s : ByteArray) (prefix_ : ByteArray) (H : Heap) (R : Value → Heap → Prop) (h : brB (decide ((↑(ByteArray.size s) : Int) ≥ (↑(ByteArray.size
  «prefix_») : Int))) (chk (decide ((0 : Int) ≤ (0 : Int) ∧ (0 : Int) ≤ (↑(ByteArray.size «prefix_») : Int) ∧ (↑(ByteArray.size «prefix_») : Int) ≤ (↑(ByteArray.size s) : Int))) (R (Value.bool
  (ByteArray.toList (ByteArray.extract s (0 : Nat) (Int.toNat (↑(ByteArray.size «prefix_») : Int))) == ByteArray.toList «prefix_»)) H)) (R (Value.bool false) H)) : CallH Try.prog 130
  (List.toArray [Value.string s, Value.string «prefix_»]) H R := vc_call (annOf []) followsAll Go.Proofs.Try.func130 rfl Go.Proofs.Try.ntmps130 rfl rfl (Eq.mpr (by kernel_rfl) h)

/- 131 slices.Index[[]string,string]
  slots: [0=s, 1=v, 2=s, 3=v, 5=i]  -/
abbrev fn_slices_Index___string_string_ : Nat := 131
theorem vc_slices_Index___string_string_ (s_a : Option Addr) (s_n : Nat) (s_c : Nat) (v : ByteArray) (H : Heap) (R : Value → Heap → Prop) (h : ∃ (I : List Value → Heap → Prop) (μ : List
  Value → Heap → Nat), I [Value.int IntKind.i64 (0 : Int)] H ∧ ∀ (J : F) (n : Int) (H' : Heap), I [Value.int IntKind.i64 n] H' → brB (decide (n < (↑s_n : Int))) (exSome s_a fun ad => chk
  (decide ((0 : Int) ≤ n ∧ n < (↑s_n : Int))) (∃ s, Ld Try.prog (9 : Nat) H' (Addr.add ad (Int.toNat n * (1 : Nat))) (Value.string s) ∧ brB (ByteArray.toList v == ByteArray.toList s) (R
  (Value.int IntKind.i64 n) H') (I [Value.int IntKind.i64 (IntKind.wrap IntKind.i64 (n + (1 : Int)))] H' ∧ μ [Value.int IntKind.i64 (IntKind.wrap IntKind.i64 (n + (1 : Int)))] H' < μ
  [Value.int IntKind.i64 n] H'))) (R (Value.int IntKind.i64 (-1 : Int)) H')) : CallH Try.prog 131 (List.toArray [Value.slice s_a s_n s_c, Value.string v]) H R := vc_call (annOf [([0, 1, 0, 1],
  .cut [(8, .one (.int .i64))])]) followsAll Go.Proofs.Try.func131 rfl Go.Proofs.Try.ntmps131 rfl rfl (Eq.mpr (by kernel_rfl) h)

/- 133 internal/stringslite.IndexByte
  slots: [0=s, 1=c, 2=s, 3=c]  -/
abbrev fn_internal_stringslite_IndexByte : Nat := 133
theorem vc_internal_stringslite_IndexByte (s : ByteArray) (c : Int) (H : Heap) (R : Value → Heap → Prop) (h : ExtH Try.prog (138 : Nat) { toList := [Value.string s, Value.int IntKind.u8 c] }
  H fun v H' => ∃ n, v = Value.int IntKind.i64 n ∧ R (Value.int IntKind.i64 n) H') : CallH Try.prog 133 (List.toArray [Value.string s, Value.int IntKind.u8 c]) H R := vc_call (annOf [])
  followsAll Go.Proofs.Try.func133 rfl Go.Proofs.Try.ntmps133 rfl rfl (Eq.mpr (by kernel_rfl) h)
end Go.Proofs
