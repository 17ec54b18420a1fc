/- A part of a proof: see the last text of this claim. -/
import Derived.Test.YtjpjmpnlomkdbaaVc13
set_option linter.unusedVariables false
set_option maxRecDepth 100000
open Go Go.GV
namespace Go.Proofs

/- 6 strandline/strandlinelaw13.SeriesPuts
  slots: [0=raw, 1=more, 2=at, 3=raw, 4=more, 5=at, 7=l, 8=a, 9=b, 10=k, 11=c]  -/
abbrev fn_law13_SeriesPuts : Nat := 6
theorem vc_law13_SeriesPuts (raw_a : Option Addr) (raw_n : Nat) (raw_c : Nat) (more_a : Option Addr) (more_n : Nat) (more_c : Nat) (at' : Int) (H : Heap) (R : Value → Heap → Prop) (h : ∃ (M
  : List Value → Heap → Prop), brB (decide ((↑raw_n : Int) > (100 : Int))) (R (Value.bool true) H) (brB (decide ((↑more_n : Int) > (60 : Int))) (R (Value.bool true) H) (M [] H)) ∧ ∀ (J : F)
  (H' : Heap), M [] H' → CallH Try.prog (19 : Nat) { toList := [Value.slice none (0 : Nat) (0 : Nat), Value.slice raw_a raw_n raw_c] } H' fun v H' => ∃ a n c, v = Value.slice a n c ∧ CallH
  Try.prog (21 : Nat) { toList := [Value.slice a n c] } H' fun v H' => ∃ a_1 n_1 c_1, v = Value.slice a_1 n_1 c_1 ∧ CallH Try.prog (20 : Nat) { toList := [Value.slice a_1 n_1 c_1, Value.slice
  more_a more_n more_c] } H' fun v H' => ∃ a_2 n_2 c_2, v = Value.slice a_2 n_2 c_2 ∧ CallH Try.prog (19 : Nat) { toList := [Value.slice a n c, Value.slice more_a more_n more_c] } H' fun v H'
  => ∃ a_3 n_3 c_3, v = Value.slice a_3 n_3 c_3 ∧ ∃ (M : List Value → Heap → Prop), brB (decide ((↑more_n : Int) > (0 : Int))) (chk (decide (IntKind.wrap IntKind.i64 ((↑more_n : Int) + (1 :
  Int)) ≠ (0 : Int))) (M [Value.int IntKind.i64 (Int.tmod (IntKind.wrap IntKind.i64 at') (IntKind.wrap IntKind.i64 ((↑more_n : Int) + (1 : Int))))] H')) (M [Value.int IntKind.i64 (0 : Int)]
  H') ∧ ∀ (J : F) (n_4 : Int) (H' : Heap), M [Value.int IntKind.i64 n_4] H' → chk (decide ((0 : Int) ≤ (0 : Int) ∧ (0 : Int) ≤ n_4 ∧ n_4 ≤ (↑more_c : Int))) (chk (decide ((0 : Int) ≤ n_4 ∧ n_4
  ≤ (↑more_n : Int) ∧ (↑more_n : Int) ≤ (↑more_c : Int))) (CallH Try.prog (21 : Nat) { toList := [Value.slice a n c] } H' fun v H' => ∃ a n c, v = Value.slice a n c ∧ CallH Try.prog (20 : Nat)
  { toList := [Value.slice a n c, Value.slice more_a (Int.toNat n_4 - (0 : Nat)) (more_c - (0 : Nat))] } H' fun v H' => ∃ a n c, v = Value.slice a n c ∧ CallH Try.prog (20 : Nat) { toList :=
  [Value.slice a n c, Value.slice (slA more_c (Int.toNat n_4) (3 : Nat) more_a) (Int.toNat (↑more_n : Int) - Int.toNat n_4) (more_c - Int.toNat n_4)] } H' fun v H' => ∃ a n c, v = Value.slice
  a n c ∧ CallH Try.prog (23 : Nat) { toList := [Value.slice a_2 n_2 c_2] } H' fun v H' => ∃ a_5 n_5 c_4, v = Value.slice a_5 n_5 c_4 ∧ CallH Try.prog (22 : Nat) { toList := [Value.slice a_5
  n_5 c_4, Value.slice a_3 n_3 c_3] } H' fun v H' => ∃ b, v = Value.bool b ∧ brB b (CallH Try.prog (23 : Nat) { toList := [Value.slice a_2 n_2 c_2] } H' fun v H' => ∃ a_6 n_6 c_5, v =
  Value.slice a_6 n_6 c_5 ∧ CallH Try.prog (24 : Nat) { toList := [Value.slice a_6 n_6 c_5] } H' fun v H' => ∃ b, v = Value.bool b ∧ brB b (CallH Try.prog (23 : Nat) { toList := [Value.slice a
  n c] } H' fun v H' => ∃ a n c, v = Value.slice a n c ∧ CallH Try.prog (22 : Nat) { toList := [Value.slice a n c, Value.slice a_3 n_3 c_3] } H' fun v H' => ∃ b, v = Value.bool b ∧ brB b
  (CallH Try.prog (12 : Nat) { toList := [Value.slice none (0 : Nat) (0 : Nat)] } H' fun v H' => ∃ b, v = Value.bool b ∧ R (Value.bool b) H') (R (Value.bool false) H')) (R (Value.bool false)
  H')) (R (Value.bool false) H')))) : CallH Try.prog 6 (List.toArray [Value.slice raw_a raw_n raw_c, Value.slice more_a more_n more_c, Value.int IntKind.u8 at']) H R := vc_call (annOf [([1],
  .cut []), ([1, 1, 1, 1, 1, 1], .cut [(10, .one (.int .i64))]), ([0, 1, 1, 1, 1, 1, 1, 1], .reg [0, 1, 0, 0, 12, 31, 0, 0, 192, 511, 1023] (.quiet 0 (.quiet 2 (.quiet 3 (.quiet 4 (.quiet 6
  (.quiet 7 (.quiet 8 (.pick (.alt 1 (.pick (.alt 5 (.pick (.alt 9 (.quiet 10 .done) .stop)) .stop)) .stop))))))))))]) followsAll Go.Proofs.Try.func6 rfl Go.Proofs.Try.ntmps6 rfl rfl (Eq.mpr
  (by kernel_rfl) h)

/- 7 strandline/strandlinelaw13.SeriesSets
  slots: [0=raw, 1=x, 2=raw, 3=x, 5=l, 6=one, 7=m, 8=was, 9=there, 10=k, 11=i]  -/
abbrev fn_law13_SeriesSets : Nat := 7
theorem vc_law13_SeriesSets (raw_a : Option Addr) (raw_n : Nat) (raw_c : Nat) (x_0 : Int) (x_1 : Int) (x_2 : Int) (H : Heap) (R : Value → Heap → Prop) (h : ∀ (b : Nat) (H' : Heap), New H b
  (Obj.cells { toList := [Value.int IntKind.i64 x_0, Value.int IntKind.i64 x_1, Value.int IntKind.i64 x_2] } (45 : Nat)) H' → brB (decide ((↑raw_n : Int) > (100 : Int))) (R (Value.bool true)
  H') (CallH Try.prog (19 : Nat) { toList := [Value.slice none (0 : Nat) (0 : Nat), Value.slice raw_a raw_n raw_c] } H' fun v H' => ∃ a n c, v = Value.slice a n c ∧ CallH Try.prog (21 : Nat) {
  toList := [Value.slice a n c] } H' fun v H' => ∃ a n c, v = Value.slice a n c ∧ ∃ n_1 n_2 n_3, Ld Try.prog (45 : Nat) H' ⟨b, (0 : Nat), none⟩ (Value.agg { toList := [Value.int IntKind.i64
  n_1, Value.int IntKind.i64 n_2, Value.int IntKind.i64 n_3] }) ∧ ∀ (b_1 : Nat) (H'_1 : Heap), New H' b_1 (Obj.cells { toList := [Value.int IntKind.i64 n_1, Value.int IntKind.i64 n_2,
  Value.int IntKind.i64 n_3] } (45 : Nat)) H'_1 → CallH Try.prog (20 : Nat) { toList := [Value.slice a n c, Value.slice (some ⟨b_1, (0 : Nat), none⟩) (1 : Nat) (1 : Nat)] } H'_1 fun v H' => ∃
  a_2 n_4 c_1, v = Value.slice a_2 n_4 c_1 ∧ CallH Try.prog (25 : Nat) { toList := [Value.slice a_2 n_4 c_1] } H' fun v H' => ∃ a_3 n_5 c_2, v = Value.slice a_3 n_5 c_2 ∧ CallH Try.prog (25 :
  Nat) { toList := [Value.slice a n c] } H' fun v H' => ∃ a n c, v = Value.slice a n c ∧ ∃ (I : List Value → Heap → Prop) (μ : List Value → Heap → Nat), I [Value.bool false, Value.int
  IntKind.i64 (0 : Int), Value.int IntKind.i64 (0 : Int)] H' ∧ ∀ (J : F) (b_2 : Bool) (n_6 n_7 : Int) (H' : Heap), I [Value.bool b_2, Value.int IntKind.i64 n_6, Value.int IntKind.i64 n_7] H' →
  brB (decide (n_7 < (↑n_5 : Int))) (∃ (M : List Value → Heap → Prop), (∃ (M_1 : List Value → Heap → Prop), (∃ (M_2 : List Value → Heap → Prop), (exSome a_3 fun ad => chk (decide ((0 : Int) ≤
  n_7 ∧ n_7 < (↑n_5 : Int))) (∃ n, Ld Try.prog (3 : Nat) H' (Addr.add ad (Int.toNat n_7 * (3 : Nat))) (Value.int IntKind.i64 n) ∧ ∃ n_8, Ld Try.prog (3 : Nat) H' ⟨b, (0 : Nat), none⟩
  (Value.int IntKind.i64 n_8) ∧ brB (n == n_8) (exSome a_3 fun ad => chk (decide ((0 : Int) ≤ n_7 ∧ n_7 < (↑n_5 : Int))) (∃ n, Ld Try.prog (3 : Nat) H' (Addr.add (Addr.add ad (Int.toNat n_7 *
  (3 : Nat))) (1 : Nat)) (Value.int IntKind.i64 n) ∧ ∃ n_9, Ld Try.prog (3 : Nat) H' ⟨b, (1 : Nat), none⟩ (Value.int IntKind.i64 n_9) ∧ M_2 [Value.bool (n == n_9)] H')) (M_2 [Value.bool false]
  H'))) ∧ ∀ (J : F) (b_3 : Bool) (H' : Heap), M_2 [Value.bool b_3] H' → brB b_3 (exSome a_3 fun ad => chk (decide ((0 : Int) ≤ n_7 ∧ n_7 < (↑n_5 : Int))) (∃ n_8, Ld Try.prog (3 : Nat) H'
  (Addr.add (Addr.add ad (Int.toNat n_7 * (3 : Nat))) (2 : Nat)) (Value.int IntKind.i64 n_8) ∧ ∃ n_9, Ld Try.prog (3 : Nat) H' ⟨b, (2 : Nat), none⟩ (Value.int IntKind.i64 n_9) ∧ ∃ (M_3 : List
  Value → Heap → Prop), brB (decide (n_6 < (↑n : Int))) (exSome a fun ad => chk (decide ((0 : Int) ≤ n_6 ∧ n_6 < (↑n : Int))) (∃ n_10, Ld Try.prog (3 : Nat) H' (Addr.add ad (Int.toNat n_6 * (3
  : Nat))) (Value.int IntKind.i64 n_10) ∧ ∃ n_11, Ld Try.prog (3 : Nat) H' ⟨b, (0 : Nat), none⟩ (Value.int IntKind.i64 n_11) ∧ brB (n_10 == n_11) (exSome a fun ad => chk (decide ((0 : Int) ≤
  n_6 ∧ n_6 < (↑n : Int))) (∃ n, Ld Try.prog (3 : Nat) H' (Addr.add (Addr.add ad (Int.toNat n_6 * (3 : Nat))) (1 : Nat)) (Value.int IntKind.i64 n) ∧ ∃ n_12, Ld Try.prog (3 : Nat) H' ⟨b, (1 :
  Nat), none⟩ (Value.int IntKind.i64 n_12) ∧ M_3 [Value.bool (n == n_12)] H')) (M_3 [Value.bool false] H'))) (M_3 [Value.bool false] H') ∧ ∀ (J : F) (b : Bool) (H' : Heap), M_3 [Value.bool b]
  H' → brB b (M [Value.bool (n_8 == n_9), Value.int IntKind.i64 (IntKind.wrap IntKind.i64 (n_6 + (1 : Int)))] H') (M [Value.bool (n_8 == n_9), Value.int IntKind.i64 n_6] H'))) (M_1 [Value.bool
  b_2, Value.int IntKind.i64 n_6] H')) ∧ ∀ (J : F) (b : Bool) (n_8 : Int) (H' : Heap), M_1 [Value.bool b, Value.int IntKind.i64 n_8] H' → brB (decide (n_8 ≥ (↑n : Int))) (R (Value.bool false)
  H') (exSome a fun ad => chk (decide ((0 : Int) ≤ n_8 ∧ n_8 < (↑n : Int))) (∃ n n_9 n_10, Ld Try.prog (45 : Nat) H' (Addr.add ad (Int.toNat n_8 * (3 : Nat))) (Value.agg { toList := [Value.int
  IntKind.i64 n, Value.int IntKind.i64 n_9, Value.int IntKind.i64 n_10] }) ∧ exSome a_3 fun ad => chk (decide ((0 : Int) ≤ n_7 ∧ n_7 < (↑n_5 : Int))) (∃ n_11 n_12 n_13, Ld Try.prog (45 : Nat)
  H' (Addr.add ad (Int.toNat n_7 * (3 : Nat))) (Value.agg { toList := [Value.int IntKind.i64 n_11, Value.int IntKind.i64 n_12, Value.int IntKind.i64 n_13] }) ∧ brB (!(n == n_11 && (n_9 == n_12
  && (n_10 == n_13 && true)))) (R (Value.bool false) H') (M [Value.bool b, Value.int IntKind.i64 (IntKind.wrap IntKind.i64 (n_8 + (1 : Int)))] H'))))) ∧ ∀ (J : F) (b : Bool) (n : Int) (H'_2 :
  Heap), M [Value.bool b, Value.int IntKind.i64 n] H'_2 → I [Value.bool b, Value.int IntKind.i64 n, Value.int IntKind.i64 (IntKind.wrap IntKind.i64 (n_7 + (1 : Int)))] H'_2 ∧ μ [Value.bool b,
  Value.int IntKind.i64 n, Value.int IntKind.i64 (IntKind.wrap IntKind.i64 (n_7 + (1 : Int)))] H'_2 < μ [Value.bool b_2, Value.int IntKind.i64 n_6, Value.int IntKind.i64 n_7] H') (brB b_2 (R
  (Value.bool (n_6 == (↑n : Int))) H') (R (Value.bool false) H')))) : CallH Try.prog 7 (List.toArray [Value.slice raw_a raw_n raw_c, Value.agg #[Value.int IntKind.i64 x_0, Value.int
  IntKind.i64 x_1, Value.int IntKind.i64 x_2]]) H R := vc_call (annOf [([0, 1, 0, 1, 1, 1, 1, 1, 1, 1, 1], .cut [(9, .one .bool), (10, .one (.int .i64)), (11, .one (.int .i64))]), ([1, 0, 0,
  1, 0, 1, 1, 1, 1, 1, 1, 1, 1], .cut [(9, .one .bool), (10, .one (.int .i64))]), ([0, 0, 1, 0, 0, 1, 0, 1, 1, 1, 1, 1, 1, 1, 1], .cut [(9, .one .bool), (10, .one (.int .i64))]), ([0, 0, 0, 1,
  0, 0, 1, 0, 1, 1, 1, 1, 1, 1, 1, 1], .cut [(49, .one .bool)]), ([0, 1, 0, 1, 0, 0, 0, 1, 0, 0, 1, 0, 1, 1, 1, 1, 1, 1, 1, 1], .cut [(81, .one .bool)])]) followsAll Go.Proofs.Try.func7 rfl
  Go.Proofs.Try.ntmps7 rfl rfl (Eq.mpr (by kernel_rfl) h)

/- 8 strandline/strandlinelaw13.SeriesRows
  slots: [0=raw, 1=raw, 3=rows, 4=l, 5=back]  -/
abbrev fn_law13_SeriesRows : Nat := 8
theorem vc_law13_SeriesRows (raw_a : Option Addr) (raw_n : Nat) (raw_c : Nat) (H : Heap) (R : Value → Heap → Prop) (h : brB (decide ((↑raw_n : Int) > (4096 : Int))) (R (Value.bool true) H)
  (CallH Try.prog (26 : Nat) { toList := [Value.slice raw_a raw_n raw_c] } H fun v H' => ∃ a n c, v = Value.slice a n c ∧ CallH Try.prog (27 : Nat) { toList := [Value.slice a n c] } H' fun v
  H' => ∃ a_1 n_1 c_1, v = Value.slice a_1 n_1 c_1 ∧ CallH Try.prog (25 : Nat) { toList := [Value.slice a_1 n_1 c_1] } H' fun v H' => ∃ a_2 n_2 c_2, v = Value.slice a_2 n_2 c_2 ∧ CallH
  Try.prog (23 : Nat) { toList := [Value.slice a_1 n_1 c_1] } H' fun v H' => ∃ a_3 n_3 c_3, v = Value.slice a_3 n_3 c_3 ∧ CallH Try.prog (28 : Nat) { toList := [Value.slice a n c] } H' fun v
  H' => ∃ a_4 n_4 c_4, v = Value.slice a_4 n_4 c_4 ∧ CallH Try.prog (22 : Nat) { toList := [Value.slice a_3 n_3 c_3, Value.slice a_4 n_4 c_4] } H' fun v H' => ∃ b, v = Value.bool b ∧ brB b
  (CallH Try.prog (23 : Nat) { toList := [Value.slice a_1 n_1 c_1] } H' fun v H' => ∃ a_5 n_5 c_5, v = Value.slice a_5 n_5 c_5 ∧ CallH Try.prog (24 : Nat) { toList := [Value.slice a_5 n_5 c_5]
  } H' fun v H' => ∃ b, v = Value.bool b ∧ brB b (CallH Try.prog (29 : Nat) { toList := [Value.slice a_2 n_2 c_2, Value.slice a n c] } H' fun v H' => ∃ b, v = Value.bool b ∧ brB b (CallH
  Try.prog (23 : Nat) { toList := [Value.slice a_1 n_1 c_1] } H' fun v H' => ∃ a n c, v = Value.slice a n c ∧ CallH Try.prog (30 : Nat) { toList := [Value.slice a n c] } H' fun v H' => ∃ a n
  c, v = Value.slice a n c ∧ CallH Try.prog (29 : Nat) { toList := [Value.slice a_2 n_2 c_2, Value.slice a n c] } H' fun v H' => ∃ b, v = Value.bool b ∧ brB b (CallH Try.prog (12 : Nat) {
  toList := [Value.slice none (0 : Nat) (0 : Nat)] } H' fun v H' => ∃ b, v = Value.bool b ∧ R (Value.bool b) H') (R (Value.bool false) H')) (R (Value.bool false) H')) (R (Value.bool false)
  H')) (R (Value.bool false) H'))) : CallH Try.prog 8 (List.toArray [Value.slice raw_a raw_n raw_c]) H R := vc_call (annOf []) followsAll Go.Proofs.Try.func8 rfl Go.Proofs.Try.ntmps8 rfl rfl
  (Eq.mpr (by kernel_rfl) h)

/- 19 strandline/strandlineref13.Put
  slots: [0=l, 1=rows, 2=l, 3=rows, 5=i, 6=x, 7=one, 8=out, 9=done, 10=k]  -/
abbrev fn_ref13_Put : Nat := 19
theorem vc_ref13_Put (l_a : Option Addr) (l_n : Nat) (l_c : Nat) (rows_a : Option Addr) (rows_n : Nat) (rows_c : Nat) (H : Heap) (R : Value → Heap → Prop) (h : ∃ (I : List Value → Heap →
  Prop) (μ : List Value → Heap → Nat), I [Value.slice l_a l_n l_c, Value.int IntKind.i64 (0 : Int)] H ∧ ∀ (J : F) (a : Option Addr) (n c : Nat) (n_1 : Int) (H' : Heap), I [Value.slice a n c,
  Value.int IntKind.i64 n_1] H' → brB (decide (n_1 < (↑rows_n : Int))) (exSome rows_a fun ad => chk (decide ((0 : Int) ≤ n_1 ∧ n_1 < (↑rows_n : Int))) (∃ n_2 n_3 n_4, Ld Try.prog (45 : Nat) H'
  (Addr.add ad (Int.toNat n_1 * (3 : Nat))) (Value.agg { toList := [Value.int IntKind.i64 n_2, Value.int IntKind.i64 n_3, Value.int IntKind.i64 n_4] }) ∧ ∀ (b : Nat) (H'_1 : Heap), New H' b
  (Obj.cells { toList := [Value.int IntKind.i64 (0 : Int), Value.int IntKind.i64 (0 : Int), Value.int IntKind.i64 (0 : Int)] } (45 : Nat)) H'_1 → ∃ H'_2, St Try.prog (45 : Nat) H'_1 ⟨b, (0 :
  Nat), none⟩ (Value.agg { toList := [Value.int IntKind.i64 n_2, Value.int IntKind.i64 n_3, Value.int IntKind.i64 n_4] }) H'_2 ∧ ∃ n_5, Ld Try.prog (3 : Nat) H'_2 ⟨b, (0 : Nat), none⟩
  (Value.int IntKind.i64 n_5) ∧ ∃ n_6, Ld Try.prog (3 : Nat) H'_2 ⟨b, (2 : Nat), none⟩ (Value.int IntKind.i64 n_6) ∧ ∀ (b_1 : Nat) (H'_3 : Heap), New H'_2 b_1 (Obj.cells { toList := [Value.int
  IntKind.i64 n_5, Value.int IntKind.i64 n_6] } (26 : Nat)) H'_3 → ∀ (b_2 : Nat) (H'_4 : Heap), New H'_3 b_2 (Obj.cells ⟨[]⟩ (62 : Nat)) H'_4 → ∃ (I_1 : List Value → Heap → Prop) (μ_1 : List
  Value → Heap → Nat), I_1 [Value.slice (some ⟨b_2, (0 : Nat), none⟩) (0 : Nat) (0 : Nat), Value.bool false, Value.int IntKind.i64 (0 : Int)] H'_4 ∧ ∀ (J : F) (a_5 : Option Addr) (n_7 c_1 :
  Nat) (b_3 : Bool) (n_8 : Int) (H'_5 : Heap), I_1 [Value.slice a_5 n_7 c_1, Value.bool b_3, Value.int IntKind.i64 n_8] H'_5 → brB (decide (n_8 < (↑n : Int))) (∃ (M : List Value → Heap →
  Prop), (∃ (M_1 : List Value → Heap → Prop), (∃ (M : List Value → Heap → Prop), brB (!b_3) (exSome a fun ad => chk (decide ((0 : Int) ≤ n_8 ∧ n_8 < (↑n : Int))) (∃ n, Ld Try.prog (3 : Nat)
  H'_5 (Addr.add ad (Int.toNat n_8 * (2 : Nat))) (Value.int IntKind.i64 n) ∧ ∃ n_9, Ld Try.prog (3 : Nat) H'_5 ⟨b, (1 : Nat), none⟩ (Value.int IntKind.i64 n_9) ∧ M [Value.bool (decide (n >
  n_9))] H'_5)) (M [Value.bool false] H'_5) ∧ ∀ (J : F) (b_4 : Bool) (H' : Heap), M [Value.bool b_4] H' → brB b_4 (∃ n, Ld Try.prog (3 : Nat) H' ⟨b, (1 : Nat), none⟩ (Value.int IntKind.i64 n)
  ∧ ∀ (b : Nat) (H'_6 : Heap), New H' b (Obj.cells { toList := [Value.int IntKind.i64 n, Value.slice (some ⟨b_1, (0 : Nat), none⟩) (1 : Nat) (1 : Nat)] } (62 : Nat)) H'_6 → SemWp Try.prog
  (Builtin.append_ { toList := [(35 : Nat), (35 : Nat)] } (35 : Nat) { toList := [Value.slice a_5 n_7 c_1, Value.slice (some ⟨b, (0 : Nat), none⟩) (1 : Nat) (1 : Nat)] }) H'_6 fun v H' => ∃ a
  n c, v = Value.slice a n c ∧ M_1 [Value.slice a n c, Value.bool true] H') (M_1 [Value.slice a_5 n_7 c_1, Value.bool b_3] H')) ∧ ∀ (J : F) (a_7 : Option Addr) (n_9 c : Nat) (b_4 : Bool) (H' :
  Heap), M_1 [Value.slice a_7 n_9 c, Value.bool b_4] H' → exSome a fun ad => chk (decide ((0 : Int) ≤ n_8 ∧ n_8 < (↑n : Int))) (∃ n_10, Ld Try.prog (3 : Nat) H' (Addr.add ad (Int.toNat n_8 *
  (2 : Nat))) (Value.int IntKind.i64 n_10) ∧ ∃ n_11, Ld Try.prog (3 : Nat) H' ⟨b, (1 : Nat), none⟩ (Value.int IntKind.i64 n_11) ∧ brB (n_10 == n_11) (∃ n_12, Ld Try.prog (3 : Nat) H' ⟨b, (1 :
  Nat), none⟩ (Value.int IntKind.i64 n_12) ∧ exSome a fun ad => chk (decide ((0 : Int) ≤ n_8 ∧ n_8 < (↑n : Int))) (∃ a n c_2, Ld Try.prog (22 : Nat) H' (Addr.add (Addr.add ad (Int.toNat n_8 *
  (2 : Nat))) (1 : Nat)) (Value.slice a n c_2) ∧ CallH Try.prog (17 : Nat) { toList := [Value.slice a n c_2, Value.slice (some ⟨b_1, (0 : Nat), none⟩) (1 : Nat) (1 : Nat)] } H' fun v H' => ∃ a
  n c_3, v = Value.slice a n c_3 ∧ Ld Try.prog (3 : Nat) H' ⟨b, (1 : Nat), none⟩ (Value.int IntKind.i64 n_12) ∧ ∀ (b : Nat) (H'_6 : Heap), New H' b (Obj.cells { toList := [Value.int
  IntKind.i64 n_12, Value.slice a n c_3] } (62 : Nat)) H'_6 → SemWp Try.prog (Builtin.append_ { toList := [(35 : Nat), (35 : Nat)] } (35 : Nat) { toList := [Value.slice a_7 n_9 c, Value.slice
  (some ⟨b, (0 : Nat), none⟩) (1 : Nat) (1 : Nat)] }) H'_6 fun v H' => ∃ a n c, v = Value.slice a n c ∧ M [Value.slice a n c, Value.bool true] H')) (exSome a fun ad => chk (decide ((0 : Int) ≤
  n_8 ∧ n_8 < (↑n : Int))) (∃ n a n_12 c_2, Ld Try.prog (62 : Nat) H' (Addr.add ad (Int.toNat n_8 * (2 : Nat))) (Value.agg { toList := [Value.int IntKind.i64 n, Value.slice a n_12 c_2] }) ∧ ∀
  (b : Nat) (H'_6 : Heap), New H' b (Obj.cells { toList := [Value.int IntKind.i64 n, Value.slice a n_12 c_2] } (62 : Nat)) H'_6 → SemWp Try.prog (Builtin.append_ { toList := [(35 : Nat), (35 :
  Nat)] } (35 : Nat) { toList := [Value.slice a_7 n_9 c, Value.slice (some ⟨b, (0 : Nat), none⟩) (1 : Nat) (1 : Nat)] }) H'_6 fun v H' => ∃ a n c, v = Value.slice a n c ∧ M [Value.slice a n c,
  Value.bool b_4] H')))) ∧ ∀ (J : F) (a : Option Addr) (n c : Nat) (b : Bool) (H' : Heap), M [Value.slice a n c, Value.bool b] H' → I_1 [Value.slice a n c, Value.bool b, Value.int IntKind.i64
  (IntKind.wrap IntKind.i64 (n_8 + (1 : Int)))] H' ∧ μ_1 [Value.slice a n c, Value.bool b, Value.int IntKind.i64 (IntKind.wrap IntKind.i64 (n_8 + (1 : Int)))] H' < μ_1 [Value.slice a_5 n_7
  c_1, Value.bool b_3, Value.int IntKind.i64 n_8] H'_5) (brB (!b_3) (∃ n_9, Ld Try.prog (3 : Nat) H'_5 ⟨b, (1 : Nat), none⟩ (Value.int IntKind.i64 n_9) ∧ ∀ (b : Nat) (H'_6 : Heap), New H'_5 b
  (Obj.cells { toList := [Value.int IntKind.i64 n_9, Value.slice (some ⟨b_1, (0 : Nat), none⟩) (1 : Nat) (1 : Nat)] } (62 : Nat)) H'_6 → SemWp Try.prog (Builtin.append_ { toList := [(35 :
  Nat), (35 : Nat)] } (35 : Nat) { toList := [Value.slice a_5 n_7 c_1, Value.slice (some ⟨b, (0 : Nat), none⟩) (1 : Nat) (1 : Nat)] }) H'_6 fun v H'_7 => ∃ a_8 n_10 c_2, v = Value.slice a_8
  n_10 c_2 ∧ I [Value.slice a_8 n_10 c_2, Value.int IntKind.i64 (IntKind.wrap IntKind.i64 (n_1 + (1 : Int)))] H'_7 ∧ μ [Value.slice a_8 n_10 c_2, Value.int IntKind.i64 (IntKind.wrap
  IntKind.i64 (n_1 + (1 : Int)))] H'_7 < μ [Value.slice a n c, Value.int IntKind.i64 n_1] H') (I [Value.slice a_5 n_7 c_1, Value.int IntKind.i64 (IntKind.wrap IntKind.i64 (n_1 + (1 : Int)))]
  H'_5 ∧ μ [Value.slice a_5 n_7 c_1, Value.int IntKind.i64 (IntKind.wrap IntKind.i64 (n_1 + (1 : Int)))] H'_5 < μ [Value.slice a n c, Value.int IntKind.i64 n_1] H')))) (R (Value.slice a n c)
  H')) : CallH Try.prog 19 (List.toArray [Value.slice l_a l_n l_c, Value.slice rows_a rows_n rows_c]) H R := vc_call (annOf [([0, 1, 0, 1], .cut [(0, .one .slice), (5, .one (.int .i64))]),
  ([0, 1, 0, 1, 1, 1, 1, 0, 0, 1, 0, 0, 1, 0, 1], .cut [(8, .one .slice), (9, .one .bool), (10, .one (.int .i64))]), ([1, 0, 0, 1, 0, 1, 1, 1, 1, 0, 0, 1, 0, 0, 1, 0, 1], .cut [(8, .one
  .slice), (9, .one .bool)]), ([0, 0, 1, 0, 0, 1, 0, 1, 1, 1, 1, 0, 0, 1, 0, 0, 1, 0, 1], .cut [(8, .one .slice), (9, .one .bool)]), ([0, 0, 0, 1, 0, 0, 1, 0, 1, 1, 1, 1, 0, 0, 1, 0, 0, 1, 0,
  1], .cut [(45, .one .bool)]), ([0, 0, 1, 1, 0, 0, 1, 0, 0, 1, 0, 1, 1, 1, 1, 0, 0, 1, 0, 0, 1, 0, 1], .reg [0, 0, 2, 0, 0, 24, 56, 120, 0, 504, 1022, 2046, 4095, 8191] (.quiet 0 (.quiet 1
  (.quiet 2 (.quiet 3 (.quiet 4 (.quiet 5 (.quiet 6 (.quiet 7 (.quiet 8 (.pick (.alt 9 (.quiet 10 (.pick (.alt 11 (.pick (.alt 12 (.quiet 13 .done) .stop)) .stop))) .stop))))))))))))])
  followsAll Go.Proofs.Try.func19 rfl Go.Proofs.Try.ntmps19 rfl rfl (Eq.mpr (by kernel_rfl) h)

/- 20 strandline/series.Put
  slots: [0=l, 1=rows, 2=l, 3=rows, 5=own, 6=_, 7=x, 8=more, 9=id, 10=s, 11=byID, 12=i, 13=k, 14=is, 15=out, 16=i]  -/
abbrev fn_series_Put : Nat := 20
theorem vc_series_Put (l_a : Option Addr) (l_n : Nat) (l_c : Nat) (rows_a : Option Addr) (rows_n : Nat) (rows_c : Nat) (H : Heap) (R : Value → Heap → Prop) (h : ∀ (b : Nat) (H' : Heap), New
  H b (Obj.map ⟨[]⟩ (0 : Nat)) H' → ∃ (I : List Value → Heap → Prop) (μ : List Value → Heap → Nat), I [Value.int IntKind.i64 (0 : Int)] H' ∧ ∀ (J : F) (n : Int) (H' : Heap), I [Value.int
  IntKind.i64 n] H' → brB (decide (n < (↑rows_n : Int))) (exSome rows_a fun ad => chk (decide ((0 : Int) ≤ n ∧ n < (↑rows_n : Int))) (∃ n_1 n_2 n_3, Ld Try.prog (45 : Nat) H' (Addr.add ad
  (Int.toNat n * (3 : Nat))) (Value.agg { toList := [Value.int IntKind.i64 n_1, Value.int IntKind.i64 n_2, Value.int IntKind.i64 n_3] }) ∧ ∀ (b_1 : Nat) (H'_1 : Heap), New H' b_1 (Obj.cells {
  toList := [Value.int IntKind.i64 (0 : Int), Value.int IntKind.i64 (0 : Int), Value.int IntKind.i64 (0 : Int)] } (45 : Nat)) H'_1 → ∃ H'_2, St Try.prog (45 : Nat) H'_1 ⟨b_1, (0 : Nat), none⟩
  (Value.agg { toList := [Value.int IntKind.i64 n_1, Value.int IntKind.i64 n_2, Value.int IntKind.i64 n_3] }) H'_2 ∧ ∃ n_4, Ld Try.prog (3 : Nat) H'_2 ⟨b_1, (1 : Nat), none⟩ (Value.int
  IntKind.i64 n_4) ∧ ∃ n_5, Ld Try.prog (3 : Nat) H'_2 ⟨b_1, (1 : Nat), none⟩ (Value.int IntKind.i64 n_5) ∧ ∃ a n_6 c, Rd Try.prog (Instr.lookup (63 : Nat) (Value.map (some b)) (Value.int
  IntKind.i64 n_5) false) H'_2 (Value.slice a n_6 c) ∧ ∃ n_7, Ld Try.prog (3 : Nat) H'_2 ⟨b_1, (0 : Nat), none⟩ (Value.int IntKind.i64 n_7) ∧ ∃ n_8, Ld Try.prog (3 : Nat) H'_2 ⟨b_1, (2 : Nat),
  none⟩ (Value.int IntKind.i64 n_8) ∧ ∀ (b_2 : Nat) (H'_3 : Heap), New H'_2 b_2 (Obj.cells { toList := [Value.int IntKind.i64 n_7, Value.int IntKind.i64 n_8] } (26 : Nat)) H'_3 → Rd Try.prog
  (Instr.lookup (63 : Nat) (Value.map (some b)) (Value.int IntKind.i64 n_5) false) H'_3 (Value.slice a n_6 c) ∧ Ld Try.prog (3 : Nat) H'_3 ⟨b_1, (1 : Nat), none⟩ (Value.int IntKind.i64 n_5) ∧
  Ld Try.prog (3 : Nat) H'_3 ⟨b_1, (1 : Nat), none⟩ (Value.int IntKind.i64 n_4) ∧ SemWp Try.prog (Builtin.append_ { toList := [(22 : Nat), (22 : Nat)] } (22 : Nat) { toList := [Value.slice a
  n_6 c, Value.slice (some ⟨b_2, (0 : Nat), none⟩) (1 : Nat) (1 : Nat)] }) H'_3 fun v H'_4 => ∃ a n_9 c, v = Value.slice a n_9 c ∧ Ld Try.prog (3 : Nat) H'_4 ⟨b_1, (1 : Nat), none⟩ (Value.int
  IntKind.i64 n_4) ∧ SemU Try.prog (Instr.mapUpdate (63 : Nat) (Value.map (some b)) (Value.int IntKind.i64 n_4) (Value.slice a n_9 c)) H'_4 fun H'_5 => I [Value.int IntKind.i64 (IntKind.wrap
  IntKind.i64 (n + (1 : Int)))] H'_5 ∧ μ [Value.int IntKind.i64 (IntKind.wrap IntKind.i64 (n + (1 : Int)))] H'_5 < μ [Value.int IntKind.i64 n] H')) (SemWp Try.prog (Instr.range (63 : Nat)
  (Value.map (some b))) H' fun v H' => ∃ a, v = Value.pointer a ∧ ∃ (I : List Value → Heap → Prop) (μ : List Value → Heap → Nat), I [Value.slice none (0 : Nat) (0 : Nat)] H' ∧ ∀ (J : F) (a_1 :
  Option Addr) (n c : Nat) (H' : Heap), I [Value.slice a_1 n c] H' → SemWp Try.prog (Instr.next (Value.pointer a) false (0 : Nat)) H' fun v H'_1 => (v = Value.tuple { toList := [Value.bool
  false] } ∧ CallH Try.prog (45 : Nat) { toList := [Value.slice a_1 n c, Value.func (Fn.func (43 : Nat)) ⟨[]⟩ ⟨[]⟩] } H'_1 fun v H' => v = Value.tuple ⟨[]⟩ ∧ ∃ (I : List Value → Heap → Prop)
  (μ : List Value → Heap → Nat), I [Value.int IntKind.i64 (0 : Int)] H' ∧ ∀ (J : F) (n_1 : Int) (H' : Heap), I [Value.int IntKind.i64 n_1] H' → brB (decide (n_1 < (↑n : Int))) (exSome a_1 fun
  ad => chk (decide ((0 : Int) ≤ n_1 ∧ n_1 < (↑n : Int))) (∃ n_2 a n_3 c, Ld Try.prog (68 : Nat) H' (Addr.add ad (Int.toNat n_1 * (2 : Nat))) (Value.agg { toList := [Value.int IntKind.i64 n_2,
  Value.slice a n_3 c] }) ∧ CallH Try.prog (46 : Nat) { toList := [Value.slice l_a l_n l_c, Value.agg { toList := [Value.int IntKind.i64 n_2, Value.slice a n_3 c] }, Value.func (Fn.func (43 :
  Nat)) ⟨[]⟩ ⟨[]⟩] } H' fun v H'_2 => ∃ n_4 b, v = Value.tuple { toList := [Value.int IntKind.i64 n_4, Value.bool b] } ∧ brB b (exSome l_a fun ad => chk (decide ((0 : Int) ≤ n_4 ∧ n_4 < (↑l_n
  : Int))) (∃ a n_5 c, Ld Try.prog (22 : Nat) H'_2 (Addr.add (Addr.add ad (Int.toNat n_4 * (2 : Nat))) (1 : Nat)) (Value.slice a n_5 c) ∧ exSome a_1 fun ad => chk (decide ((0 : Int) ≤ n_1 ∧
  n_1 < (↑n : Int))) (∃ a_3 n_6 c_1, Ld Try.prog (22 : Nat) H'_2 (Addr.add (Addr.add ad (Int.toNat n_1 * (2 : Nat))) (1 : Nat)) (Value.slice a_3 n_6 c_1) ∧ CallH Try.prog (10 : Nat) { toList
  := [Value.slice a n_5 c, Value.slice a_3 n_6 c_1] } H'_2 fun v H'_3 => ∃ a n_7 c, v = Value.slice a n_7 c ∧ exSome a_1 fun ad => chk (decide ((0 : Int) ≤ n_1 ∧ n_1 < (↑n : Int))) (∃ H'_4, St
  Try.prog (22 : Nat) H'_3 (Addr.add (Addr.add ad (Int.toNat n_1 * (2 : Nat))) (1 : Nat)) (Value.slice a n_7 c) H'_4 ∧ I [Value.int IntKind.i64 (IntKind.wrap IntKind.i64 (n_1 + (1 : Int)))]
  H'_4 ∧ μ [Value.int IntKind.i64 (IntKind.wrap IntKind.i64 (n_1 + (1 : Int)))] H'_4 < μ [Value.int IntKind.i64 n_1] H')))) (I [Value.int IntKind.i64 (IntKind.wrap IntKind.i64 (n_1 + (1 :
  Int)))] H'_2 ∧ μ [Value.int IntKind.i64 (IntKind.wrap IntKind.i64 (n_1 + (1 : Int)))] H'_2 < μ [Value.int IntKind.i64 n_1] H'))) (CallH Try.prog (47 : Nat) { toList := [Value.slice l_a l_n
  l_c, Value.slice a_1 n c, Value.func (Fn.func (43 : Nat)) ⟨[]⟩ ⟨[]⟩] } H' fun v H' => ∃ a n c, v = Value.slice a n c ∧ ∃ (I : List Value → Heap → Prop) (μ : List Value → Heap → Nat), I
  [Value.int IntKind.i64 (0 : Int)] H' ∧ ∀ (J : F) (n_2 : Int) (H' : Heap), I [Value.int IntKind.i64 n_2] H' → brB (decide (n_2 < (↑n : Int))) (exSome a fun ad => chk (decide ((0 : Int) ≤ n_2
  ∧ n_2 < (↑n : Int))) (∃ a_4 n_3 c, Ld Try.prog (22 : Nat) H' (Addr.add (Addr.add ad (Int.toNat n_2 * (2 : Nat))) (1 : Nat)) (Value.slice a_4 n_3 c) ∧ CallH Try.prog (35 : Nat) { toList :=
  [Value.slice a_4 n_3 c] } H' fun v H'_2 => ∃ a_5 n_4 c, v = Value.slice a_5 n_4 c ∧ exSome a fun ad => chk (decide ((0 : Int) ≤ n_2 ∧ n_2 < (↑n : Int))) (∃ H'_3, St Try.prog (22 : Nat) H'_2
  (Addr.add (Addr.add ad (Int.toNat n_2 * (2 : Nat))) (1 : Nat)) (Value.slice a_5 n_4 c) H'_3 ∧ I [Value.int IntKind.i64 (IntKind.wrap IntKind.i64 (n_2 + (1 : Int)))] H'_3 ∧ μ [Value.int
  IntKind.i64 (IntKind.wrap IntKind.i64 (n_2 + (1 : Int)))] H'_3 < μ [Value.int IntKind.i64 n_2] H'))) (R (Value.slice a n c) H'))) ∨ ∃ k x, v = Value.tuple { toList := [Value.bool true, k, x]
  } ∧ SemWp Try.prog (Instr.entry (Value.pointer a)) H'_1 fun v H'_2 => ∃ k x, v = Value.tuple { toList := [k, x] } ∧ ∃ n_1, k = Value.int IntKind.i64 n_1 ∧ ∃ a n_2 c_1, x = Value.slice a n_2
  c_1 ∧ CallH Try.prog (39 : Nat) { toList := [Value.slice a n_2 c_1] } H'_2 fun v H'_3 => v = Value.tuple ⟨[]⟩ ∧ CallH Try.prog (40 : Nat) { toList := [Value.slice a n_2 c_1, Value.func
  (Fn.func (32 : Nat)) ⟨[]⟩ ⟨[]⟩] } H'_3 fun v H'_4 => v = Value.tuple ⟨[]⟩ ∧ CallH Try.prog (41 : Nat) { toList := [Value.slice a n_2 c_1, Value.func (Fn.func (42 : Nat)) ⟨[]⟩ ⟨[]⟩] } H'_4
  fun v H'_5 => ∃ a n_3 c_2, v = Value.slice a n_3 c_2 ∧ ∀ (b : Nat) (H'_6 : Heap), New H'_5 b (Obj.cells { toList := [Value.int IntKind.i64 n_1, Value.slice a n_3 c_2] } (68 : Nat)) H'_6 →
  SemWp Try.prog (Builtin.append_ { toList := [(37 : Nat), (37 : Nat)] } (37 : Nat) { toList := [Value.slice a_1 n c, Value.slice (some ⟨b, (0 : Nat), none⟩) (1 : Nat) (1 : Nat)] }) H'_6 fun v
  H'_7 => ∃ a n_4 c_3, v = Value.slice a n_4 c_3 ∧ I [Value.slice a n_4 c_3] H'_7 ∧ μ [Value.slice a n_4 c_3] H'_7 < μ [Value.slice a_1 n c] H')) : CallH Try.prog 20 (List.toArray [Value.slice
  l_a l_n l_c, Value.slice rows_a rows_n rows_c]) H R := vc_call (annOf [([0, 1, 0, 1, 1], .cut [(20, .one (.int .i64))]), ([1, 0, 0, 1, 1, 0, 0, 1, 0, 1, 1], .reg [0, 0, 2, 0, 0, 16, 56, 0,
  128, 0, 512, 1920, 3968, 8184, 16383] (.quiet 0 (.quiet 1 (.quiet 2 (.quiet 3 (.quiet 4 (.quiet 5 (.quiet 6 (.quiet 7 (.quiet 8 (.quiet 9 (.quiet 10 (.quiet 11 (.pick (.alt 12 (.pick (.alt
  13 (.pick (.alt 14 (.done) .stop)) .stop)) .stop))))))))))))))), ([0, 1, 0, 1, 1, 1, 1], .cut [(8, .one .slice)]), ([0, 0, 1, 1, 0, 0, 1, 0, 1, 1, 1, 1], .ext), ([0, 1, 0, 1, 1, 1, 1, 1, 1,
  1], .cut [(63, .one (.int .i64))]), ([0, 1, 1, 1, 0, 0, 1, 1, 0, 0, 1, 0, 1, 1, 1, 1, 1, 1, 1], .reg [0, 0, 0, 0, 12, 28, 60, 0, 0, 384, 896, 1920, 4092, 8191, 16383, 32767] (.quiet 0
  (.quiet 1 (.quiet 2 (.quiet 3 (.quiet 4 (.quiet 5 (.quiet 6 (.quiet 7 (.quiet 8 (.quiet 9 (.quiet 10 (.quiet 11 (.pick (.alt 12 (.quiet 13 (.quiet 14 (.pick (.alt 15 (.done) .stop))))
  .stop))))))))))))))), ([0, 1, 0, 1, 1, 1, 1, 1, 1, 1, 1, 1], .cut [(99, .one (.int .i64))])]) followsAll Go.Proofs.Try.func20 rfl Go.Proofs.Try.ntmps20 rfl rfl (Eq.mpr (by kernel_rfl) h)

/- 21 strandline/strandlinelaw13.ours
  slots: [0=l, 1=l, 3=out, 4=i]  -/
abbrev fn_law13_ours : Nat := 21
theorem vc_law13_ours (l_a : Option Addr) (l_n : Nat) (l_c : Nat) (H : Heap) (R : Value → Heap → Prop) (h : ∀ (b : Nat) (H' : Heap), New H b (Obj.cells ⟨[]⟩ (68 : Nat)) H' → ∃ (I : List
  Value → Heap → Prop) (μ : List Value → Heap → Nat), I [Value.slice (some ⟨b, (0 : Nat), none⟩) (0 : Nat) (0 : Nat), Value.int IntKind.i64 (0 : Int)] H' ∧ ∀ (J : F) (a : Option Addr) (n c :
  Nat) (n_1 : Int) (H' : Heap), I [Value.slice a n c, Value.int IntKind.i64 n_1] H' → brB (decide (n_1 < (↑l_n : Int))) (exSome l_a fun ad => chk (decide ((0 : Int) ≤ n_1 ∧ n_1 < (↑l_n :
  Int))) (∃ n_2, Ld Try.prog (3 : Nat) H' (Addr.add ad (Int.toNat n_1 * (2 : Nat))) (Value.int IntKind.i64 n_2) ∧ exSome l_a fun ad => chk (decide ((0 : Int) ≤ n_1 ∧ n_1 < (↑l_n : Int))) (∃
  a_2 n_3 c_1, Ld Try.prog (22 : Nat) H' (Addr.add (Addr.add ad (Int.toNat n_1 * (2 : Nat))) (1 : Nat)) (Value.slice a_2 n_3 c_1) ∧ ∀ (b : Nat) (H'_1 : Heap), New H' b (Obj.cells { toList :=
  [Value.int IntKind.i64 n_2, Value.slice a_2 n_3 c_1] } (68 : Nat)) H'_1 → SemWp Try.prog (Builtin.append_ { toList := [(37 : Nat), (37 : Nat)] } (37 : Nat) { toList := [Value.slice a n c,
  Value.slice (some ⟨b, (0 : Nat), none⟩) (1 : Nat) (1 : Nat)] }) H'_1 fun v H'_2 => ∃ a_4 n_4 c_2, v = Value.slice a_4 n_4 c_2 ∧ I [Value.slice a_4 n_4 c_2, Value.int IntKind.i64
  (IntKind.wrap IntKind.i64 (n_1 + (1 : Int)))] H'_2 ∧ μ [Value.slice a_4 n_4 c_2, Value.int IntKind.i64 (IntKind.wrap IntKind.i64 (n_1 + (1 : Int)))] H'_2 < μ [Value.slice a n c, Value.int
  IntKind.i64 n_1] H'))) (R (Value.slice a n c) H')) : CallH Try.prog 21 (List.toArray [Value.slice l_a l_n l_c]) H R := vc_call (annOf [([0, 1, 0, 1, 1], .cut [(3, .one .slice), (4, .one
  (.int .i64))]), ([0, 0, 1, 0, 0, 1, 0, 1, 1], .reg [0, 0, 0, 6, 14, 30, 0, 0, 192, 448, 960, 2046, 4094, 8191, 16383] (.quiet 0 (.quiet 1 (.quiet 2 (.quiet 3 (.quiet 4 (.quiet 5 (.quiet 6
  (.quiet 7 (.quiet 8 (.quiet 9 (.quiet 10 (.quiet 11 (.pick (.alt 12 (.pick (.alt 13 (.quiet 14 .done) .stop)) .stop)))))))))))))))]) followsAll Go.Proofs.Try.func21 rfl Go.Proofs.Try.ntmps21
  rfl rfl (Eq.mpr (by kernel_rfl) h)

/- 22 strandline/strandlineref13.Alike
  slots: [0=a, 1=b, 2=a, 3=b, 5=i]  -/
abbrev fn_ref13_Alike : Nat := 22
theorem vc_ref13_Alike (a_a : Option Addr) (a_n : Nat) (a_c : Nat) (b_a : Option Addr) (b_n : Nat) (b_c : Nat) (H : Heap) (R : Value → Heap → Prop) (h : brB ((↑a_n : Int) != (↑b_n : Int)) (R
  (Value.bool false) H) (∃ (I : List Value → Heap → Prop) (μ : List Value → Heap → Nat), I [Value.int IntKind.i64 (0 : Int)] H ∧ ∀ (J : F) (n : Int) (H' : Heap), I [Value.int IntKind.i64 n] H'
  → brB (decide (n < (↑a_n : Int))) (∃ (M : List Value → Heap → Prop), (exSome a_a fun ad => chk (decide ((0 : Int) ≤ n ∧ n < (↑a_n : Int))) (∃ n_1, Ld Try.prog (3 : Nat) H' (Addr.add ad
  (Int.toNat n * (2 : Nat))) (Value.int IntKind.i64 n_1) ∧ exSome b_a fun ad => chk (decide ((0 : Int) ≤ n ∧ n < (↑b_n : Int))) (∃ n_2, Ld Try.prog (3 : Nat) H' (Addr.add ad (Int.toNat n * (2
  : Nat))) (Value.int IntKind.i64 n_2) ∧ brB (n_1 != n_2) (R (Value.bool false) H') (exSome a_a fun ad => chk (decide ((0 : Int) ≤ n ∧ n < (↑a_n : Int))) (∃ a n_3 c, Ld Try.prog (22 : Nat) H'
  (Addr.add (Addr.add ad (Int.toNat n * (2 : Nat))) (1 : Nat)) (Value.slice a n_3 c) ∧ exSome b_a fun ad => chk (decide ((0 : Int) ≤ n ∧ n < (↑b_n : Int))) (∃ a_1 n_4 c_1, Ld Try.prog (22 :
  Nat) H' (Addr.add (Addr.add ad (Int.toNat n * (2 : Nat))) (1 : Nat)) (Value.slice a_1 n_4 c_1) ∧ CallH Try.prog (11 : Nat) { toList := [Value.slice a n_3 c, Value.slice a_1 n_4 c_1] } H' fun
  v H' => ∃ b, v = Value.bool b ∧ brB (!b) (R (Value.bool false) H') (M [] H'))))))) ∧ ∀ (J : F) (H'_1 : Heap), M [] H'_1 → I [Value.int IntKind.i64 (IntKind.wrap IntKind.i64 (n + (1 : Int)))]
  H'_1 ∧ μ [Value.int IntKind.i64 (IntKind.wrap IntKind.i64 (n + (1 : Int)))] H'_1 < μ [Value.int IntKind.i64 n] H') (R (Value.bool true) H'))) : CallH Try.prog 22 (List.toArray [Value.slice
  a_a a_n a_c, Value.slice b_a b_n b_c]) H R := vc_call (annOf [([0, 1, 0, 1, 1], .cut [(5, .one (.int .i64))]), ([1, 0, 0, 1, 0, 1, 1], .cut []), ([0, 0, 0, 1, 0, 0, 1, 0, 1, 1], .tail 22)])
  followsAll Go.Proofs.Try.func22 rfl Go.Proofs.Try.ntmps22 rfl rfl (Eq.mpr (by kernel_rfl) h)

/- 23 strandline/strandlinelaw13.theirs
  slots: [0=l, 1=l, 3=out, 4=i]  -/
abbrev fn_law13_theirs : Nat := 23
theorem vc_law13_theirs (l_a : Option Addr) (l_n : Nat) (l_c : Nat) (H : Heap) (R : Value → Heap → Prop) (h : ∀ (b : Nat) (H' : Heap), New H b (Obj.cells ⟨[]⟩ (62 : Nat)) H' → ∃ (I : List
  Value → Heap → Prop) (μ : List Value → Heap → Nat), I [Value.slice (some ⟨b, (0 : Nat), none⟩) (0 : Nat) (0 : Nat), Value.int IntKind.i64 (0 : Int)] H' ∧ ∀ (J : F) (a : Option Addr) (n c :
  Nat) (n_1 : Int) (H' : Heap), I [Value.slice a n c, Value.int IntKind.i64 n_1] H' → brB (decide (n_1 < (↑l_n : Int))) (exSome l_a fun ad => chk (decide ((0 : Int) ≤ n_1 ∧ n_1 < (↑l_n :
  Int))) (∃ n_2, Ld Try.prog (3 : Nat) H' (Addr.add ad (Int.toNat n_1 * (2 : Nat))) (Value.int IntKind.i64 n_2) ∧ exSome l_a fun ad => chk (decide ((0 : Int) ≤ n_1 ∧ n_1 < (↑l_n : Int))) (∃
  a_2 n_3 c_1, Ld Try.prog (22 : Nat) H' (Addr.add (Addr.add ad (Int.toNat n_1 * (2 : Nat))) (1 : Nat)) (Value.slice a_2 n_3 c_1) ∧ ∀ (b : Nat) (H'_1 : Heap), New H' b (Obj.cells { toList :=
  [Value.int IntKind.i64 n_2, Value.slice a_2 n_3 c_1] } (62 : Nat)) H'_1 → SemWp Try.prog (Builtin.append_ { toList := [(35 : Nat), (35 : Nat)] } (35 : Nat) { toList := [Value.slice a n c,
  Value.slice (some ⟨b, (0 : Nat), none⟩) (1 : Nat) (1 : Nat)] }) H'_1 fun v H'_2 => ∃ a_4 n_4 c_2, v = Value.slice a_4 n_4 c_2 ∧ I [Value.slice a_4 n_4 c_2, Value.int IntKind.i64
  (IntKind.wrap IntKind.i64 (n_1 + (1 : Int)))] H'_2 ∧ μ [Value.slice a_4 n_4 c_2, Value.int IntKind.i64 (IntKind.wrap IntKind.i64 (n_1 + (1 : Int)))] H'_2 < μ [Value.slice a n c, Value.int
  IntKind.i64 n_1] H'))) (R (Value.slice a n c) H')) : CallH Try.prog 23 (List.toArray [Value.slice l_a l_n l_c]) H R := vc_call (annOf [([0, 1, 0, 1, 1], .cut [(3, .one .slice), (4, .one
  (.int .i64))]), ([0, 0, 1, 0, 0, 1, 0, 1, 1], .reg [0, 0, 0, 6, 14, 30, 0, 0, 192, 448, 960, 2046, 4094, 8191, 16383] (.quiet 0 (.quiet 1 (.quiet 2 (.quiet 3 (.quiet 4 (.quiet 5 (.quiet 6
  (.quiet 7 (.quiet 8 (.quiet 9 (.quiet 10 (.quiet 11 (.pick (.alt 12 (.pick (.alt 13 (.quiet 14 .done) .stop)) .stop)))))))))))))))]) followsAll Go.Proofs.Try.func23 rfl Go.Proofs.Try.ntmps23
  rfl rfl (Eq.mpr (by kernel_rfl) h)

/- 24 strandline/strandlineref13.Right
  slots: [0=l, 1=l, 3=i]  -/
abbrev fn_ref13_Right : Nat := 24
theorem vc_ref13_Right (l_a : Option Addr) (l_n : Nat) (l_c : Nat) (H : Heap) (R : Value → Heap → Prop) (h : ∃ (I : List Value → Heap → Prop) (μ : List Value → Heap → Nat), I [Value.int
  IntKind.i64 (0 : Int)] H ∧ ∀ (J : F) (n : Int) (H' : Heap), I [Value.int IntKind.i64 n] H' → brB (decide (n < (↑l_n : Int))) (∃ (M : List Value → Heap → Prop), (exSome l_a fun ad => chk
  (decide ((0 : Int) ≤ n ∧ n < (↑l_n : Int))) (∃ a n_1 c, Ld Try.prog (22 : Nat) H' (Addr.add (Addr.add ad (Int.toNat n * (2 : Nat))) (1 : Nat)) (Value.slice a n_1 c) ∧ brB ((↑n_1 : Int) == (0
  : Int)) (R (Value.bool false) H') (exSome l_a fun ad => chk (decide ((0 : Int) ≤ n ∧ n < (↑l_n : Int))) (∃ a n_2 c, Ld Try.prog (22 : Nat) H' (Addr.add (Addr.add ad (Int.toNat n * (2 :
  Nat))) (1 : Nat)) (Value.slice a n_2 c) ∧ CallH Try.prog (16 : Nat) { toList := [Value.slice a n_2 c] } H' fun v H' => ∃ b, v = Value.bool b ∧ brB (!b) (R (Value.bool false) H') (brB (decide
  (n > (0 : Int))) (exSome l_a fun ad => chk (decide ((0 : Int) ≤ n ∧ n < (↑l_n : Int))) (∃ n_3, Ld Try.prog (3 : Nat) H' (Addr.add ad (Int.toNat n * (2 : Nat))) (Value.int IntKind.i64 n_3) ∧
  exSome l_a fun ad => chk (decide ((0 : Int) ≤ IntKind.wrap IntKind.i64 (n - (1 : Int)) ∧ IntKind.wrap IntKind.i64 (n - (1 : Int)) < (↑l_n : Int))) (∃ n_4, Ld Try.prog (3 : Nat) H' (Addr.add
  ad (Int.toNat (IntKind.wrap IntKind.i64 (n - (1 : Int))) * (2 : Nat))) (Value.int IntKind.i64 n_4) ∧ brB (decide (n_3 ≤ n_4)) (R (Value.bool false) H') (M [] H')))) (M [] H')))))) ∧ ∀ (J :
  F) (H'_1 : Heap), M [] H'_1 → I [Value.int IntKind.i64 (IntKind.wrap IntKind.i64 (n + (1 : Int)))] H'_1 ∧ μ [Value.int IntKind.i64 (IntKind.wrap IntKind.i64 (n + (1 : Int)))] H'_1 < μ
  [Value.int IntKind.i64 n] H') (R (Value.bool true) H')) : CallH Try.prog 24 (List.toArray [Value.slice l_a l_n l_c]) H R := vc_call (annOf [([0, 1, 0, 1], .cut [(3, .one (.int .i64))]), ([1,
  0, 0, 1, 0, 1], .cut []), ([0, 0, 0, 1, 0, 0, 1, 0, 1], .reg [0, 0, 3, 7, 15, 31, 63, 127, 255, 255, 1023, 2047, 4095, 8191, 16383, 32767, 65535, 131071, 262143, 524287, 1048575, 1048575,
  4194303, 8388607, 16777215, 1048575, 1048575, 68157439, 235929599, 504365055, 1041235967, 2147483647, 4294967295, 8589934591] (.quiet 0 (.quiet 1 (.quiet 2 (.quiet 3 (.quiet 4 (.quiet 5
  (.quiet 6 (.quiet 7 (.quiet 8 (.quiet 9 (.quiet 10 (.quiet 11 (.quiet 12 (.pick (.alt 13 (.quiet 14 (.quiet 15 (.quiet 16 (.quiet 17 (.quiet 18 (.quiet 19 (.quiet 20 (.quiet 21 (.quiet 22
  (.quiet 23 (.quiet 24 (.quiet 25 (.quiet 26 (.quiet 27 (.quiet 28 (.quiet 29 (.quiet 30 (.quiet 31 (.quiet 32 (.quiet 33 .done)))))))))))))))))))) .stop))))))))))))))))]) followsAll
  Go.Proofs.Try.func24 rfl Go.Proofs.Try.ntmps24 rfl rfl (Eq.mpr (by kernel_rfl) h)

/- 25 strandline/series.Rows
  slots: [0=l, 1=l, 3=rows, 4=_, 5=s, 6=own, 7=_, 8=x]  -/
abbrev fn_series_Rows : Nat := 25
theorem vc_series_Rows (l_a : Option Addr) (l_n : Nat) (l_c : Nat) (H : Heap) (R : Value → Heap → Prop) (h : ∃ (I : List Value → Heap → Prop) (μ : List Value → Heap → Nat), I [Value.slice
  none (0 : Nat) (0 : Nat), Value.int IntKind.i64 (0 : Int)] H ∧ ∀ (J : F) (a : Option Addr) (n c : Nat) (n_1 : Int) (H' : Heap), I [Value.slice a n c, Value.int IntKind.i64 n_1] H' → brB
  (decide (n_1 < (↑l_n : Int))) (exSome l_a fun ad => chk (decide ((0 : Int) ≤ n_1 ∧ n_1 < (↑l_n : Int))) (∃ n_2 a_2 n_3 c_1, Ld Try.prog (68 : Nat) H' (Addr.add ad (Int.toNat n_1 * (2 :
  Nat))) (Value.agg { toList := [Value.int IntKind.i64 n_2, Value.slice a_2 n_3 c_1] }) ∧ ∀ (b : Nat) (H'_1 : Heap), New H' b (Obj.cells { toList := [Value.int IntKind.i64 (0 : Int),
  Value.slice none (0 : Nat) (0 : Nat)] } (68 : Nat)) H'_1 → ∃ H'_2, St Try.prog (68 : Nat) H'_1 ⟨b, (0 : Nat), none⟩ (Value.agg { toList := [Value.int IntKind.i64 n_2, Value.slice a_2 n_3
  c_1] }) H'_2 ∧ ∃ a_4 n_4 c_2, Ld Try.prog (22 : Nat) H'_2 ⟨b, (1 : Nat), none⟩ (Value.slice a_4 n_4 c_2) ∧ ∃ (I_1 : List Value → Heap → Prop) (μ_1 : List Value → Heap → Nat), I_1
  [Value.slice none (0 : Nat) (0 : Nat), Value.int IntKind.i64 (0 : Int)] H'_2 ∧ ∀ (J : F) (a_5 : Option Addr) (n_5 c_3 : Nat) (n_6 : Int) (H'_3 : Heap), I_1 [Value.slice a_5 n_5 c_3,
  Value.int IntKind.i64 n_6] H'_3 → brB (decide (n_6 < (↑n_4 : Int))) (exSome a_4 fun ad => chk (decide ((0 : Int) ≤ n_6 ∧ n_6 < (↑n_4 : Int))) (∃ n n_7, Ld Try.prog (26 : Nat) H'_3 (Addr.add
  ad (Int.toNat n_6 * (2 : Nat))) (Value.agg { toList := [Value.int IntKind.i64 n, Value.int IntKind.i64 n_7] }) ∧ ∀ (b_1 : Nat) (H' : Heap), New H'_3 b_1 (Obj.cells { toList := [Value.int
  IntKind.i64 (0 : Int), Value.int IntKind.i64 (0 : Int)] } (26 : Nat)) H' → ∃ H'_4, St Try.prog (26 : Nat) H' ⟨b_1, (0 : Nat), none⟩ (Value.agg { toList := [Value.int IntKind.i64 n, Value.int
  IntKind.i64 n_7] }) H'_4 ∧ ∃ n, Ld Try.prog (3 : Nat) H'_4 ⟨b_1, (0 : Nat), none⟩ (Value.int IntKind.i64 n) ∧ ∃ n_8, Ld Try.prog (3 : Nat) H'_4 ⟨b, (0 : Nat), none⟩ (Value.int IntKind.i64
  n_8) ∧ ∃ n_9, Ld Try.prog (3 : Nat) H'_4 ⟨b_1, (1 : Nat), none⟩ (Value.int IntKind.i64 n_9) ∧ ∀ (b : Nat) (H' : Heap), New H'_4 b (Obj.cells { toList := [Value.int IntKind.i64 n, Value.int
  IntKind.i64 n_8, Value.int IntKind.i64 n_9] } (45 : Nat)) H' → SemWp Try.prog (Builtin.append_ { toList := [(34 : Nat), (34 : Nat)] } (34 : Nat) { toList := [Value.slice a_5 n_5 c_3,
  Value.slice (some ⟨b, (0 : Nat), none⟩) (1 : Nat) (1 : Nat)] }) H' fun v H' => ∃ a n c, v = Value.slice a n c ∧ I_1 [Value.slice a n c, Value.int IntKind.i64 (IntKind.wrap IntKind.i64 (n_6 +
  (1 : Int)))] H' ∧ μ_1 [Value.slice a n c, Value.int IntKind.i64 (IntKind.wrap IntKind.i64 (n_6 + (1 : Int)))] H' < μ_1 [Value.slice a_5 n_5 c_3, Value.int IntKind.i64 n_6] H'_3)) (CallH
  Try.prog (48 : Nat) { toList := [Value.slice a n c, Value.slice a_5 n_5 c_3, Value.func (Fn.func (49 : Nat)) ⟨[]⟩ ⟨[]⟩] } H'_3 fun v H'_4 => ∃ a_7 n_7 c_4, v = Value.slice a_7 n_7 c_4 ∧ I
  [Value.slice a_7 n_7 c_4, Value.int IntKind.i64 (IntKind.wrap IntKind.i64 (n_1 + (1 : Int)))] H'_4 ∧ μ [Value.slice a_7 n_7 c_4, Value.int IntKind.i64 (IntKind.wrap IntKind.i64 (n_1 + (1 :
  Int)))] H'_4 < μ [Value.slice a n c, Value.int IntKind.i64 n_1] H'))) (R (Value.slice a n c) H')) : CallH Try.prog 25 (List.toArray [Value.slice l_a l_n l_c]) H R := vc_call (annOf [([0, 1,
  0, 1, 1], .cut [(3, .one .slice), (11, .one (.int .i64))]), ([0, 1, 0, 1, 1, 0, 0, 1, 1, 0, 0, 1, 0, 1, 1], .cut [(6, .one .slice), (18, .one (.int .i64))])]) followsAll Go.Proofs.Try.func25
  rfl Go.Proofs.Try.ntmps25 rfl rfl (Eq.mpr (by kernel_rfl) h)

/- 26 strandline/strandlinelaw13.fine
  slots: [0=l, 1=l, 3=out, 4=i]  -/
abbrev fn_law13_fine : Nat := 26
theorem vc_law13_fine (l_a : Option Addr) (l_n : Nat) (l_c : Nat) (H : Heap) (R : Value → Heap → Prop) (h : ∀ (b : Nat) (H' : Heap), New H b (Obj.cells ⟨[]⟩ (45 : Nat)) H' → ∃ (I : List
  Value → Heap → Prop) (μ : List Value → Heap → Nat), I [Value.slice (some ⟨b, (0 : Nat), none⟩) (0 : Nat) (0 : Nat), Value.int IntKind.i64 (0 : Int)] H' ∧ ∀ (J : F) (a : Option Addr) (n c :
  Nat) (n_1 : Int) (H' : Heap), I [Value.slice a n c, Value.int IntKind.i64 n_1] H' → ∃ (M : List Value → Heap → Prop), brB (decide (n_1 < (↑l_n : Int))) (brB (decide (n_1 < (100 : Int))) (M
  [] H') (R (Value.slice a n c) H')) (R (Value.slice a n c) H') ∧ ∀ (J : F) (H'_1 : Heap), M [] H'_1 → ∃ (M : List Value → Heap → Prop), (∃ (M_1 : List Value → Heap → Prop), brB ((↑n : Int) ==
  (0 : Int)) (M_1 [Value.bool true] H'_1) (exSome l_a fun ad => chk (decide ((0 : Int) ≤ n_1 ∧ n_1 < (↑l_n : Int))) (∃ n_2 n_3 n_4, Ld Try.prog (45 : Nat) H'_1 (Addr.add ad (Int.toNat n_1 * (3
  : Nat))) (Value.agg { toList := [Value.int IntKind.i64 n_2, Value.int IntKind.i64 n_3, Value.int IntKind.i64 n_4] }) ∧ exSome a fun ad => chk (decide ((0 : Int) ≤ IntKind.wrap IntKind.i64
  ((↑n : Int) - (1 : Int)) ∧ IntKind.wrap IntKind.i64 ((↑n : Int) - (1 : Int)) < (↑n : Int))) (∃ n_5 n_6 n_7, Ld Try.prog (45 : Nat) H'_1 (Addr.add ad (Int.toNat (IntKind.wrap IntKind.i64 ((↑n
  : Int) - (1 : Int))) * (3 : Nat))) (Value.agg { toList := [Value.int IntKind.i64 n_5, Value.int IntKind.i64 n_6, Value.int IntKind.i64 n_7] }) ∧ CallH Try.prog (50 : Nat) { toList :=
  [Value.agg { toList := [Value.int IntKind.i64 n_2, Value.int IntKind.i64 n_3, Value.int IntKind.i64 n_4] }, Value.agg { toList := [Value.int IntKind.i64 n_5, Value.int IntKind.i64 n_6,
  Value.int IntKind.i64 n_7] }] } H'_1 fun v H' => ∃ b, v = Value.bool b ∧ M_1 [Value.bool b] H'))) ∧ ∀ (J : F) (b : Bool) (H' : Heap), M_1 [Value.bool b] H' → brB b (exSome l_a fun ad => chk
  (decide ((0 : Int) ≤ n_1 ∧ n_1 < (↑l_n : Int))) (∃ n_2 n_3 n_4, Ld Try.prog (45 : Nat) H' (Addr.add ad (Int.toNat n_1 * (3 : Nat))) (Value.agg { toList := [Value.int IntKind.i64 n_2,
  Value.int IntKind.i64 n_3, Value.int IntKind.i64 n_4] }) ∧ ∀ (b : Nat) (H'_2 : Heap), New H' b (Obj.cells { toList := [Value.int IntKind.i64 n_2, Value.int IntKind.i64 n_3, Value.int
  IntKind.i64 n_4] } (45 : Nat)) H'_2 → SemWp Try.prog (Builtin.append_ { toList := [(34 : Nat), (34 : Nat)] } (34 : Nat) { toList := [Value.slice a n c, Value.slice (some ⟨b, (0 : Nat),
  none⟩) (1 : Nat) (1 : Nat)] }) H'_2 fun v H' => ∃ a n c, v = Value.slice a n c ∧ M [Value.slice a n c] H')) (M [Value.slice a n c] H')) ∧ ∀ (J : F) (a_3 : Option Addr) (n_2 c_1 : Nat) (H'_2
  : Heap), M [Value.slice a_3 n_2 c_1] H'_2 → I [Value.slice a_3 n_2 c_1, Value.int IntKind.i64 (IntKind.wrap IntKind.i64 (n_1 + (1 : Int)))] H'_2 ∧ μ [Value.slice a_3 n_2 c_1, Value.int
  IntKind.i64 (IntKind.wrap IntKind.i64 (n_1 + (1 : Int)))] H'_2 < μ [Value.slice a n c, Value.int IntKind.i64 n_1] H') : CallH Try.prog 26 (List.toArray [Value.slice l_a l_n l_c]) H R :=
  vc_call (annOf [([0, 1, 0, 1, 1], .cut [(3, .one .slice), (4, .one (.int .i64))]), ([0, 0, 1, 0, 1, 1], .cut []), ([1, 0, 0, 1, 0, 1, 1], .cut [(3, .one .slice)]), ([0, 0, 1, 0, 0, 1, 0, 1,
  1], .cut [(31, .one .bool)]), ([0, 0, 0, 1, 0, 0, 1, 0, 1, 1], .tail 14)]) followsAll Go.Proofs.Try.func26 rfl Go.Proofs.Try.ntmps26 rfl rfl (Eq.mpr (by kernel_rfl) h)

/- 27 strandline/series.Split
  slots: [0=rows, 1=rows]  -/
abbrev fn_series_Split : Nat := 27
theorem vc_series_Split (rows_a : Option Addr) (rows_n : Nat) (rows_c : Nat) (H : Heap) (R : Value → Heap → Prop) (h : CallH Try.prog (20 : Nat) { toList := [Value.slice none (0 : Nat) (0 :
  Nat), Value.slice rows_a rows_n rows_c] } H fun v H' => ∃ a n c, v = Value.slice a n c ∧ R (Value.slice a n c) H') : CallH Try.prog 27 (List.toArray [Value.slice rows_a rows_n rows_c]) H R
  := vc_call (annOf []) followsAll Go.Proofs.Try.func27 rfl Go.Proofs.Try.ntmps27 rfl rfl (Eq.mpr (by kernel_rfl) h)

/- 28 strandline/strandlineref13.Split
  slots: [0=rows, 1=rows]  -/
abbrev fn_ref13_Split : Nat := 28
theorem vc_ref13_Split (rows_a : Option Addr) (rows_n : Nat) (rows_c : Nat) (H : Heap) (R : Value → Heap → Prop) (h : CallH Try.prog (19 : Nat) { toList := [Value.slice none (0 : Nat) (0 :
  Nat), Value.slice rows_a rows_n rows_c] } H fun v H' => ∃ a n c, v = Value.slice a n c ∧ R (Value.slice a n c) H') : CallH Try.prog 28 (List.toArray [Value.slice rows_a rows_n rows_c]) H R
  := vc_call (annOf []) followsAll Go.Proofs.Try.func28 rfl Go.Proofs.Try.ntmps28 rfl rfl (Eq.mpr (by kernel_rfl) h)

/- 29 strandline/strandlineref13.Equal
  slots: [0=a, 1=b, 2=a, 3=b, 5=i]  -/
abbrev fn_ref13_Equal : Nat := 29
theorem vc_ref13_Equal (a_a : Option Addr) (a_n : Nat) (a_c : Nat) (b_a : Option Addr) (b_n : Nat) (b_c : Nat) (H : Heap) (R : Value → Heap → Prop) (h : brB ((↑a_n : Int) != (↑b_n : Int)) (R
  (Value.bool false) H) (∃ (I : List Value → Heap → Prop) (μ : List Value → Heap → Nat), I [Value.int IntKind.i64 (0 : Int)] H ∧ ∀ (J : F) (n : Int) (H' : Heap), I [Value.int IntKind.i64 n] H'
  → brB (decide (n < (↑a_n : Int))) (exSome a_a fun ad => chk (decide ((0 : Int) ≤ n ∧ n < (↑a_n : Int))) (∃ n_1 n_2 n_3, Ld Try.prog (45 : Nat) H' (Addr.add ad (Int.toNat n * (3 : Nat)))
  (Value.agg { toList := [Value.int IntKind.i64 n_1, Value.int IntKind.i64 n_2, Value.int IntKind.i64 n_3] }) ∧ exSome b_a fun ad => chk (decide ((0 : Int) ≤ n ∧ n < (↑b_n : Int))) (∃ n_4 n_5
  n_6, Ld Try.prog (45 : Nat) H' (Addr.add ad (Int.toNat n * (3 : Nat))) (Value.agg { toList := [Value.int IntKind.i64 n_4, Value.int IntKind.i64 n_5, Value.int IntKind.i64 n_6] }) ∧ brB
  (!(n_1 == n_4 && (n_2 == n_5 && (n_3 == n_6 && true)))) (R (Value.bool false) H') (I [Value.int IntKind.i64 (IntKind.wrap IntKind.i64 (n + (1 : Int)))] H' ∧ μ [Value.int IntKind.i64
  (IntKind.wrap IntKind.i64 (n + (1 : Int)))] H' < μ [Value.int IntKind.i64 n] H')))) (R (Value.bool true) H'))) : CallH Try.prog 29 (List.toArray [Value.slice a_a a_n a_c, Value.slice b_a b_n
  b_c]) H R := vc_call (annOf [([0, 1, 0, 1, 1], .cut [(5, .one (.int .i64))])]) followsAll Go.Proofs.Try.func29 rfl Go.Proofs.Try.ntmps29 rfl rfl (Eq.mpr (by kernel_rfl) h)

/- 30 strandline/strandlineref13.Rows
  slots: [0=l, 1=l, 3=rows, 4=i, 5=k, 6=x, 7=out, 8=done, 9=j]  -/
abbrev fn_ref13_Rows : Nat := 30
theorem vc_ref13_Rows (l_a : Option Addr) (l_n : Nat) (l_c : Nat) (H : Heap) (R : Value → Heap → Prop) (h : ∀ (b : Nat) (H' : Heap), New H b (Obj.cells ⟨[]⟩ (45 : Nat)) H' → ∃ (I : List
  Value → Heap → Prop) (μ : List Value → Heap → Nat), I [Value.slice (some ⟨b, (0 : Nat), none⟩) (0 : Nat) (0 : Nat), Value.int IntKind.i64 (0 : Int)] H' ∧ ∀ (J : F) (a : Option Addr) (n c :
  Nat) (n_1 : Int) (H' : Heap), I [Value.slice a n c, Value.int IntKind.i64 n_1] H' → brB (decide (n_1 < (↑l_n : Int))) (∃ (I_1 : List Value → Heap → Prop) (μ_1 : List Value → Heap → Nat), I_1
  [Value.slice a n c, Value.int IntKind.i64 (0 : Int)] H' ∧ ∀ (J : F) (a_2 : Option Addr) (n_2 c_1 : Nat) (n_3 : Int) (H'_1 : Heap), I_1 [Value.slice a_2 n_2 c_1, Value.int IntKind.i64 n_3]
  H'_1 → exSome l_a fun ad => chk (decide ((0 : Int) ≤ n_1 ∧ n_1 < (↑l_n : Int))) (∃ a_4 n_4 c_2, Ld Try.prog (22 : Nat) H'_1 (Addr.add (Addr.add ad (Int.toNat n_1 * (2 : Nat))) (1 : Nat))
  (Value.slice a_4 n_4 c_2) ∧ brB (decide (n_3 < (↑n_4 : Int))) (exSome l_a fun ad => chk (decide ((0 : Int) ≤ n_1 ∧ n_1 < (↑l_n : Int))) (∃ a n c, Ld Try.prog (22 : Nat) H'_1 (Addr.add
  (Addr.add ad (Int.toNat n_1 * (2 : Nat))) (1 : Nat)) (Value.slice a n c) ∧ exSome a fun ad_1 => chk (decide ((0 : Int) ≤ n_3 ∧ n_3 < (↑n : Int))) (∃ n_5, Ld Try.prog (3 : Nat) H'_1 (Addr.add
  ad_1 (Int.toNat n_3 * (2 : Nat))) (Value.int IntKind.i64 n_5) ∧ exSome l_a fun ad_2 => chk (decide ((0 : Int) ≤ n_1 ∧ n_1 < (↑l_n : Int))) (∃ n_6, Ld Try.prog (3 : Nat) H'_1 (Addr.add ad_2
  (Int.toNat n_1 * (2 : Nat))) (Value.int IntKind.i64 n_6) ∧ exSome l_a fun ad_3 => chk (decide ((0 : Int) ≤ n_1 ∧ n_1 < (↑l_n : Int))) (∃ a_5 n_7 c_3, Ld Try.prog (22 : Nat) H'_1 (Addr.add
  (Addr.add ad_3 (Int.toNat n_1 * (2 : Nat))) (1 : Nat)) (Value.slice a_5 n_7 c_3) ∧ exSome a_5 fun ad_4 => chk (decide ((0 : Int) ≤ n_3 ∧ n_3 < (↑n_7 : Int))) (∃ n_8, Ld Try.prog (3 : Nat)
  H'_1 (Addr.add (Addr.add ad_4 (Int.toNat n_3 * (2 : Nat))) (1 : Nat)) (Value.int IntKind.i64 n_8) ∧ ∀ (b : Nat) (H' : Heap), New H'_1 b (Obj.cells { toList := [Value.int IntKind.i64 (0 :
  Int), Value.int IntKind.i64 (0 : Int), Value.int IntKind.i64 (0 : Int)] } (45 : Nat)) H' → Ld Try.prog (3 : Nat) H' (Addr.add (Addr.add ad_4 (Int.toNat n_3 * (2 : Nat))) (1 : Nat))
  (Value.int IntKind.i64 n_8) ∧ Ld Try.prog (22 : Nat) H' (Addr.add (Addr.add ad_3 (Int.toNat n_1 * (2 : Nat))) (1 : Nat)) (Value.slice a_5 n_7 c_3) ∧ Ld Try.prog (3 : Nat) H' (Addr.add ad_2
  (Int.toNat n_1 * (2 : Nat))) (Value.int IntKind.i64 n_6) ∧ Ld Try.prog (3 : Nat) H' (Addr.add ad_1 (Int.toNat n_3 * (2 : Nat))) (Value.int IntKind.i64 n_5) ∧ Ld Try.prog (22 : Nat) H'
  (Addr.add (Addr.add ad (Int.toNat n_1 * (2 : Nat))) (1 : Nat)) (Value.slice a n c) ∧ ∃ H'_2, St Try.prog (45 : Nat) H' ⟨b, (0 : Nat), none⟩ (Value.agg { toList := [Value.int IntKind.i64 n_5,
  Value.int IntKind.i64 n_6, Value.int IntKind.i64 n_8] }) H'_2 ∧ ∀ (b_1 : Nat) (H' : Heap), New H'_2 b_1 (Obj.cells ⟨[]⟩ (45 : Nat)) H' → ∃ (I : List Value → Heap → Prop) (μ : List Value →
  Heap → Nat), I [Value.slice (some ⟨b_1, (0 : Nat), none⟩) (0 : Nat) (0 : Nat), Value.bool false, Value.int IntKind.i64 (0 : Int)] H' ∧ ∀ (J : F) (a : Option Addr) (n c : Nat) (b_2 : Bool)
  (n_9 : Int) (H' : Heap), I [Value.slice a n c, Value.bool b_2, Value.int IntKind.i64 n_9] H' → brB (decide (n_9 < (↑n_2 : Int))) (∃ (M : List Value → Heap → Prop), (∃ (M_1 : List Value →
  Heap → Prop), (∃ (M : List Value → Heap → Prop), brB (!b_2) (exSome a_2 fun ad => chk (decide ((0 : Int) ≤ n_9 ∧ n_9 < (↑n_2 : Int))) (∃ n n_10 n_11, Ld Try.prog (45 : Nat) H' (Addr.add ad
  (Int.toNat n_9 * (3 : Nat))) (Value.agg { toList := [Value.int IntKind.i64 n, Value.int IntKind.i64 n_10, Value.int IntKind.i64 n_11] }) ∧ ∃ n_12 n_13 n_14, Ld Try.prog (45 : Nat) H' ⟨b, (0
  : Nat), none⟩ (Value.agg { toList := [Value.int IntKind.i64 n_12, Value.int IntKind.i64 n_13, Value.int IntKind.i64 n_14] }) ∧ CallH Try.prog (50 : Nat) { toList := [Value.agg { toList :=
  [Value.int IntKind.i64 n, Value.int IntKind.i64 n_10, Value.int IntKind.i64 n_11] }, Value.agg { toList := [Value.int IntKind.i64 n_12, Value.int IntKind.i64 n_13, Value.int IntKind.i64
  n_14] }] } H' fun v H' => ∃ b, v = Value.bool b ∧ M [Value.bool b] H')) (M [Value.bool false] H') ∧ ∀ (J : F) (b_3 : Bool) (H' : Heap), M [Value.bool b_3] H' → brB b_3 (∃ n_10 n_11 n_12, Ld
  Try.prog (45 : Nat) H' ⟨b, (0 : Nat), none⟩ (Value.agg { toList := [Value.int IntKind.i64 n_10, Value.int IntKind.i64 n_11, Value.int IntKind.i64 n_12] }) ∧ ∀ (b : Nat) (H'_3 : Heap), New H'
  b (Obj.cells { toList := [Value.int IntKind.i64 n_10, Value.int IntKind.i64 n_11, Value.int IntKind.i64 n_12] } (45 : Nat)) H'_3 → SemWp Try.prog (Builtin.append_ { toList := [(34 : Nat),
  (34 : Nat)] } (34 : Nat) { toList := [Value.slice a n c, Value.slice (some ⟨b, (0 : Nat), none⟩) (1 : Nat) (1 : Nat)] }) H'_3 fun v H' => ∃ a n c, v = Value.slice a n c ∧ M_1 [Value.slice a
  n c, Value.bool true] H') (M_1 [Value.slice a n c, Value.bool b_2] H')) ∧ ∀ (J : F) (a : Option Addr) (n c : Nat) (b : Bool) (H' : Heap), M_1 [Value.slice a n c, Value.bool b] H' → exSome
  a_2 fun ad => chk (decide ((0 : Int) ≤ n_9 ∧ n_9 < (↑n_2 : Int))) (∃ n_10 n_11 n_12, Ld Try.prog (45 : Nat) H' (Addr.add ad (Int.toNat n_9 * (3 : Nat))) (Value.agg { toList := [Value.int
  IntKind.i64 n_10, Value.int IntKind.i64 n_11, Value.int IntKind.i64 n_12] }) ∧ ∀ (b_3 : Nat) (H'_3 : Heap), New H' b_3 (Obj.cells { toList := [Value.int IntKind.i64 n_10, Value.int
  IntKind.i64 n_11, Value.int IntKind.i64 n_12] } (45 : Nat)) H'_3 → SemWp Try.prog (Builtin.append_ { toList := [(34 : Nat), (34 : Nat)] } (34 : Nat) { toList := [Value.slice a n c,
  Value.slice (some ⟨b_3, (0 : Nat), none⟩) (1 : Nat) (1 : Nat)] }) H'_3 fun v H' => ∃ a n c, v = Value.slice a n c ∧ M [Value.slice a n c, Value.bool b] H')) ∧ ∀ (J : F) (a_8 : Option Addr)
  (n_10 c_4 : Nat) (b : Bool) (H'_3 : Heap), M [Value.slice a_8 n_10 c_4, Value.bool b] H'_3 → I [Value.slice a_8 n_10 c_4, Value.bool b, Value.int IntKind.i64 (IntKind.wrap IntKind.i64 (n_9 +
  (1 : Int)))] H'_3 ∧ μ [Value.slice a_8 n_10 c_4, Value.bool b, Value.int IntKind.i64 (IntKind.wrap IntKind.i64 (n_9 + (1 : Int)))] H'_3 < μ [Value.slice a n c, Value.bool b_2, Value.int
  IntKind.i64 n_9] H') (brB (!b_2) (∃ n_10 n_11 n_12, Ld Try.prog (45 : Nat) H' ⟨b, (0 : Nat), none⟩ (Value.agg { toList := [Value.int IntKind.i64 n_10, Value.int IntKind.i64 n_11, Value.int
  IntKind.i64 n_12] }) ∧ ∀ (b : Nat) (H'_3 : Heap), New H' b (Obj.cells { toList := [Value.int IntKind.i64 n_10, Value.int IntKind.i64 n_11, Value.int IntKind.i64 n_12] } (45 : Nat)) H'_3 →
  SemWp Try.prog (Builtin.append_ { toList := [(34 : Nat), (34 : Nat)] } (34 : Nat) { toList := [Value.slice a n c, Value.slice (some ⟨b, (0 : Nat), none⟩) (1 : Nat) (1 : Nat)] }) H'_3 fun v
  H' => ∃ a n c, v = Value.slice a n c ∧ I_1 [Value.slice a n c, Value.int IntKind.i64 (IntKind.wrap IntKind.i64 (n_3 + (1 : Int)))] H' ∧ μ_1 [Value.slice a n c, Value.int IntKind.i64
  (IntKind.wrap IntKind.i64 (n_3 + (1 : Int)))] H' < μ_1 [Value.slice a_2 n_2 c_1, Value.int IntKind.i64 n_3] H'_1) (I_1 [Value.slice a n c, Value.int IntKind.i64 (IntKind.wrap IntKind.i64
  (n_3 + (1 : Int)))] H' ∧ μ_1 [Value.slice a n c, Value.int IntKind.i64 (IntKind.wrap IntKind.i64 (n_3 + (1 : Int)))] H' < μ_1 [Value.slice a_2 n_2 c_1, Value.int IntKind.i64 n_3]
  H'_1)))))))) (I [Value.slice a_2 n_2 c_1, Value.int IntKind.i64 (IntKind.wrap IntKind.i64 (n_1 + (1 : Int)))] H'_1 ∧ μ [Value.slice a_2 n_2 c_1, Value.int IntKind.i64 (IntKind.wrap
  IntKind.i64 (n_1 + (1 : Int)))] H'_1 < μ [Value.slice a n c, Value.int IntKind.i64 n_1] H'))) (R (Value.slice a n c) H')) : CallH Try.prog 30 (List.toArray [Value.slice l_a l_n l_c]) H R :=
  vc_call (annOf [([0, 1, 0, 1, 1], .cut [(3, .one .slice), (4, .one (.int .i64))]), ([0, 1, 0, 0, 1, 0, 0, 1, 0, 1, 1], .cut [(3, .one .slice), (5, .one (.int .i64))]), ([0, 0, 0, 1, 0, 0, 1,
  0, 0, 1, 0, 0, 1, 0, 1, 1], .reg [0, 0, 3, 7, 15, 0, 63, 127, 255, 0, 0, 1536, 3584, 7680, 0, 0, 49152, 114688, 245760, 0, 1032192, 2080768, 4177920, 8388607, 0, 33554431] (.quiet 0 (.quiet
  1 (.quiet 2 (.quiet 3 (.quiet 4 (.quiet 5 (.quiet 6 (.quiet 7 (.quiet 8 (.quiet 9 (.quiet 10 (.quiet 11 (.quiet 12 (.quiet 13 (.quiet 14 (.quiet 15 (.quiet 16 (.quiet 17 (.quiet 18 (.quiet
  19 (.quiet 20 (.quiet 21 (.quiet 22 (.quiet 23 (.pick (.alt 24 (.pick (.alt 25 (.done) .stop)) .stop))))))))))))))))))))))))))), ([0, 1, 0, 1, 1, 1, 0, 0, 1, 0, 0, 1, 0, 0, 1, 0, 0, 1, 0, 1,
  1], .cut [(7, .one .slice), (8, .one .bool), (9, .one (.int .i64))]), ([1, 0, 0, 1, 0, 1, 1, 1, 0, 0, 1, 0, 0, 1, 0, 0, 1, 0, 0, 1, 0, 1, 1], .cut [(7, .one .slice), (8, .one .bool)]), ([0,
  0, 1, 0, 0, 1, 0, 1, 1, 1, 0, 0, 1, 0, 0, 1, 0, 0, 1, 0, 0, 1, 0, 1, 1], .cut [(7, .one .slice), (8, .one .bool)]), ([0, 0, 0, 1, 0, 0, 1, 0, 1, 1, 1, 0, 0, 1, 0, 0, 1, 0, 0, 1, 0, 0, 1, 0,
  1, 1], .cut [(67, .one .bool)]), ([0, 0, 0, 0, 1, 0, 0, 1, 0, 1, 1, 1, 0, 0, 1, 0, 0, 1, 0, 0, 1, 0, 0, 1, 0, 1, 1], .tail 8)]) followsAll Go.Proofs.Try.func30 rfl Go.Proofs.Try.ntmps30 rfl
  rfl (Eq.mpr (by kernel_rfl) h)

/- 39 slices.Reverse[[]strandline/api.Sample,strandline/api.Sample]
  slots: [0=s, 1=s, 2=i, 3=j]  -/
abbrev fn_slices_Reverse___api_Sample_api_Sample_ : Nat := 39
theorem vc_slices_Reverse___api_Sample_api_Sample_ (s_a : Option Addr) (s_n : Nat) (s_c : Nat) (H : Heap) (R : Value → Heap → Prop) (h : ∃ (I : List Value → Heap → Prop) (μ : List Value →
  Heap → Nat), I [Value.int IntKind.i64 (0 : Int), Value.int IntKind.i64 (IntKind.wrap IntKind.i64 ((↑s_n : Int) - (1 : Int)))] H ∧ ∀ (J : F) (n n_1 : Int) (H' : Heap), I [Value.int
  IntKind.i64 n, Value.int IntKind.i64 n_1] H' → brB (decide (n < n_1)) (exSome s_a fun ad => chk (decide ((0 : Int) ≤ n_1 ∧ n_1 < (↑s_n : Int))) (∃ n_2 n_3, Ld Try.prog (26 : Nat) H'
  (Addr.add ad (Int.toNat n_1 * (2 : Nat))) (Value.agg { toList := [Value.int IntKind.i64 n_2, Value.int IntKind.i64 n_3] }) ∧ exSome s_a fun ad => chk (decide ((0 : Int) ≤ n ∧ n < (↑s_n :
  Int))) (∃ n_4 n_5, Ld Try.prog (26 : Nat) H' (Addr.add ad (Int.toNat n * (2 : Nat))) (Value.agg { toList := [Value.int IntKind.i64 n_4, Value.int IntKind.i64 n_5] }) ∧ exSome s_a fun ad =>
  chk (decide ((0 : Int) ≤ n ∧ n < (↑s_n : Int))) (∃ H'_1, St Try.prog (26 : Nat) H' (Addr.add ad (Int.toNat n * (2 : Nat))) (Value.agg { toList := [Value.int IntKind.i64 n_2, Value.int
  IntKind.i64 n_3] }) H'_1 ∧ exSome s_a fun ad => chk (decide ((0 : Int) ≤ n_1 ∧ n_1 < (↑s_n : Int))) (∃ H'_2, St Try.prog (26 : Nat) H'_1 (Addr.add ad (Int.toNat n_1 * (2 : Nat))) (Value.agg
  { toList := [Value.int IntKind.i64 n_4, Value.int IntKind.i64 n_5] }) H'_2 ∧ I [Value.int IntKind.i64 (IntKind.wrap IntKind.i64 (n + (1 : Int))), Value.int IntKind.i64 (IntKind.wrap
  IntKind.i64 (n_1 - (1 : Int)))] H'_2 ∧ μ [Value.int IntKind.i64 (IntKind.wrap IntKind.i64 (n + (1 : Int))), Value.int IntKind.i64 (IntKind.wrap IntKind.i64 (n_1 - (1 : Int)))] H'_2 < μ
  [Value.int IntKind.i64 n, Value.int IntKind.i64 n_1] H'))))) (R (Value.tuple ⟨[]⟩) H')) : CallH Try.prog 39 (List.toArray [Value.slice s_a s_n s_c]) H R := vc_call (annOf [([0, 1], .cut [(2,
  .one (.int .i64)), (3, .one (.int .i64))]), ([0, 0, 1, 0, 0, 1], .reg [0, 0, 0, 0, 0, 0, 48, 112, 0, 0, 768, 1792, 4083, 8179, 16383, 32767] (.quiet 0 (.quiet 1 (.quiet 2 (.quiet 3 (.quiet 4
  (.quiet 5 (.quiet 6 (.quiet 7 (.quiet 8 (.quiet 9 (.quiet 10 (.quiet 11 (.quiet 12 (.pick (.alt 13 (.quiet 14 (.pick (.alt 15 (.done) .stop))) .stop))))))))))))))))]) followsAll
  Go.Proofs.Try.func39 rfl Go.Proofs.Try.ntmps39 rfl rfl (Eq.mpr (by kernel_rfl) h)

/- 40 slices.SortStableFunc[[]strandline/api.Sample,strandline/api.Sample]
  slots: [0=x, 1=cmp, 2=x, 3=cmp]  -/
abbrev fn_slices_SortStableFunc___api_Sample_api_Sample_ : Nat := 40
theorem vc_slices_SortStableFunc___api_Sample_api_Sample_ (x_a : Option Addr) (x_n : Nat) (x_c : Nat) (cmp : Value) (H : Heap) (R : Value → Heap → Prop) (h : CallH Try.prog (53 : Nat) {
  toList := [Value.slice x_a x_n x_c, Value.int IntKind.i64 (↑x_n : Int), cmp] } H fun v H' => v = Value.tuple ⟨[]⟩ ∧ R (Value.tuple ⟨[]⟩) H') : CallH Try.prog 40 (List.toArray [Value.slice
  x_a x_n x_c, cmp]) H R := vc_call (annOf []) followsAll Go.Proofs.Try.func40 rfl Go.Proofs.Try.ntmps40 rfl rfl (Eq.mpr (by kernel_rfl) h)

/- 41 slices.CompactFunc[[]strandline/api.Sample,strandline/api.Sample]
  slots: [0=s, 1=eq, 2=s, 3=eq, 5=k, 6=s2, 7=k2]  -/
abbrev fn_slices_CompactFunc___api_Sample_api_Sample_ : Nat := 41
theorem vc_slices_CompactFunc___api_Sample_api_Sample_ (s_a : Option Addr) (s_n : Nat) (s_c : Nat) (eq : Value) (H : Heap) (R : Value → Heap → Prop) (h : brB (decide ((↑s_n : Int) < (2 :
  Int))) (R (Value.slice s_a s_n s_c) H) (∃ (I : List Value → Heap → Prop) (μ : List Value → Heap → Nat), I [Value.int IntKind.i64 (1 : Int)] H ∧ ∀ (J : F) (n : Int) (H' : Heap), I [Value.int
  IntKind.i64 n] H' → brB (decide (n < (↑s_n : Int))) (exSome s_a fun ad => chk (decide ((0 : Int) ≤ n ∧ n < (↑s_n : Int))) (∃ n_1 n_2, Ld Try.prog (26 : Nat) H' (Addr.add ad (Int.toNat n * (2
  : Nat))) (Value.agg { toList := [Value.int IntKind.i64 n_1, Value.int IntKind.i64 n_2] }) ∧ exSome s_a fun ad => chk (decide ((0 : Int) ≤ IntKind.wrap IntKind.i64 (n - (1 : Int)) ∧
  IntKind.wrap IntKind.i64 (n - (1 : Int)) < (↑s_n : Int))) (∃ n_3 n_4, Ld Try.prog (26 : Nat) H' (Addr.add ad (Int.toNat (IntKind.wrap IntKind.i64 (n - (1 : Int))) * (2 : Nat))) (Value.agg {
  toList := [Value.int IntKind.i64 n_3, Value.int IntKind.i64 n_4] }) ∧ CallV Try.prog eq [Value.agg { toList := [Value.int IntKind.i64 n_1, Value.int IntKind.i64 n_2] }, Value.agg { toList :=
  [Value.int IntKind.i64 n_3, Value.int IntKind.i64 n_4] }] H' fun v H'_1 => ∃ b, v = Value.bool b ∧ brB b (chk (decide ((0 : Int) ≤ n ∧ n ≤ (↑s_n : Int) ∧ (↑s_n : Int) ≤ (↑s_c : Int))) (∃ (I
  : List Value → Heap → Prop) (μ : List Value → Heap → Nat), I [Value.int IntKind.i64 n, Value.int IntKind.i64 (1 : Int)] H'_1 ∧ ∀ (J : F) (n_5 n_6 : Int) (H' : Heap), I [Value.int IntKind.i64
  n_5, Value.int IntKind.i64 n_6] H' → brB (decide (n_6 < (↑(Int.toNat (↑s_n : Int) - Int.toNat n) : Int))) (exSome (slA s_c (Int.toNat n) (2 : Nat) s_a) fun ad => chk (decide ((0 : Int) ≤ n_6
  ∧ n_6 < (↑(Int.toNat (↑s_n : Int) - Int.toNat n) : Int))) (∃ n_7 n_8, Ld Try.prog (26 : Nat) H' (Addr.add ad (Int.toNat n_6 * (2 : Nat))) (Value.agg { toList := [Value.int IntKind.i64 n_7,
  Value.int IntKind.i64 n_8] }) ∧ exSome (slA s_c (Int.toNat n) (2 : Nat) s_a) fun ad => chk (decide ((0 : Int) ≤ IntKind.wrap IntKind.i64 (n_6 - (1 : Int)) ∧ IntKind.wrap IntKind.i64 (n_6 -
  (1 : Int)) < (↑(Int.toNat (↑s_n : Int) - Int.toNat n) : Int))) (∃ n_9 n_10, Ld Try.prog (26 : Nat) H' (Addr.add ad (Int.toNat (IntKind.wrap IntKind.i64 (n_6 - (1 : Int))) * (2 : Nat)))
  (Value.agg { toList := [Value.int IntKind.i64 n_9, Value.int IntKind.i64 n_10] }) ∧ CallV Try.prog eq [Value.agg { toList := [Value.int IntKind.i64 n_7, Value.int IntKind.i64 n_8] },
  Value.agg { toList := [Value.int IntKind.i64 n_9, Value.int IntKind.i64 n_10] }] H' fun v H'_2 => ∃ b, v = Value.bool b ∧ brB (!b) (exSome (slA s_c (Int.toNat n) (2 : Nat) s_a) fun ad => chk
  (decide ((0 : Int) ≤ n_6 ∧ n_6 < (↑(Int.toNat (↑s_n : Int) - Int.toNat n) : Int))) (∃ n n_11, Ld Try.prog (26 : Nat) H'_2 (Addr.add ad (Int.toNat n_6 * (2 : Nat))) (Value.agg { toList :=
  [Value.int IntKind.i64 n, Value.int IntKind.i64 n_11] }) ∧ exSome s_a fun ad => chk (decide ((0 : Int) ≤ n_5 ∧ n_5 < (↑s_n : Int))) (∃ H'_3, St Try.prog (26 : Nat) H'_2 (Addr.add ad
  (Int.toNat n_5 * (2 : Nat))) (Value.agg { toList := [Value.int IntKind.i64 n, Value.int IntKind.i64 n_11] }) H'_3 ∧ I [Value.int IntKind.i64 (IntKind.wrap IntKind.i64 (n_5 + (1 : Int))),
  Value.int IntKind.i64 (IntKind.wrap IntKind.i64 (n_6 + (1 : Int)))] H'_3 ∧ μ [Value.int IntKind.i64 (IntKind.wrap IntKind.i64 (n_5 + (1 : Int))), Value.int IntKind.i64 (IntKind.wrap
  IntKind.i64 (n_6 + (1 : Int)))] H'_3 < μ [Value.int IntKind.i64 n_5, Value.int IntKind.i64 n_6] H'))) (I [Value.int IntKind.i64 n_5, Value.int IntKind.i64 (IntKind.wrap IntKind.i64 (n_6 + (1
  : Int)))] H'_2 ∧ μ [Value.int IntKind.i64 n_5, Value.int IntKind.i64 (IntKind.wrap IntKind.i64 (n_6 + (1 : Int)))] H'_2 < μ [Value.int IntKind.i64 n_5, Value.int IntKind.i64 n_6] H')))) (chk
  (decide ((0 : Int) ≤ n_5 ∧ n_5 ≤ (↑s_n : Int) ∧ (↑s_n : Int) ≤ (↑s_c : Int))) (SemWp Try.prog (Builtin.clear_ { toList := [(22 : Nat)] } (0 : Nat) { toList := [Value.slice (slA s_c
  (Int.toNat n_5) (2 : Nat) s_a) (Int.toNat (↑s_n : Int) - Int.toNat n_5) (s_c - Int.toNat n_5)] }) H' fun v H' => v = Value.tuple ⟨[]⟩ ∧ chk (decide ((0 : Int) ≤ (0 : Int) ∧ (0 : Int) ≤ n_5 ∧
  n_5 ≤ (↑s_c : Int))) (R (Value.slice s_a (Int.toNat n_5 - (0 : Nat)) (s_c - (0 : Nat))) H'))))) (I [Value.int IntKind.i64 (IntKind.wrap IntKind.i64 (n + (1 : Int)))] H'_1 ∧ μ [Value.int
  IntKind.i64 (IntKind.wrap IntKind.i64 (n + (1 : Int)))] H'_1 < μ [Value.int IntKind.i64 n] H')))) (R (Value.slice s_a s_n s_c) H'))) : CallH Try.prog 41 (List.toArray [Value.slice s_a s_n
  s_c, eq]) H R := vc_call (annOf [([0, 1, 0, 1, 1], .cut [(5, .one (.int .i64))]), ([0, 0, 0, 1, 0, 0, 1, 0, 1, 1], .tail 10), ([0, 1, 0, 1, 0, 1, 0, 0, 1, 0, 0, 1, 0, 1, 1], .cut [(5, .one
  (.int .i64)), (7, .one (.int .i64))]), ([0, 0, 0, 1, 0, 0, 1, 0, 1, 0, 1, 0, 0, 1, 0, 0, 1, 0, 1, 1], .tail 10)]) followsAll Go.Proofs.Try.func41 rfl Go.Proofs.Try.ntmps41 rfl rfl (Eq.mpr
  (by kernel_rfl) h)

/- 42 strandline/series.Put$1
  slots: [0=x, 1=y, 2=x, 3=y]  -/
abbrev fn_series_Put_1 : Nat := 42
theorem vc_series_Put_1 (x_0 : Int) (x_1 : Int) (y_0 : Int) (y_1 : Int) (H : Heap) (R : Value → Heap → Prop) (h : ∀ (b : Nat) (H' : Heap), New H b (Obj.cells { toList := [Value.int
  IntKind.i64 x_0, Value.int IntKind.i64 x_1] } (26 : Nat)) H' → ∀ (b_1 : Nat) (H'_1 : Heap), New H' b_1 (Obj.cells { toList := [Value.int IntKind.i64 y_0, Value.int IntKind.i64 y_1] } (26 :
  Nat)) H'_1 → ∃ n, Ld Try.prog (3 : Nat) H'_1 ⟨b, (0 : Nat), none⟩ (Value.int IntKind.i64 n) ∧ ∃ n_1, Ld Try.prog (3 : Nat) H'_1 ⟨b_1, (0 : Nat), none⟩ (Value.int IntKind.i64 n_1) ∧ R
  (Value.bool (n == n_1)) H'_1) : CallH Try.prog 42 (List.toArray [Value.agg #[Value.int IntKind.i64 x_0, Value.int IntKind.i64 x_1], Value.agg #[Value.int IntKind.i64 y_0, Value.int
  IntKind.i64 y_1]]) H R := vc_call (annOf []) followsAll Go.Proofs.Try.func42 rfl Go.Proofs.Try.ntmps42 rfl rfl (Eq.mpr (by kernel_rfl) h)

/- 43 strandline/series.Put$2
  slots: [0=x, 1=y, 2=x, 3=y]  -/
abbrev fn_series_Put_2 : Nat := 43
theorem vc_series_Put_2 (x_0 : Int) (x_1_a : Option Addr) (x_1_n : Nat) (x_1_c : Nat) (y_0 : Int) (y_1_a : Option Addr) (y_1_n : Nat) (y_1_c : Nat) (H : Heap) (R : Value → Heap → Prop) (h :
  ∀ (b : Nat) (H' : Heap), New H b (Obj.cells { toList := [Value.int IntKind.i64 x_0, Value.slice x_1_a x_1_n x_1_c] } (68 : Nat)) H' → ∀ (b_1 : Nat) (H'_1 : Heap), New H' b_1 (Obj.cells {
  toList := [Value.int IntKind.i64 y_0, Value.slice y_1_a y_1_n y_1_c] } (68 : Nat)) H'_1 → ∃ n, Ld Try.prog (3 : Nat) H'_1 ⟨b, (0 : Nat), none⟩ (Value.int IntKind.i64 n) ∧ ∃ n_1, Ld Try.prog
  (3 : Nat) H'_1 ⟨b_1, (0 : Nat), none⟩ (Value.int IntKind.i64 n_1) ∧ CallH Try.prog (44 : Nat) { toList := [Value.int IntKind.i64 n, Value.int IntKind.i64 n_1] } H'_1 fun v H' => ∃ n, v =
  Value.int IntKind.i64 n ∧ R (Value.int IntKind.i64 n) H') : CallH Try.prog 43 (List.toArray [Value.agg #[Value.int IntKind.i64 x_0, Value.slice x_1_a x_1_n x_1_c], Value.agg #[Value.int
  IntKind.i64 y_0, Value.slice y_1_a y_1_n y_1_c]]) H R := vc_call (annOf []) followsAll Go.Proofs.Try.func43 rfl Go.Proofs.Try.ntmps43 rfl rfl (Eq.mpr (by kernel_rfl) h)

/- 46 slices.BinarySearchFunc[[]strandline/series.Series,strandline/series.Series,strandline/series.Series]
  slots: [0=x, 1=target, 2=cmp, 3=x, 4=target, 5=cmp, 8=n, 9=i, 10=j, 11=h]  -/
abbrev fn_slices_BinarySearchFunc___series_Series_series_Series_series_Series_ : Nat := 46
theorem vc_slices_BinarySearchFunc___series_Series_series_Series_series_Series_ (x_a : Option Addr) (x_n : Nat) (x_c : Nat) (target_0 : Int) (target_1_a : Option Addr) (target_1_n : Nat)
  (target_1_c : Nat) (cmp : Value) (H : Heap) (R : Value → Heap → Prop) (h : ∀ (b : Nat) (H' : Heap), New H b (Obj.cells { toList := [Value.int IntKind.i64 target_0, Value.slice target_1_a
  target_1_n target_1_c] } (68 : Nat)) H' → ∃ (I : List Value → Heap → Prop) (μ : List Value → Heap → Nat), I [Value.int IntKind.i64 (0 : Int), Value.int IntKind.i64 (↑x_n : Int)] H' ∧ ∀ (J :
  F) (n n_1 : Int) (H' : Heap), I [Value.int IntKind.i64 n, Value.int IntKind.i64 n_1] H' → brB (decide (n < n_1)) (exSome x_a fun ad => chk (decide ((0 : Int) ≤ IntKind.wrap IntKind.i64
  (Int.fdiv (IntKind.wrap IntKind.u64 (IntKind.wrap IntKind.i64 (n + n_1))) ((2 : Int) ^ (1 : Nat))) ∧ IntKind.wrap IntKind.i64 (Int.fdiv (IntKind.wrap IntKind.u64 (IntKind.wrap IntKind.i64 (n
  + n_1))) ((2 : Int) ^ (1 : Nat))) < (↑x_n : Int))) (∃ n_2 a n_3 c, Ld Try.prog (68 : Nat) H' (Addr.add ad (Int.toNat (IntKind.wrap IntKind.i64 (Int.fdiv (IntKind.wrap IntKind.u64
  (IntKind.wrap IntKind.i64 (n + n_1))) ((2 : Int) ^ (1 : Nat)))) * (2 : Nat))) (Value.agg { toList := [Value.int IntKind.i64 n_2, Value.slice a n_3 c] }) ∧ ∃ n_4 a_1 n_5 c_1, Ld Try.prog (68
  : Nat) H' ⟨b, (0 : Nat), none⟩ (Value.agg { toList := [Value.int IntKind.i64 n_4, Value.slice a_1 n_5 c_1] }) ∧ CallV Try.prog cmp [Value.agg { toList := [Value.int IntKind.i64 n_2,
  Value.slice a n_3 c] }, Value.agg { toList := [Value.int IntKind.i64 n_4, Value.slice a_1 n_5 c_1] }] H' fun v H'_1 => ∃ n_6, v = Value.int IntKind.i64 n_6 ∧ brB (decide (n_6 < (0 : Int)))
  (I [Value.int IntKind.i64 (IntKind.wrap IntKind.i64 (IntKind.wrap IntKind.i64 (Int.fdiv (IntKind.wrap IntKind.u64 (IntKind.wrap IntKind.i64 (n + n_1))) ((2 : Int) ^ (1 : Nat))) + (1 :
  Int))), Value.int IntKind.i64 n_1] H'_1 ∧ μ [Value.int IntKind.i64 (IntKind.wrap IntKind.i64 (IntKind.wrap IntKind.i64 (Int.fdiv (IntKind.wrap IntKind.u64 (IntKind.wrap IntKind.i64 (n +
  n_1))) ((2 : Int) ^ (1 : Nat))) + (1 : Int))), Value.int IntKind.i64 n_1] H'_1 < μ [Value.int IntKind.i64 n, Value.int IntKind.i64 n_1] H') (I [Value.int IntKind.i64 n, Value.int IntKind.i64
  (IntKind.wrap IntKind.i64 (Int.fdiv (IntKind.wrap IntKind.u64 (IntKind.wrap IntKind.i64 (n + n_1))) ((2 : Int) ^ (1 : Nat))))] H'_1 ∧ μ [Value.int IntKind.i64 n, Value.int IntKind.i64
  (IntKind.wrap IntKind.i64 (Int.fdiv (IntKind.wrap IntKind.u64 (IntKind.wrap IntKind.i64 (n + n_1))) ((2 : Int) ^ (1 : Nat))))] H'_1 < μ [Value.int IntKind.i64 n, Value.int IntKind.i64 n_1]
  H'))) (brB (decide (n < (↑x_n : Int))) (exSome x_a fun ad => chk (decide ((0 : Int) ≤ n ∧ n < (↑x_n : Int))) (∃ n_2 a n_3 c, Ld Try.prog (68 : Nat) H' (Addr.add ad (Int.toNat n * (2 : Nat)))
  (Value.agg { toList := [Value.int IntKind.i64 n_2, Value.slice a n_3 c] }) ∧ ∃ n_4 a_1 n_5 c_1, Ld Try.prog (68 : Nat) H' ⟨b, (0 : Nat), none⟩ (Value.agg { toList := [Value.int IntKind.i64
  n_4, Value.slice a_1 n_5 c_1] }) ∧ CallV Try.prog cmp [Value.agg { toList := [Value.int IntKind.i64 n_2, Value.slice a n_3 c] }, Value.agg { toList := [Value.int IntKind.i64 n_4, Value.slice
  a_1 n_5 c_1] }] H' fun v H' => ∃ n_6, v = Value.int IntKind.i64 n_6 ∧ R (Value.tuple { toList := [Value.int IntKind.i64 n, Value.bool (n_6 == (0 : Int))] }) H')) (R (Value.tuple { toList :=
  [Value.int IntKind.i64 n, Value.bool false] }) H'))) : CallH Try.prog 46 (List.toArray [Value.slice x_a x_n x_c, Value.agg #[Value.int IntKind.i64 target_0, Value.slice target_1_a target_1_n
  target_1_c], cmp]) H R := vc_call (annOf [([0, 0, 1, 1, 1], .cut [(9, .one (.int .i64)), (10, .one (.int .i64))]), ([0, 1, 0, 1, 0, 0, 0, 1, 1, 1], .tail 6), ([0, 1, 1, 1, 1], .reg [0, 0, 0,
  6, 14, 30, 30, 30, 222, 478, 30, 2046, 4094, 8190, 4095, 32767] (.quiet 0 (.quiet 1 (.quiet 2 (.quiet 3 (.quiet 4 (.quiet 5 (.quiet 6 (.quiet 7 (.quiet 8 (.quiet 9 (.quiet 10 (.pick (.alt 11
  (.quiet 12 (.quiet 13 (.quiet 14 (.quiet 15 .done)))) .stop))))))))))))))]) followsAll Go.Proofs.Try.func46 rfl Go.Proofs.Try.ntmps46 rfl rfl (Eq.mpr (by kernel_rfl) h)

/- 47 strandline/series.merge[strandline/series.Series]
  slots: [0=a, 1=b, 2=order, 3=a, 4=b, 5=order, 7=out, 8=c]  -/
abbrev fn_series_merge_series_Series_ : Nat := 47
theorem vc_series_merge_series_Series_ (a_a : Option Addr) (a_n : Nat) (a_c : Nat) (b_a : Option Addr) (b_n : Nat) (b_c : Nat) (order : Value) (H : Heap) (R : Value → Heap → Prop) (h : SemWp
  Try.prog (Instr.makeSlice (37 : Nat) (Value.int IntKind.i64 (0 : Int)) (Value.int IntKind.i64 (IntKind.wrap IntKind.i64 ((↑a_n : Int) + (↑b_n : Int))))) H fun v H' => ∃ a n c, v =
  Value.slice a n c ∧ ∃ (I : List Value → Heap → Prop) (μ : List Value → Heap → Nat), I [Value.slice a_a a_n a_c, Value.slice b_a b_n b_c, Value.slice a n c] H' ∧ ∀ (J : F) (a : Option Addr)
  (n c : Nat) (a_1 : Option Addr) (n_1 c_1 : Nat) (a_2 : Option Addr) (n_2 c_2 : Nat) (H' : Heap), I [Value.slice a n c, Value.slice a_1 n_1 c_1, Value.slice a_2 n_2 c_2] H' → ∃ (M : List
  Value → Heap → Prop), brB (decide ((↑n : Int) > (0 : Int))) (brB (decide ((↑n_1 : Int) > (0 : Int))) (M [] H') (SemWp Try.prog (Builtin.append_ { toList := [(37 : Nat), (37 : Nat)] } (37 :
  Nat) { toList := [Value.slice a_2 n_2 c_2, Value.slice a n c] }) H' fun v H' => ∃ a n c, v = Value.slice a n c ∧ SemWp Try.prog (Builtin.append_ { toList := [(37 : Nat), (37 : Nat)] } (37 :
  Nat) { toList := [Value.slice a n c, Value.slice a_1 n_1 c_1] }) H' fun v H' => ∃ a n c, v = Value.slice a n c ∧ R (Value.slice a n c) H')) (SemWp Try.prog (Builtin.append_ { toList := [(37
  : Nat), (37 : Nat)] } (37 : Nat) { toList := [Value.slice a_2 n_2 c_2, Value.slice a n c] }) H' fun v H' => ∃ a n c, v = Value.slice a n c ∧ SemWp Try.prog (Builtin.append_ { toList := [(37
  : Nat), (37 : Nat)] } (37 : Nat) { toList := [Value.slice a n c, Value.slice a_1 n_1 c_1] }) H' fun v H' => ∃ a n c, v = Value.slice a n c ∧ R (Value.slice a n c) H') ∧ ∀ (J : F) (H'_1 :
  Heap), M [] H'_1 → exSome a fun ad => chk (decide ((0 : Int) ≤ (0 : Int) ∧ (0 : Int) < (↑n : Int))) (∃ n_3 a_5 n_4 c_3, Ld Try.prog (68 : Nat) H'_1 ad (Value.agg { toList := [Value.int
  IntKind.i64 n_3, Value.slice a_5 n_4 c_3] }) ∧ exSome a_1 fun ad => chk (decide ((0 : Int) ≤ (0 : Int) ∧ (0 : Int) < (↑n_1 : Int))) (∃ n_5 a_6 n_6 c_4, Ld Try.prog (68 : Nat) H'_1 ad
  (Value.agg { toList := [Value.int IntKind.i64 n_5, Value.slice a_6 n_6 c_4] }) ∧ CallV Try.prog order [Value.agg { toList := [Value.int IntKind.i64 n_3, Value.slice a_5 n_4 c_3] }, Value.agg
  { toList := [Value.int IntKind.i64 n_5, Value.slice a_6 n_6 c_4] }] H'_1 fun v H'_2 => ∃ n_7, v = Value.int IntKind.i64 n_7 ∧ brB (decide (n_7 < (0 : Int))) (exSome a fun ad => chk (decide
  ((0 : Int) ≤ (0 : Int) ∧ (0 : Int) < (↑n : Int))) (∃ n_8 a_7 n_9 c_5, Ld Try.prog (68 : Nat) H'_2 ad (Value.agg { toList := [Value.int IntKind.i64 n_8, Value.slice a_7 n_9 c_5] }) ∧ chk
  (decide ((0 : Int) ≤ (1 : Int) ∧ (1 : Int) ≤ (↑n : Int) ∧ (↑n : Int) ≤ (↑c : Int))) (∀ (b : Nat) (H'_3 : Heap), New H'_2 b (Obj.cells { toList := [Value.int IntKind.i64 n_8, Value.slice a_7
  n_9 c_5] } (68 : Nat)) H'_3 → SemWp Try.prog (Builtin.append_ { toList := [(37 : Nat), (37 : Nat)] } (37 : Nat) { toList := [Value.slice a_2 n_2 c_2, Value.slice (some ⟨b, (0 : Nat), none⟩)
  (1 : Nat) (1 : Nat)] }) H'_3 fun v H'_4 => ∃ a_9 n_10 c_6, v = Value.slice a_9 n_10 c_6 ∧ I [Value.slice (slA c (1 : Nat) (2 : Nat) a) (Int.toNat (↑n : Int) - (1 : Nat)) (c - (1 : Nat)),
  Value.slice a_1 n_1 c_1, Value.slice a_9 n_10 c_6] H'_4 ∧ μ [Value.slice (slA c (1 : Nat) (2 : Nat) a) (Int.toNat (↑n : Int) - (1 : Nat)) (c - (1 : Nat)), Value.slice a_1 n_1 c_1,
  Value.slice a_9 n_10 c_6] H'_4 < μ [Value.slice a n c, Value.slice a_1 n_1 c_1, Value.slice a_2 n_2 c_2] H'))) (brB (n_7 == (0 : Int)) (chk (decide ((0 : Int) ≤ (1 : Int) ∧ (1 : Int) ≤ (↑n :
  Int) ∧ (↑n : Int) ≤ (↑c : Int))) (exSome a_1 fun ad => chk (decide ((0 : Int) ≤ (0 : Int) ∧ (0 : Int) < (↑n_1 : Int))) (∃ n_8 a_7 n_9 c_5, Ld Try.prog (68 : Nat) H'_2 ad (Value.agg { toList
  := [Value.int IntKind.i64 n_8, Value.slice a_7 n_9 c_5] }) ∧ chk (decide ((0 : Int) ≤ (1 : Int) ∧ (1 : Int) ≤ (↑n_1 : Int) ∧ (↑n_1 : Int) ≤ (↑c_1 : Int))) (∀ (b : Nat) (H'_3 : Heap), New
  H'_2 b (Obj.cells { toList := [Value.int IntKind.i64 n_8, Value.slice a_7 n_9 c_5] } (68 : Nat)) H'_3 → SemWp Try.prog (Builtin.append_ { toList := [(37 : Nat), (37 : Nat)] } (37 : Nat) {
  toList := [Value.slice a_2 n_2 c_2, Value.slice (some ⟨b, (0 : Nat), none⟩) (1 : Nat) (1 : Nat)] }) H'_3 fun v H'_4 => ∃ a_9 n_10 c_6, v = Value.slice a_9 n_10 c_6 ∧ I [Value.slice (slA c (1
  : Nat) (2 : Nat) a) (Int.toNat (↑n : Int) - (1 : Nat)) (c - (1 : Nat)), Value.slice (slA c_1 (1 : Nat) (2 : Nat) a_1) (Int.toNat (↑n_1 : Int) - (1 : Nat)) (c_1 - (1 : Nat)), Value.slice a_9
  n_10 c_6] H'_4 ∧ μ [Value.slice (slA c (1 : Nat) (2 : Nat) a) (Int.toNat (↑n : Int) - (1 : Nat)) (c - (1 : Nat)), Value.slice (slA c_1 (1 : Nat) (2 : Nat) a_1) (Int.toNat (↑n_1 : Int) - (1 :
  Nat)) (c_1 - (1 : Nat)), Value.slice a_9 n_10 c_6] H'_4 < μ [Value.slice a n c, Value.slice a_1 n_1 c_1, Value.slice a_2 n_2 c_2] H')))) (exSome a_1 fun ad => chk (decide ((0 : Int) ≤ (0 :
  Int) ∧ (0 : Int) < (↑n_1 : Int))) (∃ n_8 a_7 n_9 c_5, Ld Try.prog (68 : Nat) H'_2 ad (Value.agg { toList := [Value.int IntKind.i64 n_8, Value.slice a_7 n_9 c_5] }) ∧ chk (decide ((0 : Int) ≤
  (1 : Int) ∧ (1 : Int) ≤ (↑n_1 : Int) ∧ (↑n_1 : Int) ≤ (↑c_1 : Int))) (∀ (b : Nat) (H'_3 : Heap), New H'_2 b (Obj.cells { toList := [Value.int IntKind.i64 n_8, Value.slice a_7 n_9 c_5] } (68
  : Nat)) H'_3 → SemWp Try.prog (Builtin.append_ { toList := [(37 : Nat), (37 : Nat)] } (37 : Nat) { toList := [Value.slice a_2 n_2 c_2, Value.slice (some ⟨b, (0 : Nat), none⟩) (1 : Nat) (1 :
  Nat)] }) H'_3 fun v H'_4 => ∃ a_9 n_10 c_6, v = Value.slice a_9 n_10 c_6 ∧ I [Value.slice a n c, Value.slice (slA c_1 (1 : Nat) (2 : Nat) a_1) (Int.toNat (↑n_1 : Int) - (1 : Nat)) (c_1 - (1
  : Nat)), Value.slice a_9 n_10 c_6] H'_4 ∧ μ [Value.slice a n c, Value.slice (slA c_1 (1 : Nat) (2 : Nat) a_1) (Int.toNat (↑n_1 : Int) - (1 : Nat)) (c_1 - (1 : Nat)), Value.slice a_9 n_10
  c_6] H'_4 < μ [Value.slice a n c, Value.slice a_1 n_1 c_1, Value.slice a_2 n_2 c_2] H'))))))) : CallH Try.prog 47 (List.toArray [Value.slice a_a a_n a_c, Value.slice b_a b_n b_c, order]) H R
  := vc_call (annOf [([0, 0, 1, 1], .cut [(0, .one .slice), (1, .one .slice), (7, .one .slice)]), ([0, 0, 0, 1, 1], .cut []), ([0, 0, 1, 0, 0, 0, 1, 1], .tail 7), ([0, 0, 1, 0, 1, 0, 1, 0, 0,
  0, 1, 1], .reg [0, 0, 2, 6, 14, 31, 0, 64, 63, 511] (.quiet 0 (.quiet 1 (.quiet 2 (.quiet 3 (.quiet 6 (.quiet 7 (.pick (.alt 4 (.pick (.alt 5 (.quiet 8 (.quiet 9 .done)) .stop))
  .stop))))))))), ([1, 1, 1, 0, 1, 0, 0, 0, 1, 1], .reg [0, 0, 2, 6, 14, 31, 0, 64, 63, 511] (.quiet 0 (.quiet 1 (.quiet 2 (.quiet 3 (.quiet 6 (.quiet 7 (.pick (.alt 4 (.pick (.alt 5 (.quiet 8
  (.quiet 9 .done)) .stop)) .stop)))))))))]) followsAll Go.Proofs.Try.func47 rfl Go.Proofs.Try.ntmps47 rfl rfl (Eq.mpr (by kernel_rfl) h)

/- 48 strandline/series.merge[strandline/api.Row]
  slots: [0=a, 1=b, 2=order, 3=a, 4=b, 5=order, 7=out, 8=c]  -/
abbrev fn_series_merge_api_Row_ : Nat := 48
theorem vc_series_merge_api_Row_ (a_a : Option Addr) (a_n : Nat) (a_c : Nat) (b_a : Option Addr) (b_n : Nat) (b_c : Nat) (order : Value) (H : Heap) (R : Value → Heap → Prop) (h : SemWp
  Try.prog (Instr.makeSlice (34 : Nat) (Value.int IntKind.i64 (0 : Int)) (Value.int IntKind.i64 (IntKind.wrap IntKind.i64 ((↑a_n : Int) + (↑b_n : Int))))) H fun v H' => ∃ a n c, v =
  Value.slice a n c ∧ ∃ (I : List Value → Heap → Prop) (μ : List Value → Heap → Nat), I [Value.slice a_a a_n a_c, Value.slice b_a b_n b_c, Value.slice a n c] H' ∧ ∀ (J : F) (a : Option Addr)
  (n c : Nat) (a_1 : Option Addr) (n_1 c_1 : Nat) (a_2 : Option Addr) (n_2 c_2 : Nat) (H' : Heap), I [Value.slice a n c, Value.slice a_1 n_1 c_1, Value.slice a_2 n_2 c_2] H' → ∃ (M : List
  Value → Heap → Prop), brB (decide ((↑n : Int) > (0 : Int))) (brB (decide ((↑n_1 : Int) > (0 : Int))) (M [] H') (SemWp Try.prog (Builtin.append_ { toList := [(34 : Nat), (34 : Nat)] } (34 :
  Nat) { toList := [Value.slice a_2 n_2 c_2, Value.slice a n c] }) H' fun v H' => ∃ a n c, v = Value.slice a n c ∧ SemWp Try.prog (Builtin.append_ { toList := [(34 : Nat), (34 : Nat)] } (34 :
  Nat) { toList := [Value.slice a n c, Value.slice a_1 n_1 c_1] }) H' fun v H' => ∃ a n c, v = Value.slice a n c ∧ R (Value.slice a n c) H')) (SemWp Try.prog (Builtin.append_ { toList := [(34
  : Nat), (34 : Nat)] } (34 : Nat) { toList := [Value.slice a_2 n_2 c_2, Value.slice a n c] }) H' fun v H' => ∃ a n c, v = Value.slice a n c ∧ SemWp Try.prog (Builtin.append_ { toList := [(34
  : Nat), (34 : Nat)] } (34 : Nat) { toList := [Value.slice a n c, Value.slice a_1 n_1 c_1] }) H' fun v H' => ∃ a n c, v = Value.slice a n c ∧ R (Value.slice a n c) H') ∧ ∀ (J : F) (H'_1 :
  Heap), M [] H'_1 → exSome a fun ad => chk (decide ((0 : Int) ≤ (0 : Int) ∧ (0 : Int) < (↑n : Int))) (∃ n_3 n_4 n_5, Ld Try.prog (45 : Nat) H'_1 ad (Value.agg { toList := [Value.int
  IntKind.i64 n_3, Value.int IntKind.i64 n_4, Value.int IntKind.i64 n_5] }) ∧ exSome a_1 fun ad => chk (decide ((0 : Int) ≤ (0 : Int) ∧ (0 : Int) < (↑n_1 : Int))) (∃ n_6 n_7 n_8, Ld Try.prog
  (45 : Nat) H'_1 ad (Value.agg { toList := [Value.int IntKind.i64 n_6, Value.int IntKind.i64 n_7, Value.int IntKind.i64 n_8] }) ∧ CallV Try.prog order [Value.agg { toList := [Value.int
  IntKind.i64 n_3, Value.int IntKind.i64 n_4, Value.int IntKind.i64 n_5] }, Value.agg { toList := [Value.int IntKind.i64 n_6, Value.int IntKind.i64 n_7, Value.int IntKind.i64 n_8] }] H'_1 fun
  v H'_2 => ∃ n_9, v = Value.int IntKind.i64 n_9 ∧ brB (decide (n_9 < (0 : Int))) (exSome a fun ad => chk (decide ((0 : Int) ≤ (0 : Int) ∧ (0 : Int) < (↑n : Int))) (∃ n_10 n_11 n_12, Ld
  Try.prog (45 : Nat) H'_2 ad (Value.agg { toList := [Value.int IntKind.i64 n_10, Value.int IntKind.i64 n_11, Value.int IntKind.i64 n_12] }) ∧ chk (decide ((0 : Int) ≤ (1 : Int) ∧ (1 : Int) ≤
  (↑n : Int) ∧ (↑n : Int) ≤ (↑c : Int))) (∀ (b : Nat) (H'_3 : Heap), New H'_2 b (Obj.cells { toList := [Value.int IntKind.i64 n_10, Value.int IntKind.i64 n_11, Value.int IntKind.i64 n_12] }
  (45 : Nat)) H'_3 → SemWp Try.prog (Builtin.append_ { toList := [(34 : Nat), (34 : Nat)] } (34 : Nat) { toList := [Value.slice a_2 n_2 c_2, Value.slice (some ⟨b, (0 : Nat), none⟩) (1 : Nat)
  (1 : Nat)] }) H'_3 fun v H'_4 => ∃ a_6 n_13 c_3, v = Value.slice a_6 n_13 c_3 ∧ I [Value.slice (slA c (1 : Nat) (3 : Nat) a) (Int.toNat (↑n : Int) - (1 : Nat)) (c - (1 : Nat)), Value.slice
  a_1 n_1 c_1, Value.slice a_6 n_13 c_3] H'_4 ∧ μ [Value.slice (slA c (1 : Nat) (3 : Nat) a) (Int.toNat (↑n : Int) - (1 : Nat)) (c - (1 : Nat)), Value.slice a_1 n_1 c_1, Value.slice a_6 n_13
  c_3] H'_4 < μ [Value.slice a n c, Value.slice a_1 n_1 c_1, Value.slice a_2 n_2 c_2] H'))) (brB (n_9 == (0 : Int)) (chk (decide ((0 : Int) ≤ (1 : Int) ∧ (1 : Int) ≤ (↑n : Int) ∧ (↑n : Int) ≤
  (↑c : Int))) (exSome a_1 fun ad => chk (decide ((0 : Int) ≤ (0 : Int) ∧ (0 : Int) < (↑n_1 : Int))) (∃ n_10 n_11 n_12, Ld Try.prog (45 : Nat) H'_2 ad (Value.agg { toList := [Value.int
  IntKind.i64 n_10, Value.int IntKind.i64 n_11, Value.int IntKind.i64 n_12] }) ∧ chk (decide ((0 : Int) ≤ (1 : Int) ∧ (1 : Int) ≤ (↑n_1 : Int) ∧ (↑n_1 : Int) ≤ (↑c_1 : Int))) (∀ (b : Nat)
  (H'_3 : Heap), New H'_2 b (Obj.cells { toList := [Value.int IntKind.i64 n_10, Value.int IntKind.i64 n_11, Value.int IntKind.i64 n_12] } (45 : Nat)) H'_3 → SemWp Try.prog (Builtin.append_ {
  toList := [(34 : Nat), (34 : Nat)] } (34 : Nat) { toList := [Value.slice a_2 n_2 c_2, Value.slice (some ⟨b, (0 : Nat), none⟩) (1 : Nat) (1 : Nat)] }) H'_3 fun v H'_4 => ∃ a_6 n_13 c_3, v =
  Value.slice a_6 n_13 c_3 ∧ I [Value.slice (slA c (1 : Nat) (3 : Nat) a) (Int.toNat (↑n : Int) - (1 : Nat)) (c - (1 : Nat)), Value.slice (slA c_1 (1 : Nat) (3 : Nat) a_1) (Int.toNat (↑n_1 :
  Int) - (1 : Nat)) (c_1 - (1 : Nat)), Value.slice a_6 n_13 c_3] H'_4 ∧ μ [Value.slice (slA c (1 : Nat) (3 : Nat) a) (Int.toNat (↑n : Int) - (1 : Nat)) (c - (1 : Nat)), Value.slice (slA c_1 (1
  : Nat) (3 : Nat) a_1) (Int.toNat (↑n_1 : Int) - (1 : Nat)) (c_1 - (1 : Nat)), Value.slice a_6 n_13 c_3] H'_4 < μ [Value.slice a n c, Value.slice a_1 n_1 c_1, Value.slice a_2 n_2 c_2] H'))))
  (exSome a_1 fun ad => chk (decide ((0 : Int) ≤ (0 : Int) ∧ (0 : Int) < (↑n_1 : Int))) (∃ n_10 n_11 n_12, Ld Try.prog (45 : Nat) H'_2 ad (Value.agg { toList := [Value.int IntKind.i64 n_10,
  Value.int IntKind.i64 n_11, Value.int IntKind.i64 n_12] }) ∧ chk (decide ((0 : Int) ≤ (1 : Int) ∧ (1 : Int) ≤ (↑n_1 : Int) ∧ (↑n_1 : Int) ≤ (↑c_1 : Int))) (∀ (b : Nat) (H'_3 : Heap), New
  H'_2 b (Obj.cells { toList := [Value.int IntKind.i64 n_10, Value.int IntKind.i64 n_11, Value.int IntKind.i64 n_12] } (45 : Nat)) H'_3 → SemWp Try.prog (Builtin.append_ { toList := [(34 :
  Nat), (34 : Nat)] } (34 : Nat) { toList := [Value.slice a_2 n_2 c_2, Value.slice (some ⟨b, (0 : Nat), none⟩) (1 : Nat) (1 : Nat)] }) H'_3 fun v H'_4 => ∃ a_6 n_13 c_3, v = Value.slice a_6
  n_13 c_3 ∧ I [Value.slice a n c, Value.slice (slA c_1 (1 : Nat) (3 : Nat) a_1) (Int.toNat (↑n_1 : Int) - (1 : Nat)) (c_1 - (1 : Nat)), Value.slice a_6 n_13 c_3] H'_4 ∧ μ [Value.slice a n c,
  Value.slice (slA c_1 (1 : Nat) (3 : Nat) a_1) (Int.toNat (↑n_1 : Int) - (1 : Nat)) (c_1 - (1 : Nat)), Value.slice a_6 n_13 c_3] H'_4 < μ [Value.slice a n c, Value.slice a_1 n_1 c_1,
  Value.slice a_2 n_2 c_2] H'))))))) : CallH Try.prog 48 (List.toArray [Value.slice a_a a_n a_c, Value.slice b_a b_n b_c, order]) H R := vc_call (annOf [([0, 0, 1, 1], .cut [(0, .one .slice),
  (1, .one .slice), (7, .one .slice)]), ([0, 0, 0, 1, 1], .cut []), ([0, 0, 1, 0, 0, 0, 1, 1], .tail 7), ([0, 0, 1, 0, 1, 0, 1, 0, 0, 0, 1, 1], .reg [0, 0, 2, 6, 14, 31, 0, 64, 63, 511]
  (.quiet 0 (.quiet 1 (.quiet 2 (.quiet 3 (.quiet 6 (.quiet 7 (.pick (.alt 4 (.pick (.alt 5 (.quiet 8 (.quiet 9 .done)) .stop)) .stop))))))))), ([1, 1, 1, 0, 1, 0, 0, 0, 1, 1], .reg [0, 0, 2,
  6, 14, 31, 0, 64, 63, 511] (.quiet 0 (.quiet 1 (.quiet 2 (.quiet 3 (.quiet 6 (.quiet 7 (.pick (.alt 4 (.pick (.alt 5 (.quiet 8 (.quiet 9 .done)) .stop)) .stop)))))))))]) followsAll
  Go.Proofs.Try.func48 rfl Go.Proofs.Try.ntmps48 rfl rfl (Eq.mpr (by kernel_rfl) h)

/- 49 strandline/series.byRow
  slots: [0=x, 1=y, 2=x, 3=y]  -/
abbrev fn_series_byRow : Nat := 49
theorem vc_series_byRow (x_0 : Int) (x_1 : Int) (x_2 : Int) (y_0 : Int) (y_1 : Int) (y_2 : Int) (H : Heap) (R : Value → Heap → Prop) (h : ∀ (b : Nat) (H' : Heap), New H b (Obj.cells { toList
  := [Value.int IntKind.i64 x_0, Value.int IntKind.i64 x_1, Value.int IntKind.i64 x_2] } (45 : Nat)) H' → ∀ (b_1 : Nat) (H'_1 : Heap), New H' b_1 (Obj.cells { toList := [Value.int IntKind.i64
  y_0, Value.int IntKind.i64 y_1, Value.int IntKind.i64 y_2] } (45 : Nat)) H'_1 → ∃ n, Ld Try.prog (3 : Nat) H'_1 ⟨b, (0 : Nat), none⟩ (Value.int IntKind.i64 n) ∧ ∃ n_1, Ld Try.prog (3 : Nat)
  H'_1 ⟨b_1, (0 : Nat), none⟩ (Value.int IntKind.i64 n_1) ∧ ∃ n_2, Ld Try.prog (3 : Nat) H'_1 ⟨b, (1 : Nat), none⟩ (Value.int IntKind.i64 n_2) ∧ ∃ n_3, Ld Try.prog (3 : Nat) H'_1 ⟨b_1, (1 :
  Nat), none⟩ (Value.int IntKind.i64 n_3) ∧ CallH Try.prog (44 : Nat) { toList := [Value.int IntKind.i64 n, Value.int IntKind.i64 n_1] } H'_1 fun v H' => ∃ n, v = Value.int IntKind.i64 n ∧ Ld
  Try.prog (3 : Nat) H' ⟨b_1, (1 : Nat), none⟩ (Value.int IntKind.i64 n_3) ∧ Ld Try.prog (3 : Nat) H' ⟨b, (1 : Nat), none⟩ (Value.int IntKind.i64 n_2) ∧ CallH Try.prog (44 : Nat) { toList :=
  [Value.int IntKind.i64 n_2, Value.int IntKind.i64 n_3] } H' fun v H' => ∃ n_4, v = Value.int IntKind.i64 n_4 ∧ ∀ (b : Nat) (H'_2 : Heap), New H' b (Obj.cells { toList := [Value.int
  IntKind.i64 n, Value.int IntKind.i64 n_4] } (3 : Nat)) H'_2 → CallH Try.prog (57 : Nat) { toList := [Value.slice (some ⟨b, (0 : Nat), none⟩) (2 : Nat) (2 : Nat)] } H'_2 fun v H' => ∃ n, v =
  Value.int IntKind.i64 n ∧ R (Value.int IntKind.i64 n) H') : CallH Try.prog 49 (List.toArray [Value.agg #[Value.int IntKind.i64 x_0, Value.int IntKind.i64 x_1, Value.int IntKind.i64 x_2],
  Value.agg #[Value.int IntKind.i64 y_0, Value.int IntKind.i64 y_1, Value.int IntKind.i64 y_2]]) H R := vc_call (annOf [([0, 1], .reg [0, 1, 0, 4, 15, 0, 32, 0, 128, 511, 1023, 2047, 4095]
  (.quiet 0 (.quiet 1 (.quiet 2 (.quiet 3 (.quiet 5 (.quiet 6 (.quiet 7 (.quiet 8 (.pick (.alt 4 (.pick (.alt 9 (.pick (.alt 10 (.pick (.alt 11 (.quiet 12 .done) .stop)) .stop)) .stop))
  .stop)))))))))))]) followsAll Go.Proofs.Try.func49 rfl Go.Proofs.Try.ntmps49 rfl rfl (Eq.mpr (by kernel_rfl) h)

/- 53 slices.stableCmpFunc[strandline/api.Sample]
  slots: [0=data, 1=n, 2=cmp, 3=data, 4=n, 5=cmp, 6=blockSize, 7=a, 8=b, 9=m]  -/
abbrev fn_slices_stableCmpFunc_api_Sample_ : Nat := 53
theorem vc_slices_stableCmpFunc_api_Sample_ (data_a : Option Addr) (data_n : Nat) (data_c : Nat) (n : Int) (cmp : Value) (H : Heap) (R : Value → Heap → Prop) (h : ∃ (I : List Value → Heap →
  Prop) (μ : List Value → Heap → Nat), I [Value.int IntKind.i64 (0 : Int), Value.int IntKind.i64 (20 : Int)] H ∧ ∀ (J : F) (n_1 n_2 : Int) (H' : Heap), I [Value.int IntKind.i64 n_1, Value.int
  IntKind.i64 n_2] H' → brB (decide (n_2 ≤ n)) (CallH Try.prog (58 : Nat) { toList := [Value.slice data_a data_n data_c, Value.int IntKind.i64 n_1, Value.int IntKind.i64 n_2, cmp] } H' fun v
  H'_1 => v = Value.tuple ⟨[]⟩ ∧ I [Value.int IntKind.i64 n_2, Value.int IntKind.i64 (IntKind.wrap IntKind.i64 (n_2 + (20 : Int)))] H'_1 ∧ μ [Value.int IntKind.i64 n_2, Value.int IntKind.i64
  (IntKind.wrap IntKind.i64 (n_2 + (20 : Int)))] H'_1 < μ [Value.int IntKind.i64 n_1, Value.int IntKind.i64 n_2] H') (CallH Try.prog (58 : Nat) { toList := [Value.slice data_a data_n data_c,
  Value.int IntKind.i64 n_1, Value.int IntKind.i64 n, cmp] } H' fun v H' => v = Value.tuple ⟨[]⟩ ∧ ∃ (I : List Value → Heap → Prop) (μ : List Value → Heap → Nat), I [Value.int IntKind.i64 (20
  : Int)] H' ∧ ∀ (J : F) (n_3 : Int) (H' : Heap), I [Value.int IntKind.i64 n_3] H' → brB (decide (n_3 < n)) (∃ (I_1 : List Value → Heap → Prop) (μ_1 : List Value → Heap → Nat), I_1 [Value.int
  IntKind.i64 (0 : Int), Value.int IntKind.i64 (IntKind.wrap IntKind.i64 ((2 : Int) * n_3))] H' ∧ ∀ (J : F) (n_4 n_5 : Int) (H'_1 : Heap), I_1 [Value.int IntKind.i64 n_4, Value.int IntKind.i64
  n_5] H'_1 → brB (decide (n_5 ≤ n)) (CallH Try.prog (59 : Nat) { toList := [Value.slice data_a data_n data_c, Value.int IntKind.i64 n_4, Value.int IntKind.i64 (IntKind.wrap IntKind.i64 (n_4 +
  n_3)), Value.int IntKind.i64 n_5, cmp] } H'_1 fun v H' => v = Value.tuple ⟨[]⟩ ∧ I_1 [Value.int IntKind.i64 n_5, Value.int IntKind.i64 (IntKind.wrap IntKind.i64 (n_5 + IntKind.wrap
  IntKind.i64 ((2 : Int) * n_3)))] H' ∧ μ_1 [Value.int IntKind.i64 n_5, Value.int IntKind.i64 (IntKind.wrap IntKind.i64 (n_5 + IntKind.wrap IntKind.i64 ((2 : Int) * n_3)))] H' < μ_1 [Value.int
  IntKind.i64 n_4, Value.int IntKind.i64 n_5] H'_1) (brB (decide (IntKind.wrap IntKind.i64 (n_4 + n_3) < n)) (CallH Try.prog (59 : Nat) { toList := [Value.slice data_a data_n data_c, Value.int
  IntKind.i64 n_4, Value.int IntKind.i64 (IntKind.wrap IntKind.i64 (n_4 + n_3)), Value.int IntKind.i64 n, cmp] } H'_1 fun v H'_2 => v = Value.tuple ⟨[]⟩ ∧ I [Value.int IntKind.i64
  (IntKind.wrap IntKind.i64 (n_3 * (2 : Int)))] H'_2 ∧ μ [Value.int IntKind.i64 (IntKind.wrap IntKind.i64 (n_3 * (2 : Int)))] H'_2 < μ [Value.int IntKind.i64 n_3] H') (I [Value.int IntKind.i64
  (IntKind.wrap IntKind.i64 (n_3 * (2 : Int)))] H'_1 ∧ μ [Value.int IntKind.i64 (IntKind.wrap IntKind.i64 (n_3 * (2 : Int)))] H'_1 < μ [Value.int IntKind.i64 n_3] H'))) (R (Value.tuple ⟨[]⟩)
  H'))) : CallH Try.prog 53 (List.toArray [Value.slice data_a data_n data_c, Value.int IntKind.i64 n, cmp]) H R := vc_call (annOf [([0, 0, 1, 1], .cut [(7, .one (.int .i64)), (8, .one (.int
  .i64))]), ([0, 1, 1, 1, 1], .cut [(6, .one (.int .i64))]), ([0, 0, 1, 0, 1, 0, 0, 1, 1, 1, 1], .cut [(7, .one (.int .i64)), (8, .one (.int .i64))])]) followsAll Go.Proofs.Try.func53 rfl
  Go.Proofs.Try.ntmps53 rfl rfl (Eq.mpr (by kernel_rfl) h)

/- 57 cmp.Or[int]
  slots: [0=vals, 1=vals, 3=zero, 4=_, 5=val]  -/
abbrev fn_cmp_Or_int_ : Nat := 57
theorem vc_cmp_Or_int_ (vals_a : Option Addr) (vals_n : Nat) (vals_c : Nat) (H : Heap) (R : Value → Heap → Prop) (h : ∃ (I : List Value → Heap → Prop) (μ : List Value → Heap → Nat), I
  [Value.int IntKind.i64 (0 : Int)] H ∧ ∀ (J : F) (n : Int) (H' : Heap), I [Value.int IntKind.i64 n] H' → brB (decide (n < (↑vals_n : Int))) (exSome vals_a fun ad => chk (decide ((0 : Int) ≤ n
  ∧ n < (↑vals_n : Int))) (∃ n_1, Ld Try.prog (3 : Nat) H' (Addr.add ad (Int.toNat n * (1 : Nat))) (Value.int IntKind.i64 n_1) ∧ brB (n_1 != (0 : Int)) (R (Value.int IntKind.i64 n_1) H') (I
  [Value.int IntKind.i64 (IntKind.wrap IntKind.i64 (n + (1 : Int)))] H' ∧ μ [Value.int IntKind.i64 (IntKind.wrap IntKind.i64 (n + (1 : Int)))] H' < μ [Value.int IntKind.i64 n] H'))) (R
  (Value.int IntKind.i64 (0 : Int)) H')) : CallH Try.prog 57 (List.toArray [Value.slice vals_a vals_n vals_c]) H R := vc_call (annOf [([0, 1, 0, 1, 1], .cut [(8, .one (.int .i64))])])
  followsAll Go.Proofs.Try.func57 rfl Go.Proofs.Try.ntmps57 rfl rfl (Eq.mpr (by kernel_rfl) h)

/- 58 slices.insertionSortCmpFunc[strandline/api.Sample]
  slots: [0=data, 1=a, 2=b, 3=cmp, 4=data, 5=a, 6=b, 7=cmp, 8=i, 9=j]  -/
abbrev fn_slices_insertionSortCmpFunc_api_Sample_ : Nat := 58
theorem vc_slices_insertionSortCmpFunc_api_Sample_ (data_a : Option Addr) (data_n : Nat) (data_c : Nat) (a : Int) (b : Int) (cmp : Value) (H : Heap) (R : Value → Heap → Prop) (h : ∃ (I :
  List Value → Heap → Prop) (μ : List Value → Heap → Nat), I [Value.int IntKind.i64 (IntKind.wrap IntKind.i64 (a + (1 : Int)))] H ∧ ∀ (J : F) (n : Int) (H' : Heap), I [Value.int IntKind.i64 n]
  H' → brB (decide (n < b)) (∃ (I_1 : List Value → Heap → Prop) (μ_1 : List Value → Heap → Nat), I_1 [Value.int IntKind.i64 n] H' ∧ ∀ (J : F) (n_1 : Int) (H'_1 : Heap), I_1 [Value.int
  IntKind.i64 n_1] H'_1 → ∃ (M : List Value → Heap → Prop), brB (decide (n_1 > a)) (exSome data_a fun ad => chk (decide ((0 : Int) ≤ n_1 ∧ n_1 < (↑data_n : Int))) (∃ n_2 n_3, Ld Try.prog (26 :
  Nat) H'_1 (Addr.add ad (Int.toNat n_1 * (2 : Nat))) (Value.agg { toList := [Value.int IntKind.i64 n_2, Value.int IntKind.i64 n_3] }) ∧ exSome data_a fun ad => chk (decide ((0 : Int) ≤
  IntKind.wrap IntKind.i64 (n_1 - (1 : Int)) ∧ IntKind.wrap IntKind.i64 (n_1 - (1 : Int)) < (↑data_n : Int))) (∃ n_4 n_5, Ld Try.prog (26 : Nat) H'_1 (Addr.add ad (Int.toNat (IntKind.wrap
  IntKind.i64 (n_1 - (1 : Int))) * (2 : Nat))) (Value.agg { toList := [Value.int IntKind.i64 n_4, Value.int IntKind.i64 n_5] }) ∧ CallV Try.prog cmp [Value.agg { toList := [Value.int
  IntKind.i64 n_2, Value.int IntKind.i64 n_3] }, Value.agg { toList := [Value.int IntKind.i64 n_4, Value.int IntKind.i64 n_5] }] H'_1 fun v H'_2 => ∃ n_6, v = Value.int IntKind.i64 n_6 ∧ brB
  (decide (n_6 < (0 : Int))) (M [] H'_2) (I [Value.int IntKind.i64 (IntKind.wrap IntKind.i64 (n + (1 : Int)))] H'_2 ∧ μ [Value.int IntKind.i64 (IntKind.wrap IntKind.i64 (n + (1 : Int)))] H'_2
  < μ [Value.int IntKind.i64 n] H')))) (I [Value.int IntKind.i64 (IntKind.wrap IntKind.i64 (n + (1 : Int)))] H'_1 ∧ μ [Value.int IntKind.i64 (IntKind.wrap IntKind.i64 (n + (1 : Int)))] H'_1 <
  μ [Value.int IntKind.i64 n] H') ∧ ∀ (J : F) (H' : Heap), M [] H' → exSome data_a fun ad => chk (decide ((0 : Int) ≤ IntKind.wrap IntKind.i64 (n_1 - (1 : Int)) ∧ IntKind.wrap IntKind.i64 (n_1
  - (1 : Int)) < (↑data_n : Int))) (∃ n n_2, Ld Try.prog (26 : Nat) H' (Addr.add ad (Int.toNat (IntKind.wrap IntKind.i64 (n_1 - (1 : Int))) * (2 : Nat))) (Value.agg { toList := [Value.int
  IntKind.i64 n, Value.int IntKind.i64 n_2] }) ∧ exSome data_a fun ad => chk (decide ((0 : Int) ≤ n_1 ∧ n_1 < (↑data_n : Int))) (∃ n_3 n_4, Ld Try.prog (26 : Nat) H' (Addr.add ad (Int.toNat
  n_1 * (2 : Nat))) (Value.agg { toList := [Value.int IntKind.i64 n_3, Value.int IntKind.i64 n_4] }) ∧ exSome data_a fun ad => chk (decide ((0 : Int) ≤ n_1 ∧ n_1 < (↑data_n : Int))) (∃ H'_2,
  St Try.prog (26 : Nat) H' (Addr.add ad (Int.toNat n_1 * (2 : Nat))) (Value.agg { toList := [Value.int IntKind.i64 n, Value.int IntKind.i64 n_2] }) H'_2 ∧ exSome data_a fun ad => chk (decide
  ((0 : Int) ≤ IntKind.wrap IntKind.i64 (n_1 - (1 : Int)) ∧ IntKind.wrap IntKind.i64 (n_1 - (1 : Int)) < (↑data_n : Int))) (∃ H', St Try.prog (26 : Nat) H'_2 (Addr.add ad (Int.toNat
  (IntKind.wrap IntKind.i64 (n_1 - (1 : Int))) * (2 : Nat))) (Value.agg { toList := [Value.int IntKind.i64 n_3, Value.int IntKind.i64 n_4] }) H' ∧ I_1 [Value.int IntKind.i64 (IntKind.wrap
  IntKind.i64 (n_1 - (1 : Int)))] H' ∧ μ_1 [Value.int IntKind.i64 (IntKind.wrap IntKind.i64 (n_1 - (1 : Int)))] H' < μ_1 [Value.int IntKind.i64 n_1] H'_1))))) (R (Value.tuple ⟨[]⟩) H')) :
  CallH Try.prog 58 (List.toArray [Value.slice data_a data_n data_c, Value.int IntKind.i64 a, Value.int IntKind.i64 b, cmp]) H R := vc_call (annOf [([0, 1], .cut [(8, .one (.int .i64))]), ([0,
  1, 0, 0, 1, 0, 0, 1], .cut [(9, .one (.int .i64))]), ([0, 0, 1, 0, 0, 1, 0, 0, 1], .cut []), ([0, 0, 0, 0, 1, 0, 0, 1, 0, 0, 1], .tail 14), ([0, 0, 1, 0, 0, 1, 0, 0, 1, 0, 0, 1], .reg [0, 0,
  0, 0, 8, 0, 0, 64, 224, 480, 0, 0, 3072, 7168, 16355, 32739, 65535, 131071] (.quiet 0 (.quiet 1 (.quiet 2 (.quiet 3 (.quiet 4 (.quiet 5 (.quiet 6 (.quiet 7 (.quiet 8 (.quiet 9 (.quiet 10
  (.quiet 11 (.quiet 12 (.quiet 13 (.quiet 14 (.pick (.alt 15 (.quiet 16 (.pick (.alt 17 (.done) .stop))) .stop))))))))))))))))))]) followsAll Go.Proofs.Try.func58 rfl Go.Proofs.Try.ntmps58
  rfl rfl (Eq.mpr (by kernel_rfl) h)

/- 59 slices.symMergeCmpFunc[strandline/api.Sample]
  slots: [0=data, 1=a, 2=m, 3=b, 4=cmp, 5=data, 6=a, 7=m, 8=b, 9=cmp, 10=i, 11=j, 12=h, 13=k, 14=i, 15=j, 16=h, 17=k, 18=mid, 19=n, 20=start, 21=r, 22=p, 23=c, 24=end]  -/
abbrev fn_slices_symMergeCmpFunc_api_Sample_ : Nat := 59
theorem vc_slices_symMergeCmpFunc_api_Sample_ (data_a : Option Addr) (data_n : Nat) (data_c : Nat) (a : Int) (m : Int) (b : Int) (cmp : Value) (H : Heap) (R : Value → Heap → Prop) (h : brB
  (IntKind.wrap IntKind.i64 (m - a) == (1 : Int)) (∃ (I : List Value → Heap → Prop) (μ : List Value → Heap → Nat), I [Value.int IntKind.i64 m, Value.int IntKind.i64 b] H ∧ ∀ (J : F) (n n_1 :
  Int) (H' : Heap), I [Value.int IntKind.i64 n, Value.int IntKind.i64 n_1] H' → brB (decide (n < n_1)) (exSome data_a fun ad => chk (decide ((0 : Int) ≤ IntKind.wrap IntKind.i64 (Int.fdiv
  (IntKind.wrap IntKind.u64 (IntKind.wrap IntKind.i64 (n + n_1))) ((2 : Int) ^ (1 : Nat))) ∧ IntKind.wrap IntKind.i64 (Int.fdiv (IntKind.wrap IntKind.u64 (IntKind.wrap IntKind.i64 (n + n_1)))
  ((2 : Int) ^ (1 : Nat))) < (↑data_n : Int))) (∃ n_2 n_3, Ld Try.prog (26 : Nat) H' (Addr.add ad (Int.toNat (IntKind.wrap IntKind.i64 (Int.fdiv (IntKind.wrap IntKind.u64 (IntKind.wrap
  IntKind.i64 (n + n_1))) ((2 : Int) ^ (1 : Nat)))) * (2 : Nat))) (Value.agg { toList := [Value.int IntKind.i64 n_2, Value.int IntKind.i64 n_3] }) ∧ exSome data_a fun ad => chk (decide ((0 :
  Int) ≤ a ∧ a < (↑data_n : Int))) (∃ n_4 n_5, Ld Try.prog (26 : Nat) H' (Addr.add ad (Int.toNat a * (2 : Nat))) (Value.agg { toList := [Value.int IntKind.i64 n_4, Value.int IntKind.i64 n_5]
  }) ∧ CallV Try.prog cmp [Value.agg { toList := [Value.int IntKind.i64 n_2, Value.int IntKind.i64 n_3] }, Value.agg { toList := [Value.int IntKind.i64 n_4, Value.int IntKind.i64 n_5] }] H'
  fun v H'_1 => ∃ n_6, v = Value.int IntKind.i64 n_6 ∧ brB (decide (n_6 < (0 : Int))) (I [Value.int IntKind.i64 (IntKind.wrap IntKind.i64 (IntKind.wrap IntKind.i64 (Int.fdiv (IntKind.wrap
  IntKind.u64 (IntKind.wrap IntKind.i64 (n + n_1))) ((2 : Int) ^ (1 : Nat))) + (1 : Int))), Value.int IntKind.i64 n_1] H'_1 ∧ μ [Value.int IntKind.i64 (IntKind.wrap IntKind.i64 (IntKind.wrap
  IntKind.i64 (Int.fdiv (IntKind.wrap IntKind.u64 (IntKind.wrap IntKind.i64 (n + n_1))) ((2 : Int) ^ (1 : Nat))) + (1 : Int))), Value.int IntKind.i64 n_1] H'_1 < μ [Value.int IntKind.i64 n,
  Value.int IntKind.i64 n_1] H') (I [Value.int IntKind.i64 n, Value.int IntKind.i64 (IntKind.wrap IntKind.i64 (Int.fdiv (IntKind.wrap IntKind.u64 (IntKind.wrap IntKind.i64 (n + n_1))) ((2 :
  Int) ^ (1 : Nat))))] H'_1 ∧ μ [Value.int IntKind.i64 n, Value.int IntKind.i64 (IntKind.wrap IntKind.i64 (Int.fdiv (IntKind.wrap IntKind.u64 (IntKind.wrap IntKind.i64 (n + n_1))) ((2 : Int) ^
  (1 : Nat))))] H'_1 < μ [Value.int IntKind.i64 n, Value.int IntKind.i64 n_1] H')))) (∃ (I : List Value → Heap → Prop) (μ : List Value → Heap → Nat), I [Value.int IntKind.i64 a] H' ∧ ∀ (J : F)
  (n_2 : Int) (H' : Heap), I [Value.int IntKind.i64 n_2] H' → brB (decide (n_2 < IntKind.wrap IntKind.i64 (n - (1 : Int)))) (exSome data_a fun ad => chk (decide ((0 : Int) ≤ IntKind.wrap
  IntKind.i64 (n_2 + (1 : Int)) ∧ IntKind.wrap IntKind.i64 (n_2 + (1 : Int)) < (↑data_n : Int))) (∃ n n_3, Ld Try.prog (26 : Nat) H' (Addr.add ad (Int.toNat (IntKind.wrap IntKind.i64 (n_2 + (1
  : Int))) * (2 : Nat))) (Value.agg { toList := [Value.int IntKind.i64 n, Value.int IntKind.i64 n_3] }) ∧ exSome data_a fun ad => chk (decide ((0 : Int) ≤ n_2 ∧ n_2 < (↑data_n : Int))) (∃ n_4
  n_5, Ld Try.prog (26 : Nat) H' (Addr.add ad (Int.toNat n_2 * (2 : Nat))) (Value.agg { toList := [Value.int IntKind.i64 n_4, Value.int IntKind.i64 n_5] }) ∧ exSome data_a fun ad => chk
  (decide ((0 : Int) ≤ n_2 ∧ n_2 < (↑data_n : Int))) (∃ H'_1, St Try.prog (26 : Nat) H' (Addr.add ad (Int.toNat n_2 * (2 : Nat))) (Value.agg { toList := [Value.int IntKind.i64 n, Value.int
  IntKind.i64 n_3] }) H'_1 ∧ exSome data_a fun ad => chk (decide ((0 : Int) ≤ IntKind.wrap IntKind.i64 (n_2 + (1 : Int)) ∧ IntKind.wrap IntKind.i64 (n_2 + (1 : Int)) < (↑data_n : Int))) (∃
  H'_2, St Try.prog (26 : Nat) H'_1 (Addr.add ad (Int.toNat (IntKind.wrap IntKind.i64 (n_2 + (1 : Int))) * (2 : Nat))) (Value.agg { toList := [Value.int IntKind.i64 n_4, Value.int IntKind.i64
  n_5] }) H'_2 ∧ I [Value.int IntKind.i64 (IntKind.wrap IntKind.i64 (n_2 + (1 : Int)))] H'_2 ∧ μ [Value.int IntKind.i64 (IntKind.wrap IntKind.i64 (n_2 + (1 : Int)))] H'_2 < μ [Value.int
  IntKind.i64 n_2] H'))))) (R (Value.tuple ⟨[]⟩) H'))) (brB (IntKind.wrap IntKind.i64 (b - m) == (1 : Int)) (∃ (I : List Value → Heap → Prop) (μ : List Value → Heap → Nat), I [Value.int
  IntKind.i64 a, Value.int IntKind.i64 m] H ∧ ∀ (J : F) (n n_1 : Int) (H' : Heap), I [Value.int IntKind.i64 n, Value.int IntKind.i64 n_1] H' → brB (decide (n < n_1)) (exSome data_a fun ad =>
  chk (decide ((0 : Int) ≤ m ∧ m < (↑data_n : Int))) (∃ n_2 n_3, Ld Try.prog (26 : Nat) H' (Addr.add ad (Int.toNat m * (2 : Nat))) (Value.agg { toList := [Value.int IntKind.i64 n_2, Value.int
  IntKind.i64 n_3] }) ∧ exSome data_a fun ad => chk (decide ((0 : Int) ≤ IntKind.wrap IntKind.i64 (Int.fdiv (IntKind.wrap IntKind.u64 (IntKind.wrap IntKind.i64 (n + n_1))) ((2 : Int) ^ (1 :
  Nat))) ∧ IntKind.wrap IntKind.i64 (Int.fdiv (IntKind.wrap IntKind.u64 (IntKind.wrap IntKind.i64 (n + n_1))) ((2 : Int) ^ (1 : Nat))) < (↑data_n : Int))) (∃ n_4 n_5, Ld Try.prog (26 : Nat) H'
  (Addr.add ad (Int.toNat (IntKind.wrap IntKind.i64 (Int.fdiv (IntKind.wrap IntKind.u64 (IntKind.wrap IntKind.i64 (n + n_1))) ((2 : Int) ^ (1 : Nat)))) * (2 : Nat))) (Value.agg { toList :=
  [Value.int IntKind.i64 n_4, Value.int IntKind.i64 n_5] }) ∧ CallV Try.prog cmp [Value.agg { toList := [Value.int IntKind.i64 n_2, Value.int IntKind.i64 n_3] }, Value.agg { toList :=
  [Value.int IntKind.i64 n_4, Value.int IntKind.i64 n_5] }] H' fun v H'_1 => ∃ n_6, v = Value.int IntKind.i64 n_6 ∧ brB (!decide (n_6 < (0 : Int))) (I [Value.int IntKind.i64 (IntKind.wrap
  IntKind.i64 (IntKind.wrap IntKind.i64 (Int.fdiv (IntKind.wrap IntKind.u64 (IntKind.wrap IntKind.i64 (n + n_1))) ((2 : Int) ^ (1 : Nat))) + (1 : Int))), Value.int IntKind.i64 n_1] H'_1 ∧ μ
  [Value.int IntKind.i64 (IntKind.wrap IntKind.i64 (IntKind.wrap IntKind.i64 (Int.fdiv (IntKind.wrap IntKind.u64 (IntKind.wrap IntKind.i64 (n + n_1))) ((2 : Int) ^ (1 : Nat))) + (1 : Int))),
  Value.int IntKind.i64 n_1] H'_1 < μ [Value.int IntKind.i64 n, Value.int IntKind.i64 n_1] H') (I [Value.int IntKind.i64 n, Value.int IntKind.i64 (IntKind.wrap IntKind.i64 (Int.fdiv
  (IntKind.wrap IntKind.u64 (IntKind.wrap IntKind.i64 (n + n_1))) ((2 : Int) ^ (1 : Nat))))] H'_1 ∧ μ [Value.int IntKind.i64 n, Value.int IntKind.i64 (IntKind.wrap IntKind.i64 (Int.fdiv
  (IntKind.wrap IntKind.u64 (IntKind.wrap IntKind.i64 (n + n_1))) ((2 : Int) ^ (1 : Nat))))] H'_1 < μ [Value.int IntKind.i64 n, Value.int IntKind.i64 n_1] H')))) (∃ (I : List Value → Heap →
  Prop) (μ : List Value → Heap → Nat), I [Value.int IntKind.i64 m] H' ∧ ∀ (J : F) (n_2 : Int) (H' : Heap), I [Value.int IntKind.i64 n_2] H' → brB (decide (n_2 > n)) (exSome data_a fun ad =>
  chk (decide ((0 : Int) ≤ IntKind.wrap IntKind.i64 (n_2 - (1 : Int)) ∧ IntKind.wrap IntKind.i64 (n_2 - (1 : Int)) < (↑data_n : Int))) (∃ n n_3, Ld Try.prog (26 : Nat) H' (Addr.add ad
  (Int.toNat (IntKind.wrap IntKind.i64 (n_2 - (1 : Int))) * (2 : Nat))) (Value.agg { toList := [Value.int IntKind.i64 n, Value.int IntKind.i64 n_3] }) ∧ exSome data_a fun ad => chk (decide ((0
  : Int) ≤ n_2 ∧ n_2 < (↑data_n : Int))) (∃ n_4 n_5, Ld Try.prog (26 : Nat) H' (Addr.add ad (Int.toNat n_2 * (2 : Nat))) (Value.agg { toList := [Value.int IntKind.i64 n_4, Value.int
  IntKind.i64 n_5] }) ∧ exSome data_a fun ad => chk (decide ((0 : Int) ≤ n_2 ∧ n_2 < (↑data_n : Int))) (∃ H'_1, St Try.prog (26 : Nat) H' (Addr.add ad (Int.toNat n_2 * (2 : Nat))) (Value.agg {
  toList := [Value.int IntKind.i64 n, Value.int IntKind.i64 n_3] }) H'_1 ∧ exSome data_a fun ad => chk (decide ((0 : Int) ≤ IntKind.wrap IntKind.i64 (n_2 - (1 : Int)) ∧ IntKind.wrap
  IntKind.i64 (n_2 - (1 : Int)) < (↑data_n : Int))) (∃ H'_2, St Try.prog (26 : Nat) H'_1 (Addr.add ad (Int.toNat (IntKind.wrap IntKind.i64 (n_2 - (1 : Int))) * (2 : Nat))) (Value.agg { toList
  := [Value.int IntKind.i64 n_4, Value.int IntKind.i64 n_5] }) H'_2 ∧ I [Value.int IntKind.i64 (IntKind.wrap IntKind.i64 (n_2 - (1 : Int)))] H'_2 ∧ μ [Value.int IntKind.i64 (IntKind.wrap
  IntKind.i64 (n_2 - (1 : Int)))] H'_2 < μ [Value.int IntKind.i64 n_2] H'))))) (R (Value.tuple ⟨[]⟩) H'))) (∃ (M : List Value → Heap → Prop), brB (decide (m > IntKind.wrap IntKind.i64
  (Int.fdiv (IntKind.wrap IntKind.u64 (IntKind.wrap IntKind.i64 (a + b))) ((2 : Int) ^ min (Int.toNat (1 : Int)) (IntKind.bits IntKind.u64))))) (M [Value.int IntKind.i64 (IntKind.wrap
  IntKind.i64 (IntKind.wrap IntKind.i64 (IntKind.wrap IntKind.i64 (Int.fdiv (IntKind.wrap IntKind.u64 (IntKind.wrap IntKind.i64 (a + b))) ((2 : Int) ^ (1 : Nat))) + m) - b)), Value.int
  IntKind.i64 (IntKind.wrap IntKind.i64 (Int.fdiv (IntKind.wrap IntKind.u64 (IntKind.wrap IntKind.i64 (a + b))) ((2 : Int) ^ (1 : Nat))))] H) (M [Value.int IntKind.i64 a, Value.int IntKind.i64
  m] H) ∧ ∀ (J : F) (n n_1 : Int) (H' : Heap), M [Value.int IntKind.i64 n, Value.int IntKind.i64 n_1] H' → ∃ (I : List Value → Heap → Prop) (μ : List Value → Heap → Nat), I [Value.int
  IntKind.i64 n, Value.int IntKind.i64 n_1] H' ∧ ∀ (J : F) (n n_2 : Int) (H' : Heap), I [Value.int IntKind.i64 n, Value.int IntKind.i64 n_2] H' → brB (decide (n < n_2)) (exSome data_a fun ad
  => chk (decide ((0 : Int) ≤ IntKind.wrap IntKind.i64 (IntKind.wrap IntKind.i64 (IntKind.wrap IntKind.i64 (IntKind.wrap IntKind.i64 (Int.fdiv (IntKind.wrap IntKind.u64 (IntKind.wrap
  IntKind.i64 (a + b))) ((2 : Int) ^ (1 : Nat))) + m) - (1 : Int)) - IntKind.wrap IntKind.i64 (Int.fdiv (IntKind.wrap IntKind.u64 (IntKind.wrap IntKind.i64 (n + n_2))) ((2 : Int) ^ (1 :
  Nat)))) ∧ IntKind.wrap IntKind.i64 (IntKind.wrap IntKind.i64 (IntKind.wrap IntKind.i64 (IntKind.wrap IntKind.i64 (Int.fdiv (IntKind.wrap IntKind.u64 (IntKind.wrap IntKind.i64 (a + b))) ((2 :
  Int) ^ (1 : Nat))) + m) - (1 : Int)) - IntKind.wrap IntKind.i64 (Int.fdiv (IntKind.wrap IntKind.u64 (IntKind.wrap IntKind.i64 (n + n_2))) ((2 : Int) ^ (1 : Nat)))) < (↑data_n : Int))) (∃ n_3
  n_4, Ld Try.prog (26 : Nat) H' (Addr.add ad (Int.toNat (IntKind.wrap IntKind.i64 (IntKind.wrap IntKind.i64 (IntKind.wrap IntKind.i64 (IntKind.wrap IntKind.i64 (Int.fdiv (IntKind.wrap
  IntKind.u64 (IntKind.wrap IntKind.i64 (a + b))) ((2 : Int) ^ (1 : Nat))) + m) - (1 : Int)) - IntKind.wrap IntKind.i64 (Int.fdiv (IntKind.wrap IntKind.u64 (IntKind.wrap IntKind.i64 (n +
  n_2))) ((2 : Int) ^ (1 : Nat))))) * (2 : Nat))) (Value.agg { toList := [Value.int IntKind.i64 n_3, Value.int IntKind.i64 n_4] }) ∧ exSome data_a fun ad => chk (decide ((0 : Int) ≤
  IntKind.wrap IntKind.i64 (Int.fdiv (IntKind.wrap IntKind.u64 (IntKind.wrap IntKind.i64 (n + n_2))) ((2 : Int) ^ (1 : Nat))) ∧ IntKind.wrap IntKind.i64 (Int.fdiv (IntKind.wrap IntKind.u64
  (IntKind.wrap IntKind.i64 (n + n_2))) ((2 : Int) ^ (1 : Nat))) < (↑data_n : Int))) (∃ n_5 n_6, Ld Try.prog (26 : Nat) H' (Addr.add ad (Int.toNat (IntKind.wrap IntKind.i64 (Int.fdiv
  (IntKind.wrap IntKind.u64 (IntKind.wrap IntKind.i64 (n + n_2))) ((2 : Int) ^ (1 : Nat)))) * (2 : Nat))) (Value.agg { toList := [Value.int IntKind.i64 n_5, Value.int IntKind.i64 n_6] }) ∧
  CallV Try.prog cmp [Value.agg { toList := [Value.int IntKind.i64 n_3, Value.int IntKind.i64 n_4] }, Value.agg { toList := [Value.int IntKind.i64 n_5, Value.int IntKind.i64 n_6] }] H' fun v
  H'_1 => ∃ n_7, v = Value.int IntKind.i64 n_7 ∧ brB (!decide (n_7 < (0 : Int))) (I [Value.int IntKind.i64 (IntKind.wrap IntKind.i64 (IntKind.wrap IntKind.i64 (Int.fdiv (IntKind.wrap
  IntKind.u64 (IntKind.wrap IntKind.i64 (n + n_2))) ((2 : Int) ^ (1 : Nat))) + (1 : Int))), Value.int IntKind.i64 n_2] H'_1 ∧ μ [Value.int IntKind.i64 (IntKind.wrap IntKind.i64 (IntKind.wrap
  IntKind.i64 (Int.fdiv (IntKind.wrap IntKind.u64 (IntKind.wrap IntKind.i64 (n + n_2))) ((2 : Int) ^ (1 : Nat))) + (1 : Int))), Value.int IntKind.i64 n_2] H'_1 < μ [Value.int IntKind.i64 n,
  Value.int IntKind.i64 n_2] H') (I [Value.int IntKind.i64 n, Value.int IntKind.i64 (IntKind.wrap IntKind.i64 (Int.fdiv (IntKind.wrap IntKind.u64 (IntKind.wrap IntKind.i64 (n + n_2))) ((2 :
  Int) ^ (1 : Nat))))] H'_1 ∧ μ [Value.int IntKind.i64 n, Value.int IntKind.i64 (IntKind.wrap IntKind.i64 (Int.fdiv (IntKind.wrap IntKind.u64 (IntKind.wrap IntKind.i64 (n + n_2))) ((2 : Int) ^
  (1 : Nat))))] H'_1 < μ [Value.int IntKind.i64 n, Value.int IntKind.i64 n_2] H')))) (∃ (M : List Value → Heap → Prop), brB (decide (n < m)) (brB (decide (m < IntKind.wrap IntKind.i64
  (IntKind.wrap IntKind.i64 (IntKind.wrap IntKind.i64 (Int.fdiv (IntKind.wrap IntKind.u64 (IntKind.wrap IntKind.i64 (a + b))) ((2 : Int) ^ min (Int.toNat (1 : Int)) (IntKind.bits
  IntKind.u64))) + m) - n))) (CallH Try.prog (70 : Nat) { toList := [Value.slice data_a data_n data_c, Value.int IntKind.i64 n, Value.int IntKind.i64 m, Value.int IntKind.i64 (IntKind.wrap
  IntKind.i64 (IntKind.wrap IntKind.i64 (IntKind.wrap IntKind.i64 (Int.fdiv (IntKind.wrap IntKind.u64 (IntKind.wrap IntKind.i64 (a + b))) ((2 : Int) ^ (1 : Nat))) + m) - n)), cmp] } H' fun v
  H' => v = Value.tuple ⟨[]⟩ ∧ M [] H') (M [] H')) (M [] H') ∧ ∀ (J : F) (H' : Heap), M [] H' → ∃ (M : List Value → Heap → Prop), brB (decide (a < n)) (brB (decide (n < IntKind.wrap
  IntKind.i64 (Int.fdiv (IntKind.wrap IntKind.u64 (IntKind.wrap IntKind.i64 (a + b))) ((2 : Int) ^ min (Int.toNat (1 : Int)) (IntKind.bits IntKind.u64))))) (CallH Try.prog (59 : Nat) { toList
  := [Value.slice data_a data_n data_c, Value.int IntKind.i64 a, Value.int IntKind.i64 n, Value.int IntKind.i64 (IntKind.wrap IntKind.i64 (Int.fdiv (IntKind.wrap IntKind.u64 (IntKind.wrap
  IntKind.i64 (a + b))) ((2 : Int) ^ (1 : Nat)))), cmp] } H' fun v H' => v = Value.tuple ⟨[]⟩ ∧ M [] H') (M [] H')) (M [] H') ∧ ∀ (J : F) (H' : Heap), M [] H' → brB (decide (IntKind.wrap
  IntKind.i64 (Int.fdiv (IntKind.wrap IntKind.u64 (IntKind.wrap IntKind.i64 (a + b))) ((2 : Int) ^ min (Int.toNat (1 : Int)) (IntKind.bits IntKind.u64))) < IntKind.wrap IntKind.i64
  (IntKind.wrap IntKind.i64 (IntKind.wrap IntKind.i64 (Int.fdiv (IntKind.wrap IntKind.u64 (IntKind.wrap IntKind.i64 (a + b))) ((2 : Int) ^ min (Int.toNat (1 : Int)) (IntKind.bits
  IntKind.u64))) + m) - n))) (brB (decide (IntKind.wrap IntKind.i64 (IntKind.wrap IntKind.i64 (IntKind.wrap IntKind.i64 (Int.fdiv (IntKind.wrap IntKind.u64 (IntKind.wrap IntKind.i64 (a + b)))
  ((2 : Int) ^ min (Int.toNat (1 : Int)) (IntKind.bits IntKind.u64))) + m) - n) < b)) (CallH Try.prog (59 : Nat) { toList := [Value.slice data_a data_n data_c, Value.int IntKind.i64
  (IntKind.wrap IntKind.i64 (Int.fdiv (IntKind.wrap IntKind.u64 (IntKind.wrap IntKind.i64 (a + b))) ((2 : Int) ^ (1 : Nat)))), Value.int IntKind.i64 (IntKind.wrap IntKind.i64 (IntKind.wrap
  IntKind.i64 (IntKind.wrap IntKind.i64 (Int.fdiv (IntKind.wrap IntKind.u64 (IntKind.wrap IntKind.i64 (a + b))) ((2 : Int) ^ (1 : Nat))) + m) - n)), Value.int IntKind.i64 b, cmp] } H' fun v H'
  => v = Value.tuple ⟨[]⟩ ∧ R (Value.tuple ⟨[]⟩) H') (R (Value.tuple ⟨[]⟩) H')) (R (Value.tuple ⟨[]⟩) H'))))) : CallH Try.prog 59 (List.toArray [Value.slice data_a data_n data_c, Value.int
  IntKind.i64 a, Value.int IntKind.i64 m, Value.int IntKind.i64 b, cmp]) H R := vc_call (annOf [([0, 0, 1, 1, 0, 1, 0], .cut [(10, .one (.int .i64)), (11, .one (.int .i64))]), ([0, 1, 0, 1, 0,
  0, 0, 1, 1, 0, 1, 0], .tail 9), ([0, 1, 0, 1, 1, 1, 0, 1, 0], .cut [(13, .one (.int .i64))]), ([0, 0, 1, 0, 0, 1, 0, 1, 1, 1, 0, 1, 0], .reg [0, 0, 0, 0, 8, 0, 0, 64, 224, 480, 0, 0, 3072,
  7168, 16355, 32739, 65535, 131071] (.quiet 0 (.quiet 1 (.quiet 2 (.quiet 3 (.quiet 4 (.quiet 5 (.quiet 6 (.quiet 7 (.quiet 8 (.quiet 9 (.quiet 10 (.quiet 11 (.quiet 12 (.quiet 13 (.quiet 14
  (.pick (.alt 15 (.quiet 16 (.pick (.alt 17 (.done) .stop))) .stop)))))))))))))))))), ([0, 0, 1, 1, 0, 1, 0, 1], .cut [(14, .one (.int .i64)), (15, .one (.int .i64))]), ([0, 1, 0, 1, 0, 0, 0,
  1, 1, 0, 1, 0, 1], .tail 9), ([0, 1, 0, 1, 1, 1, 0, 1, 0, 1], .cut [(17, .one (.int .i64))]), ([0, 0, 1, 0, 0, 1, 0, 1, 1, 1, 0, 1, 0, 1], .reg [0, 0, 0, 0, 8, 0, 0, 64, 224, 480, 0, 0,
  3072, 7168, 16355, 32739, 65535, 131071] (.quiet 0 (.quiet 1 (.quiet 2 (.quiet 3 (.quiet 4 (.quiet 5 (.quiet 6 (.quiet 7 (.quiet 8 (.quiet 9 (.quiet 10 (.quiet 11 (.quiet 12 (.quiet 13
  (.quiet 14 (.pick (.alt 15 (.quiet 16 (.pick (.alt 17 (.done) .stop))) .stop)))))))))))))))))), ([1, 1, 1, 1, 1], .cut [(20, .one (.int .i64)), (21, .one (.int .i64))]), ([0, 0, 1, 1, 1, 1,
  1, 1, 1], .cut [(20, .one (.int .i64)), (21, .one (.int .i64))]), ([0, 1, 0, 1, 0, 0, 0, 1, 1, 1, 1, 1, 1, 1], .tail 11), ([1, 1, 1, 1, 1, 1, 1, 1, 1], .cut []), ([1, 1, 1, 1, 1, 1, 1, 1, 1,
  1], .cut [])]) followsAll Go.Proofs.Try.func59 rfl Go.Proofs.Try.ntmps59 rfl rfl (Eq.mpr (by kernel_rfl) h)

/- 70 slices.rotateCmpFunc[strandline/api.Sample]
  slots: [0=data, 1=a, 2=m, 3=b, 4=cmp, 5=data, 6=a, 7=m, 8=b, 9=cmp, 10=i, 11=j]  -/
abbrev fn_slices_rotateCmpFunc_api_Sample_ : Nat := 70
theorem vc_slices_rotateCmpFunc_api_Sample_ (data_a : Option Addr) (data_n : Nat) (data_c : Nat) (a : Int) (m : Int) (b : Int) (cmp : Value) (H : Heap) (R : Value → Heap → Prop) (h : ∃ (I :
  List Value → Heap → Prop) (μ : List Value → Heap → Nat), I [Value.int IntKind.i64 (IntKind.wrap IntKind.i64 (m - a)), Value.int IntKind.i64 (IntKind.wrap IntKind.i64 (b - m))] H ∧ ∀ (J : F)
  (n n_1 : Int) (H' : Heap), I [Value.int IntKind.i64 n, Value.int IntKind.i64 n_1] H' → brB (n != n_1) (brB (decide (n > n_1)) (CallH Try.prog (76 : Nat) { toList := [Value.slice data_a
  data_n data_c, Value.int IntKind.i64 (IntKind.wrap IntKind.i64 (m - n)), Value.int IntKind.i64 m, Value.int IntKind.i64 n_1, cmp] } H' fun v H'_1 => v = Value.tuple ⟨[]⟩ ∧ I [Value.int
  IntKind.i64 (IntKind.wrap IntKind.i64 (n - n_1)), Value.int IntKind.i64 n_1] H'_1 ∧ μ [Value.int IntKind.i64 (IntKind.wrap IntKind.i64 (n - n_1)), Value.int IntKind.i64 n_1] H'_1 < μ
  [Value.int IntKind.i64 n, Value.int IntKind.i64 n_1] H') (CallH Try.prog (76 : Nat) { toList := [Value.slice data_a data_n data_c, Value.int IntKind.i64 (IntKind.wrap IntKind.i64 (m - n)),
  Value.int IntKind.i64 (IntKind.wrap IntKind.i64 (IntKind.wrap IntKind.i64 (m + n_1) - n)), Value.int IntKind.i64 n, cmp] } H' fun v H'_1 => v = Value.tuple ⟨[]⟩ ∧ I [Value.int IntKind.i64 n,
  Value.int IntKind.i64 (IntKind.wrap IntKind.i64 (n_1 - n))] H'_1 ∧ μ [Value.int IntKind.i64 n, Value.int IntKind.i64 (IntKind.wrap IntKind.i64 (n_1 - n))] H'_1 < μ [Value.int IntKind.i64 n,
  Value.int IntKind.i64 n_1] H')) (CallH Try.prog (76 : Nat) { toList := [Value.slice data_a data_n data_c, Value.int IntKind.i64 (IntKind.wrap IntKind.i64 (m - n)), Value.int IntKind.i64 m,
  Value.int IntKind.i64 n, cmp] } H' fun v H' => v = Value.tuple ⟨[]⟩ ∧ R (Value.tuple ⟨[]⟩) H')) : CallH Try.prog 70 (List.toArray [Value.slice data_a data_n data_c, Value.int IntKind.i64 a,
  Value.int IntKind.i64 m, Value.int IntKind.i64 b, cmp]) H R := vc_call (annOf [([0, 0, 1, 1], .cut [(10, .one (.int .i64)), (11, .one (.int .i64))])]) followsAll Go.Proofs.Try.func70 rfl
  Go.Proofs.Try.ntmps70 rfl rfl (Eq.mpr (by kernel_rfl) h)

/- 76 slices.swapRangeCmpFunc[strandline/api.Sample]
  slots: [0=data, 1=a, 2=b, 3=n, 4=cmp, 5=data, 6=a, 7=b, 8=n, 9=cmp, 10=i]  -/
abbrev fn_slices_swapRangeCmpFunc_api_Sample_ : Nat := 76
theorem vc_slices_swapRangeCmpFunc_api_Sample_ (data_a : Option Addr) (data_n : Nat) (data_c : Nat) (a : Int) (b : Int) (n : Int) (cmp : Value) (H : Heap) (R : Value → Heap → Prop) (h : ∃ (I
  : List Value → Heap → Prop) (μ : List Value → Heap → Nat), I [Value.int IntKind.i64 (0 : Int)] H ∧ ∀ (J : F) (n_1 : Int) (H' : Heap), I [Value.int IntKind.i64 n_1] H' → brB (decide (n_1 <
  n)) (exSome data_a fun ad => chk (decide ((0 : Int) ≤ IntKind.wrap IntKind.i64 (b + n_1) ∧ IntKind.wrap IntKind.i64 (b + n_1) < (↑data_n : Int))) (∃ n n_2, Ld Try.prog (26 : Nat) H'
  (Addr.add ad (Int.toNat (IntKind.wrap IntKind.i64 (b + n_1)) * (2 : Nat))) (Value.agg { toList := [Value.int IntKind.i64 n, Value.int IntKind.i64 n_2] }) ∧ exSome data_a fun ad => chk
  (decide ((0 : Int) ≤ IntKind.wrap IntKind.i64 (a + n_1) ∧ IntKind.wrap IntKind.i64 (a + n_1) < (↑data_n : Int))) (∃ n_3 n_4, Ld Try.prog (26 : Nat) H' (Addr.add ad (Int.toNat (IntKind.wrap
  IntKind.i64 (a + n_1)) * (2 : Nat))) (Value.agg { toList := [Value.int IntKind.i64 n_3, Value.int IntKind.i64 n_4] }) ∧ exSome data_a fun ad => chk (decide ((0 : Int) ≤ IntKind.wrap
  IntKind.i64 (a + n_1) ∧ IntKind.wrap IntKind.i64 (a + n_1) < (↑data_n : Int))) (∃ H'_1, St Try.prog (26 : Nat) H' (Addr.add ad (Int.toNat (IntKind.wrap IntKind.i64 (a + n_1)) * (2 : Nat)))
  (Value.agg { toList := [Value.int IntKind.i64 n, Value.int IntKind.i64 n_2] }) H'_1 ∧ exSome data_a fun ad => chk (decide ((0 : Int) ≤ IntKind.wrap IntKind.i64 (b + n_1) ∧ IntKind.wrap
  IntKind.i64 (b + n_1) < (↑data_n : Int))) (∃ H'_2, St Try.prog (26 : Nat) H'_1 (Addr.add ad (Int.toNat (IntKind.wrap IntKind.i64 (b + n_1)) * (2 : Nat))) (Value.agg { toList := [Value.int
  IntKind.i64 n_3, Value.int IntKind.i64 n_4] }) H'_2 ∧ I [Value.int IntKind.i64 (IntKind.wrap IntKind.i64 (n_1 + (1 : Int)))] H'_2 ∧ μ [Value.int IntKind.i64 (IntKind.wrap IntKind.i64 (n_1 +
  (1 : Int)))] H'_2 < μ [Value.int IntKind.i64 n_1] H'))))) (R (Value.tuple ⟨[]⟩) H')) : CallH Try.prog 76 (List.toArray [Value.slice data_a data_n data_c, Value.int IntKind.i64 a, Value.int
  IntKind.i64 b, Value.int IntKind.i64 n, cmp]) H R := vc_call (annOf [([0, 1], .cut [(10, .one (.int .i64))]), ([0, 0, 1, 0, 0, 1], .reg [0, 0, 0, 6, 0, 0, 0, 96, 0, 0, 0, 1536, 3840, 7936,
  0, 0, 0, 98304, 245760, 507904, 1048335, 2096911, 4194303, 8388607] (.quiet 0 (.quiet 1 (.quiet 2 (.quiet 3 (.quiet 4 (.quiet 5 (.quiet 6 (.quiet 7 (.quiet 8 (.quiet 9 (.quiet 10 (.quiet 11
  (.quiet 12 (.quiet 13 (.quiet 14 (.quiet 15 (.quiet 16 (.quiet 17 (.quiet 18 (.quiet 19 (.quiet 20 (.pick (.alt 21 (.quiet 22 (.pick (.alt 23 (.done) .stop))) .stop))))))))))))))))))))))))])
  followsAll Go.Proofs.Try.func76 rfl Go.Proofs.Try.ntmps76 rfl rfl (Eq.mpr (by kernel_rfl) h)
end Go.Proofs
