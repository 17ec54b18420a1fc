/- A part of a proof: see the last text of this claim. -/
import Derived.Test.YtgjbljhocedpfaaGvCore
import Derived.Test.YtgjbljhocedpfaaRange
import Derived.Test.YtgjbljhocedpfaaRows
set_option linter.unusedVariables false
set_option maxRecDepth 100000
open Go Go.GV
namespace Go.Proofs
theorem followsAll : Try.prog.follows .mixedOrders = true := by kernel_rfl

/- 3 strandline/strandlinelaw10.FilesOwn
  slots: [0=l, 1=a, 2=l, 3=a, 5=s, 6=_, 7=want, 8=there, 9=i, 10=o, 11=t, 12=is]  -/
abbrev fn_law10_FilesOwn : Nat := 3
theorem vc_law10_FilesOwn (l_a : Option Addr) (l_n : Nat) (l_c : Nat) (a : ByteArray) (H : Heap) (R : Value → Heap → Prop) (h : ∃ (M : List Value → Heap → Prop), (CallH Try.prog (9 : Nat) {
  toList := [Value.slice l_a l_n l_c] } H fun v H' => ∃ b, v = Value.bool b ∧ brB b (CallH Try.prog (10 : Nat) ⟨[]⟩ H' fun v H' => ∃ b, v = Value.bool b ∧ R (Value.bool b) H') (CallH Try.prog
  (10 : Nat) ⟨[]⟩ H' fun v H' => ∃ b, v = Value.bool b ∧ brB (!b) (CallH Try.prog (10 : Nat) ⟨[]⟩ H' fun v H' => ∃ b, v = Value.bool b ∧ R (Value.bool b) H') (brB (decide ((↑(ByteArray.size a)
  : Int) > (1024 : Int))) (CallH Try.prog (10 : Nat) ⟨[]⟩ H' fun v H' => ∃ b, v = Value.bool b ∧ R (Value.bool b) H') (M [] H')))) ∧ ∀ (J : F) (H' : Heap), M [] H' → CallH Try.prog (12 : Nat)
  { toList := [Value.int IntKind.i64 (512 : Int)] } H' fun v H' => ∃ a_2, v = Value.pointer a_2 ∧ CallH Try.prog (11 : Nat) { toList := [Value.pointer a_2] } H' fun v H' => ∃ a_3 n, v =
  Value.tuple { toList := [Value.pointer a_3, Value.int IntKind.i64 n] } ∧ ∃ (I : List Value → Heap → Prop) (μ : List Value → Heap → Nat), I [Value.string { data := #[] }, Value.bool false,
  Value.int IntKind.i64 (0 : Int)] H' ∧ ∀ (J : F) (s : ByteArray) (b : Bool) (n : Int) (H' : Heap), I [Value.string s, Value.bool b, Value.int IntKind.i64 n] H' → brB (decide (n < (↑l_n :
  Int))) (∃ (M : List Value → Heap → Prop), (exSome l_a fun ad => chk (decide ((0 : Int) ≤ n ∧ n < (↑l_n : Int))) (∃ n_1 n_2 s_1 s_2 n_3, Ld Try.prog (33 : Nat) H' (Addr.add ad (Int.toNat n *
  (5 : Nat))) (Value.agg { toList := [Value.int IntKind.i64 n_1, Value.int IntKind.i64 n_2, Value.string s_1, Value.string s_2, Value.int IntKind.u64 n_3] }) ∧ ∀ (b_1 : Nat) (H'_1 : Heap), New
  H' b_1 (Obj.cells { toList := [Value.int IntKind.i64 (0 : Int), Value.int IntKind.i64 (0 : Int), Value.string { data := #[] }, Value.string { data := #[] }, Value.int IntKind.u64 (0 : Int)]
  } (33 : Nat)) H'_1 → ∃ H', St Try.prog (33 : Nat) H'_1 ⟨b_1, (0 : Nat), none⟩ (Value.agg { toList := [Value.int IntKind.i64 n_1, Value.int IntKind.i64 n_2, Value.string s_1, Value.string
  s_2, Value.int IntKind.u64 n_3] }) H' ∧ ∃ (M_1 : List Value → Heap → Prop), (∃ n, Ld Try.prog (3 : Nat) H' ⟨b_1, (0 : Nat), none⟩ (Value.int IntKind.i64 n) ∧ brB (n == (0 : Int)) (∃ s_3, Ld
  Try.prog (9 : Nat) H' ⟨b_1, (2 : Nat), none⟩ (Value.string s_3) ∧ ∃ s_4, Ld Try.prog (9 : Nat) H' ⟨b_1, (3 : Nat), none⟩ (Value.string s_4) ∧ CallH Try.prog (13 : Nat) { toList :=
  [Value.pointer a_3, Value.string s_3, Value.string s_4] } H' fun v H' => ∃ n, v = Value.int IntKind.i64 n ∧ brB (n == (0 : Int)) (∃ s_5, Ld Try.prog (9 : Nat) H' ⟨b_1, (2 : Nat), none⟩
  (Value.string s_5) ∧ brB (ByteArray.toList s_5 == ByteArray.toList a) (∃ s, Ld Try.prog (9 : Nat) H' ⟨b_1, (3 : Nat), none⟩ (Value.string s) ∧ M_1 [Value.string s, Value.bool true] H') (M_1
  [Value.string s, Value.bool b] H')) (M_1 [Value.string s, Value.bool b] H')) (brB (n == (1 : Int)) (∃ s_3, Ld Try.prog (9 : Nat) H' ⟨b_1, (2 : Nat), none⟩ (Value.string s_3) ∧ ∃ s_4, Ld
  Try.prog (9 : Nat) H' ⟨b_1, (3 : Nat), none⟩ (Value.string s_4) ∧ CallH Try.prog (14 : Nat) { toList := [Value.pointer a_3, Value.string s_3, Value.string s_4] } H' fun v H' => ∃ n, v =
  Value.int IntKind.i64 n ∧ brB (n == (0 : Int)) (∃ s_5, Ld Try.prog (9 : Nat) H' ⟨b_1, (2 : Nat), none⟩ (Value.string s_5) ∧ brB (ByteArray.toList s_5 == ByteArray.toList a) (∃ s_6, Ld
  Try.prog (9 : Nat) H' ⟨b_1, (3 : Nat), none⟩ (Value.string s_6) ∧ chk (decide (ByteArray.size s + ByteArray.size s_6 ≤ (9223372036854775807 : Nat))) (M_1 [Value.string (s ++ s_6), Value.bool
  true] H')) (M_1 [Value.string s, Value.bool b] H')) (M_1 [Value.string s, Value.bool b] H')) (brB (n == (2 : Int)) (∃ s_3, Ld Try.prog (9 : Nat) H' ⟨b_1, (2 : Nat), none⟩ (Value.string s_3)
  ∧ CallH Try.prog (15 : Nat) { toList := [Value.pointer a_3, Value.string s_3] } H' fun v H' => ∃ n, v = Value.int IntKind.i64 n ∧ brB (n == (0 : Int)) (∃ s_4, Ld Try.prog (9 : Nat) H' ⟨b_1,
  (2 : Nat), none⟩ (Value.string s_4) ∧ brB (ByteArray.toList s_4 == ByteArray.toList a) (M_1 [Value.string { data := #[] }, Value.bool false] H') (M_1 [Value.string s, Value.bool b] H')) (M_1
  [Value.string s, Value.bool b] H')) (brB (n == (4 : Int)) (CallH Try.prog (16 : Nat) { toList := [Value.pointer a_3] } H' fun v H' => ∃ n, v = Value.int IntKind.i64 n ∧ brB (n != (0 : Int))
  (R (Value.bool false) H') (M_1 [Value.string s, Value.bool b] H')) (M_1 [Value.string s, Value.bool b] H'))))) ∧ ∀ (J : F) (s : ByteArray) (b : Bool) (H' : Heap), M_1 [Value.string s,
  Value.bool b] H' → CallH Try.prog (17 : Nat) { toList := [Value.pointer a_3, Value.string a] } H' fun v H' => ∃ s_3 b_2, v = Value.tuple { toList := [Value.string s_3, Value.bool b_2] } ∧
  brB (!b_2 == b) (R (Value.bool false) H') (brB (!ByteArray.toList s_3 == ByteArray.toList s) (R (Value.bool false) H') (M [Value.string s, Value.bool b] H')))) ∧ ∀ (J : F) (s_1 : ByteArray)
  (b_1 : Bool) (H'_1 : Heap), M [Value.string s_1, Value.bool b_1] H'_1 → I [Value.string s_1, Value.bool b_1, Value.int IntKind.i64 (IntKind.wrap IntKind.i64 (n + (1 : Int)))] H'_1 ∧ μ
  [Value.string s_1, Value.bool b_1, Value.int IntKind.i64 (IntKind.wrap IntKind.i64 (n + (1 : Int)))] H'_1 < μ [Value.string s, Value.bool b, Value.int IntKind.i64 n] H') (R (Value.bool true)
  H')) : CallH Try.prog 3 (List.toArray [Value.slice l_a l_n l_c, Value.string a]) H R := vc_call (annOf [([1], .cut []), ([0, 1, 0, 1, 1, 1, 1, 1], .cut [(7, .one .str), (8, .one .bool), (9,
  .one (.int .i64))]), ([1, 0, 0, 1, 0, 1, 1, 1, 1, 1], .cut [(7, .one .str), (8, .one .bool)]), ([1, 0, 0, 1, 0, 0, 1, 0, 1, 1, 1, 1, 1], .cut [(7, .one .str), (8, .one .bool)])]) followsAll
  Go.Proofs.Try.func3 rfl Go.Proofs.Try.ntmps3 rfl rfl (Eq.mpr (by kernel_rfl) h)

/- 4 strandline/strandlinelaw10.FilesMoved
  slots: [0=l, 1=from, 2=to, 3=l, 4=from, 5=to, 7=s, 8=e, 9=i, 10=was, 11=t, 12=is, 13=f, 14=now, 15=u, 16=there, 17=_, 18=old, 19=i, 20=v, 21=still]  -/
abbrev fn_law10_FilesMoved : Nat := 4
theorem vc_law10_FilesMoved (l_a : Option Addr) (l_n : Nat) (l_c : Nat) (from' : ByteArray) (to : ByteArray) (H : Heap) (R : Value → Heap → Prop) (h : ∃ (M : List Value → Heap → Prop),
  (CallH Try.prog (9 : Nat) { toList := [Value.slice l_a l_n l_c] } H fun v H' => ∃ b, v = Value.bool b ∧ brB b (CallH Try.prog (10 : Nat) ⟨[]⟩ H' fun v H' => ∃ b, v = Value.bool b ∧ R
  (Value.bool b) H') (brB (decide ((↑(ByteArray.size from') : Int) > (100 : Int))) (CallH Try.prog (10 : Nat) ⟨[]⟩ H' fun v H' => ∃ b, v = Value.bool b ∧ R (Value.bool b) H') (brB (decide
  ((↑(ByteArray.size to) : Int) > (100 : Int))) (CallH Try.prog (10 : Nat) ⟨[]⟩ H' fun v H' => ∃ b, v = Value.bool b ∧ R (Value.bool b) H') (CallH Try.prog (10 : Nat) ⟨[]⟩ H' fun v H' => ∃ b,
  v = Value.bool b ∧ brB (!b) (CallH Try.prog (10 : Nat) ⟨[]⟩ H' fun v H' => ∃ b, v = Value.bool b ∧ R (Value.bool b) H') (M [] H'))))) ∧ ∀ (J : F) (H' : Heap), M [] H' → CallH Try.prog (12 :
  Nat) { toList := [Value.int IntKind.i64 (512 : Int)] } H' fun v H' => ∃ a, v = Value.pointer a ∧ CallH Try.prog (11 : Nat) { toList := [Value.pointer a] } H' fun v H' => ∃ a n, v =
  Value.tuple { toList := [Value.pointer a, Value.int IntKind.i64 n] } ∧ ∃ (M : List Value → Heap → Prop), brB (n != (0 : Int)) (R (Value.bool false) H') (brB (Option.isNone a) (R (Value.bool
  false) H') (M [] H')) ∧ ∀ (J : F) (H' : Heap), M [] H' → ∃ (I : List Value → Heap → Prop) (μ : List Value → Heap → Nat), I [Value.int IntKind.i64 (0 : Int)] H' ∧ ∀ (J : F) (n : Int) (H' :
  Heap), I [Value.int IntKind.i64 n] H' → brB (decide (n < (↑l_n : Int))) (exSome l_a fun ad => chk (decide ((0 : Int) ≤ n ∧ n < (↑l_n : Int))) (∃ n_1 n_2 s s_1 n_3, Ld Try.prog (33 : Nat) H'
  (Addr.add ad (Int.toNat n * (5 : Nat))) (Value.agg { toList := [Value.int IntKind.i64 n_1, Value.int IntKind.i64 n_2, Value.string s, Value.string s_1, Value.int IntKind.u64 n_3] }) ∧ CallH
  Try.prog (18 : Nat) { toList := [Value.pointer a, Value.agg { toList := [Value.int IntKind.i64 n_1, Value.int IntKind.i64 n_2, Value.string s, Value.string s_1, Value.int IntKind.u64 n_3] }]
  } H' fun v H'_1 => v = Value.tuple ⟨[]⟩ ∧ I [Value.int IntKind.i64 (IntKind.wrap IntKind.i64 (n + (1 : Int)))] H'_1 ∧ μ [Value.int IntKind.i64 (IntKind.wrap IntKind.i64 (n + (1 : Int)))]
  H'_1 < μ [Value.int IntKind.i64 n] H')) (CallH Try.prog (19 : Nat) { toList := [Value.pointer a] } H' fun v H' => ∃ a_3 n c, v = Value.slice a_3 n c ∧ CallH Try.prog (17 : Nat) { toList :=
  [Value.pointer a, Value.string from'] } H' fun v H' => ∃ s b, v = Value.tuple { toList := [Value.string s, Value.bool b] } ∧ CallH Try.prog (20 : Nat) { toList := [Value.pointer a,
  Value.string from', Value.string to] } H' fun v H' => ∃ n_1, v = Value.int IntKind.i64 n_1 ∧ CallH Try.prog (19 : Nat) { toList := [Value.pointer a] } H' fun v H' => ∃ a_4 n_2 c_1, v =
  Value.slice a_4 n_2 c_1 ∧ brB (n_1 != (0 : Int)) (CallH Try.prog (21 : Nat) { toList := [Value.slice a_4 n_2 c_1, Value.slice a_3 n c] } H' fun v H' => ∃ b_1, v = Value.bool b_1 ∧ brB b_1
  (brB (n_1 != (3 : Int)) (R (Value.bool true) H') (R (Value.bool !b) H')) (R (Value.bool false) H')) (CallH Try.prog (17 : Nat) { toList := [Value.pointer a, Value.string to] } H' fun v H' =>
  ∃ s_1 b_1, v = Value.tuple { toList := [Value.string s_1, Value.bool b_1] } ∧ CallH Try.prog (17 : Nat) { toList := [Value.pointer a, Value.string from'] } H' fun v H' => ∃ s_2 b_2, v =
  Value.tuple { toList := [Value.string s_2, Value.bool b_2] } ∧ ∃ (M : List Value → Heap → Prop), brB (!b) (R (Value.bool false) H') (brB (!b_1) (R (Value.bool false) H') (brB
  (!ByteArray.toList s_1 == ByteArray.toList s) (R (Value.bool false) H') (brB (!b_2 == (ByteArray.toList from' == ByteArray.toList to)) (R (Value.bool false) H') (M [] H')))) ∧ ∀ (J : F) (H'
  : Heap), M [] H' → ∃ (I : List Value → Heap → Prop) (μ : List Value → Heap → Nat), I [Value.int IntKind.i64 (0 : Int)] H' ∧ ∀ (J : F) (n_3 : Int) (H' : Heap), I [Value.int IntKind.i64 n_3]
  H' → brB (decide (n_3 < (↑n : Int))) (∃ (M : List Value → Heap → Prop), (exSome a_3 fun ad => chk (decide ((0 : Int) ≤ n_3 ∧ n_3 < (↑n : Int))) (∃ s, Ld Try.prog (9 : Nat) H' (Addr.add ad
  (Int.toNat n_3 * (1 : Nat))) (Value.string s) ∧ CallH Try.prog (17 : Nat) { toList := [Value.pointer a, Value.string s] } H' fun v H' => ∃ s b, v = Value.tuple { toList := [Value.string s,
  Value.bool b] } ∧ exSome a_3 fun ad => chk (decide ((0 : Int) ≤ n_3 ∧ n_3 < (↑n : Int))) (∃ s_3, Ld Try.prog (9 : Nat) H' (Addr.add ad (Int.toNat n_3 * (1 : Nat))) (Value.string s_3) ∧ brB
  (!ByteArray.toList s_3 == ByteArray.toList from') (exSome a_3 fun ad => chk (decide ((0 : Int) ≤ n_3 ∧ n_3 < (↑n : Int))) (∃ s_4, Ld Try.prog (9 : Nat) H' (Addr.add ad (Int.toNat n_3 * (1 :
  Nat))) (Value.string s_4) ∧ brB (!ByteArray.toList s_4 == ByteArray.toList to) (brB (!b) (R (Value.bool false) H') (exSome a_3 fun ad => chk (decide ((0 : Int) ≤ IntKind.wrap IntKind.i64
  (n_3 + (1 : Int)) ∧ IntKind.wrap IntKind.i64 (n_3 + (1 : Int)) < (↑n : Int))) (∃ s_5, Ld Try.prog (9 : Nat) H' (Addr.add ad (Int.toNat (IntKind.wrap IntKind.i64 (n_3 + (1 : Int))) * (1 :
  Nat))) (Value.string s_5) ∧ brB (!ByteArray.toList s == ByteArray.toList s_5) (R (Value.bool false) H') (M [] H')))) (M [] H'))) (M [] H')))) ∧ ∀ (J : F) (H'_1 : Heap), M [] H'_1 → I
  [Value.int IntKind.i64 (IntKind.wrap IntKind.i64 (n_3 + (2 : Int)))] H'_1 ∧ μ [Value.int IntKind.i64 (IntKind.wrap IntKind.i64 (n_3 + (2 : Int)))] H'_1 < μ [Value.int IntKind.i64 n_3] H') (R
  (Value.bool true) H')))) : CallH Try.prog 4 (List.toArray [Value.slice l_a l_n l_c, Value.string from', Value.string to]) H R := vc_call (annOf [([1], .cut []), ([1, 1, 1], .cut []), ([0, 1,
  0, 1, 1, 1, 1], .cut [(9, .one (.int .i64))]), ([1, 1, 1, 1, 1, 1, 1, 1, 1, 1, 1, 1], .cut []), ([0, 1, 0, 1, 1, 1, 1, 1, 1, 1, 1, 1, 1, 1, 1, 1], .cut [(19, .one (.int .i64))]), ([1, 0, 0,
  1, 0, 1, 1, 1, 1, 1, 1, 1, 1, 1, 1, 1, 1, 1], .cut [])]) followsAll Go.Proofs.Try.func4 rfl Go.Proofs.Try.ntmps4 rfl rfl (Eq.mpr (by kernel_rfl) h)

/- 5 strandline/strandlinelaw10.FilesKeeps
  slots: [0=n, 1=l, 2=keep, 3=n, 4=l, 5=keep, 7=d, 8=s, 9=_, 10=last, 11=i, 12=t, 13=e, 14=t, 15=e]  -/
abbrev fn_law10_FilesKeeps : Nat := 5
theorem vc_law10_FilesKeeps (n : Int) (l_a : Option Addr) (l_n : Nat) (l_c : Nat) (keep : Int) (H : Heap) (R : Value → Heap → Prop) (h : ∃ (M : List Value → Heap → Prop), (CallH Try.prog (9
  : Nat) { toList := [Value.slice l_a l_n l_c] } H fun v H' => ∃ b, v = Value.bool b ∧ brB b (CallH Try.prog (10 : Nat) ⟨[]⟩ H' fun v H' => ∃ b, v = Value.bool b ∧ R (Value.bool b) H') (CallH
  Try.prog (10 : Nat) ⟨[]⟩ H' fun v H' => ∃ b, v = Value.bool b ∧ brB (!b) (CallH Try.prog (10 : Nat) ⟨[]⟩ H' fun v H' => ∃ b, v = Value.bool b ∧ R (Value.bool b) H') (M [] H'))) ∧ ∀ (J : F)
  (H' : Heap), M [] H' → CallH Try.prog (12 : Nat) { toList := [Value.int IntKind.i64 (IntKind.wrap IntKind.i64 ((8 : Int) + Int.tmod (IntKind.wrap IntKind.i64 n) (40 : Int)))] } H' fun v H'
  => ∃ a, v = Value.pointer a ∧ CallH Try.prog (11 : Nat) { toList := [Value.pointer a] } H' fun v H' => ∃ a_1 n, v = Value.tuple { toList := [Value.pointer a_1, Value.int IntKind.i64 n] } ∧ ∀
  (b : Nat) (H'_1 : Heap), New H' b (Obj.cells ⟨[]⟩ (9 : Nat)) H'_1 → ∃ (I : List Value → Heap → Prop) (μ : List Value → Heap → Nat), I [Value.pointer a_1, Value.slice (some ⟨b, (0 : Nat),
  none⟩) (0 : Nat) (0 : Nat), Value.int IntKind.i64 (0 : Int)] H'_1 ∧ ∀ (J : F) (a_3 a_4 : Option Addr) (n c : Nat) (n_1 : Int) (H' : Heap), I [Value.pointer a_3, Value.slice a_4 n c,
  Value.int IntKind.i64 n_1] H' → brB (decide (n_1 < (↑l_n : Int))) (∃ (M : List Value → Heap → Prop), (exSome l_a fun ad => chk (decide ((0 : Int) ≤ n_1 ∧ n_1 < (↑l_n : Int))) (∃ n_2 n_3 s
  s_1 n_4, Ld Try.prog (33 : Nat) H' (Addr.add ad (Int.toNat n_1 * (5 : Nat))) (Value.agg { toList := [Value.int IntKind.i64 n_2, Value.int IntKind.i64 n_3, Value.string s, Value.string s_1,
  Value.int IntKind.u64 n_4] }) ∧ CallH Try.prog (18 : Nat) { toList := [Value.pointer a_3, Value.agg { toList := [Value.int IntKind.i64 n_2, Value.int IntKind.i64 n_3, Value.string s,
  Value.string s_1, Value.int IntKind.u64 n_4] }] } H' fun v H' => v = Value.tuple ⟨[]⟩ ∧ ∃ (M_1 : List Value → Heap → Prop), (exSome l_a fun ad => chk (decide ((0 : Int) ≤ n_1 ∧ n_1 < (↑l_n :
  Int))) (∃ n_5, Ld Try.prog (3 : Nat) H' (Addr.add ad (Int.toNat n_1 * (5 : Nat))) (Value.int IntKind.i64 n_5) ∧ brB (n_5 == (4 : Int)) (CallH Try.prog (16 : Nat) { toList := [Value.pointer
  a_3] } H' fun v H' => ∃ n, v = Value.int IntKind.i64 n ∧ brB (n != (0 : Int)) (R (Value.bool false) H') (CallH Try.prog (19 : Nat) { toList := [Value.pointer a_3] } H' fun v H' => ∃ a n c, v
  = Value.slice a n c ∧ M_1 [Value.slice a n c] H')) (M_1 [Value.slice a_4 n c] H'))) ∧ ∀ (J : F) (a_6 : Option Addr) (n c : Nat) (H' : Heap), M_1 [Value.slice a_6 n c] H' → exSome l_a fun ad
  => chk (decide ((0 : Int) ≤ n_1 ∧ n_1 < (↑l_n : Int))) (∃ n_5, Ld Try.prog (3 : Nat) H' (Addr.add ad (Int.toNat n_1 * (5 : Nat))) (Value.int IntKind.i64 n_5) ∧ brB (n_5 == (7 : Int)) (exSome
  l_a fun ad => chk (decide ((0 : Int) ≤ n_1 ∧ n_1 < (↑l_n : Int))) (∃ n_6, Ld Try.prog (31 : Nat) H' (Addr.add (Addr.add ad (Int.toNat n_1 * (5 : Nat))) (4 : Nat)) (Value.int IntKind.u64 n_6)
  ∧ CallH Try.prog (22 : Nat) { toList := [Value.pointer a, Value.int IntKind.u64 n_6] } H' fun v H' => v = Value.tuple ⟨[]⟩ ∧ CallH Try.prog (23 : Nat) { toList := [Value.pointer a] } H' fun
  v H' => v = Value.tuple ⟨[]⟩ ∧ CallH Try.prog (11 : Nat) { toList := [Value.pointer a] } H' fun v H' => ∃ a n_7, v = Value.tuple { toList := [Value.pointer a, Value.int IntKind.i64 n_7] } ∧
  brB (n_7 != (0 : Int)) (R (Value.bool false) H') (CallH Try.prog (19 : Nat) { toList := [Value.pointer a] } H' fun v H' => ∃ a_8 n_8 c_1, v = Value.slice a_8 n_8 c_1 ∧ CallH Try.prog (21 :
  Nat) { toList := [Value.slice a_8 n_8 c_1, Value.slice a_6 n c] } H' fun v H' => ∃ b, v = Value.bool b ∧ brB (!b) (R (Value.bool false) H') (M [Value.pointer a, Value.slice a_6 n c] H'))))
  (M [Value.pointer a_3, Value.slice a_6 n c] H')))) ∧ ∀ (J : F) (a a_6 : Option Addr) (n_2 c_1 : Nat) (H'_2 : Heap), M [Value.pointer a, Value.slice a_6 n_2 c_1] H'_2 → I [Value.pointer a,
  Value.slice a_6 n_2 c_1, Value.int IntKind.i64 (IntKind.wrap IntKind.i64 (n_1 + (1 : Int)))] H'_2 ∧ μ [Value.pointer a, Value.slice a_6 n_2 c_1, Value.int IntKind.i64 (IntKind.wrap
  IntKind.i64 (n_1 + (1 : Int)))] H'_2 < μ [Value.pointer a_3, Value.slice a_4 n c, Value.int IntKind.i64 n_1] H') (CallH Try.prog (22 : Nat) { toList := [Value.pointer a, Value.int
  IntKind.u64 keep] } H' fun v H' => v = Value.tuple ⟨[]⟩ ∧ CallH Try.prog (23 : Nat) { toList := [Value.pointer a] } H' fun v H' => v = Value.tuple ⟨[]⟩ ∧ CallH Try.prog (11 : Nat) { toList
  := [Value.pointer a] } H' fun v H' => ∃ a n_2, v = Value.tuple { toList := [Value.pointer a, Value.int IntKind.i64 n_2] } ∧ brB (n_2 == (0 : Int)) (CallH Try.prog (19 : Nat) { toList :=
  [Value.pointer a] } H' fun v H' => ∃ a n_3 c_1, v = Value.slice a n_3 c_1 ∧ CallH Try.prog (21 : Nat) { toList := [Value.slice a n_3 c_1, Value.slice a_4 n c] } H' fun v H' => ∃ b, v =
  Value.bool b ∧ R (Value.bool b) H') (R (Value.bool false) H'))) : CallH Try.prog 5 (List.toArray [Value.int IntKind.u8 n, Value.slice l_a l_n l_c, Value.int IntKind.u64 keep]) H R := vc_call
  (annOf [([1], .cut []), ([0, 1, 0, 1, 1, 1, 1, 1], .cut [(8, .one .ptr), (10, .one .slice), (11, .one (.int .i64))]), ([1, 0, 0, 1, 0, 1, 1, 1, 1, 1], .cut [(8, .one .ptr), (10, .one
  .slice)]), ([1, 0, 0, 1, 0, 0, 1, 0, 1, 1, 1, 1, 1], .cut [(10, .one .slice)])]) followsAll Go.Proofs.Try.func5 rfl Go.Proofs.Try.ntmps5 rfl rfl (Eq.mpr (by kernel_rfl) h)

/- 6 strandline/strandlinelaw10.FilesGens
  slots: [0=n, 1=l, 2=n, 3=l, 5=d, 6=s, 7=e, 8=last, 9=i, 10=g, 11=calls, 12=now]  -/
abbrev fn_law10_FilesGens : Nat := 6
theorem vc_law10_FilesGens (n : Int) (l_a : Option Addr) (l_n : Nat) (l_c : Nat) (H : Heap) (R : Value → Heap → Prop) (h : ∃ (M : List Value → Heap → Prop), (CallH Try.prog (9 : Nat) {
  toList := [Value.slice l_a l_n l_c] } H fun v H' => ∃ b, v = Value.bool b ∧ brB b (CallH Try.prog (10 : Nat) ⟨[]⟩ H' fun v H' => ∃ b, v = Value.bool b ∧ R (Value.bool b) H') (CallH Try.prog
  (10 : Nat) ⟨[]⟩ H' fun v H' => ∃ b, v = Value.bool b ∧ brB (!b) (CallH Try.prog (10 : Nat) ⟨[]⟩ H' fun v H' => ∃ b, v = Value.bool b ∧ R (Value.bool b) H') (M [] H'))) ∧ ∀ (J : F) (H' :
  Heap), M [] H' → CallH Try.prog (12 : Nat) { toList := [Value.int IntKind.i64 (IntKind.wrap IntKind.i64 ((8 : Int) + Int.tmod (IntKind.wrap IntKind.i64 n) (40 : Int)))] } H' fun v H' => ∃ a,
  v = Value.pointer a ∧ CallH Try.prog (11 : Nat) { toList := [Value.pointer a] } H' fun v H' => ∃ a_1 n, v = Value.tuple { toList := [Value.pointer a_1, Value.int IntKind.i64 n] } ∧ ∃ (M :
  List Value → Heap → Prop), brB (n != (0 : Int)) (R (Value.bool false) H') (brB (Option.isNone a_1) (R (Value.bool false) H') (M [] H')) ∧ ∀ (J : F) (H' : Heap), M [] H' → CallH Try.prog (19
  : Nat) { toList := [Value.pointer a_1] } H' fun v H' => ∃ a_3 n c, v = Value.slice a_3 n c ∧ ∃ (I : List Value → Heap → Prop) (μ : List Value → Heap → Nat), I [Value.slice a_3 n c, Value.int
  IntKind.i64 (0 : Int)] H' ∧ ∀ (J : F) (a_4 : Option Addr) (n c : Nat) (n_1 : Int) (H' : Heap), I [Value.slice a_4 n c, Value.int IntKind.i64 n_1] H' → brB (decide (n_1 < (↑l_n : Int))) (∃ (M
  : List Value → Heap → Prop), (exSome l_a fun ad => chk (decide ((0 : Int) ≤ n_1 ∧ n_1 < (↑l_n : Int))) (∃ n_2 n_3 s s_1 n_4, Ld Try.prog (33 : Nat) H' (Addr.add ad (Int.toNat n_1 * (5 :
  Nat))) (Value.agg { toList := [Value.int IntKind.i64 n_2, Value.int IntKind.i64 n_3, Value.string s, Value.string s_1, Value.int IntKind.u64 n_4] }) ∧ CallH Try.prog (18 : Nat) { toList :=
  [Value.pointer a_1, Value.agg { toList := [Value.int IntKind.i64 n_2, Value.int IntKind.i64 n_3, Value.string s, Value.string s_1, Value.int IntKind.u64 n_4] }] } H' fun v H' => v =
  Value.tuple ⟨[]⟩ ∧ exSome l_a fun ad => chk (decide ((0 : Int) ≤ n_1 ∧ n_1 < (↑l_n : Int))) (∃ n_5, Ld Try.prog (3 : Nat) H' (Addr.add ad (Int.toNat n_1 * (5 : Nat))) (Value.int IntKind.i64
  n_5) ∧ brB (n_5 != (4 : Int)) (M [Value.slice a_4 n c] H') (CallH Try.prog (24 : Nat) { toList := [Value.pointer a_1] } H' fun v H' => ∃ n_6, v = Value.int IntKind.i64 n_6 ∧ CallH Try.prog
  (25 : Nat) { toList := [Value.pointer a] } H' fun v H' => ∃ n_7, v = Value.int IntKind.i64 n_7 ∧ CallH Try.prog (19 : Nat) { toList := [Value.pointer a_1] } H' fun v H' => ∃ a_6 n_8 c_1, v =
  Value.slice a_6 n_8 c_1 ∧ CallH Try.prog (16 : Nat) { toList := [Value.pointer a_1] } H' fun v H' => ∃ n_9, v = Value.int IntKind.i64 n_9 ∧ brB (n_9 != (0 : Int)) (R (Value.bool false) H')
  (CallH Try.prog (21 : Nat) { toList := [Value.slice a_6 n_8 c_1, Value.slice a_4 n c] } H' fun v H' => ∃ b, v = Value.bool b ∧ CallH Try.prog (24 : Nat) { toList := [Value.pointer a_1] } H'
  fun v H' => ∃ n_10, v = Value.int IntKind.i64 n_10 ∧ brB (!b == (n_10 == n_6)) (R (Value.bool false) H') (CallH Try.prog (21 : Nat) { toList := [Value.slice a_6 n_8 c_1, Value.slice a_4 n c]
  } H' fun v H' => ∃ b, v = Value.bool b ∧ CallH Try.prog (25 : Nat) { toList := [Value.pointer a] } H' fun v H' => ∃ n, v = Value.int IntKind.i64 n ∧ brB (!b == (n == n_7)) (R (Value.bool
  false) H') (CallH Try.prog (24 : Nat) { toList := [Value.pointer a_1] } H' fun v H' => ∃ n, v = Value.int IntKind.i64 n ∧ brB (decide (n > IntKind.wrap IntKind.i64 (n_6 + (1 : Int)))) (R
  (Value.bool false) H') (M [Value.slice a_6 n_8 c_1] H')))))))) ∧ ∀ (J : F) (a : Option Addr) (n_2 c_1 : Nat) (H'_1 : Heap), M [Value.slice a n_2 c_1] H'_1 → I [Value.slice a n_2 c_1,
  Value.int IntKind.i64 (IntKind.wrap IntKind.i64 (n_1 + (1 : Int)))] H'_1 ∧ μ [Value.slice a n_2 c_1, Value.int IntKind.i64 (IntKind.wrap IntKind.i64 (n_1 + (1 : Int)))] H'_1 < μ [Value.slice
  a_4 n c, Value.int IntKind.i64 n_1] H') (R (Value.bool true) H')) : CallH Try.prog 6 (List.toArray [Value.int IntKind.u8 n, Value.slice l_a l_n l_c]) H R := vc_call (annOf [([1], .cut []),
  ([1, 1, 1, 1], .cut []), ([0, 1, 0, 1, 1, 1, 1, 1, 1], .cut [(8, .one .slice), (9, .one (.int .i64))]), ([1, 0, 0, 1, 0, 1, 1, 1, 1, 1, 1], .cut [(8, .one .slice)])]) followsAll
  Go.Proofs.Try.func6 rfl Go.Proofs.Try.ntmps6 rfl rfl (Eq.mpr (by kernel_rfl) h)

/- 7 strandline/strandlinelaw10.FilesCuts
  slots: [0=n, 1=l, 2=more, 3=at, 4=keep, 5=n, 6=l, 7=more, 8=at, 9=keep, 11=d, 12=s, 13=e, 14=i, 15=old, 16=i, 17=now, 18=f, 19=t, 20=g, 21=is]  -/
abbrev fn_law10_FilesCuts : Nat := 7
theorem vc_law10_FilesCuts (n : Int) (l_a : Option Addr) (l_n : Nat) (l_c : Nat) (more_a : Option Addr) (more_n : Nat) (more_c : Nat) (at' : Int) (keep : Int) (H : Heap) (R : Value → Heap →
  Prop) (h : ∃ (M : List Value → Heap → Prop), (CallH Try.prog (9 : Nat) { toList := [Value.slice l_a l_n l_c] } H fun v H' => ∃ b, v = Value.bool b ∧ brB b (CallH Try.prog (10 : Nat) ⟨[]⟩ H'
  fun v H' => ∃ b, v = Value.bool b ∧ R (Value.bool b) H') (CallH Try.prog (9 : Nat) { toList := [Value.slice more_a more_n more_c] } H' fun v H' => ∃ b, v = Value.bool b ∧ brB b (CallH
  Try.prog (10 : Nat) ⟨[]⟩ H' fun v H' => ∃ b, v = Value.bool b ∧ R (Value.bool b) H') (CallH Try.prog (10 : Nat) ⟨[]⟩ H' fun v H' => ∃ b, v = Value.bool b ∧ brB (!b) (CallH Try.prog (10 :
  Nat) ⟨[]⟩ H' fun v H' => ∃ b, v = Value.bool b ∧ R (Value.bool b) H') (M [] H')))) ∧ ∀ (J : F) (H' : Heap), M [] H' → CallH Try.prog (12 : Nat) { toList := [Value.int IntKind.i64
  (IntKind.wrap IntKind.i64 ((8 : Int) + Int.tmod (IntKind.wrap IntKind.i64 n) (40 : Int)))] } H' fun v H' => ∃ a, v = Value.pointer a ∧ CallH Try.prog (11 : Nat) { toList := [Value.pointer a]
  } H' fun v H' => ∃ a_1 n, v = Value.tuple { toList := [Value.pointer a_1, Value.int IntKind.i64 n] } ∧ ∃ (M : List Value → Heap → Prop), brB (n != (0 : Int)) (R (Value.bool false) H') (brB
  (Option.isNone a_1) (R (Value.bool false) H') (M [] H')) ∧ ∀ (J : F) (H' : Heap), M [] H' → ∃ (I : List Value → Heap → Prop) (μ : List Value → Heap → Nat), I [Value.int IntKind.i64 (0 :
  Int)] H' ∧ ∀ (J : F) (n : Int) (H' : Heap), I [Value.int IntKind.i64 n] H' → brB (decide (n < (↑l_n : Int))) (exSome l_a fun ad => chk (decide ((0 : Int) ≤ n ∧ n < (↑l_n : Int))) (∃ n_1 n_2
  s s_1 n_3, Ld Try.prog (33 : Nat) H' (Addr.add ad (Int.toNat n * (5 : Nat))) (Value.agg { toList := [Value.int IntKind.i64 n_1, Value.int IntKind.i64 n_2, Value.string s, Value.string s_1,
  Value.int IntKind.u64 n_3] }) ∧ CallH Try.prog (18 : Nat) { toList := [Value.pointer a_1, Value.agg { toList := [Value.int IntKind.i64 n_1, Value.int IntKind.i64 n_2, Value.string s,
  Value.string s_1, Value.int IntKind.u64 n_3] }] } H' fun v H'_1 => v = Value.tuple ⟨[]⟩ ∧ exSome l_a fun ad => chk (decide ((0 : Int) ≤ n ∧ n < (↑l_n : Int))) (∃ n_4, Ld Try.prog (3 : Nat)
  H'_1 (Addr.add ad (Int.toNat n * (5 : Nat))) (Value.int IntKind.i64 n_4) ∧ brB (n_4 == (4 : Int)) (CallH Try.prog (16 : Nat) { toList := [Value.pointer a_1] } H'_1 fun v H'_2 => ∃ n_5, v =
  Value.int IntKind.i64 n_5 ∧ brB (n_5 != (0 : Int)) (R (Value.bool false) H'_2) (I [Value.int IntKind.i64 (IntKind.wrap IntKind.i64 (n + (1 : Int)))] H'_2 ∧ μ [Value.int IntKind.i64
  (IntKind.wrap IntKind.i64 (n + (1 : Int)))] H'_2 < μ [Value.int IntKind.i64 n] H')) (I [Value.int IntKind.i64 (IntKind.wrap IntKind.i64 (n + (1 : Int)))] H'_1 ∧ μ [Value.int IntKind.i64
  (IntKind.wrap IntKind.i64 (n + (1 : Int)))] H'_1 < μ [Value.int IntKind.i64 n] H')))) (CallH Try.prog (16 : Nat) { toList := [Value.pointer a_1] } H' fun v H' => ∃ n, v = Value.int
  IntKind.i64 n ∧ brB (n != (0 : Int)) (R (Value.bool false) H') (CallH Try.prog (19 : Nat) { toList := [Value.pointer a_1] } H' fun v H' => ∃ a_4 n c, v = Value.slice a_4 n c ∧ ∃ (I : List
  Value → Heap → Prop) (μ : List Value → Heap → Nat), I [Value.int IntKind.i64 (0 : Int)] H' ∧ ∀ (J : F) (n_1 : Int) (H' : Heap), I [Value.int IntKind.i64 n_1] H' → brB (decide (n_1 < (↑more_n
  : Int))) (exSome more_a fun ad => chk (decide ((0 : Int) ≤ n_1 ∧ n_1 < (↑more_n : Int))) (∃ n n_2 s s_1 n_3, Ld Try.prog (33 : Nat) H' (Addr.add ad (Int.toNat n_1 * (5 : Nat))) (Value.agg {
  toList := [Value.int IntKind.i64 n, Value.int IntKind.i64 n_2, Value.string s, Value.string s_1, Value.int IntKind.u64 n_3] }) ∧ CallH Try.prog (18 : Nat) { toList := [Value.pointer a_1,
  Value.agg { toList := [Value.int IntKind.i64 n, Value.int IntKind.i64 n_2, Value.string s, Value.string s_1, Value.int IntKind.u64 n_3] }] } H' fun v H'_1 => v = Value.tuple ⟨[]⟩ ∧ I
  [Value.int IntKind.i64 (IntKind.wrap IntKind.i64 (n_1 + (1 : Int)))] H'_1 ∧ μ [Value.int IntKind.i64 (IntKind.wrap IntKind.i64 (n_1 + (1 : Int)))] H'_1 < μ [Value.int IntKind.i64 n_1] H'))
  (CallH Try.prog (19 : Nat) { toList := [Value.pointer a_1] } H' fun v H' => ∃ a_6 n_2 c_1, v = Value.slice a_6 n_2 c_1 ∧ CallH Try.prog (26 : Nat) { toList := [Value.pointer a, Value.int
  IntKind.i64 at', Value.int IntKind.u64 keep] } H' fun v H' => v = Value.tuple ⟨[]⟩ ∧ CallH Try.prog (16 : Nat) { toList := [Value.pointer a_1] } H' fun v H' => ∃ n_3, v = Value.int
  IntKind.i64 n_3 ∧ CallH Try.prog (22 : Nat) { toList := [Value.pointer a, Value.int IntKind.u64 keep] } H' fun v H' => v = Value.tuple ⟨[]⟩ ∧ CallH Try.prog (23 : Nat) { toList :=
  [Value.pointer a] } H' fun v H' => v = Value.tuple ⟨[]⟩ ∧ CallH Try.prog (11 : Nat) { toList := [Value.pointer a] } H' fun v H' => ∃ a n_4, v = Value.tuple { toList := [Value.pointer a,
  Value.int IntKind.i64 n_4] } ∧ ∃ (M : List Value → Heap → Prop), brB (n_4 != (0 : Int)) (R (Value.bool false) H') (brB (Option.isNone a) (R (Value.bool false) H') (brB (n_3 != (0 : Int))
  (brB (n_3 != (90 : Int)) (R (Value.bool false) H') (M [] H')) (M [] H'))) ∧ ∀ (J : F) (H' : Heap), M [] H' → CallH Try.prog (19 : Nat) { toList := [Value.pointer a] } H' fun v H' => ∃ a_8
  n_5 c_2, v = Value.slice a_8 n_5 c_2 ∧ ∃ (M : List Value → Heap → Prop), (CallH Try.prog (21 : Nat) { toList := [Value.slice a_8 n_5 c_2, Value.slice a_6 n_2 c_1] } H' fun v H' => ∃ b, v =
  Value.bool b ∧ brB (!b) (brB (n_3 == (0 : Int)) (R (Value.bool false) H') (CallH Try.prog (21 : Nat) { toList := [Value.slice a_8 n_5 c_2, Value.slice a_4 n c] } H' fun v H' => ∃ b, v =
  Value.bool b ∧ brB (!b) (R (Value.bool false) H') (M [] H'))) (M [] H')) ∧ ∀ (J : F) (H' : Heap), M [] H' → CallH Try.prog (16 : Nat) { toList := [Value.pointer a] } H' fun v H' => ∃ n, v =
  Value.int IntKind.i64 n ∧ brB (n == (0 : Int)) (CallH Try.prog (13 : Nat) { toList := [Value.pointer a, Value.string { data := #[(122 : UInt8)] }, Value.string { data := #[] }] } H' fun v H'
  => ∃ n, v = Value.int IntKind.i64 n ∧ R (Value.bool (n != (90 : Int))) H') (R (Value.bool false) H'))))) : CallH Try.prog 7 (List.toArray [Value.int IntKind.u8 n, Value.slice l_a l_n l_c,
  Value.slice more_a more_n more_c, Value.int IntKind.i64 at', Value.int IntKind.u64 keep]) H R := vc_call (annOf [([1], .cut []), ([1, 1, 1, 1], .cut []), ([0, 1, 0, 1, 1, 1, 1, 1], .cut
  [(14, .one (.int .i64))]), ([0, 1, 0, 1, 1, 1, 1, 1, 1, 1, 1], .cut [(16, .one (.int .i64))]), ([1, 1, 1, 1, 1, 1, 1, 1, 1, 1, 1, 1, 1, 1, 1], .cut []), ([1, 1, 1, 1, 1, 1, 1, 1, 1, 1, 1, 1,
  1, 1, 1, 1, 1], .cut [])]) followsAll Go.Proofs.Try.func7 rfl Go.Proofs.Try.ntmps7 rfl rfl (Eq.mpr (by kernel_rfl) h)

/- 8 strandline/strandlinelaw10.FilesRoom
  slots: [0=n, 1=l, 2=n, 3=l, 5=d, 6=s, 7=_, 8=i, 9=o, 10=was, 11=free, 12=e]  -/
abbrev fn_law10_FilesRoom : Nat := 8
theorem vc_law10_FilesRoom (n : Int) (l_a : Option Addr) (l_n : Nat) (l_c : Nat) (H : Heap) (R : Value → Heap → Prop) (h : ∃ (M : List Value → Heap → Prop), (CallH Try.prog (9 : Nat) {
  toList := [Value.slice l_a l_n l_c] } H fun v H' => ∃ b, v = Value.bool b ∧ brB b (CallH Try.prog (10 : Nat) ⟨[]⟩ H' fun v H' => ∃ b, v = Value.bool b ∧ R (Value.bool b) H') (CallH Try.prog
  (10 : Nat) ⟨[]⟩ H' fun v H' => ∃ b, v = Value.bool b ∧ brB (!b) (CallH Try.prog (10 : Nat) ⟨[]⟩ H' fun v H' => ∃ b, v = Value.bool b ∧ R (Value.bool b) H') (M [] H'))) ∧ ∀ (J : F) (H' :
  Heap), M [] H' → CallH Try.prog (12 : Nat) { toList := [Value.int IntKind.i64 (IntKind.wrap IntKind.i64 ((8 : Int) + Int.tmod (IntKind.wrap IntKind.i64 n) (40 : Int)))] } H' fun v H' => ∃ a,
  v = Value.pointer a ∧ CallH Try.prog (11 : Nat) { toList := [Value.pointer a] } H' fun v H' => ∃ a n, v = Value.tuple { toList := [Value.pointer a, Value.int IntKind.i64 n] } ∧ ∃ (I : List
  Value → Heap → Prop) (μ : List Value → Heap → Nat), I [Value.int IntKind.i64 (0 : Int)] H' ∧ ∀ (J : F) (n : Int) (H' : Heap), I [Value.int IntKind.i64 n] H' → brB (decide (n < (↑l_n : Int)))
  (∃ (M : List Value → Heap → Prop), (exSome l_a fun ad => chk (decide ((0 : Int) ≤ n ∧ n < (↑l_n : Int))) (∃ n_1 n_2 s s_1 n_3, Ld Try.prog (33 : Nat) H' (Addr.add ad (Int.toNat n * (5 :
  Nat))) (Value.agg { toList := [Value.int IntKind.i64 n_1, Value.int IntKind.i64 n_2, Value.string s, Value.string s_1, Value.int IntKind.u64 n_3] }) ∧ ∀ (b : Nat) (H'_1 : Heap), New H' b
  (Obj.cells { toList := [Value.int IntKind.i64 (0 : Int), Value.int IntKind.i64 (0 : Int), Value.string { data := #[] }, Value.string { data := #[] }, Value.int IntKind.u64 (0 : Int)] } (33 :
  Nat)) H'_1 → ∃ H', St Try.prog (33 : Nat) H'_1 ⟨b, (0 : Nat), none⟩ (Value.agg { toList := [Value.int IntKind.i64 n_1, Value.int IntKind.i64 n_2, Value.string s, Value.string s_1, Value.int
  IntKind.u64 n_3] }) H' ∧ CallH Try.prog (19 : Nat) { toList := [Value.pointer a] } H' fun v H' => ∃ a_3 n c, v = Value.slice a_3 n c ∧ CallH Try.prog (27 : Nat) { toList := [Value.pointer a]
  } H' fun v H' => ∃ n_4, v = Value.int IntKind.i64 n_4 ∧ ∃ (M_1 : List Value → Heap → Prop), (∃ n, Ld Try.prog (3 : Nat) H' ⟨b, (0 : Nat), none⟩ (Value.int IntKind.i64 n) ∧ brB (n == (0 :
  Int)) (∃ s, Ld Try.prog (9 : Nat) H' ⟨b, (2 : Nat), none⟩ (Value.string s) ∧ ∃ s_2, Ld Try.prog (9 : Nat) H' ⟨b, (3 : Nat), none⟩ (Value.string s_2) ∧ CallH Try.prog (13 : Nat) { toList :=
  [Value.pointer a, Value.string s, Value.string s_2] } H' fun v H' => ∃ n, v = Value.int IntKind.i64 n ∧ M_1 [Value.int IntKind.i64 n] H') (brB (n == (1 : Int)) (∃ s, Ld Try.prog (9 : Nat) H'
  ⟨b, (2 : Nat), none⟩ (Value.string s) ∧ ∃ s_2, Ld Try.prog (9 : Nat) H' ⟨b, (3 : Nat), none⟩ (Value.string s_2) ∧ CallH Try.prog (14 : Nat) { toList := [Value.pointer a, Value.string s,
  Value.string s_2] } H' fun v H' => ∃ n, v = Value.int IntKind.i64 n ∧ M_1 [Value.int IntKind.i64 n] H') (brB (n == (2 : Int)) (∃ s, Ld Try.prog (9 : Nat) H' ⟨b, (2 : Nat), none⟩
  (Value.string s) ∧ CallH Try.prog (15 : Nat) { toList := [Value.pointer a, Value.string s] } H' fun v H' => ∃ n, v = Value.int IntKind.i64 n ∧ M_1 [Value.int IntKind.i64 n] H') (brB (n == (3
  : Int)) (∃ s, Ld Try.prog (9 : Nat) H' ⟨b, (2 : Nat), none⟩ (Value.string s) ∧ ∃ s_2, Ld Try.prog (9 : Nat) H' ⟨b, (3 : Nat), none⟩ (Value.string s_2) ∧ CallH Try.prog (20 : Nat) { toList :=
  [Value.pointer a, Value.string s, Value.string s_2] } H' fun v H' => ∃ n, v = Value.int IntKind.i64 n ∧ M_1 [Value.int IntKind.i64 n] H') (brB (n == (4 : Int)) (CallH Try.prog (16 : Nat) {
  toList := [Value.pointer a] } H' fun v H' => ∃ n, v = Value.int IntKind.i64 n ∧ brB (n != (0 : Int)) (R (Value.bool false) H') (M_1 [Value.int IntKind.i64 (0 : Int)] H')) (M_1 [Value.int
  IntKind.i64 (0 : Int)] H')))))) ∧ ∀ (J : F) (n_5 : Int) (H' : Heap), M_1 [Value.int IntKind.i64 n_5] H' → brB (n_5 != (0 : Int)) (CallH Try.prog (19 : Nat) { toList := [Value.pointer a] } H'
  fun v H' => ∃ a_5 n_6 c_1, v = Value.slice a_5 n_6 c_1 ∧ CallH Try.prog (21 : Nat) { toList := [Value.slice a_5 n_6 c_1, Value.slice a_3 n c] } H' fun v H' => ∃ b, v = Value.bool b ∧ brB
  (!b) (R (Value.bool false) H') (CallH Try.prog (27 : Nat) { toList := [Value.pointer a] } H' fun v H' => ∃ n, v = Value.int IntKind.i64 n ∧ brB (n != n_4) (R (Value.bool false) H') (CallH
  Try.prog (27 : Nat) { toList := [Value.pointer a] } H' fun v H' => ∃ n, v = Value.int IntKind.i64 n ∧ brB (decide (n < (0 : Int))) (R (Value.bool false) H') (M [] H')))) (CallH Try.prog (27
  : Nat) { toList := [Value.pointer a] } H' fun v H' => ∃ n, v = Value.int IntKind.i64 n ∧ brB (decide (n < (0 : Int))) (R (Value.bool false) H') (M [] H')))) ∧ ∀ (J : F) (H'_1 : Heap), M []
  H'_1 → I [Value.int IntKind.i64 (IntKind.wrap IntKind.i64 (n + (1 : Int)))] H'_1 ∧ μ [Value.int IntKind.i64 (IntKind.wrap IntKind.i64 (n + (1 : Int)))] H'_1 < μ [Value.int IntKind.i64 n] H')
  (CallH Try.prog (16 : Nat) { toList := [Value.pointer a] } H' fun v H' => ∃ n, v = Value.int IntKind.i64 n ∧ R (Value.bool (n == (0 : Int))) H')) : CallH Try.prog 8 (List.toArray [Value.int
  IntKind.u8 n, Value.slice l_a l_n l_c]) H R := vc_call (annOf [([1], .cut []), ([0, 1, 0, 1, 1, 1, 1], .cut [(8, .one (.int .i64))]), ([1, 0, 0, 1, 0, 1, 1, 1, 1], .cut []), ([1, 1, 1, 1, 0,
  0, 1, 0, 0, 1, 0, 1, 1, 1, 1], .cut [(12, .one (.int .i64))])]) followsAll Go.Proofs.Try.func8 rfl Go.Proofs.Try.ntmps8 rfl rfl (Eq.mpr (by kernel_rfl) h)

/- 9 strandline/strandlinelaw10.heavy
  slots: [0=l, 1=l, 3=n, 4=i]  -/
abbrev fn_law10_heavy : Nat := 9
theorem vc_law10_heavy (l_a : Option Addr) (l_n : Nat) (l_c : Nat) (H : Heap) (R : Value → Heap → Prop) (h : ∃ (I : List Value → Heap → Prop) (μ : List Value → Heap → Nat), I [Value.int
  IntKind.i64 (if (1048576 : Int) < (↑l_n : Int) then (1048576 : Int) else (↑l_n : Int)), Value.int IntKind.i64 (0 : Int)] H ∧ ∀ (J : F) (n n_1 : Int) (H' : Heap), I [Value.int IntKind.i64 n,
  Value.int IntKind.i64 n_1] H' → ∃ (M : List Value → Heap → Prop), brB (decide (n_1 < (↑l_n : Int))) (brB (decide (n ≤ (8192 : Int))) (M [] H') (brB (decide (n > (8192 : Int))) (R (Value.bool
  true) H') (R (Value.bool (decide ((↑l_n : Int) > (60 : Int)))) H'))) (brB (decide (n > (8192 : Int))) (R (Value.bool true) H') (R (Value.bool (decide ((↑l_n : Int) > (60 : Int)))) H')) ∧ ∀
  (J : F) (H'_1 : Heap), M [] H'_1 → exSome l_a fun ad => chk (decide ((0 : Int) ≤ n_1 ∧ n_1 < (↑l_n : Int))) (∃ s, Ld Try.prog (9 : Nat) H'_1 (Addr.add (Addr.add ad (Int.toNat n_1 * (5 :
  Nat))) (3 : Nat)) (Value.string s) ∧ exSome l_a fun ad => chk (decide ((0 : Int) ≤ n_1 ∧ n_1 < (↑l_n : Int))) (∃ s_1, Ld Try.prog (9 : Nat) H'_1 (Addr.add (Addr.add ad (Int.toNat n_1 * (5 :
  Nat))) (2 : Nat)) (Value.string s_1) ∧ I [Value.int IntKind.i64 (IntKind.wrap IntKind.i64 (n + IntKind.wrap IntKind.i64 ((if (1048576 : Int) < (↑(ByteArray.size s) : Int) then (1048576 :
  Int) else (↑(ByteArray.size s) : Int)) + if (1048576 : Int) < (↑(ByteArray.size s_1) : Int) then (1048576 : Int) else (↑(ByteArray.size s_1) : Int)))), Value.int IntKind.i64 (IntKind.wrap
  IntKind.i64 (n_1 + (1 : Int)))] H'_1 ∧ μ [Value.int IntKind.i64 (IntKind.wrap IntKind.i64 (n + IntKind.wrap IntKind.i64 ((if (1048576 : Int) < (↑(ByteArray.size s) : Int) then (1048576 :
  Int) else (↑(ByteArray.size s) : Int)) + if (1048576 : Int) < (↑(ByteArray.size s_1) : Int) then (1048576 : Int) else (↑(ByteArray.size s_1) : Int)))), Value.int IntKind.i64 (IntKind.wrap
  IntKind.i64 (n_1 + (1 : Int)))] H'_1 < μ [Value.int IntKind.i64 n, Value.int IntKind.i64 n_1] H'))) : CallH Try.prog 9 (List.toArray [Value.slice l_a l_n l_c]) H R := vc_call (annOf [([0, 1,
  0, 1, 1], .cut [(3, .one (.int .i64)), (4, .one (.int .i64))]), ([0, 0, 1, 0, 1, 1], .cut [])]) followsAll Go.Proofs.Try.func9 rfl Go.Proofs.Try.ntmps9 rfl rfl (Eq.mpr (by kernel_rfl) h)

/- 10 strandline/strandlinelaw10.shown
  slots: [1=s, 2=e, 3=t, 4=is]  -/
abbrev fn_law10_shown : Nat := 10
theorem vc_law10_shown (H : Heap) (R : Value → Heap → Prop) (h : CallH Try.prog (12 : Nat) { toList := [Value.int IntKind.i64 (8 : Int)] } H fun v H' => ∃ a, v = Value.pointer a ∧ CallH
  Try.prog (11 : Nat) { toList := [Value.pointer a] } H' fun v H' => ∃ a n, v = Value.tuple { toList := [Value.pointer a, Value.int IntKind.i64 n] } ∧ ∃ (M : List Value → Heap → Prop), brB (n
  != (0 : Int)) (R (Value.bool false) H') (brB (Option.isNone a) (R (Value.bool false) H') (CallH Try.prog (13 : Nat) { toList := [Value.pointer a, Value.string { data := #[(97 : UInt8)] },
  Value.string { data := #[(120 : UInt8)] }] } H' fun v H' => ∃ n, v = Value.int IntKind.i64 n ∧ brB (n != (0 : Int)) (R (Value.bool false) H') (CallH Try.prog (16 : Nat) { toList :=
  [Value.pointer a] } H' fun v H' => ∃ n, v = Value.int IntKind.i64 n ∧ brB (n != (0 : Int)) (R (Value.bool false) H') (CallH Try.prog (24 : Nat) { toList := [Value.pointer a] } H' fun v H' =>
  ∃ n, v = Value.int IntKind.i64 n ∧ brB (n != (1 : Int)) (R (Value.bool false) H') (M [] H'))))) ∧ ∀ (J : F) (H' : Heap), M [] H' → CallH Try.prog (17 : Nat) { toList := [Value.pointer a,
  Value.string { data := #[(97 : UInt8)] }] } H' fun v H' => ∃ s b, v = Value.tuple { toList := [Value.string s, Value.bool b] } ∧ brB (ByteArray.toList s == ByteArray.toList { data := #[(120
  : UInt8)] }) (R (Value.bool b) H') (R (Value.bool false) H')) : CallH Try.prog 10 (List.toArray []) H R := vc_call (annOf [([1, 1], .cut [])]) followsAll Go.Proofs.Try.func10 rfl
  Go.Proofs.Try.ntmps10 rfl rfl (Eq.mpr (by kernel_rfl) h)

/- 11 strandline/files.Open
  slots: [0=d, 1=d, 4=s, 5=slot, 6=gen, 7=files, 8=dir, 9=name, 10=k]  -/
abbrev fn_files_Open : Nat := 11
theorem vc_files_Open (d : Addr) (H : Heap) (R : Value → Heap → Prop) (h : CallH Try.prog (28 : Nat) { toList := [Value.pointer (some d)] } H fun v H' => ∃ b, v = Value.bool b ∧ brB b (R
  (Value.tuple { toList := [Value.pointer none, Value.int IntKind.i64 (90 : Int)] }) H') (∀ (b : Nat) (H'_1 : Heap), New H' b (Obj.map ⟨[]⟩ (0 : Nat)) H'_1 → ∀ (b_1 : Nat) (H' : Heap), New
  H'_1 b_1 (Obj.map ⟨[]⟩ (0 : Nat)) H' → ∀ (b_2 : Nat) (H'_2 : Heap), New H' b_2 (Obj.cells { toList := [Value.pointer (some d), Value.map (some b), Value.map (some b_1), Value.slice none (0 :
  Nat) (0 : Nat), Value.int IntKind.i64 (0 : Int), Value.bool false] } (55 : Nat)) H'_2 → ∃ (I : List Value → Heap → Prop) (μ : List Value → Heap → Nat), I [Value.int IntKind.i64 (0 : Int)]
  H'_2 ∧ ∀ (J : F) (n : Int) (H' : Heap), I [Value.int IntKind.i64 n] H' → brB (decide (n < (2 : Int))) (CallH Try.prog (29 : Nat) { toList := [Value.pointer (some d), Value.int IntKind.i64 n]
  } H' fun v H'_3 => ∃ n_1 r a n_2 c, v = Value.tuple { toList := [Value.int IntKind.i64 n_1, Value.map r, Value.slice a n_2 c] } ∧ ∃ n_3, Ld Try.prog (3 : Nat) H'_3 ⟨b_2, (4 : Nat), none⟩
  (Value.int IntKind.i64 n_3) ∧ brB (decide (n_1 > n_3)) (∃ H'_4, St Try.prog (3 : Nat) H'_3 ⟨b_2, (4 : Nat), none⟩ (Value.int IntKind.i64 n_1) H'_4 ∧ ∃ H'_5, St Try.prog (52 : Nat) H'_4 ⟨b_2,
  (2 : Nat), none⟩ (Value.map r) H'_5 ∧ ∃ H'_6, St Try.prog (53 : Nat) H'_5 ⟨b_2, (3 : Nat), none⟩ (Value.slice a n_2 c) H'_6 ∧ I [Value.int IntKind.i64 (IntKind.wrap IntKind.i64 (n + (1 :
  Int)))] H'_6 ∧ μ [Value.int IntKind.i64 (IntKind.wrap IntKind.i64 (n + (1 : Int)))] H'_6 < μ [Value.int IntKind.i64 n] H') (I [Value.int IntKind.i64 (IntKind.wrap IntKind.i64 (n + (1 :
  Int)))] H'_3 ∧ μ [Value.int IntKind.i64 (IntKind.wrap IntKind.i64 (n + (1 : Int)))] H'_3 < μ [Value.int IntKind.i64 n] H')) (∃ r, Ld Try.prog (52 : Nat) H' ⟨b_2, (2 : Nat), none⟩ (Value.map
  r) ∧ SemWp Try.prog (Instr.range (52 : Nat) (Value.map r)) H' fun v H' => ∃ a, v = Value.pointer a ∧ ∃ (I : List Value → Heap → Prop) (μ : List Value → Heap → Nat), I [] H' ∧ ∀ (J : F) (H' :
  Heap), I [] H' → SemWp Try.prog (Instr.next (Value.pointer a) false (0 : Nat)) H' fun v H'_3 => v = Value.tuple { toList := [Value.bool false] } ∧ R (Value.tuple { toList := [Value.pointer
  (some ⟨b_2, (0 : Nat), none⟩), Value.int IntKind.i64 (0 : Int)] }) H'_3 ∨ ∃ k x, v = Value.tuple { toList := [Value.bool true, k, x] } ∧ SemWp Try.prog (Instr.entry (Value.pointer a)) H'_3
  fun v H'_4 => ∃ k x, v = Value.tuple { toList := [k, x] } ∧ ∃ s, k = Value.string s ∧ ∃ s_1 a n c, x = Value.agg { toList := [Value.string s_1, Value.slice a n c] } ∧ ∀ (b : Nat) (H'_5 :
  Heap), New H'_4 b (Obj.cells { toList := [Value.string { data := #[] }, Value.slice none (0 : Nat) (0 : Nat)] } (59 : Nat)) H'_5 → ∃ H'_6, St Try.prog (59 : Nat) H'_5 ⟨b, (0 : Nat), none⟩
  (Value.agg { toList := [Value.string s_1, Value.slice a n c] }) H'_6 ∧ ∃ r, Ld Try.prog (51 : Nat) H'_6 ⟨b_2, (1 : Nat), none⟩ (Value.map r) ∧ ∃ s_2, Ld Try.prog (9 : Nat) H'_6 ⟨b, (0 :
  Nat), none⟩ (Value.string s_2) ∧ SemU Try.prog (Instr.mapUpdate (51 : Nat) (Value.map r) (Value.string s) (Value.string s_2)) H'_6 fun H'_7 => I [] H'_7 ∧ μ [] H'_7 < μ [] H'))) : CallH
  Try.prog 11 (List.toArray [Value.pointer (some d)]) H R := vc_call (annOf [([0, 1, 0, 1, 1, 1], .cut [(18, .one (.int .i64))]), ([0, 1, 0, 1, 1, 1, 1], .cut []), ([0, 0, 1, 1, 0, 0, 1, 0, 1,
  1, 1, 1], .ext), ([1, 0, 1, 1, 0, 0, 1, 0, 1, 1, 1, 1], .tail 7)]) followsAll Go.Proofs.Try.func11 rfl Go.Proofs.Try.ntmps11 rfl rfl (Eq.mpr (by kernel_rfl) h)

/- 12 strandline/block.New
  slots: [0=n, 1=n]  -/
abbrev fn_block_New : Nat := 12
theorem vc_block_New (n : Int) (H : Heap) (R : Value → Heap → Prop) (h : ∀ (b : Nat) (H' : Heap), New H b (Obj.map ⟨[]⟩ (0 : Nat)) H' → ∀ (b_1 : Nat) (H'_1 : Heap), New H' b_1 (Obj.cells {
  toList := [Value.int IntKind.i64 (if (if (512 : Int) < n then (512 : Int) else n) > (8 : Int) then if (512 : Int) < n then (512 : Int) else n else (8 : Int)), Value.string { data := #[] },
  Value.string { data := #[] }, Value.string { data := #[] }, Value.string { data := #[] }, Value.string { data := #[] }, Value.string { data := #[] }, Value.string { data := #[] },
  Value.string { data := #[] }, Value.string { data := #[] }, Value.string { data := #[] }, Value.string { data := #[] }, Value.string { data := #[] }, Value.string { data := #[] },
  Value.string { data := #[] }, Value.string { data := #[] }, Value.string { data := #[] }, Value.string { data := #[] }, Value.string { data := #[] }, Value.string { data := #[] },
  Value.string { data := #[] }, Value.string { data := #[] }, Value.string { data := #[] }, Value.string { data := #[] }, Value.string { data := #[] }, Value.string { data := #[] },
  Value.string { data := #[] }, Value.string { data := #[] }, Value.string { data := #[] }, Value.string { data := #[] }, Value.string { data := #[] }, Value.string { data := #[] },
  Value.string { data := #[] }, Value.string { data := #[] }, Value.string { data := #[] }, Value.string { data := #[] }, Value.string { data := #[] }, Value.string { data := #[] },
  Value.string { data := #[] }, Value.string { data := #[] }, Value.string { data := #[] }, Value.string { data := #[] }, Value.string { data := #[] }, Value.string { data := #[] },
  Value.string { data := #[] }, Value.string { data := #[] }, Value.string { data := #[] }, Value.string { data := #[] }, Value.string { data := #[] }, Value.string { data := #[] },
  Value.string { data := #[] }, Value.string { data := #[] }, Value.string { data := #[] }, Value.string { data := #[] }, Value.string { data := #[] }, Value.string { data := #[] },
  Value.string { data := #[] }, Value.string { data := #[] }, Value.string { data := #[] }, Value.string { data := #[] }, Value.string { data := #[] }, Value.string { data := #[] },
  Value.string { data := #[] }, Value.string { data := #[] }, Value.string { data := #[] }, Value.string { data := #[] }, Value.string { data := #[] }, Value.string { data := #[] },
  Value.string { data := #[] }, Value.string { data := #[] }, Value.string { data := #[] }, Value.string { data := #[] }, Value.string { data := #[] }, Value.string { data := #[] },
  Value.string { data := #[] }, Value.string { data := #[] }, Value.string { data := #[] }, Value.string { data := #[] }, Value.string { data := #[] }, Value.string { data := #[] },
  Value.string { data := #[] }, Value.string { data := #[] }, Value.string { data := #[] }, Value.string { data := #[] }, Value.string { data := #[] }, Value.string { data := #[] },
  Value.string { data := #[] }, Value.string { data := #[] }, Value.string { data := #[] }, Value.string { data := #[] }, Value.string { data := #[] }, Value.string { data := #[] },
  Value.string { data := #[] }, Value.string { data := #[] }, Value.string { data := #[] }, Value.string { data := #[] }, Value.string { data := #[] }, Value.string { data := #[] },
  Value.string { data := #[] }, Value.string { data := #[] }, Value.string { data := #[] }, Value.string { data := #[] }, Value.string { data := #[] }, Value.string { data := #[] },
  Value.string { data := #[] }, Value.string { data := #[] }, Value.string { data := #[] }, Value.string { data := #[] }, Value.string { data := #[] }, Value.string { data := #[] },
  Value.string { data := #[] }, Value.string { data := #[] }, Value.string { data := #[] }, Value.string { data := #[] }, Value.string { data := #[] }, Value.string { data := #[] },
  Value.string { data := #[] }, Value.string { data := #[] }, Value.string { data := #[] }, Value.string { data := #[] }, Value.string { data := #[] }, Value.string { data := #[] },
  Value.string { data := #[] }, Value.string { data := #[] }, Value.string { data := #[] }, Value.string { data := #[] }, Value.string { data := #[] }, Value.string { data := #[] },
  Value.string { data := #[] }, Value.string { data := #[] }, Value.string { data := #[] }, Value.string { data := #[] }, Value.string { data := #[] }, Value.string { data := #[] },
  Value.string { data := #[] }, Value.string { data := #[] }, Value.string { data := #[] }, Value.string { data := #[] }, Value.string { data := #[] }, Value.string { data := #[] },
  Value.string { data := #[] }, Value.string { data := #[] }, Value.string { data := #[] }, Value.string { data := #[] }, Value.string { data := #[] }, Value.string { data := #[] },
  Value.string { data := #[] }, Value.string { data := #[] }, Value.string { data := #[] }, Value.string { data := #[] }, Value.string { data := #[] }, Value.string { data := #[] },
  Value.string { data := #[] }, Value.string { data := #[] }, Value.string { data := #[] }, Value.string { data := #[] }, Value.string { data := #[] }, Value.string { data := #[] },
  Value.string { data := #[] }, Value.string { data := #[] }, Value.string { data := #[] }, Value.string { data := #[] }, Value.string { data := #[] }, Value.string { data := #[] },
  Value.string { data := #[] }, Value.string { data := #[] }, Value.string { data := #[] }, Value.string { data := #[] }, Value.string { data := #[] }, Value.string { data := #[] },
  Value.string { data := #[] }, Value.string { data := #[] }, Value.string { data := #[] }, Value.string { data := #[] }, Value.string { data := #[] }, Value.string { data := #[] },
  Value.string { data := #[] }, Value.string { data := #[] }, Value.string { data := #[] }, Value.string { data := #[] }, Value.string { data := #[] }, Value.string { data := #[] },
  Value.string { data := #[] }, Value.string { data := #[] }, Value.string { data := #[] }, Value.string { data := #[] }, Value.string { data := #[] }, Value.string { data := #[] },
  Value.string { data := #[] }, Value.string { data := #[] }, Value.string { data := #[] }, Value.string { data := #[] }, Value.string { data := #[] }, Value.string { data := #[] },
  Value.string { data := #[] }, Value.string { data := #[] }, Value.string { data := #[] }, Value.string { data := #[] }, Value.string { data := #[] }, Value.string { data := #[] },
  Value.string { data := #[] }, Value.string { data := #[] }, Value.string { data := #[] }, Value.string { data := #[] }, Value.string { data := #[] }, Value.string { data := #[] },
  Value.string { data := #[] }, Value.string { data := #[] }, Value.string { data := #[] }, Value.string { data := #[] }, Value.string { data := #[] }, Value.string { data := #[] },
  Value.string { data := #[] }, Value.string { data := #[] }, Value.string { data := #[] }, Value.string { data := #[] }, Value.string { data := #[] }, Value.string { data := #[] },
  Value.string { data := #[] }, Value.string { data := #[] }, Value.string { data := #[] }, Value.string { data := #[] }, Value.string { data := #[] }, Value.string { data := #[] },
  Value.string { data := #[] }, Value.string { data := #[] }, Value.string { data := #[] }, Value.string { data := #[] }, Value.string { data := #[] }, Value.string { data := #[] },
  Value.string { data := #[] }, Value.string { data := #[] }, Value.string { data := #[] }, Value.string { data := #[] }, Value.string { data := #[] }, Value.string { data := #[] },
  Value.string { data := #[] }, Value.string { data := #[] }, Value.string { data := #[] }, Value.string { data := #[] }, Value.string { data := #[] }, Value.string { data := #[] },
  Value.string { data := #[] }, Value.string { data := #[] }, Value.string { data := #[] }, Value.string { data := #[] }, Value.string { data := #[] }, Value.string { data := #[] },
  Value.string { data := #[] }, Value.string { data := #[] }, Value.string { data := #[] }, Value.string { data := #[] }, Value.string { data := #[] }, Value.string { data := #[] },
  Value.string { data := #[] }, Value.string { data := #[] }, Value.string { data := #[] }, Value.string { data := #[] }, Value.string { data := #[] }, Value.string { data := #[] },
  Value.string { data := #[] }, Value.string { data := #[] }, Value.string { data := #[] }, Value.string { data := #[] }, Value.string { data := #[] }, Value.string { data := #[] },
  Value.string { data := #[] }, Value.string { data := #[] }, Value.string { data := #[] }, Value.string { data := #[] }, Value.string { data := #[] }, Value.string { data := #[] },
  Value.string { data := #[] }, Value.string { data := #[] }, Value.string { data := #[] }, Value.string { data := #[] }, Value.string { data := #[] }, Value.string { data := #[] },
  Value.string { data := #[] }, Value.string { data := #[] }, Value.string { data := #[] }, Value.string { data := #[] }, Value.string { data := #[] }, Value.string { data := #[] },
  Value.string { data := #[] }, Value.string { data := #[] }, Value.string { data := #[] }, Value.string { data := #[] }, Value.string { data := #[] }, Value.string { data := #[] },
  Value.string { data := #[] }, Value.string { data := #[] }, Value.string { data := #[] }, Value.string { data := #[] }, Value.string { data := #[] }, Value.string { data := #[] },
  Value.string { data := #[] }, Value.string { data := #[] }, Value.string { data := #[] }, Value.string { data := #[] }, Value.string { data := #[] }, Value.string { data := #[] },
  Value.string { data := #[] }, Value.string { data := #[] }, Value.string { data := #[] }, Value.string { data := #[] }, Value.string { data := #[] }, Value.string { data := #[] },
  Value.string { data := #[] }, Value.string { data := #[] }, Value.string { data := #[] }, Value.string { data := #[] }, Value.string { data := #[] }, Value.string { data := #[] },
  Value.string { data := #[] }, Value.string { data := #[] }, Value.string { data := #[] }, Value.string { data := #[] }, Value.string { data := #[] }, Value.string { data := #[] },
  Value.string { data := #[] }, Value.string { data := #[] }, Value.string { data := #[] }, Value.string { data := #[] }, Value.string { data := #[] }, Value.string { data := #[] },
  Value.string { data := #[] }, Value.string { data := #[] }, Value.string { data := #[] }, Value.string { data := #[] }, Value.string { data := #[] }, Value.string { data := #[] },
  Value.string { data := #[] }, Value.string { data := #[] }, Value.string { data := #[] }, Value.string { data := #[] }, Value.string { data := #[] }, Value.string { data := #[] },
  Value.string { data := #[] }, Value.string { data := #[] }, Value.string { data := #[] }, Value.string { data := #[] }, Value.string { data := #[] }, Value.string { data := #[] },
  Value.string { data := #[] }, Value.string { data := #[] }, Value.string { data := #[] }, Value.string { data := #[] }, Value.string { data := #[] }, Value.string { data := #[] },
  Value.string { data := #[] }, Value.string { data := #[] }, Value.string { data := #[] }, Value.string { data := #[] }, Value.string { data := #[] }, Value.string { data := #[] },
  Value.string { data := #[] }, Value.string { data := #[] }, Value.string { data := #[] }, Value.string { data := #[] }, Value.string { data := #[] }, Value.string { data := #[] },
  Value.string { data := #[] }, Value.string { data := #[] }, Value.string { data := #[] }, Value.string { data := #[] }, Value.string { data := #[] }, Value.string { data := #[] },
  Value.string { data := #[] }, Value.string { data := #[] }, Value.string { data := #[] }, Value.string { data := #[] }, Value.string { data := #[] }, Value.string { data := #[] },
  Value.string { data := #[] }, Value.string { data := #[] }, Value.string { data := #[] }, Value.string { data := #[] }, Value.string { data := #[] }, Value.string { data := #[] },
  Value.string { data := #[] }, Value.string { data := #[] }, Value.string { data := #[] }, Value.string { data := #[] }, Value.string { data := #[] }, Value.string { data := #[] },
  Value.string { data := #[] }, Value.string { data := #[] }, Value.string { data := #[] }, Value.string { data := #[] }, Value.string { data := #[] }, Value.string { data := #[] },
  Value.string { data := #[] }, Value.string { data := #[] }, Value.string { data := #[] }, Value.string { data := #[] }, Value.string { data := #[] }, Value.string { data := #[] },
  Value.string { data := #[] }, Value.string { data := #[] }, Value.string { data := #[] }, Value.string { data := #[] }, Value.string { data := #[] }, Value.string { data := #[] },
  Value.string { data := #[] }, Value.string { data := #[] }, Value.string { data := #[] }, Value.string { data := #[] }, Value.string { data := #[] }, Value.string { data := #[] },
  Value.string { data := #[] }, Value.string { data := #[] }, Value.string { data := #[] }, Value.string { data := #[] }, Value.string { data := #[] }, Value.string { data := #[] },
  Value.string { data := #[] }, Value.string { data := #[] }, Value.string { data := #[] }, Value.string { data := #[] }, Value.string { data := #[] }, Value.string { data := #[] },
  Value.string { data := #[] }, Value.string { data := #[] }, Value.string { data := #[] }, Value.string { data := #[] }, Value.string { data := #[] }, Value.string { data := #[] },
  Value.string { data := #[] }, Value.string { data := #[] }, Value.string { data := #[] }, Value.string { data := #[] }, Value.string { data := #[] }, Value.string { data := #[] },
  Value.string { data := #[] }, Value.string { data := #[] }, Value.string { data := #[] }, Value.string { data := #[] }, Value.string { data := #[] }, Value.string { data := #[] },
  Value.string { data := #[] }, Value.string { data := #[] }, Value.string { data := #[] }, Value.string { data := #[] }, Value.string { data := #[] }, Value.string { data := #[] },
  Value.string { data := #[] }, Value.string { data := #[] }, Value.string { data := #[] }, Value.string { data := #[] }, Value.string { data := #[] }, Value.string { data := #[] },
  Value.string { data := #[] }, Value.string { data := #[] }, Value.string { data := #[] }, Value.string { data := #[] }, Value.string { data := #[] }, Value.string { data := #[] },
  Value.string { data := #[] }, Value.string { data := #[] }, Value.string { data := #[] }, Value.string { data := #[] }, Value.string { data := #[] }, Value.string { data := #[] },
  Value.string { data := #[] }, Value.string { data := #[] }, Value.string { data := #[] }, Value.string { data := #[] }, Value.string { data := #[] }, Value.string { data := #[] },
  Value.string { data := #[] }, Value.string { data := #[] }, Value.string { data := #[] }, Value.string { data := #[] }, Value.string { data := #[] }, Value.string { data := #[] },
  Value.string { data := #[] }, Value.string { data := #[] }, Value.string { data := #[] }, Value.string { data := #[] }, Value.string { data := #[] }, Value.string { data := #[] },
  Value.string { data := #[] }, Value.string { data := #[] }, Value.string { data := #[] }, Value.string { data := #[] }, Value.string { data := #[] }, Value.string { data := #[] },
  Value.string { data := #[] }, Value.string { data := #[] }, Value.string { data := #[] }, Value.string { data := #[] }, Value.string { data := #[] }, Value.string { data := #[] },
  Value.string { data := #[] }, Value.string { data := #[] }, Value.string { data := #[] }, Value.string { data := #[] }, Value.string { data := #[] }, Value.string { data := #[] },
  Value.string { data := #[] }, Value.string { data := #[] }, Value.string { data := #[] }, Value.string { data := #[] }, Value.string { data := #[] }, Value.string { data := #[] },
  Value.string { data := #[] }, Value.string { data := #[] }, Value.string { data := #[] }, Value.string { data := #[] }, Value.string { data := #[] }, Value.string { data := #[] },
  Value.string { data := #[] }, Value.map (some b), Value.bool false, Value.int IntKind.i64 (0 : Int), Value.int IntKind.u64 (0 : Int), Value.int IntKind.i64 (0 : Int)] } (63 : Nat)) H'_1 → R
  (Value.pointer (some ⟨b_1, (0 : Nat), none⟩)) H'_1) : CallH Try.prog 12 (List.toArray [Value.int IntKind.i64 n]) H R := vc_call (annOf []) followsAll Go.Proofs.Try.func12 rfl
  Go.Proofs.Try.ntmps12 rfl rfl (Eq.mpr (by kernel_rfl) h)

/- 13 (*strandline/files.Store).Write
  slots: [0=s, 1=name, 2=data, 3=s, 4=name, 5=data]  -/
abbrev fn_files_Store_Write : Nat := 13
theorem vc_files_Store_Write (s : Addr) (name : ByteArray) (data : ByteArray) (H : Heap) (R : Value → Heap → Prop) (h : ∀ (b : Nat) (H' : Heap), New H b (Obj.cells { toList := [Value.string
  name] } (9 : Nat)) H' → ∀ (b_1 : Nat) (H'_1 : Heap), New H' b_1 (Obj.cells { toList := [Value.string data] } (9 : Nat)) H'_1 → ∃ s_1, Ld Try.prog (9 : Nat) H'_1 ⟨b, (0 : Nat), none⟩
  (Value.string s_1) ∧ CallH Try.prog (30 : Nat) { toList := [Value.string s_1] } H'_1 fun v H' => ∃ b_2, v = Value.bool b_2 ∧ brB (!b_2) (R (Value.int IntKind.i64 (100 : Int)) H') (CallH
  Try.prog (31 : Nat) { toList := [Value.pointer (some s), Value.func (Fn.func (32 : Nat)) ⟨[]⟩ { toList := [Value.pointer (some ⟨b_1, (0 : Nat), none⟩), Value.pointer (some ⟨b, (0 : Nat),
  none⟩)] }] } H' fun v H' => ∃ n, v = Value.int IntKind.i64 n ∧ R (Value.int IntKind.i64 n) H')) : CallH Try.prog 13 (List.toArray [Value.pointer (some s), Value.string name, Value.string
  data]) H R := vc_call (annOf []) followsAll Go.Proofs.Try.func13 rfl Go.Proofs.Try.ntmps13 rfl rfl (Eq.mpr (by kernel_rfl) h)

/- 14 (*strandline/files.Store).Append
  slots: [0=s, 1=name, 2=data, 3=s, 4=name, 5=data]  -/
abbrev fn_files_Store_Append : Nat := 14
theorem vc_files_Store_Append (s : Addr) (name : ByteArray) (data : ByteArray) (H : Heap) (R : Value → Heap → Prop) (h : ∃ r, Ld Try.prog (51 : Nat) H (Addr.add s (1 : Nat)) (Value.map r) ∧
  ∃ s_1, Rd Try.prog (Instr.lookup (51 : Nat) (Value.map r) (Value.string name) false) H (Value.string s_1) ∧ chk (decide (ByteArray.size s_1 + ByteArray.size data ≤ (9223372036854775807 :
  Nat))) (CallH Try.prog (13 : Nat) { toList := [Value.pointer (some s), Value.string name, Value.string (s_1 ++ data)] } H fun v H' => ∃ n, v = Value.int IntKind.i64 n ∧ R (Value.int
  IntKind.i64 n) H')) : CallH Try.prog 14 (List.toArray [Value.pointer (some s), Value.string name, Value.string data]) H R := vc_call (annOf []) followsAll Go.Proofs.Try.func14 rfl
  Go.Proofs.Try.ntmps14 rfl rfl (Eq.mpr (by kernel_rfl) h)

/- 15 (*strandline/files.Store).Delete
  slots: [0=s, 1=name, 2=s, 3=name, 5=_, 6=is]  -/
abbrev fn_files_Store_Delete : Nat := 15
theorem vc_files_Store_Delete (s : Addr) (name : ByteArray) (H : Heap) (R : Value → Heap → Prop) (h : ∀ (b : Nat) (H' : Heap), New H b (Obj.cells { toList := [Value.string name] } (9 : Nat))
  H' → ∃ s_1, Ld Try.prog (9 : Nat) H' ⟨b, (0 : Nat), none⟩ (Value.string s_1) ∧ CallH Try.prog (30 : Nat) { toList := [Value.string s_1] } H' fun v H' => ∃ b_1, v = Value.bool b_1 ∧ brB
  (!b_1) (R (Value.int IntKind.i64 (100 : Int)) H') (∃ r, Ld Try.prog (51 : Nat) H' (Addr.add s (1 : Nat)) (Value.map r) ∧ ∃ s_2, Ld Try.prog (9 : Nat) H' ⟨b, (0 : Nat), none⟩ (Value.string
  s_2) ∧ ∃ s_3 b_2, Rd Try.prog (Instr.lookup (51 : Nat) (Value.map r) (Value.string s_2) true) H' (Value.tuple { toList := [Value.string s_3, Value.bool b_2] }) ∧ brB (!b_2) (R (Value.int
  IntKind.i64 (3 : Int)) H') (CallH Try.prog (31 : Nat) { toList := [Value.pointer (some s), Value.func (Fn.func (33 : Nat)) ⟨[]⟩ { toList := [Value.pointer (some ⟨b, (0 : Nat), none⟩)] }] }
  H' fun v H' => ∃ n, v = Value.int IntKind.i64 n ∧ R (Value.int IntKind.i64 n) H'))) : CallH Try.prog 15 (List.toArray [Value.pointer (some s), Value.string name]) H R := vc_call (annOf [])
  followsAll Go.Proofs.Try.func15 rfl Go.Proofs.Try.ntmps15 rfl rfl (Eq.mpr (by kernel_rfl) h)

/- 16 (*strandline/files.Store).Sync
  slots: [0=s, 1=s, 3=p, 4=top, 5=_, 6=n, 7=_, 8=l, 9=e]  -/
abbrev fn_files_Store_Sync : Nat := 16
theorem vc_files_Store_Sync (s : Addr) (H : Heap) (R : Value → Heap → Prop) (h : ∀ (b : Nat) (H' : Heap), New H b (Obj.cells { toList := [Value.pointer (some s)] } (25 : Nat)) H' → ∃ (M :
  List Value → Heap → Prop), (∃ a, Ld Try.prog (25 : Nat) H' ⟨b, (0 : Nat), none⟩ (Value.pointer a) ∧ ∃ a_1, Ld Try.prog (25 : Nat) H' ⟨b, (0 : Nat), none⟩ (Value.pointer a_1) ∧ exSome a_1 fun
  a_2 => ∃ b_1, Ld Try.prog (4 : Nat) H' (Addr.add a_2 (5 : Nat)) (Value.bool b_1) ∧ brB b_1 (exSome a fun a => ∃ H'_1, St Try.prog (4 : Nat) H' (Addr.add a (5 : Nat)) (Value.bool true) H'_1 ∧
  ∃ a, Ld Try.prog (25 : Nat) H'_1 ⟨b, (0 : Nat), none⟩ (Value.pointer a) ∧ exSome a fun a => ∃ b, Ld Try.prog (4 : Nat) H'_1 (Addr.add a (5 : Nat)) (Value.bool b) ∧ brB b (R (Value.int
  IntKind.i64 (90 : Int)) H'_1) (M [] H'_1)) (∃ a_3, Ld Try.prog (25 : Nat) H' ⟨b, (0 : Nat), none⟩ (Value.pointer a_3) ∧ exSome a_3 fun a_4 => ∃ a_5, Ld Try.prog (29 : Nat) H' a_4
  (Value.pointer a_5) ∧ CallH Try.prog (28 : Nat) { toList := [Value.pointer a_5] } H' fun v H' => ∃ b_2, v = Value.bool b_2 ∧ Ld Try.prog (25 : Nat) H' ⟨b, (0 : Nat), none⟩ (Value.pointer a)
  ∧ exSome a fun a => ∃ H'_1, St Try.prog (4 : Nat) H' (Addr.add a (5 : Nat)) (Value.bool b_2) H'_1 ∧ ∃ a, Ld Try.prog (25 : Nat) H'_1 ⟨b, (0 : Nat), none⟩ (Value.pointer a) ∧ exSome a fun a
  => ∃ b, Ld Try.prog (4 : Nat) H'_1 (Addr.add a (5 : Nat)) (Value.bool b) ∧ brB b (R (Value.int IntKind.i64 (90 : Int)) H'_1) (M [] H'_1))) ∧ ∀ (J : F) (H' : Heap), M [] H' → ∃ (M : List
  Value → Heap → Prop), (∃ a, Ld Try.prog (25 : Nat) H' ⟨b, (0 : Nat), none⟩ (Value.pointer a) ∧ exSome a fun a => ∃ r, Ld Try.prog (51 : Nat) H' (Addr.add a (1 : Nat)) (Value.map r) ∧ ∃ n, Rd
  Try.prog (Builtin.len_ { toList := [(51 : Nat)] } (3 : Nat) { toList := [Value.map r] }) H' (Value.int IntKind.i64 n) ∧ ∃ a, Ld Try.prog (25 : Nat) H' ⟨b, (0 : Nat), none⟩ (Value.pointer a)
  ∧ exSome a fun a => ∃ r, Ld Try.prog (52 : Nat) H' (Addr.add a (2 : Nat)) (Value.map r) ∧ ∃ n_1, Rd Try.prog (Builtin.len_ { toList := [(52 : Nat)] } (3 : Nat) { toList := [Value.map r] })
  H' (Value.int IntKind.i64 n_1) ∧ brB (n == n_1) (∃ a, Ld Try.prog (25 : Nat) H' ⟨b, (0 : Nat), none⟩ (Value.pointer a) ∧ CallH Try.prog (35 : Nat) { toList := [Value.pointer a] } H' fun v H'
  => ∃ a n c, v = Value.slice a n c ∧ CallH Try.prog (34 : Nat) { toList := [Value.slice a n c, Value.func (Fn.func (36 : Nat)) ⟨[]⟩ { toList := [Value.pointer (some ⟨b, (0 : Nat), none⟩)] }]
  } H' fun v H' => ∃ b, v = Value.bool b ∧ brB (!b) (R (Value.int IntKind.i64 (0 : Int)) H') (M [] H')) (M [] H')) ∧ ∀ (J : F) (H' : Heap), M [] H' → ∃ (M : List Value → Heap → Prop), (∃ a, Ld
  Try.prog (25 : Nat) H' ⟨b, (0 : Nat), none⟩ (Value.pointer a) ∧ ∃ a_1, Ld Try.prog (25 : Nat) H' ⟨b, (0 : Nat), none⟩ (Value.pointer a_1) ∧ exSome a_1 fun a_2 => ∃ r, Ld Try.prog (51 : Nat)
  H' (Addr.add a_2 (1 : Nat)) (Value.map r) ∧ (CallH Try.prog (37 : Nat) { toList := [Value.pointer a, Value.map r] } H' fun v H' => ∃ a n c r s a_3 n_1 c_1 n_2 n_3 b, v = Value.agg { toList
  := [Value.slice a n c, Value.map r, Value.string s, Value.slice a_3 n_1 c_1, Value.int IntKind.i64 n_2, Value.int IntKind.i64 n_3, Value.bool b] } ∧ ∀ (b_1 : Nat) (H'_1 : Heap), New H' b_1
  (Obj.cells { toList := [Value.slice none (0 : Nat) (0 : Nat), Value.map none, Value.string { data := #[] }, Value.slice none (0 : Nat) (0 : Nat), Value.int IntKind.i64 (0 : Int), Value.int
  IntKind.i64 (0 : Int), Value.bool false] } (72 : Nat)) H'_1 → ∃ H', St Try.prog (72 : Nat) H'_1 ⟨b_1, (0 : Nat), none⟩ (Value.agg { toList := [Value.slice a n c, Value.map r, Value.string s,
  Value.slice a_3 n_1 c_1, Value.int IntKind.i64 n_2, Value.int IntKind.i64 n_3, Value.bool b] }) H' ∧ M [Value.pointer (some ⟨b_1, (0 : Nat), none⟩)] H') ∧ ∀ (b_1 : Nat) (H'_1 : Heap), New H'
  b_1 (Obj.cells { toList := [Value.slice none (0 : Nat) (0 : Nat), Value.map none, Value.string { data := #[] }, Value.slice none (0 : Nat) (0 : Nat), Value.int IntKind.i64 (0 : Int),
  Value.int IntKind.i64 (0 : Int), Value.bool false] } (72 : Nat)) H'_1 → Ld Try.prog (51 : Nat) H'_1 (Addr.add a_2 (1 : Nat)) (Value.map r) ∧ Ld Try.prog (25 : Nat) H'_1 ⟨b, (0 : Nat), none⟩
  (Value.pointer a_1) ∧ Ld Try.prog (25 : Nat) H'_1 ⟨b, (0 : Nat), none⟩ (Value.pointer a) ∧ CallH Try.prog (37 : Nat) { toList := [Value.pointer a, Value.map r] } H'_1 fun v H' => ∃ a n c r s
  a_4 n_1 c_1 n_2 n_3 b, v = Value.agg { toList := [Value.slice a n c, Value.map r, Value.string s, Value.slice a_4 n_1 c_1, Value.int IntKind.i64 n_2, Value.int IntKind.i64 n_3, Value.bool b]
  } ∧ ∃ H'_2, St Try.prog (72 : Nat) H' ⟨b_1, (0 : Nat), none⟩ (Value.agg { toList := [Value.slice a n c, Value.map r, Value.string s, Value.slice a_4 n_1 c_1, Value.int IntKind.i64 n_2,
  Value.int IntKind.i64 n_3, Value.bool b] }) H'_2 ∧ M [Value.pointer (some ⟨b_1, (0 : Nat), none⟩)] H'_2) ∧ ∀ (J : F) (a : Addr) (H' : Heap), M [Value.pointer (some a)] H' → ∃ a_2, Ld
  Try.prog (25 : Nat) H' ⟨b, (0 : Nat), none⟩ (Value.pointer a_2) ∧ exSome a_2 fun a_3 => ∃ n, Ld Try.prog (3 : Nat) H' (Addr.add a_3 (4 : Nat)) (Value.int IntKind.i64 n) ∧ ∃ s, Ld Try.prog (9
  : Nat) H' (Addr.add a (2 : Nat)) (Value.string s) ∧ CallH Try.prog (38 : Nat) { toList := [Value.int IntKind.u64 (IntKind.wrap IntKind.u64 (IntKind.wrap IntKind.i64 (n + (1 : Int))))] } H'
  fun v H' => ∃ s_1, v = Value.string s_1 ∧ Ld Try.prog (9 : Nat) H' (Addr.add a (2 : Nat)) (Value.string s) ∧ CallH Try.prog (38 : Nat) { toList := [Value.int IntKind.u64 (IntKind.wrap
  IntKind.u64 (↑(ByteArray.size s) : Int))] } H' fun v H' => ∃ s, v = Value.string s ∧ chk (decide (ByteArray.size s_1 + ByteArray.size s ≤ (9223372036854775807 : Nat))) (∃ a_4 n c, Ld
  Try.prog (53 : Nat) H' (Addr.add (Addr.add a (2 : Nat)) (1 : Nat)) (Value.slice a_4 n c) ∧ ∃ (I : List Value → Heap → Prop) (μ : List Value → Heap → Nat), I [Value.string (s_1 ++ s),
  Value.int IntKind.i64 (0 : Int)] H' ∧ ∀ (J : F) (s : ByteArray) (n_1 : Int) (H' : Heap), I [Value.string s, Value.int IntKind.i64 n_1] H' → brB (decide (n_1 < (↑n : Int))) (exSome a_4 fun ad
  => chk (decide ((0 : Int) ≤ n_1 ∧ n_1 < (↑n : Int))) (∃ n, Ld Try.prog (3 : Nat) H' (Addr.add ad (Int.toNat n_1 * (1 : Nat))) (Value.int IntKind.i64 n) ∧ CallH Try.prog (38 : Nat) { toList
  := [Value.int IntKind.u64 (IntKind.wrap IntKind.u64 n)] } H' fun v H'_1 => ∃ s_2, v = Value.string s_2 ∧ chk (decide (ByteArray.size s + ByteArray.size s_2 ≤ (9223372036854775807 : Nat))) (I
  [Value.string (s ++ s_2), Value.int IntKind.i64 (IntKind.wrap IntKind.i64 (n_1 + (1 : Int)))] H'_1 ∧ μ [Value.string (s ++ s_2), Value.int IntKind.i64 (IntKind.wrap IntKind.i64 (n_1 + (1 :
  Int)))] H'_1 < μ [Value.string s, Value.int IntKind.i64 n_1] H'))) (∃ a_6 n c, Ld Try.prog (70 : Nat) H' a (Value.slice a_6 n c) ∧ ∃ a_7, Ld Try.prog (25 : Nat) H' ⟨b, (0 : Nat), none⟩
  (Value.pointer a_7) ∧ exSome a_7 fun a_8 => ∃ n_2, Ld Try.prog (3 : Nat) H' (Addr.add a_8 (4 : Nat)) (Value.int IntKind.i64 n_2) ∧ ∀ (b_1 : Nat) (H'_1 : Heap), New H' b_1 (Obj.cells { toList
  := [Value.int IntKind.i64 (Int.tmod (IntKind.wrap IntKind.i64 (n_2 + (1 : Int))) (2 : Int)), Value.string s] } (76 : Nat)) H'_1 → Ld Try.prog (70 : Nat) H'_1 a (Value.slice a_6 n c) ∧ ∀ (b_2
  : Nat) (H' : Heap), New H'_1 b_2 (Obj.cells { toList := [Value.slice a_6 n c, Value.slice (some ⟨b_1, (0 : Nat), none⟩) (1 : Nat) (1 : Nat)] } (70 : Nat)) H' → ∃ (I : List Value → Heap →
  Prop) (μ : List Value → Heap → Nat), I [Value.int IntKind.i64 (0 : Int)] H' ∧ ∀ (J : F) (n : Int) (H' : Heap), I [Value.int IntKind.i64 n] H' → brB (decide (n < (↑(2 : Nat) : Int))) (chk
  (decide ((0 : Int) ≤ n ∧ n < (↑(2 : Nat) : Int))) (∃ a n_3 c, Ld Try.prog (70 : Nat) H' (Addr.add ⟨b_2, (0 : Nat), none⟩ (Int.toNat n * (1 : Nat))) (Value.slice a n_3 c) ∧ ∃ a_12, Ld
  Try.prog (25 : Nat) H' ⟨b, (0 : Nat), none⟩ (Value.pointer a_12) ∧ CallH Try.prog (39 : Nat) { toList := [Value.pointer a_12, Value.slice a n_3 c] } H' fun v H'_2 => ∃ n_4, v = Value.int
  IntKind.i64 n_4 ∧ brB (n_4 != (0 : Int)) (∃ a, Ld Try.prog (25 : Nat) H'_2 ⟨b, (0 : Nat), none⟩ (Value.pointer a) ∧ exSome a fun a => ∃ H', St Try.prog (4 : Nat) H'_2 (Addr.add a (5 : Nat))
  (Value.bool true) H' ∧ R (Value.int IntKind.i64 n_4) H') (I [Value.int IntKind.i64 (IntKind.wrap IntKind.i64 (n + (1 : Int)))] H'_2 ∧ μ [Value.int IntKind.i64 (IntKind.wrap IntKind.i64 (n +
  (1 : Int)))] H'_2 < μ [Value.int IntKind.i64 n] H'))) (∃ a_12, Ld Try.prog (25 : Nat) H' ⟨b, (0 : Nat), none⟩ (Value.pointer a_12) ∧ exSome a_12 fun a_13 => ∃ n, Ld Try.prog (3 : Nat) H'
  (Addr.add a_13 (4 : Nat)) (Value.int IntKind.i64 n) ∧ exSome a_12 fun a_14 => ∃ H'_2, St Try.prog (3 : Nat) H' (Addr.add a_14 (4 : Nat)) (Value.int IntKind.i64 (IntKind.wrap IntKind.i64 (n +
  (1 : Int)))) H'_2 ∧ ∃ a_15, Ld Try.prog (25 : Nat) H'_2 ⟨b, (0 : Nat), none⟩ (Value.pointer a_15) ∧ ∃ a_16, Ld Try.prog (25 : Nat) H'_2 ⟨b, (0 : Nat), none⟩ (Value.pointer a_16) ∧ ∃ r, Ld
  Try.prog (52 : Nat) H'_2 (Addr.add a (1 : Nat)) (Value.map r) ∧ ∃ a_17 n c, Ld Try.prog (53 : Nat) H'_2 (Addr.add (Addr.add a (2 : Nat)) (1 : Nat)) (Value.slice a_17 n c) ∧ exSome a_15 fun
  a_18 => ∃ H', St Try.prog (52 : Nat) H'_2 (Addr.add a_18 (2 : Nat)) (Value.map r) H' ∧ Ld Try.prog (53 : Nat) H' (Addr.add (Addr.add a (2 : Nat)) (1 : Nat)) (Value.slice a_17 n c) ∧ Ld
  Try.prog (25 : Nat) H' ⟨b, (0 : Nat), none⟩ (Value.pointer a_16) ∧ exSome a_16 fun a => ∃ H'_3, St Try.prog (53 : Nat) H' (Addr.add a (3 : Nat)) (Value.slice a_17 n c) H'_3 ∧ R (Value.int
  IntKind.i64 (0 : Int)) H'_3)))) : CallH Try.prog 16 (List.toArray [Value.pointer (some s)]) H R := vc_call (annOf [([1], .cut []), ([0, 0, 1], .reg [0, 0, 2, 6, 14, 30, 62, 126, 254, 510,
  1022, 2046, 4095, 8191, 16383] (.quiet 0 (.quiet 1 (.quiet 2 (.quiet 3 (.quiet 4 (.quiet 5 (.quiet 6 (.quiet 7 (.quiet 8 (.quiet 9 (.pick (.alt 10 (.quiet 11 (.quiet 12 (.quiet 13 (.pick
  (.alt 14 (.done) .stop))))) .stop))))))))))))), ([1, 1], .cut []), ([0, 0, 1, 1], .reg [0, 1, 3, 7, 15, 0, 32, 96, 224, 511, 1023, 2047, 4095, 8191, 4095, 32767, 65535, 131071] (.quiet 0
  (.quiet 1 (.quiet 2 (.quiet 3 (.quiet 4 (.quiet 5 (.quiet 6 (.quiet 7 (.quiet 8 (.quiet 9 (.quiet 10 (.quiet 11 (.quiet 12 (.quiet 14 (.pick (.alt 13 (.pick (.alt 15 (.quiet 16 (.quiet 17
  .done)) .stop)) .stop))))))))))))))))), ([1, 1, 1], .cut [(3, .one .adr)]), ([0, 1, 1, 1], .reg [0, 0, 2, 6, 14, 31, 0, 127] (.quiet 0 (.quiet 1 (.quiet 2 (.quiet 3 (.quiet 4 (.pick (.alt 5
  (.pick (.alt 6 (.pick (.alt 7 (.done) .stop)) .stop)) (.alt 6 (.pick (.alt 5 (.pick (.alt 7 (.done) .stop)) .stop)) .stop))))))))), ([0, 1, 1, 1, 1], .reg [0, 1, 3, 7, 15, 31, 63, 0, 128,
  384, 896, 1920, 4095, 8191, 16383] (.quiet 0 (.quiet 1 (.quiet 2 (.quiet 3 (.quiet 4 (.quiet 5 (.quiet 7 (.quiet 8 (.quiet 9 (.quiet 10 (.quiet 11 (.pick (.alt 6 (.pick (.alt 12 (.quiet 13
  (.quiet 14 .done)) .stop)) .stop)))))))))))))), ([0, 1, 0, 1, 1, 1, 1, 1], .cut [(4, .one .str), (70, .one (.int .i64))]), ([0, 0, 1, 1, 1, 1, 1, 1], .reg [0, 1, 0, 4, 12, 28, 60, 124, 0,
  508, 1020, 2047, 4095, 0] (.quiet 0 (.quiet 1 (.quiet 2 (.quiet 3 (.quiet 4 (.quiet 5 (.quiet 6 (.quiet 7 (.quiet 8 (.quiet 9 (.quiet 13 (.pick (.alt 10 (.pick (.alt 11 (.quiet 12 .done)
  .stop)) .stop)))))))))))))), ([0, 1, 0, 1, 1, 1, 1, 1, 1], .cut [(93, .one (.int .i64))]), ([0, 1, 1, 1, 1, 1, 1, 1, 1], .reg [0, 0, 0, 4, 0, 16, 48, 13, 141, 397, 1023, 2047, 4095] (.quiet
  0 (.quiet 1 (.quiet 2 (.quiet 3 (.quiet 4 (.quiet 5 (.quiet 6 (.quiet 7 (.quiet 8 (.pick (.alt 9 (.quiet 10 (.quiet 11 (.pick (.alt 12 (.done) .stop)))) .stop))))))))))))]) followsAll
  Go.Proofs.Try.func16 rfl Go.Proofs.Try.ntmps16 rfl rfl (Eq.mpr (by kernel_rfl) h)

/- 17 (*strandline/files.Store).Read
  slots: [0=s, 1=name, 2=s, 3=name, 6=t, 7=is]  -/
abbrev fn_files_Store_Read : Nat := 17
theorem vc_files_Store_Read (s : Addr) (name : ByteArray) (H : Heap) (R : Value → Heap → Prop) (h : ∃ r, Ld Try.prog (51 : Nat) H (Addr.add s (1 : Nat)) (Value.map r) ∧ ∃ s b, Rd Try.prog
  (Instr.lookup (51 : Nat) (Value.map r) (Value.string name) true) H (Value.tuple { toList := [Value.string s, Value.bool b] }) ∧ R (Value.tuple { toList := [Value.string s, Value.bool b] })
  H) : CallH Try.prog 17 (List.toArray [Value.pointer (some s), Value.string name]) H R := vc_call (annOf []) followsAll Go.Proofs.Try.func17 rfl Go.Proofs.Try.ntmps17 rfl rfl (Eq.mpr (by
  kernel_rfl) h)

/- 18 strandline/strandlinelaw10.change
  slots: [0=s, 1=o, 2=s, 3=o]  -/
abbrev fn_law10_change : Nat := 18
theorem vc_law10_change (s : Addr) (o_0 : Int) (o_1 : Int) (o_2 : ByteArray) (o_3 : ByteArray) (o_4 : Int) (H : Heap) (R : Value → Heap → Prop) (h : ∀ (b : Nat) (H' : Heap), New H b
  (Obj.cells { toList := [Value.int IntKind.i64 o_0, Value.int IntKind.i64 o_1, Value.string o_2, Value.string o_3, Value.int IntKind.u64 o_4] } (33 : Nat)) H' → ∃ n, Ld Try.prog (3 : Nat) H'
  ⟨b, (0 : Nat), none⟩ (Value.int IntKind.i64 n) ∧ brB (n == (0 : Int)) (∃ s_1, Ld Try.prog (9 : Nat) H' ⟨b, (2 : Nat), none⟩ (Value.string s_1) ∧ ∃ s_2, Ld Try.prog (9 : Nat) H' ⟨b, (3 :
  Nat), none⟩ (Value.string s_2) ∧ CallH Try.prog (13 : Nat) { toList := [Value.pointer (some s), Value.string s_1, Value.string s_2] } H' fun v H' => ∃ n, v = Value.int IntKind.i64 n ∧ R
  (Value.tuple ⟨[]⟩) H') (brB (n == (1 : Int)) (∃ s_1, Ld Try.prog (9 : Nat) H' ⟨b, (2 : Nat), none⟩ (Value.string s_1) ∧ ∃ s_2, Ld Try.prog (9 : Nat) H' ⟨b, (3 : Nat), none⟩ (Value.string
  s_2) ∧ CallH Try.prog (14 : Nat) { toList := [Value.pointer (some s), Value.string s_1, Value.string s_2] } H' fun v H' => ∃ n, v = Value.int IntKind.i64 n ∧ R (Value.tuple ⟨[]⟩) H') (brB (n
  == (2 : Int)) (∃ s_1, Ld Try.prog (9 : Nat) H' ⟨b, (2 : Nat), none⟩ (Value.string s_1) ∧ CallH Try.prog (15 : Nat) { toList := [Value.pointer (some s), Value.string s_1] } H' fun v H' => ∃
  n, v = Value.int IntKind.i64 n ∧ R (Value.tuple ⟨[]⟩) H') (brB (n == (3 : Int)) (∃ s_1, Ld Try.prog (9 : Nat) H' ⟨b, (2 : Nat), none⟩ (Value.string s_1) ∧ ∃ s_2, Ld Try.prog (9 : Nat) H' ⟨b,
  (3 : Nat), none⟩ (Value.string s_2) ∧ CallH Try.prog (20 : Nat) { toList := [Value.pointer (some s), Value.string s_1, Value.string s_2] } H' fun v H' => ∃ n, v = Value.int IntKind.i64 n ∧ R
  (Value.tuple ⟨[]⟩) H') (R (Value.tuple ⟨[]⟩) H'))))) : CallH Try.prog 18 (List.toArray [Value.pointer (some s), Value.agg #[Value.int IntKind.i64 o_0, Value.int IntKind.i64 o_1, Value.string
  o_2, Value.string o_3, Value.int IntKind.u64 o_4]]) H R := vc_call (annOf []) followsAll Go.Proofs.Try.func18 rfl Go.Proofs.Try.ntmps18 rfl rfl (Eq.mpr (by kernel_rfl) h)

/- 19 strandline/strandlinelaw10.named
  slots: [0=s, 1=s, 3=out, 4=l, 5=i, 6=t, 7=_]  -/
abbrev fn_law10_named : Nat := 19
theorem vc_law10_named (s : Addr) (H : Heap) (R : Value → Heap → Prop) (h : ∀ (b : Nat) (H' : Heap), New H b (Obj.cells ⟨[]⟩ (9 : Nat)) H' → CallH Try.prog (35 : Nat) { toList :=
  [Value.pointer (some s)] } H' fun v H' => ∃ a n c, v = Value.slice a n c ∧ ∃ (I : List Value → Heap → Prop) (μ : List Value → Heap → Nat), I [Value.slice (some ⟨b, (0 : Nat), none⟩) (0 :
  Nat) (0 : Nat), Value.int IntKind.i64 (0 : Int)] H' ∧ ∀ (J : F) (a_1 : Option Addr) (n_1 c : Nat) (n_2 : Int) (H' : Heap), I [Value.slice a_1 n_1 c, Value.int IntKind.i64 n_2] H' → brB
  (decide (n_2 < (↑n : Int))) (exSome a fun ad => chk (decide ((0 : Int) ≤ n_2 ∧ n_2 < (↑n : Int))) (∃ s_1, Ld Try.prog (9 : Nat) H' (Addr.add ad (Int.toNat n_2 * (1 : Nat))) (Value.string
  s_1) ∧ CallH Try.prog (17 : Nat) { toList := [Value.pointer (some s), Value.string s_1] } H' fun v H'_1 => ∃ s b, v = Value.tuple { toList := [Value.string s, Value.bool b] } ∧ exSome a fun
  ad => chk (decide ((0 : Int) ≤ n_2 ∧ n_2 < (↑n : Int))) (∃ s_2, Ld Try.prog (9 : Nat) H'_1 (Addr.add ad (Int.toNat n_2 * (1 : Nat))) (Value.string s_2) ∧ ∀ (b : Nat) (H'_2 : Heap), New H'_1
  b (Obj.cells { toList := [Value.string s_2, Value.string s] } (9 : Nat)) H'_2 → SemWp Try.prog (Builtin.append_ { toList := [(41 : Nat), (41 : Nat)] } (41 : Nat) { toList := [Value.slice a_1
  n_1 c, Value.slice (some ⟨b, (0 : Nat), none⟩) (2 : Nat) (2 : Nat)] }) H'_2 fun v H'_3 => ∃ a n c_1, v = Value.slice a n c_1 ∧ I [Value.slice a n c_1, Value.int IntKind.i64 (IntKind.wrap
  IntKind.i64 (n_2 + (1 : Int)))] H'_3 ∧ μ [Value.slice a n c_1, Value.int IntKind.i64 (IntKind.wrap IntKind.i64 (n_2 + (1 : Int)))] H'_3 < μ [Value.slice a_1 n_1 c, Value.int IntKind.i64 n_2]
  H'))) (R (Value.slice a_1 n_1 c) H')) : CallH Try.prog 19 (List.toArray [Value.pointer (some s)]) H R := vc_call (annOf [([0, 1, 0, 1, 1, 1], .cut [(3, .one .slice), (5, .one (.int
  .i64))])]) followsAll Go.Proofs.Try.func19 rfl Go.Proofs.Try.ntmps19 rfl rfl (Eq.mpr (by kernel_rfl) h)

/- 20 (*strandline/files.Store).Rename
  slots: [0=s, 1=from, 2=to, 3=s, 4=from, 5=to, 7=data, 8=is]  -/
abbrev fn_files_Store_Rename : Nat := 20
theorem vc_files_Store_Rename (s : Addr) (from' : ByteArray) (to : ByteArray) (H : Heap) (R : Value → Heap → Prop) (h : ∀ (b : Nat) (H' : Heap), New H b (Obj.cells { toList := [Value.string
  from'] } (9 : Nat)) H' → ∀ (b_1 : Nat) (H'_1 : Heap), New H' b_1 (Obj.cells { toList := [Value.string to] } (9 : Nat)) H'_1 → ∃ (M : List Value → Heap → Prop), (∃ s, Ld Try.prog (9 : Nat)
  H'_1 ⟨b, (0 : Nat), none⟩ (Value.string s) ∧ CallH Try.prog (30 : Nat) { toList := [Value.string s] } H'_1 fun v H' => ∃ b, v = Value.bool b ∧ brB (!b) (R (Value.int IntKind.i64 (100 : Int))
  H') (∃ s, Ld Try.prog (9 : Nat) H' ⟨b_1, (0 : Nat), none⟩ (Value.string s) ∧ CallH Try.prog (30 : Nat) { toList := [Value.string s] } H' fun v H' => ∃ b, v = Value.bool b ∧ brB (!b) (R
  (Value.int IntKind.i64 (100 : Int)) H') (M [] H'))) ∧ ∀ (J : F) (H' : Heap), M [] H' → ∃ r, Ld Try.prog (51 : Nat) H' (Addr.add s (1 : Nat)) (Value.map r) ∧ ∃ s_1, Ld Try.prog (9 : Nat) H'
  ⟨b, (0 : Nat), none⟩ (Value.string s_1) ∧ ∃ s_2 b_2, Rd Try.prog (Instr.lookup (51 : Nat) (Value.map r) (Value.string s_1) true) H' (Value.tuple { toList := [Value.string s_2, Value.bool
  b_2] }) ∧ ∀ (b_3 : Nat) (H'_2 : Heap), New H' b_3 (Obj.cells { toList := [Value.string { data := #[] }] } (9 : Nat)) H'_2 → Rd Try.prog (Instr.lookup (51 : Nat) (Value.map r) (Value.string
  s_1) true) H'_2 (Value.tuple { toList := [Value.string s_2, Value.bool b_2] }) ∧ Ld Try.prog (9 : Nat) H'_2 ⟨b, (0 : Nat), none⟩ (Value.string s_1) ∧ Ld Try.prog (51 : Nat) H'_2 (Addr.add s
  (1 : Nat)) (Value.map r) ∧ ∃ H', St Try.prog (9 : Nat) H'_2 ⟨b_3, (0 : Nat), none⟩ (Value.string s_2) H' ∧ brB (!b_2) (R (Value.int IntKind.i64 (3 : Int)) H') (CallH Try.prog (31 : Nat) {
  toList := [Value.pointer (some s), Value.func (Fn.func (40 : Nat)) ⟨[]⟩ { toList := [Value.pointer (some ⟨b, (0 : Nat), none⟩), Value.pointer (some ⟨b_3, (0 : Nat), none⟩), Value.pointer
  (some ⟨b_1, (0 : Nat), none⟩)] }] } H' fun v H' => ∃ n, v = Value.int IntKind.i64 n ∧ R (Value.int IntKind.i64 n) H')) : CallH Try.prog 20 (List.toArray [Value.pointer (some s), Value.string
  from', Value.string to]) H R := vc_call (annOf [([1], .cut []), ([0, 1, 1], .reg [0, 1, 3, 7, 0, 31, 63, 127, 127, 0, 767, 2047] (.quiet 0 (.quiet 1 (.quiet 2 (.quiet 3 (.quiet 4 (.quiet 5
  (.quiet 6 (.quiet 7 (.quiet 8 (.pick (.alt 9 (.pick (.alt 10 (.quiet 11 .done) .stop)) .stop))))))))))))]) followsAll Go.Proofs.Try.func20 rfl Go.Proofs.Try.ntmps20 rfl rfl (Eq.mpr (by
  kernel_rfl) h)

/- 21 strandline/strandlinelaw10.same
  slots: [0=a, 1=b, 2=a, 3=b, 5=i]  -/
abbrev fn_law10_same : Nat := 21
theorem vc_law10_same (a_a : Option Addr) (a_n : Nat) (a_c : Nat) (b_a : Option Addr) (b_n : Nat) (b_c : Nat) (H : Heap) (R : Value → Heap → Prop) (h : brB ((↑a_n : Int) != (↑b_n : Int)) (R
  (Value.bool false) H) (∃ (I : List Value → Heap → Prop) (μ : List Value → Heap → Nat), I [Value.int IntKind.i64 (0 : Int)] H ∧ ∀ (J : F) (n : Int) (H' : Heap), I [Value.int IntKind.i64 n] H'
  → brB (decide (n < (↑a_n : Int))) (exSome a_a fun ad => chk (decide ((0 : Int) ≤ n ∧ n < (↑a_n : Int))) (∃ s, Ld Try.prog (9 : Nat) H' (Addr.add ad (Int.toNat n * (1 : Nat))) (Value.string
  s) ∧ exSome b_a fun ad => chk (decide ((0 : Int) ≤ n ∧ n < (↑b_n : Int))) (∃ s_1, Ld Try.prog (9 : Nat) H' (Addr.add ad (Int.toNat n * (1 : Nat))) (Value.string s_1) ∧ brB (!ByteArray.toList
  s == ByteArray.toList s_1) (R (Value.bool false) H') (I [Value.int IntKind.i64 (IntKind.wrap IntKind.i64 (n + (1 : Int)))] H' ∧ μ [Value.int IntKind.i64 (IntKind.wrap IntKind.i64 (n + (1 :
  Int)))] H' < μ [Value.int IntKind.i64 n] H')))) (R (Value.bool true) H'))) : CallH Try.prog 21 (List.toArray [Value.slice a_a a_n a_c, Value.slice b_a b_n b_c]) H R := vc_call (annOf [([0,
  1, 0, 1, 1], .cut [(5, .one (.int .i64))])]) followsAll Go.Proofs.Try.func21 rfl Go.Proofs.Try.ntmps21 rfl rfl (Eq.mpr (by kernel_rfl) h)

/- 22 (*strandline/block.Disk).Crash
  slots: [0=d, 1=keep, 2=d, 3=keep]  -/
abbrev fn_block_Disk_Crash : Nat := 22
theorem vc_block_Disk_Crash (d : Addr) (keep : Int) (H : Heap) (R : Value → Heap → Prop) (h : ∀ (b : Nat) (H' : Heap), New H b (Obj.cells { toList := [Value.int IntKind.u64 keep] } (31 :
  Nat)) H' → ∃ b_1, Ld Try.prog (4 : Nat) H' (Addr.add d (514 : Nat)) (Value.bool b_1) ∧ brB b_1 (R (Value.tuple ⟨[]⟩) H') (CallH Try.prog (41 : Nat) { toList := [Value.pointer (some d),
  Value.func (Fn.func (42 : Nat)) ⟨[]⟩ { toList := [Value.pointer (some ⟨b, (0 : Nat), none⟩)] }] } H' fun v H' => v = Value.tuple ⟨[]⟩ ∧ ∃ H'_1, St Try.prog (4 : Nat) H' (Addr.add d (514 :
  Nat)) (Value.bool true) H'_1 ∧ ∃ H', St Try.prog (3 : Nat) H'_1 (Addr.add d (515 : Nat)) (Value.int IntKind.i64 (0 : Int)) H' ∧ R (Value.tuple ⟨[]⟩) H')) : CallH Try.prog 22 (List.toArray
  [Value.pointer (some d), Value.int IntKind.u64 keep]) H R := vc_call (annOf []) followsAll Go.Proofs.Try.func22 rfl Go.Proofs.Try.ntmps22 rfl rfl (Eq.mpr (by kernel_rfl) h)

/- 23 (*strandline/block.Disk).Power
  slots: [0=d, 1=d]  -/
abbrev fn_block_Disk_Power : Nat := 23
theorem vc_block_Disk_Power (d : Addr) (H : Heap) (R : Value → Heap → Prop) (h : ∃ H', St Try.prog (4 : Nat) H (Addr.add d (514 : Nat)) (Value.bool false) H' ∧ ∃ H'_1, St Try.prog (3 : Nat)
  H' (Addr.add d (515 : Nat)) (Value.int IntKind.i64 (0 : Int)) H'_1 ∧ R (Value.tuple ⟨[]⟩) H'_1) : CallH Try.prog 23 (List.toArray [Value.pointer (some d)]) H R := vc_call (annOf [])
  followsAll Go.Proofs.Try.func23 rfl Go.Proofs.Try.ntmps23 rfl rfl (Eq.mpr (by kernel_rfl) h)

/- 24 (*strandline/files.Store).Gen
  slots: [0=s, 1=s]  -/
abbrev fn_files_Store_Gen : Nat := 24
theorem vc_files_Store_Gen (s : Addr) (H : Heap) (R : Value → Heap → Prop) (h : ∃ n, Ld Try.prog (3 : Nat) H (Addr.add s (4 : Nat)) (Value.int IntKind.i64 n) ∧ R (Value.int IntKind.i64 n) H)
  : CallH Try.prog 24 (List.toArray [Value.pointer (some s)]) H R := vc_call (annOf []) followsAll Go.Proofs.Try.func24 rfl Go.Proofs.Try.ntmps24 rfl rfl (Eq.mpr (by kernel_rfl) h)

/- 25 (*strandline/block.Disk).Calls
  slots: [0=d, 1=d]  -/
abbrev fn_block_Disk_Calls : Nat := 25
theorem vc_block_Disk_Calls (d : Addr) (H : Heap) (R : Value → Heap → Prop) (h : ∃ n, Ld Try.prog (3 : Nat) H (Addr.add d (517 : Nat)) (Value.int IntKind.i64 n) ∧ R (Value.int IntKind.i64 n)
  H) : CallH Try.prog 25 (List.toArray [Value.pointer (some d)]) H R := vc_call (annOf []) followsAll Go.Proofs.Try.func25 rfl Go.Proofs.Try.ntmps25 rfl rfl (Eq.mpr (by kernel_rfl) h)

/- 26 (*strandline/block.Disk).Cut
  slots: [0=d, 1=n, 2=keep, 3=d, 4=n, 5=keep]  -/
abbrev fn_block_Disk_Cut : Nat := 26
theorem vc_block_Disk_Cut (d : Addr) (n : Int) (keep : Int) (H : Heap) (R : Value → Heap → Prop) (h : ∃ H', St Try.prog (3 : Nat) H (Addr.add d (515 : Nat)) (Value.int IntKind.i64 (if (0 :
  Int) > n then (0 : Int) else n)) H' ∧ ∃ H'_1, St Try.prog (31 : Nat) H' (Addr.add d (516 : Nat)) (Value.int IntKind.u64 keep) H'_1 ∧ R (Value.tuple ⟨[]⟩) H'_1) : CallH Try.prog 26
  (List.toArray [Value.pointer (some d), Value.int IntKind.i64 n, Value.int IntKind.u64 keep]) H R := vc_call (annOf []) followsAll Go.Proofs.Try.func26 rfl Go.Proofs.Try.ntmps26 rfl rfl
  (Eq.mpr (by kernel_rfl) h)

/- 27 (*strandline/files.Store).Free
  slots: [0=s, 1=s]  -/
abbrev fn_files_Store_Free : Nat := 27
theorem vc_files_Store_Free (s : Addr) (H : Heap) (R : Value → Heap → Prop) (h : ∃ a, Ld Try.prog (29 : Nat) H s (Value.pointer a) ∧ ∃ r, Ld Try.prog (51 : Nat) H (Addr.add s (1 : Nat))
  (Value.map r) ∧ CallH Try.prog (43 : Nat) { toList := [Value.pointer a] } H fun v H' => ∃ n, v = Value.int IntKind.i64 n ∧ Ld Try.prog (51 : Nat) H' (Addr.add s (1 : Nat)) (Value.map r) ∧
  CallH Try.prog (44 : Nat) { toList := [Value.pointer (some s)] } H' fun v H' => ∃ r_1, v = Value.map r_1 ∧ Ld Try.prog (51 : Nat) H' (Addr.add s (1 : Nat)) (Value.map r) ∧ ∃ n_1, Rd Try.prog
  (Builtin.len_ { toList := [(82 : Nat)] } (3 : Nat) { toList := [Value.map r_1] }) H' (Value.int IntKind.i64 n_1) ∧ CallH Try.prog (37 : Nat) { toList := [Value.pointer (some s), Value.map r]
  } H' fun v H' => ∃ a n_2 c r s a_1 n_3 c_1 n_4 n_5 b, v = Value.agg { toList := [Value.slice a n_2 c, Value.map r, Value.string s, Value.slice a_1 n_3 c_1, Value.int IntKind.i64 n_4,
  Value.int IntKind.i64 n_5, Value.bool b] } ∧ R (Value.int IntKind.i64 (IntKind.wrap IntKind.i64 (IntKind.wrap IntKind.i64 (IntKind.wrap IntKind.i64 (n - (2 : Int)) - n_1) - n_5))) H') :
  CallH Try.prog 27 (List.toArray [Value.pointer (some s)]) H R := vc_call (annOf [([0, 1], .reg [0, 1, 3, 7, 15, 31, 0, 95, 223, 511, 0, 0, 2048, 6144, 14336, 32223, 64991, 131071, 262143]
  (.quiet 0 (.quiet 1 (.quiet 2 (.quiet 3 (.quiet 6 (.quiet 10 (.quiet 11 (.quiet 12 (.quiet 13 (.quiet 14 (.pick (.alt 4 (.quiet 5 (.pick (.alt 7 (.quiet 8 (.quiet 9 (.pick (.alt 15 (.quiet
  16 (.quiet 17 (.quiet 18 .done))) .stop)))) .stop))) .stop)))))))))))))]) followsAll Go.Proofs.Try.func27 rfl Go.Proofs.Try.ntmps27 rfl rfl (Eq.mpr (by kernel_rfl) h)

/- 28 (*strandline/block.Disk).Dead
  slots: [0=d, 1=d]  -/
abbrev fn_block_Disk_Dead : Nat := 28
theorem vc_block_Disk_Dead (d : Addr) (H : Heap) (R : Value → Heap → Prop) (h : ∃ b, Ld Try.prog (4 : Nat) H (Addr.add d (514 : Nat)) (Value.bool b) ∧ R (Value.bool b) H) : CallH Try.prog 28
  (List.toArray [Value.pointer (some d)]) H R := vc_call (annOf []) followsAll Go.Proofs.Try.func28 rfl Go.Proofs.Try.ntmps28 rfl rfl (Eq.mpr (by kernel_rfl) h)

/- 29 strandline/files.root
  slots: [0=d, 1=slot, 2=d, 3=slot, 7=s, 8=_, 9=x, 10=gen, 11=size, 12=dir, 13=y, 14=files, 15=last, 16=many, 17=name, 18=size]  -/
abbrev fn_files_root : Nat := 29
theorem vc_files_root (d : Addr) (slot : Int) (H : Heap) (R : Value → Heap → Prop) (h : CallH Try.prog (45 : Nat) { toList := [Value.pointer (some d), Value.int IntKind.i64 slot] } H fun v
  H' => ∃ s n, v = Value.tuple { toList := [Value.string s, Value.int IntKind.i64 n] } ∧ ∀ (b : Nat) (H'_1 : Heap), New H' b (Obj.map ⟨[]⟩ (0 : Nat)) H'_1 → ∀ (b_1 : Nat) (H' : Heap), New H'_1
  b_1 (Obj.cells { toList := [Value.pointer (some d), Value.string s, Value.int IntKind.i64 (0 : Int), Value.bool true, Value.map (some b)] } (88 : Nat)) H' → CallH Try.prog (46 : Nat) {
  toList := [Value.pointer (some ⟨b_1, (0 : Nat), none⟩)] } H' fun v H' => ∃ n, v = Value.int IntKind.i64 n ∧ CallH Try.prog (46 : Nat) { toList := [Value.pointer (some ⟨b_1, (0 : Nat),
  none⟩)] } H' fun v H' => ∃ n_1, v = Value.int IntKind.i64 n_1 ∧ ∃ (M : List Value → Heap → Prop), (∃ (M_1 : List Value → Heap → Prop), (∃ b, Ld Try.prog (4 : Nat) H' ⟨b_1, (3 : Nat), none⟩
  (Value.bool b) ∧ brB (!b) (M_1 [Value.bool true] H') (brB (decide (n < (1 : Int))) (M_1 [Value.bool true] H') (brB (Int.tmod n (2 : Int) != slot) (M_1 [Value.bool true] H') (brB (decide (n_1
  < (1 : Int))) (M_1 [Value.bool true] H') (M_1 [Value.bool (decide (n_1 > (1280 : Int)))] H'))))) ∧ ∀ (J : F) (b : Bool) (H' : Heap), M_1 [Value.bool b] H' → brB b (R (Value.tuple { toList :=
  [Value.int IntKind.i64 (0 : Int), Value.map none, Value.slice none (0 : Nat) (0 : Nat)] }) H') (M [] H')) ∧ ∀ (J : F) (H' : Heap), M [] H' → CallH Try.prog (47 : Nat) { toList :=
  [Value.pointer (some ⟨b_1, (0 : Nat), none⟩), Value.int IntKind.i64 n_1, Value.func (Fn.func (46 : Nat)) { toList := [Value.pointer (some ⟨b_1, (0 : Nat), none⟩)] } ⟨[]⟩] } H' fun v H' => ∃
  s_1 a n_2 c, v = Value.agg { toList := [Value.string s_1, Value.slice a n_2 c] } ∧ ∀ (b : Nat) (H'_2 : Heap), New H' b (Obj.cells { toList := [Value.string { data := #[] }, Value.slice none
  (0 : Nat) (0 : Nat)] } (59 : Nat)) H'_2 → ∃ H', St Try.prog (59 : Nat) H'_2 ⟨b, (0 : Nat), none⟩ (Value.agg { toList := [Value.string s_1, Value.slice a n_2 c] }) H' ∧ ∃ (M : List Value →
  Heap → Prop), (∃ b, Ld Try.prog (4 : Nat) H' ⟨b_1, (3 : Nat), none⟩ (Value.bool b) ∧ brB (!b) (R (Value.tuple { toList := [Value.int IntKind.i64 (0 : Int), Value.map none, Value.slice none
  (0 : Nat) (0 : Nat)] }) H') (∃ n, Ld Try.prog (3 : Nat) H' ⟨b_1, (2 : Nat), none⟩ (Value.int IntKind.i64 n) ∧ brB (n != (↑(ByteArray.size s) : Int)) (R (Value.tuple { toList := [Value.int
  IntKind.i64 (0 : Int), Value.map none, Value.slice none (0 : Nat) (0 : Nat)] }) H') (M [] H'))) ∧ ∀ (J : F) (H' : Heap), M [] H' → ∃ s, Ld Try.prog (9 : Nat) H' ⟨b, (0 : Nat), none⟩
  (Value.string s) ∧ ∃ r, Ld Try.prog (82 : Nat) H' ⟨b_1, (4 : Nat), none⟩ (Value.map r) ∧ ∀ (b_2 : Nat) (H'_3 : Heap), New H' b_2 (Obj.cells { toList := [Value.pointer (some d), Value.string
  s, Value.int IntKind.i64 (0 : Int), Value.bool true, Value.map r] } (88 : Nat)) H'_3 → ∀ (b_3 : Nat) (H' : Heap), New H'_3 b_3 (Obj.map ⟨[]⟩ (0 : Nat)) H' → CallH Try.prog (46 : Nat) {
  toList := [Value.pointer (some ⟨b_2, (0 : Nat), none⟩)] } H' fun v H' => ∃ n_3, v = Value.int IntKind.i64 n_3 ∧ ∃ (I : List Value → Heap → Prop) (μ : List Value → Heap → Nat), I
  [Value.string { data := #[] }] H' ∧ ∀ (J : F) (s : ByteArray) (H' : Heap), I [Value.string s] H' → ∃ (M : List Value → Heap → Prop), (∃ b_4, Ld Try.prog (4 : Nat) H' ⟨b_2, (3 : Nat), none⟩
  (Value.bool b_4) ∧ brB b_4 (∃ n_4, Rd Try.prog (Builtin.len_ { toList := [(52 : Nat)] } (3 : Nat) { toList := [Value.map (some b_3)] }) H' (Value.int IntKind.i64 n_4) ∧ brB (decide (n_4 <
  n_3)) (M [] H') (∃ (M : List Value → Heap → Prop), (∃ (M_1 : List Value → Heap → Prop), (∃ b, Ld Try.prog (4 : Nat) H' ⟨b_2, (3 : Nat), none⟩ (Value.bool b) ∧ brB (!b) (M_1 [Value.bool true]
  H') (∃ n, Ld Try.prog (3 : Nat) H' ⟨b_2, (2 : Nat), none⟩ (Value.int IntKind.i64 n) ∧ ∃ s, Ld Try.prog (9 : Nat) H' ⟨b_2, (1 : Nat), none⟩ (Value.string s) ∧ M_1 [Value.bool (n !=
  (↑(ByteArray.size s) : Int))] H')) ∧ ∀ (J : F) (b : Bool) (H' : Heap), M_1 [Value.bool b] H' → brB b (R (Value.tuple { toList := [Value.int IntKind.i64 (0 : Int), Value.map none, Value.slice
  none (0 : Nat) (0 : Nat)] }) H') (M [] H')) ∧ ∀ (J : F) (H' : Heap), M [] H' → ∃ a n_5 c, Ld Try.prog (53 : Nat) H' ⟨b, (1 : Nat), none⟩ (Value.slice a n_5 c) ∧ R (Value.tuple { toList :=
  [Value.int IntKind.i64 n, Value.map (some b_3), Value.slice a n_5 c] }) H')) (∃ (M : List Value → Heap → Prop), (∃ (M_1 : List Value → Heap → Prop), (∃ b, Ld Try.prog (4 : Nat) H' ⟨b_2, (3 :
  Nat), none⟩ (Value.bool b) ∧ brB (!b) (M_1 [Value.bool true] H') (∃ n, Ld Try.prog (3 : Nat) H' ⟨b_2, (2 : Nat), none⟩ (Value.int IntKind.i64 n) ∧ ∃ s, Ld Try.prog (9 : Nat) H' ⟨b_2, (1 :
  Nat), none⟩ (Value.string s) ∧ M_1 [Value.bool (n != (↑(ByteArray.size s) : Int))] H')) ∧ ∀ (J : F) (b : Bool) (H' : Heap), M_1 [Value.bool b] H' → brB b (R (Value.tuple { toList :=
  [Value.int IntKind.i64 (0 : Int), Value.map none, Value.slice none (0 : Nat) (0 : Nat)] }) H') (M [] H')) ∧ ∀ (J : F) (H' : Heap), M [] H' → ∃ a n_4 c, Ld Try.prog (53 : Nat) H' ⟨b, (1 :
  Nat), none⟩ (Value.slice a n_4 c) ∧ R (Value.tuple { toList := [Value.int IntKind.i64 n, Value.map (some b_3), Value.slice a n_4 c] }) H')) ∧ ∀ (J : F) (H'_4 : Heap), M [] H'_4 → CallH
  Try.prog (48 : Nat) { toList := [Value.pointer (some ⟨b_2, (0 : Nat), none⟩)] } H'_4 fun v H'_5 => ∃ s_2, v = Value.string s_2 ∧ CallH Try.prog (46 : Nat) { toList := [Value.pointer (some
  ⟨b_2, (0 : Nat), none⟩)] } H'_5 fun v H'_6 => ∃ n, v = Value.int IntKind.i64 n ∧ ∃ (M : List Value → Heap → Prop), (∃ b, Ld Try.prog (4 : Nat) H'_6 ⟨b_2, (3 : Nat), none⟩ (Value.bool b) ∧
  brB b (∃ H', St Try.prog (4 : Nat) H'_6 ⟨b_2, (3 : Nat), none⟩ (Value.bool !(Op.bytesLess (ByteArray.toList s_2) (ByteArray.toList s) || ByteArray.toList s_2 == ByteArray.toList s)) H' ∧ M
  [] H') (∃ H', St Try.prog (4 : Nat) H'_6 ⟨b_2, (3 : Nat), none⟩ (Value.bool false) H' ∧ M [] H')) ∧ ∀ (J : F) (H'_7 : Heap), M [] H'_7 → CallH Try.prog (47 : Nat) { toList := [Value.pointer
  (some ⟨b_2, (0 : Nat), none⟩), Value.int IntKind.i64 n, Value.func (Fn.func (46 : Nat)) { toList := [Value.pointer (some ⟨b_2, (0 : Nat), none⟩)] } ⟨[]⟩] } H'_7 fun v H'_8 => ∃ s_3 a n c, v
  = Value.agg { toList := [Value.string s_3, Value.slice a n c] } ∧ SemU Try.prog (Instr.mapUpdate (52 : Nat) (Value.map (some b_3)) (Value.string s_2) (Value.agg { toList := [Value.string
  s_3, Value.slice a n c] })) H'_8 fun H'_9 => I [Value.string s_2] H'_9 ∧ μ [Value.string s_2] H'_9 < μ [Value.string s] H') : CallH Try.prog 29 (List.toArray [Value.pointer (some d),
  Value.int IntKind.i64 slot]) H R := vc_call (annOf [([1, 1, 1, 1], .cut []), ([0, 1, 1, 1, 1], .cut [(56, .one .bool)]), ([1, 1, 1, 1, 1, 1], .cut []), ([0, 1, 1, 1, 1, 1, 1, 1], .tail 7),
  ([0, 1, 0, 1, 1, 1, 1, 1, 1, 1, 1, 1, 1], .cut [(15, .one .str)]), ([0, 0, 1, 0, 1, 1, 1, 1, 1, 1, 1, 1, 1, 1], .cut []), ([1, 1, 0, 1, 0, 0, 1, 0, 1, 1, 1, 1, 1, 1, 1, 1, 1, 1], .cut []),
  ([1, 1, 1, 1, 1, 1, 1, 1, 1, 1, 1], .cut []), ([0, 1, 1, 1, 1, 1, 1, 1, 1, 1, 1, 1], .cut [(138, .one .bool)])]) followsAll Go.Proofs.Try.func29 rfl Go.Proofs.Try.ntmps29 rfl rfl (Eq.mpr (by
  kernel_rfl) h)

/- 30 strandline/files.right
  slots: [0=name, 1=name, 3=_, 4=c]  -/
abbrev fn_files_right : Nat := 30
theorem vc_files_right (name : ByteArray) (H : Heap) (R : Value → Heap → Prop) (h : SemWp Try.prog (convert (9 : Nat) (91 : Nat) (Value.string name)) H fun v H' => ∃ a n c, v = Value.slice a
  n c ∧ ∃ (I : List Value → Heap → Prop) (μ : List Value → Heap → Nat), I [Value.int IntKind.i64 (0 : Int)] H' ∧ ∀ (J : F) (n_1 : Int) (H' : Heap), I [Value.int IntKind.i64 n_1] H' → brB
  (decide (n_1 < (↑n : Int))) (exSome a fun ad => chk (decide ((0 : Int) ≤ n_1 ∧ n_1 < (↑n : Int))) (∃ n, Ld Try.prog (5 : Nat) H' (Addr.add ad (Int.toNat n_1 * (1 : Nat))) (Value.int
  IntKind.u8 n) ∧ brB (decide (n < (97 : Int))) (brB (decide (n < (48 : Int))) (brB (n != (46 : Int)) (brB (n != (45 : Int)) (R (Value.bool false) H') (I [Value.int IntKind.i64 (IntKind.wrap
  IntKind.i64 (n_1 + (1 : Int)))] H' ∧ μ [Value.int IntKind.i64 (IntKind.wrap IntKind.i64 (n_1 + (1 : Int)))] H' < μ [Value.int IntKind.i64 n_1] H')) (I [Value.int IntKind.i64 (IntKind.wrap
  IntKind.i64 (n_1 + (1 : Int)))] H' ∧ μ [Value.int IntKind.i64 (IntKind.wrap IntKind.i64 (n_1 + (1 : Int)))] H' < μ [Value.int IntKind.i64 n_1] H')) (brB (decide (n > (57 : Int))) (brB (n !=
  (46 : Int)) (brB (n != (45 : Int)) (R (Value.bool false) H') (I [Value.int IntKind.i64 (IntKind.wrap IntKind.i64 (n_1 + (1 : Int)))] H' ∧ μ [Value.int IntKind.i64 (IntKind.wrap IntKind.i64
  (n_1 + (1 : Int)))] H' < μ [Value.int IntKind.i64 n_1] H')) (I [Value.int IntKind.i64 (IntKind.wrap IntKind.i64 (n_1 + (1 : Int)))] H' ∧ μ [Value.int IntKind.i64 (IntKind.wrap IntKind.i64
  (n_1 + (1 : Int)))] H' < μ [Value.int IntKind.i64 n_1] H')) (I [Value.int IntKind.i64 (IntKind.wrap IntKind.i64 (n_1 + (1 : Int)))] H' ∧ μ [Value.int IntKind.i64 (IntKind.wrap IntKind.i64
  (n_1 + (1 : Int)))] H' < μ [Value.int IntKind.i64 n_1] H'))) (brB (decide (n > (122 : Int))) (brB (decide (n < (48 : Int))) (brB (n != (46 : Int)) (brB (n != (45 : Int)) (R (Value.bool
  false) H') (I [Value.int IntKind.i64 (IntKind.wrap IntKind.i64 (n_1 + (1 : Int)))] H' ∧ μ [Value.int IntKind.i64 (IntKind.wrap IntKind.i64 (n_1 + (1 : Int)))] H' < μ [Value.int IntKind.i64
  n_1] H')) (I [Value.int IntKind.i64 (IntKind.wrap IntKind.i64 (n_1 + (1 : Int)))] H' ∧ μ [Value.int IntKind.i64 (IntKind.wrap IntKind.i64 (n_1 + (1 : Int)))] H' < μ [Value.int IntKind.i64
  n_1] H')) (brB (decide (n > (57 : Int))) (brB (n != (46 : Int)) (brB (n != (45 : Int)) (R (Value.bool false) H') (I [Value.int IntKind.i64 (IntKind.wrap IntKind.i64 (n_1 + (1 : Int)))] H' ∧
  μ [Value.int IntKind.i64 (IntKind.wrap IntKind.i64 (n_1 + (1 : Int)))] H' < μ [Value.int IntKind.i64 n_1] H')) (I [Value.int IntKind.i64 (IntKind.wrap IntKind.i64 (n_1 + (1 : Int)))] H' ∧ μ
  [Value.int IntKind.i64 (IntKind.wrap IntKind.i64 (n_1 + (1 : Int)))] H' < μ [Value.int IntKind.i64 n_1] H')) (I [Value.int IntKind.i64 (IntKind.wrap IntKind.i64 (n_1 + (1 : Int)))] H' ∧ μ
  [Value.int IntKind.i64 (IntKind.wrap IntKind.i64 (n_1 + (1 : Int)))] H' < μ [Value.int IntKind.i64 n_1] H'))) (I [Value.int IntKind.i64 (IntKind.wrap IntKind.i64 (n_1 + (1 : Int)))] H' ∧ μ
  [Value.int IntKind.i64 (IntKind.wrap IntKind.i64 (n_1 + (1 : Int)))] H' < μ [Value.int IntKind.i64 n_1] H')))) (brB (!ByteArray.toList name == ByteArray.toList { data := #[] }) (R
  (Value.bool (decide ((↑(ByteArray.size name) : Int) ≤ (16 : Int)))) H') (R (Value.bool false) H'))) : CallH Try.prog 30 (List.toArray [Value.string name]) H R := vc_call (annOf [([0, 1, 0,
  1], .cut [(8, .one (.int .i64))])]) followsAll Go.Proofs.Try.func30 rfl Go.Proofs.Try.ntmps30 rfl rfl (Eq.mpr (by kernel_rfl) h)

/- 31 (*strandline/files.Store).change
  slots: [0=s, 1=by, 2=s, 3=by, 5=now]  -/
abbrev fn_files_Store_change : Nat := 31
theorem vc_files_Store_change (s : Addr) (by' : Value) (H : Heap) (R : Value → Heap → Prop) (h : ∃ r, Ld Try.prog (51 : Nat) H (Addr.add s (1 : Nat)) (Value.map r) ∧ CallH Try.prog (49 :
  Nat) { toList := [Value.map r] } H fun v H' => ∃ r, v = Value.map r ∧ CallV Try.prog by' [Value.map r] H' fun v H' => v = Value.tuple ⟨[]⟩ ∧ CallH Try.prog (37 : Nat) { toList :=
  [Value.pointer (some s), Value.map r] } H' fun v H' => ∃ a n c r_1 s_1 a_1 n_1 c_1 n_2 n_3 b, v = Value.agg { toList := [Value.slice a n c, Value.map r_1, Value.string s_1, Value.slice a_1
  n_1 c_1, Value.int IntKind.i64 n_2, Value.int IntKind.i64 n_3, Value.bool b] } ∧ brB (!b) (R (Value.int IntKind.i64 (2 : Int)) H') (∃ H'_1, St Try.prog (51 : Nat) H' (Addr.add s (1 : Nat))
  (Value.map r) H'_1 ∧ R (Value.int IntKind.i64 (0 : Int)) H'_1)) : CallH Try.prog 31 (List.toArray [Value.pointer (some s), by']) H R := vc_call (annOf []) followsAll Go.Proofs.Try.func31 rfl
  Go.Proofs.Try.ntmps31 rfl rfl (Eq.mpr (by kernel_rfl) h)

/- 32 (*strandline/files.Store).Write$1
  slots: [0=now, 3=now]  -/
abbrev fn_files_Store_Write_1 : Nat := 32
theorem vc_files_Store_Write_1 (now : Option Nat) (a1 : Addr) (a2 : Addr) (H : Heap) (R : Value → Heap → Prop) (h : ∃ s, Ld Try.prog (9 : Nat) H a2 (Value.string s) ∧ ∃ s_1, Ld Try.prog (9 :
  Nat) H a1 (Value.string s_1) ∧ SemU Try.prog (Instr.mapUpdate (51 : Nat) (Value.map now) (Value.string s) (Value.string s_1)) H fun H' => R (Value.tuple ⟨[]⟩) H') : CallH Try.prog 32
  (List.toArray [Value.map now, Value.pointer (some a1), Value.pointer (some a2)]) H R := vc_call (annOf []) followsAll Go.Proofs.Try.func32 rfl Go.Proofs.Try.ntmps32 rfl rfl (Eq.mpr (by
  kernel_rfl) h)

/- 33 (*strandline/files.Store).Delete$1
  slots: [0=now, 2=now]  -/
abbrev fn_files_Store_Delete_1 : Nat := 33
theorem vc_files_Store_Delete_1 (now : Option Nat) (a1 : Addr) (H : Heap) (R : Value → Heap → Prop) (h : ∃ s, Ld Try.prog (9 : Nat) H a1 (Value.string s) ∧ SemWp Try.prog (Builtin.delete_ {
  toList := [(51 : Nat), (9 : Nat)] } (0 : Nat) { toList := [Value.map now, Value.string s] }) H fun v H' => v = Value.tuple ⟨[]⟩ ∧ R (Value.tuple ⟨[]⟩) H') : CallH Try.prog 33 (List.toArray
  [Value.map now, Value.pointer (some a1)]) H R := vc_call (annOf []) followsAll Go.Proofs.Try.func33 rfl Go.Proofs.Try.ntmps33 rfl rfl (Eq.mpr (by kernel_rfl) h)

/- 34 slices.ContainsFunc[[]string,string]
  slots: [0=s, 1=f, 2=s, 3=f]  -/
abbrev fn_slices_ContainsFunc___string_string_ : Nat := 34
theorem vc_slices_ContainsFunc___string_string_ (s_a : Option Addr) (s_n : Nat) (s_c : Nat) (f : Value) (H : Heap) (R : Value → Heap → Prop) (h : CallH Try.prog (50 : Nat) { toList :=
  [Value.slice s_a s_n s_c, f] } H fun v H' => ∃ n, v = Value.int IntKind.i64 n ∧ R (Value.bool (decide (n ≥ (0 : Int)))) H') : CallH Try.prog 34 (List.toArray [Value.slice s_a s_n s_c, f]) H
  R := vc_call (annOf []) followsAll Go.Proofs.Try.func34 rfl Go.Proofs.Try.ntmps34 rfl rfl (Eq.mpr (by kernel_rfl) h)

/- 35 (*strandline/files.Store).Names
  slots: [0=s, 1=s]  -/
abbrev fn_files_Store_Names : Nat := 35
theorem vc_files_Store_Names (s : Addr) (H : Heap) (R : Value → Heap → Prop) (h : ∃ r, Ld Try.prog (51 : Nat) H (Addr.add s (1 : Nat)) (Value.map r) ∧ CallH Try.prog (52 : Nat) { toList :=
  [Value.map r] } H fun v H' => ∃ v_1, v = v_1 ∧ CallH Try.prog (51 : Nat) { toList := [v_1] } H' fun v H' => ∃ a n c, v = Value.slice a n c ∧ R (Value.slice a n c) H') : CallH Try.prog 35
  (List.toArray [Value.pointer (some s)]) H R := vc_call (annOf []) followsAll Go.Proofs.Try.func35 rfl Go.Proofs.Try.ntmps35 rfl rfl (Eq.mpr (by kernel_rfl) h)

/- 36 (*strandline/files.Store).Sync$1
  slots: [0=n, 2=n, 4=k, 5=is]  -/
abbrev fn_files_Store_Sync_1 : Nat := 36
theorem vc_files_Store_Sync_1 (n : ByteArray) (a1 : Addr) (H : Heap) (R : Value → Heap → Prop) (h : ∃ a, Ld Try.prog (25 : Nat) H a1 (Value.pointer a) ∧ exSome a fun a => ∃ r, Ld Try.prog
  (52 : Nat) H (Addr.add a (2 : Nat)) (Value.map r) ∧ ∃ s a n_1 c b, Rd Try.prog (Instr.lookup (52 : Nat) (Value.map r) (Value.string n) true) H (Value.tuple { toList := [Value.agg { toList :=
  [Value.string s, Value.slice a n_1 c] }, Value.bool b] }) ∧ ∀ (b_1 : Nat) (H' : Heap), New H b_1 (Obj.cells { toList := [Value.string { data := #[] }, Value.slice none (0 : Nat) (0 : Nat)] }
  (59 : Nat)) H' → ∃ H'_1, St Try.prog (59 : Nat) H' ⟨b_1, (0 : Nat), none⟩ (Value.agg { toList := [Value.string s, Value.slice a n_1 c] }) H'_1 ∧ brB (!b) (R (Value.bool true) H'_1) (∃ s, Ld
  Try.prog (9 : Nat) H'_1 ⟨b_1, (0 : Nat), none⟩ (Value.string s) ∧ ∃ a, Ld Try.prog (25 : Nat) H'_1 a1 (Value.pointer a) ∧ exSome a fun a => ∃ r, Ld Try.prog (51 : Nat) H'_1 (Addr.add a (1 :
  Nat)) (Value.map r) ∧ ∃ s_1, Rd Try.prog (Instr.lookup (51 : Nat) (Value.map r) (Value.string n) false) H'_1 (Value.string s_1) ∧ R (Value.bool !ByteArray.toList s == ByteArray.toList s_1)
  H'_1)) : CallH Try.prog 36 (List.toArray [Value.string n, Value.pointer (some a1)]) H R := vc_call (annOf []) followsAll Go.Proofs.Try.func36 rfl Go.Proofs.Try.ntmps36 rfl rfl (Eq.mpr (by
  kernel_rfl) h)

/- 37 (*strandline/files.Store).planned
  slots: [0=s, 1=now, 2=s, 3=now, 5=free, 6=p, 7=take, 8=dir, 9=_, 10=name, 11=k, 12=was, 13=old, 14=j, 15=c, 16=n, 17=_, 18=c, 19=k]  -/
abbrev fn_files_Store_planned : Nat := 37
theorem vc_files_Store_planned (s : Addr) (now : Option Nat) (H : Heap) (R : Value → Heap → Prop) (h : ∀ (b : Nat) (H' : Heap), New H b (Obj.cells { toList := [Value.slice none (0 : Nat) (0
  : Nat), Value.map none, Value.string { data := #[] }, Value.slice none (0 : Nat) (0 : Nat), Value.int IntKind.i64 (0 : Int), Value.int IntKind.i64 (0 : Int), Value.bool false] } (72 : Nat))
  H' → CallH Try.prog (54 : Nat) { toList := [Value.pointer (some s)] } H' fun v H' => ∃ v_1, v = v_1 ∧ CallH Try.prog (53 : Nat) { toList := [v_1] } H' fun v H' => ∃ a n c, v = Value.slice a
  n c ∧ ∀ (b_1 : Nat) (H'_1 : Heap), New H' b_1 (Obj.cells { toList := [Value.slice none (0 : Nat) (0 : Nat)] } (53 : Nat)) H'_1 → ∃ H', St Try.prog (53 : Nat) H'_1 ⟨b_1, (0 : Nat), none⟩
  (Value.slice a n c) H' ∧ ∀ (b_2 : Nat) (H'_2 : Heap), New H' b_2 (Obj.map ⟨[]⟩ (0 : Nat)) H'_2 → ∀ (b_3 : Nat) (H' : Heap), New H'_2 b_3 (Obj.cells { toList := [Value.slice none (0 : Nat) (0
  : Nat), Value.map none, Value.string { data := #[] }, Value.slice none (0 : Nat) (0 : Nat), Value.int IntKind.i64 (0 : Int), Value.int IntKind.i64 (0 : Int), Value.bool false] } (72 : Nat))
  H' → ∃ H'_3, St Try.prog (72 : Nat) H' ⟨b_3, (0 : Nat), none⟩ (Value.agg { toList := [Value.slice none (0 : Nat) (0 : Nat), Value.map (some b_2), Value.string { data := #[] }, Value.slice
  none (0 : Nat) (0 : Nat), Value.int IntKind.i64 (0 : Int), Value.int IntKind.i64 (0 : Int), Value.bool true] }) H'_3 ∧ ∃ n, Rd Try.prog (Builtin.len_ { toList := [(51 : Nat)] } (3 : Nat) {
  toList := [Value.map now] }) H'_3 (Value.int IntKind.i64 n) ∧ CallH Try.prog (38 : Nat) { toList := [Value.int IntKind.u64 (IntKind.wrap IntKind.u64 n)] } H'_3 fun v H' => ∃ s_1, v =
  Value.string s_1 ∧ CallH Try.prog (52 : Nat) { toList := [Value.map now] } H' fun v H' => ∃ v_2, v = v_2 ∧ CallH Try.prog (51 : Nat) { toList := [v_2] } H' fun v H' => ∃ a n c, v =
  Value.slice a n c ∧ ∃ (I : List Value → Heap → Prop) (μ : List Value → Heap → Nat), I [Value.string s_1, Value.int IntKind.i64 (0 : Int)] H' ∧ ∀ (J : F) (s_2 : ByteArray) (n_1 : Int) (H' :
  Heap), I [Value.string s_2, Value.int IntKind.i64 n_1] H' → brB (decide (n_1 < (↑n : Int))) (exSome a fun ad => chk (decide ((0 : Int) ≤ n_1 ∧ n_1 < (↑n : Int))) (∃ s_3, Ld Try.prog (9 :
  Nat) H' (Addr.add ad (Int.toNat n_1 * (1 : Nat))) (Value.string s_3) ∧ ∃ s_4, Rd Try.prog (Instr.lookup (51 : Nat) (Value.map now) (Value.string s_3) false) H' (Value.string s_4) ∧ ∀ (b :
  Nat) (H'_4 : Heap), New H' b (Obj.cells { toList := [Value.string { data := #[] }, Value.slice none (0 : Nat) (0 : Nat)] } (59 : Nat)) H'_4 → ∃ H'_5, St Try.prog (59 : Nat) H'_4 ⟨b, (0 :
  Nat), none⟩ (Value.agg { toList := [Value.string s_4, Value.slice none (0 : Nat) (0 : Nat)] }) H'_5 ∧ ∃ r, Ld Try.prog (52 : Nat) H'_5 (Addr.add s (2 : Nat)) (Value.map r) ∧ ∃ s a n c, Rd
  Try.prog (Instr.lookup (52 : Nat) (Value.map r) (Value.string s_3) false) H'_5 (Value.agg { toList := [Value.string s, Value.slice a n c] }) ∧ ∀ (b_4 : Nat) (H'_6 : Heap), New H'_5 b_4
  (Obj.cells { toList := [Value.string { data := #[] }, Value.slice none (0 : Nat) (0 : Nat)] } (59 : Nat)) H'_6 → ∃ H'_7, St Try.prog (59 : Nat) H'_6 ⟨b_4, (0 : Nat), none⟩ (Value.agg {
  toList := [Value.string s, Value.slice a n c] }) H'_7 ∧ ∃ s, Ld Try.prog (9 : Nat) H'_7 ⟨b_4, (0 : Nat), none⟩ (Value.string s) ∧ CallH Try.prog (56 : Nat) { toList := [Value.string s] }
  H'_7 fun v H'_8 => ∃ a n c, v = Value.slice a n c ∧ ∃ s, Ld Try.prog (9 : Nat) H'_8 ⟨b, (0 : Nat), none⟩ (Value.string s) ∧ CallH Try.prog (57 : Nat) { toList := [Value.string s_3] } H'_8
  fun v H'_9 => ∃ s_5, v = Value.string s_5 ∧ Ld Try.prog (9 : Nat) H'_9 ⟨b, (0 : Nat), none⟩ (Value.string s) ∧ CallH Try.prog (38 : Nat) { toList := [Value.int IntKind.u64 (IntKind.wrap
  IntKind.u64 (↑(ByteArray.size s) : Int))] } H'_9 fun v H'_10 => ∃ s, v = Value.string s ∧ chk (decide (ByteArray.size s_5 + ByteArray.size s ≤ (9223372036854775807 : Nat))) (chk (decide
  (ByteArray.size s_2 + ByteArray.size (s_5 ++ s) ≤ (9223372036854775807 : Nat))) (∃ s_6, Ld Try.prog (9 : Nat) H'_10 ⟨b, (0 : Nat), none⟩ (Value.string s_6) ∧ CallH Try.prog (56 : Nat) {
  toList := [Value.string s_6] } H'_10 fun v H'_11 => ∃ a_4 n_2 c, v = Value.slice a_4 n_2 c ∧ ∃ (I_1 : List Value → Heap → Prop) (μ_1 : List Value → Heap → Nat), I_1 [Value.string (s_2 ++
  (s_5 ++ s)), Value.int IntKind.i64 (0 : Int)] H'_11 ∧ ∀ (J : F) (s : ByteArray) (n_3 : Int) (H'_12 : Heap), I_1 [Value.string s, Value.int IntKind.i64 n_3] H'_12 → brB (decide (n_3 < (↑n_2 :
  Int))) (exSome a_4 fun ad => chk (decide ((0 : Int) ≤ n_3 ∧ n_3 < (↑n_2 : Int))) (∃ s_7, Ld Try.prog (9 : Nat) H'_12 (Addr.add ad (Int.toNat n_3 * (1 : Nat))) (Value.string s_7) ∧ ∃ (M :
  List Value → Heap → Prop), (∃ (M_1 : List Value → Heap → Prop), brB (decide (n_3 < (↑n : Int))) (exSome a fun ad => chk (decide ((0 : Int) ≤ n_3 ∧ n_3 < (↑n : Int))) (∃ s, Ld Try.prog (9 :
  Nat) H'_12 (Addr.add ad (Int.toNat n_3 * (1 : Nat))) (Value.string s) ∧ M_1 [Value.bool (ByteArray.toList s == ByteArray.toList s_7)] H'_12)) (M_1 [Value.bool false] H'_12) ∧ ∀ (J : F) (b :
  Bool) (H' : Heap), M_1 [Value.bool b] H' → brB b (∃ a n c, Ld Try.prog (53 : Nat) H' ⟨b_4, (1 : Nat), none⟩ (Value.slice a n c) ∧ exSome a fun ad => chk (decide ((0 : Int) ≤ n_3 ∧ n_3 < (↑n
  : Int))) (∃ n, Ld Try.prog (3 : Nat) H' (Addr.add ad (Int.toNat n_3 * (1 : Nat))) (Value.int IntKind.i64 n) ∧ M [Value.int IntKind.i64 n] H')) (CallV Try.prog (Value.func (Fn.func (55 :
  Nat)) ⟨[]⟩ { toList := [Value.pointer (some ⟨b_3, (0 : Nat), none⟩), Value.pointer (some ⟨b_1, (0 : Nat), none⟩)] }) [Value.string s_7] H' fun v H' => ∃ n, v = Value.int IntKind.i64 n ∧ M
  [Value.int IntKind.i64 n] H')) ∧ ∀ (J : F) (n : Int) (H' : Heap), M [Value.int IntKind.i64 n] H' → ∃ a n_4 c, Ld Try.prog (53 : Nat) H' ⟨b, (1 : Nat), none⟩ (Value.slice a n_4 c) ∧ ∀ (b_5 :
  Nat) (H'_13 : Heap), New H' b_5 (Obj.cells { toList := [Value.int IntKind.i64 n] } (3 : Nat)) H'_13 → SemWp Try.prog (Builtin.append_ { toList := [(53 : Nat), (53 : Nat)] } (53 : Nat) {
  toList := [Value.slice a n_4 c, Value.slice (some ⟨b_5, (0 : Nat), none⟩) (1 : Nat) (1 : Nat)] }) H'_13 fun v H' => ∃ a n_5 c, v = Value.slice a n_5 c ∧ ∃ H'_14, St Try.prog (53 : Nat) H'
  ⟨b, (1 : Nat), none⟩ (Value.slice a n_5 c) H'_14 ∧ CallH Try.prog (38 : Nat) { toList := [Value.int IntKind.u64 (IntKind.wrap IntKind.u64 n)] } H'_14 fun v H' => ∃ s_8, v = Value.string s_8
  ∧ chk (decide (ByteArray.size s + ByteArray.size s_8 ≤ (9223372036854775807 : Nat))) (I_1 [Value.string (s ++ s_8), Value.int IntKind.i64 (IntKind.wrap IntKind.i64 (n_3 + (1 : Int)))] H' ∧
  μ_1 [Value.string (s ++ s_8), Value.int IntKind.i64 (IntKind.wrap IntKind.i64 (n_3 + (1 : Int)))] H' < μ_1 [Value.string s, Value.int IntKind.i64 n_3] H'_12))) (∃ r, Ld Try.prog (52 : Nat)
  H'_12 ⟨b_3, (1 : Nat), none⟩ (Value.map r) ∧ ∃ s_7 a n c, Ld Try.prog (59 : Nat) H'_12 ⟨b, (0 : Nat), none⟩ (Value.agg { toList := [Value.string s_7, Value.slice a n c] }) ∧ SemU Try.prog
  (Instr.mapUpdate (52 : Nat) (Value.map r) (Value.string s_3) (Value.agg { toList := [Value.string s_7, Value.slice a n c] })) H'_12 fun H'_13 => ∃ n, Ld Try.prog (3 : Nat) H'_13 ⟨b_3, (4 :
  Nat), none⟩ (Value.int IntKind.i64 n) ∧ ∃ a n_4 c, Ld Try.prog (53 : Nat) H'_13 ⟨b, (1 : Nat), none⟩ (Value.slice a n_4 c) ∧ ∃ H'_14, St Try.prog (3 : Nat) H'_13 ⟨b_3, (4 : Nat), none⟩
  (Value.int IntKind.i64 (IntKind.wrap IntKind.i64 (n + (↑n_4 : Int)))) H'_14 ∧ I [Value.string s, Value.int IntKind.i64 (IntKind.wrap IntKind.i64 (n_1 + (1 : Int)))] H'_14 ∧ μ [Value.string
  s, Value.int IntKind.i64 (IntKind.wrap IntKind.i64 (n_1 + (1 : Int)))] H'_14 < μ [Value.string s_2, Value.int IntKind.i64 n_1] H'))))) (∃ H'_4, St Try.prog (9 : Nat) H' ⟨b_3, (2 : Nat),
  none⟩ (Value.string s_2) H'_4 ∧ CallH Try.prog (56 : Nat) { toList := [Value.string s_2] } H'_4 fun v H' => ∃ a n c, v = Value.slice a n c ∧ ∃ (I : List Value → Heap → Prop) (μ : List Value
  → Heap → Nat), I [Value.int IntKind.i64 (0 : Int)] H' ∧ ∀ (J : F) (n_2 : Int) (H' : Heap), I [Value.int IntKind.i64 n_2] H' → brB (decide (n_2 < (↑n : Int))) (exSome a fun ad => chk (decide
  ((0 : Int) ≤ n_2 ∧ n_2 < (↑n : Int))) (∃ s, Ld Try.prog (9 : Nat) H' (Addr.add ad (Int.toNat n_2 * (1 : Nat))) (Value.string s) ∧ ∃ a n c, Ld Try.prog (53 : Nat) H' ⟨b_3, (3 : Nat), none⟩
  (Value.slice a n c) ∧ CallV Try.prog (Value.func (Fn.func (55 : Nat)) ⟨[]⟩ { toList := [Value.pointer (some ⟨b_3, (0 : Nat), none⟩), Value.pointer (some ⟨b_1, (0 : Nat), none⟩)] })
  [Value.string s] H' fun v H'_5 => ∃ n_3, v = Value.int IntKind.i64 n_3 ∧ Ld Try.prog (53 : Nat) H'_5 ⟨b_3, (3 : Nat), none⟩ (Value.slice a n c) ∧ ∀ (b : Nat) (H'_6 : Heap), New H'_5 b
  (Obj.cells { toList := [Value.int IntKind.i64 n_3] } (3 : Nat)) H'_6 → Ld Try.prog (53 : Nat) H'_6 ⟨b_3, (3 : Nat), none⟩ (Value.slice a n c) ∧ SemWp Try.prog (Builtin.append_ { toList :=
  [(53 : Nat), (53 : Nat)] } (53 : Nat) { toList := [Value.slice a n c, Value.slice (some ⟨b, (0 : Nat), none⟩) (1 : Nat) (1 : Nat)] }) H'_6 fun v H'_7 => ∃ a n c, v = Value.slice a n c ∧ ∃
  H'_8, St Try.prog (53 : Nat) H'_7 ⟨b_3, (3 : Nat), none⟩ (Value.slice a n c) H'_8 ∧ I [Value.int IntKind.i64 (IntKind.wrap IntKind.i64 (n_2 + (1 : Int)))] H'_8 ∧ μ [Value.int IntKind.i64
  (IntKind.wrap IntKind.i64 (n_2 + (1 : Int)))] H'_8 < μ [Value.int IntKind.i64 n_2] H')) (∃ a n c, Ld Try.prog (53 : Nat) H' ⟨b_3, (3 : Nat), none⟩ (Value.slice a n c) ∧ ∃ b_4, Ld Try.prog (4
  : Nat) H' ⟨b_3, (6 : Nat), none⟩ (Value.bool b_4) ∧ brB b_4 (brB (decide ((↑n : Int) ≤ (20 : Int))) (∃ n_3, Ld Try.prog (3 : Nat) H' ⟨b_3, (4 : Nat), none⟩ (Value.int IntKind.i64 n_3) ∧ ∃ a,
  Ld Try.prog (29 : Nat) H' s (Value.pointer a) ∧ CallH Try.prog (43 : Nat) { toList := [Value.pointer a] } H' fun v H' => ∃ n_4, v = Value.int IntKind.i64 n_4 ∧ Ld Try.prog (3 : Nat) H' ⟨b_3,
  (4 : Nat), none⟩ (Value.int IntKind.i64 n_3) ∧ ∃ H'_5, St Try.prog (4 : Nat) H' ⟨b_3, (6 : Nat), none⟩ (Value.bool (decide (IntKind.wrap IntKind.i64 (n_3 + IntKind.wrap IntKind.i64 ((2 :
  Int) * (↑n : Int))) ≤ IntKind.wrap IntKind.i64 (n_4 - (2 : Int))))) H'_5 ∧ ∃ a n c r s a_4 n_5 c_1 n_6 n_7 b_5, Ld Try.prog (72 : Nat) H'_5 ⟨b_3, (0 : Nat), none⟩ (Value.agg { toList :=
  [Value.slice a n c, Value.map r, Value.string s, Value.slice a_4 n_5 c_1, Value.int IntKind.i64 n_6, Value.int IntKind.i64 n_7, Value.bool b_5] }) ∧ ∃ H', St Try.prog (72 : Nat) H'_5 ⟨b, (0
  : Nat), none⟩ (Value.agg { toList := [Value.slice a n c, Value.map r, Value.string s, Value.slice a_4 n_5 c_1, Value.int IntKind.i64 n_6, Value.int IntKind.i64 n_7, Value.bool b_5] }) H' ∧ ∃
  a n c r s a_5 n_8 c_2 n_9 n_10 b_6, Ld Try.prog (72 : Nat) H' ⟨b, (0 : Nat), none⟩ (Value.agg { toList := [Value.slice a n c, Value.map r, Value.string s, Value.slice a_5 n_8 c_2, Value.int
  IntKind.i64 n_9, Value.int IntKind.i64 n_10, Value.bool b_6] }) ∧ R (Value.agg { toList := [Value.slice a n c, Value.map r, Value.string s, Value.slice a_5 n_8 c_2, Value.int IntKind.i64
  n_9, Value.int IntKind.i64 n_10, Value.bool b_6] }) H') (∃ H'_5, St Try.prog (4 : Nat) H' ⟨b_3, (6 : Nat), none⟩ (Value.bool false) H'_5 ∧ ∃ a n c r s a_4 n_3 c_1 n_4 n_5 b_5, Ld Try.prog
  (72 : Nat) H'_5 ⟨b_3, (0 : Nat), none⟩ (Value.agg { toList := [Value.slice a n c, Value.map r, Value.string s, Value.slice a_4 n_3 c_1, Value.int IntKind.i64 n_4, Value.int IntKind.i64 n_5,
  Value.bool b_5] }) ∧ ∃ H', St Try.prog (72 : Nat) H'_5 ⟨b, (0 : Nat), none⟩ (Value.agg { toList := [Value.slice a n c, Value.map r, Value.string s, Value.slice a_4 n_3 c_1, Value.int
  IntKind.i64 n_4, Value.int IntKind.i64 n_5, Value.bool b_5] }) H' ∧ ∃ a n c r s a_5 n_6 c_2 n_7 n_8 b_6, Ld Try.prog (72 : Nat) H' ⟨b, (0 : Nat), none⟩ (Value.agg { toList := [Value.slice a
  n c, Value.map r, Value.string s, Value.slice a_5 n_6 c_2, Value.int IntKind.i64 n_7, Value.int IntKind.i64 n_8, Value.bool b_6] }) ∧ R (Value.agg { toList := [Value.slice a n c, Value.map
  r, Value.string s, Value.slice a_5 n_6 c_2, Value.int IntKind.i64 n_7, Value.int IntKind.i64 n_8, Value.bool b_6] }) H')) (∃ H'_5, St Try.prog (4 : Nat) H' ⟨b_3, (6 : Nat), none⟩ (Value.bool
  false) H'_5 ∧ ∃ a n c r s a_4 n_3 c_1 n_4 n_5 b_5, Ld Try.prog (72 : Nat) H'_5 ⟨b_3, (0 : Nat), none⟩ (Value.agg { toList := [Value.slice a n c, Value.map r, Value.string s, Value.slice a_4
  n_3 c_1, Value.int IntKind.i64 n_4, Value.int IntKind.i64 n_5, Value.bool b_5] }) ∧ ∃ H', St Try.prog (72 : Nat) H'_5 ⟨b, (0 : Nat), none⟩ (Value.agg { toList := [Value.slice a n c,
  Value.map r, Value.string s, Value.slice a_4 n_3 c_1, Value.int IntKind.i64 n_4, Value.int IntKind.i64 n_5, Value.bool b_5] }) H' ∧ ∃ a n c r s a_5 n_6 c_2 n_7 n_8 b_6, Ld Try.prog (72 :
  Nat) H' ⟨b, (0 : Nat), none⟩ (Value.agg { toList := [Value.slice a n c, Value.map r, Value.string s, Value.slice a_5 n_6 c_2, Value.int IntKind.i64 n_7, Value.int IntKind.i64 n_8, Value.bool
  b_6] }) ∧ R (Value.agg { toList := [Value.slice a n c, Value.map r, Value.string s, Value.slice a_5 n_6 c_2, Value.int IntKind.i64 n_7, Value.int IntKind.i64 n_8, Value.bool b_6] }) H')))) :
  CallH Try.prog 37 (List.toArray [Value.pointer (some s), Value.map now]) H R := vc_call (annOf [([0, 1, 0, 1, 1, 1, 1, 1], .cut [(8, .one .str), (34, .one (.int .i64))]), ([0, 1, 1, 1, 1, 0,
  0, 1, 1, 0, 0, 1, 0, 1, 1, 1, 1, 1], .reg [0, 0, 2, 0, 8, 24, 56, 126, 254, 511, 1023] (.quiet 0 (.quiet 1 (.quiet 3 (.quiet 4 (.quiet 5 (.quiet 6 (.pick (.alt 2 (.pick (.alt 7 (.quiet 8
  (.quiet 9 (.quiet 10 .done))) .stop)) .stop))))))))), ([0, 1, 0, 1, 1, 1, 1, 1, 0, 0, 1, 1, 0, 0, 1, 0, 1, 1, 1, 1, 1], .cut [(8, .one .str), (65, .one (.int .i64))]), ([1, 1, 0, 0, 1, 1, 0,
  0, 1, 0, 1, 1, 1, 1, 1, 0, 0, 1, 1, 0, 0, 1, 0, 1, 1, 1, 1, 1], .cut [(16, .one (.int .i64))]), ([0, 1, 1, 0, 0, 1, 1, 0, 0, 1, 0, 1, 1, 1, 1, 1, 0, 0, 1, 1, 0, 0, 1, 0, 1, 1, 1, 1, 1], .cut
  [(81, .one .bool)]), ([0, 1, 0, 1, 1, 1, 1, 1, 1, 1], .cut [(120, .one (.int .i64))]), ([1, 0, 0, 1, 1, 0, 0, 1, 0, 1, 1, 1, 1, 1, 1, 1], .reg [0, 1, 3, 0, 0, 24, 56, 127, 255, 511, 1023]
  (.quiet 0 (.quiet 1 (.quiet 2 (.quiet 3 (.quiet 4 (.pick (.alt 5 (.pick (.alt 6 (.pick (.alt 7 (.quiet 8 (.quiet 9 (.pick (.alt 10 (.done) .stop)))) .stop)) .stop)) .stop)))))))), ([0, 1, 1,
  1, 1, 1, 1, 1, 1, 1], .reg [0, 1, 3, 7, 15, 31, 63, 127, 255, 127, 639, 2047, 127, 4223, 12415, 28799, 61567, 127103, 262143, 524287, 1048575, 2097151] (.quiet 0 (.quiet 1 (.quiet 2 (.quiet
  3 (.quiet 4 (.quiet 5 (.quiet 6 (.quiet 7 (.quiet 8 (.quiet 9 (.quiet 10 (.quiet 11 (.quiet 12 (.quiet 13 (.quiet 14 (.quiet 15 (.pick (.alt 16 (.quiet 17 (.quiet 18 (.quiet 19 (.quiet 20
  (.pick (.alt 21 (.done) .stop)))))) .stop)))))))))))))))))))]) followsAll Go.Proofs.Try.func37 rfl Go.Proofs.Try.ntmps37 rfl rfl (Eq.mpr (by kernel_rfl) h)

/- 38 strandline/zig.Uint
  slots: [0=n, 1=n, 3=b]  -/
abbrev fn_zig_Uint : Nat := 38
theorem vc_zig_Uint (n : Int) (H : Heap) (R : Value → Heap → Prop) (h : SemWp Try.prog (Instr.makeSlice (91 : Nat) (Value.int IntKind.i64 (0 : Int)) (Value.int IntKind.i64 (10 : Int))) H fun
  v H' => ∃ a n_1 c, v = Value.slice a n_1 c ∧ ∃ (I : List Value → Heap → Prop) (μ : List Value → Heap → Nat), I [Value.int IntKind.u64 n, Value.slice a n_1 c] H' ∧ ∀ (J : F) (n : Int) (a :
  Option Addr) (n_2 c : Nat) (H' : Heap), I [Value.int IntKind.u64 n, Value.slice a n_2 c] H' → brB (decide (n ≥ (128 : Int))) (∀ (b : Nat) (H'_1 : Heap), New H' b (Obj.cells { toList :=
  [Value.int IntKind.u8 (IntKind.wrap IntKind.u8 (↑(BitVec.toNat (BitVec.ofInt (8 : Nat) (IntKind.wrap IntKind.u8 n) ||| BitVec.ofInt (8 : Nat) (128 : Int))) : Int))] } (5 : Nat)) H'_1 → SemWp
  Try.prog (Builtin.append_ { toList := [(91 : Nat), (91 : Nat)] } (91 : Nat) { toList := [Value.slice a n_2 c, Value.slice (some ⟨b, (0 : Nat), none⟩) (1 : Nat) (1 : Nat)] }) H'_1 fun v H'_2
  => ∃ a_3 n_3 c_1, v = Value.slice a_3 n_3 c_1 ∧ I [Value.int IntKind.u64 (Int.fdiv n ((2 : Int) ^ (7 : Nat))), Value.slice a_3 n_3 c_1] H'_2 ∧ μ [Value.int IntKind.u64 (Int.fdiv n ((2 : Int)
  ^ (7 : Nat))), Value.slice a_3 n_3 c_1] H'_2 < μ [Value.int IntKind.u64 n, Value.slice a n_2 c] H') (∀ (b : Nat) (H'_1 : Heap), New H' b (Obj.cells { toList := [Value.int IntKind.u8
  (IntKind.wrap IntKind.u8 n)] } (5 : Nat)) H'_1 → SemWp Try.prog (Builtin.append_ { toList := [(91 : Nat), (91 : Nat)] } (91 : Nat) { toList := [Value.slice a n_2 c, Value.slice (some ⟨b, (0
  : Nat), none⟩) (1 : Nat) (1 : Nat)] }) H'_1 fun v H' => ∃ a n c, v = Value.slice a n c ∧ SemWp Try.prog (convert (91 : Nat) (9 : Nat) (Value.slice a n c)) H' fun v H' => ∃ s, v =
  Value.string s ∧ R (Value.string s) H')) : CallH Try.prog 38 (List.toArray [Value.int IntKind.u64 n]) H R := vc_call (annOf [([0, 0, 1, 1], .cut [(0, .one (.int .u64)), (3, .one .slice)])])
  followsAll Go.Proofs.Try.func38 rfl Go.Proofs.Try.ntmps38 rfl rfl (Eq.mpr (by kernel_rfl) h)

/- 39 (*strandline/files.Store).lay
  slots: [0=s, 1=l, 2=s, 3=l, 5=_, 6=p, 7=e]  -/
abbrev fn_files_Store_lay : Nat := 39
theorem vc_files_Store_lay (s : Addr) (l_a : Option Addr) (l_n : Nat) (l_c : Nat) (H : Heap) (R : Value → Heap → Prop) (h : ∃ (I : List Value → Heap → Prop) (μ : List Value → Heap → Nat), I
  [Value.int IntKind.i64 (0 : Int)] H ∧ ∀ (J : F) (n : Int) (H' : Heap), I [Value.int IntKind.i64 n] H' → brB (decide (n < (↑l_n : Int))) (exSome l_a fun ad => chk (decide ((0 : Int) ≤ n ∧ n <
  (↑l_n : Int))) (∃ n_1 s_1, Ld Try.prog (76 : Nat) H' (Addr.add ad (Int.toNat n * (2 : Nat))) (Value.agg { toList := [Value.int IntKind.i64 n_1, Value.string s_1] }) ∧ ∀ (b : Nat) (H'_1 :
  Heap), New H' b (Obj.cells { toList := [Value.int IntKind.i64 (0 : Int), Value.string { data := #[] }] } (76 : Nat)) H'_1 → ∃ H'_2, St Try.prog (76 : Nat) H'_1 ⟨b, (0 : Nat), none⟩
  (Value.agg { toList := [Value.int IntKind.i64 n_1, Value.string s_1] }) H'_2 ∧ ∃ a, Ld Try.prog (29 : Nat) H'_2 s (Value.pointer a) ∧ ∃ n_2, Ld Try.prog (3 : Nat) H'_2 ⟨b, (0 : Nat), none⟩
  (Value.int IntKind.i64 n_2) ∧ ∃ s, Ld Try.prog (9 : Nat) H'_2 ⟨b, (1 : Nat), none⟩ (Value.string s) ∧ CallH Try.prog (58 : Nat) { toList := [Value.pointer a, Value.int IntKind.i64 n_2,
  Value.string s] } H'_2 fun v H'_3 => ∃ n_3, v = Value.int IntKind.i64 n_3 ∧ brB (n_3 != (0 : Int)) (R (Value.int IntKind.i64 n_3) H'_3) (I [Value.int IntKind.i64 (IntKind.wrap IntKind.i64 (n
  + (1 : Int)))] H'_3 ∧ μ [Value.int IntKind.i64 (IntKind.wrap IntKind.i64 (n + (1 : Int)))] H'_3 < μ [Value.int IntKind.i64 n] H'))) (∃ a, Ld Try.prog (29 : Nat) H' s (Value.pointer a) ∧
  CallH Try.prog (59 : Nat) { toList := [Value.pointer a] } H' fun v H' => ∃ n, v = Value.int IntKind.i64 n ∧ R (Value.int IntKind.i64 n) H')) : CallH Try.prog 39 (List.toArray [Value.pointer
  (some s), Value.slice l_a l_n l_c]) H R := vc_call (annOf [([0, 1, 0, 1], .cut [(10, .one (.int .i64))]), ([0, 1, 0, 0, 1, 1, 0, 0, 1, 0, 1], .tail 8)]) followsAll Go.Proofs.Try.func39 rfl
  Go.Proofs.Try.ntmps39 rfl rfl (Eq.mpr (by kernel_rfl) h)

/- 40 (*strandline/files.Store).Rename$1
  slots: [0=now, 4=now]  -/
abbrev fn_files_Store_Rename_1 : Nat := 40
theorem vc_files_Store_Rename_1 (now : Option Nat) (a1 : Addr) (a2 : Addr) (a3 : Addr) (H : Heap) (R : Value → Heap → Prop) (h : ∃ s, Ld Try.prog (9 : Nat) H a1 (Value.string s) ∧ SemWp
  Try.prog (Builtin.delete_ { toList := [(51 : Nat), (9 : Nat)] } (0 : Nat) { toList := [Value.map now, Value.string s] }) H fun v H' => v = Value.tuple ⟨[]⟩ ∧ ∃ s, Ld Try.prog (9 : Nat) H' a3
  (Value.string s) ∧ ∃ s_1, Ld Try.prog (9 : Nat) H' a2 (Value.string s_1) ∧ SemU Try.prog (Instr.mapUpdate (51 : Nat) (Value.map now) (Value.string s) (Value.string s_1)) H' fun H' => R
  (Value.tuple ⟨[]⟩) H') : CallH Try.prog 40 (List.toArray [Value.map now, Value.pointer (some a1), Value.pointer (some a2), Value.pointer (some a3)]) H R := vc_call (annOf []) followsAll
  Go.Proofs.Try.func40 rfl Go.Proofs.Try.ntmps40 rfl rfl (Eq.mpr (by kernel_rfl) h)

/- 41 (*strandline/block.Disk).settle
  slots: [0=d, 1=pick, 2=d, 3=pick, 4=order, 5=i, 6=j, 7=i, 8=l, 9=k]  -/
abbrev fn_block_Disk_settle : Nat := 41
theorem vc_block_Disk_settle (d : Addr) (pick : Value) (H : Heap) (R : Value → Heap → Prop) (h : ∃ r, Ld Try.prog (60 : Nat) H (Addr.add d (513 : Nat)) (Value.map r) ∧ SemWp Try.prog
  (Instr.range (60 : Nat) (Value.map r)) H fun v H' => ∃ a, v = Value.pointer a ∧ ∃ (I : List Value → Heap → Prop) (μ : List Value → Heap → Nat), I [Value.slice none (0 : Nat) (0 : Nat)] H' ∧
  ∀ (J : F) (a_1 : Option Addr) (n c : Nat) (H' : Heap), I [Value.slice a_1 n c] H' → SemWp Try.prog (Instr.next (Value.pointer a) false (0 : Nat)) H' fun v H'_1 => (v = Value.tuple { toList
  := [Value.bool false] } ∧ CallH Try.prog (60 : Nat) { toList := [Value.slice a_1 n c] } H'_1 fun v H' => v = Value.tuple ⟨[]⟩ ∧ ∃ (I : List Value → Heap → Prop) (μ : List Value → Heap →
  Nat), I [Value.int IntKind.i64 (0 : Int)] H' ∧ ∀ (J : F) (n_1 : Int) (H' : Heap), I [Value.int IntKind.i64 n_1] H' → brB (decide (n_1 < (↑n : Int))) (exSome a_1 fun ad => chk (decide ((0 :
  Int) ≤ n_1 ∧ n_1 < (↑n : Int))) (∃ n, Ld Try.prog (3 : Nat) H' (Addr.add ad (Int.toNat n_1 * (1 : Nat))) (Value.int IntKind.i64 n) ∧ ∃ r, Ld Try.prog (60 : Nat) H' (Addr.add d (513 : Nat))
  (Value.map r) ∧ ∃ a n_2 c, Rd Try.prog (Instr.lookup (60 : Nat) (Value.map r) (Value.int IntKind.i64 n) false) H' (Value.slice a n_2 c) ∧ CallV Try.prog pick [Value.int IntKind.i64 n_1,
  Value.int IntKind.i64 (↑n_2 : Int)] H' fun v H'_2 => ∃ n_3, v = Value.int IntKind.i64 n_3 ∧ brB (decide (n_3 > (0 : Int))) (exSome a fun ad => chk (decide ((0 : Int) ≤ IntKind.wrap
  IntKind.i64 (n_3 - (1 : Int)) ∧ IntKind.wrap IntKind.i64 (n_3 - (1 : Int)) < (↑n_2 : Int))) (∃ s, Ld Try.prog (9 : Nat) H'_2 (Addr.add ad (Int.toNat (IntKind.wrap IntKind.i64 (n_3 - (1 :
  Int))) * (1 : Nat))) (Value.string s) ∧ chk (decide ((0 : Int) ≤ n ∧ n < (↑(512 : Nat) : Int))) (∃ H'_3, St Try.prog (9 : Nat) H'_2 (Addr.add (Addr.add d (1 : Nat)) (Int.toNat n * (1 :
  Nat))) (Value.string s) H'_3 ∧ I [Value.int IntKind.i64 (IntKind.wrap IntKind.i64 (n_1 + (1 : Int)))] H'_3 ∧ μ [Value.int IntKind.i64 (IntKind.wrap IntKind.i64 (n_1 + (1 : Int)))] H'_3 < μ
  [Value.int IntKind.i64 n_1] H'))) (I [Value.int IntKind.i64 (IntKind.wrap IntKind.i64 (n_1 + (1 : Int)))] H'_2 ∧ μ [Value.int IntKind.i64 (IntKind.wrap IntKind.i64 (n_1 + (1 : Int)))] H'_2 <
  μ [Value.int IntKind.i64 n_1] H'))) (∃ r, Ld Try.prog (60 : Nat) H' (Addr.add d (513 : Nat)) (Value.map r) ∧ SemWp Try.prog (Builtin.clear_ { toList := [(60 : Nat)] } (0 : Nat) { toList :=
  [Value.map r] }) H' fun v H' => v = Value.tuple ⟨[]⟩ ∧ R (Value.tuple ⟨[]⟩) H')) ∨ ∃ k x, v = Value.tuple { toList := [Value.bool true, k, x] } ∧ SemWp Try.prog (Instr.entry (Value.pointer
  a)) H'_1 fun v H'_2 => ∃ k x, v = Value.tuple { toList := [k, x] } ∧ ∃ n_1, k = Value.int IntKind.i64 n_1 ∧ ∀ (b : Nat) (H'_3 : Heap), New H'_2 b (Obj.cells { toList := [Value.int
  IntKind.i64 n_1] } (3 : Nat)) H'_3 → SemWp Try.prog (Builtin.append_ { toList := [(53 : Nat), (53 : Nat)] } (53 : Nat) { toList := [Value.slice a_1 n c, Value.slice (some ⟨b, (0 : Nat),
  none⟩) (1 : Nat) (1 : Nat)] }) H'_3 fun v H'_4 => ∃ a n_2 c_1, v = Value.slice a n_2 c_1 ∧ I [Value.slice a n_2 c_1] H'_4 ∧ μ [Value.slice a n_2 c_1] H'_4 < μ [Value.slice a_1 n c] H') :
  CallH Try.prog 41 (List.toArray [Value.pointer (some d), pick]) H R := vc_call (annOf [([0, 1, 0, 1], .cut [(4, .one .slice)]), ([0, 0, 1, 1, 0, 0, 1, 0, 1], .ext), ([0, 1, 0, 1, 1, 1], .cut
  [(27, .one (.int .i64))]), ([0, 1, 1, 1, 1, 0, 0, 1, 1, 0, 0, 1, 0, 1, 1, 1], .tail 9)]) followsAll Go.Proofs.Try.func41 rfl Go.Proofs.Try.ntmps41 rfl rfl (Eq.mpr (by kernel_rfl) h)

/- 42 (*strandline/block.Disk).Crash$1
  slots: [0=j, 1=n, 3=j, 4=n]  -/
abbrev fn_block_Disk_Crash_1 : Nat := 42
theorem vc_block_Disk_Crash_1 (j : Int) (n : Int) (a2 : Addr) (H : Heap) (R : Value → Heap → Prop) (h : ∃ n_1, Ld Try.prog (31 : Nat) H a2 (Value.int IntKind.u64 n_1) ∧ chk (decide ((0 :
  Int) ≤ IntKind.wrap IntKind.u64 (IntKind.wrap IntKind.i64 (Int.tmod j (32 : Int) * (2 : Int))))) (chk (decide (IntKind.wrap IntKind.i64 (n + (1 : Int)) ≠ (0 : Int))) (R (Value.int
  IntKind.i64 (Int.tmod (IntKind.wrap IntKind.i64 (IntKind.wrap IntKind.u64 (↑(BitVec.toNat (BitVec.ofInt (64 : Nat) (Int.fdiv n_1 ((2 : Int) ^ min (Int.toNat (IntKind.wrap IntKind.u64
  (IntKind.wrap IntKind.i64 (Int.tmod j (32 : Int) * (2 : Int))))) (64 : Nat))) &&& BitVec.ofInt (64 : Nat) (3 : Int))) : Int))) (IntKind.wrap IntKind.i64 (n + (1 : Int))))) H))) : CallH
  Try.prog 42 (List.toArray [Value.int IntKind.i64 j, Value.int IntKind.i64 n, Value.pointer (some a2)]) H R := vc_call (annOf []) followsAll Go.Proofs.Try.func42 rfl Go.Proofs.Try.ntmps42 rfl
  rfl (Eq.mpr (by kernel_rfl) h)

/- 43 (*strandline/block.Disk).Size
  slots: [0=d, 1=d]  -/
abbrev fn_block_Disk_Size : Nat := 43
theorem vc_block_Disk_Size (d : Addr) (H : Heap) (R : Value → Heap → Prop) (h : ∃ n, Ld Try.prog (3 : Nat) H d (Value.int IntKind.i64 n) ∧ R (Value.int IntKind.i64 n) H) : CallH Try.prog 43
  (List.toArray [Value.pointer (some d)]) H R := vc_call (annOf []) followsAll Go.Proofs.Try.func43 rfl Go.Proofs.Try.ntmps43 rfl rfl (Eq.mpr (by kernel_rfl) h)

/- 44 (*strandline/files.Store).lasting
  slots: [0=s, 1=s, 3=l, 4=_, 5=n, 6=_, 7=k, 8=_, 9=n]  -/
abbrev fn_files_Store_lasting : Nat := 44
theorem vc_files_Store_lasting (s : Addr) (H : Heap) (R : Value → Heap → Prop) (h : ∀ (b : Nat) (H' : Heap), New H b (Obj.map ⟨[]⟩ (0 : Nat)) H' → ∃ a n c, Ld Try.prog (53 : Nat) H'
  (Addr.add s (3 : Nat)) (Value.slice a n c) ∧ ∃ (I : List Value → Heap → Prop) (μ : List Value → Heap → Nat), I [Value.int IntKind.i64 (0 : Int)] H' ∧ ∀ (J : F) (n_1 : Int) (H' : Heap), I
  [Value.int IntKind.i64 n_1] H' → brB (decide (n_1 < (↑n : Int))) (exSome a fun ad => chk (decide ((0 : Int) ≤ n_1 ∧ n_1 < (↑n : Int))) (∃ n, Ld Try.prog (3 : Nat) H' (Addr.add ad (Int.toNat
  n_1 * (1 : Nat))) (Value.int IntKind.i64 n) ∧ SemU Try.prog (Instr.mapUpdate (82 : Nat) (Value.map (some b)) (Value.int IntKind.i64 n) (Value.bool true)) H' fun H'_1 => I [Value.int
  IntKind.i64 (IntKind.wrap IntKind.i64 (n_1 + (1 : Int)))] H'_1 ∧ μ [Value.int IntKind.i64 (IntKind.wrap IntKind.i64 (n_1 + (1 : Int)))] H'_1 < μ [Value.int IntKind.i64 n_1] H')) (∃ r, Ld
  Try.prog (52 : Nat) H' (Addr.add s (2 : Nat)) (Value.map r) ∧ SemWp Try.prog (Instr.range (52 : Nat) (Value.map r)) H' fun v H' => ∃ a, v = Value.pointer a ∧ ∃ (I : List Value → Heap → Prop)
  (μ : List Value → Heap → Nat), I [] H' ∧ ∀ (J : F) (H' : Heap), I [] H' → SemWp Try.prog (Instr.next (Value.pointer a) false (0 : Nat)) H' fun v H'_1 => v = Value.tuple { toList :=
  [Value.bool false] } ∧ R (Value.map (some b)) H'_1 ∨ ∃ k x, v = Value.tuple { toList := [Value.bool true, k, x] } ∧ SemWp Try.prog (Instr.entry (Value.pointer a)) H'_1 fun v H'_2 => ∃ k x, v
  = Value.tuple { toList := [k, x] } ∧ ∃ s a n c, x = Value.agg { toList := [Value.string s, Value.slice a n c] } ∧ ∀ (b_1 : Nat) (H'_3 : Heap), New H'_2 b_1 (Obj.cells { toList :=
  [Value.string { data := #[] }, Value.slice none (0 : Nat) (0 : Nat)] } (59 : Nat)) H'_3 → ∃ H'_4, St Try.prog (59 : Nat) H'_3 ⟨b_1, (0 : Nat), none⟩ (Value.agg { toList := [Value.string s,
  Value.slice a n c] }) H'_4 ∧ ∃ a n c, Ld Try.prog (53 : Nat) H'_4 ⟨b_1, (1 : Nat), none⟩ (Value.slice a n c) ∧ ∃ (I_1 : List Value → Heap → Prop) (μ_1 : List Value → Heap → Nat), I_1
  [Value.int IntKind.i64 (0 : Int)] H'_4 ∧ ∀ (J : F) (n_2 : Int) (H'_5 : Heap), I_1 [Value.int IntKind.i64 n_2] H'_5 → brB (decide (n_2 < (↑n : Int))) (exSome a fun ad => chk (decide ((0 :
  Int) ≤ n_2 ∧ n_2 < (↑n : Int))) (∃ n, Ld Try.prog (3 : Nat) H'_5 (Addr.add ad (Int.toNat n_2 * (1 : Nat))) (Value.int IntKind.i64 n) ∧ SemU Try.prog (Instr.mapUpdate (82 : Nat) (Value.map
  (some b)) (Value.int IntKind.i64 n) (Value.bool true)) H'_5 fun H' => I_1 [Value.int IntKind.i64 (IntKind.wrap IntKind.i64 (n_2 + (1 : Int)))] H' ∧ μ_1 [Value.int IntKind.i64 (IntKind.wrap
  IntKind.i64 (n_2 + (1 : Int)))] H' < μ_1 [Value.int IntKind.i64 n_2] H'_5)) (I [] H'_5 ∧ μ [] H'_5 < μ [] H'))) : CallH Try.prog 44 (List.toArray [Value.pointer (some s)]) H R := vc_call
  (annOf [([0, 1, 0, 1, 1], .cut [(16, .one (.int .i64))]), ([0, 1, 0, 1, 1, 1], .cut []), ([0, 0, 1, 1, 0, 0, 1, 0, 1, 1, 1], .ext), ([0, 1, 1, 0, 1, 1, 0, 0, 1, 0, 1, 1, 1], .cut [(35, .one
  (.int .i64))])]) followsAll Go.Proofs.Try.func44 rfl Go.Proofs.Try.ntmps44 rfl rfl (Eq.mpr (by kernel_rfl) h)

/- 45 (*strandline/block.Disk).Read
  slots: [0=d, 1=i, 2=d, 3=i, 6=l]  -/
abbrev fn_block_Disk_Read : Nat := 45
theorem vc_block_Disk_Read (d : Addr) (i : Int) (H : Heap) (R : Value → Heap → Prop) (h : ∃ (M : List Value → Heap → Prop), (∃ b, Ld Try.prog (4 : Nat) H (Addr.add d (514 : Nat)) (Value.bool
  b) ∧ brB b (R (Value.tuple { toList := [Value.string { data := #[] }, Value.int IntKind.i64 (90 : Int)] }) H) (brB (decide (i < (0 : Int))) (R (Value.tuple { toList := [Value.string { data
  := #[] }, Value.int IntKind.i64 (91 : Int)] }) H) (∃ n, Ld Try.prog (3 : Nat) H d (Value.int IntKind.i64 n) ∧ brB (decide (i ≥ n)) (R (Value.tuple { toList := [Value.string { data := #[] },
  Value.int IntKind.i64 (91 : Int)] }) H) (M [] H)))) ∧ ∀ (J : F) (H' : Heap), M [] H' → ∃ r, Ld Try.prog (60 : Nat) H' (Addr.add d (513 : Nat)) (Value.map r) ∧ ∃ a n c, Rd Try.prog
  (Instr.lookup (60 : Nat) (Value.map r) (Value.int IntKind.i64 i) false) H' (Value.slice a n c) ∧ brB (decide ((↑n : Int) > (0 : Int))) (exSome a fun ad => chk (decide ((0 : Int) ≤
  IntKind.wrap IntKind.i64 ((↑n : Int) - (1 : Int)) ∧ IntKind.wrap IntKind.i64 ((↑n : Int) - (1 : Int)) < (↑n : Int))) (∃ s, Ld Try.prog (9 : Nat) H' (Addr.add ad (Int.toNat (IntKind.wrap
  IntKind.i64 ((↑n : Int) - (1 : Int))) * (1 : Nat))) (Value.string s) ∧ R (Value.tuple { toList := [Value.string s, Value.int IntKind.i64 (0 : Int)] }) H')) (chk (decide ((0 : Int) ≤ i ∧ i <
  (↑(512 : Nat) : Int))) (∃ s, Ld Try.prog (9 : Nat) H' (Addr.add (Addr.add d (1 : Nat)) (Int.toNat i * (1 : Nat))) (Value.string s) ∧ R (Value.tuple { toList := [Value.string s, Value.int
  IntKind.i64 (0 : Int)] }) H'))) : CallH Try.prog 45 (List.toArray [Value.pointer (some d), Value.int IntKind.i64 i]) H R := vc_call (annOf [([1], .cut [])]) followsAll Go.Proofs.Try.func45
  rfl Go.Proofs.Try.ntmps45 rfl rfl (Eq.mpr (by kernel_rfl) h)

/- 46 (*strandline/files.scan).number
  slots: [0=x, 1=x, 3=n, 4=next, 5=e]  -/
abbrev fn_files_scan_number : Nat := 46
theorem vc_files_scan_number (x : Addr) (H : Heap) (R : Value → Heap → Prop) (h : ∃ s, Ld Try.prog (9 : Nat) H (Addr.add x (1 : Nat)) (Value.string s) ∧ ∃ n, Ld Try.prog (3 : Nat) H
  (Addr.add x (2 : Nat)) (Value.int IntKind.i64 n) ∧ CallH Try.prog (61 : Nat) { toList := [Value.string s, Value.int IntKind.i64 n] } H fun v H' => ∃ n n_1 n_2, v = Value.tuple { toList :=
  [Value.int IntKind.u64 n, Value.int IntKind.i64 n_1, Value.int IntKind.i64 n_2] } ∧ ∃ (M : List Value → Heap → Prop), (∃ (M_1 : List Value → Heap → Prop), brB (n_2 != (0 : Int)) (M_1
  [Value.bool true] H') (brB (decide (n > (1152921504606846976 : Int))) (M_1 [Value.bool true] H') (∃ b, Ld Try.prog (4 : Nat) H' (Addr.add x (3 : Nat)) (Value.bool b) ∧ M_1 [Value.bool !b]
  H')) ∧ ∀ (J : F) (b : Bool) (H' : Heap), M_1 [Value.bool b] H' → brB b (∃ H'_1, St Try.prog (4 : Nat) H' (Addr.add x (3 : Nat)) (Value.bool false) H'_1 ∧ R (Value.int IntKind.i64 (0 : Int))
  H'_1) (M [] H')) ∧ ∀ (J : F) (H' : Heap), M [] H' → ∃ H'_1, St Try.prog (3 : Nat) H' (Addr.add x (2 : Nat)) (Value.int IntKind.i64 n_1) H'_1 ∧ R (Value.int IntKind.i64 (IntKind.wrap
  IntKind.i64 n)) H'_1) : CallH Try.prog 46 (List.toArray [Value.pointer (some x)]) H R := vc_call (annOf [([0, 1], .reg [0, 1, 3, 7, 0, 16, 48, 112, 255, 511, 1023, 1023, 1023, 2047, 12287,
  32767] (.quiet 0 (.quiet 1 (.quiet 2 (.quiet 3 (.quiet 4 (.quiet 5 (.quiet 6 (.quiet 7 (.pick (.alt 8 (.quiet 9 (.quiet 10 (.quiet 11 (.quiet 12 (.quiet 13 (.quiet 14 (.quiet 15 .done)))))))
  .stop))))))))))), ([1, 1], .cut []), ([0, 1, 1], .cut [(31, .one .bool)])]) followsAll Go.Proofs.Try.func46 rfl Go.Proofs.Try.ntmps46 rfl rfl (Eq.mpr (by kernel_rfl) h)

/- 47 (*strandline/files.scan).data
  slots: [0=x, 1=bytes, 2=next, 3=x, 4=bytes, 5=next, 7=k, 8=n, 9=c, 10=_]  -/
abbrev fn_files_scan_data : Nat := 47
theorem vc_files_scan_data (x : Addr) (bytes : Int) (next' : Value) (H : Heap) (R : Value → Heap → Prop) (h : ∀ (b : Nat) (H' : Heap), New H b (Obj.cells { toList := [Value.string { data :=
  #[] }, Value.slice none (0 : Nat) (0 : Nat)] } (59 : Nat)) H' → ∀ (b_1 : Nat) (H'_1 : Heap), New H' b_1 (Obj.cells { toList := [Value.string { data := #[] }, Value.slice none (0 : Nat) (0 :
  Nat)] } (59 : Nat)) H'_1 → ∃ (M : List Value → Heap → Prop), (∃ b, Ld Try.prog (4 : Nat) H'_1 (Addr.add x (3 : Nat)) (Value.bool b) ∧ brB b (∃ H', St Try.prog (4 : Nat) H'_1 (Addr.add x (3 :
  Nat)) (Value.bool (decide (bytes ≤ (32768 : Int)))) H' ∧ M [] H') (∃ H', St Try.prog (4 : Nat) H'_1 (Addr.add x (3 : Nat)) (Value.bool false) H' ∧ M [] H')) ∧ ∀ (J : F) (H' : Heap), M [] H'
  → ∃ (I : List Value → Heap → Prop) (μ : List Value → Heap → Nat), I [] H' ∧ ∀ (J : F) (H' : Heap), I [] H' → ∃ (M : List Value → Heap → Prop), (∃ b_2, Ld Try.prog (4 : Nat) H' (Addr.add x (3
  : Nat)) (Value.bool b_2) ∧ brB b_2 (∃ s, Ld Try.prog (9 : Nat) H' ⟨b_1, (0 : Nat), none⟩ (Value.string s) ∧ brB (decide ((↑(ByteArray.size s) : Int) < bytes)) (M [] H') (∃ s a n c, Ld
  Try.prog (59 : Nat) H' ⟨b_1, (0 : Nat), none⟩ (Value.agg { toList := [Value.string s, Value.slice a n c] }) ∧ ∃ H'_2, St Try.prog (59 : Nat) H' ⟨b, (0 : Nat), none⟩ (Value.agg { toList :=
  [Value.string s, Value.slice a n c] }) H'_2 ∧ ∃ s a n c, Ld Try.prog (59 : Nat) H'_2 ⟨b, (0 : Nat), none⟩ (Value.agg { toList := [Value.string s, Value.slice a n c] }) ∧ R (Value.agg {
  toList := [Value.string s, Value.slice a n c] }) H'_2)) (∃ s a n c, Ld Try.prog (59 : Nat) H' ⟨b_1, (0 : Nat), none⟩ (Value.agg { toList := [Value.string s, Value.slice a n c] }) ∧ ∃ H'_2,
  St Try.prog (59 : Nat) H' ⟨b, (0 : Nat), none⟩ (Value.agg { toList := [Value.string s, Value.slice a n c] }) H'_2 ∧ ∃ s a n c, Ld Try.prog (59 : Nat) H'_2 ⟨b, (0 : Nat), none⟩ (Value.agg {
  toList := [Value.string s, Value.slice a n c] }) ∧ R (Value.agg { toList := [Value.string s, Value.slice a n c] }) H'_2)) ∧ ∀ (J : F) (H'_2 : Heap), M [] H'_2 → CallV Try.prog next' [] H'_2
  fun v H'_3 => ∃ n, v = Value.int IntKind.i64 n ∧ ∃ (M : List Value → Heap → Prop), (∃ b, Ld Try.prog (4 : Nat) H'_3 (Addr.add x (3 : Nat)) (Value.bool b) ∧ brB b (brB (decide (n ≥ (2 :
  Int))) (∃ a, Ld Try.prog (29 : Nat) H'_3 x (Value.pointer a) ∧ CallH Try.prog (43 : Nat) { toList := [Value.pointer a] } H'_3 fun v H' => ∃ n_1, v = Value.int IntKind.i64 n_1 ∧ brB (decide
  (n < n_1)) (∃ r, Ld Try.prog (82 : Nat) H' (Addr.add x (4 : Nat)) (Value.map r) ∧ ∃ b, Rd Try.prog (Instr.lookup (82 : Nat) (Value.map r) (Value.int IntKind.i64 n) false) H' (Value.bool b) ∧
  ∃ H'_4, St Try.prog (4 : Nat) H' (Addr.add x (3 : Nat)) (Value.bool !b) H'_4 ∧ M [] H'_4) (∃ H'_4, St Try.prog (4 : Nat) H' (Addr.add x (3 : Nat)) (Value.bool false) H'_4 ∧ M [] H'_4)) (∃
  H', St Try.prog (4 : Nat) H'_3 (Addr.add x (3 : Nat)) (Value.bool false) H' ∧ M [] H')) (∃ H', St Try.prog (4 : Nat) H'_3 (Addr.add x (3 : Nat)) (Value.bool false) H' ∧ M [] H')) ∧ ∀ (J : F)
  (H'_4 : Heap), M [] H'_4 → ∃ b_2, Ld Try.prog (4 : Nat) H'_4 (Addr.add x (3 : Nat)) (Value.bool b_2) ∧ brB (!b_2) (∃ s a n c, Ld Try.prog (59 : Nat) H'_4 ⟨b_1, (0 : Nat), none⟩ (Value.agg {
  toList := [Value.string s, Value.slice a n c] }) ∧ ∃ H', St Try.prog (59 : Nat) H'_4 ⟨b, (0 : Nat), none⟩ (Value.agg { toList := [Value.string s, Value.slice a n c] }) H' ∧ ∃ s a n c, Ld
  Try.prog (59 : Nat) H' ⟨b, (0 : Nat), none⟩ (Value.agg { toList := [Value.string s, Value.slice a n c] }) ∧ R (Value.agg { toList := [Value.string s, Value.slice a n c] }) H') (∃ a, Ld
  Try.prog (29 : Nat) H'_4 x (Value.pointer a) ∧ CallH Try.prog (45 : Nat) { toList := [Value.pointer a, Value.int IntKind.i64 n] } H'_4 fun v H'_5 => ∃ s n_1, v = Value.tuple { toList :=
  [Value.string s, Value.int IntKind.i64 n_1] } ∧ ∃ r, Ld Try.prog (82 : Nat) H'_5 (Addr.add x (4 : Nat)) (Value.map r) ∧ SemU Try.prog (Instr.mapUpdate (82 : Nat) (Value.map r) (Value.int
  IntKind.i64 n) (Value.bool true)) H'_5 fun H'_6 => ∃ s_1, Ld Try.prog (9 : Nat) H'_6 ⟨b_1, (0 : Nat), none⟩ (Value.string s_1) ∧ ∃ H'_7, St Try.prog (4 : Nat) H'_6 (Addr.add x (3 : Nat))
  (Value.bool ((↑(ByteArray.size s) : Int) == if (64 : Int) < IntKind.wrap IntKind.i64 (bytes - (↑(ByteArray.size s_1) : Int)) then (64 : Int) else IntKind.wrap IntKind.i64 (bytes -
  (↑(ByteArray.size s_1) : Int)))) H'_7 ∧ ∃ s_2, Ld Try.prog (9 : Nat) H'_7 ⟨b_1, (0 : Nat), none⟩ (Value.string s_2) ∧ chk (decide (ByteArray.size s_2 + ByteArray.size s ≤
  (9223372036854775807 : Nat))) (∃ a n_2 c, Ld Try.prog (53 : Nat) H'_7 ⟨b_1, (1 : Nat), none⟩ (Value.slice a n_2 c) ∧ ∀ (b : Nat) (H'_8 : Heap), New H'_7 b (Obj.cells { toList := [Value.int
  IntKind.i64 n] } (3 : Nat)) H'_8 → Ld Try.prog (53 : Nat) H'_8 ⟨b_1, (1 : Nat), none⟩ (Value.slice a n_2 c) ∧ Ld Try.prog (9 : Nat) H'_8 ⟨b_1, (0 : Nat), none⟩ (Value.string s_2) ∧ SemWp
  Try.prog (Builtin.append_ { toList := [(53 : Nat), (53 : Nat)] } (53 : Nat) { toList := [Value.slice a n_2 c, Value.slice (some ⟨b, (0 : Nat), none⟩) (1 : Nat) (1 : Nat)] }) H'_8 fun v H'_9
  => ∃ a n c, v = Value.slice a n c ∧ Ld Try.prog (9 : Nat) H'_9 ⟨b_1, (0 : Nat), none⟩ (Value.string s_2) ∧ ∃ H'_10, St Try.prog (9 : Nat) H'_9 ⟨b_1, (0 : Nat), none⟩ (Value.string (s_2 ++
  s)) H'_10 ∧ ∃ H'_11, St Try.prog (53 : Nat) H'_10 ⟨b_1, (1 : Nat), none⟩ (Value.slice a n c) H'_11 ∧ I [] H'_11 ∧ μ [] H'_11 < μ [] H'))) : CallH Try.prog 47 (List.toArray [Value.pointer
  (some x), Value.int IntKind.i64 bytes, next']) H R := vc_call (annOf [([1, 1], .cut []), ([0, 0, 1, 1, 1], .cut []), ([0, 0, 0, 1, 1, 1], .cut []), ([1, 0, 1, 0, 0, 0, 1, 1, 1], .cut []),
  ([1, 1, 1, 1, 1, 1, 0, 1, 0, 0, 0, 1, 1, 1], .reg [0, 1, 0, 7, 0, 16, 0, 64, 240, 63, 1023, 2047, 4095] (.quiet 0 (.quiet 1 (.quiet 2 (.quiet 3 (.quiet 4 (.quiet 5 (.quiet 6 (.quiet 9 (.pick
  (.alt 7 (.pick (.alt 8 (.pick (.alt 10 (.quiet 11 (.pick (.alt 12 (.done) .stop))) .stop)) .stop)) .stop)))))))))))]) followsAll Go.Proofs.Try.func47 rfl Go.Proofs.Try.ntmps47 rfl rfl
  (Eq.mpr (by kernel_rfl) h)

/- 48 (*strandline/files.scan).name
  slots: [0=x, 1=x, 3=t, 4=next, 5=e]  -/
abbrev fn_files_scan_name : Nat := 48
theorem vc_files_scan_name (x : Addr) (H : Heap) (R : Value → Heap → Prop) (h : ∃ s, Ld Try.prog (9 : Nat) H (Addr.add x (1 : Nat)) (Value.string s) ∧ ∃ n, Ld Try.prog (3 : Nat) H (Addr.add
  x (2 : Nat)) (Value.int IntKind.i64 n) ∧ CallH Try.prog (62 : Nat) { toList := [Value.string s, Value.int IntKind.i64 n] } H fun v H' => ∃ s n n_1, v = Value.tuple { toList := [Value.string
  s, Value.int IntKind.i64 n, Value.int IntKind.i64 n_1] } ∧ ∃ (M : List Value → Heap → Prop), (∃ (M_1 : List Value → Heap → Prop), brB (n_1 != (0 : Int)) (M_1 [Value.bool true] H') (CallH
  Try.prog (30 : Nat) { toList := [Value.string s] } H' fun v H' => ∃ b, v = Value.bool b ∧ brB (!b) (M_1 [Value.bool true] H') (∃ b, Ld Try.prog (4 : Nat) H' (Addr.add x (3 : Nat))
  (Value.bool b) ∧ M_1 [Value.bool !b] H')) ∧ ∀ (J : F) (b : Bool) (H' : Heap), M_1 [Value.bool b] H' → brB b (∃ H'_1, St Try.prog (4 : Nat) H' (Addr.add x (3 : Nat)) (Value.bool false) H'_1 ∧
  R (Value.string { data := #[] }) H'_1) (M [] H')) ∧ ∀ (J : F) (H' : Heap), M [] H' → ∃ H'_1, St Try.prog (3 : Nat) H' (Addr.add x (2 : Nat)) (Value.int IntKind.i64 n) H'_1 ∧ R (Value.string
  s) H'_1) : CallH Try.prog 48 (List.toArray [Value.pointer (some x)]) H R := vc_call (annOf [([0, 1], .reg [0, 1, 3, 7, 0, 16, 48, 112, 255, 511, 1023, 1023, 1023, 2047, 12287, 32767] (.quiet
  0 (.quiet 1 (.quiet 2 (.quiet 3 (.quiet 4 (.quiet 5 (.quiet 6 (.quiet 7 (.pick (.alt 8 (.quiet 9 (.quiet 10 (.quiet 11 (.quiet 12 (.quiet 13 (.quiet 14 (.quiet 15 .done)))))))
  .stop))))))))))), ([1, 1], .cut []), ([0, 1, 1], .cut [(32, .one .bool)])]) followsAll Go.Proofs.Try.func48 rfl Go.Proofs.Try.ntmps48 rfl rfl (Eq.mpr (by kernel_rfl) h)

/- 49 maps.Clone[map[string]string,string,string]
  slots: [0=m, 1=m]  -/
abbrev fn_maps_Clone_map_string_string_string_string_ : Nat := 49
theorem vc_maps_Clone_map_string_string_string_string_ (m : Option Nat) (H : Heap) (R : Value → Heap → Prop) (h : brB (Option.isNone m) (R (Value.map none) H) (ExtH Try.prog (63 : Nat) {
  toList := [Value.iface (51 : Nat) (Value.map m)] } H fun v H' => ∃ v_1, v = v_1 ∧ ∃ r, Rd Try.prog (Instr.typeAssert v_1 (20 : Nat) (51 : Nat) false) H' (Value.map r) ∧ R (Value.map r) H'))
  : CallH Try.prog 49 (List.toArray [Value.map m]) H R := vc_call (annOf []) followsAll Go.Proofs.Try.func49 rfl Go.Proofs.Try.ntmps49 rfl rfl (Eq.mpr (by kernel_rfl) h)

/- 50 slices.IndexFunc[[]string,string]
  slots: [0=s, 1=f, 2=s, 3=f, 5=i]  -/
abbrev fn_slices_IndexFunc___string_string_ : Nat := 50
theorem vc_slices_IndexFunc___string_string_ (s_a : Option Addr) (s_n : Nat) (s_c : Nat) (f : Value) (H : Heap) (R : Value → Heap → Prop) (h : ∃ (I : List Value → Heap → Prop) (μ : List
  Value → Heap → Nat), I [Value.int IntKind.i64 (0 : Int)] H ∧ ∀ (J : F) (n : Int) (H' : Heap), I [Value.int IntKind.i64 n] H' → brB (decide (n < (↑s_n : Int))) (exSome s_a fun ad => chk
  (decide ((0 : Int) ≤ n ∧ n < (↑s_n : Int))) (∃ s, Ld Try.prog (9 : Nat) H' (Addr.add ad (Int.toNat n * (1 : Nat))) (Value.string s) ∧ CallV Try.prog f [Value.string s] H' fun v H'_1 => ∃ b,
  v = Value.bool b ∧ brB b (R (Value.int IntKind.i64 n) H'_1) (I [Value.int IntKind.i64 (IntKind.wrap IntKind.i64 (n + (1 : Int)))] H'_1 ∧ μ [Value.int IntKind.i64 (IntKind.wrap IntKind.i64 (n
  + (1 : Int)))] H'_1 < μ [Value.int IntKind.i64 n] H'))) (R (Value.int IntKind.i64 (-1 : Int)) H')) : CallH Try.prog 50 (List.toArray [Value.slice s_a s_n s_c, f]) H R := vc_call (annOf [([0,
  1, 0, 1], .cut [(8, .one (.int .i64))])]) followsAll Go.Proofs.Try.func50 rfl Go.Proofs.Try.ntmps50 rfl rfl (Eq.mpr (by kernel_rfl) h)

/- 51 slices.Sorted[string]
  slots: [0=seq, 1=seq, 3=s]  -/
abbrev fn_slices_Sorted_string_ : Nat := 51
theorem vc_slices_Sorted_string_ (seq : Value) (H : Heap) (R : Value → Heap → Prop) (h : CallH Try.prog (64 : Nat) { toList := [seq] } H fun v H' => ∃ a n c, v = Value.slice a n c ∧ CallH
  Try.prog (65 : Nat) { toList := [Value.slice a n c] } H' fun v H' => v = Value.tuple ⟨[]⟩ ∧ R (Value.slice a n c) H') : CallH Try.prog 51 (List.toArray [seq]) H R := vc_call (annOf [])
  followsAll Go.Proofs.Try.func51 rfl Go.Proofs.Try.ntmps51 rfl rfl (Eq.mpr (by kernel_rfl) h)

/- 52 maps.Keys[map[string]string,string,string]
  slots: [0=m, 1=m]  -/
abbrev fn_maps_Keys_map_string_string_string_string_ : Nat := 52
theorem vc_maps_Keys_map_string_string_string_string_ (m : Option Nat) (H : Heap) (R : Value → Heap → Prop) (h : ∀ (b : Nat) (H' : Heap), New H b (Obj.cells { toList := [Value.map m] } (51 :
  Nat)) H' → R (Value.func (Fn.func (66 : Nat)) ⟨[]⟩ { toList := [Value.pointer (some ⟨b, (0 : Nat), none⟩)] }) H') : CallH Try.prog 52 (List.toArray [Value.map m]) H R := vc_call (annOf [])
  followsAll Go.Proofs.Try.func52 rfl Go.Proofs.Try.ntmps52 rfl rfl (Eq.mpr (by kernel_rfl) h)

/- 53 slices.Collect[int]
  slots: [0=seq, 1=seq]  -/
abbrev fn_slices_Collect_int_ : Nat := 53
theorem vc_slices_Collect_int_ (seq : Value) (H : Heap) (R : Value → Heap → Prop) (h : CallH Try.prog (67 : Nat) { toList := [Value.slice none (0 : Nat) (0 : Nat), seq] } H fun v H' => ∃ a n
  c, v = Value.slice a n c ∧ R (Value.slice a n c) H') : CallH Try.prog 53 (List.toArray [seq]) H R := vc_call (annOf []) followsAll Go.Proofs.Try.func53 rfl Go.Proofs.Try.ntmps53 rfl rfl
  (Eq.mpr (by kernel_rfl) h)

/- 54 (*strandline/files.Store).free
  slots: [0=s, 1=s, 3=taken]  -/
abbrev fn_files_Store_free : Nat := 54
theorem vc_files_Store_free (s : Addr) (H : Heap) (R : Value → Heap → Prop) (h : ∀ (b : Nat) (H' : Heap), New H b (Obj.cells { toList := [Value.pointer (some s)] } (25 : Nat)) H' → ∃ a, Ld
  Try.prog (25 : Nat) H' ⟨b, (0 : Nat), none⟩ (Value.pointer a) ∧ CallH Try.prog (44 : Nat) { toList := [Value.pointer a] } H' fun v H' => ∃ r, v = Value.map r ∧ ∀ (b_1 : Nat) (H'_1 : Heap),
  New H' b_1 (Obj.cells { toList := [Value.map none] } (82 : Nat)) H'_1 → ∃ H', St Try.prog (82 : Nat) H'_1 ⟨b_1, (0 : Nat), none⟩ (Value.map r) H' ∧ R (Value.func (Fn.func (68 : Nat)) ⟨[]⟩ {
  toList := [Value.pointer (some ⟨b, (0 : Nat), none⟩), Value.pointer (some ⟨b_1, (0 : Nat), none⟩)] }) H') : CallH Try.prog 54 (List.toArray [Value.pointer (some s)]) H R := vc_call (annOf
  []) followsAll Go.Proofs.Try.func54 rfl Go.Proofs.Try.ntmps54 rfl rfl (Eq.mpr (by kernel_rfl) h)

/- 55 (*strandline/files.Store).planned$1
  slots: [0=c, 3=c, 5=n]  -/
abbrev fn_files_Store_planned_1 : Nat := 55
theorem vc_files_Store_planned_1 (c : ByteArray) (a1 : Addr) (a2 : Addr) (H : Heap) (R : Value → Heap → Prop) (h : ∃ n, Ld Try.prog (3 : Nat) H (Addr.add a1 (5 : Nat)) (Value.int IntKind.i64
  n) ∧ ∃ H', St Try.prog (3 : Nat) H (Addr.add a1 (5 : Nat)) (Value.int IntKind.i64 (IntKind.wrap IntKind.i64 (n + (1 : Int)))) H' ∧ ∃ a n c_1, Ld Try.prog (53 : Nat) H' a2 (Value.slice a n
  c_1) ∧ brB ((↑n : Int) == (0 : Int)) (∃ H'_1, St Try.prog (4 : Nat) H' (Addr.add a1 (6 : Nat)) (Value.bool false) H'_1 ∧ R (Value.int IntKind.i64 (500 : Int)) H'_1) (∃ a n c_2, Ld Try.prog
  (53 : Nat) H' a2 (Value.slice a n c_2) ∧ exSome a fun ad => chk (decide ((0 : Int) ≤ (0 : Int) ∧ (0 : Int) < (↑n : Int))) (∃ n, Ld Try.prog (3 : Nat) H' ad (Value.int IntKind.i64 n) ∧ ∃ a
  n_1 c_3, Ld Try.prog (53 : Nat) H' a2 (Value.slice a n_1 c_3) ∧ chk (decide ((0 : Int) ≤ (1 : Int) ∧ (1 : Int) ≤ (↑n_1 : Int) ∧ (↑n_1 : Int) ≤ (↑c_3 : Int))) (∃ H'_1, St Try.prog (53 : Nat)
  H' a2 (Value.slice (slA c_3 (1 : Nat) (1 : Nat) a) (Int.toNat (↑n_1 : Int) - (1 : Nat)) (c_3 - (1 : Nat))) H'_1 ∧ ∃ a n_2 c_4, Ld Try.prog (70 : Nat) H'_1 a1 (Value.slice a n_2 c_4) ∧ ∀ (b :
  Nat) (H' : Heap), New H'_1 b (Obj.cells { toList := [Value.int IntKind.i64 n, Value.string c] } (76 : Nat)) H' → SemWp Try.prog (Builtin.append_ { toList := [(70 : Nat), (70 : Nat)] } (70 :
  Nat) { toList := [Value.slice a n_2 c_4, Value.slice (some ⟨b, (0 : Nat), none⟩) (1 : Nat) (1 : Nat)] }) H' fun v H' => ∃ a n_3 c, v = Value.slice a n_3 c ∧ ∃ H'_2, St Try.prog (70 : Nat) H'
  a1 (Value.slice a n_3 c) H'_2 ∧ R (Value.int IntKind.i64 n) H'_2)))) : CallH Try.prog 55 (List.toArray [Value.string c, Value.pointer (some a1), Value.pointer (some a2)]) H R := vc_call
  (annOf []) followsAll Go.Proofs.Try.func55 rfl Go.Proofs.Try.ntmps55 rfl rfl (Eq.mpr (by kernel_rfl) h)

/- 56 strandline/files.chunks
  slots: [0=s, 1=s, 3=l, 4=c]  -/
abbrev fn_files_chunks : Nat := 56
theorem vc_files_chunks (s : ByteArray) (H : Heap) (R : Value → Heap → Prop) (h : ∀ (b : Nat) (H' : Heap), New H b (Obj.cells { toList := [Value.slice none (0 : Nat) (0 : Nat)] } (41 : Nat))
  H' → SemWp Try.prog (convert (9 : Nat) (91 : Nat) (Value.string s)) H' fun v H' => ∃ a n c, v = Value.slice a n c ∧ CallH Try.prog (69 : Nat) { toList := [Value.slice a n c, Value.int
  IntKind.i64 (64 : Int)] } H' fun v H' => ∃ v_1, v = v_1 ∧ ∀ (D l : Nat) (R0 : Loop) (H1 : Heap), NewL H' D l R0 H1 → (∀ (a : Option Addr) (n c : Nat) (H2 : Heap) (K2 : Value → Heap → Prop),
  Lp H2 l R0 LoopState.ready none → (Lp H2 l R0 LoopState.ready none ∧ ∃ a_2 n_1 c_1, Ld Try.prog (41 : Nat) (setLp H2 l R0 LoopState.busy none) ⟨b, (0 : Nat), none⟩ (Value.slice a_2 n_1 c_1) ∧
  SemWp Try.prog (convert (91 : Nat) (9 : Nat) (Value.slice a n c)) (setLp H2 l R0 LoopState.busy none) fun v H' => ∃ s, v = Value.string s ∧ ∀ (b_1 : Nat) (H'_1 : Heap), New H' b_1 (Obj.cells
  { toList := [Value.string s] } (9 : Nat)) H'_1 → SemWp Try.prog (Builtin.append_ { toList := [(41 : Nat), (41 : Nat)] } (41 : Nat) { toList := [Value.slice a_2 n_1 c_1, Value.slice (some
  ⟨b_1, (0 : Nat), none⟩) (1 : Nat) (1 : Nat)] }) H'_1 fun v H' => ∃ a n c, v = Value.slice a n c ∧ ∃ H'_2, St Try.prog (41 : Nat) H' ⟨b, (0 : Nat), none⟩ (Value.slice a n c) H'_2 ∧ Lp H'_2 l
  R0 LoopState.busy none ∧ K2 (Value.bool true) (setLp H'_2 l R0 LoopState.ready none)) → YieldH Try.prog l [Value.slice a n c] H2 fun a a_3 => K2 a a_3) → CallV Try.prog v_1 [Value.func
  (Fn.yield l) ⟨[]⟩ ⟨[]⟩] H1 fun x H4 => (Lp H4 l R0 LoopState.ready none ∧ ∃ a n c, Ld Try.prog (41 : Nat) (setLp H4 l R0 LoopState.exhausted none) ⟨b, (0 : Nat), none⟩ (Value.slice a n c) ∧
  Dq (setLp H4 l R0 LoopState.exhausted none) D ∧ R (Value.slice a n c) (shutD (setLp H4 l R0 LoopState.exhausted none) D)) ∨ Lp H4 l R0 LoopState.done (some Code.ret) ∧ Dq (setLp H4 l R0
  LoopState.exhausted (some Code.ret)) D ∧ R (Value.slice none (0 : Nat) (0 : Nat)) (shutD (setLp H4 l R0 LoopState.exhausted (some Code.ret)) D)) : CallH Try.prog 56 (List.toArray
  [Value.string s]) H R := vcS_call (annOf [([0, 1, 0, 1, 1], .cut [(8, .one .slice)])]) followsAll Go.Proofs.Try.func56 rfl Go.Proofs.Try.ntmps56 rfl rfl (Eq.mpr (by kernel_rfl) h)

/- 57 strandline/zig.Text
  slots: [0=s, 1=s]  -/
abbrev fn_zig_Text : Nat := 57
theorem vc_zig_Text (s : ByteArray) (H : Heap) (R : Value → Heap → Prop) (h : CallH Try.prog (38 : Nat) { toList := [Value.int IntKind.u64 (IntKind.wrap IntKind.u64 (↑(ByteArray.size s) :
  Int))] } H fun v H' => ∃ s_1, v = Value.string s_1 ∧ chk (decide (ByteArray.size s_1 + ByteArray.size s ≤ (9223372036854775807 : Nat))) (R (Value.string (s_1 ++ s)) H')) : CallH Try.prog 57
  (List.toArray [Value.string s]) H R := vc_call (annOf []) followsAll Go.Proofs.Try.func57 rfl Go.Proofs.Try.ntmps57 rfl rfl (Eq.mpr (by kernel_rfl) h)

/- 58 (*strandline/block.Disk).Write
  slots: [0=d, 1=i, 2=s, 3=d, 4=i, 5=s]  -/
abbrev fn_block_Disk_Write : Nat := 58
theorem vc_block_Disk_Write (d : Addr) (i : Int) (s : ByteArray) (H : Heap) (R : Value → Heap → Prop) (h : ∃ (M : List Value → Heap → Prop), (∃ b, Ld Try.prog (4 : Nat) H (Addr.add d (514 :
  Nat)) (Value.bool b) ∧ brB b (R (Value.int IntKind.i64 (90 : Int)) H) (brB (decide (i < (0 : Int))) (R (Value.int IntKind.i64 (91 : Int)) H) (∃ n, Ld Try.prog (3 : Nat) H d (Value.int
  IntKind.i64 n) ∧ brB (decide (i ≥ n)) (R (Value.int IntKind.i64 (91 : Int)) H) (brB (decide ((↑(ByteArray.size s) : Int) > (64 : Int))) (R (Value.int IntKind.i64 (91 : Int)) H) (M [] H)))))
  ∧ ∀ (J : F) (H' : Heap), M [] H' → ∃ r, Ld Try.prog (60 : Nat) H' (Addr.add d (513 : Nat)) (Value.map r) ∧ ∃ r_1, Ld Try.prog (60 : Nat) H' (Addr.add d (513 : Nat)) (Value.map r_1) ∧ ∃ a n
  c, Rd Try.prog (Instr.lookup (60 : Nat) (Value.map r_1) (Value.int IntKind.i64 i) false) H' (Value.slice a n c) ∧ ∀ (b : Nat) (H'_1 : Heap), New H' b (Obj.cells { toList := [Value.string s]
  } (9 : Nat)) H'_1 → Rd Try.prog (Instr.lookup (60 : Nat) (Value.map r_1) (Value.int IntKind.i64 i) false) H'_1 (Value.slice a n c) ∧ Ld Try.prog (60 : Nat) H'_1 (Addr.add d (513 : Nat))
  (Value.map r_1) ∧ Ld Try.prog (60 : Nat) H'_1 (Addr.add d (513 : Nat)) (Value.map r) ∧ SemWp Try.prog (Builtin.append_ { toList := [(41 : Nat), (41 : Nat)] } (41 : Nat) { toList :=
  [Value.slice a n c, Value.slice (some ⟨b, (0 : Nat), none⟩) (1 : Nat) (1 : Nat)] }) H'_1 fun v H' => ∃ a n c, v = Value.slice a n c ∧ Ld Try.prog (60 : Nat) H' (Addr.add d (513 : Nat))
  (Value.map r) ∧ SemU Try.prog (Instr.mapUpdate (60 : Nat) (Value.map r) (Value.int IntKind.i64 i) (Value.slice a n c)) H' fun H' => CallH Try.prog (70 : Nat) { toList := [Value.pointer (some
  d)] } H' fun v H' => ∃ b, v = Value.bool b ∧ brB b (R (Value.int IntKind.i64 (90 : Int)) H') (R (Value.int IntKind.i64 (0 : Int)) H')) : CallH Try.prog 58 (List.toArray [Value.pointer (some
  d), Value.int IntKind.i64 i, Value.string s]) H R := vc_call (annOf [([1], .cut []), ([0, 1, 1], .reg [0, 1, 3, 7, 0, 0, 32, 96, 224, 0, 992, 0, 2048, 8160, 16383] (.quiet 0 (.quiet 1
  (.quiet 2 (.quiet 3 (.quiet 4 (.quiet 5 (.quiet 6 (.quiet 7 (.quiet 8 (.quiet 9 (.quiet 10 (.quiet 11 (.pick (.alt 12 (.pick (.alt 13 (.pick (.alt 14 (.done) .stop)) .stop))
  .stop)))))))))))))))]) followsAll Go.Proofs.Try.func58 rfl Go.Proofs.Try.ntmps58 rfl rfl (Eq.mpr (by kernel_rfl) h)

/- 59 (*strandline/block.Disk).Flush
  slots: [0=d, 1=d]  -/
abbrev fn_block_Disk_Flush : Nat := 59
theorem vc_block_Disk_Flush (d : Addr) (H : Heap) (R : Value → Heap → Prop) (h : ∃ b, Ld Try.prog (4 : Nat) H (Addr.add d (514 : Nat)) (Value.bool b) ∧ brB b (R (Value.int IntKind.i64 (90 :
  Int)) H) (CallH Try.prog (70 : Nat) { toList := [Value.pointer (some d)] } H fun v H' => ∃ b, v = Value.bool b ∧ brB b (R (Value.int IntKind.i64 (90 : Int)) H') (CallH Try.prog (41 : Nat) {
  toList := [Value.pointer (some d), Value.func (Fn.func (71 : Nat)) ⟨[]⟩ ⟨[]⟩] } H' fun v H' => v = Value.tuple ⟨[]⟩ ∧ R (Value.int IntKind.i64 (0 : Int)) H'))) : CallH Try.prog 59
  (List.toArray [Value.pointer (some d)]) H R := vc_call (annOf []) followsAll Go.Proofs.Try.func59 rfl Go.Proofs.Try.ntmps59 rfl rfl (Eq.mpr (by kernel_rfl) h)

/- 61 strandline/zig.GetUint
  slots: [0=s, 1=at, 2=s, 3=at, 4=n, 5=next, 6=e, 7=i, 8=c]  -/
abbrev fn_zig_GetUint : Nat := 61
theorem vc_zig_GetUint (s : ByteArray) (at' : Int) (H : Heap) (R : Value → Heap → Prop) (h : ∃ (M : List Value → Heap → Prop), brB (decide (at' < (0 : Int))) (R (Value.tuple { toList :=
  [Value.int IntKind.u64 (0 : Int), Value.int IntKind.i64 (0 : Int), Value.int IntKind.i64 (1 : Int)] }) H) (brB (decide (at' > (↑(ByteArray.size s) : Int))) (R (Value.tuple { toList :=
  [Value.int IntKind.u64 (0 : Int), Value.int IntKind.i64 (0 : Int), Value.int IntKind.i64 (1 : Int)] }) H) (M [Value.int IntKind.u64 (0 : Int)] H)) ∧ ∀ (J : F) (n : Int) (H' : Heap), M
  [Value.int IntKind.u64 n] H' → ∃ (I : List Value → Heap → Prop) (μ : List Value → Heap → Nat), I [Value.int IntKind.u64 n, Value.int IntKind.i64 (0 : Int)] H' ∧ ∀ (J : F) (n n_1 : Int) (H' :
  Heap), I [Value.int IntKind.u64 n, Value.int IntKind.i64 n_1] H' → brB (decide (n_1 < (10 : Int))) (brB (IntKind.wrap IntKind.i64 (at' + n_1) == (↑(ByteArray.size s) : Int)) (R (Value.tuple
  { toList := [Value.int IntKind.u64 (0 : Int), Value.int IntKind.i64 (0 : Int), Value.int IntKind.i64 (10 : Int)] }) H') (chk (decide ((0 : Int) ≤ IntKind.wrap IntKind.i64 (at' + n_1) ∧
  IntKind.wrap IntKind.i64 (at' + n_1) < (↑(ByteArray.size s) : Int))) (∃ (M : List Value → Heap → Prop), brB (n_1 == (9 : Int)) (brB (decide ((↑(atB s (Int.toNat (IntKind.wrap IntKind.i64
  (at' + n_1)))) : Int) > (1 : Int))) (R (Value.tuple { toList := [Value.int IntKind.u64 (0 : Int), Value.int IntKind.i64 (0 : Int), Value.int IntKind.i64 (11 : Int)] }) H') (brB ((↑(atB s
  (Int.toNat (IntKind.wrap IntKind.i64 (at' + n_1)))) : Int) == (0 : Int)) (brB (decide (n_1 > (0 : Int))) (R (Value.tuple { toList := [Value.int IntKind.u64 (0 : Int), Value.int IntKind.i64
  (0 : Int), Value.int IntKind.i64 (11 : Int)] }) H') (M [Value.int IntKind.u64 n] H')) (M [Value.int IntKind.u64 n] H'))) (brB ((↑(atB s (Int.toNat (IntKind.wrap IntKind.i64 (at' + n_1)))) :
  Int) == (0 : Int)) (brB (decide (n_1 > (0 : Int))) (R (Value.tuple { toList := [Value.int IntKind.u64 (0 : Int), Value.int IntKind.i64 (0 : Int), Value.int IntKind.i64 (11 : Int)] }) H') (M
  [Value.int IntKind.u64 n] H')) (M [Value.int IntKind.u64 n] H')) ∧ ∀ (J : F) (n_2 : Int) (H'_1 : Heap), M [Value.int IntKind.u64 n_2] H'_1 → chk (decide ((0 : Int) ≤ IntKind.wrap IntKind.u64
  (IntKind.wrap IntKind.i64 ((7 : Int) * n_1)))) (brB (decide ((↑(atB s (Int.toNat (IntKind.wrap IntKind.i64 (at' + n_1)))) : Int) < (128 : Int))) (R (Value.tuple { toList := [Value.int
  IntKind.u64 (IntKind.wrap IntKind.u64 (↑(BitVec.toNat (BitVec.ofInt (64 : Nat) n_2 ||| BitVec.ofInt (64 : Nat) (IntKind.wrap IntKind.u64 (IntKind.wrap IntKind.u64 (IntKind.wrap IntKind.u8
  (↑(BitVec.toNat (BitVec.ofInt (8 : Nat) (↑(atB s (Int.toNat (IntKind.wrap IntKind.i64 (at' + n_1)))) : Int) &&& BitVec.ofInt (8 : Nat) (127 : Int))) : Int)) * (2 : Int) ^ min (Int.toNat
  (IntKind.wrap IntKind.u64 (IntKind.wrap IntKind.i64 ((7 : Int) * n_1)))) (64 : Nat))))) : Int)), Value.int IntKind.i64 (IntKind.wrap IntKind.i64 (IntKind.wrap IntKind.i64 (at' + n_1) + (1 :
  Int))), Value.int IntKind.i64 (0 : Int)] }) H'_1) (I [Value.int IntKind.u64 (IntKind.wrap IntKind.u64 (↑(BitVec.toNat (BitVec.ofInt (64 : Nat) n_2 ||| BitVec.ofInt (64 : Nat) (IntKind.wrap
  IntKind.u64 (IntKind.wrap IntKind.u64 (IntKind.wrap IntKind.u8 (↑(BitVec.toNat (BitVec.ofInt (8 : Nat) (↑(atB s (Int.toNat (IntKind.wrap IntKind.i64 (at' + n_1)))) : Int) &&& BitVec.ofInt (8
  : Nat) (127 : Int))) : Int)) * (2 : Int) ^ min (Int.toNat (IntKind.wrap IntKind.u64 (IntKind.wrap IntKind.i64 ((7 : Int) * n_1)))) (64 : Nat))))) : Int)), Value.int IntKind.i64 (IntKind.wrap
  IntKind.i64 (n_1 + (1 : Int)))] H'_1 ∧ μ [Value.int IntKind.u64 (IntKind.wrap IntKind.u64 (↑(BitVec.toNat (BitVec.ofInt (64 : Nat) n_2 ||| BitVec.ofInt (64 : Nat) (IntKind.wrap IntKind.u64
  (IntKind.wrap IntKind.u64 (IntKind.wrap IntKind.u8 (↑(BitVec.toNat (BitVec.ofInt (8 : Nat) (↑(atB s (Int.toNat (IntKind.wrap IntKind.i64 (at' + n_1)))) : Int) &&& BitVec.ofInt (8 : Nat) (127
  : Int))) : Int)) * (2 : Int) ^ min (Int.toNat (IntKind.wrap IntKind.u64 (IntKind.wrap IntKind.i64 ((7 : Int) * n_1)))) (64 : Nat))))) : Int)), Value.int IntKind.i64 (IntKind.wrap IntKind.i64
  (n_1 + (1 : Int)))] H'_1 < μ [Value.int IntKind.u64 n, Value.int IntKind.i64 n_1] H'))))) (R (Value.tuple { toList := [Value.int IntKind.u64 (0 : Int), Value.int IntKind.i64 (0 : Int),
  Value.int IntKind.i64 (11 : Int)] }) H')) : CallH Try.prog 61 (List.toArray [Value.string s, Value.int IntKind.i64 at']) H R := vc_call (annOf [([1], .cut [(4, .one (.int .u64))]), ([0, 1,
  0, 1, 1], .cut [(4, .one (.int .u64)), (17, .one (.int .i64))]), ([1, 1, 1, 0, 0, 1, 1, 0, 0, 1, 0, 1, 1], .cut [(4, .one (.int .u64))])]) followsAll Go.Proofs.Try.func61 rfl
  Go.Proofs.Try.ntmps61 rfl rfl (Eq.mpr (by kernel_rfl) h)

/- 62 strandline/zig.GetText
  slots: [0=s, 1=at, 2=s, 3=at, 7=n, 8=next, 9=e]  -/
abbrev fn_zig_GetText : Nat := 62
theorem vc_zig_GetText (s : ByteArray) (at' : Int) (H : Heap) (R : Value → Heap → Prop) (h : CallH Try.prog (61 : Nat) { toList := [Value.string s, Value.int IntKind.i64 at'] } H fun v H' =>
  ∃ n n_1 n_2, v = Value.tuple { toList := [Value.int IntKind.u64 n, Value.int IntKind.i64 n_1, Value.int IntKind.i64 n_2] } ∧ brB (n_2 != (0 : Int)) (R (Value.tuple { toList := [Value.string
  { data := #[] }, Value.int IntKind.i64 (0 : Int), Value.int IntKind.i64 n_2] }) H') (brB (decide (n > IntKind.wrap IntKind.u64 (IntKind.wrap IntKind.i64 ((↑(ByteArray.size s) : Int) -
  n_1)))) (R (Value.tuple { toList := [Value.string { data := #[] }, Value.int IntKind.i64 (0 : Int), Value.int IntKind.i64 (10 : Int)] }) H') (chk (decide ((0 : Int) ≤ n_1 ∧ n_1 ≤
  IntKind.wrap IntKind.i64 (n_1 + IntKind.wrap IntKind.i64 n) ∧ IntKind.wrap IntKind.i64 (n_1 + IntKind.wrap IntKind.i64 n) ≤ (↑(ByteArray.size s) : Int))) (R (Value.tuple { toList :=
  [Value.string (ByteArray.extract s (Int.toNat n_1) (Int.toNat (IntKind.wrap IntKind.i64 (n_1 + IntKind.wrap IntKind.i64 n)))), Value.int IntKind.i64 (IntKind.wrap IntKind.i64 (n_1 +
  IntKind.wrap IntKind.i64 n)), Value.int IntKind.i64 (0 : Int)] }) H')))) : CallH Try.prog 62 (List.toArray [Value.string s, Value.int IntKind.i64 at']) H R := vc_call (annOf []) followsAll
  Go.Proofs.Try.func62 rfl Go.Proofs.Try.ntmps62 rfl rfl (Eq.mpr (by kernel_rfl) h)

/- 64 slices.Collect[string]
  slots: [0=seq, 1=seq]  -/
abbrev fn_slices_Collect_string_ : Nat := 64
theorem vc_slices_Collect_string_ (seq : Value) (H : Heap) (R : Value → Heap → Prop) (h : CallH Try.prog (74 : Nat) { toList := [Value.slice none (0 : Nat) (0 : Nat), seq] } H fun v H' => ∃
  a n c, v = Value.slice a n c ∧ R (Value.slice a n c) H') : CallH Try.prog 64 (List.toArray [seq]) H R := vc_call (annOf []) followsAll Go.Proofs.Try.func64 rfl Go.Proofs.Try.ntmps64 rfl rfl
  (Eq.mpr (by kernel_rfl) h)

/- 66 maps.Keys[map[string]string,string,string]$1
  slots: [0=yield, 2=yield, 3=k]  -/
abbrev fn_maps_Keys_map_string_string_string_string__1 : Nat := 66
theorem vc_maps_Keys_map_string_string_string_string__1 (yield : Value) (a1 : Addr) (H : Heap) (R : Value → Heap → Prop) (h : ∃ r, Ld Try.prog (51 : Nat) H a1 (Value.map r) ∧ SemWp Try.prog
  (Instr.range (51 : Nat) (Value.map r)) H fun v H' => ∃ a, v = Value.pointer a ∧ ∃ (I : List Value → Heap → Prop) (μ : List Value → Heap → Nat), I [] H' ∧ ∀ (J : F) (H' : Heap), I [] H' →
  SemWp Try.prog (Instr.next (Value.pointer a) false (0 : Nat)) H' fun v H'_1 => v = Value.tuple { toList := [Value.bool false] } ∧ R (Value.tuple ⟨[]⟩) H'_1 ∨ ∃ k x, v = Value.tuple { toList
  := [Value.bool true, k, x] } ∧ SemWp Try.prog (Instr.entry (Value.pointer a)) H'_1 fun v H'_2 => ∃ k x, v = Value.tuple { toList := [k, x] } ∧ ∃ s, k = Value.string s ∧ CallY Try.prog yield
  [Value.string s] H'_2 fun v H'_3 => ∃ b, v = Value.bool b ∧ brB (!b) (R (Value.tuple ⟨[]⟩) H'_3) (I [] H'_3 ∧ μ [] H'_3 < μ [] H')) : CallH Try.prog 66 (List.toArray [yield, Value.pointer
  (some a1)]) H R := vcY_call (annOf [([0, 1], .cut []), ([0, 0, 1, 1, 0, 0, 1], .ext)]) followsAll Go.Proofs.Try.func66 rfl Go.Proofs.Try.ntmps66 rfl rfl (Eq.mpr (by kernel_rfl) h)

/- 67 slices.AppendSeq[[]int,int]
  slots: [0=s, 1=seq, 2=s, 3=seq, 5=v]  -/
abbrev fn_slices_AppendSeq___int_int_ : Nat := 67
theorem vc_slices_AppendSeq___int_int_ (s_a : Option Addr) (s_n : Nat) (s_c : Nat) (seq : Value) (H : Heap) (R : Value → Heap → Prop) (h : ∀ (b : Nat) (H' : Heap), New H b (Obj.cells {
  toList := [Value.slice s_a s_n s_c] } (53 : Nat)) H' → ∀ (D l : Nat) (R0 : Loop) (H1 : Heap), NewL H' D l R0 H1 → (∀ (n : Int) (H2 : Heap) (K2 : Value → Heap → Prop), Lp H2 l R0
  LoopState.ready none → (Lp H2 l R0 LoopState.ready none ∧ ∃ a n_1 c, Ld Try.prog (53 : Nat) (setLp H2 l R0 LoopState.busy none) ⟨b, (0 : Nat), none⟩ (Value.slice a n_1 c) ∧ ∀ (b_1 : Nat) (H'
  : Heap), New (setLp H2 l R0 LoopState.busy none) b_1 (Obj.cells { toList := [Value.int IntKind.i64 n] } (3 : Nat)) H' → SemWp Try.prog (Builtin.append_ { toList := [(53 : Nat), (53 : Nat)] }
  (53 : Nat) { toList := [Value.slice a n_1 c, Value.slice (some ⟨b_1, (0 : Nat), none⟩) (1 : Nat) (1 : Nat)] }) H' fun v H' => ∃ a n c, v = Value.slice a n c ∧ ∃ H'_1, St Try.prog (53 : Nat)
  H' ⟨b, (0 : Nat), none⟩ (Value.slice a n c) H'_1 ∧ Lp H'_1 l R0 LoopState.busy none ∧ K2 (Value.bool true) (setLp H'_1 l R0 LoopState.ready none)) → YieldH Try.prog l [Value.int IntKind.i64
  n] H2 fun a a_1 => K2 a a_1) → CallV Try.prog seq [Value.func (Fn.yield l) ⟨[]⟩ ⟨[]⟩] H1 fun x H4 => (Lp H4 l R0 LoopState.ready none ∧ ∃ a n c, Ld Try.prog (53 : Nat) (setLp H4 l R0
  LoopState.exhausted none) ⟨b, (0 : Nat), none⟩ (Value.slice a n c) ∧ Dq (setLp H4 l R0 LoopState.exhausted none) D ∧ R (Value.slice a n c) (shutD (setLp H4 l R0 LoopState.exhausted none) D)) ∨
  Lp H4 l R0 LoopState.done (some Code.ret) ∧ Dq (setLp H4 l R0 LoopState.exhausted (some Code.ret)) D ∧ R (Value.slice none (0 : Nat) (0 : Nat)) (shutD (setLp H4 l R0 LoopState.exhausted (some
  Code.ret)) D)) : CallH Try.prog 67 (List.toArray [Value.slice s_a s_n s_c, seq]) H R := vcS_call (annOf [([0, 1, 0, 1], .cut [(7, .one (.int .i64))])]) followsAll Go.Proofs.Try.func67 rfl
  Go.Proofs.Try.ntmps67 rfl rfl (Eq.mpr (by kernel_rfl) h)

/- 68 (*strandline/files.Store).free$1
  slots: [0=yield, 3=yield, 4=n]  -/
abbrev fn_files_Store_free_1 : Nat := 68
theorem vc_files_Store_free_1 (yield : Value) (a1 : Addr) (a2 : Addr) (H : Heap) (R : Value → Heap → Prop) (h : ∃ (I : List Value → Heap → Prop) (μ : List Value → Heap → Nat), I [Value.int
  IntKind.i64 (2 : Int)] H ∧ ∀ (J : F) (n : Int) (H' : Heap), I [Value.int IntKind.i64 n] H' → ∃ a, Ld Try.prog (25 : Nat) H' a1 (Value.pointer a) ∧ exSome a fun a => ∃ a_1, Ld Try.prog (29 :
  Nat) H' a (Value.pointer a_1) ∧ CallH Try.prog (43 : Nat) { toList := [Value.pointer a_1] } H' fun v H'_1 => ∃ n_1, v = Value.int IntKind.i64 n_1 ∧ brB (decide (n < n_1)) (∃ r, Ld Try.prog
  (82 : Nat) H'_1 a2 (Value.map r) ∧ ∃ b, Rd Try.prog (Instr.lookup (82 : Nat) (Value.map r) (Value.int IntKind.i64 n) false) H'_1 (Value.bool b) ∧ brB (!b) (CallY Try.prog yield [Value.int
  IntKind.i64 n] H'_1 fun v H'_2 => ∃ b, v = Value.bool b ∧ brB (!b) (R (Value.tuple ⟨[]⟩) H'_2) (I [Value.int IntKind.i64 (IntKind.wrap IntKind.i64 (n + (1 : Int)))] H'_2 ∧ μ [Value.int
  IntKind.i64 (IntKind.wrap IntKind.i64 (n + (1 : Int)))] H'_2 < μ [Value.int IntKind.i64 n] H')) (I [Value.int IntKind.i64 (IntKind.wrap IntKind.i64 (n + (1 : Int)))] H'_1 ∧ μ [Value.int
  IntKind.i64 (IntKind.wrap IntKind.i64 (n + (1 : Int)))] H'_1 < μ [Value.int IntKind.i64 n] H')) (R (Value.tuple ⟨[]⟩) H'_1)) : CallH Try.prog 68 (List.toArray [yield, Value.pointer (some
  a1), Value.pointer (some a2)]) H R := vcY_call (annOf [([0, 1], .cut [(4, .one (.int .i64))])]) followsAll Go.Proofs.Try.func68 rfl Go.Proofs.Try.ntmps68 rfl rfl (Eq.mpr (by kernel_rfl) h)

/- 69 slices.Chunk[[]byte,byte]
  slots: [0=s, 1=n, 2=s, 3=n]  -/
abbrev fn_slices_Chunk___byte_byte_ : Nat := 69
theorem vc_slices_Chunk___byte_byte_ (s_a : Option Addr) (s_n : Nat) (s_c : Nat) (n : Int) (H : Heap) (R : Value → Heap → Prop) (h : ∀ (b : Nat) (H' : Heap), New H b (Obj.cells { toList :=
  [Value.slice s_a s_n s_c] } (91 : Nat)) H' → ∀ (b_1 : Nat) (H'_1 : Heap), New H' b_1 (Obj.cells { toList := [Value.int IntKind.i64 n] } (3 : Nat)) H'_1 → ∃ n, Ld Try.prog (3 : Nat) H'_1
  ⟨b_1, (0 : Nat), none⟩ (Value.int IntKind.i64 n) ∧ brB (decide (n < (1 : Int))) False (R (Value.func (Fn.func (76 : Nat)) ⟨[]⟩ { toList := [Value.pointer (some ⟨b, (0 : Nat), none⟩),
  Value.pointer (some ⟨b_1, (0 : Nat), none⟩)] }) H'_1)) : CallH Try.prog 69 (List.toArray [Value.slice s_a s_n s_c, Value.int IntKind.i64 n]) H R := vc_call (annOf []) followsAll
  Go.Proofs.Try.func69 rfl Go.Proofs.Try.ntmps69 rfl rfl (Eq.mpr (by kernel_rfl) h)

/- 70 (*strandline/block.Disk).last
  slots: [0=d, 1=d]  -/
abbrev fn_block_Disk_last : Nat := 70
theorem vc_block_Disk_last (d : Addr) (H : Heap) (R : Value → Heap → Prop) (h : ∃ n, Ld Try.prog (3 : Nat) H (Addr.add d (517 : Nat)) (Value.int IntKind.i64 n) ∧ ∃ H', St Try.prog (3 : Nat)
  H (Addr.add d (517 : Nat)) (Value.int IntKind.i64 (IntKind.wrap IntKind.i64 (n + (1 : Int)))) H' ∧ ∃ n, Ld Try.prog (3 : Nat) H' (Addr.add d (515 : Nat)) (Value.int IntKind.i64 n) ∧ brB (n
  != (1 : Int)) (∃ n, Ld Try.prog (3 : Nat) H' (Addr.add d (515 : Nat)) (Value.int IntKind.i64 n) ∧ ∃ H'_1, St Try.prog (3 : Nat) H' (Addr.add d (515 : Nat)) (Value.int IntKind.i64 (if (0 :
  Int) > IntKind.wrap IntKind.i64 (n - (1 : Int)) then (0 : Int) else IntKind.wrap IntKind.i64 (n - (1 : Int)))) H'_1 ∧ R (Value.bool false) H'_1) (∃ n, Ld Try.prog (31 : Nat) H' (Addr.add d
  (516 : Nat)) (Value.int IntKind.u64 n) ∧ CallH Try.prog (22 : Nat) { toList := [Value.pointer (some d), Value.int IntKind.u64 n] } H' fun v H' => v = Value.tuple ⟨[]⟩ ∧ R (Value.bool true)
  H')) : CallH Try.prog 70 (List.toArray [Value.pointer (some d)]) H R := vc_call (annOf []) followsAll Go.Proofs.Try.func70 rfl Go.Proofs.Try.ntmps70 rfl rfl (Eq.mpr (by kernel_rfl) h)

/- 71 (*strandline/block.Disk).Flush$1
  slots: [0=_, 1=n, 2=_, 3=n]  -/
abbrev fn_block_Disk_Flush_1 : Nat := 71
theorem vc_block_Disk_Flush_1 (a0 : Int) (n : Int) (H : Heap) (R : Value → Heap → Prop) (h : R (Value.int IntKind.i64 n) H) : CallH Try.prog 71 (List.toArray [Value.int IntKind.i64 a0,
  Value.int IntKind.i64 n]) H R := vc_call (annOf []) followsAll Go.Proofs.Try.func71 rfl Go.Proofs.Try.ntmps71 rfl rfl (Eq.mpr (by kernel_rfl) h)

/- 74 slices.AppendSeq[[]string,string]
  slots: [0=s, 1=seq, 2=s, 3=seq, 5=v]  -/
abbrev fn_slices_AppendSeq___string_string_ : Nat := 74
theorem vc_slices_AppendSeq___string_string_ (s_a : Option Addr) (s_n : Nat) (s_c : Nat) (seq : Value) (H : Heap) (R : Value → Heap → Prop) (h : ∀ (b : Nat) (H' : Heap), New H b (Obj.cells {
  toList := [Value.slice s_a s_n s_c] } (41 : Nat)) H' → ∀ (D l : Nat) (R0 : Loop) (H1 : Heap), NewL H' D l R0 H1 → (∀ (s : ByteArray) (H2 : Heap) (K2 : Value → Heap → Prop), Lp H2 l R0
  LoopState.ready none → (Lp H2 l R0 LoopState.ready none ∧ ∃ a n c, Ld Try.prog (41 : Nat) (setLp H2 l R0 LoopState.busy none) ⟨b, (0 : Nat), none⟩ (Value.slice a n c) ∧ ∀ (b_1 : Nat) (H' :
  Heap), New (setLp H2 l R0 LoopState.busy none) b_1 (Obj.cells { toList := [Value.string s] } (9 : Nat)) H' → SemWp Try.prog (Builtin.append_ { toList := [(41 : Nat), (41 : Nat)] } (41 : Nat)
  { toList := [Value.slice a n c, Value.slice (some ⟨b_1, (0 : Nat), none⟩) (1 : Nat) (1 : Nat)] }) H' fun v H' => ∃ a n c, v = Value.slice a n c ∧ ∃ H'_1, St Try.prog (41 : Nat) H' ⟨b, (0 :
  Nat), none⟩ (Value.slice a n c) H'_1 ∧ Lp H'_1 l R0 LoopState.busy none ∧ K2 (Value.bool true) (setLp H'_1 l R0 LoopState.ready none)) → YieldH Try.prog l [Value.string s] H2 fun a a_1 => K2
  a a_1) → CallV Try.prog seq [Value.func (Fn.yield l) ⟨[]⟩ ⟨[]⟩] H1 fun x H4 => (Lp H4 l R0 LoopState.ready none ∧ ∃ a n c, Ld Try.prog (41 : Nat) (setLp H4 l R0 LoopState.exhausted none) ⟨b,
  (0 : Nat), none⟩ (Value.slice a n c) ∧ Dq (setLp H4 l R0 LoopState.exhausted none) D ∧ R (Value.slice a n c) (shutD (setLp H4 l R0 LoopState.exhausted none) D)) ∨ Lp H4 l R0 LoopState.done
  (some Code.ret) ∧ Dq (setLp H4 l R0 LoopState.exhausted (some Code.ret)) D ∧ R (Value.slice none (0 : Nat) (0 : Nat)) (shutD (setLp H4 l R0 LoopState.exhausted (some Code.ret)) D)) : CallH
  Try.prog 74 (List.toArray [Value.slice s_a s_n s_c, seq]) H R := vcS_call (annOf [([0, 1, 0, 1], .cut [(7, .one .str)])]) followsAll Go.Proofs.Try.func74 rfl Go.Proofs.Try.ntmps74 rfl rfl
  (Eq.mpr (by kernel_rfl) h)

/- 76 slices.Chunk[[]byte,byte]$1
  slots: [0=yield, 3=yield, 4=i, 5=end]  -/
abbrev fn_slices_Chunk___byte_byte__1 : Nat := 76
theorem vc_slices_Chunk___byte_byte__1 (yield : Value) (a1 : Addr) (a2 : Addr) (H : Heap) (R : Value → Heap → Prop) (h : ∃ (I : List Value → Heap → Prop) (μ : List Value → Heap → Nat), I
  [Value.int IntKind.i64 (0 : Int)] H ∧ ∀ (J : F) (n : Int) (H' : Heap), I [Value.int IntKind.i64 n] H' → ∃ a n_1 c, Ld Try.prog (91 : Nat) H' a1 (Value.slice a n_1 c) ∧ brB (decide (n < (↑n_1
  : Int))) (∃ n_2, Ld Try.prog (3 : Nat) H' a2 (Value.int IntKind.i64 n_2) ∧ ∃ a n_3 c, Ld Try.prog (91 : Nat) H' a1 (Value.slice a n_3 c) ∧ chk (decide ((0 : Int) ≤ n ∧ n ≤ (↑n_3 : Int) ∧
  (↑n_3 : Int) ≤ (↑c : Int))) (∃ a n_4 c, Ld Try.prog (91 : Nat) H' a1 (Value.slice a n_4 c) ∧ chk (decide ((0 : Int) ≤ n ∧ n ≤ IntKind.wrap IntKind.i64 (n + if (↑(Int.toNat (↑n_3 : Int) -
  Int.toNat n) : Int) < n_2 then (↑(Int.toNat (↑n_3 : Int) - Int.toNat n) : Int) else n_2) ∧ IntKind.wrap IntKind.i64 (n + if (↑(Int.toNat (↑n_3 : Int) - Int.toNat n) : Int) < n_2 then
  (↑(Int.toNat (↑n_3 : Int) - Int.toNat n) : Int) else n_2) ≤ IntKind.wrap IntKind.i64 (n + if (↑(Int.toNat (↑n_3 : Int) - Int.toNat n) : Int) < n_2 then (↑(Int.toNat (↑n_3 : Int) - Int.toNat
  n) : Int) else n_2) ∧ IntKind.wrap IntKind.i64 (n + if (↑(Int.toNat (↑n_3 : Int) - Int.toNat n) : Int) < n_2 then (↑(Int.toNat (↑n_3 : Int) - Int.toNat n) : Int) else n_2) ≤ (↑c : Int)))
  (CallY Try.prog yield [Value.slice (slA (Int.toNat (IntKind.wrap IntKind.i64 (n + if (↑(Int.toNat (↑n_3 : Int) - Int.toNat n) : Int) < n_2 then (↑(Int.toNat (↑n_3 : Int) - Int.toNat n) :
  Int) else n_2))) (Int.toNat n) (1 : Nat) a) (Int.toNat (IntKind.wrap IntKind.i64 (n + if (↑(Int.toNat (↑n_3 : Int) - Int.toNat n) : Int) < n_2 then (↑(Int.toNat (↑n_3 : Int) - Int.toNat n) :
  Int) else n_2)) - Int.toNat n) (Int.toNat (IntKind.wrap IntKind.i64 (n + if (↑(Int.toNat (↑n_3 : Int) - Int.toNat n) : Int) < n_2 then (↑(Int.toNat (↑n_3 : Int) - Int.toNat n) : Int) else
  n_2)) - Int.toNat n)] H' fun v H'_1 => ∃ b, v = Value.bool b ∧ brB (!b) (R (Value.tuple ⟨[]⟩) H'_1) (∃ n_5, Ld Try.prog (3 : Nat) H'_1 a2 (Value.int IntKind.i64 n_5) ∧ I [Value.int
  IntKind.i64 (IntKind.wrap IntKind.i64 (n + n_5))] H'_1 ∧ μ [Value.int IntKind.i64 (IntKind.wrap IntKind.i64 (n + n_5))] H'_1 < μ [Value.int IntKind.i64 n] H')))) (R (Value.tuple ⟨[]⟩) H')) :
  CallH Try.prog 76 (List.toArray [yield, Value.pointer (some a1), Value.pointer (some a2)]) H R := vcY_call (annOf [([0, 1], .cut [(4, .one (.int .i64))]), ([0, 0, 0, 1, 0, 0, 1], .reg [0, 0,
  0, 6, 14, 31, 63] (.quiet 0 (.quiet 1 (.quiet 2 (.quiet 3 (.quiet 4 (.quiet 5 (.quiet 6 .done))))))))]) followsAll Go.Proofs.Try.func76 rfl Go.Proofs.Try.ntmps76 rfl rfl (Eq.mpr (by
  kernel_rfl) h)
end Go.Proofs
