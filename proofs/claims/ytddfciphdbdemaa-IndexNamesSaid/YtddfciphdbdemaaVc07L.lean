/- A part of a proof: see the last text of this claim. -/
import Derived.Test.YtddfciphdbdemaaVc07
set_option linter.unusedVariables false
set_option maxRecDepth 100000
open Go Go.GV
namespace Go.Proofs

/- 3 strandline/strandlinelaw07.IndexAdds
  slots: [0=l, 1=one, 2=l, 3=one, 5=lists, 6=x, 7=r, 8=ok, 9=id, 10=k, 11=is, 12=again, 13=e, 14=a, 15=is, 16=b, 17=was, 18=e, 19=f]  -/
abbrev fn_law07_IndexAdds : Nat := 3
theorem vc_law07_IndexAdds (l_a : Option Addr) (l_n : Nat) (l_c : Nat) (one_a : Option Addr) (one_n : Nat) (one_c : Nat) (H : Heap) (R : Value → Heap → Prop) (h : ∀ (b : Nat) (H' : Heap),
  New H b (Obj.cells { toList := [Value.slice one_a one_n one_c] } (23 : Nat)) H' → ∃ (M : List Value → Heap → Prop), (CallH Try.prog (11 : Nat) { toList := [Value.slice l_a l_n l_c] } H' fun
  v H' => ∃ b_1, v = Value.bool b_1 ∧ brB b_1 (R (Value.bool true) H') (CallH Try.prog (11 : Nat) { toList := [Value.slice (some ⟨b, (0 : Nat), none⟩) (1 : Nat) (1 : Nat)] } H' fun v H' => ∃
  b, v = Value.bool b ∧ brB b (R (Value.bool true) H') (M [] H'))) ∧ ∀ (J : F) (H' : Heap), M [] H' → CallH Try.prog (12 : Nat) { toList := [Value.slice l_a l_n l_c] } H' fun v H' => ∃ a a_1
  b, v = Value.tuple { toList := [Value.pointer a, Value.pointer a_1, Value.bool b] } ∧ brB (!b) (R (Value.bool false) H') (∃ (I : List Value → Heap → Prop) (μ : List Value → Heap → Nat), I
  [Value.int IntKind.i64 (-1 : Int)] H' ∧ ∀ (J : F) (n : Int) (H' : Heap), I [Value.int IntKind.i64 n] H' → CallH Try.prog (13 : Nat) { toList := [Value.pointer a_1] } H' fun v H'_1 => ∃ n_1,
  v = Value.int IntKind.i64 n_1 ∧ brB (decide (n ≤ n_1)) (∃ (M : List Value → Heap → Prop), (CallH Try.prog (15 : Nat) { toList := [Value.pointer a, Value.int IntKind.i64 n] } H'_1 fun v H' =>
  ∃ a_3 n_2 c, v = Value.slice a_3 n_2 c ∧ CallH Try.prog (16 : Nat) { toList := [Value.pointer a_1, Value.int IntKind.i64 n] } H' fun v H' => ∃ a_4 n_3 c_1, v = Value.slice a_4 n_3 c_1 ∧
  CallH Try.prog (14 : Nat) { toList := [Value.slice a_3 n_2 c, Value.slice a_4 n_3 c_1] } H' fun v H' => ∃ b, v = Value.bool b ∧ brB (!b) (R (Value.bool false) H') (∃ (M_1 : List Value → Heap
  → Prop), brB (decide (n ≥ (0 : Int))) (CallH Try.prog (13 : Nat) { toList := [Value.pointer a_1] } H' fun v H' => ∃ n_4, v = Value.int IntKind.i64 n_4 ∧ M_1 [Value.bool (decide (n < n_4))]
  H') (M_1 [Value.bool false] H') ∧ ∀ (J : F) (b : Bool) (H' : Heap), M_1 [Value.bool b] H' → brB b (CallH Try.prog (16 : Nat) { toList := [Value.pointer a_1, Value.int IntKind.i64 n] } H' fun
  v H' => ∃ a_6 n_4 c, v = Value.slice a_6 n_4 c ∧ CallH Try.prog (17 : Nat) { toList := [Value.pointer a, Value.slice a_6 n_4 c] } H' fun v H' => ∃ n_5 b, v = Value.tuple { toList :=
  [Value.int IntKind.i64 n_5, Value.bool b] } ∧ CallH Try.prog (16 : Nat) { toList := [Value.pointer a_1, Value.int IntKind.i64 n] } H' fun v H' => ∃ a_7 n_6 c, v = Value.slice a_7 n_6 c ∧
  CallH Try.prog (18 : Nat) { toList := [Value.pointer a, Value.slice a_7 n_6 c] } H' fun v H' => ∃ n_7 n_8, v = Value.tuple { toList := [Value.int IntKind.i64 n_7, Value.int IntKind.i64 n_8]
  } ∧ brB (n_5 != n) (R (Value.bool false) H') (brB (!b) (R (Value.bool false) H') (brB (n_7 != n) (R (Value.bool false) H') (brB (n_8 != (0 : Int)) (R (Value.bool false) H') (M [] H'))))) (M
  [] H'))) ∧ ∀ (J : F) (H'_2 : Heap), M [] H'_2 → I [Value.int IntKind.i64 (IntKind.wrap IntKind.i64 (n + (1 : Int)))] H'_2 ∧ μ [Value.int IntKind.i64 (IntKind.wrap IntKind.i64 (n + (1 :
  Int)))] H'_2 < μ [Value.int IntKind.i64 n] H') (CallH Try.prog (17 : Nat) { toList := [Value.pointer a, Value.slice one_a one_n one_c] } H'_1 fun v H' => ∃ n b, v = Value.tuple { toList :=
  [Value.int IntKind.i64 n, Value.bool b] } ∧ CallH Try.prog (19 : Nat) { toList := [Value.pointer a_1, Value.slice one_a one_n one_c] } H' fun v H' => ∃ n_2 b_1, v = Value.tuple { toList :=
  [Value.int IntKind.i64 n_2, Value.bool b_1] } ∧ CallH Try.prog (18 : Nat) { toList := [Value.pointer a, Value.slice none (0 : Nat) (0 : Nat)] } H' fun v H' => ∃ n_3 n_4, v = Value.tuple {
  toList := [Value.int IntKind.i64 n_3, Value.int IntKind.i64 n_4] } ∧ brB (n == n_2) (brB (b == b_1) (CallH Try.prog (20 : Nat) { toList := [Value.pointer a] } H' fun v H' => ∃ n, v =
  Value.int IntKind.i64 n ∧ CallH Try.prog (13 : Nat) { toList := [Value.pointer a_1] } H' fun v H' => ∃ n_5, v = Value.int IntKind.i64 n_5 ∧ brB (decide (n ≥ n_5)) (brB (decide (n_3 ≥ (0 :
  Int))) (brB (n_4 != (40 : Int)) (CallH Try.prog (20 : Nat) { toList := [Value.pointer a] } H' fun v H' => ∃ n, v = Value.int IntKind.i64 n ∧ R (Value.bool (decide (n > (0 : Int)))) H') (R
  (Value.bool false) H')) (R (Value.bool false) H')) (R (Value.bool false) H')) (R (Value.bool false) H')) (R (Value.bool false) H')))) : CallH Try.prog 3 (List.toArray [Value.slice l_a l_n
  l_c, Value.slice one_a one_n one_c]) H R := vc_call (annOf [([1, 1], .cut []), ([0, 1, 0, 1, 1, 1, 1, 1], .cut [(9, .one (.int .i64))]), ([1, 0, 0, 1, 0, 1, 1, 1, 1, 1], .cut []), ([1, 0, 0,
  1, 0, 0, 1, 0, 1, 1, 1, 1, 1], .cut [(57, .one .bool)])]) followsAll Go.Proofs.Try.func3 rfl Go.Proofs.Try.ntmps3 rfl rfl (Eq.mpr (by kernel_rfl) h)

/- 4 strandline/strandlinelaw07.IndexSelects
  slots: [0=l, 1=ms, 2=l, 3=ms, 5=x, 6=r, 7=ok, 8=a, 9=e, 10=b, 11=f, 12=_, 13=odd]  -/
abbrev fn_law07_IndexSelects : Nat := 4
theorem vc_law07_IndexSelects (l_a : Option Addr) (l_n : Nat) (l_c : Nat) (ms_a : Option Addr) (ms_n : Nat) (ms_c : Nat) (H : Heap) (R : Value → Heap → Prop) (h : ∃ (M : List Value → Heap →
  Prop), (CallH Try.prog (11 : Nat) { toList := [Value.slice l_a l_n l_c] } H fun v H' => ∃ b, v = Value.bool b ∧ brB b (R (Value.bool true) H') (CallH Try.prog (21 : Nat) { toList :=
  [Value.slice ms_a ms_n ms_c] } H' fun v H' => ∃ b, v = Value.bool b ∧ brB b (R (Value.bool true) H') (M [] H'))) ∧ ∀ (J : F) (H' : Heap), M [] H' → CallH Try.prog (12 : Nat) { toList :=
  [Value.slice l_a l_n l_c] } H' fun v H' => ∃ a a_1 b, v = Value.tuple { toList := [Value.pointer a, Value.pointer a_1, Value.bool b] } ∧ brB (!b) (R (Value.bool false) H') (CallH Try.prog
  (22 : Nat) { toList := [Value.pointer a, Value.slice ms_a ms_n ms_c] } H' fun v H' => ∃ a_2 n c n_1, v = Value.tuple { toList := [Value.slice a_2 n c, Value.int IntKind.i64 n_1] } ∧ CallH
  Try.prog (23 : Nat) { toList := [Value.pointer a_1, Value.slice ms_a ms_n ms_c] } H' fun v H' => ∃ a_3 n_2 c_1 n_3, v = Value.tuple { toList := [Value.slice a_3 n_2 c_1, Value.int
  IntKind.i64 n_3] } ∧ SemWp Try.prog (Instr.makeSlice (38 : Nat) (Value.int IntKind.i64 (1 : Int)) (Value.int IntKind.i64 (1 : Int))) H' fun v H' => ∃ a_4 n_4 c_2, v = Value.slice a_4 n_4 c_2
  ∧ CallH Try.prog (22 : Nat) { toList := [Value.pointer a, Value.slice a_4 n_4 c_2] } H' fun v H' => ∃ a n_5 c_3 n_6, v = Value.tuple { toList := [Value.slice a n_5 c_3, Value.int IntKind.i64
  n_6] } ∧ brB (n_1 == n_3) (CallH Try.prog (24 : Nat) { toList := [Value.slice a_2 n c, Value.slice a_3 n_2 c_1] } H' fun v H' => ∃ b, v = Value.bool b ∧ brB b (R (Value.bool (n_6 == (50 :
  Int))) H') (R (Value.bool false) H')) (R (Value.bool false) H'))) : CallH Try.prog 4 (List.toArray [Value.slice l_a l_n l_c, Value.slice ms_a ms_n ms_c]) H R := vc_call (annOf [([1], .cut
  [])]) followsAll Go.Proofs.Try.func4 rfl Go.Proofs.Try.ntmps4 rfl rfl (Eq.mpr (by kernel_rfl) h)

/- 5 strandline/strandlinelaw07.IndexParts
  slots: [0=l, 1=name, 2=value, 3=l, 4=name, 5=value, 7=x, 8=r, 9=ok, 10=is, 11=no, 12=a, 13=e, 14=b, 15=f, 16=_, 17=g, 18=all, 19=every, 20=h, 21=_, 22=odd]  -/
abbrev fn_law07_IndexParts : Nat := 5
theorem vc_law07_IndexParts (l_a : Option Addr) (l_n : Nat) (l_c : Nat) (name : ByteArray) (value : ByteArray) (H : Heap) (R : Value → Heap → Prop) (h : ∃ (M : List Value → Heap → Prop),
  (CallH Try.prog (11 : Nat) { toList := [Value.slice l_a l_n l_c] } H fun v H' => ∃ b, v = Value.bool b ∧ brB b (R (Value.bool true) H') (brB (decide ((↑(ByteArray.size name) : Int) > (1024 :
  Int))) (R (Value.bool true) H') (brB (decide ((↑(ByteArray.size value) : Int) > (1024 : Int))) (R (Value.bool true) H') (M [] H')))) ∧ ∀ (J : F) (H' : Heap), M [] H' → CallH Try.prog (12 :
  Nat) { toList := [Value.slice l_a l_n l_c] } H' fun v H' => ∃ a a_1 b, v = Value.tuple { toList := [Value.pointer a, Value.pointer a_1, Value.bool b] } ∧ brB (!b) (R (Value.bool false) H')
  (∀ (b : Nat) (H'_1 : Heap), New H' b (Obj.cells { toList := [Value.int IntKind.i64 (0 : Int), Value.string name, Value.string value, Value.slice none (0 : Nat) (0 : Nat)] } (47 : Nat)) H'_1
  → ∀ (b_1 : Nat) (H' : Heap), New H'_1 b_1 (Obj.cells { toList := [Value.int IntKind.i64 (1 : Int), Value.string name, Value.string value, Value.slice none (0 : Nat) (0 : Nat)] } (47 : Nat))
  H' → CallH Try.prog (22 : Nat) { toList := [Value.pointer a, Value.slice (some ⟨b, (0 : Nat), none⟩) (1 : Nat) (1 : Nat)] } H' fun v H' => ∃ a_4 n c n_1, v = Value.tuple { toList :=
  [Value.slice a_4 n c, Value.int IntKind.i64 n_1] } ∧ CallH Try.prog (22 : Nat) { toList := [Value.pointer a, Value.slice (some ⟨b_1, (0 : Nat), none⟩) (1 : Nat) (1 : Nat)] } H' fun v H' => ∃
  a_5 n_2 c_1 n_3, v = Value.tuple { toList := [Value.slice a_5 n_2 c_1, Value.int IntKind.i64 n_3] } ∧ CallH Try.prog (23 : Nat) { toList := [Value.pointer a_1, Value.slice (some ⟨b, (0 :
  Nat), none⟩) (1 : Nat) (1 : Nat)] } H' fun v H' => ∃ a_6 n_4 c_2 n_5, v = Value.tuple { toList := [Value.slice a_6 n_4 c_2, Value.int IntKind.i64 n_5] } ∧ ∃ (M : List Value → Heap → Prop),
  brB (n_1 != n_5) (R (Value.bool false) H') (brB (n_3 != n_5) (R (Value.bool false) H') (M [] H')) ∧ ∀ (J : F) (H' : Heap), M [] H' → brB (n_1 != (0 : Int)) (brB ((↑n : Int) == (0 : Int)) (R
  (Value.bool ((↑n_2 : Int) == (0 : Int))) H') (R (Value.bool false) H')) (CallH Try.prog (25 : Nat) { toList := [Value.slice a_4 n c, Value.slice a_5 n_2 c_1] } H' fun v H' => ∃ a_8 n_6 c, v
  = Value.slice a_8 n_6 c ∧ ∃ (M : List Value → Heap → Prop), (CallH Try.prog (13 : Nat) { toList := [Value.pointer a_1] } H' fun v H' => ∃ n_7, v = Value.int IntKind.i64 n_7 ∧ brB
  (IntKind.wrap IntKind.i64 ((↑n : Int) + (↑n_2 : Int)) != n_7) (R (Value.bool false) H') (CallH Try.prog (13 : Nat) { toList := [Value.pointer a_1] } H' fun v H' => ∃ n, v = Value.int
  IntKind.i64 n ∧ brB ((↑n_6 : Int) != n) (R (Value.bool false) H') (M [] H'))) ∧ ∀ (J : F) (H' : Heap), M [] H' → CallH Try.prog (22 : Nat) { toList := [Value.pointer a, Value.slice none (0 :
  Nat) (0 : Nat)] } H' fun v H' => ∃ a_10 n c_3 n_7, v = Value.tuple { toList := [Value.slice a_10 n c_3, Value.int IntKind.i64 n_7] } ∧ SemWp Try.prog (Instr.makeSlice (38 : Nat) (Value.int
  IntKind.i64 (1 : Int)) (Value.int IntKind.i64 (1 : Int))) H' fun v H' => ∃ a_11 n_8 c_4, v = Value.slice a_11 n_8 c_4 ∧ CallH Try.prog (22 : Nat) { toList := [Value.pointer a, Value.slice
  a_11 n_8 c_4] } H' fun v H' => ∃ a n_9 c_5 n_10, v = Value.tuple { toList := [Value.slice a n_9 c_5, Value.int IntKind.i64 n_10] } ∧ brB (n_7 == (0 : Int)) (CallH Try.prog (24 : Nat) {
  toList := [Value.slice a_10 n c_3, Value.slice a_8 n_6 c] } H' fun v H' => ∃ b, v = Value.bool b ∧ brB b (R (Value.bool (n_10 == (50 : Int))) H') (R (Value.bool false) H')) (R (Value.bool
  false) H')))) : CallH Try.prog 5 (List.toArray [Value.slice l_a l_n l_c, Value.string name, Value.string value]) H R := vc_call (annOf [([1], .cut []), ([1, 1, 1, 1, 1, 1, 1, 1, 1], .cut
  []), ([1, 1, 1, 1, 1, 1, 1, 1, 1, 1, 1, 1], .cut [])]) followsAll Go.Proofs.Try.func5 rfl Go.Proofs.Try.ntmps5 rfl rfl (Eq.mpr (by kernel_rfl) h)

/- 6 strandline/strandlinelaw07.IndexBoth
  slots: [0=l, 1=a, 2=b, 3=l, 4=a, 5=b, 7=x, 8=r, 9=ok, 10=ab, 11=ba, 12=p, 13=e, 14=q, 15=f, 16=s, 17=g, 18=t, 19=h, 20=_, 21=odd, 22=w, 23=_]  -/
abbrev fn_law07_IndexBoth : Nat := 6
theorem vc_law07_IndexBoth (l_a : Option Addr) (l_n : Nat) (l_c : Nat) (a_a : Option Addr) (a_n : Nat) (a_c : Nat) (b_a : Option Addr) (b_n : Nat) (b_c : Nat) (H : Heap) (R : Value → Heap →
  Prop) (h : ∃ (M : List Value → Heap → Prop), (CallH Try.prog (11 : Nat) { toList := [Value.slice l_a l_n l_c] } H fun v H' => ∃ b, v = Value.bool b ∧ brB b (R (Value.bool true) H') (CallH
  Try.prog (21 : Nat) { toList := [Value.slice a_a a_n a_c] } H' fun v H' => ∃ b, v = Value.bool b ∧ brB b (R (Value.bool true) H') (CallH Try.prog (21 : Nat) { toList := [Value.slice b_a b_n
  b_c] } H' fun v H' => ∃ b, v = Value.bool b ∧ brB b (R (Value.bool true) H') (M [] H')))) ∧ ∀ (J : F) (H' : Heap), M [] H' → CallH Try.prog (12 : Nat) { toList := [Value.slice l_a l_n l_c] }
  H' fun v H' => ∃ a a_1 b, v = Value.tuple { toList := [Value.pointer a, Value.pointer a_1, Value.bool b] } ∧ brB (!b) (R (Value.bool false) H') (∀ (b : Nat) (H'_1 : Heap), New H' b
  (Obj.cells ⟨[]⟩ (47 : Nat)) H'_1 → SemWp Try.prog (Builtin.append_ { toList := [(38 : Nat), (38 : Nat)] } (38 : Nat) { toList := [Value.slice (some ⟨b, (0 : Nat), none⟩) (0 : Nat) (0 : Nat),
  Value.slice a_a a_n a_c] }) H'_1 fun v H' => ∃ a_3 n c, v = Value.slice a_3 n c ∧ SemWp Try.prog (Builtin.append_ { toList := [(38 : Nat), (38 : Nat)] } (38 : Nat) { toList := [Value.slice
  a_3 n c, Value.slice b_a b_n b_c] }) H' fun v H' => ∃ a_4 n c, v = Value.slice a_4 n c ∧ ∀ (b : Nat) (H'_2 : Heap), New H' b (Obj.cells ⟨[]⟩ (47 : Nat)) H'_2 → SemWp Try.prog
  (Builtin.append_ { toList := [(38 : Nat), (38 : Nat)] } (38 : Nat) { toList := [Value.slice (some ⟨b, (0 : Nat), none⟩) (0 : Nat) (0 : Nat), Value.slice b_a b_n b_c] }) H'_2 fun v H' => ∃
  a_6 n_1 c_1, v = Value.slice a_6 n_1 c_1 ∧ SemWp Try.prog (Builtin.append_ { toList := [(38 : Nat), (38 : Nat)] } (38 : Nat) { toList := [Value.slice a_6 n_1 c_1, Value.slice a_a a_n a_c] })
  H' fun v H' => ∃ a_7 n_2 c_2, v = Value.slice a_7 n_2 c_2 ∧ CallH Try.prog (22 : Nat) { toList := [Value.pointer a, Value.slice a_a a_n a_c] } H' fun v H' => ∃ a_8 n_3 c_3 n_4, v =
  Value.tuple { toList := [Value.slice a_8 n_3 c_3, Value.int IntKind.i64 n_4] } ∧ CallH Try.prog (22 : Nat) { toList := [Value.pointer a, Value.slice b_a b_n b_c] } H' fun v H' => ∃ a_9 n_5
  c_4 n_6, v = Value.tuple { toList := [Value.slice a_9 n_5 c_4, Value.int IntKind.i64 n_6] } ∧ CallH Try.prog (22 : Nat) { toList := [Value.pointer a, Value.slice a_4 n c] } H' fun v H' => ∃
  a_10 n_7 c_5 n_8, v = Value.tuple { toList := [Value.slice a_10 n_7 c_5, Value.int IntKind.i64 n_8] } ∧ CallH Try.prog (22 : Nat) { toList := [Value.pointer a, Value.slice a_7 n_2 c_2] } H'
  fun v H' => ∃ a_11 n_9 c_6 n_10, v = Value.tuple { toList := [Value.slice a_11 n_9 c_6, Value.int IntKind.i64 n_10] } ∧ SemWp Try.prog (Instr.makeSlice (38 : Nat) (Value.int IntKind.i64 (1 :
  Int)) (Value.int IntKind.i64 (1 : Int))) H' fun v H' => ∃ a_12 n_11 c_7, v = Value.slice a_12 n_11 c_7 ∧ CallH Try.prog (22 : Nat) { toList := [Value.pointer a, Value.slice a_12 n_11 c_7] }
  H' fun v H' => ∃ a n_12 c_8 n_13, v = Value.tuple { toList := [Value.slice a n_12 c_8, Value.int IntKind.i64 n_13] } ∧ ∃ (M : List Value → Heap → Prop), brB (n_4 == (0 : Int)) (brB (!(n_8 ==
  (0 : Int)) == (n_6 == (0 : Int))) (R (Value.bool false) H') (brB (!(n_10 == (0 : Int)) == (n_8 == (0 : Int))) (R (Value.bool false) H') (brB (n_13 != (50 : Int)) (R (Value.bool false) H') (M
  [] H')))) (brB (!(n_8 == (0 : Int)) == false) (R (Value.bool false) H') (brB (!(n_10 == (0 : Int)) == (n_8 == (0 : Int))) (R (Value.bool false) H') (brB (n_13 != (50 : Int)) (R (Value.bool
  false) H') (M [] H')))) ∧ ∀ (J : F) (H' : Heap), M [] H' → CallH Try.prog (23 : Nat) { toList := [Value.pointer a_1, Value.slice a_4 n c] } H' fun v H' => ∃ a n c n_14, v = Value.tuple {
  toList := [Value.slice a n c, Value.int IntKind.i64 n_14] } ∧ brB (n_8 != (0 : Int)) (R (Value.bool true) H') (CallH Try.prog (26 : Nat) { toList := [Value.slice a_8 n_3 c_3, Value.slice a_9
  n_5 c_4] } H' fun v H' => ∃ a_13 n_15 c_9, v = Value.slice a_13 n_15 c_9 ∧ CallH Try.prog (24 : Nat) { toList := [Value.slice a_10 n_7 c_5, Value.slice a_13 n_15 c_9] } H' fun v H' => ∃ b, v
  = Value.bool b ∧ brB b (CallH Try.prog (24 : Nat) { toList := [Value.slice a_10 n_7 c_5, Value.slice a_11 n_9 c_6] } H' fun v H' => ∃ b, v = Value.bool b ∧ brB b (CallH Try.prog (24 : Nat) {
  toList := [Value.slice a_10 n_7 c_5, Value.slice a n c] } H' fun v H' => ∃ b, v = Value.bool b ∧ R (Value.bool b) H') (R (Value.bool false) H')) (R (Value.bool false) H')))) : CallH Try.prog
  6 (List.toArray [Value.slice l_a l_n l_c, Value.slice a_a a_n a_c, Value.slice b_a b_n b_c]) H R := vc_call (annOf [([1], .cut []), ([1, 1, 1, 1, 1, 1, 1, 1, 1, 1, 1, 1, 1, 1, 1], .cut [])])
  followsAll Go.Proofs.Try.func6 rfl Go.Proofs.Try.ntmps6 rfl rfl (Eq.mpr (by kernel_rfl) h)

/- 7 strandline/strandlinelaw07.IndexTwice
  slots: [0=l, 1=by, 2=l, 3=by, 5=x, 6=r, 7=ok, 8=s, 9=i, 10=k, 11=a, 12=e, 13=b, 14=f, 15=_, 16=odd]  -/
abbrev fn_law07_IndexTwice : Nat := 7
theorem vc_law07_IndexTwice (l_a : Option Addr) (l_n : Nat) (l_c : Nat) (by' : Int) (H : Heap) (R : Value → Heap → Prop) (h : CallH Try.prog (11 : Nat) { toList := [Value.slice l_a l_n l_c]
  } H fun v H' => ∃ b, v = Value.bool b ∧ brB b (R (Value.bool true) H') (CallH Try.prog (12 : Nat) { toList := [Value.slice l_a l_n l_c] } H' fun v H' => ∃ a a_1 b, v = Value.tuple { toList
  := [Value.pointer a, Value.pointer a_1, Value.bool b] } ∧ brB (!b) (R (Value.bool false) H') (CallH Try.prog (27 : Nat) { toList := [Value.pointer a] } H' fun v H' => ∃ s, v = Value.string s
  ∧ ∃ (I : List Value → Heap → Prop) (μ : List Value → Heap → Nat), I [Value.int IntKind.i64 (0 : Int)] H' ∧ ∀ (J : F) (n : Int) (H' : Heap), I [Value.int IntKind.i64 n] H' → brB (decide (n <
  (↑l_n : Int))) (chk (decide ((↑l_n : Int) ≠ (0 : Int))) (exSome l_a fun ad => chk (decide ((0 : Int) ≤ Int.tmod (IntKind.wrap IntKind.i64 (n + IntKind.wrap IntKind.i64 by')) (↑l_n : Int) ∧
  Int.tmod (IntKind.wrap IntKind.i64 (n + IntKind.wrap IntKind.i64 by')) (↑l_n : Int) < (↑l_n : Int))) (∃ a_3 n_1 c, Ld Try.prog (23 : Nat) H' (Addr.add ad (Int.toNat (Int.tmod (IntKind.wrap
  IntKind.i64 (n + IntKind.wrap IntKind.i64 by')) (↑l_n : Int)) * (1 : Nat))) (Value.slice a_3 n_1 c) ∧ CallH Try.prog (18 : Nat) { toList := [Value.pointer a, Value.slice a_3 n_1 c] } H' fun
  v H'_1 => ∃ n_2 n_3, v = Value.tuple { toList := [Value.int IntKind.i64 n_2, Value.int IntKind.i64 n_3] } ∧ exSome l_a fun ad => chk (decide ((0 : Int) ≤ Int.tmod (IntKind.wrap IntKind.i64
  (n + IntKind.wrap IntKind.i64 by')) (↑l_n : Int) ∧ Int.tmod (IntKind.wrap IntKind.i64 (n + IntKind.wrap IntKind.i64 by')) (↑l_n : Int) < (↑l_n : Int))) (∃ a n_4 c, Ld Try.prog (23 : Nat)
  H'_1 (Addr.add ad (Int.toNat (Int.tmod (IntKind.wrap IntKind.i64 (n + IntKind.wrap IntKind.i64 by')) (↑l_n : Int)) * (1 : Nat))) (Value.slice a n_4 c) ∧ CallH Try.prog (28 : Nat) { toList :=
  [Value.pointer a_1, Value.slice a n_4 c] } H'_1 fun v H'_2 => ∃ n_5 n_6, v = Value.tuple { toList := [Value.int IntKind.i64 n_5, Value.int IntKind.i64 n_6] } ∧ brB (n_2 != n_5) (R
  (Value.bool false) H'_2) (brB (n_3 != n_6) (R (Value.bool false) H'_2) (I [Value.int IntKind.i64 (IntKind.wrap IntKind.i64 (n + (1 : Int)))] H'_2 ∧ μ [Value.int IntKind.i64 (IntKind.wrap
  IntKind.i64 (n + (1 : Int)))] H'_2 < μ [Value.int IntKind.i64 n] H')))))) (SemWp Try.prog (Instr.makeSlice (38 : Nat) (Value.int IntKind.i64 (1 : Int)) (Value.int IntKind.i64 (1 : Int))) H'
  fun v H' => ∃ a_3 n c, v = Value.slice a_3 n c ∧ CallH Try.prog (22 : Nat) { toList := [Value.pointer a, Value.slice a_3 n c] } H' fun v H' => ∃ a_4 n c n_1, v = Value.tuple { toList :=
  [Value.slice a_4 n c, Value.int IntKind.i64 n_1] } ∧ CallH Try.prog (27 : Nat) { toList := [Value.pointer a] } H' fun v H' => ∃ s_1, v = Value.string s_1 ∧ brB (ByteArray.toList s_1 ==
  ByteArray.toList s) (CallH Try.prog (29 : Nat) { toList := [Value.pointer a_1] } H' fun v H' => ∃ s_2, v = Value.string s_2 ∧ brB (ByteArray.toList s == ByteArray.toList s_2) (R (Value.bool
  (n_1 == (50 : Int))) H') (R (Value.bool false) H')) (R (Value.bool false) H'))))) : CallH Try.prog 7 (List.toArray [Value.slice l_a l_n l_c, Value.int IntKind.u8 by']) H R := vc_call (annOf
  [([0, 1, 0, 1, 1, 1, 1, 1], .cut [(9, .one (.int .i64))])]) followsAll Go.Proofs.Try.func7 rfl Go.Proofs.Try.ntmps7 rfl rfl (Eq.mpr (by kernel_rfl) h)

/- 8 strandline/strandlinelaw07.IndexBack
  slots: [0=l, 1=more, 2=l, 3=more, 5=x, 6=r, 7=ok, 8=s, 9=y, 10=e, 11=i, 12=a, 13=f, 14=b, 15=g]  -/
abbrev fn_law07_IndexBack : Nat := 8
theorem vc_law07_IndexBack (l_a : Option Addr) (l_n : Nat) (l_c : Nat) (more_a : Option Addr) (more_n : Nat) (more_c : Nat) (H : Heap) (R : Value → Heap → Prop) (h : ∃ (M : List Value → Heap
  → Prop), (CallH Try.prog (11 : Nat) { toList := [Value.slice l_a l_n l_c] } H fun v H' => ∃ b, v = Value.bool b ∧ brB b (R (Value.bool true) H') (CallH Try.prog (11 : Nat) { toList :=
  [Value.slice more_a more_n more_c] } H' fun v H' => ∃ b, v = Value.bool b ∧ brB b (R (Value.bool true) H') (M [] H'))) ∧ ∀ (J : F) (H' : Heap), M [] H' → CallH Try.prog (12 : Nat) { toList
  := [Value.slice l_a l_n l_c] } H' fun v H' => ∃ a a_1 b, v = Value.tuple { toList := [Value.pointer a, Value.pointer a_1, Value.bool b] } ∧ brB (!b) (R (Value.bool false) H') (CallH Try.prog
  (27 : Nat) { toList := [Value.pointer a] } H' fun v H' => ∃ s, v = Value.string s ∧ CallH Try.prog (30 : Nat) { toList := [Value.string s] } H' fun v H' => ∃ a_2 n, v = Value.tuple { toList
  := [Value.pointer a_2, Value.int IntKind.i64 n] } ∧ ∃ (M : List Value → Heap → Prop), (CallH Try.prog (29 : Nat) { toList := [Value.pointer a_1] } H' fun v H' => ∃ s_1, v = Value.string s_1
  ∧ brB (!ByteArray.toList s == ByteArray.toList s_1) (R (Value.bool false) H') (brB (n != (0 : Int)) (R (Value.bool false) H') (brB (Option.isNone a_2) (R (Value.bool false) H') (CallH
  Try.prog (27 : Nat) { toList := [Value.pointer a_2] } H' fun v H' => ∃ s_2, v = Value.string s_2 ∧ brB (!ByteArray.toList s_2 == ByteArray.toList s) (R (Value.bool false) H') (M [] H'))))) ∧
  ∀ (J : F) (H' : Heap), M [] H' → ∃ (I : List Value → Heap → Prop) (μ : List Value → Heap → Nat), I [Value.int IntKind.i64 (0 : Int)] H' ∧ ∀ (J : F) (n : Int) (H' : Heap), I [Value.int
  IntKind.i64 n] H' → brB (decide (n < (↑more_n : Int))) (exSome more_a fun ad => chk (decide ((0 : Int) ≤ n ∧ n < (↑more_n : Int))) (∃ a_5 n_1 c, Ld Try.prog (23 : Nat) H' (Addr.add ad
  (Int.toNat n * (1 : Nat))) (Value.slice a_5 n_1 c) ∧ CallH Try.prog (18 : Nat) { toList := [Value.pointer a, Value.slice a_5 n_1 c] } H' fun v H'_1 => ∃ n_2 n_3, v = Value.tuple { toList :=
  [Value.int IntKind.i64 n_2, Value.int IntKind.i64 n_3] } ∧ exSome more_a fun ad => chk (decide ((0 : Int) ≤ n ∧ n < (↑more_n : Int))) (∃ a n_4 c, Ld Try.prog (23 : Nat) H'_1 (Addr.add ad
  (Int.toNat n * (1 : Nat))) (Value.slice a n_4 c) ∧ CallH Try.prog (18 : Nat) { toList := [Value.pointer a_2, Value.slice a n_4 c] } H'_1 fun v H'_2 => ∃ n_5 n_6, v = Value.tuple { toList :=
  [Value.int IntKind.i64 n_5, Value.int IntKind.i64 n_6] } ∧ brB (n_2 != n_5) (R (Value.bool false) H'_2) (brB (n_3 != n_6) (R (Value.bool false) H'_2) (I [Value.int IntKind.i64 (IntKind.wrap
  IntKind.i64 (n + (1 : Int)))] H'_2 ∧ μ [Value.int IntKind.i64 (IntKind.wrap IntKind.i64 (n + (1 : Int)))] H'_2 < μ [Value.int IntKind.i64 n] H'))))) (CallH Try.prog (27 : Nat) { toList :=
  [Value.pointer a] } H' fun v H' => ∃ s, v = Value.string s ∧ CallH Try.prog (27 : Nat) { toList := [Value.pointer a_2] } H' fun v H' => ∃ s_1, v = Value.string s_1 ∧ R (Value.bool
  (ByteArray.toList s == ByteArray.toList s_1)) H'))) : CallH Try.prog 8 (List.toArray [Value.slice l_a l_n l_c, Value.slice more_a more_n more_c]) H R := vc_call (annOf [([1], .cut []), ([1,
  1, 1, 1, 1, 1], .cut []), ([0, 1, 0, 1, 1, 1, 1, 1, 1, 1], .cut [(11, .one (.int .i64))])]) followsAll Go.Proofs.Try.func8 rfl Go.Proofs.Try.ntmps8 rfl rfl (Eq.mpr (by kernel_rfl) h)

/- 9 strandline/strandlinelaw07.IndexDecodes
  slots: [0=s, 1=s, 3=x, 4=e, 5=r, 6=f, 7=_, 8=none]  -/
abbrev fn_law07_IndexDecodes : Nat := 9
theorem vc_law07_IndexDecodes (s : ByteArray) (H : Heap) (R : Value → Heap → Prop) (h : brB (decide ((↑(ByteArray.size s) : Int) > (2048 : Int))) (R (Value.bool true) H) (CallH Try.prog (30
  : Nat) { toList := [Value.string s] } H fun v H' => ∃ a n, v = Value.tuple { toList := [Value.pointer a, Value.int IntKind.i64 n] } ∧ CallH Try.prog (31 : Nat) { toList := [Value.string s] }
  H' fun v H' => ∃ a_1 n_1, v = Value.tuple { toList := [Value.pointer a_1, Value.int IntKind.i64 n_1] } ∧ CallH Try.prog (30 : Nat) { toList := [Value.string { data := #[] }] } H' fun v H' =>
  ∃ a_2 n_2, v = Value.tuple { toList := [Value.pointer a_2, Value.int IntKind.i64 n_2] } ∧ ∃ (M : List Value → Heap → Prop), brB (n != n_1) (R (Value.bool false) H') (brB (!Option.isNone a ==
  Option.isNone a_1) (R (Value.bool false) H') (brB (n_2 != (11 : Int)) (R (Value.bool false) H') (M [] H'))) ∧ ∀ (J : F) (H' : Heap), M [] H' → brB (Option.isNone a_1) (R (Value.bool true)
  H') (CallH Try.prog (27 : Nat) { toList := [Value.pointer a] } H' fun v H' => ∃ s_1, v = Value.string s_1 ∧ brB (ByteArray.toList s_1 == ByteArray.toList s) (CallH Try.prog (20 : Nat) {
  toList := [Value.pointer a] } H' fun v H' => ∃ n, v = Value.int IntKind.i64 n ∧ CallH Try.prog (13 : Nat) { toList := [Value.pointer a_1] } H' fun v H' => ∃ n_3, v = Value.int IntKind.i64
  n_3 ∧ R (Value.bool (n == n_3)) H') (R (Value.bool false) H')))) : CallH Try.prog 9 (List.toArray [Value.string s]) H R := vc_call (annOf [([1, 1, 1, 1, 1], .cut [])]) followsAll
  Go.Proofs.Try.func9 rfl Go.Proofs.Try.ntmps9 rfl rfl (Eq.mpr (by kernel_rfl) h)

/- 10 strandline/strandlinelaw07.IndexNames
  slots: [0=l, 1=name, 2=l, 3=name, 5=x, 6=r, 7=ok, 8=names, 9=i, 10=_, 11=odd]  -/
abbrev fn_law07_IndexNames : Nat := 10
theorem vc_law07_IndexNames (l_a : Option Addr) (l_n : Nat) (l_c : Nat) (name : ByteArray) (H : Heap) (R : Value → Heap → Prop) (h : ∃ (M : List Value → Heap → Prop), (CallH Try.prog (11 :
  Nat) { toList := [Value.slice l_a l_n l_c] } H fun v H' => ∃ b, v = Value.bool b ∧ brB b (R (Value.bool true) H') (brB (decide ((↑(ByteArray.size name) : Int) > (1024 : Int))) (R (Value.bool
  true) H') (M [] H'))) ∧ ∀ (J : F) (H' : Heap), M [] H' → CallH Try.prog (12 : Nat) { toList := [Value.slice l_a l_n l_c] } H' fun v H' => ∃ a a_1 b, v = Value.tuple { toList :=
  [Value.pointer a, Value.pointer a_1, Value.bool b] } ∧ brB (!b) (R (Value.bool false) H') (CallH Try.prog (32 : Nat) { toList := [Value.pointer a_1] } H' fun v H' => ∃ a_2 n c, v =
  Value.slice a_2 n c ∧ ∃ (I : List Value → Heap → Prop) (μ : List Value → Heap → Nat), I [Value.int IntKind.i64 (0 : Int)] H' ∧ ∀ (J : F) (n_1 : Int) (H' : Heap), I [Value.int IntKind.i64
  n_1] H' → brB (decide (n_1 < (↑n : Int))) (exSome a_2 fun ad => chk (decide ((0 : Int) ≤ n_1 ∧ n_1 < (↑n : Int))) (∃ s, Ld Try.prog (9 : Nat) H' (Addr.add ad (Int.toNat n_1 * (1 : Nat)))
  (Value.string s) ∧ exSome a_2 fun ad => chk (decide ((0 : Int) ≤ n_1 ∧ n_1 < (↑n : Int))) (∃ s_1, Ld Try.prog (9 : Nat) H' (Addr.add ad (Int.toNat n_1 * (1 : Nat))) (Value.string s_1) ∧
  CallH Try.prog (34 : Nat) { toList := [Value.pointer a, Value.string s] } H' fun v H'_1 => ∃ a n c, v = Value.slice a n c ∧ Ld Try.prog (9 : Nat) H'_1 (Addr.add ad (Int.toNat n_1 * (1 :
  Nat))) (Value.string s_1) ∧ CallH Try.prog (35 : Nat) { toList := [Value.pointer a_1, Value.string s_1] } H'_1 fun v H'_2 => ∃ a_4 n_2 c_1, v = Value.slice a_4 n_2 c_1 ∧ CallH Try.prog (33 :
  Nat) { toList := [Value.slice a n c, Value.slice a_4 n_2 c_1] } H'_2 fun v H'_3 => ∃ b, v = Value.bool b ∧ brB (!b) (R (Value.bool false) H'_3) (I [Value.int IntKind.i64 (IntKind.wrap
  IntKind.i64 (n_1 + (1 : Int)))] H'_3 ∧ μ [Value.int IntKind.i64 (IntKind.wrap IntKind.i64 (n_1 + (1 : Int)))] H'_3 < μ [Value.int IntKind.i64 n_1] H')))) (SemWp Try.prog (Instr.makeSlice (38
  : Nat) (Value.int IntKind.i64 (1 : Int)) (Value.int IntKind.i64 (1 : Int))) H' fun v H' => ∃ a_4 n_2 c_1, v = Value.slice a_4 n_2 c_1 ∧ CallH Try.prog (22 : Nat) { toList := [Value.pointer
  a, Value.slice a_4 n_2 c_1] } H' fun v H' => ∃ a_5 n_3 c_2 n_4, v = Value.tuple { toList := [Value.slice a_5 n_3 c_2, Value.int IntKind.i64 n_4] } ∧ CallH Try.prog (36 : Nat) { toList :=
  [Value.pointer a] } H' fun v H' => ∃ a_6 n_5 c_3, v = Value.slice a_6 n_5 c_3 ∧ CallH Try.prog (33 : Nat) { toList := [Value.slice a_6 n_5 c_3, Value.slice a_2 n c] } H' fun v H' => ∃ b, v =
  Value.bool b ∧ brB b (CallH Try.prog (34 : Nat) { toList := [Value.pointer a, Value.string name] } H' fun v H' => ∃ a n c, v = Value.slice a n c ∧ CallH Try.prog (35 : Nat) { toList :=
  [Value.pointer a_1, Value.string name] } H' fun v H' => ∃ a_7 n_6 c_4, v = Value.slice a_7 n_6 c_4 ∧ CallH Try.prog (33 : Nat) { toList := [Value.slice a n c, Value.slice a_7 n_6 c_4] } H'
  fun v H' => ∃ b, v = Value.bool b ∧ brB b (R (Value.bool (n_4 == (50 : Int))) H') (R (Value.bool false) H')) (R (Value.bool false) H')))) : CallH Try.prog 10 (List.toArray [Value.slice l_a
  l_n l_c, Value.string name]) H R := vc_call (annOf [([1], .cut []), ([0, 1, 0, 1, 1, 1, 1, 1], .cut [(9, .one (.int .i64))]), ([0, 0, 0, 1, 0, 0, 1, 0, 1, 1, 1, 1, 1], .reg [0, 0, 0, 6, 14,
  31, 0, 0, 0, 384, 896, 2047, 4095, 8191] (.quiet 0 (.quiet 1 (.quiet 2 (.quiet 3 (.quiet 4 (.quiet 6 (.quiet 7 (.quiet 8 (.quiet 9 (.quiet 10 (.pick (.alt 5 (.pick (.alt 11 (.pick (.alt 12
  (.quiet 13 .done) .stop)) .stop)) .stop)))))))))))))]) followsAll Go.Proofs.Try.func10 rfl Go.Proofs.Try.ntmps10 rfl rfl (Eq.mpr (by kernel_rfl) h)
end Go.Proofs
