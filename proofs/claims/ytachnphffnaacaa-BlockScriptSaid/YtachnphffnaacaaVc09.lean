/- A part of a proof: see the last text of this claim. -/
import Derived.Test.YtachnphffnaacaaGvCore
import Derived.Test.YtachnphffnaacaaRows
set_option linter.unusedVariables false
set_option maxRecDepth 100000
open Go Go.GV
namespace Go.Proofs
theorem followsAll : Try.prog.follows .mixedOrders = true := by kernel_rfl

/- 3 strandline/strandlinelaw09.BlockCuts
  notes: []
  places: [[1, 0, 0, 1, 0, 1, 1, 1, 1], [1, 1, 0, 0, 1, 0, 0, 1, 0, 1, 1, 1, 1], [1, 1, 1, 0, 0, 1, 0, 0, 1, 0, 1, 1, 1, 1]]
  slots: [0=n, 1=many, 2=keep, 3=n, 4=many, 5=keep, 7=d, 8=k, 9=i, 10=e, 11=gone, 12=want] -/
abbrev fn_law09_BlockCuts : Nat := 3
theorem vc_law09_BlockCuts (n : Int) (many : Int) (keep : Int) (H : Heap) (R : Value → Heap → Prop)
  (h : CallH Try.prog (8 : Nat) { toList := [Value.int IntKind.i64 (8 : Int)] } H fun v H' =>
  ∃ a,
    v = Value.pointer a ∧
      CallH Try.prog (9 : Nat)
        {
          toList :=
            [Value.pointer a, Value.int IntKind.i64 (Int.tmod (IntKind.wrap IntKind.i64 n) (20 : Int)),
              Value.int IntKind.u64 keep] }
        H' fun v H' =>
        v = Value.tuple { toList := [] } ∧
          ∃ (I : List Value → Heap → Prop) (μ : List Value → Heap → Nat),
            I [Value.int IntKind.i64 (1 : Int)] H' ∧
              ∀ (J : F) (n_1 : Int) (H' : Heap),
                I [Value.int IntKind.i64 n_1] H' →
                  brB (decide (n_1 ≤ Int.tmod (IntKind.wrap IntKind.i64 many) (30 : Int)))
                    (∃ (M : List Value → Heap → Prop),
                      brB (Int.tmod n_1 (3 : Int) == (0 : Int))
                          (CallH Try.prog (10 : Nat) { toList := [Value.pointer a] } H' fun v H' =>
                            ∃ n_2,
                              v = Value.int IntKind.i64 n_2 ∧
                                ∃ (M_1 : List Value → Heap → Prop),
                                  brB (decide (Int.tmod (IntKind.wrap IntKind.i64 n) (20 : Int) > (0 : Int)))
                                      (M_1
                                        [Value.bool (decide (n_1 ≥ Int.tmod (IntKind.wrap IntKind.i64 n) (20 : Int)))]
                                        H')
                                      (M_1 [Value.bool false] H') ∧
                                    ∀ (J : F) (b : Bool) (H' : Heap),
                                      M_1 [Value.bool b] H' →
                                        ∃ (M_2 : List Value → Heap → Prop),
                                          brB (!(n_2 == (90 : Int)) == b) (R (Value.bool false) H')
                                              (CallH Try.prog (12 : Nat) { toList := [Value.pointer a] } H' fun v H' =>
                                                ∃ b_1,
                                                  v = Value.bool b_1 ∧
                                                    brB (!b_1 == b) (R (Value.bool false) H') (M_2 [] H')) ∧
                                            ∀ (J : F) (H' : Heap),
                                              M_2 [] H' →
                                                brB b
                                                  (CallH Try.prog (13 : Nat) { toList := [Value.pointer a] } H'
                                                    fun v H' =>
                                                    ∃ n_3,
                                                      v = Value.int IntKind.i64 n_3 ∧
                                                        brB (n_3 != Int.tmod (IntKind.wrap IntKind.i64 n) (20 : Int))
                                                          (R (Value.bool false) H') (M [] H'))
                                                  (CallH Try.prog (13 : Nat) { toList := [Value.pointer a] } H'
                                                    fun v H' =>
                                                    ∃ n,
                                                      v = Value.int IntKind.i64 n ∧
                                                        brB (n != n_1) (R (Value.bool false) H') (M [] H')))
                          (CallH Try.prog (11 : Nat)
                            {
                              toList :=
                                [Value.pointer a, Value.int IntKind.i64 (Int.tmod n_1 (8 : Int)),
                                  Value.string { data := #[(120 : UInt8)] }] }
                            H' fun v H' =>
                            ∃ n_2,
                              v = Value.int IntKind.i64 n_2 ∧
                                ∃ (M_1 : List Value → Heap → Prop),
                                  brB (decide (Int.tmod (IntKind.wrap IntKind.i64 n) (20 : Int) > (0 : Int)))
                                      (M_1
                                        [Value.bool (decide (n_1 ≥ Int.tmod (IntKind.wrap IntKind.i64 n) (20 : Int)))]
                                        H')
                                      (M_1 [Value.bool false] H') ∧
                                    ∀ (J : F) (b : Bool) (H' : Heap),
                                      M_1 [Value.bool b] H' →
                                        ∃ (M_2 : List Value → Heap → Prop),
                                          brB (!(n_2 == (90 : Int)) == b) (R (Value.bool false) H')
                                              (CallH Try.prog (12 : Nat) { toList := [Value.pointer a] } H' fun v H' =>
                                                ∃ b_1,
                                                  v = Value.bool b_1 ∧
                                                    brB (!b_1 == b) (R (Value.bool false) H') (M_2 [] H')) ∧
                                            ∀ (J : F) (H' : Heap),
                                              M_2 [] H' →
                                                brB b
                                                  (CallH Try.prog (13 : Nat) { toList := [Value.pointer a] } H'
                                                    fun v H' =>
                                                    ∃ n_3,
                                                      v = Value.int IntKind.i64 n_3 ∧
                                                        brB (n_3 != Int.tmod (IntKind.wrap IntKind.i64 n) (20 : Int))
                                                          (R (Value.bool false) H') (M [] H'))
                                                  (CallH Try.prog (13 : Nat) { toList := [Value.pointer a] } H'
                                                    fun v H' =>
                                                    ∃ n,
                                                      v = Value.int IntKind.i64 n ∧
                                                        brB (n != n_1) (R (Value.bool false) H') (M [] H'))) ∧
                        ∀ (J : F) (H'_1 : Heap),
                          M [] H'_1 →
                            I [Value.int IntKind.i64 (IntKind.wrap IntKind.i64 (n_1 + (1 : Int)))] H'_1 ∧
                              μ [Value.int IntKind.i64 (IntKind.wrap IntKind.i64 (n_1 + (1 : Int)))] H'_1 <
                                μ [Value.int IntKind.i64 n_1] H')
                    (CallH Try.prog (14 : Nat) { toList := [Value.pointer a, Value.int IntKind.u64 keep] } H'
                      fun v H' =>
                      v = Value.tuple { toList := [] } ∧
                        CallH Try.prog (12 : Nat) { toList := [Value.pointer a] } H' fun v H' =>
                          ∃ b,
                            v = Value.bool b ∧
                              brB (!b) (R (Value.bool false) H')
                                (CallH Try.prog (15 : Nat) { toList := [Value.pointer a] } H' fun v H' =>
                                  v = Value.tuple { toList := [] } ∧
                                    CallH Try.prog (12 : Nat) { toList := [Value.pointer a] } H' fun v H' =>
                                      ∃ b,
                                        v = Value.bool b ∧
                                          brB (!b)
                                            (CallH Try.prog (11 : Nat)
                                              {
                                                toList :=
                                                  [Value.pointer a, Value.int IntKind.i64 (0 : Int),
                                                    Value.string { data := #[] }] }
                                              H' fun v H' =>
                                              ∃ n,
                                                v = Value.int IntKind.i64 n ∧
                                                  brB (n == (0 : Int))
                                                    (CallH Try.prog (11 : Nat)
                                                      {
                                                        toList :=
                                                          [Value.pointer a, Value.int IntKind.i64 (8 : Int),
                                                            Value.string { data := #[] }] }
                                                      H' fun v H' =>
                                                      ∃ n,
                                                        v = Value.int IntKind.i64 n ∧
                                                          R (Value.bool (n == (91 : Int))) H')
                                                    (R (Value.bool false) H'))
                                            (R (Value.bool false) H')))) :
  CallH Try.prog 3 (List.toArray [Value.int IntKind.u8 n, Value.int IntKind.u8 many, Value.int IntKind.u64 keep]) H R :=
  vc_call (annOf [([0, 1, 0, 1, 1, 1, 1], .cut [(9, .one (.int .i64))]), ([1, 0, 0, 1, 0, 1, 1, 1, 1], .cut []), ([1, 1, 0, 0, 1, 0, 0, 1, 0, 1, 1, 1, 1], .cut [(11, .one .bool)]), ([1, 1, 1, 0, 0, 1, 0, 0, 1, 0, 1, 1, 1, 1], .cut [])]) followsAll Go.Proofs.Try.func3 rfl Go.Proofs.Try.ntmps3 rfl rfl (Eq.mpr (by kernel_rfl) h)

/- 4 strandline/strandlinelaw09.BlockLasts
  notes: []
  places: [[1], [1, 0, 0, 1, 0, 1, 1, 1, 1, 1, 1, 1, 1], [0, 0, 1, 0, 0, 1, 0, 1, 1, 1, 1, 1, 1, 1, 1], [0, 1, 0, 0, 1, 0, 0, 1, 0, 1, 1, 1, 1, 1, 1, 1, 1], [1, 0, 0, 1, 0, 1, 1, 1, 1, 1, 1, 1, 1, 1, 1, 1, 1]]
  slots: [0=l, 1=more, 2=keep, 3=l, 4=more, 5=keep, 7=d, 8=i, 9=was, 10=i, 11=s, 12=e, 13=later, 14=i, 15=i, 16=s, 17=e] -/
abbrev fn_law09_BlockLasts : Nat := 4
theorem vc_law09_BlockLasts (l_a : Option Addr) (l_n : Nat) (l_c : Nat) (more_a : Option Addr) (more_n : Nat) (more_c : Nat) (keep : Int) (H : Heap) (R : Value → Heap → Prop)
  (h : ∃ (M : List Value → Heap → Prop),
  (CallH Try.prog (16 : Nat) { toList := [Value.slice l_a l_n l_c] } H fun v H' =>
      ∃ b,
        v = Value.bool b ∧
          brB b (R (Value.bool true) H')
            (CallH Try.prog (16 : Nat) { toList := [Value.slice more_a more_n more_c] } H' fun v H' =>
              ∃ b, v = Value.bool b ∧ brB b (R (Value.bool true) H') (M [] H'))) ∧
    ∀ (J : F) (H' : Heap),
      M [] H' →
        CallH Try.prog (8 : Nat) { toList := [Value.int IntKind.i64 (12 : Int)] } H' fun v H' =>
          ∃ a,
            v = Value.pointer a ∧
              ∃ (I : List Value → Heap → Prop) (μ : List Value → Heap → Nat),
                I [Value.int IntKind.i64 (0 : Int)] H' ∧
                  ∀ (J : F) (n : Int) (H' : Heap),
                    I [Value.int IntKind.i64 n] H' →
                      brB (decide (n < (↑l_n : Int)))
                        (exSome l_a fun ad =>
                          chk (decide ((0 : Int) ≤ n ∧ n < (↑l_n : Int)))
                            (∃ n_1,
                              Ld Try.prog (3 : Nat) H' (Addr.add ad (Int.toNat n * (4 : Nat)))
                                  (Value.int IntKind.i64 n_1) ∧
                                brB (n_1 == (0 : Int))
                                  (exSome l_a fun ad =>
                                    chk (decide ((0 : Int) ≤ n ∧ n < (↑l_n : Int)))
                                      (∃ n_2,
                                        Ld Try.prog (3 : Nat) H'
                                            (Addr.add (Addr.add ad (Int.toNat n * (4 : Nat))) (1 : Nat))
                                            (Value.int IntKind.i64 n_2) ∧
                                          exSome l_a fun ad =>
                                            chk (decide ((0 : Int) ≤ n ∧ n < (↑l_n : Int)))
                                              (∃ s,
                                                Ld Try.prog (9 : Nat) H'
                                                    (Addr.add (Addr.add ad (Int.toNat n * (4 : Nat))) (2 : Nat))
                                                    (Value.string s) ∧
                                                  CallH Try.prog (11 : Nat)
                                                    {
                                                      toList :=
                                                        [Value.pointer a, Value.int IntKind.i64 n_2, Value.string s] }
                                                    H' fun v H'_1 =>
                                                    ∃ n_3,
                                                      v = Value.int IntKind.i64 n_3 ∧
                                                        I
                                                            [Value.int IntKind.i64
                                                                (IntKind.wrap IntKind.i64 (n + (1 : Int)))]
                                                            H'_1 ∧
                                                          μ
                                                              [Value.int IntKind.i64
                                                                  (IntKind.wrap IntKind.i64 (n + (1 : Int)))]
                                                              H'_1 <
                                                            μ [Value.int IntKind.i64 n] H')))
                                  (I [Value.int IntKind.i64 (IntKind.wrap IntKind.i64 (n + (1 : Int)))] H' ∧
                                    μ [Value.int IntKind.i64 (IntKind.wrap IntKind.i64 (n + (1 : Int)))] H' <
                                      μ [Value.int IntKind.i64 n] H')))
                        (CallH Try.prog (10 : Nat) { toList := [Value.pointer a] } H' fun v H' =>
                          ∃ n,
                            v = Value.int IntKind.i64 n ∧
                              brB (n != (0 : Int)) (R (Value.bool false) H')
                                (SemWp Try.prog
                                  (Instr.makeSlice (37 : Nat) (Value.int IntKind.i64 (12 : Int))
                                    (Value.int IntKind.i64 (12 : Int)))
                                  H' fun v H' =>
                                  ∃ a_2 n c,
                                    v = Value.slice a_2 n c ∧
                                      ∃ (I : List Value → Heap → Prop) (μ : List Value → Heap → Nat),
                                        I [Value.int IntKind.i64 (0 : Int)] H' ∧
                                          ∀ (J : F) (n_1 : Int) (H' : Heap),
                                            I [Value.int IntKind.i64 n_1] H' →
                                              brB (decide (n_1 < (12 : Int)))
                                                (CallH Try.prog (17 : Nat)
                                                  { toList := [Value.pointer a, Value.int IntKind.i64 n_1] } H'
                                                  fun v H'_1 =>
                                                  ∃ s n_2,
                                                    v =
                                                        Value.tuple
                                                          { toList := [Value.string s, Value.int IntKind.i64 n_2] } ∧
                                                      brB (n_2 != (0 : Int)) (R (Value.bool false) H'_1)
                                                        (exSome a_2 fun ad =>
                                                          chk (decide ((0 : Int) ≤ n_1 ∧ n_1 < (↑n : Int)))
                                                            (∃ H'_2,
                                                              St Try.prog (9 : Nat) H'_1
                                                                  (Addr.add ad (Int.toNat n_1 * (1 : Nat)))
                                                                  (Value.string s) H'_2 ∧
                                                                I
                                                                    [Value.int IntKind.i64
                                                                        (IntKind.wrap IntKind.i64 (n_1 + (1 : Int)))]
                                                                    H'_2 ∧
                                                                  μ
                                                                      [Value.int IntKind.i64
                                                                          (IntKind.wrap IntKind.i64 (n_1 + (1 : Int)))]
                                                                      H'_2 <
                                                                    μ [Value.int IntKind.i64 n_1] H')))
                                                (SemWp Try.prog
                                                  (Instr.makeSlice (40 : Nat) (Value.int IntKind.i64 (12 : Int))
                                                    (Value.int IntKind.i64 (12 : Int)))
                                                  H' fun v H' =>
                                                  ∃ a_4 n_2 c,
                                                    v = Value.slice a_4 n_2 c ∧
                                                      ∃ (I : List Value → Heap → Prop) (μ : List Value → Heap → Nat),
                                                        I [Value.int IntKind.i64 (0 : Int)] H' ∧
                                                          ∀ (J : F) (n_3 : Int) (H' : Heap),
                                                            I [Value.int IntKind.i64 n_3] H' →
                                                              brB (decide (n_3 < (↑more_n : Int)))
                                                                (∃ (M : List Value → Heap → Prop),
                                                                  (∃ (M_1 : List Value → Heap → Prop),
                                                                      (exSome more_a fun ad =>
                                                                          chk
                                                                            (decide
                                                                              ((0 : Int) ≤ n_3 ∧ n_3 < (↑more_n : Int)))
                                                                            (∃ n,
                                                                              Ld Try.prog (3 : Nat) H'
                                                                                  (Addr.add ad
                                                                                    (Int.toNat n_3 * (4 : Nat)))
                                                                                  (Value.int IntKind.i64 n) ∧
                                                                                brB (n == (0 : Int))
                                                                                  (exSome more_a fun ad =>
                                                                                    chk
                                                                                      (decide
                                                                                        ((0 : Int) ≤ n_3 ∧
                                                                                          n_3 < (↑more_n : Int)))
                                                                                      (∃ n,
                                                                                        Ld Try.prog (3 : Nat) H'
                                                                                            (Addr.add
                                                                                              (Addr.add ad
                                                                                                (Int.toNat n_3 *
                                                                                                  (4 : Nat)))
                                                                                              (1 : Nat))
                                                                                            (Value.int IntKind.i64 n) ∧
                                                                                          exSome more_a fun ad =>
                                                                                            chk
                                                                                              (decide
                                                                                                ((0 : Int) ≤ n_3 ∧
                                                                                                  n_3 <
                                                                                                    (↑more_n : Int)))
                                                                                              (∃ s,
                                                                                                Ld Try.prog (9 : Nat) H'
                                                                                                    (Addr.add
                                                                                                      (Addr.add ad
                                                                                                        (Int.toNat n_3 *
                                                                                                          (4 : Nat)))
                                                                                                      (2 : Nat))
                                                                                                    (Value.string s) ∧
                                                                                                  CallH Try.prog
                                                                                                    (11 : Nat)
                                                                                                    {
                                                                                                      toList :=
                                                                                                        [Value.pointer
                                                                                                            a,
                                                                                                          Value.int
                                                                                                            IntKind.i64
                                                                                                            n,
                                                                                                          Value.string
                                                                                                            s] }
                                                                                                    H' fun v H' =>
                                                                                                    ∃ n,
                                                                                                      v =
                                                                                                          Value.int
                                                                                                            IntKind.i64
                                                                                                            n ∧
                                                                                                        M_1
                                                                                                          [Value.bool
                                                                                                              (n ==
                                                                                                                (0 :
                                                                                                                  Int))]
                                                                                                          H')))
                                                                                  (M_1 [Value.bool false] H'))) ∧
                                                                        ∀ (J : F) (b : Bool) (H' : Heap),
                                                                          M_1 [Value.bool b] H' →
                                                                            brB b
                                                                              (∃ (M_2 : List Value → Heap → Prop),
                                                                                (exSome more_a fun ad =>
                                                                                    chk
                                                                                      (decide
                                                                                        ((0 : Int) ≤ n_3 ∧
                                                                                          n_3 < (↑more_n : Int)))
                                                                                      (∃ n,
                                                                                        Ld Try.prog (3 : Nat) H'
                                                                                            (Addr.add
                                                                                              (Addr.add ad
                                                                                                (Int.toNat n_3 *
                                                                                                  (4 : Nat)))
                                                                                              (1 : Nat))
                                                                                            (Value.int IntKind.i64 n) ∧
                                                                                          brB (decide (n < (0 : Int)))
                                                                                            (R (Value.bool false) H')
                                                                                            (exSome more_a fun ad =>
                                                                                              chk
                                                                                                (decide
                                                                                                  ((0 : Int) ≤ n_3 ∧
                                                                                                    n_3 <
                                                                                                      (↑more_n : Int)))
                                                                                                (∃ n,
                                                                                                  Ld Try.prog (3 : Nat)
                                                                                                      H'
                                                                                                      (Addr.add
                                                                                                        (Addr.add ad
                                                                                                          (Int.toNat
                                                                                                              n_3 *
                                                                                                            (4 : Nat)))
                                                                                                        (1 : Nat))
                                                                                                      (Value.int
                                                                                                        IntKind.i64 n) ∧
                                                                                                    brB
                                                                                                      (decide
                                                                                                        (n ≥
                                                                                                          (12 : Int)))
                                                                                                      (R
                                                                                                        (Value.bool
                                                                                                          false)
                                                                                                        H')
                                                                                                      (M_2 [] H'))))) ∧
                                                                                  ∀ (J : F) (H' : Heap),
                                                                                    M_2 [] H' →
                                                                                      exSome more_a fun ad =>
                                                                                        chk
                                                                                          (decide
                                                                                            ((0 : Int) ≤ n_3 ∧
                                                                                              n_3 < (↑more_n : Int)))
                                                                                          (∃ n,
                                                                                            Ld Try.prog (3 : Nat) H'
                                                                                                (Addr.add
                                                                                                  (Addr.add ad
                                                                                                    (Int.toNat n_3 *
                                                                                                      (4 : Nat)))
                                                                                                  (1 : Nat))
                                                                                                (Value.int IntKind.i64
                                                                                                  n) ∧
                                                                                              exSome a_4 fun ad =>
                                                                                                chk
                                                                                                  (decide
                                                                                                    ((0 : Int) ≤ n ∧
                                                                                                      n < (↑n_2 : Int)))
                                                                                                  (∃ H'_1,
                                                                                                    St Try.prog
                                                                                                        (4 : Nat) H'
                                                                                                        (Addr.add ad
                                                                                                          (Int.toNat n *
                                                                                                            (1 : Nat)))
                                                                                                        (Value.bool
                                                                                                          true)
                                                                                                        H'_1 ∧
                                                                                                      M [] H'_1)))
                                                                              (M [] H')) ∧
                                                                    ∀ (J : F) (H'_1 : Heap),
                                                                      M [] H'_1 →
                                                                        I
                                                                            [Value.int IntKind.i64
                                                                                (IntKind.wrap IntKind.i64
                                                                                  (n_3 + (1 : Int)))]
                                                                            H'_1 ∧
                                                                          μ
                                                                              [Value.int IntKind.i64
                                                                                  (IntKind.wrap IntKind.i64
                                                                                    (n_3 + (1 : Int)))]
                                                                              H'_1 <
                                                                            μ [Value.int IntKind.i64 n_3] H')
                                                                (CallH Try.prog (14 : Nat)
                                                                  {
                                                                    toList :=
                                                                      [Value.pointer a, Value.int IntKind.u64 keep] }
                                                                  H' fun v H' =>
                                                                  v = Value.tuple { toList := [] } ∧
                                                                    CallH Try.prog (12 : Nat)
                                                                      { toList := [Value.pointer a] } H' fun v H' =>
                                                                      ∃ b,
                                                                        v = Value.bool b ∧
                                                                          brB (!b) (R (Value.bool false) H')
                                                                            (CallH Try.prog (15 : Nat)
                                                                              { toList := [Value.pointer a] } H'
                                                                              fun v H' =>
                                                                              v = Value.tuple { toList := [] } ∧
                                                                                ∃ (I : List Value → Heap → Prop) (μ : List Value → Heap → Nat),
                                                                                  I [Value.int IntKind.i64 (0 : Int)]
                                                                                      H' ∧
                                                                                    ∀ (J : F) (n_4 : Int) (H' : Heap),
                                                                                      I [Value.int IntKind.i64 n_4] H' →
                                                                                        brB (decide (n_4 < (12 : Int)))
                                                                                          (∃ (M : List Value → Heap → Prop),
                                                                                            (CallH Try.prog (17 : Nat)
                                                                                                {
                                                                                                  toList :=
                                                                                                    [Value.pointer a,
                                                                                                      Value.int
                                                                                                        IntKind.i64
                                                                                                        n_4] }
                                                                                                H' fun v H' =>
                                                                                                ∃ s n_5,
                                                                                                  v =
                                                                                                      Value.tuple
                                                                                                        {
                                                                                                          toList :=
                                                                                                            [Value.string
                                                                                                                s,
                                                                                                              Value.int
                                                                                                                IntKind.i64
                                                                                                                n_5] } ∧
                                                                                                    brB
                                                                                                      (n_5 != (0 : Int))
                                                                                                      (R
                                                                                                        (Value.bool
                                                                                                          false)
                                                                                                        H')
                                                                                                      (exSome a_4
                                                                                                        fun ad =>
                                                                                                        chk
                                                                                                          (decide
                                                                                                            ((0 : Int) ≤
                                                                                                                n_4 ∧
                                                                                                              n_4 <
                                                                                                                (↑n_2 :
                                                                                                                  Int)))
                                                                                                          (∃ b,
                                                                                                            Ld Try.prog
                                                                                                                (4 :
                                                                                                                  Nat)
                                                                                                                H'
                                                                                                                (Addr.add
                                                                                                                  ad
                                                                                                                  (Int.toNat
                                                                                                                      n_4 *
                                                                                                                    (1 :
                                                                                                                      Nat)))
                                                                                                                (Value.bool
                                                                                                                  b) ∧
                                                                                                              brB (!b)
                                                                                                                (exSome
                                                                                                                  a_2
                                                                                                                  fun
                                                                                                                    ad =>
                                                                                                                  chk
                                                                                                                    (decide
                                                                                                                      ((0 :
                                                                                                                            Int) ≤
                                                                                                                          n_4 ∧
                                                                                                                        n_4 <
                                                                                                                          (↑n :
                                                                                                                            Int)))
                                                                                                                    (∃
                                                                                                                      s_1,
                                                                                                                      Ld
                                                                                                                          Try.prog
                                                                                                                          (9 :
                                                                                                                            Nat)
                                                                                                                          H'
                                                                                                                          (Addr.add
                                                                                                                            ad
                                                                                                                            (Int.toNat
                                                                                                                                n_4 *
                                                                                                                              (1 :
                                                                                                                                Nat)))
                                                                                                                          (Value.string
                                                                                                                            s_1) ∧
                                                                                                                        brB
                                                                                                                          (!ByteArray.toList
                                                                                                                                s ==
                                                                                                                              ByteArray.toList
                                                                                                                                s_1)
                                                                                                                          (R
                                                                                                                            (Value.bool
                                                                                                                              false)
                                                                                                                            H')
                                                                                                                          (M
                                                                                                                            []
                                                                                                                            H')))
                                                                                                                (M []
                                                                                                                  H')))) ∧
                                                                                              ∀ (J : F) (H'_1 : Heap),
                                                                                                M [] H'_1 →
                                                                                                  I
                                                                                                      [Value.int
                                                                                                          IntKind.i64
                                                                                                          (IntKind.wrap
                                                                                                            IntKind.i64
                                                                                                            (n_4 +
                                                                                                              (1 :
                                                                                                                Int)))]
                                                                                                      H'_1 ∧
                                                                                                    μ
                                                                                                        [Value.int
                                                                                                            IntKind.i64
                                                                                                            (IntKind.wrap
                                                                                                              IntKind.i64
                                                                                                              (n_4 +
                                                                                                                (1 :
                                                                                                                  Int)))]
                                                                                                        H'_1 <
                                                                                                      μ
                                                                                                        [Value.int
                                                                                                            IntKind.i64
                                                                                                            n_4]
                                                                                                        H')
                                                                                          (R (Value.bool true) H'))))))) :
  CallH Try.prog 4 (List.toArray [Value.slice l_a l_n l_c, Value.slice more_a more_n more_c, Value.int IntKind.u64 keep]) H R :=
  vc_call (annOf [([1], .cut []), ([0, 1, 0, 1, 1, 1], .cut [(8, .one (.int .i64))]), ([0, 1, 0, 0, 1, 0, 0, 1, 0, 1, 1, 1], .tail 11), ([0, 1, 0, 1, 1, 1, 1, 1, 1], .cut [(10, .one (.int .i64))]), ([0, 1, 0, 1, 1, 1, 1, 1, 1, 1, 1], .cut [(14, .one (.int .i64))]), ([1, 0, 0, 1, 0, 1, 1, 1, 1, 1, 1, 1, 1], .cut []), ([0, 0, 1, 0, 0, 1, 0, 1, 1, 1, 1, 1, 1, 1, 1], .cut [(96, .one .bool)]), ([0, 0, 0, 1, 0, 0, 1, 0, 1, 1, 1, 1, 1, 1, 1, 1], .tail 18), ([0, 1, 0, 0, 1, 0, 0, 1, 0, 1, 1, 1, 1, 1, 1, 1, 1], .cut []), ([0, 1, 0, 1, 1, 1, 1, 1, 1, 1, 1, 1, 1, 1, 1], .cut [(15, .one (.int .i64))]), ([1, 0, 0, 1, 0, 1, 1, 1, 1, 1, 1, 1, 1, 1, 1, 1, 1], .cut [])]) followsAll Go.Proofs.Try.func4 rfl Go.Proofs.Try.ntmps4 rfl rfl (Eq.mpr (by kernel_rfl) h)

/- 5 strandline/strandlinelaw09.BlockOne
  notes: []
  places: [[1, 0, 0, 1, 0, 1, 1, 1, 1, 1], [0, 0, 1, 0, 0, 1, 0, 1, 1, 1, 1, 1], [0, 0, 0, 1, 0, 0, 1, 0, 1, 1, 1, 1, 1], [0, 1, 0, 0, 0, 1, 0, 0, 1, 0, 1, 1, 1, 1, 1], [1, 1, 1, 1, 1, 1, 1], [1, 0, 0, 1, 0, 1, 1, 1, 1, 1, 1, 1, 1, 1]]
  slots: [0=l, 1=keep, 2=l, 3=keep, 5=d, 6=may, 7=i, 8=i, 9=k, 10=last, 11=i, 12=s, 13=_, 14=is, 15=k] -/
abbrev fn_law09_BlockOne : Nat := 5
theorem vc_law09_BlockOne (l_a : Option Addr) (l_n : Nat) (l_c : Nat) (keep : Int) (H : Heap) (R : Value → Heap → Prop)
  (h : CallH Try.prog (16 : Nat) { toList := [Value.slice l_a l_n l_c] } H fun v H' =>
  ∃ b,
    v = Value.bool b ∧
      brB b (R (Value.bool true) H')
        (CallH Try.prog (8 : Nat) { toList := [Value.int IntKind.i64 (12 : Int)] } H' fun v H' =>
          ∃ a,
            v = Value.pointer a ∧
              SemWp Try.prog
                (Instr.makeSlice (42 : Nat) (Value.int IntKind.i64 (12 : Int)) (Value.int IntKind.i64 (12 : Int))) H'
                fun v H' =>
                ∃ a_1 n c,
                  v = Value.slice a_1 n c ∧
                    ∃ (I : List Value → Heap → Prop) (μ : List Value → Heap → Nat),
                      I [Value.int IntKind.i64 (0 : Int)] H' ∧
                        ∀ (J : F) (n_1 : Int) (H' : Heap),
                          I [Value.int IntKind.i64 n_1] H' →
                            brB (decide (n_1 < (12 : Int)))
                              (∀ (b : Nat) (H'_1 : Heap),
                                New H' b (Obj.cells { toList := [Value.string { data := #[] }] } (9 : Nat)) H'_1 →
                                  exSome a_1 fun ad =>
                                    chk (decide ((0 : Int) ≤ n_1 ∧ n_1 < (↑n : Int)))
                                      (∃ H'_2,
                                        St Try.prog (37 : Nat) H'_1 (Addr.add ad (Int.toNat n_1 * (1 : Nat)))
                                            (Value.slice (some { block := b, off := (0 : Nat) }) (1 : Nat) (1 : Nat))
                                            H'_2 ∧
                                          I [Value.int IntKind.i64 (IntKind.wrap IntKind.i64 (n_1 + (1 : Int)))] H'_2 ∧
                                            μ [Value.int IntKind.i64 (IntKind.wrap IntKind.i64 (n_1 + (1 : Int)))]
                                                H'_2 <
                                              μ [Value.int IntKind.i64 n_1] H'))
                              (∃ (I : List Value → Heap → Prop) (μ : List Value → Heap → Nat),
                                I [Value.int IntKind.i64 (0 : Int)] H' ∧
                                  ∀ (J : F) (n_2 : Int) (H' : Heap),
                                    I [Value.int IntKind.i64 n_2] H' →
                                      brB (decide (n_2 < (↑l_n : Int)))
                                        (∃ (M : List Value → Heap → Prop),
                                          (∃ (M_1 : List Value → Heap → Prop),
                                              (∃ (M : List Value → Heap → Prop),
                                                  (exSome l_a fun ad =>
                                                      chk (decide ((0 : Int) ≤ n_2 ∧ n_2 < (↑l_n : Int)))
                                                        (∃ n,
                                                          Ld Try.prog (3 : Nat) H'
                                                              (Addr.add ad (Int.toNat n_2 * (4 : Nat)))
                                                              (Value.int IntKind.i64 n) ∧
                                                            brB (n == (0 : Int))
                                                              (exSome l_a fun ad =>
                                                                chk (decide ((0 : Int) ≤ n_2 ∧ n_2 < (↑l_n : Int)))
                                                                  (∃ n,
                                                                    Ld Try.prog (3 : Nat) H'
                                                                        (Addr.add
                                                                          (Addr.add ad (Int.toNat n_2 * (4 : Nat)))
                                                                          (1 : Nat))
                                                                        (Value.int IntKind.i64 n) ∧
                                                                      exSome l_a fun ad =>
                                                                        chk
                                                                          (decide
                                                                            ((0 : Int) ≤ n_2 ∧ n_2 < (↑l_n : Int)))
                                                                          (∃ s,
                                                                            Ld Try.prog (9 : Nat) H'
                                                                                (Addr.add
                                                                                  (Addr.add ad
                                                                                    (Int.toNat n_2 * (4 : Nat)))
                                                                                  (2 : Nat))
                                                                                (Value.string s) ∧
                                                                              CallH Try.prog (11 : Nat)
                                                                                {
                                                                                  toList :=
                                                                                    [Value.pointer a,
                                                                                      Value.int IntKind.i64 n,
                                                                                      Value.string s] }
                                                                                H' fun v H' =>
                                                                                ∃ n,
                                                                                  v = Value.int IntKind.i64 n ∧
                                                                                    M [Value.bool (n == (0 : Int))]
                                                                                      H')))
                                                              (M [Value.bool false] H'))) ∧
                                                    ∀ (J : F) (b : Bool) (H' : Heap),
                                                      M [Value.bool b] H' →
                                                        brB b
                                                          (∃ (M : List Value → Heap → Prop),
                                                            (exSome l_a fun ad =>
                                                                chk (decide ((0 : Int) ≤ n_2 ∧ n_2 < (↑l_n : Int)))
                                                                  (∃ n,
                                                                    Ld Try.prog (3 : Nat) H'
                                                                        (Addr.add
                                                                          (Addr.add ad (Int.toNat n_2 * (4 : Nat)))
                                                                          (1 : Nat))
                                                                        (Value.int IntKind.i64 n) ∧
                                                                      brB (decide (n < (0 : Int)))
                                                                        (R (Value.bool false) H')
                                                                        (exSome l_a fun ad =>
                                                                          chk
                                                                            (decide
                                                                              ((0 : Int) ≤ n_2 ∧ n_2 < (↑l_n : Int)))
                                                                            (∃ n,
                                                                              Ld Try.prog (3 : Nat) H'
                                                                                  (Addr.add
                                                                                    (Addr.add ad
                                                                                      (Int.toNat n_2 * (4 : Nat)))
                                                                                    (1 : Nat))
                                                                                  (Value.int IntKind.i64 n) ∧
                                                                                brB (decide (n ≥ (12 : Int)))
                                                                                  (R (Value.bool false) H')
                                                                                  (M [] H'))))) ∧
                                                              ∀ (J : F) (H' : Heap),
                                                                M [] H' →
                                                                  exSome l_a fun ad =>
                                                                    chk (decide ((0 : Int) ≤ n_2 ∧ n_2 < (↑l_n : Int)))
                                                                      (∃ n_3,
                                                                        Ld Try.prog (3 : Nat) H'
                                                                            (Addr.add
                                                                              (Addr.add ad (Int.toNat n_2 * (4 : Nat)))
                                                                              (1 : Nat))
                                                                            (Value.int IntKind.i64 n_3) ∧
                                                                          exSome l_a fun ad_1 =>
                                                                            chk
                                                                              (decide
                                                                                ((0 : Int) ≤ n_2 ∧ n_2 < (↑l_n : Int)))
                                                                              (∃ n_4,
                                                                                Ld Try.prog (3 : Nat) H'
                                                                                    (Addr.add
                                                                                      (Addr.add ad_1
                                                                                        (Int.toNat n_2 * (4 : Nat)))
                                                                                      (1 : Nat))
                                                                                    (Value.int IntKind.i64 n_4) ∧
                                                                                  exSome a_1 fun ad_2 =>
                                                                                    chk
                                                                                      (decide
                                                                                        ((0 : Int) ≤ n_4 ∧
                                                                                          n_4 < (↑n : Int)))
                                                                                      (∃ a n_5 c,
                                                                                        Ld Try.prog (37 : Nat) H'
                                                                                            (Addr.add ad_2
                                                                                              (Int.toNat n_4 *
                                                                                                (1 : Nat)))
                                                                                            (Value.slice a n_5 c) ∧
                                                                                          exSome l_a fun ad_3 =>
                                                                                            chk
                                                                                              (decide
                                                                                                ((0 : Int) ≤ n_2 ∧
                                                                                                  n_2 < (↑l_n : Int)))
                                                                                              (∃ s,
                                                                                                Ld Try.prog (9 : Nat) H'
                                                                                                    (Addr.add
                                                                                                      (Addr.add ad_3
                                                                                                        (Int.toNat n_2 *
                                                                                                          (4 : Nat)))
                                                                                                      (2 : Nat))
                                                                                                    (Value.string s) ∧
                                                                                                  ∀ (b : Nat)
                                                                                                    (H'_1 : Heap),
                                                                                                    New H' b
                                                                                                        (Obj.cells
                                                                                                          {
                                                                                                            toList :=
                                                                                                              [Value.string
                                                                                                                  s] }
                                                                                                          (9 : Nat))
                                                                                                        H'_1 →
                                                                                                      Ld Try.prog
                                                                                                          (37 : Nat)
                                                                                                          H'_1
                                                                                                          (Addr.add ad_2
                                                                                                            (Int.toNat
                                                                                                                n_4 *
                                                                                                              (1 :
                                                                                                                Nat)))
                                                                                                          (Value.slice a
                                                                                                            n_5 c) ∧
                                                                                                        Ld Try.prog
                                                                                                            (3 : Nat)
                                                                                                            H'_1
                                                                                                            (Addr.add
                                                                                                              (Addr.add
                                                                                                                ad_1
                                                                                                                (Int.toNat
                                                                                                                    n_2 *
                                                                                                                  (4 :
                                                                                                                    Nat)))
                                                                                                              (1 : Nat))
                                                                                                            (Value.int
                                                                                                              IntKind.i64
                                                                                                              n_4) ∧
                                                                                                          Ld Try.prog
                                                                                                              (3 : Nat)
                                                                                                              H'_1
                                                                                                              (Addr.add
                                                                                                                (Addr.add
                                                                                                                  ad
                                                                                                                  (Int.toNat
                                                                                                                      n_2 *
                                                                                                                    (4 :
                                                                                                                      Nat)))
                                                                                                                (1 :
                                                                                                                  Nat))
                                                                                                              (Value.int
                                                                                                                IntKind.i64
                                                                                                                n_3) ∧
                                                                                                            SemWp
                                                                                                              Try.prog
                                                                                                              (Builtin.append_
                                                                                                                {
                                                                                                                  toList :=
                                                                                                                    [(37 :
                                                                                                                        Nat),
                                                                                                                      (37 :
                                                                                                                        Nat)] }
                                                                                                                (37 :
                                                                                                                  Nat)
                                                                                                                {
                                                                                                                  toList :=
                                                                                                                    [Value.slice
                                                                                                                        a
                                                                                                                        n_5
                                                                                                                        c,
                                                                                                                      Value.slice
                                                                                                                        (some
                                                                                                                          {
                                                                                                                            block :=
                                                                                                                              b,
                                                                                                                            off :=
                                                                                                                              (0 :
                                                                                                                                Nat) })
                                                                                                                        (1 :
                                                                                                                          Nat)
                                                                                                                        (1 :
                                                                                                                          Nat)] })
                                                                                                              H'_1
                                                                                                              fun v
                                                                                                                H' =>
                                                                                                              ∃ a n_6 c,
                                                                                                                v =
                                                                                                                    Value.slice
                                                                                                                      a
                                                                                                                      n_6
                                                                                                                      c ∧
                                                                                                                  Ld
                                                                                                                      Try.prog
                                                                                                                      (3 :
                                                                                                                        Nat)
                                                                                                                      H'
                                                                                                                      (Addr.add
                                                                                                                        (Addr.add
                                                                                                                          ad
                                                                                                                          (Int.toNat
                                                                                                                              n_2 *
                                                                                                                            (4 :
                                                                                                                              Nat)))
                                                                                                                        (1 :
                                                                                                                          Nat))
                                                                                                                      (Value.int
                                                                                                                        IntKind.i64
                                                                                                                        n_3) ∧
                                                                                                                    exSome
                                                                                                                      a_1
                                                                                                                      fun
                                                                                                                        ad =>
                                                                                                                      chk
                                                                                                                        (decide
                                                                                                                          ((0 :
                                                                                                                                Int) ≤
                                                                                                                              n_3 ∧
                                                                                                                            n_3 <
                                                                                                                              (↑n :
                                                                                                                                Int)))
                                                                                                                        (∃
                                                                                                                          H'_2,
                                                                                                                          St
                                                                                                                              Try.prog
                                                                                                                              (37 :
                                                                                                                                Nat)
                                                                                                                              H'
                                                                                                                              (Addr.add
                                                                                                                                ad
                                                                                                                                (Int.toNat
                                                                                                                                    n_3 *
                                                                                                                                  (1 :
                                                                                                                                    Nat)))
                                                                                                                              (Value.slice
                                                                                                                                a
                                                                                                                                n_6
                                                                                                                                c)
                                                                                                                              H'_2 ∧
                                                                                                                            M_1
                                                                                                                              []
                                                                                                                              H'_2))))))
                                                          (M_1 [] H')) ∧
                                                ∀ (J : F) (H' : Heap),
                                                  M_1 [] H' →
                                                    exSome l_a fun ad =>
                                                      chk (decide ((0 : Int) ≤ n_2 ∧ n_2 < (↑l_n : Int)))
                                                        (∃ n_3,
                                                          Ld Try.prog (3 : Nat) H'
                                                              (Addr.add ad (Int.toNat n_2 * (4 : Nat)))
                                                              (Value.int IntKind.i64 n_3) ∧
                                                            brB (n_3 == (1 : Int))
                                                              (CallH Try.prog (10 : Nat) { toList := [Value.pointer a] }
                                                                H' fun v H' =>
                                                                ∃ n_4,
                                                                  v = Value.int IntKind.i64 n_4 ∧
                                                                    ∃ (I : List Value → Heap → Prop) (μ : List Value → Heap → Nat),
                                                                      I [Value.int IntKind.i64 (0 : Int)] H' ∧
                                                                        ∀ (J : F) (n_5 : Int) (H' : Heap),
                                                                          I [Value.int IntKind.i64 n_5] H' →
                                                                            brB (decide (n_5 < (12 : Int)))
                                                                              (exSome a_1 fun ad =>
                                                                                chk
                                                                                  (decide
                                                                                    ((0 : Int) ≤ n_5 ∧
                                                                                      n_5 < (↑n : Int)))
                                                                                  (∃ a n_6 c,
                                                                                    Ld Try.prog (37 : Nat) H'
                                                                                        (Addr.add ad
                                                                                          (Int.toNat n_5 * (1 : Nat)))
                                                                                        (Value.slice a n_6 c) ∧
                                                                                      exSome a_1 fun ad =>
                                                                                        chk
                                                                                          (decide
                                                                                            ((0 : Int) ≤ n_5 ∧
                                                                                              n_5 < (↑n : Int)))
                                                                                          (∃ a_5 n_7 c,
                                                                                            Ld Try.prog (37 : Nat) H'
                                                                                                (Addr.add ad
                                                                                                  (Int.toNat n_5 *
                                                                                                    (1 : Nat)))
                                                                                                (Value.slice a_5 n_7
                                                                                                  c) ∧
                                                                                              exSome a fun ad =>
                                                                                                chk
                                                                                                  (decide
                                                                                                    ((0 : Int) ≤
                                                                                                        IntKind.wrap
                                                                                                          IntKind.i64
                                                                                                          ((↑n_7 :
                                                                                                              Int) -
                                                                                                            (1 : Int)) ∧
                                                                                                      IntKind.wrap
                                                                                                          IntKind.i64
                                                                                                          ((↑n_7 :
                                                                                                              Int) -
                                                                                                            (1 : Int)) <
                                                                                                        (↑n_6 : Int)))
                                                                                                  (∃ s,
                                                                                                    Ld Try.prog
                                                                                                        (9 : Nat) H'
                                                                                                        (Addr.add ad
                                                                                                          (Int.toNat
                                                                                                              (IntKind.wrap
                                                                                                                IntKind.i64
                                                                                                                ((↑n_7 :
                                                                                                                    Int) -
                                                                                                                  (1 :
                                                                                                                    Int))) *
                                                                                                            (1 : Nat)))
                                                                                                        (Value.string
                                                                                                          s) ∧
                                                                                                      ∀ (b : Nat)
                                                                                                        (H'_1 : Heap),
                                                                                                        New H' b
                                                                                                            (Obj.cells
                                                                                                              {
                                                                                                                toList :=
                                                                                                                  [Value.string
                                                                                                                      s] }
                                                                                                              (9 : Nat))
                                                                                                            H'_1 →
                                                                                                          exSome a_1
                                                                                                            fun ad =>
                                                                                                            chk
                                                                                                              (decide
                                                                                                                ((0 :
                                                                                                                      Int) ≤
                                                                                                                    n_5 ∧
                                                                                                                  n_5 <
                                                                                                                    (↑n :
                                                                                                                      Int)))
                                                                                                              (∃ H'_2,
                                                                                                                St
                                                                                                                    Try.prog
                                                                                                                    (37 :
                                                                                                                      Nat)
                                                                                                                    H'_1
                                                                                                                    (Addr.add
                                                                                                                      ad
                                                                                                                      (Int.toNat
                                                                                                                          n_5 *
                                                                                                                        (1 :
                                                                                                                          Nat)))
                                                                                                                    (Value.slice
                                                                                                                      (some
                                                                                                                        {
                                                                                                                          block :=
                                                                                                                            b,
                                                                                                                          off :=
                                                                                                                            (0 :
                                                                                                                              Nat) })
                                                                                                                      (1 :
                                                                                                                        Nat)
                                                                                                                      (1 :
                                                                                                                        Nat))
                                                                                                                    H'_2 ∧
                                                                                                                  I
                                                                                                                      [Value.int
                                                                                                                          IntKind.i64
                                                                                                                          (IntKind.wrap
                                                                                                                            IntKind.i64
                                                                                                                            (n_5 +
                                                                                                                              (1 :
                                                                                                                                Int)))]
                                                                                                                      H'_2 ∧
                                                                                                                    μ
                                                                                                                        [Value.int
                                                                                                                            IntKind.i64
                                                                                                                            (IntKind.wrap
                                                                                                                              IntKind.i64
                                                                                                                              (n_5 +
                                                                                                                                (1 :
                                                                                                                                  Int)))]
                                                                                                                        H'_2 <
                                                                                                                      μ
                                                                                                                        [Value.int
                                                                                                                            IntKind.i64
                                                                                                                            n_5]
                                                                                                                        H')))))
                                                                              (M [] H'))
                                                              (M [] H'))) ∧
                                            ∀ (J : F) (H'_1 : Heap),
                                              M [] H'_1 →
                                                I [Value.int IntKind.i64 (IntKind.wrap IntKind.i64 (n_2 + (1 : Int)))]
                                                    H'_1 ∧
                                                  μ [Value.int IntKind.i64 (IntKind.wrap IntKind.i64 (n_2 + (1 : Int)))]
                                                      H'_1 <
                                                    μ [Value.int IntKind.i64 n_2] H')
                                        (CallH Try.prog (14 : Nat)
                                          { toList := [Value.pointer a, Value.int IntKind.u64 keep] } H' fun v H' =>
                                          v = Value.tuple { toList := [] } ∧
                                            ∃ (M : List Value → Heap → Prop),
                                              (CallH Try.prog (12 : Nat) { toList := [Value.pointer a] } H' fun v H' =>
                                                  ∃ b,
                                                    v = Value.bool b ∧
                                                      brB (!b) (R (Value.bool false) H')
                                                        (CallH Try.prog (11 : Nat)
                                                          {
                                                            toList :=
                                                              [Value.pointer a, Value.int IntKind.i64 (0 : Int),
                                                                Value.string { data := #[] }] }
                                                          H' fun v H' =>
                                                          ∃ n,
                                                            v = Value.int IntKind.i64 n ∧
                                                              brB (n != (90 : Int)) (R (Value.bool false) H')
                                                                (M [] H'))) ∧
                                                ∀ (J : F) (H' : Heap),
                                                  M [] H' →
                                                    CallH Try.prog (15 : Nat) { toList := [Value.pointer a] } H'
                                                      fun v H' =>
                                                      v = Value.tuple { toList := [] } ∧
                                                        ∃ (I : List Value → Heap → Prop) (μ : List Value → Heap → Nat),
                                                          I [Value.int IntKind.i64 (0 : Int)] H' ∧
                                                            ∀ (J : F) (n_3 : Int) (H' : Heap),
                                                              I [Value.int IntKind.i64 n_3] H' →
                                                                brB (decide (n_3 < (12 : Int)))
                                                                  (∃ (M : List Value → Heap → Prop),
                                                                    (CallH Try.prog (17 : Nat)
                                                                        {
                                                                          toList :=
                                                                            [Value.pointer a,
                                                                              Value.int IntKind.i64 n_3] }
                                                                        H' fun v H' =>
                                                                        ∃ s n_4,
                                                                          v =
                                                                              Value.tuple
                                                                                {
                                                                                  toList :=
                                                                                    [Value.string s,
                                                                                      Value.int IntKind.i64 n_4] } ∧
                                                                            ∃ (I : List Value → Heap → Prop) (μ : List Value → Heap → Nat),
                                                                              I
                                                                                  [Value.bool false,
                                                                                    Value.int IntKind.i64 (0 : Int)]
                                                                                  H' ∧
                                                                                ∀ (J : F) (b : Bool) (n_5 : Int)
                                                                                  (H' : Heap),
                                                                                  I
                                                                                      [Value.bool b,
                                                                                        Value.int IntKind.i64 n_5]
                                                                                      H' →
                                                                                    exSome a_1 fun ad =>
                                                                                      chk
                                                                                        (decide
                                                                                          ((0 : Int) ≤ n_3 ∧
                                                                                            n_3 < (↑n : Int)))
                                                                                        (∃ a n_6 c,
                                                                                          Ld Try.prog (37 : Nat) H'
                                                                                              (Addr.add ad
                                                                                                (Int.toNat n_3 *
                                                                                                  (1 : Nat)))
                                                                                              (Value.slice a n_6 c) ∧
                                                                                            brB
                                                                                              (decide
                                                                                                (n_5 < (↑n_6 : Int)))
                                                                                              (brB b
                                                                                                (I
                                                                                                    [Value.bool true,
                                                                                                      Value.int
                                                                                                        IntKind.i64
                                                                                                        (IntKind.wrap
                                                                                                          IntKind.i64
                                                                                                          (n_5 +
                                                                                                            (1 : Int)))]
                                                                                                    H' ∧
                                                                                                  μ
                                                                                                      [Value.bool true,
                                                                                                        Value.int
                                                                                                          IntKind.i64
                                                                                                          (IntKind.wrap
                                                                                                            IntKind.i64
                                                                                                            (n_5 +
                                                                                                              (1 :
                                                                                                                Int)))]
                                                                                                      H' <
                                                                                                    μ
                                                                                                      [Value.bool b,
                                                                                                        Value.int
                                                                                                          IntKind.i64
                                                                                                          n_5]
                                                                                                      H')
                                                                                                (exSome a_1 fun ad =>
                                                                                                  chk
                                                                                                    (decide
                                                                                                      ((0 : Int) ≤ n_3 ∧
                                                                                                        n_3 <
                                                                                                          (↑n : Int)))
                                                                                                    (∃ a n c,
                                                                                                      Ld Try.prog
                                                                                                          (37 : Nat) H'
                                                                                                          (Addr.add ad
                                                                                                            (Int.toNat
                                                                                                                n_3 *
                                                                                                              (1 :
                                                                                                                Nat)))
                                                                                                          (Value.slice a
                                                                                                            n c) ∧
                                                                                                        exSome a
                                                                                                          fun ad =>
                                                                                                          chk
                                                                                                            (decide
                                                                                                              ((0 :
                                                                                                                    Int) ≤
                                                                                                                  n_5 ∧
                                                                                                                n_5 <
                                                                                                                  (↑n :
                                                                                                                    Int)))
                                                                                                            (∃ s_1,
                                                                                                              Ld
                                                                                                                  Try.prog
                                                                                                                  (9 :
                                                                                                                    Nat)
                                                                                                                  H'
                                                                                                                  (Addr.add
                                                                                                                    ad
                                                                                                                    (Int.toNat
                                                                                                                        n_5 *
                                                                                                                      (1 :
                                                                                                                        Nat)))
                                                                                                                  (Value.string
                                                                                                                    s_1) ∧
                                                                                                                I
                                                                                                                    [Value.bool
                                                                                                                        (ByteArray.toList
                                                                                                                            s ==
                                                                                                                          ByteArray.toList
                                                                                                                            s_1),
                                                                                                                      Value.int
                                                                                                                        IntKind.i64
                                                                                                                        (IntKind.wrap
                                                                                                                          IntKind.i64
                                                                                                                          (n_5 +
                                                                                                                            (1 :
                                                                                                                              Int)))]
                                                                                                                    H' ∧
                                                                                                                  μ
                                                                                                                      [Value.bool
                                                                                                                          (ByteArray.toList
                                                                                                                              s ==
                                                                                                                            ByteArray.toList
                                                                                                                              s_1),
                                                                                                                        Value.int
                                                                                                                          IntKind.i64
                                                                                                                          (IntKind.wrap
                                                                                                                            IntKind.i64
                                                                                                                            (n_5 +
                                                                                                                              (1 :
                                                                                                                                Int)))]
                                                                                                                      H' <
                                                                                                                    μ
                                                                                                                      [Value.bool
                                                                                                                          b,
                                                                                                                        Value.int
                                                                                                                          IntKind.i64
                                                                                                                          n_5]
                                                                                                                      H'))))
                                                                                              (brB (!b)
                                                                                                (R (Value.bool false)
                                                                                                  H')
                                                                                                (brB (keep == (0 : Int))
                                                                                                  (exSome a_1 fun ad =>
                                                                                                    chk
                                                                                                      (decide
                                                                                                        ((0 : Int) ≤
                                                                                                            n_3 ∧
                                                                                                          n_3 <
                                                                                                            (↑n : Int)))
                                                                                                      (∃ a n c,
                                                                                                        Ld Try.prog
                                                                                                            (37 : Nat)
                                                                                                            H'
                                                                                                            (Addr.add ad
                                                                                                              (Int.toNat
                                                                                                                  n_3 *
                                                                                                                (1 :
                                                                                                                  Nat)))
                                                                                                            (Value.slice
                                                                                                              a n c) ∧
                                                                                                          exSome a
                                                                                                            fun ad =>
                                                                                                            chk
                                                                                                              (decide
                                                                                                                ((0 :
                                                                                                                      Int) ≤
                                                                                                                    (0 :
                                                                                                                      Int) ∧
                                                                                                                  (0 :
                                                                                                                      Int) <
                                                                                                                    (↑n :
                                                                                                                      Int)))
                                                                                                              (∃ s_1,
                                                                                                                Ld
                                                                                                                    Try.prog
                                                                                                                    (9 :
                                                                                                                      Nat)
                                                                                                                    H'
                                                                                                                    ad
                                                                                                                    (Value.string
                                                                                                                      s_1) ∧
                                                                                                                  brB
                                                                                                                    (!ByteArray.toList
                                                                                                                          s ==
                                                                                                                        ByteArray.toList
                                                                                                                          s_1)
                                                                                                                    (R
                                                                                                                      (Value.bool
                                                                                                                        false)
                                                                                                                      H')
                                                                                                                    (M
                                                                                                                      []
                                                                                                                      H'))))
                                                                                                  (M [] H'))))) ∧
                                                                      ∀ (J : F) (H'_1 : Heap),
                                                                        M [] H'_1 →
                                                                          I
                                                                              [Value.int IntKind.i64
                                                                                  (IntKind.wrap IntKind.i64
                                                                                    (n_3 + (1 : Int)))]
                                                                              H'_1 ∧
                                                                            μ
                                                                                [Value.int IntKind.i64
                                                                                    (IntKind.wrap IntKind.i64
                                                                                      (n_3 + (1 : Int)))]
                                                                                H'_1 <
                                                                              μ [Value.int IntKind.i64 n_3] H')
                                                                  (R (Value.bool true) H'))))) :
  CallH Try.prog 5 (List.toArray [Value.slice l_a l_n l_c, Value.int IntKind.u64 keep]) H R :=
  vc_call (annOf [([0, 1, 0, 1, 1, 1, 1], .cut [(7, .one (.int .i64))]), ([0, 1, 0, 1, 1, 1, 1, 1], .cut [(8, .one (.int .i64))]), ([1, 0, 0, 1, 0, 1, 1, 1, 1, 1], .cut []), ([0, 0, 1, 0, 0, 1, 0, 1, 1, 1, 1, 1], .cut []), ([0, 0, 0, 1, 0, 0, 1, 0, 1, 1, 1, 1, 1], .cut [(54, .one .bool)]), ([0, 0, 0, 0, 1, 0, 0, 1, 0, 1, 1, 1, 1, 1], .tail 18), ([0, 1, 0, 0, 0, 1, 0, 0, 1, 0, 1, 1, 1, 1, 1], .cut []), ([1, 0, 1, 0, 0, 0, 1, 0, 0, 1, 0, 1, 1, 1, 1, 1], .reg [0, 0, 0, 6, 14, 30, 0, 0, 0, 384, 896, 1920, 4032, 8128, 0, 0, 49152, 114688, 245760, 507904, 1048512, 2097151, 4194303] (.quiet 0 (.quiet 1 (.quiet 2 (.quiet 3 (.quiet 4 (.quiet 5 (.quiet 6 (.quiet 7 (.quiet 8 (.quiet 9 (.quiet 10 (.quiet 11 (.quiet 12 (.quiet 13 (.quiet 14 (.quiet 15 (.quiet 16 (.quiet 17 (.quiet 18 (.pick (.alt 19 (.pick (.alt 20 (.quiet 21 (.pick (.alt 22 (.done) .stop))) .stop)) .stop)))))))))))))))))))))), ([0, 1, 1, 0, 1, 1, 0, 0, 1, 0, 0, 1, 0, 1, 1, 1, 1, 1], .cut [(9, .one (.int .i64))]), ([1, 1, 1, 1, 1, 1, 1], .cut []), ([0, 1, 0, 1, 1, 1, 1, 1, 1, 1, 1, 1], .cut [(11, .one (.int .i64))]), ([1, 0, 0, 1, 0, 1, 1, 1, 1, 1, 1, 1, 1, 1], .cut []), ([0, 1, 0, 1, 1, 0, 0, 1, 0, 0, 1, 0, 1, 1, 1, 1, 1, 1, 1, 1, 1], .cut [(14, .one .bool), (15, .one (.int .i64))])]) followsAll Go.Proofs.Try.func5 rfl Go.Proofs.Try.ntmps5 rfl rfl (Eq.mpr (by kernel_rfl) h)

/- 6 strandline/strandlinelaw09.BlockApart
  notes: []
  places: [[1, 0, 0, 1, 0, 1, 1, 1, 1, 1], [0, 0, 1, 0, 0, 1, 0, 1, 1, 1, 1, 1], [0, 1, 0, 1, 0, 0, 0, 1, 0, 0, 1, 0, 1, 1, 1, 1, 1]]
  slots: [0=l, 1=i, 2=l, 3=i, 5=d, 6=k, 7=last, 8=n, 9=s, 10=e, 11=s, 12=e] -/
abbrev fn_law09_BlockApart : Nat := 6
theorem vc_law09_BlockApart (l_a : Option Addr) (l_n : Nat) (l_c : Nat) (i : Int) (H : Heap) (R : Value → Heap → Prop)
  (h : CallH Try.prog (16 : Nat) { toList := [Value.slice l_a l_n l_c] } H fun v H' =>
  ∃ b,
    v = Value.bool b ∧
      brB b (R (Value.bool true) H')
        (CallH Try.prog (8 : Nat) { toList := [Value.int IntKind.i64 (12 : Int)] } H' fun v H' =>
          ∃ a,
            v = Value.pointer a ∧
              ∃ (I : List Value → Heap → Prop) (μ : List Value → Heap → Nat),
                I [Value.string { data := #[] }, Value.int IntKind.i64 (0 : Int)] H' ∧
                  ∀ (J : F) (s : ByteArray) (n : Int) (H' : Heap),
                    I [Value.string s, Value.int IntKind.i64 n] H' →
                      brB (decide (n < (↑l_n : Int)))
                        (∃ (M : List Value → Heap → Prop),
                          (∃ (M_1 : List Value → Heap → Prop),
                              (exSome l_a fun ad =>
                                  chk (decide ((0 : Int) ≤ n ∧ n < (↑l_n : Int)))
                                    (∃ n_1,
                                      Ld Try.prog (3 : Nat) H' (Addr.add ad (Int.toNat n * (4 : Nat)))
                                          (Value.int IntKind.i64 n_1) ∧
                                        brB (n_1 == (0 : Int))
                                          (∃ (M : List Value → Heap → Prop),
                                            (exSome l_a fun ad =>
                                                chk (decide ((0 : Int) ≤ n ∧ n < (↑l_n : Int)))
                                                  (∃ n_2,
                                                    Ld Try.prog (3 : Nat) H'
                                                        (Addr.add (Addr.add ad (Int.toNat n * (4 : Nat))) (1 : Nat))
                                                        (Value.int IntKind.i64 n_2) ∧
                                                      exSome l_a fun ad =>
                                                        chk (decide ((0 : Int) ≤ n ∧ n < (↑l_n : Int)))
                                                          (∃ s,
                                                            Ld Try.prog (9 : Nat) H'
                                                                (Addr.add (Addr.add ad (Int.toNat n * (4 : Nat)))
                                                                  (2 : Nat))
                                                                (Value.string s) ∧
                                                              CallH Try.prog (11 : Nat)
                                                                {
                                                                  toList :=
                                                                    [Value.pointer a, Value.int IntKind.i64 n_2,
                                                                      Value.string s] }
                                                                H' fun v H' =>
                                                                ∃ n_3,
                                                                  v = Value.int IntKind.i64 n_3 ∧
                                                                    brB (n_3 == (0 : Int))
                                                                      (exSome l_a fun ad =>
                                                                        chk (decide ((0 : Int) ≤ n ∧ n < (↑l_n : Int)))
                                                                          (∃ n_4,
                                                                            Ld Try.prog (3 : Nat) H'
                                                                                (Addr.add
                                                                                  (Addr.add ad
                                                                                    (Int.toNat n * (4 : Nat)))
                                                                                  (1 : Nat))
                                                                                (Value.int IntKind.i64 n_4) ∧
                                                                              M
                                                                                [Value.bool
                                                                                    (n_4 ==
                                                                                      Int.tmod
                                                                                        (IntKind.wrap IntKind.i64 i)
                                                                                        (12 : Int))]
                                                                                H'))
                                                                      (M [Value.bool false] H')))) ∧
                                              ∀ (J : F) (b : Bool) (H' : Heap),
                                                M [Value.bool b] H' →
                                                  brB b
                                                    (exSome l_a fun ad =>
                                                      chk (decide ((0 : Int) ≤ n ∧ n < (↑l_n : Int)))
                                                        (∃ s,
                                                          Ld Try.prog (9 : Nat) H'
                                                              (Addr.add (Addr.add ad (Int.toNat n * (4 : Nat)))
                                                                (2 : Nat))
                                                              (Value.string s) ∧
                                                            M_1 [Value.string s] H'))
                                                    (M_1 [Value.string s] H'))
                                          (brB (n_1 == (1 : Int))
                                            (CallH Try.prog (10 : Nat) { toList := [Value.pointer a] } H' fun v H' =>
                                              ∃ n,
                                                v = Value.int IntKind.i64 n ∧
                                                  brB (n != (0 : Int)) (R (Value.bool false) H')
                                                    (M_1 [Value.string s] H'))
                                            (M_1 [Value.string s] H')))) ∧
                                ∀ (J : F) (s : ByteArray) (H' : Heap),
                                  M_1 [Value.string s] H' →
                                    CallH Try.prog (17 : Nat)
                                      {
                                        toList :=
                                          [Value.pointer a,
                                            Value.int IntKind.i64 (Int.tmod (IntKind.wrap IntKind.i64 i) (12 : Int))] }
                                      H' fun v H' =>
                                      ∃ s_1 n,
                                        v = Value.tuple { toList := [Value.string s_1, Value.int IntKind.i64 n] } ∧
                                          brB (n != (0 : Int)) (R (Value.bool false) H')
                                            (brB (!ByteArray.toList s_1 == ByteArray.toList s) (R (Value.bool false) H')
                                              (M [Value.string s] H'))) ∧
                            ∀ (J : F) (s_1 : ByteArray) (H'_1 : Heap),
                              M [Value.string s_1] H'_1 →
                                I [Value.string s_1, Value.int IntKind.i64 (IntKind.wrap IntKind.i64 (n + (1 : Int)))]
                                    H'_1 ∧
                                  μ [Value.string s_1, Value.int IntKind.i64 (IntKind.wrap IntKind.i64 (n + (1 : Int)))]
                                      H'_1 <
                                    μ [Value.string s, Value.int IntKind.i64 n] H')
                        (CallH Try.prog (10 : Nat) { toList := [Value.pointer a] } H' fun v H' =>
                          ∃ n,
                            v = Value.int IntKind.i64 n ∧
                              brB (n != (0 : Int)) (R (Value.bool false) H')
                                (CallH Try.prog (14 : Nat)
                                  { toList := [Value.pointer a, Value.int IntKind.u64 (0 : Int)] } H' fun v H' =>
                                  v = Value.tuple { toList := [] } ∧
                                    CallH Try.prog (12 : Nat) { toList := [Value.pointer a] } H' fun v H' =>
                                      ∃ b,
                                        v = Value.bool b ∧
                                          brB (!b) (R (Value.bool false) H')
                                            (CallH Try.prog (15 : Nat) { toList := [Value.pointer a] } H' fun v H' =>
                                              v = Value.tuple { toList := [] } ∧
                                                CallH Try.prog (17 : Nat)
                                                  {
                                                    toList :=
                                                      [Value.pointer a,
                                                        Value.int IntKind.i64
                                                          (Int.tmod (IntKind.wrap IntKind.i64 i) (12 : Int))] }
                                                  H' fun v H' =>
                                                  ∃ s_1 n,
                                                    v =
                                                        Value.tuple
                                                          { toList := [Value.string s_1, Value.int IntKind.i64 n] } ∧
                                                      brB (n == (0 : Int))
                                                        (R (Value.bool (ByteArray.toList s_1 == ByteArray.toList s)) H')
                                                        (R (Value.bool false) H')))))) :
  CallH Try.prog 6 (List.toArray [Value.slice l_a l_n l_c, Value.int IntKind.u8 i]) H R :=
  vc_call (annOf [([0, 1, 0, 1, 1, 1, 1, 1], .cut [(7, .one .str), (8, .one (.int .i64))]), ([1, 0, 0, 1, 0, 1, 1, 1, 1, 1], .cut [(7, .one .str)]), ([0, 0, 1, 0, 0, 1, 0, 1, 1, 1, 1, 1], .cut [(7, .one .str)]), ([0, 1, 0, 1, 0, 0, 0, 1, 0, 0, 1, 0, 1, 1, 1, 1, 1], .cut [(53, .one .bool)]), ([0, 0, 1, 0, 1, 0, 0, 0, 1, 0, 0, 1, 0, 1, 1, 1, 1, 1], .reg [0, 0, 0, 6, 14, 30, 0, 0, 192, 448, 960, 2047, 4095, 8191, 16383, 16383, 65535, 131071, 262143, 16383, 1048575, 2097151] (.quiet 0 (.quiet 1 (.quiet 2 (.quiet 3 (.quiet 4 (.quiet 5 (.quiet 6 (.quiet 7 (.quiet 8 (.quiet 9 (.quiet 10 (.pick (.alt 11 (.quiet 12 (.quiet 13 (.quiet 14 (.quiet 15 (.quiet 16 (.quiet 17 (.quiet 18 (.quiet 19 (.quiet 20 (.quiet 21 .done)))))))))) .stop))))))))))))))]) followsAll Go.Proofs.Try.func6 rfl Go.Proofs.Try.ntmps6 rfl rfl (Eq.mpr (by kernel_rfl) h)

/- 7 strandline/strandlinelaw09.BlockScript
  notes: []
  places: [[1, 1, 1, 1], [1, 0, 0, 1, 0, 1, 1, 1, 1, 1]]
  slots: [0=n, 1=l, 2=n, 3=l, 5=d, 6=r, 7=i, 8=i, 9=s, 10=e, 11=t, 12=f] -/
abbrev fn_law09_BlockScript : Nat := 7
theorem vc_law09_BlockScript (n : Int) (l_a : Option Addr) (l_n : Nat) (l_c : Nat) (H : Heap) (R : Value → Heap → Prop)
  (h : CallH Try.prog (16 : Nat) { toList := [Value.slice l_a l_n l_c] } H fun v H' =>
  ∃ b,
    v = Value.bool b ∧
      brB b (R (Value.bool true) H')
        (CallH Try.prog (8 : Nat) { toList := [Value.int IntKind.i64 n] } H' fun v H' =>
          ∃ a,
            v = Value.pointer a ∧
              CallH Try.prog (18 : Nat) { toList := [Value.int IntKind.i64 n] } H' fun v H' =>
                ∃ a_1,
                  v = Value.pointer a_1 ∧
                    ∃ (M : List Value → Heap → Prop),
                      brB (Option.isNone a) (R (Value.bool false) H')
                          (exSome a_1 fun a_2 =>
                            ∃ a_3 n c,
                              Ld Try.prog (37 : Nat) H' a_2 (Value.slice a_3 n c) ∧
                                CallH Try.prog (19 : Nat) { toList := [Value.pointer a] } H' fun v H' =>
                                  ∃ n_1,
                                    v = Value.int IntKind.i64 n_1 ∧
                                      Ld Try.prog (37 : Nat) H' a_2 (Value.slice a_3 n c) ∧
                                        brB (n_1 != (↑n : Int)) (R (Value.bool false) H') (M [] H')) ∧
                        ∀ (J : F) (H' : Heap),
                          M [] H' →
                            ∃ (I : List Value → Heap → Prop) (μ : List Value → Heap → Nat),
                              I [Value.int IntKind.i64 (0 : Int)] H' ∧
                                ∀ (J : F) (n : Int) (H' : Heap),
                                  I [Value.int IntKind.i64 n] H' →
                                    brB (decide (n < (↑l_n : Int)))
                                      (∃ (M : List Value → Heap → Prop),
                                        (exSome l_a fun ad =>
                                            chk (decide ((0 : Int) ≤ n ∧ n < (↑l_n : Int)))
                                              (∃ n_1 n_2 s n_3,
                                                Ld Try.prog (36 : Nat) H' (Addr.add ad (Int.toNat n * (4 : Nat)))
                                                    (Value.agg
                                                      {
                                                        toList :=
                                                          [Value.int IntKind.i64 n_1, Value.int IntKind.i64 n_2,
                                                            Value.string s, Value.int IntKind.u64 n_3] }) ∧
                                                  CallH Try.prog (20 : Nat)
                                                    {
                                                      toList :=
                                                        [Value.pointer a, Value.pointer a_1,
                                                          Value.agg
                                                            {
                                                              toList :=
                                                                [Value.int IntKind.i64 n_1, Value.int IntKind.i64 n_2,
                                                                  Value.string s, Value.int IntKind.u64 n_3] }] }
                                                    H' fun v H' =>
                                                    ∃ b,
                                                      v = Value.bool b ∧
                                                        brB (!b) (R (Value.bool false) H')
                                                          (exSome a_1 fun a_4 =>
                                                            ∃ b,
                                                              Ld Try.prog (4 : Nat) H' (Addr.add a_4 (2 : Nat))
                                                                  (Value.bool b) ∧
                                                                CallH Try.prog (12 : Nat)
                                                                  { toList := [Value.pointer a] } H' fun v H' =>
                                                                  ∃ b_1,
                                                                    v = Value.bool b_1 ∧
                                                                      Ld Try.prog (4 : Nat) H' (Addr.add a_4 (2 : Nat))
                                                                          (Value.bool b) ∧
                                                                        brB (!b_1 == b) (R (Value.bool false) H')
                                                                          (exSome a_1 fun a_5 =>
                                                                            ∃ n,
                                                                              Ld Try.prog (3 : Nat) H'
                                                                                  (Addr.add a_5 (5 : Nat))
                                                                                  (Value.int IntKind.i64 n) ∧
                                                                                CallH Try.prog (13 : Nat)
                                                                                  { toList := [Value.pointer a] } H'
                                                                                  fun v H' =>
                                                                                  ∃ n_4,
                                                                                    v = Value.int IntKind.i64 n_4 ∧
                                                                                      Ld Try.prog (3 : Nat) H'
                                                                                          (Addr.add a_5 (5 : Nat))
                                                                                          (Value.int IntKind.i64 n) ∧
                                                                                        brB (n_4 != n)
                                                                                          (R (Value.bool false) H')
                                                                                          (M [] H'))))) ∧
                                          ∀ (J : F) (H'_1 : Heap),
                                            M [] H'_1 →
                                              I [Value.int IntKind.i64 (IntKind.wrap IntKind.i64 (n + (1 : Int)))]
                                                  H'_1 ∧
                                                μ [Value.int IntKind.i64 (IntKind.wrap IntKind.i64 (n + (1 : Int)))]
                                                    H'_1 <
                                                  μ [Value.int IntKind.i64 n] H')
                                      (CallH Try.prog (15 : Nat) { toList := [Value.pointer a] } H' fun v H' =>
                                        v = Value.tuple { toList := [] } ∧
                                          CallH Try.prog (21 : Nat) { toList := [Value.pointer a_1] } H' fun v H' =>
                                            v = Value.tuple { toList := [] } ∧
                                              ∃ (I : List Value → Heap → Prop) (μ : List Value → Heap → Nat),
                                                I [Value.int IntKind.i64 (-1 : Int)] H' ∧
                                                  ∀ (J : F) (n : Int) (H' : Heap),
                                                    I [Value.int IntKind.i64 n] H' →
                                                      exSome a_1 fun a_5 =>
                                                        ∃ a_6 n_1 c,
                                                          Ld Try.prog (37 : Nat) H' a_5 (Value.slice a_6 n_1 c) ∧
                                                            brB (decide (n ≤ (↑n_1 : Int)))
                                                              (CallH Try.prog (17 : Nat)
                                                                { toList := [Value.pointer a, Value.int IntKind.i64 n] }
                                                                H' fun v H'_1 =>
                                                                ∃ s n_2,
                                                                  v =
                                                                      Value.tuple
                                                                        {
                                                                          toList :=
                                                                            [Value.string s,
                                                                              Value.int IntKind.i64 n_2] } ∧
                                                                    CallH Try.prog (22 : Nat)
                                                                      {
                                                                        toList :=
                                                                          [Value.pointer a_1, Value.int IntKind.i64 n] }
                                                                      H'_1 fun v H'_2 =>
                                                                      ∃ s_1 n_3,
                                                                        v =
                                                                            Value.tuple
                                                                              {
                                                                                toList :=
                                                                                  [Value.string s_1,
                                                                                    Value.int IntKind.i64 n_3] } ∧
                                                                          brB
                                                                            (!ByteArray.toList s ==
                                                                                ByteArray.toList s_1)
                                                                            (R (Value.bool false) H'_2)
                                                                            (brB (n_2 != n_3)
                                                                              (R (Value.bool false) H'_2)
                                                                              (I
                                                                                  [Value.int IntKind.i64
                                                                                      (IntKind.wrap IntKind.i64
                                                                                        (n + (1 : Int)))]
                                                                                  H'_2 ∧
                                                                                μ
                                                                                    [Value.int IntKind.i64
                                                                                        (IntKind.wrap IntKind.i64
                                                                                          (n + (1 : Int)))]
                                                                                    H'_2 <
                                                                                  μ [Value.int IntKind.i64 n] H')))
                                                              (R (Value.bool true) H')))) :
  CallH Try.prog 7 (List.toArray [Value.int IntKind.i64 n, Value.slice l_a l_n l_c]) H R :=
  vc_call (annOf [([1, 1, 1, 1], .cut []), ([0, 0, 1, 1, 1, 1], .reg [0, 1, 3, 7, 15, 7, 39, 103, 231, 487, 1023, 2047] (.quiet 0 (.quiet 1 (.quiet 2 (.quiet 3 (.quiet 5 (.quiet 6 (.quiet 7 (.quiet 8 (.quiet 9 (.pick (.alt 4 (.quiet 10 (.quiet 11 .done)) .stop)))))))))))), ([0, 1, 0, 1, 1, 1, 1, 1], .cut [(7, .one (.int .i64))]), ([1, 0, 0, 1, 0, 1, 1, 1, 1, 1], .cut []), ([0, 0, 0, 1, 0, 0, 1, 0, 1, 1, 1, 1, 1], .reg [0, 0, 0, 0, 12, 28, 63, 127, 255, 511, 1023, 511, 2559, 6655, 14847, 32767, 65535, 131071, 262143, 524287, 262143, 1310719, 3407871, 7602175, 16777215, 33554431] (.quiet 0 (.quiet 1 (.quiet 2 (.quiet 3 (.quiet 4 (.quiet 5 (.pick (.alt 6 (.quiet 7 (.quiet 8 (.quiet 9 (.quiet 11 (.quiet 12 (.quiet 13 (.quiet 14 (.pick (.alt 10 (.quiet 15 (.quiet 16 (.quiet 17 (.quiet 18 (.quiet 20 (.quiet 21 (.quiet 22 (.quiet 23 (.pick (.alt 19 (.quiet 24 (.quiet 25 .done)) .stop)))))))))) .stop))))))))) .stop))))))))), ([0, 1, 0, 1, 1, 1, 1, 1, 1, 1, 1], .cut [(8, .one (.int .i64))])]) followsAll Go.Proofs.Try.func7 rfl Go.Proofs.Try.ntmps7 rfl rfl (Eq.mpr (by kernel_rfl) h)

/- 8 strandline/block.New
  notes: []
  places: []
  slots: [0=n, 1=n] -/
abbrev fn_block_New : Nat := 8
theorem vc_block_New (n : Int) (H : Heap) (R : Value → Heap → Prop)
  (h : ∀ (b : Nat) (H' : Heap),
  New H b (Obj.map { toList := [] } (0 : Nat)) H' →
    ∀ (b_1 : Nat) (H'_1 : Heap),
      New H' b_1
          (Obj.cells
            {
              toList :=
                [Value.int IntKind.i64
                    (if (if (512 : Int) < n then (512 : Int) else n) > (8 : Int) then
                      if (512 : Int) < n then (512 : Int) else n
                    else (8 : Int)),
                  Value.string { data := #[] }, Value.string { data := #[] }, Value.string { data := #[] },
                  Value.string { data := #[] }, Value.string { data := #[] }, Value.string { data := #[] },
                  Value.string { data := #[] }, Value.string { data := #[] }, Value.string { data := #[] },
                  Value.string { data := #[] }, Value.string { data := #[] }, Value.string { data := #[] },
                  Value.string { data := #[] }, Value.string { data := #[] }, Value.string { data := #[] },
                  Value.string { data := #[] }, Value.string { data := #[] }, Value.string { data := #[] },
                  Value.string { data := #[] }, Value.string { data := #[] }, Value.string { data := #[] },
                  Value.string { data := #[] }, Value.string { data := #[] }, Value.string { data := #[] },
                  Value.string { data := #[] }, Value.string { data := #[] }, Value.string { data := #[] },
                  Value.string { data := #[] }, Value.string { data := #[] }, Value.string { data := #[] },
                  Value.string { data := #[] }, Value.string { data := #[] }, Value.string { data := #[] },
                  Value.string { data := #[] }, Value.string { data := #[] }, Value.string { data := #[] },
                  Value.string { data := #[] }, Value.string { data := #[] }, Value.string { data := #[] },
                  Value.string { data := #[] }, Value.string { data := #[] }, Value.string { data := #[] },
                  Value.string { data := #[] }, Value.string { data := #[] }, Value.string { data := #[] },
                  Value.string { data := #[] }, Value.string { data := #[] }, Value.string { data := #[] },
                  Value.string { data := #[] }, Value.string { data := #[] }, Value.string { data := #[] },
                  Value.string { data := #[] }, Value.string { data := #[] }, Value.string { data := #[] },
                  Value.string { data := #[] }, Value.string { data := #[] }, Value.string { data := #[] },
                  Value.string { data := #[] }, Value.string { data := #[] }, Value.string { data := #[] },
                  Value.string { data := #[] }, Value.string { data := #[] }, Value.string { data := #[] },
                  Value.string { data := #[] }, Value.string { data := #[] }, Value.string { data := #[] },
                  Value.string { data := #[] }, Value.string { data := #[] }, Value.string { data := #[] },
                  Value.string { data := #[] }, Value.string { data := #[] }, Value.string { data := #[] },
                  Value.string { data := #[] }, Value.string { data := #[] }, Value.string { data := #[] },
                  Value.string { data := #[] }, Value.string { data := #[] }, Value.string { data := #[] },
                  Value.string { data := #[] }, Value.string { data := #[] }, Value.string { data := #[] },
                  Value.string { data := #[] }, Value.string { data := #[] }, Value.string { data := #[] },
                  Value.string { data := #[] }, Value.string { data := #[] }, Value.string { data := #[] },
                  Value.string { data := #[] }, Value.string { data := #[] }, Value.string { data := #[] },
                  Value.string { data := #[] }, Value.string { data := #[] }, Value.string { data := #[] },
                  Value.string { data := #[] }, Value.string { data := #[] }, Value.string { data := #[] },
                  Value.string { data := #[] }, Value.string { data := #[] }, Value.string { data := #[] },
                  Value.string { data := #[] }, Value.string { data := #[] }, Value.string { data := #[] },
                  Value.string { data := #[] }, Value.string { data := #[] }, Value.string { data := #[] },
                  Value.string { data := #[] }, Value.string { data := #[] }, Value.string { data := #[] },
                  Value.string { data := #[] }, Value.string { data := #[] }, Value.string { data := #[] },
                  Value.string { data := #[] }, Value.string { data := #[] }, Value.string { data := #[] },
                  Value.string { data := #[] }, Value.string { data := #[] }, Value.string { data := #[] },
                  Value.string { data := #[] }, Value.string { data := #[] }, Value.string { data := #[] },
                  Value.string { data := #[] }, Value.string { data := #[] }, Value.string { data := #[] },
                  Value.string { data := #[] }, Value.string { data := #[] }, Value.string { data := #[] },
                  Value.string { data := #[] }, Value.string { data := #[] }, Value.string { data := #[] },
                  Value.string { data := #[] }, Value.string { data := #[] }, Value.string { data := #[] },
                  Value.string { data := #[] }, Value.string { data := #[] }, Value.string { data := #[] },
                  Value.string { data := #[] }, Value.string { data := #[] }, Value.string { data := #[] },
                  Value.string { data := #[] }, Value.string { data := #[] }, Value.string { data := #[] },
                  Value.string { data := #[] }, Value.string { data := #[] }, Value.string { data := #[] },
                  Value.string { data := #[] }, Value.string { data := #[] }, Value.string { data := #[] },
                  Value.string { data := #[] }, Value.string { data := #[] }, Value.string { data := #[] },
                  Value.string { data := #[] }, Value.string { data := #[] }, Value.string { data := #[] },
                  Value.string { data := #[] }, Value.string { data := #[] }, Value.string { data := #[] },
                  Value.string { data := #[] }, Value.string { data := #[] }, Value.string { data := #[] },
                  Value.string { data := #[] }, Value.string { data := #[] }, Value.string { data := #[] },
                  Value.string { data := #[] }, Value.string { data := #[] }, Value.string { data := #[] },
                  Value.string { data := #[] }, Value.string { data := #[] }, Value.string { data := #[] },
                  Value.string { data := #[] }, Value.string { data := #[] }, Value.string { data := #[] },
                  Value.string { data := #[] }, Value.string { data := #[] }, Value.string { data := #[] },
                  Value.string { data := #[] }, Value.string { data := #[] }, Value.string { data := #[] },
                  Value.string { data := #[] }, Value.string { data := #[] }, Value.string { data := #[] },
                  Value.string { data := #[] }, Value.string { data := #[] }, Value.string { data := #[] },
                  Value.string { data := #[] }, Value.string { data := #[] }, Value.string { data := #[] },
                  Value.string { data := #[] }, Value.string { data := #[] }, Value.string { data := #[] },
                  Value.string { data := #[] }, Value.string { data := #[] }, Value.string { data := #[] },
                  Value.string { data := #[] }, Value.string { data := #[] }, Value.string { data := #[] },
                  Value.string { data := #[] }, Value.string { data := #[] }, Value.string { data := #[] },
                  Value.string { data := #[] }, Value.string { data := #[] }, Value.string { data := #[] },
                  Value.string { data := #[] }, Value.string { data := #[] }, Value.string { data := #[] },
                  Value.string { data := #[] }, Value.string { data := #[] }, Value.string { data := #[] },
                  Value.string { data := #[] }, Value.string { data := #[] }, Value.string { data := #[] },
                  Value.string { data := #[] }, Value.string { data := #[] }, Value.string { data := #[] },
                  Value.string { data := #[] }, Value.string { data := #[] }, Value.string { data := #[] },
                  Value.string { data := #[] }, Value.string { data := #[] }, Value.string { data := #[] },
                  Value.string { data := #[] }, Value.string { data := #[] }, Value.string { data := #[] },
                  Value.string { data := #[] }, Value.string { data := #[] }, Value.string { data := #[] },
                  Value.string { data := #[] }, Value.string { data := #[] }, Value.string { data := #[] },
                  Value.string { data := #[] }, Value.string { data := #[] }, Value.string { data := #[] },
                  Value.string { data := #[] }, Value.string { data := #[] }, Value.string { data := #[] },
                  Value.string { data := #[] }, Value.string { data := #[] }, Value.string { data := #[] },
                  Value.string { data := #[] }, Value.string { data := #[] }, Value.string { data := #[] },
                  Value.string { data := #[] }, Value.string { data := #[] }, Value.string { data := #[] },
                  Value.string { data := #[] }, Value.string { data := #[] }, Value.string { data := #[] },
                  Value.string { data := #[] }, Value.string { data := #[] }, Value.string { data := #[] },
                  Value.string { data := #[] }, Value.string { data := #[] }, Value.string { data := #[] },
                  Value.string { data := #[] }, Value.string { data := #[] }, Value.string { data := #[] },
                  Value.string { data := #[] }, Value.string { data := #[] }, Value.string { data := #[] },
                  Value.string { data := #[] }, Value.string { data := #[] }, Value.string { data := #[] },
                  Value.string { data := #[] }, Value.string { data := #[] }, Value.string { data := #[] },
                  Value.string { data := #[] }, Value.string { data := #[] }, Value.string { data := #[] },
                  Value.string { data := #[] }, Value.string { data := #[] }, Value.string { data := #[] },
                  Value.string { data := #[] }, Value.string { data := #[] }, Value.string { data := #[] },
                  Value.string { data := #[] }, Value.string { data := #[] }, Value.string { data := #[] },
                  Value.string { data := #[] }, Value.string { data := #[] }, Value.string { data := #[] },
                  Value.string { data := #[] }, Value.string { data := #[] }, Value.string { data := #[] },
                  Value.string { data := #[] }, Value.string { data := #[] }, Value.string { data := #[] },
                  Value.string { data := #[] }, Value.string { data := #[] }, Value.string { data := #[] },
                  Value.string { data := #[] }, Value.string { data := #[] }, Value.string { data := #[] },
                  Value.string { data := #[] }, Value.string { data := #[] }, Value.string { data := #[] },
                  Value.string { data := #[] }, Value.string { data := #[] }, Value.string { data := #[] },
                  Value.string { data := #[] }, Value.string { data := #[] }, Value.string { data := #[] },
                  Value.string { data := #[] }, Value.string { data := #[] }, Value.string { data := #[] },
                  Value.string { data := #[] }, Value.string { data := #[] }, Value.string { data := #[] },
                  Value.string { data := #[] }, Value.string { data := #[] }, Value.string { data := #[] },
                  Value.string { data := #[] }, Value.string { data := #[] }, Value.string { data := #[] },
                  Value.string { data := #[] }, Value.string { data := #[] }, Value.string { data := #[] },
                  Value.string { data := #[] }, Value.string { data := #[] }, Value.string { data := #[] },
                  Value.string { data := #[] }, Value.string { data := #[] }, Value.string { data := #[] },
                  Value.string { data := #[] }, Value.string { data := #[] }, Value.string { data := #[] },
                  Value.string { data := #[] }, Value.string { data := #[] }, Value.string { data := #[] },
                  Value.string { data := #[] }, Value.string { data := #[] }, Value.string { data := #[] },
                  Value.string { data := #[] }, Value.string { data := #[] }, Value.string { data := #[] },
                  Value.string { data := #[] }, Value.string { data := #[] }, Value.string { data := #[] },
                  Value.string { data := #[] }, Value.string { data := #[] }, Value.string { data := #[] },
                  Value.string { data := #[] }, Value.string { data := #[] }, Value.string { data := #[] },
                  Value.string { data := #[] }, Value.string { data := #[] }, Value.string { data := #[] },
                  Value.string { data := #[] }, Value.string { data := #[] }, Value.string { data := #[] },
                  Value.string { data := #[] }, Value.string { data := #[] }, Value.string { data := #[] },
                  Value.string { data := #[] }, Value.string { data := #[] }, Value.string { data := #[] },
                  Value.string { data := #[] }, Value.string { data := #[] }, Value.string { data := #[] },
                  Value.string { data := #[] }, Value.string { data := #[] }, Value.string { data := #[] },
                  Value.string { data := #[] }, Value.string { data := #[] }, Value.string { data := #[] },
                  Value.string { data := #[] }, Value.string { data := #[] }, Value.string { data := #[] },
                  Value.string { data := #[] }, Value.string { data := #[] }, Value.string { data := #[] },
                  Value.string { data := #[] }, Value.string { data := #[] }, Value.string { data := #[] },
                  Value.string { data := #[] }, Value.string { data := #[] }, Value.string { data := #[] },
                  Value.string { data := #[] }, Value.string { data := #[] }, Value.string { data := #[] },
                  Value.string { data := #[] }, Value.string { data := #[] }, Value.string { data := #[] },
                  Value.string { data := #[] }, Value.string { data := #[] }, Value.string { data := #[] },
                  Value.string { data := #[] }, Value.string { data := #[] }, Value.string { data := #[] },
                  Value.string { data := #[] }, Value.string { data := #[] }, Value.string { data := #[] },
                  Value.string { data := #[] }, Value.string { data := #[] }, Value.string { data := #[] },
                  Value.string { data := #[] }, Value.string { data := #[] }, Value.string { data := #[] },
                  Value.string { data := #[] }, Value.string { data := #[] }, Value.string { data := #[] },
                  Value.string { data := #[] }, Value.string { data := #[] }, Value.string { data := #[] },
                  Value.string { data := #[] }, Value.string { data := #[] }, Value.string { data := #[] },
                  Value.string { data := #[] }, Value.string { data := #[] }, Value.string { data := #[] },
                  Value.string { data := #[] }, Value.string { data := #[] }, Value.string { data := #[] },
                  Value.string { data := #[] }, Value.string { data := #[] }, Value.string { data := #[] },
                  Value.string { data := #[] }, Value.string { data := #[] }, Value.string { data := #[] },
                  Value.string { data := #[] }, Value.string { data := #[] }, Value.string { data := #[] },
                  Value.string { data := #[] }, Value.string { data := #[] }, Value.string { data := #[] },
                  Value.string { data := #[] }, Value.string { data := #[] }, Value.string { data := #[] },
                  Value.string { data := #[] }, Value.string { data := #[] }, Value.string { data := #[] },
                  Value.string { data := #[] }, Value.string { data := #[] }, Value.string { data := #[] },
                  Value.string { data := #[] }, Value.string { data := #[] }, Value.string { data := #[] },
                  Value.string { data := #[] }, Value.string { data := #[] }, Value.string { data := #[] },
                  Value.string { data := #[] }, Value.string { data := #[] }, Value.string { data := #[] },
                  Value.string { data := #[] }, Value.string { data := #[] }, Value.string { data := #[] },
                  Value.string { data := #[] }, Value.string { data := #[] }, Value.string { data := #[] },
                  Value.string { data := #[] }, Value.string { data := #[] }, Value.string { data := #[] },
                  Value.string { data := #[] }, Value.string { data := #[] }, Value.string { data := #[] },
                  Value.string { data := #[] }, Value.string { data := #[] }, Value.string { data := #[] },
                  Value.string { data := #[] }, Value.string { data := #[] }, Value.string { data := #[] },
                  Value.string { data := #[] }, Value.string { data := #[] }, Value.string { data := #[] },
                  Value.string { data := #[] }, Value.string { data := #[] }, Value.string { data := #[] },
                  Value.string { data := #[] }, Value.string { data := #[] }, Value.string { data := #[] },
                  Value.string { data := #[] }, Value.string { data := #[] }, Value.string { data := #[] },
                  Value.string { data := #[] }, Value.string { data := #[] }, Value.string { data := #[] },
                  Value.string { data := #[] }, Value.string { data := #[] }, Value.string { data := #[] },
                  Value.string { data := #[] }, Value.string { data := #[] }, Value.string { data := #[] },
                  Value.string { data := #[] }, Value.string { data := #[] }, Value.string { data := #[] },
                  Value.string { data := #[] }, Value.string { data := #[] }, Value.string { data := #[] },
                  Value.string { data := #[] }, Value.string { data := #[] }, Value.string { data := #[] },
                  Value.string { data := #[] }, Value.string { data := #[] }, Value.string { data := #[] },
                  Value.string { data := #[] }, Value.string { data := #[] }, Value.string { data := #[] },
                  Value.string { data := #[] }, Value.string { data := #[] }, Value.string { data := #[] },
                  Value.string { data := #[] }, Value.string { data := #[] }, Value.string { data := #[] },
                  Value.string { data := #[] }, Value.string { data := #[] }, Value.string { data := #[] },
                  Value.string { data := #[] }, Value.string { data := #[] }, Value.string { data := #[] },
                  Value.string { data := #[] }, Value.string { data := #[] }, Value.string { data := #[] },
                  Value.string { data := #[] }, Value.string { data := #[] }, Value.map (some b), Value.bool false,
                  Value.int IntKind.i64 (0 : Int), Value.int IntKind.u64 (0 : Int), Value.int IntKind.i64 (0 : Int)] }
            (54 : Nat))
          H'_1 →
        R (Value.pointer (some { block := b_1, off := (0 : Nat) })) H'_1) :
  CallH Try.prog 8 (List.toArray [Value.int IntKind.i64 n]) H R :=
  vc_call (annOf []) followsAll Go.Proofs.Try.func8 rfl Go.Proofs.Try.ntmps8 rfl rfl (Eq.mpr (by kernel_rfl) h)

/- 9 (*strandline/block.Disk).Cut
  notes: []
  places: []
  slots: [0=d, 1=n, 2=keep, 3=d, 4=n, 5=keep] -/
abbrev fn_block_Disk_Cut : Nat := 9
theorem vc_block_Disk_Cut (d : Addr) (n : Int) (keep : Int) (H : Heap) (R : Value → Heap → Prop)
  (h : ∃ H',
  St Try.prog (3 : Nat) H (Addr.add d (515 : Nat)) (Value.int IntKind.i64 (if (0 : Int) > n then (0 : Int) else n)) H' ∧
    ∃ H'_1,
      St Try.prog (22 : Nat) H' (Addr.add d (516 : Nat)) (Value.int IntKind.u64 keep) H'_1 ∧
        R (Value.tuple { toList := [] }) H'_1) :
  CallH Try.prog 9 (List.toArray [Value.pointer (some d), Value.int IntKind.i64 n, Value.int IntKind.u64 keep]) H R :=
  vc_call (annOf []) followsAll Go.Proofs.Try.func9 rfl Go.Proofs.Try.ntmps9 rfl rfl (Eq.mpr (by kernel_rfl) h)

/- 10 (*strandline/block.Disk).Flush
  notes: []
  places: []
  slots: [0=d, 1=d] -/
abbrev fn_block_Disk_Flush : Nat := 10
theorem vc_block_Disk_Flush (d : Addr) (H : Heap) (R : Value → Heap → Prop)
  (h : ∃ b,
  Ld Try.prog (4 : Nat) H (Addr.add d (514 : Nat)) (Value.bool b) ∧
    brB b (R (Value.int IntKind.i64 (90 : Int)) H)
      (CallH Try.prog (23 : Nat) { toList := [Value.pointer (some d)] } H fun v H' =>
        ∃ b,
          v = Value.bool b ∧
            brB b (R (Value.int IntKind.i64 (90 : Int)) H')
              (CallH Try.prog (24 : Nat)
                {
                  toList :=
                    [Value.pointer (some d), Value.func (Fn.func (25 : Nat)) { toList := [] } { toList := [] }] }
                H' fun v H' => v = Value.tuple { toList := [] } ∧ R (Value.int IntKind.i64 (0 : Int)) H'))) :
  CallH Try.prog 10 (List.toArray [Value.pointer (some d)]) H R :=
  vc_call (annOf []) followsAll Go.Proofs.Try.func10 rfl Go.Proofs.Try.ntmps10 rfl rfl (Eq.mpr (by kernel_rfl) h)

/- 11 (*strandline/block.Disk).Write
  notes: []
  places: [[1]]
  slots: [0=d, 1=i, 2=s, 3=d, 4=i, 5=s] -/
abbrev fn_block_Disk_Write : Nat := 11
theorem vc_block_Disk_Write (d : Addr) (i : Int) (s : ByteArray) (H : Heap) (R : Value → Heap → Prop)
  (h : ∃ (M : List Value → Heap → Prop),
  (∃ b,
      Ld Try.prog (4 : Nat) H (Addr.add d (514 : Nat)) (Value.bool b) ∧
        brB b (R (Value.int IntKind.i64 (90 : Int)) H)
          (brB (decide (i < (0 : Int))) (R (Value.int IntKind.i64 (91 : Int)) H)
            (∃ n,
              Ld Try.prog (3 : Nat) H d (Value.int IntKind.i64 n) ∧
                brB (decide (i ≥ n)) (R (Value.int IntKind.i64 (91 : Int)) H)
                  (brB (decide ((↑(ByteArray.size s) : Int) > (64 : Int))) (R (Value.int IntKind.i64 (91 : Int)) H)
                    (M [] H))))) ∧
    ∀ (J : F) (H' : Heap),
      M [] H' →
        ∃ r,
          Ld Try.prog (51 : Nat) H' (Addr.add d (513 : Nat)) (Value.map r) ∧
            ∃ r_1,
              Ld Try.prog (51 : Nat) H' (Addr.add d (513 : Nat)) (Value.map r_1) ∧
                ∃ a n c,
                  Rd Try.prog (Instr.lookup (51 : Nat) (Value.map r_1) (Value.int IntKind.i64 i) false) H'
                      (Value.slice a n c) ∧
                    ∀ (b : Nat) (H'_1 : Heap),
                      New H' b (Obj.cells { toList := [Value.string s] } (9 : Nat)) H'_1 →
                        Rd Try.prog (Instr.lookup (51 : Nat) (Value.map r_1) (Value.int IntKind.i64 i) false) H'_1
                            (Value.slice a n c) ∧
                          Ld Try.prog (51 : Nat) H'_1 (Addr.add d (513 : Nat)) (Value.map r_1) ∧
                            Ld Try.prog (51 : Nat) H'_1 (Addr.add d (513 : Nat)) (Value.map r) ∧
                              SemWp Try.prog
                                (Builtin.append_ { toList := [(37 : Nat), (37 : Nat)] } (37 : Nat)
                                  {
                                    toList :=
                                      [Value.slice a n c,
                                        Value.slice (some { block := b, off := (0 : Nat) }) (1 : Nat) (1 : Nat)] })
                                H'_1 fun v H' =>
                                ∃ a n c,
                                  v = Value.slice a n c ∧
                                    Ld Try.prog (51 : Nat) H' (Addr.add d (513 : Nat)) (Value.map r) ∧
                                      SemU Try.prog
                                        (Instr.mapUpdate (51 : Nat) (Value.map r) (Value.int IntKind.i64 i)
                                          (Value.slice a n c))
                                        H' fun H' =>
                                        CallH Try.prog (23 : Nat) { toList := [Value.pointer (some d)] } H' fun v H' =>
                                          ∃ b,
                                            v = Value.bool b ∧
                                              brB b (R (Value.int IntKind.i64 (90 : Int)) H')
                                                (R (Value.int IntKind.i64 (0 : Int)) H')) :
  CallH Try.prog 11 (List.toArray [Value.pointer (some d), Value.int IntKind.i64 i, Value.string s]) H R :=
  vc_call (annOf [([1], .cut []), ([0, 1, 1], .reg [0, 1, 3, 7, 0, 0, 32, 96, 224, 0, 992, 0, 2048, 8160, 16383] (.quiet 0 (.quiet 1 (.quiet 2 (.quiet 3 (.quiet 4 (.quiet 5 (.quiet 6 (.quiet 7 (.quiet 8 (.quiet 9 (.quiet 10 (.quiet 11 (.pick (.alt 12 (.pick (.alt 13 (.pick (.alt 14 (.done) .stop)) .stop)) .stop)))))))))))))))]) followsAll Go.Proofs.Try.func11 rfl Go.Proofs.Try.ntmps11 rfl rfl (Eq.mpr (by kernel_rfl) h)

/- 12 (*strandline/block.Disk).Dead
  notes: []
  places: []
  slots: [0=d, 1=d] -/
abbrev fn_block_Disk_Dead : Nat := 12
theorem vc_block_Disk_Dead (d : Addr) (H : Heap) (R : Value → Heap → Prop)
  (h : ∃ b, Ld Try.prog (4 : Nat) H (Addr.add d (514 : Nat)) (Value.bool b) ∧ R (Value.bool b) H) :
  CallH Try.prog 12 (List.toArray [Value.pointer (some d)]) H R :=
  vc_call (annOf []) followsAll Go.Proofs.Try.func12 rfl Go.Proofs.Try.ntmps12 rfl rfl (Eq.mpr (by kernel_rfl) h)

/- 13 (*strandline/block.Disk).Calls
  notes: []
  places: []
  slots: [0=d, 1=d] -/
abbrev fn_block_Disk_Calls : Nat := 13
theorem vc_block_Disk_Calls (d : Addr) (H : Heap) (R : Value → Heap → Prop)
  (h : ∃ n, Ld Try.prog (3 : Nat) H (Addr.add d (517 : Nat)) (Value.int IntKind.i64 n) ∧ R (Value.int IntKind.i64 n) H) :
  CallH Try.prog 13 (List.toArray [Value.pointer (some d)]) H R :=
  vc_call (annOf []) followsAll Go.Proofs.Try.func13 rfl Go.Proofs.Try.ntmps13 rfl rfl (Eq.mpr (by kernel_rfl) h)

/- 14 (*strandline/block.Disk).Crash
  notes: []
  places: []
  slots: [0=d, 1=keep, 2=d, 3=keep] -/
abbrev fn_block_Disk_Crash : Nat := 14
theorem vc_block_Disk_Crash (d : Addr) (keep : Int) (H : Heap) (R : Value → Heap → Prop)
  (h : ∀ (b : Nat) (H' : Heap),
  New H b (Obj.cells { toList := [Value.int IntKind.u64 keep] } (22 : Nat)) H' →
    ∃ b_1,
      Ld Try.prog (4 : Nat) H' (Addr.add d (514 : Nat)) (Value.bool b_1) ∧
        brB b_1 (R (Value.tuple { toList := [] }) H')
          (CallH Try.prog (24 : Nat)
            {
              toList :=
                [Value.pointer (some d),
                  Value.func (Fn.func (26 : Nat)) { toList := [] }
                    { toList := [Value.pointer (some { block := b, off := (0 : Nat) })] }] }
            H' fun v H' =>
            v = Value.tuple { toList := [] } ∧
              ∃ H'_1,
                St Try.prog (4 : Nat) H' (Addr.add d (514 : Nat)) (Value.bool true) H'_1 ∧
                  ∃ H',
                    St Try.prog (3 : Nat) H'_1 (Addr.add d (515 : Nat)) (Value.int IntKind.i64 (0 : Int)) H' ∧
                      R (Value.tuple { toList := [] }) H')) :
  CallH Try.prog 14 (List.toArray [Value.pointer (some d), Value.int IntKind.u64 keep]) H R :=
  vc_call (annOf []) followsAll Go.Proofs.Try.func14 rfl Go.Proofs.Try.ntmps14 rfl rfl (Eq.mpr (by kernel_rfl) h)

/- 15 (*strandline/block.Disk).Power
  notes: []
  places: []
  slots: [0=d, 1=d] -/
abbrev fn_block_Disk_Power : Nat := 15
theorem vc_block_Disk_Power (d : Addr) (H : Heap) (R : Value → Heap → Prop)
  (h : ∃ H',
  St Try.prog (4 : Nat) H (Addr.add d (514 : Nat)) (Value.bool false) H' ∧
    ∃ H'_1,
      St Try.prog (3 : Nat) H' (Addr.add d (515 : Nat)) (Value.int IntKind.i64 (0 : Int)) H'_1 ∧
        R (Value.tuple { toList := [] }) H'_1) :
  CallH Try.prog 15 (List.toArray [Value.pointer (some d)]) H R :=
  vc_call (annOf []) followsAll Go.Proofs.Try.func15 rfl Go.Proofs.Try.ntmps15 rfl rfl (Eq.mpr (by kernel_rfl) h)

/- 16 strandline/strandlinelaw09.heavy
  notes: []
  places: []
  slots: [0=l, 1=l, 3=n, 4=i] -/
abbrev fn_law09_heavy : Nat := 16
theorem vc_law09_heavy (l_a : Option Addr) (l_n : Nat) (l_c : Nat) (H : Heap) (R : Value → Heap → Prop)
  (h : ∃ (I : List Value → Heap → Prop) (μ : List Value → Heap → Nat),
  I
      [Value.int IntKind.i64 (if (1048576 : Int) < (↑l_n : Int) then (1048576 : Int) else (↑l_n : Int)),
        Value.int IntKind.i64 (0 : Int)]
      H ∧
    ∀ (J : F) (n n_1 : Int) (H' : Heap),
      I [Value.int IntKind.i64 n, Value.int IntKind.i64 n_1] H' →
        brB (decide (n_1 < (↑l_n : Int)))
          (brB (decide (n ≤ (16384 : Int)))
            (exSome l_a fun ad =>
              chk (decide ((0 : Int) ≤ n_1 ∧ n_1 < (↑l_n : Int)))
                (∃ s,
                  Ld Try.prog (9 : Nat) H' (Addr.add (Addr.add ad (Int.toNat n_1 * (4 : Nat))) (2 : Nat))
                      (Value.string s) ∧
                    I
                        [Value.int IntKind.i64
                            (IntKind.wrap IntKind.i64
                              (n +
                                if (1048576 : Int) < (↑(ByteArray.size s) : Int) then (1048576 : Int)
                                else (↑(ByteArray.size s) : Int))),
                          Value.int IntKind.i64 (IntKind.wrap IntKind.i64 (n_1 + (1 : Int)))]
                        H' ∧
                      μ
                          [Value.int IntKind.i64
                              (IntKind.wrap IntKind.i64
                                (n +
                                  if (1048576 : Int) < (↑(ByteArray.size s) : Int) then (1048576 : Int)
                                  else (↑(ByteArray.size s) : Int))),
                            Value.int IntKind.i64 (IntKind.wrap IntKind.i64 (n_1 + (1 : Int)))]
                          H' <
                        μ [Value.int IntKind.i64 n, Value.int IntKind.i64 n_1] H'))
            (brB (decide (n > (16384 : Int))) (R (Value.bool true) H')
              (R (Value.bool (decide ((↑l_n : Int) > (200 : Int)))) H')))
          (brB (decide (n > (16384 : Int))) (R (Value.bool true) H')
            (R (Value.bool (decide ((↑l_n : Int) > (200 : Int)))) H'))) :
  CallH Try.prog 16 (List.toArray [Value.slice l_a l_n l_c]) H R :=
  vc_call (annOf [([0, 1, 0, 1, 1], .cut [(3, .one (.int .i64)), (4, .one (.int .i64))])]) followsAll Go.Proofs.Try.func16 rfl Go.Proofs.Try.ntmps16 rfl rfl (Eq.mpr (by kernel_rfl) h)

/- 17 (*strandline/block.Disk).Read
  notes: []
  places: [[1]]
  slots: [0=d, 1=i, 2=d, 3=i, 6=l] -/
abbrev fn_block_Disk_Read : Nat := 17
theorem vc_block_Disk_Read (d : Addr) (i : Int) (H : Heap) (R : Value → Heap → Prop)
  (h : ∃ (M : List Value → Heap → Prop),
  (∃ b,
      Ld Try.prog (4 : Nat) H (Addr.add d (514 : Nat)) (Value.bool b) ∧
        brB b (R (Value.tuple { toList := [Value.string { data := #[] }, Value.int IntKind.i64 (90 : Int)] }) H)
          (brB (decide (i < (0 : Int)))
            (R (Value.tuple { toList := [Value.string { data := #[] }, Value.int IntKind.i64 (91 : Int)] }) H)
            (∃ n,
              Ld Try.prog (3 : Nat) H d (Value.int IntKind.i64 n) ∧
                brB (decide (i ≥ n))
                  (R (Value.tuple { toList := [Value.string { data := #[] }, Value.int IntKind.i64 (91 : Int)] }) H)
                  (M [] H)))) ∧
    ∀ (J : F) (H' : Heap),
      M [] H' →
        ∃ r,
          Ld Try.prog (51 : Nat) H' (Addr.add d (513 : Nat)) (Value.map r) ∧
            ∃ a n c,
              Rd Try.prog (Instr.lookup (51 : Nat) (Value.map r) (Value.int IntKind.i64 i) false) H'
                  (Value.slice a n c) ∧
                brB (decide ((↑n : Int) > (0 : Int)))
                  (exSome a fun ad =>
                    chk
                      (decide
                        ((0 : Int) ≤ IntKind.wrap IntKind.i64 ((↑n : Int) - (1 : Int)) ∧
                          IntKind.wrap IntKind.i64 ((↑n : Int) - (1 : Int)) < (↑n : Int)))
                      (∃ s,
                        Ld Try.prog (9 : Nat) H'
                            (Addr.add ad (Int.toNat (IntKind.wrap IntKind.i64 ((↑n : Int) - (1 : Int))) * (1 : Nat)))
                            (Value.string s) ∧
                          R (Value.tuple { toList := [Value.string s, Value.int IntKind.i64 (0 : Int)] }) H'))
                  (chk (decide ((0 : Int) ≤ i ∧ i < (↑(512 : Nat) : Int)))
                    (∃ s,
                      Ld Try.prog (9 : Nat) H' (Addr.add (Addr.add d (1 : Nat)) (Int.toNat i * (1 : Nat)))
                          (Value.string s) ∧
                        R (Value.tuple { toList := [Value.string s, Value.int IntKind.i64 (0 : Int)] }) H'))) :
  CallH Try.prog 17 (List.toArray [Value.pointer (some d), Value.int IntKind.i64 i]) H R :=
  vc_call (annOf [([1], .cut [])]) followsAll Go.Proofs.Try.func17 rfl Go.Proofs.Try.ntmps17 rfl rfl (Eq.mpr (by kernel_rfl) h)

/- 18 strandline/strandlineref09.New
  notes: []
  places: []
  slots: [0=n, 1=n, 3=k] -/
abbrev fn_ref09_New : Nat := 18
theorem vc_ref09_New (n : Int) (H : Heap) (R : Value → Heap → Prop)
  (h : (SemWp Try.prog
    (Instr.makeSlice (37 : Nat)
      (Value.int IntKind.i64
        (if (if (512 : Int) < n then (512 : Int) else n) > (8 : Int) then if (512 : Int) < n then (512 : Int) else n
        else (8 : Int)))
      (Value.int IntKind.i64
        (if (if (512 : Int) < n then (512 : Int) else n) > (8 : Int) then if (512 : Int) < n then (512 : Int) else n
        else (8 : Int))))
    H fun v H' =>
    ∃ a n_1 c,
      v = Value.slice a n_1 c ∧
        SemWp Try.prog
          (Instr.makeSlice (42 : Nat)
            (Value.int IntKind.i64
              (if (if (512 : Int) < n then (512 : Int) else n) > (8 : Int) then
                if (512 : Int) < n then (512 : Int) else n
              else (8 : Int)))
            (Value.int IntKind.i64
              (if (if (512 : Int) < n then (512 : Int) else n) > (8 : Int) then
                if (512 : Int) < n then (512 : Int) else n
              else (8 : Int))))
          H' fun v H' =>
          ∃ a_1 n c_1,
            v = Value.slice a_1 n c_1 ∧
              ∀ (b : Nat) (H'_1 : Heap),
                New H' b
                    (Obj.cells
                      {
                        toList :=
                          [Value.slice a n_1 c, Value.slice a_1 n c_1, Value.bool false,
                            Value.int IntKind.i64 (0 : Int), Value.int IntKind.u64 (0 : Int),
                            Value.int IntKind.i64 (0 : Int)] }
                      (48 : Nat))
                    H'_1 →
                  R (Value.pointer (some { block := b, off := (0 : Nat) })) H'_1) ∧
  SemWp Try.prog
    (Instr.makeSlice (42 : Nat)
      (Value.int IntKind.i64
        (if (if (512 : Int) < n then (512 : Int) else n) > (8 : Int) then if (512 : Int) < n then (512 : Int) else n
        else (8 : Int)))
      (Value.int IntKind.i64
        (if (if (512 : Int) < n then (512 : Int) else n) > (8 : Int) then if (512 : Int) < n then (512 : Int) else n
        else (8 : Int))))
    H fun v H' =>
    ∃ a n_1 c,
      v = Value.slice a n_1 c ∧
        SemWp Try.prog
          (Instr.makeSlice (37 : Nat)
            (Value.int IntKind.i64
              (if (if (512 : Int) < n then (512 : Int) else n) > (8 : Int) then
                if (512 : Int) < n then (512 : Int) else n
              else (8 : Int)))
            (Value.int IntKind.i64
              (if (if (512 : Int) < n then (512 : Int) else n) > (8 : Int) then
                if (512 : Int) < n then (512 : Int) else n
              else (8 : Int))))
          H' fun v H' =>
          ∃ a_1 n c_1,
            v = Value.slice a_1 n c_1 ∧
              ∀ (b : Nat) (H'_1 : Heap),
                New H' b
                    (Obj.cells
                      {
                        toList :=
                          [Value.slice a_1 n c_1, Value.slice a n_1 c, Value.bool false,
                            Value.int IntKind.i64 (0 : Int), Value.int IntKind.u64 (0 : Int),
                            Value.int IntKind.i64 (0 : Int)] }
                      (48 : Nat))
                    H'_1 →
                  R (Value.pointer (some { block := b, off := (0 : Nat) })) H'_1) :
  CallH Try.prog 18 (List.toArray [Value.int IntKind.i64 n]) H R :=
  vc_call (annOf [([0, 1, 1], .reg [0, 1, 0, 4, 15, 31, 63] (.quiet 0 (.quiet 2 (.pick (.alt 1 (.pick (.alt 3 (.quiet 4 (.pick (.alt 5 (.quiet 6 .done) .stop))) .stop)) (.alt 3 (.pick (.alt 1 (.quiet 4 (.pick (.alt 5 (.quiet 6 .done) .stop))) .stop)) .stop))))))]) followsAll Go.Proofs.Try.func18 rfl Go.Proofs.Try.ntmps18 rfl rfl (Eq.mpr (by kernel_rfl) h)

/- 19 (*strandline/block.Disk).Size
  notes: []
  places: []
  slots: [0=d, 1=d] -/
abbrev fn_block_Disk_Size : Nat := 19
theorem vc_block_Disk_Size (d : Addr) (H : Heap) (R : Value → Heap → Prop)
  (h : ∃ n, Ld Try.prog (3 : Nat) H d (Value.int IntKind.i64 n) ∧ R (Value.int IntKind.i64 n) H) :
  CallH Try.prog 19 (List.toArray [Value.pointer (some d)]) H R :=
  vc_call (annOf []) followsAll Go.Proofs.Try.func19 rfl Go.Proofs.Try.ntmps19 rfl rfl (Eq.mpr (by kernel_rfl) h)

/- 20 strandline/strandlinelaw09.does
  notes: []
  places: [[1]]
  slots: [0=d, 1=r, 2=o, 3=d, 4=r, 5=o, 7=s, 8=e, 9=t, 10=f] -/
abbrev fn_law09_does : Nat := 20
theorem vc_law09_does (d : Addr) (r : Addr) (o_0 : Int) (o_1 : Int) (o_2 : ByteArray) (o_3 : Int) (H : Heap) (R : Value → Heap → Prop)
  (h : ∀ (b : Nat) (H' : Heap),
  New H b
      (Obj.cells
        {
          toList :=
            [Value.int IntKind.i64 o_0, Value.int IntKind.i64 o_1, Value.string o_2, Value.int IntKind.u64 o_3] }
        (36 : Nat))
      H' →
    ∃ (M : List Value → Heap → Prop),
      (∃ n,
          Ld Try.prog (3 : Nat) H' { block := b, off := (0 : Nat) } (Value.int IntKind.i64 n) ∧
            brB (n == (0 : Int))
              (∃ n,
                Ld Try.prog (3 : Nat) H' { block := b, off := (1 : Nat) } (Value.int IntKind.i64 n) ∧
                  ∃ s,
                    Ld Try.prog (9 : Nat) H' { block := b, off := (2 : Nat) } (Value.string s) ∧
                      ∃ n_1,
                        Ld Try.prog (3 : Nat) H' { block := b, off := (1 : Nat) } (Value.int IntKind.i64 n_1) ∧
                          ∃ s_1,
                            Ld Try.prog (9 : Nat) H' { block := b, off := (2 : Nat) } (Value.string s_1) ∧
                              CallH Try.prog (11 : Nat)
                                { toList := [Value.pointer (some d), Value.int IntKind.i64 n, Value.string s] } H'
                                fun v H' =>
                                ∃ n,
                                  v = Value.int IntKind.i64 n ∧
                                    Ld Try.prog (9 : Nat) H' { block := b, off := (2 : Nat) } (Value.string s_1) ∧
                                      Ld Try.prog (3 : Nat) H' { block := b, off := (1 : Nat) }
                                          (Value.int IntKind.i64 n_1) ∧
                                        CallH Try.prog (27 : Nat)
                                          {
                                            toList :=
                                              [Value.pointer (some r), Value.int IntKind.i64 n_1, Value.string s_1] }
                                          H' fun v H' =>
                                          ∃ n_2, v = Value.int IntKind.i64 n_2 ∧ R (Value.bool (n == n_2)) H')
              (brB (n == (1 : Int))
                (CallH Try.prog (10 : Nat) { toList := [Value.pointer (some d)] } H' fun v H' =>
                  ∃ n,
                    v = Value.int IntKind.i64 n ∧
                      CallH Try.prog (28 : Nat) { toList := [Value.pointer (some r)] } H' fun v H' =>
                        ∃ n_1, v = Value.int IntKind.i64 n_1 ∧ R (Value.bool (n == n_1)) H')
                (brB (n == (2 : Int))
                  (∃ n,
                    Ld Try.prog (3 : Nat) H' { block := b, off := (1 : Nat) } (Value.int IntKind.i64 n) ∧
                      ∃ n_1,
                        Ld Try.prog (22 : Nat) H' { block := b, off := (3 : Nat) } (Value.int IntKind.u64 n_1) ∧
                          CallH Try.prog (9 : Nat)
                            { toList := [Value.pointer (some d), Value.int IntKind.i64 n, Value.int IntKind.u64 n_1] }
                            H' fun v H' =>
                            v = Value.tuple { toList := [] } ∧
                              ∃ n,
                                Ld Try.prog (3 : Nat) H' { block := b, off := (1 : Nat) } (Value.int IntKind.i64 n) ∧
                                  ∃ n_2,
                                    Ld Try.prog (22 : Nat) H' { block := b, off := (3 : Nat) }
                                        (Value.int IntKind.u64 n_2) ∧
                                      CallH Try.prog (29 : Nat)
                                        {
                                          toList :=
                                            [Value.pointer (some r), Value.int IntKind.i64 n,
                                              Value.int IntKind.u64 n_2] }
                                        H' fun v H' => v = Value.tuple { toList := [] } ∧ M [] H')
                  (brB (n == (3 : Int))
                    (∃ n,
                      Ld Try.prog (22 : Nat) H' { block := b, off := (3 : Nat) } (Value.int IntKind.u64 n) ∧
                        CallH Try.prog (14 : Nat) { toList := [Value.pointer (some d), Value.int IntKind.u64 n] } H'
                          fun v H' =>
                          v = Value.tuple { toList := [] } ∧
                            ∃ n,
                              Ld Try.prog (22 : Nat) H' { block := b, off := (3 : Nat) } (Value.int IntKind.u64 n) ∧
                                CallH Try.prog (30 : Nat)
                                  { toList := [Value.pointer (some r), Value.int IntKind.u64 n] } H' fun v H' =>
                                  v = Value.tuple { toList := [] } ∧ M [] H')
                    (brB (n == (4 : Int))
                      (CallH Try.prog (15 : Nat) { toList := [Value.pointer (some d)] } H' fun v H' =>
                        v = Value.tuple { toList := [] } ∧
                          CallH Try.prog (21 : Nat) { toList := [Value.pointer (some r)] } H' fun v H' =>
                            v = Value.tuple { toList := [] } ∧ M [] H')
                      (M [] H')))))) ∧
        ∀ (J : F) (H' : Heap),
          M [] H' →
            ∃ n,
              Ld Try.prog (3 : Nat) H' { block := b, off := (1 : Nat) } (Value.int IntKind.i64 n) ∧
                CallH Try.prog (17 : Nat) { toList := [Value.pointer (some d), Value.int IntKind.i64 n] } H' fun v H' =>
                  ∃ s n,
                    v = Value.tuple { toList := [Value.string s, Value.int IntKind.i64 n] } ∧
                      ∃ n_1,
                        Ld Try.prog (3 : Nat) H' { block := b, off := (1 : Nat) } (Value.int IntKind.i64 n_1) ∧
                          CallH Try.prog (22 : Nat) { toList := [Value.pointer (some r), Value.int IntKind.i64 n_1] } H'
                            fun v H' =>
                            ∃ s_1 n_2,
                              v = Value.tuple { toList := [Value.string s_1, Value.int IntKind.i64 n_2] } ∧
                                brB (ByteArray.toList s == ByteArray.toList s_1) (R (Value.bool (n == n_2)) H')
                                  (R (Value.bool false) H')) :
  CallH Try.prog 20 (List.toArray [Value.pointer (some d), Value.pointer (some r),
  Value.agg #[Value.int IntKind.i64 o_0, Value.int IntKind.i64 o_1, Value.string o_2, Value.int IntKind.u64 o_3]]) H R :=
  vc_call (annOf [([1], .cut []), ([0, 0, 1, 0, 1, 0, 1], .reg [0, 0, 2, 0, 8, 31, 0, 0, 128, 0, 512, 2047, 4095, 8191] (.quiet 0 (.quiet 1 (.quiet 2 (.quiet 3 (.quiet 4 (.quiet 6 (.quiet 7 (.quiet 8 (.quiet 9 (.quiet 10 (.pick (.alt 5 (.pick (.alt 11 (.quiet 12 (.quiet 13 .done)) .stop)) .stop)))))))))))))]) followsAll Go.Proofs.Try.func20 rfl Go.Proofs.Try.ntmps20 rfl rfl (Eq.mpr (by kernel_rfl) h)

/- 21 (*strandline/strandlineref09.Disk).Power
  notes: []
  places: []
  slots: [0=d, 1=d] -/
abbrev fn_ref09_Disk_Power : Nat := 21
theorem vc_ref09_Disk_Power (d : Addr) (H : Heap) (R : Value → Heap → Prop)
  (h : ∃ H',
  St Try.prog (4 : Nat) H (Addr.add d (2 : Nat)) (Value.bool false) H' ∧
    ∃ H'_1,
      St Try.prog (3 : Nat) H' (Addr.add d (3 : Nat)) (Value.int IntKind.i64 (0 : Int)) H'_1 ∧
        R (Value.tuple { toList := [] }) H'_1) :
  CallH Try.prog 21 (List.toArray [Value.pointer (some d)]) H R :=
  vc_call (annOf []) followsAll Go.Proofs.Try.func21 rfl Go.Proofs.Try.ntmps21 rfl rfl (Eq.mpr (by kernel_rfl) h)

/- 22 (*strandline/strandlineref09.Disk).Read
  notes: []
  places: [[1, 1]]
  slots: [0=d, 1=i, 2=d, 3=i, 6=l] -/
abbrev fn_ref09_Disk_Read : Nat := 22
theorem vc_ref09_Disk_Read (d : Addr) (i : Int) (H : Heap) (R : Value → Heap → Prop)
  (h : ∃ b,
  Ld Try.prog (4 : Nat) H (Addr.add d (2 : Nat)) (Value.bool b) ∧
    brB b (R (Value.tuple { toList := [Value.string { data := #[] }, Value.int IntKind.i64 (90 : Int)] }) H)
      (∃ (M : List Value → Heap → Prop),
        brB (decide (i < (0 : Int)))
            (R (Value.tuple { toList := [Value.string { data := #[] }, Value.int IntKind.i64 (91 : Int)] }) H)
            (∃ a n c,
              Ld Try.prog (37 : Nat) H d (Value.slice a n c) ∧
                brB (decide (i ≥ (↑n : Int)))
                  (R (Value.tuple { toList := [Value.string { data := #[] }, Value.int IntKind.i64 (91 : Int)] }) H)
                  (M [] H)) ∧
          ∀ (J : F) (H' : Heap),
            M [] H' →
              ∃ a n c,
                Ld Try.prog (42 : Nat) H' (Addr.add d (1 : Nat)) (Value.slice a n c) ∧
                  exSome a fun ad =>
                    chk (decide ((0 : Int) ≤ i ∧ i < (↑n : Int)))
                      (∃ a n c,
                        Ld Try.prog (37 : Nat) H' (Addr.add ad (Int.toNat i * (1 : Nat))) (Value.slice a n c) ∧
                          brB (decide ((↑n : Int) > (0 : Int)))
                            (exSome a fun ad =>
                              chk
                                (decide
                                  ((0 : Int) ≤ IntKind.wrap IntKind.i64 ((↑n : Int) - (1 : Int)) ∧
                                    IntKind.wrap IntKind.i64 ((↑n : Int) - (1 : Int)) < (↑n : Int)))
                                (∃ s,
                                  Ld Try.prog (9 : Nat) H'
                                      (Addr.add ad
                                        (Int.toNat (IntKind.wrap IntKind.i64 ((↑n : Int) - (1 : Int))) * (1 : Nat)))
                                      (Value.string s) ∧
                                    R (Value.tuple { toList := [Value.string s, Value.int IntKind.i64 (0 : Int)] }) H'))
                            (∃ a n c,
                              Ld Try.prog (37 : Nat) H' d (Value.slice a n c) ∧
                                exSome a fun ad =>
                                  chk (decide ((0 : Int) ≤ i ∧ i < (↑n : Int)))
                                    (∃ s,
                                      Ld Try.prog (9 : Nat) H' (Addr.add ad (Int.toNat i * (1 : Nat)))
                                          (Value.string s) ∧
                                        R (Value.tuple { toList := [Value.string s, Value.int IntKind.i64 (0 : Int)] })
                                          H'))))) :
  CallH Try.prog 22 (List.toArray [Value.pointer (some d), Value.int IntKind.i64 i]) H R :=
  vc_call (annOf [([1, 1], .cut [])]) followsAll Go.Proofs.Try.func22 rfl Go.Proofs.Try.ntmps22 rfl rfl (Eq.mpr (by kernel_rfl) h)

/- 23 (*strandline/block.Disk).last
  notes: []
  places: []
  slots: [0=d, 1=d] -/
abbrev fn_block_Disk_last : Nat := 23
theorem vc_block_Disk_last (d : Addr) (H : Heap) (R : Value → Heap → Prop)
  (h : ∃ n,
  Ld Try.prog (3 : Nat) H (Addr.add d (517 : Nat)) (Value.int IntKind.i64 n) ∧
    ∃ H',
      St Try.prog (3 : Nat) H (Addr.add d (517 : Nat))
          (Value.int IntKind.i64 (IntKind.wrap IntKind.i64 (n + (1 : Int)))) H' ∧
        ∃ n,
          Ld Try.prog (3 : Nat) H' (Addr.add d (515 : Nat)) (Value.int IntKind.i64 n) ∧
            brB (n != (1 : Int))
              (∃ n,
                Ld Try.prog (3 : Nat) H' (Addr.add d (515 : Nat)) (Value.int IntKind.i64 n) ∧
                  ∃ H'_1,
                    St Try.prog (3 : Nat) H' (Addr.add d (515 : Nat))
                        (Value.int IntKind.i64
                          (if (0 : Int) > IntKind.wrap IntKind.i64 (n - (1 : Int)) then (0 : Int)
                          else IntKind.wrap IntKind.i64 (n - (1 : Int))))
                        H'_1 ∧
                      R (Value.bool false) H'_1)
              (∃ n,
                Ld Try.prog (22 : Nat) H' (Addr.add d (516 : Nat)) (Value.int IntKind.u64 n) ∧
                  CallH Try.prog (14 : Nat) { toList := [Value.pointer (some d), Value.int IntKind.u64 n] } H'
                    fun v H' => v = Value.tuple { toList := [] } ∧ R (Value.bool true) H')) :
  CallH Try.prog 23 (List.toArray [Value.pointer (some d)]) H R :=
  vc_call (annOf []) followsAll Go.Proofs.Try.func23 rfl Go.Proofs.Try.ntmps23 rfl rfl (Eq.mpr (by kernel_rfl) h)

/- 24 (*strandline/block.Disk).settle
  notes: []
  places: []
  slots: [0=d, 1=pick, 2=d, 3=pick, 4=order, 5=i, 6=j, 7=i, 8=l, 9=k] -/
abbrev fn_block_Disk_settle : Nat := 24
theorem vc_block_Disk_settle (d : Addr) (pick : Value) (H : Heap) (R : Value → Heap → Prop)
  (h : ∃ r,
  Ld Try.prog (51 : Nat) H (Addr.add d (513 : Nat)) (Value.map r) ∧
    SemWp Try.prog (Instr.range (51 : Nat) (Value.map r)) H fun v H' =>
      ∃ a,
        v = Value.pointer a ∧
          ∃ (I : List Value → Heap → Prop) (μ : List Value → Heap → Nat),
            I [Value.slice none (0 : Nat) (0 : Nat)] H' ∧
              ∀ (J : F) (a_1 : Option Addr) (n c : Nat) (H' : Heap),
                I [Value.slice a_1 n c] H' →
                  SemWp Try.prog (Instr.next (Value.pointer a) false (0 : Nat)) H' fun v H'_1 =>
                    (v = Value.tuple { toList := [Value.bool false] } ∧
                        CallH Try.prog (31 : Nat) { toList := [Value.slice a_1 n c] } H'_1 fun v H' =>
                          v = Value.tuple { toList := [] } ∧
                            ∃ (I : List Value → Heap → Prop) (μ : List Value → Heap → Nat),
                              I [Value.int IntKind.i64 (0 : Int)] H' ∧
                                ∀ (J : F) (n_1 : Int) (H' : Heap),
                                  I [Value.int IntKind.i64 n_1] H' →
                                    brB (decide (n_1 < (↑n : Int)))
                                      (exSome a_1 fun ad =>
                                        chk (decide ((0 : Int) ≤ n_1 ∧ n_1 < (↑n : Int)))
                                          (∃ n,
                                            Ld Try.prog (3 : Nat) H' (Addr.add ad (Int.toNat n_1 * (1 : Nat)))
                                                (Value.int IntKind.i64 n) ∧
                                              ∃ r,
                                                Ld Try.prog (51 : Nat) H' (Addr.add d (513 : Nat)) (Value.map r) ∧
                                                  ∃ a n_2 c,
                                                    Rd Try.prog
                                                        (Instr.lookup (51 : Nat) (Value.map r) (Value.int IntKind.i64 n)
                                                          false)
                                                        H' (Value.slice a n_2 c) ∧
                                                      CallV Try.prog pick
                                                        [Value.int IntKind.i64 n_1, Value.int IntKind.i64 (↑n_2 : Int)]
                                                        H' fun v H'_2 =>
                                                        ∃ n_3,
                                                          v = Value.int IntKind.i64 n_3 ∧
                                                            brB (decide (n_3 > (0 : Int)))
                                                              (exSome a fun ad =>
                                                                chk
                                                                  (decide
                                                                    ((0 : Int) ≤
                                                                        IntKind.wrap IntKind.i64 (n_3 - (1 : Int)) ∧
                                                                      IntKind.wrap IntKind.i64 (n_3 - (1 : Int)) <
                                                                        (↑n_2 : Int)))
                                                                  (∃ s,
                                                                    Ld Try.prog (9 : Nat) H'_2
                                                                        (Addr.add ad
                                                                          (Int.toNat
                                                                              (IntKind.wrap IntKind.i64
                                                                                (n_3 - (1 : Int))) *
                                                                            (1 : Nat)))
                                                                        (Value.string s) ∧
                                                                      chk
                                                                        (decide
                                                                          ((0 : Int) ≤ n ∧ n < (↑(512 : Nat) : Int)))
                                                                        (∃ H'_3,
                                                                          St Try.prog (9 : Nat) H'_2
                                                                              (Addr.add (Addr.add d (1 : Nat))
                                                                                (Int.toNat n * (1 : Nat)))
                                                                              (Value.string s) H'_3 ∧
                                                                            I
                                                                                [Value.int IntKind.i64
                                                                                    (IntKind.wrap IntKind.i64
                                                                                      (n_1 + (1 : Int)))]
                                                                                H'_3 ∧
                                                                              μ
                                                                                  [Value.int IntKind.i64
                                                                                      (IntKind.wrap IntKind.i64
                                                                                        (n_1 + (1 : Int)))]
                                                                                  H'_3 <
                                                                                μ [Value.int IntKind.i64 n_1] H')))
                                                              (I
                                                                  [Value.int IntKind.i64
                                                                      (IntKind.wrap IntKind.i64 (n_1 + (1 : Int)))]
                                                                  H'_2 ∧
                                                                μ
                                                                    [Value.int IntKind.i64
                                                                        (IntKind.wrap IntKind.i64 (n_1 + (1 : Int)))]
                                                                    H'_2 <
                                                                  μ [Value.int IntKind.i64 n_1] H')))
                                      (∃ r,
                                        Ld Try.prog (51 : Nat) H' (Addr.add d (513 : Nat)) (Value.map r) ∧
                                          SemWp Try.prog
                                            (Builtin.clear_ { toList := [(51 : Nat)] } (0 : Nat)
                                              { toList := [Value.map r] })
                                            H' fun v H' =>
                                            v = Value.tuple { toList := [] } ∧ R (Value.tuple { toList := [] }) H')) ∨
                      ∃ k x,
                        v = Value.tuple { toList := [Value.bool true, k, x] } ∧
                          SemWp Try.prog (Instr.entry (Value.pointer a)) H'_1 fun v H'_2 =>
                            ∃ k x,
                              v = Value.tuple { toList := [k, x] } ∧
                                ∃ n_1,
                                  k = Value.int IntKind.i64 n_1 ∧
                                    ∀ (b : Nat) (H'_3 : Heap),
                                      New H'_2 b (Obj.cells { toList := [Value.int IntKind.i64 n_1] } (3 : Nat)) H'_3 →
                                        SemWp Try.prog
                                          (Builtin.append_ { toList := [(58 : Nat), (58 : Nat)] } (58 : Nat)
                                            {
                                              toList :=
                                                [Value.slice a_1 n c,
                                                  Value.slice (some { block := b, off := (0 : Nat) }) (1 : Nat)
                                                    (1 : Nat)] })
                                          H'_3 fun v H'_4 =>
                                          ∃ a n_2 c_1,
                                            v = Value.slice a n_2 c_1 ∧
                                              I [Value.slice a n_2 c_1] H'_4 ∧
                                                μ [Value.slice a n_2 c_1] H'_4 < μ [Value.slice a_1 n c] H') :
  CallH Try.prog 24 (List.toArray [Value.pointer (some d), pick]) H R :=
  vc_call (annOf [([0, 1, 0, 1], .cut [(4, .one .slice)]), ([0, 0, 1, 1, 0, 0, 1, 0, 1], .ext), ([0, 1, 0, 1, 1, 1], .cut [(27, .one (.int .i64))]), ([0, 1, 1, 1, 1, 0, 0, 1, 1, 0, 0, 1, 0, 1, 1, 1], .tail 9)]) followsAll Go.Proofs.Try.func24 rfl Go.Proofs.Try.ntmps24 rfl rfl (Eq.mpr (by kernel_rfl) h)

/- 25 (*strandline/block.Disk).Flush$1
  notes: []
  places: []
  slots: [0=_, 1=n, 2=_, 3=n] -/
abbrev fn_block_Disk_Flush_1 : Nat := 25
theorem vc_block_Disk_Flush_1 (a0 : Int) (n : Int) (H : Heap) (R : Value → Heap → Prop)
  (h : R (Value.int IntKind.i64 n) H) :
  CallH Try.prog 25 (List.toArray [Value.int IntKind.i64 a0, Value.int IntKind.i64 n]) H R :=
  vc_call (annOf []) followsAll Go.Proofs.Try.func25 rfl Go.Proofs.Try.ntmps25 rfl rfl (Eq.mpr (by kernel_rfl) h)

/- 26 (*strandline/block.Disk).Crash$1
  notes: []
  places: []
  slots: [0=j, 1=n, 3=j, 4=n] -/
abbrev fn_block_Disk_Crash_1 : Nat := 26
theorem vc_block_Disk_Crash_1 (j : Int) (n : Int) (a2 : Addr) (H : Heap) (R : Value → Heap → Prop)
  (h : ∃ n_1,
  Ld Try.prog (22 : Nat) H a2 (Value.int IntKind.u64 n_1) ∧
    chk (decide ((0 : Int) ≤ IntKind.wrap IntKind.u64 (IntKind.wrap IntKind.i64 (Int.tmod j (32 : Int) * (2 : Int)))))
      (chk (decide (IntKind.wrap IntKind.i64 (n + (1 : Int)) ≠ (0 : Int)))
        (R
          (Value.int IntKind.i64
            (Int.tmod
              (IntKind.wrap IntKind.i64
                (IntKind.wrap IntKind.u64
                  (↑(BitVec.toNat
                        (BitVec.ofInt (64 : Nat)
                            (Int.fdiv n_1
                              ((2 : Int) ^
                                min
                                  (Int.toNat
                                    (IntKind.wrap IntKind.u64
                                      (IntKind.wrap IntKind.i64 (Int.tmod j (32 : Int) * (2 : Int)))))
                                  (64 : Nat))) &&&
                          BitVec.ofInt (64 : Nat) (3 : Int))) :
                    Int)))
              (IntKind.wrap IntKind.i64 (n + (1 : Int)))))
          H))) :
  CallH Try.prog 26 (List.toArray [Value.int IntKind.i64 j, Value.int IntKind.i64 n, Value.pointer (some a2)]) H R :=
  vc_call (annOf []) followsAll Go.Proofs.Try.func26 rfl Go.Proofs.Try.ntmps26 rfl rfl (Eq.mpr (by kernel_rfl) h)

/- 27 (*strandline/strandlineref09.Disk).Write
  notes: []
  places: [[1, 1]]
  slots: [0=d, 1=i, 2=s, 3=d, 4=i, 5=s, 7=l] -/
abbrev fn_ref09_Disk_Write : Nat := 27
theorem vc_ref09_Disk_Write (d : Addr) (i : Int) (s : ByteArray) (H : Heap) (R : Value → Heap → Prop)
  (h : ∃ b,
  Ld Try.prog (4 : Nat) H (Addr.add d (2 : Nat)) (Value.bool b) ∧
    brB b (R (Value.int IntKind.i64 (90 : Int)) H)
      (∃ (M : List Value → Heap → Prop),
        brB (decide (i < (0 : Int))) (R (Value.int IntKind.i64 (91 : Int)) H)
            (∃ a n c,
              Ld Try.prog (37 : Nat) H d (Value.slice a n c) ∧
                brB (decide (i ≥ (↑n : Int))) (R (Value.int IntKind.i64 (91 : Int)) H)
                  (brB (decide ((↑(ByteArray.size s) : Int) > (64 : Int))) (R (Value.int IntKind.i64 (91 : Int)) H)
                    (M [] H))) ∧
          ∀ (J : F) (H' : Heap),
            M [] H' →
              ∀ (b : Nat) (H'_1 : Heap),
                New H' b (Obj.cells { toList := [] } (9 : Nat)) H'_1 →
                  ∃ a n c,
                    Ld Try.prog (42 : Nat) H'_1 (Addr.add d (1 : Nat)) (Value.slice a n c) ∧
                      exSome a fun ad =>
                        chk (decide ((0 : Int) ≤ i ∧ i < (↑n : Int)))
                          (∃ a n c,
                            Ld Try.prog (37 : Nat) H'_1 (Addr.add ad (Int.toNat i * (1 : Nat))) (Value.slice a n c) ∧
                              SemWp Try.prog
                                (Builtin.append_ { toList := [(37 : Nat), (37 : Nat)] } (37 : Nat)
                                  {
                                    toList :=
                                      [Value.slice (some { block := b, off := (0 : Nat) }) (0 : Nat) (0 : Nat),
                                        Value.slice a n c] })
                                H'_1 fun v H' =>
                                ∃ a n c,
                                  v = Value.slice a n c ∧
                                    ∃ a_1 n_1 c_1,
                                      Ld Try.prog (42 : Nat) H' (Addr.add d (1 : Nat)) (Value.slice a_1 n_1 c_1) ∧
                                        ∀ (b : Nat) (H'_2 : Heap),
                                          New H' b (Obj.cells { toList := [Value.string s] } (9 : Nat)) H'_2 →
                                            Ld Try.prog (42 : Nat) H'_2 (Addr.add d (1 : Nat))
                                                (Value.slice a_1 n_1 c_1) ∧
                                              SemWp Try.prog
                                                (Builtin.append_ { toList := [(37 : Nat), (37 : Nat)] } (37 : Nat)
                                                  {
                                                    toList :=
                                                      [Value.slice a n c,
                                                        Value.slice (some { block := b, off := (0 : Nat) }) (1 : Nat)
                                                          (1 : Nat)] })
                                                H'_2 fun v H' =>
                                                ∃ a n c,
                                                  v = Value.slice a n c ∧
                                                    Ld Try.prog (42 : Nat) H' (Addr.add d (1 : Nat))
                                                        (Value.slice a_1 n_1 c_1) ∧
                                                      exSome a_1 fun ad =>
                                                        chk (decide ((0 : Int) ≤ i ∧ i < (↑n_1 : Int)))
                                                          (∃ H'_3,
                                                            St Try.prog (37 : Nat) H'
                                                                (Addr.add ad (Int.toNat i * (1 : Nat)))
                                                                (Value.slice a n c) H'_3 ∧
                                                              CallH Try.prog (32 : Nat)
                                                                { toList := [Value.pointer (some d)] } H'_3 fun v H' =>
                                                                ∃ b,
                                                                  v = Value.bool b ∧
                                                                    brB b (R (Value.int IntKind.i64 (90 : Int)) H')
                                                                      (R (Value.int IntKind.i64 (0 : Int)) H'))))) :
  CallH Try.prog 27 (List.toArray [Value.pointer (some d), Value.int IntKind.i64 i, Value.string s]) H R :=
  vc_call (annOf [([1, 1], .cut []), ([0, 1, 1, 1, 1, 1], .reg [0, 1, 3, 7, 0, 0, 0, 64, 224, 511, 1023] (.quiet 0 (.quiet 1 (.quiet 2 (.quiet 3 (.quiet 4 (.quiet 5 (.quiet 6 (.pick (.alt 7 (.pick (.alt 8 (.quiet 9 (.pick (.alt 10 (.done) .stop))) .stop)) .stop))))))))))]) followsAll Go.Proofs.Try.func27 rfl Go.Proofs.Try.ntmps27 rfl rfl (Eq.mpr (by kernel_rfl) h)

/- 28 (*strandline/strandlineref09.Disk).Flush
  notes: []
  places: [[1]]
  slots: [0=d, 1=d, 3=i, 4=l] -/
abbrev fn_ref09_Disk_Flush : Nat := 28
theorem vc_ref09_Disk_Flush (d : Addr) (H : Heap) (R : Value → Heap → Prop)
  (h : ∃ (M : List Value → Heap → Prop),
  (∃ b,
      Ld Try.prog (4 : Nat) H (Addr.add d (2 : Nat)) (Value.bool b) ∧
        brB b (R (Value.int IntKind.i64 (90 : Int)) H)
          (CallH Try.prog (32 : Nat) { toList := [Value.pointer (some d)] } H fun v H' =>
            ∃ b, v = Value.bool b ∧ brB b (R (Value.int IntKind.i64 (90 : Int)) H') (M [] H'))) ∧
    ∀ (J : F) (H' : Heap),
      M [] H' →
        ∃ (I : List Value → Heap → Prop) (μ : List Value → Heap → Nat),
          I [Value.int IntKind.i64 (0 : Int)] H' ∧
            ∀ (J : F) (n : Int) (H' : Heap),
              I [Value.int IntKind.i64 n] H' →
                ∃ a n_1 c,
                  Ld Try.prog (37 : Nat) H' d (Value.slice a n_1 c) ∧
                    brB (decide (n < (↑n_1 : Int)))
                      (∃ a n_2 c,
                        Ld Try.prog (42 : Nat) H' (Addr.add d (1 : Nat)) (Value.slice a n_2 c) ∧
                          exSome a fun ad =>
                            chk (decide ((0 : Int) ≤ n ∧ n < (↑n_2 : Int)))
                              (∃ a n_3 c,
                                Ld Try.prog (37 : Nat) H' (Addr.add ad (Int.toNat n * (1 : Nat)))
                                    (Value.slice a n_3 c) ∧
                                  brB (decide ((↑n_3 : Int) > (0 : Int)))
                                    (∃ a_1 n_4 c,
                                      Ld Try.prog (37 : Nat) H' d (Value.slice a_1 n_4 c) ∧
                                        exSome a fun ad =>
                                          chk
                                            (decide
                                              ((0 : Int) ≤ IntKind.wrap IntKind.i64 ((↑n_3 : Int) - (1 : Int)) ∧
                                                IntKind.wrap IntKind.i64 ((↑n_3 : Int) - (1 : Int)) < (↑n_3 : Int)))
                                            (∃ s,
                                              Ld Try.prog (9 : Nat) H'
                                                  (Addr.add ad
                                                    (Int.toNat (IntKind.wrap IntKind.i64 ((↑n_3 : Int) - (1 : Int))) *
                                                      (1 : Nat)))
                                                  (Value.string s) ∧
                                                exSome a_1 fun ad =>
                                                  chk (decide ((0 : Int) ≤ n ∧ n < (↑n_4 : Int)))
                                                    (∃ H'_1,
                                                      St Try.prog (9 : Nat) H' (Addr.add ad (Int.toNat n * (1 : Nat)))
                                                          (Value.string s) H'_1 ∧
                                                        ∃ a n_5 c,
                                                          Ld Try.prog (42 : Nat) H'_1 (Addr.add d (1 : Nat))
                                                              (Value.slice a n_5 c) ∧
                                                            exSome a fun ad =>
                                                              chk (decide ((0 : Int) ≤ n ∧ n < (↑n_5 : Int)))
                                                                (∃ H'_2,
                                                                  St Try.prog (37 : Nat) H'_1
                                                                      (Addr.add ad (Int.toNat n * (1 : Nat)))
                                                                      (Value.slice none (0 : Nat) (0 : Nat)) H'_2 ∧
                                                                    I
                                                                        [Value.int IntKind.i64
                                                                            (IntKind.wrap IntKind.i64 (n + (1 : Int)))]
                                                                        H'_2 ∧
                                                                      μ
                                                                          [Value.int IntKind.i64
                                                                              (IntKind.wrap IntKind.i64
                                                                                (n + (1 : Int)))]
                                                                          H'_2 <
                                                                        μ [Value.int IntKind.i64 n] H'))))
                                    (∃ a n_4 c,
                                      Ld Try.prog (42 : Nat) H' (Addr.add d (1 : Nat)) (Value.slice a n_4 c) ∧
                                        exSome a fun ad =>
                                          chk (decide ((0 : Int) ≤ n ∧ n < (↑n_4 : Int)))
                                            (∃ H'_1,
                                              St Try.prog (37 : Nat) H' (Addr.add ad (Int.toNat n * (1 : Nat)))
                                                  (Value.slice none (0 : Nat) (0 : Nat)) H'_1 ∧
                                                I [Value.int IntKind.i64 (IntKind.wrap IntKind.i64 (n + (1 : Int)))]
                                                    H'_1 ∧
                                                  μ [Value.int IntKind.i64 (IntKind.wrap IntKind.i64 (n + (1 : Int)))]
                                                      H'_1 <
                                                    μ [Value.int IntKind.i64 n] H'))))
                      (R (Value.int IntKind.i64 (0 : Int)) H')) :
  CallH Try.prog 28 (List.toArray [Value.pointer (some d)]) H R :=
  vc_call (annOf [([1], .cut []), ([0, 1, 0, 1, 1], .cut [(3, .one (.int .i64))]), ([0, 1, 0, 1, 0, 0, 1, 0, 0, 1, 0, 1, 1], .tail 11)]) followsAll Go.Proofs.Try.func28 rfl Go.Proofs.Try.ntmps28 rfl rfl (Eq.mpr (by kernel_rfl) h)

/- 29 (*strandline/strandlineref09.Disk).Cut
  notes: []
  places: []
  slots: [0=d, 1=n, 2=keep, 3=d, 4=n, 5=keep] -/
abbrev fn_ref09_Disk_Cut : Nat := 29
theorem vc_ref09_Disk_Cut (d : Addr) (n : Int) (keep : Int) (H : Heap) (R : Value → Heap → Prop)
  (h : ∃ H',
  St Try.prog (3 : Nat) H (Addr.add d (3 : Nat)) (Value.int IntKind.i64 (if (0 : Int) > n then (0 : Int) else n)) H' ∧
    ∃ H'_1,
      St Try.prog (22 : Nat) H' (Addr.add d (4 : Nat)) (Value.int IntKind.u64 keep) H'_1 ∧
        R (Value.tuple { toList := [] }) H'_1) :
  CallH Try.prog 29 (List.toArray [Value.pointer (some d), Value.int IntKind.i64 n, Value.int IntKind.u64 keep]) H R :=
  vc_call (annOf []) followsAll Go.Proofs.Try.func29 rfl Go.Proofs.Try.ntmps29 rfl rfl (Eq.mpr (by kernel_rfl) h)

/- 30 (*strandline/strandlineref09.Disk).Crash
  notes: []
  places: []
  slots: [0=d, 1=keep, 2=d, 3=keep, 4=j, 5=i, 6=l, 7=k] -/
abbrev fn_ref09_Disk_Crash : Nat := 30
theorem vc_ref09_Disk_Crash (d : Addr) (keep : Int) (H : Heap) (R : Value → Heap → Prop)
  (h : ∃ b,
  Ld Try.prog (4 : Nat) H (Addr.add d (2 : Nat)) (Value.bool b) ∧
    brB b (R (Value.tuple { toList := [] }) H)
      (∃ (I : List Value → Heap → Prop) (μ : List Value → Heap → Nat),
        I [Value.int IntKind.i64 (0 : Int), Value.int IntKind.i64 (0 : Int)] H ∧
          ∀ (J : F) (n n_1 : Int) (H' : Heap),
            I [Value.int IntKind.i64 n, Value.int IntKind.i64 n_1] H' →
              ∃ a n_2 c,
                Ld Try.prog (37 : Nat) H' d (Value.slice a n_2 c) ∧
                  brB (decide (n_1 < (↑n_2 : Int)))
                    (∃ a n_3 c,
                      Ld Try.prog (42 : Nat) H' (Addr.add d (1 : Nat)) (Value.slice a n_3 c) ∧
                        exSome a fun ad =>
                          chk (decide ((0 : Int) ≤ n_1 ∧ n_1 < (↑n_3 : Int)))
                            (∃ a n_4 c,
                              Ld Try.prog (37 : Nat) H' (Addr.add ad (Int.toNat n_1 * (1 : Nat)))
                                  (Value.slice a n_4 c) ∧
                                brB (decide ((↑n_4 : Int) > (0 : Int)))
                                  (chk
                                    (decide
                                      ((0 : Int) ≤
                                        IntKind.wrap IntKind.u64
                                          (IntKind.wrap IntKind.i64 ((2 : Int) * Int.tmod n (32 : Int)))))
                                    (chk (decide (IntKind.wrap IntKind.i64 ((↑n_4 : Int) + (1 : Int)) ≠ (0 : Int)))
                                      (brB
                                        (decide
                                          (Int.tmod
                                              (IntKind.wrap IntKind.i64
                                                (Int.tmod
                                                  (Int.fdiv keep
                                                    ((2 : Int) ^
                                                      min
                                                        (Int.toNat
                                                          (IntKind.wrap IntKind.u64
                                                            (IntKind.wrap IntKind.i64
                                                              ((2 : Int) * Int.tmod n (32 : Int)))))
                                                        (IntKind.bits IntKind.u64)))
                                                  (4 : Int)))
                                              (IntKind.wrap IntKind.i64 ((↑n_4 : Int) + (1 : Int))) >
                                            (0 : Int)))
                                        (∃ a_1 n_5 c,
                                          Ld Try.prog (37 : Nat) H' d (Value.slice a_1 n_5 c) ∧
                                            exSome a fun ad =>
                                              chk
                                                (decide
                                                  ((0 : Int) ≤
                                                      IntKind.wrap IntKind.i64
                                                        (Int.tmod
                                                            (IntKind.wrap IntKind.i64
                                                              (Int.tmod
                                                                (Int.fdiv keep
                                                                  ((2 : Int) ^
                                                                    min
                                                                      (Int.toNat
                                                                        (IntKind.wrap IntKind.u64
                                                                          (IntKind.wrap IntKind.i64
                                                                            ((2 : Int) * Int.tmod n (32 : Int)))))
                                                                      (64 : Nat)))
                                                                (4 : Int)))
                                                            (IntKind.wrap IntKind.i64 ((↑n_4 : Int) + (1 : Int))) -
                                                          (1 : Int)) ∧
                                                    IntKind.wrap IntKind.i64
                                                        (Int.tmod
                                                            (IntKind.wrap IntKind.i64
                                                              (Int.tmod
                                                                (Int.fdiv keep
                                                                  ((2 : Int) ^
                                                                    min
                                                                      (Int.toNat
                                                                        (IntKind.wrap IntKind.u64
                                                                          (IntKind.wrap IntKind.i64
                                                                            ((2 : Int) * Int.tmod n (32 : Int)))))
                                                                      (64 : Nat)))
                                                                (4 : Int)))
                                                            (IntKind.wrap IntKind.i64 ((↑n_4 : Int) + (1 : Int))) -
                                                          (1 : Int)) <
                                                      (↑n_4 : Int)))
                                                (∃ s,
                                                  Ld Try.prog (9 : Nat) H'
                                                      (Addr.add ad
                                                        (Int.toNat
                                                            (IntKind.wrap IntKind.i64
                                                              (Int.tmod
                                                                  (IntKind.wrap IntKind.i64
                                                                    (Int.tmod
                                                                      (Int.fdiv keep
                                                                        ((2 : Int) ^
                                                                          min
                                                                            (Int.toNat
                                                                              (IntKind.wrap IntKind.u64
                                                                                (IntKind.wrap IntKind.i64
                                                                                  ((2 : Int) * Int.tmod n (32 : Int)))))
                                                                            (64 : Nat)))
                                                                      (4 : Int)))
                                                                  (IntKind.wrap IntKind.i64
                                                                    ((↑n_4 : Int) + (1 : Int))) -
                                                                (1 : Int))) *
                                                          (1 : Nat)))
                                                      (Value.string s) ∧
                                                    exSome a_1 fun ad =>
                                                      chk (decide ((0 : Int) ≤ n_1 ∧ n_1 < (↑n_5 : Int)))
                                                        (∃ H'_1,
                                                          St Try.prog (9 : Nat) H'
                                                              (Addr.add ad (Int.toNat n_1 * (1 : Nat))) (Value.string s)
                                                              H'_1 ∧
                                                            ∃ a n_6 c,
                                                              Ld Try.prog (42 : Nat) H'_1 (Addr.add d (1 : Nat))
                                                                  (Value.slice a n_6 c) ∧
                                                                exSome a fun ad =>
                                                                  chk (decide ((0 : Int) ≤ n_1 ∧ n_1 < (↑n_6 : Int)))
                                                                    (∃ H'_2,
                                                                      St Try.prog (37 : Nat) H'_1
                                                                          (Addr.add ad (Int.toNat n_1 * (1 : Nat)))
                                                                          (Value.slice none (0 : Nat) (0 : Nat)) H'_2 ∧
                                                                        I
                                                                            [Value.int IntKind.i64
                                                                                (IntKind.wrap IntKind.i64
                                                                                  (n + (1 : Int))),
                                                                              Value.int IntKind.i64
                                                                                (IntKind.wrap IntKind.i64
                                                                                  (n_1 + (1 : Int)))]
                                                                            H'_2 ∧
                                                                          μ
                                                                              [Value.int IntKind.i64
                                                                                  (IntKind.wrap IntKind.i64
                                                                                    (n + (1 : Int))),
                                                                                Value.int IntKind.i64
                                                                                  (IntKind.wrap IntKind.i64
                                                                                    (n_1 + (1 : Int)))]
                                                                              H'_2 <
                                                                            μ
                                                                              [Value.int IntKind.i64 n,
                                                                                Value.int IntKind.i64 n_1]
                                                                              H'))))
                                        (∃ a n_5 c,
                                          Ld Try.prog (42 : Nat) H' (Addr.add d (1 : Nat)) (Value.slice a n_5 c) ∧
                                            exSome a fun ad =>
                                              chk (decide ((0 : Int) ≤ n_1 ∧ n_1 < (↑n_5 : Int)))
                                                (∃ H'_1,
                                                  St Try.prog (37 : Nat) H' (Addr.add ad (Int.toNat n_1 * (1 : Nat)))
                                                      (Value.slice none (0 : Nat) (0 : Nat)) H'_1 ∧
                                                    I
                                                        [Value.int IntKind.i64
                                                            (IntKind.wrap IntKind.i64 (n + (1 : Int))),
                                                          Value.int IntKind.i64
                                                            (IntKind.wrap IntKind.i64 (n_1 + (1 : Int)))]
                                                        H'_1 ∧
                                                      μ
                                                          [Value.int IntKind.i64
                                                              (IntKind.wrap IntKind.i64 (n + (1 : Int))),
                                                            Value.int IntKind.i64
                                                              (IntKind.wrap IntKind.i64 (n_1 + (1 : Int)))]
                                                          H'_1 <
                                                        μ [Value.int IntKind.i64 n, Value.int IntKind.i64 n_1] H')))))
                                  (∃ a n_5 c,
                                    Ld Try.prog (42 : Nat) H' (Addr.add d (1 : Nat)) (Value.slice a n_5 c) ∧
                                      exSome a fun ad =>
                                        chk (decide ((0 : Int) ≤ n_1 ∧ n_1 < (↑n_5 : Int)))
                                          (∃ H'_1,
                                            St Try.prog (37 : Nat) H' (Addr.add ad (Int.toNat n_1 * (1 : Nat)))
                                                (Value.slice none (0 : Nat) (0 : Nat)) H'_1 ∧
                                              I
                                                  [Value.int IntKind.i64 n,
                                                    Value.int IntKind.i64 (IntKind.wrap IntKind.i64 (n_1 + (1 : Int)))]
                                                  H'_1 ∧
                                                μ
                                                    [Value.int IntKind.i64 n,
                                                      Value.int IntKind.i64
                                                        (IntKind.wrap IntKind.i64 (n_1 + (1 : Int)))]
                                                    H'_1 <
                                                  μ [Value.int IntKind.i64 n, Value.int IntKind.i64 n_1] H'))))
                    (∃ H'_1,
                      St Try.prog (4 : Nat) H' (Addr.add d (2 : Nat)) (Value.bool true) H'_1 ∧
                        ∃ H',
                          St Try.prog (3 : Nat) H'_1 (Addr.add d (3 : Nat)) (Value.int IntKind.i64 (0 : Int)) H' ∧
                            R (Value.tuple { toList := [] }) H'))) :
  CallH Try.prog 30 (List.toArray [Value.pointer (some d), Value.int IntKind.u64 keep]) H R :=
  vc_call (annOf [([0, 1, 0, 1, 1], .cut [(4, .one (.int .i64)), (5, .one (.int .i64))]), ([0, 1, 0, 1, 0, 1, 0, 1, 0, 0, 1, 0, 0, 1, 0, 1, 1], .tail 10)]) followsAll Go.Proofs.Try.func30 rfl Go.Proofs.Try.ntmps30 rfl rfl (Eq.mpr (by kernel_rfl) h)

/- 32 (*strandline/strandlineref09.Disk).counted
  notes: []
  places: []
  slots: [0=d, 1=d] -/
abbrev fn_ref09_Disk_counted : Nat := 32
theorem vc_ref09_Disk_counted (d : Addr) (H : Heap) (R : Value → Heap → Prop)
  (h : ∃ n,
  Ld Try.prog (3 : Nat) H (Addr.add d (5 : Nat)) (Value.int IntKind.i64 n) ∧
    ∃ H',
      St Try.prog (3 : Nat) H (Addr.add d (5 : Nat)) (Value.int IntKind.i64 (IntKind.wrap IntKind.i64 (n + (1 : Int))))
          H' ∧
        ∃ n,
          Ld Try.prog (3 : Nat) H' (Addr.add d (3 : Nat)) (Value.int IntKind.i64 n) ∧
            brB (n == (0 : Int)) (R (Value.bool false) H')
              (∃ n,
                Ld Try.prog (3 : Nat) H' (Addr.add d (3 : Nat)) (Value.int IntKind.i64 n) ∧
                  ∃ H'_1,
                    St Try.prog (3 : Nat) H' (Addr.add d (3 : Nat))
                        (Value.int IntKind.i64 (IntKind.wrap IntKind.i64 (n - (1 : Int)))) H'_1 ∧
                      ∃ n,
                        Ld Try.prog (3 : Nat) H'_1 (Addr.add d (3 : Nat)) (Value.int IntKind.i64 n) ∧
                          brB (decide (n > (0 : Int))) (R (Value.bool false) H'_1)
                            (∃ n,
                              Ld Try.prog (22 : Nat) H'_1 (Addr.add d (4 : Nat)) (Value.int IntKind.u64 n) ∧
                                CallH Try.prog (30 : Nat)
                                  { toList := [Value.pointer (some d), Value.int IntKind.u64 n] } H'_1 fun v H' =>
                                  v = Value.tuple { toList := [] } ∧ R (Value.bool true) H'))) :
  CallH Try.prog 32 (List.toArray [Value.pointer (some d)]) H R :=
  vc_call (annOf []) followsAll Go.Proofs.Try.func32 rfl Go.Proofs.Try.ntmps32 rfl rfl (Eq.mpr (by kernel_rfl) h)
end Go.Proofs
