/- A part of a proof: see the last text of this claim. -/
import Derived.Test.YtmclknfhehoadaaGvCore
import Derived.Test.YtmclknfhehoadaaRows
set_option linter.unusedVariables false
set_option maxRecDepth 100000
open Go Go.GV
namespace Go.Proofs
theorem followsAll : Try.prog.follows .mixedOrders = true := by kernel_rfl

/- 3 strandline/strandlinelaw12.CoverNorms
  notes: []
  places: [[1, 1, 1, 1, 1], [1, 0, 0, 1, 0, 1, 1, 1, 1, 1, 1], [0, 0, 1, 0, 0, 1, 0, 1, 1, 1, 1, 1, 1]]
  slots: [0=l, 1=id, 2=t, 3=l, 4=id, 5=t, 7=n, 8=is, 9=one, 10=i] -/
abbrev fn_law12_CoverNorms : Nat := 3
theorem vc_law12_CoverNorms (l_a : Option Addr) (l_n : Nat) (l_c : Nat) (id : Int) (t : Int) (H : Heap) (R : Value → Heap → Prop)
  (h : brB (decide ((↑l_n : Int) > (100 : Int))) (R (Value.bool true) H)
  (CallH Try.prog (9 : Nat) { toList := [Value.slice l_a l_n l_c] } H fun v H' =>
    ∃ a n c,
      v = Value.slice a n c ∧
        CallH Try.prog (10 : Nat)
          { toList := [Value.slice l_a l_n l_c, Value.int IntKind.i64 id, Value.int IntKind.i64 t] } H' fun v H' =>
          ∃ b,
            v = Value.bool b ∧
              ∀ (b_1 : Nat) (H'_1 : Heap),
                New H' b_1
                    (Obj.cells
                      {
                        toList :=
                          [Value.int IntKind.i64 id, Value.int IntKind.i64 (1 : Int), Value.int IntKind.i64 (2 : Int)] }
                      (28 : Nat))
                    H'_1 →
                  ∃ (M : List Value → Heap → Prop),
                    (CallH Try.prog (12 : Nat) { toList := [Value.slice l_a l_n l_c] } H'_1 fun v H' =>
                        ∃ a_2 n_1 c_1,
                          v = Value.slice a_2 n_1 c_1 ∧
                            CallH Try.prog (11 : Nat) { toList := [Value.slice a n c, Value.slice a_2 n_1 c_1] } H'
                              fun v H' =>
                              ∃ b_2,
                                v = Value.bool b_2 ∧
                                  brB (!b_2) (R (Value.bool false) H')
                                    (CallH Try.prog (13 : Nat)
                                      {
                                        toList :=
                                          [Value.slice l_a l_n l_c, Value.int IntKind.i64 id, Value.int IntKind.i64 t] }
                                      H' fun v H' =>
                                      ∃ b_3,
                                        v = Value.bool b_3 ∧
                                          brB (!b == b_3) (R (Value.bool false) H')
                                            (CallH Try.prog (10 : Nat)
                                              {
                                                toList :=
                                                  [Value.slice a n c, Value.int IntKind.i64 id,
                                                    Value.int IntKind.i64 t] }
                                              H' fun v H' =>
                                              ∃ b_4,
                                                v = Value.bool b_4 ∧
                                                  brB (!b_4 == b) (R (Value.bool false) H') (M [] H')))) ∧
                      ∀ (J : F) (H' : Heap),
                        M [] H' →
                          ∃ (I : List Value → Heap → Prop) (μ : List Value → Heap → Nat),
                            I [Value.int IntKind.i64 (0 : Int)] H' ∧
                              ∀ (J : F) (n_1 : Int) (H' : Heap),
                                I [Value.int IntKind.i64 n_1] H' →
                                  brB (decide (n_1 < (↑n : Int)))
                                    (∃ (M : List Value → Heap → Prop),
                                      (∃ (M_1 : List Value → Heap → Prop),
                                          (exSome a fun ad =>
                                              chk (decide ((0 : Int) ≤ n_1 ∧ n_1 < (↑n : Int)))
                                                (∃ n_2,
                                                  Ld Try.prog (3 : Nat) H'
                                                      (Addr.add (Addr.add ad (Int.toNat n_1 * (3 : Nat))) (1 : Nat))
                                                      (Value.int IntKind.i64 n_2) ∧
                                                    exSome a fun ad =>
                                                      chk (decide ((0 : Int) ≤ n_1 ∧ n_1 < (↑n : Int)))
                                                        (∃ n_3,
                                                          Ld Try.prog (3 : Nat) H'
                                                              (Addr.add
                                                                (Addr.add (Addr.add ad (Int.toNat n_1 * (3 : Nat)))
                                                                  (1 : Nat))
                                                                (1 : Nat))
                                                              (Value.int IntKind.i64 n_3) ∧
                                                            brB (decide (n_2 ≥ n_3)) (M_1 [Value.bool true] H')
                                                              (brB (decide (n_1 > (0 : Int)))
                                                                (exSome a fun ad =>
                                                                  chk (decide ((0 : Int) ≤ n_1 ∧ n_1 < (↑n : Int)))
                                                                    (∃ n_4,
                                                                      Ld Try.prog (3 : Nat) H'
                                                                          (Addr.add ad (Int.toNat n_1 * (3 : Nat)))
                                                                          (Value.int IntKind.i64 n_4) ∧
                                                                        exSome a fun ad =>
                                                                          chk
                                                                            (decide
                                                                              ((0 : Int) ≤
                                                                                  IntKind.wrap IntKind.i64
                                                                                    (n_1 - (1 : Int)) ∧
                                                                                IntKind.wrap IntKind.i64
                                                                                    (n_1 - (1 : Int)) <
                                                                                  (↑n : Int)))
                                                                            (∃ n_5,
                                                                              Ld Try.prog (3 : Nat) H'
                                                                                  (Addr.add ad
                                                                                    (Int.toNat
                                                                                        (IntKind.wrap IntKind.i64
                                                                                          (n_1 - (1 : Int))) *
                                                                                      (3 : Nat)))
                                                                                  (Value.int IntKind.i64 n_5) ∧
                                                                                brB (decide (n_4 < n_5))
                                                                                  (M_1 [Value.bool true] H')
                                                                                  (exSome a fun ad =>
                                                                                    chk
                                                                                      (decide
                                                                                        ((0 : Int) ≤ n_1 ∧
                                                                                          n_1 < (↑n : Int)))
                                                                                      (∃ n_6,
                                                                                        Ld Try.prog (3 : Nat) H'
                                                                                            (Addr.add ad
                                                                                              (Int.toNat n_1 *
                                                                                                (3 : Nat)))
                                                                                            (Value.int IntKind.i64
                                                                                              n_6) ∧
                                                                                          exSome a fun ad =>
                                                                                            chk
                                                                                              (decide
                                                                                                ((0 : Int) ≤
                                                                                                    IntKind.wrap
                                                                                                      IntKind.i64
                                                                                                      (n_1 -
                                                                                                        (1 : Int)) ∧
                                                                                                  IntKind.wrap
                                                                                                      IntKind.i64
                                                                                                      (n_1 -
                                                                                                        (1 : Int)) <
                                                                                                    (↑n : Int)))
                                                                                              (∃ n_7,
                                                                                                Ld Try.prog (3 : Nat) H'
                                                                                                    (Addr.add ad
                                                                                                      (Int.toNat
                                                                                                          (IntKind.wrap
                                                                                                            IntKind.i64
                                                                                                            (n_1 -
                                                                                                              (1 :
                                                                                                                Int))) *
                                                                                                        (3 : Nat)))
                                                                                                    (Value.int
                                                                                                      IntKind.i64 n_7) ∧
                                                                                                  brB (n_6 == n_7)
                                                                                                    (exSome a fun ad =>
                                                                                                      chk
                                                                                                        (decide
                                                                                                          ((0 : Int) ≤
                                                                                                              n_1 ∧
                                                                                                            n_1 <
                                                                                                              (↑n :
                                                                                                                Int)))
                                                                                                        (∃ n_8,
                                                                                                          Ld Try.prog
                                                                                                              (3 : Nat)
                                                                                                              H'
                                                                                                              (Addr.add
                                                                                                                (Addr.add
                                                                                                                  ad
                                                                                                                  (Int.toNat
                                                                                                                      n_1 *
                                                                                                                    (3 :
                                                                                                                      Nat)))
                                                                                                                (1 :
                                                                                                                  Nat))
                                                                                                              (Value.int
                                                                                                                IntKind.i64
                                                                                                                n_8) ∧
                                                                                                            exSome a
                                                                                                              fun ad =>
                                                                                                              chk
                                                                                                                (decide
                                                                                                                  ((0 :
                                                                                                                        Int) ≤
                                                                                                                      IntKind.wrap
                                                                                                                        IntKind.i64
                                                                                                                        (n_1 -
                                                                                                                          (1 :
                                                                                                                            Int)) ∧
                                                                                                                    IntKind.wrap
                                                                                                                        IntKind.i64
                                                                                                                        (n_1 -
                                                                                                                          (1 :
                                                                                                                            Int)) <
                                                                                                                      (↑n :
                                                                                                                        Int)))
                                                                                                                (∃ n,
                                                                                                                  Ld
                                                                                                                      Try.prog
                                                                                                                      (3 :
                                                                                                                        Nat)
                                                                                                                      H'
                                                                                                                      (Addr.add
                                                                                                                        (Addr.add
                                                                                                                          (Addr.add
                                                                                                                            ad
                                                                                                                            (Int.toNat
                                                                                                                                (IntKind.wrap
                                                                                                                                  IntKind.i64
                                                                                                                                  (n_1 -
                                                                                                                                    (1 :
                                                                                                                                      Int))) *
                                                                                                                              (3 :
                                                                                                                                Nat)))
                                                                                                                          (1 :
                                                                                                                            Nat))
                                                                                                                        (1 :
                                                                                                                          Nat))
                                                                                                                      (Value.int
                                                                                                                        IntKind.i64
                                                                                                                        n) ∧
                                                                                                                    M_1
                                                                                                                      [Value.bool
                                                                                                                          (decide
                                                                                                                            (n_8 ≤
                                                                                                                              n))]
                                                                                                                      H')))
                                                                                                    (M_1
                                                                                                      [Value.bool false]
                                                                                                      H')))))))
                                                                (M_1 [Value.bool false] H'))))) ∧
                                            ∀ (J : F) (b : Bool) (H' : Heap),
                                              M_1 [Value.bool b] H' → brB b (R (Value.bool false) H') (M [] H')) ∧
                                        ∀ (J : F) (H'_2 : Heap),
                                          M [] H'_2 →
                                            I [Value.int IntKind.i64 (IntKind.wrap IntKind.i64 (n_1 + (1 : Int)))]
                                                H'_2 ∧
                                              μ [Value.int IntKind.i64 (IntKind.wrap IntKind.i64 (n_1 + (1 : Int)))]
                                                  H'_2 <
                                                μ [Value.int IntKind.i64 n_1] H')
                                    (CallH Try.prog (9 : Nat) { toList := [Value.slice a n c] } H' fun v H' =>
                                      ∃ a_4 n_2 c_1,
                                        v = Value.slice a_4 n_2 c_1 ∧
                                          CallH Try.prog (11 : Nat)
                                            { toList := [Value.slice a_4 n_2 c_1, Value.slice a n c] } H' fun v H' =>
                                            ∃ b,
                                              v = Value.bool b ∧
                                                brB b
                                                  (CallH Try.prog (10 : Nat)
                                                    {
                                                      toList :=
                                                        [Value.slice (some { block := b_1, off := (0 : Nat) }) (1 : Nat)
                                                            (1 : Nat),
                                                          Value.int IntKind.i64 id, Value.int IntKind.i64 (1 : Int)] }
                                                    H' fun v H' => ∃ b, v = Value.bool b ∧ R (Value.bool b) H')
                                                  (R (Value.bool false) H')))) :
  CallH Try.prog 3 (List.toArray [Value.slice l_a l_n l_c, Value.int IntKind.i64 id, Value.int IntKind.i64 t]) H R :=
  vc_call (annOf [([1, 1, 1, 1, 1], .cut []), ([0, 1, 0, 1, 1, 1, 1, 1, 1], .cut [(10, .one (.int .i64))]), ([1, 0, 0, 1, 0, 1, 1, 1, 1, 1, 1], .cut []), ([0, 0, 1, 0, 0, 1, 0, 1, 1, 1, 1, 1, 1], .cut [(111, .one .bool)])]) followsAll Go.Proofs.Try.func3 rfl Go.Proofs.Try.ntmps3 rfl rfl (Eq.mpr (by kernel_rfl) h)

/- 4 strandline/strandlinelaw12.CoverTurned
  notes: []
  places: [[1]]
  slots: [0=l, 1=by, 2=l, 3=by, 5=k, 6=m, 7=one] -/
abbrev fn_law12_CoverTurned : Nat := 4
theorem vc_law12_CoverTurned (l_a : Option Addr) (l_n : Nat) (l_c : Nat) (by' : Int) (H : Heap) (R : Value → Heap → Prop)
  (h : ∃ (M : List Value → Heap → Prop),
  brB (decide ((↑l_n : Int) > (100 : Int)))
      (CallH Try.prog (9 : Nat) { toList := [Value.slice none (0 : Nat) (0 : Nat)] } H fun v H' =>
        ∃ a n c, v = Value.slice a n c ∧ R (Value.bool ((↑n : Int) == (0 : Int))) H')
      (brB ((↑l_n : Int) == (0 : Int))
        (CallH Try.prog (9 : Nat) { toList := [Value.slice none (0 : Nat) (0 : Nat)] } H fun v H' =>
          ∃ a n c, v = Value.slice a n c ∧ R (Value.bool ((↑n : Int) == (0 : Int))) H')
        (M [] H)) ∧
    ∀ (J : F) (H' : Heap),
      M [] H' →
        chk (decide ((↑l_n : Int) ≠ (0 : Int)))
          (∀ (b : Nat) (H'_1 : Heap),
            New H' b (Obj.cells { toList := [] } (28 : Nat)) H'_1 →
              chk
                (decide
                  ((0 : Int) ≤ Int.tmod (IntKind.wrap IntKind.i64 by') (↑l_n : Int) ∧
                    Int.tmod (IntKind.wrap IntKind.i64 by') (↑l_n : Int) ≤ (↑l_n : Int) ∧ (↑l_n : Int) ≤ (↑l_c : Int)))
                (SemWp Try.prog
                  (Builtin.append_ { toList := [(22 : Nat), (22 : Nat)] } (22 : Nat)
                    {
                      toList :=
                        [Value.slice (some { block := b, off := (0 : Nat) }) (0 : Nat) (0 : Nat),
                          Value.slice
                            (slA l_c (Int.toNat (Int.tmod (IntKind.wrap IntKind.i64 by') (↑l_n : Int))) (3 : Nat) l_a)
                            (Int.toNat (↑l_n : Int) - Int.toNat (Int.tmod (IntKind.wrap IntKind.i64 by') (↑l_n : Int)))
                            (l_c - Int.toNat (Int.tmod (IntKind.wrap IntKind.i64 by') (↑l_n : Int)))] })
                  H'_1 fun v H' =>
                  ∃ a n c,
                    v = Value.slice a n c ∧
                      chk
                        (decide
                          ((0 : Int) ≤ (0 : Int) ∧
                            (0 : Int) ≤ Int.tmod (IntKind.wrap IntKind.i64 by') (↑l_n : Int) ∧
                              Int.tmod (IntKind.wrap IntKind.i64 by') (↑l_n : Int) ≤ (↑l_c : Int)))
                        (SemWp Try.prog
                          (Builtin.append_ { toList := [(22 : Nat), (22 : Nat)] } (22 : Nat)
                            {
                              toList :=
                                [Value.slice a n c,
                                  Value.slice l_a
                                    (Int.toNat (Int.tmod (IntKind.wrap IntKind.i64 by') (↑l_n : Int)) - (0 : Nat))
                                    (l_c - (0 : Nat))] })
                          H' fun v H' =>
                          ∃ a n c,
                            v = Value.slice a n c ∧
                              exSome l_a fun ad =>
                                chk
                                  (decide
                                    ((0 : Int) ≤ Int.tmod (IntKind.wrap IntKind.i64 by') (↑l_n : Int) ∧
                                      Int.tmod (IntKind.wrap IntKind.i64 by') (↑l_n : Int) < (↑l_n : Int)))
                                  (∃ n_1 n_2 n_3,
                                    Ld Try.prog (28 : Nat) H'
                                        (Addr.add ad
                                          (Int.toNat (Int.tmod (IntKind.wrap IntKind.i64 by') (↑l_n : Int)) *
                                            (3 : Nat)))
                                        (Value.agg
                                          {
                                            toList :=
                                              [Value.int IntKind.i64 n_1, Value.int IntKind.i64 n_2,
                                                Value.int IntKind.i64 n_3] }) ∧
                                      ∀ (b : Nat) (H'_2 : Heap),
                                        New H' b
                                            (Obj.cells
                                              {
                                                toList :=
                                                  [Value.int IntKind.i64 n_1, Value.int IntKind.i64 n_2,
                                                    Value.int IntKind.i64 n_3] }
                                              (28 : Nat))
                                            H'_2 →
                                          SemWp Try.prog
                                            (Builtin.append_ { toList := [(22 : Nat), (22 : Nat)] } (22 : Nat)
                                              {
                                                toList :=
                                                  [Value.slice a n c,
                                                    Value.slice (some { block := b, off := (0 : Nat) }) (1 : Nat)
                                                      (1 : Nat)] })
                                            H'_2 fun v H' =>
                                            ∃ a n c,
                                              v = Value.slice a n c ∧
                                                ∀ (b : Nat) (H'_3 : Heap),
                                                  New H' b
                                                      (Obj.cells
                                                        {
                                                          toList :=
                                                            [Value.int IntKind.i64 (3 : Int),
                                                              Value.int IntKind.i64 (1 : Int),
                                                              Value.int IntKind.i64 (2 : Int)] }
                                                        (28 : Nat))
                                                      H'_3 →
                                                    CallH Try.prog (9 : Nat) { toList := [Value.slice a n c] } H'_3
                                                      fun v H' =>
                                                      ∃ a n c,
                                                        v = Value.slice a n c ∧
                                                          CallH Try.prog (9 : Nat)
                                                            { toList := [Value.slice l_a l_n l_c] } H' fun v H' =>
                                                            ∃ a_3 n_4 c_1,
                                                              v = Value.slice a_3 n_4 c_1 ∧
                                                                CallH Try.prog (11 : Nat)
                                                                  {
                                                                    toList :=
                                                                      [Value.slice a n c, Value.slice a_3 n_4 c_1] }
                                                                  H' fun v H' =>
                                                                  ∃ b_1,
                                                                    v = Value.bool b_1 ∧
                                                                      brB b_1
                                                                        (CallH Try.prog (9 : Nat)
                                                                          { toList := [Value.slice l_a l_n l_c] } H'
                                                                          fun v H' =>
                                                                          ∃ a n c,
                                                                            v = Value.slice a n c ∧
                                                                              CallH Try.prog (12 : Nat)
                                                                                { toList := [Value.slice l_a l_n l_c] }
                                                                                H' fun v H' =>
                                                                                ∃ a_4 n_5 c_2,
                                                                                  v = Value.slice a_4 n_5 c_2 ∧
                                                                                    CallH Try.prog (11 : Nat)
                                                                                      {
                                                                                        toList :=
                                                                                          [Value.slice a n c,
                                                                                            Value.slice a_4 n_5 c_2] }
                                                                                      H' fun v H' =>
                                                                                      ∃ b_2,
                                                                                        v = Value.bool b_2 ∧
                                                                                          brB b_2
                                                                                            (CallH Try.prog (10 : Nat)
                                                                                              {
                                                                                                toList :=
                                                                                                  [Value.slice
                                                                                                      (some
                                                                                                        { block := b,
                                                                                                          off :=
                                                                                                            (0 : Nat) })
                                                                                                      (1 : Nat)
                                                                                                      (1 : Nat),
                                                                                                    Value.int
                                                                                                      IntKind.i64
                                                                                                      (3 : Int),
                                                                                                    Value.int
                                                                                                      IntKind.i64
                                                                                                      (1 : Int)] }
                                                                                              H' fun v H' =>
                                                                                              ∃ b,
                                                                                                v = Value.bool b ∧
                                                                                                  R (Value.bool b) H')
                                                                                            (R (Value.bool false) H'))
                                                                        (R (Value.bool false) H')))))) :
  CallH Try.prog 4 (List.toArray [Value.slice l_a l_n l_c, Value.int IntKind.u8 by']) H R :=
  vc_call (annOf [([1], .cut [])]) followsAll Go.Proofs.Try.func4 rfl Go.Proofs.Try.ntmps4 rfl rfl (Eq.mpr (by kernel_rfl) h)

/- 5 strandline/strandlinelaw12.CoverParts
  notes: []
  places: [[1, 1, 1, 1], [1, 1, 1, 1, 1]]
  slots: [0=l, 1=r, 2=id, 3=t, 4=l, 5=r, 6=id, 7=t, 9=a, 10=b, 11=in, 12=is, 13=both, 14=one] -/
abbrev fn_law12_CoverParts : Nat := 5
theorem vc_law12_CoverParts (l_a : Option Addr) (l_n : Nat) (l_c : Nat) (r_0 : Int) (r_1 : Int) (id : Int) (t : Int) (H : Heap) (R : Value → Heap → Prop)
  (h : ∀ (b : Nat) (H' : Heap),
  New H b (Obj.cells { toList := [Value.int IntKind.i64 r_0, Value.int IntKind.i64 r_1] } (26 : Nat)) H' →
    brB (decide ((↑l_n : Int) > (100 : Int))) (R (Value.bool true) H')
      (∃ n n_1,
        Ld Try.prog (26 : Nat) H' { block := b, off := (0 : Nat) }
            (Value.agg { toList := [Value.int IntKind.i64 n, Value.int IntKind.i64 n_1] }) ∧
          CallH Try.prog (14 : Nat)
            {
              toList :=
                [Value.slice l_a l_n l_c,
                  Value.agg { toList := [Value.int IntKind.i64 n, Value.int IntKind.i64 n_1] }] }
            H' fun v H' =>
            ∃ a n c,
              v = Value.slice a n c ∧
                ∃ n_2 n_3,
                  Ld Try.prog (26 : Nat) H' { block := b, off := (0 : Nat) }
                      (Value.agg { toList := [Value.int IntKind.i64 n_2, Value.int IntKind.i64 n_3] }) ∧
                    CallH Try.prog (15 : Nat)
                      {
                        toList :=
                          [Value.slice l_a l_n l_c,
                            Value.agg { toList := [Value.int IntKind.i64 n_2, Value.int IntKind.i64 n_3] }] }
                      H' fun v H' =>
                      ∃ a_1 n_4 c_1,
                        v = Value.slice a_1 n_4 c_1 ∧
                          ∃ (M : List Value → Heap → Prop),
                            (∃ n_5 n_6,
                                Ld Try.prog (26 : Nat) H' { block := b, off := (0 : Nat) }
                                    (Value.agg { toList := [Value.int IntKind.i64 n_5, Value.int IntKind.i64 n_6] }) ∧
                                  CallH Try.prog (16 : Nat)
                                    {
                                      toList :=
                                        [Value.slice l_a l_n l_c,
                                          Value.agg
                                            { toList := [Value.int IntKind.i64 n_5, Value.int IntKind.i64 n_6] }] }
                                    H' fun v H' =>
                                    ∃ a_2 n_7 c_2,
                                      v = Value.slice a_2 n_7 c_2 ∧
                                        CallH Try.prog (11 : Nat)
                                          { toList := [Value.slice a n c, Value.slice a_2 n_7 c_2] } H' fun v H' =>
                                          ∃ b_1,
                                            v = Value.bool b_1 ∧
                                              brB (!b_1) (R (Value.bool false) H')
                                                (∃ n n_8,
                                                  Ld Try.prog (26 : Nat) H' { block := b, off := (0 : Nat) }
                                                      (Value.agg
                                                        {
                                                          toList :=
                                                            [Value.int IntKind.i64 n, Value.int IntKind.i64 n_8] }) ∧
                                                    CallH Try.prog (17 : Nat)
                                                      {
                                                        toList :=
                                                          [Value.slice l_a l_n l_c,
                                                            Value.agg
                                                              {
                                                                toList :=
                                                                  [Value.int IntKind.i64 n,
                                                                    Value.int IntKind.i64 n_8] }] }
                                                      H' fun v H' =>
                                                      ∃ a n c,
                                                        v = Value.slice a n c ∧
                                                          CallH Try.prog (11 : Nat)
                                                            { toList := [Value.slice a_1 n_4 c_1, Value.slice a n c] }
                                                            H' fun v H' =>
                                                            ∃ b,
                                                              v = Value.bool b ∧
                                                                brB (!b) (R (Value.bool false) H') (M [] H'))) ∧
                              ∀ (J : F) (H' : Heap),
                                M [] H' →
                                  ∃ (M : List Value → Heap → Prop),
                                    (∃ n,
                                        Ld Try.prog (3 : Nat) H' { block := b, off := (0 : Nat) }
                                            (Value.int IntKind.i64 n) ∧
                                          brB (decide (n ≤ t))
                                            (∃ n,
                                              Ld Try.prog (3 : Nat) H' { block := b, off := (1 : Nat) }
                                                  (Value.int IntKind.i64 n) ∧
                                                M [Value.bool (decide (t < n))] H')
                                            (M [Value.bool false] H')) ∧
                                      ∀ (J : F) (b : Bool) (H' : Heap),
                                        M [Value.bool b] H' →
                                          CallH Try.prog (10 : Nat)
                                            {
                                              toList :=
                                                [Value.slice l_a l_n l_c, Value.int IntKind.i64 id,
                                                  Value.int IntKind.i64 t] }
                                            H' fun v H' =>
                                            ∃ b_1,
                                              v = Value.bool b_1 ∧
                                                ∀ (b_2 : Nat) (H'_1 : Heap),
                                                  New H' b_2 (Obj.cells { toList := [] } (28 : Nat)) H'_1 →
                                                    SemWp Try.prog
                                                      (Builtin.append_ { toList := [(22 : Nat), (22 : Nat)] } (22 : Nat)
                                                        {
                                                          toList :=
                                                            [Value.slice (some { block := b_2, off := (0 : Nat) })
                                                                (0 : Nat) (0 : Nat),
                                                              Value.slice a n c] })
                                                      H'_1 fun v H' =>
                                                      ∃ a_5 n_5 c_2,
                                                        v = Value.slice a_5 n_5 c_2 ∧
                                                          SemWp Try.prog
                                                            (Builtin.append_ { toList := [(22 : Nat), (22 : Nat)] }
                                                              (22 : Nat)
                                                              {
                                                                toList :=
                                                                  [Value.slice a_5 n_5 c_2, Value.slice a_1 n_4 c_1] })
                                                            H' fun v H' =>
                                                            ∃ a_6 n_6 c_3,
                                                              v = Value.slice a_6 n_6 c_3 ∧
                                                                ∀ (b_3 : Nat) (H'_2 : Heap),
                                                                  New H' b_3
                                                                      (Obj.cells
                                                                        {
                                                                          toList :=
                                                                            [Value.int IntKind.i64 id,
                                                                              Value.int IntKind.i64 (1 : Int),
                                                                              Value.int IntKind.i64 (2 : Int)] }
                                                                        (28 : Nat))
                                                                      H'_2 →
                                                                    CallH Try.prog (10 : Nat)
                                                                      {
                                                                        toList :=
                                                                          [Value.slice a n c, Value.int IntKind.i64 id,
                                                                            Value.int IntKind.i64 t] }
                                                                      H'_2 fun v H' =>
                                                                      ∃ b_4,
                                                                        v = Value.bool b_4 ∧
                                                                          brB b_1
                                                                            (brB (b_4 == b)
                                                                              (CallH Try.prog (10 : Nat)
                                                                                {
                                                                                  toList :=
                                                                                    [Value.slice a_1 n_4 c_1,
                                                                                      Value.int IntKind.i64 id,
                                                                                      Value.int IntKind.i64 t] }
                                                                                H' fun v H' =>
                                                                                ∃ b_5,
                                                                                  v = Value.bool b_5 ∧
                                                                                    brB b_1
                                                                                      (brB (b_5 == !b)
                                                                                        (CallH Try.prog (9 : Nat)
                                                                                          {
                                                                                            toList :=
                                                                                              [Value.slice a_6 n_6
                                                                                                  c_3] }
                                                                                          H' fun v H' =>
                                                                                          ∃ a n c,
                                                                                            v = Value.slice a n c ∧
                                                                                              CallH Try.prog (9 : Nat)
                                                                                                {
                                                                                                  toList :=
                                                                                                    [Value.slice l_a l_n
                                                                                                        l_c] }
                                                                                                H' fun v H' =>
                                                                                                ∃ a_8 n_7 c_4,
                                                                                                  v =
                                                                                                      Value.slice a_8
                                                                                                        n_7 c_4 ∧
                                                                                                    CallH Try.prog
                                                                                                      (11 : Nat)
                                                                                                      {
                                                                                                        toList :=
                                                                                                          [Value.slice a
                                                                                                              n c,
                                                                                                            Value.slice
                                                                                                              a_8 n_7
                                                                                                              c_4] }
                                                                                                      H' fun v H' =>
                                                                                                      ∃ b,
                                                                                                        v =
                                                                                                            Value.bool
                                                                                                              b ∧
                                                                                                          brB b
                                                                                                            (CallH
                                                                                                              Try.prog
                                                                                                              (10 : Nat)
                                                                                                              {
                                                                                                                toList :=
                                                                                                                  [Value.slice
                                                                                                                      (some
                                                                                                                        {
                                                                                                                          block :=
                                                                                                                            b_3,
                                                                                                                          off :=
                                                                                                                            (0 :
                                                                                                                              Nat) })
                                                                                                                      (1 :
                                                                                                                        Nat)
                                                                                                                      (1 :
                                                                                                                        Nat),
                                                                                                                    Value.int
                                                                                                                      IntKind.i64
                                                                                                                      id,
                                                                                                                    Value.int
                                                                                                                      IntKind.i64
                                                                                                                      (1 :
                                                                                                                        Int)] }
                                                                                                              H'
                                                                                                              fun v
                                                                                                                H' =>
                                                                                                              ∃ b,
                                                                                                                v =
                                                                                                                    Value.bool
                                                                                                                      b ∧
                                                                                                                  R
                                                                                                                    (Value.bool
                                                                                                                      b)
                                                                                                                    H')
                                                                                                            (R
                                                                                                              (Value.bool
                                                                                                                false)
                                                                                                              H'))
                                                                                        (R (Value.bool false) H'))
                                                                                      (brB (b_5 == false)
                                                                                        (CallH Try.prog (9 : Nat)
                                                                                          {
                                                                                            toList :=
                                                                                              [Value.slice a_6 n_6
                                                                                                  c_3] }
                                                                                          H' fun v H' =>
                                                                                          ∃ a n c,
                                                                                            v = Value.slice a n c ∧
                                                                                              CallH Try.prog (9 : Nat)
                                                                                                {
                                                                                                  toList :=
                                                                                                    [Value.slice l_a l_n
                                                                                                        l_c] }
                                                                                                H' fun v H' =>
                                                                                                ∃ a_8 n_7 c_4,
                                                                                                  v =
                                                                                                      Value.slice a_8
                                                                                                        n_7 c_4 ∧
                                                                                                    CallH Try.prog
                                                                                                      (11 : Nat)
                                                                                                      {
                                                                                                        toList :=
                                                                                                          [Value.slice a
                                                                                                              n c,
                                                                                                            Value.slice
                                                                                                              a_8 n_7
                                                                                                              c_4] }
                                                                                                      H' fun v H' =>
                                                                                                      ∃ b,
                                                                                                        v =
                                                                                                            Value.bool
                                                                                                              b ∧
                                                                                                          brB b
                                                                                                            (CallH
                                                                                                              Try.prog
                                                                                                              (10 : Nat)
                                                                                                              {
                                                                                                                toList :=
                                                                                                                  [Value.slice
                                                                                                                      (some
                                                                                                                        {
                                                                                                                          block :=
                                                                                                                            b_3,
                                                                                                                          off :=
                                                                                                                            (0 :
                                                                                                                              Nat) })
                                                                                                                      (1 :
                                                                                                                        Nat)
                                                                                                                      (1 :
                                                                                                                        Nat),
                                                                                                                    Value.int
                                                                                                                      IntKind.i64
                                                                                                                      id,
                                                                                                                    Value.int
                                                                                                                      IntKind.i64
                                                                                                                      (1 :
                                                                                                                        Int)] }
                                                                                                              H'
                                                                                                              fun v
                                                                                                                H' =>
                                                                                                              ∃ b,
                                                                                                                v =
                                                                                                                    Value.bool
                                                                                                                      b ∧
                                                                                                                  R
                                                                                                                    (Value.bool
                                                                                                                      b)
                                                                                                                    H')
                                                                                                            (R
                                                                                                              (Value.bool
                                                                                                                false)
                                                                                                              H'))
                                                                                        (R (Value.bool false) H')))
                                                                              (R (Value.bool false) H'))
                                                                            (brB (b_4 == false)
                                                                              (CallH Try.prog (10 : Nat)
                                                                                {
                                                                                  toList :=
                                                                                    [Value.slice a_1 n_4 c_1,
                                                                                      Value.int IntKind.i64 id,
                                                                                      Value.int IntKind.i64 t] }
                                                                                H' fun v H' =>
                                                                                ∃ b_5,
                                                                                  v = Value.bool b_5 ∧
                                                                                    brB b_1
                                                                                      (brB (b_5 == !b)
                                                                                        (CallH Try.prog (9 : Nat)
                                                                                          {
                                                                                            toList :=
                                                                                              [Value.slice a_6 n_6
                                                                                                  c_3] }
                                                                                          H' fun v H' =>
                                                                                          ∃ a n c,
                                                                                            v = Value.slice a n c ∧
                                                                                              CallH Try.prog (9 : Nat)
                                                                                                {
                                                                                                  toList :=
                                                                                                    [Value.slice l_a l_n
                                                                                                        l_c] }
                                                                                                H' fun v H' =>
                                                                                                ∃ a_8 n_7 c_4,
                                                                                                  v =
                                                                                                      Value.slice a_8
                                                                                                        n_7 c_4 ∧
                                                                                                    CallH Try.prog
                                                                                                      (11 : Nat)
                                                                                                      {
                                                                                                        toList :=
                                                                                                          [Value.slice a
                                                                                                              n c,
                                                                                                            Value.slice
                                                                                                              a_8 n_7
                                                                                                              c_4] }
                                                                                                      H' fun v H' =>
                                                                                                      ∃ b,
                                                                                                        v =
                                                                                                            Value.bool
                                                                                                              b ∧
                                                                                                          brB b
                                                                                                            (CallH
                                                                                                              Try.prog
                                                                                                              (10 : Nat)
                                                                                                              {
                                                                                                                toList :=
                                                                                                                  [Value.slice
                                                                                                                      (some
                                                                                                                        {
                                                                                                                          block :=
                                                                                                                            b_3,
                                                                                                                          off :=
                                                                                                                            (0 :
                                                                                                                              Nat) })
                                                                                                                      (1 :
                                                                                                                        Nat)
                                                                                                                      (1 :
                                                                                                                        Nat),
                                                                                                                    Value.int
                                                                                                                      IntKind.i64
                                                                                                                      id,
                                                                                                                    Value.int
                                                                                                                      IntKind.i64
                                                                                                                      (1 :
                                                                                                                        Int)] }
                                                                                                              H'
                                                                                                              fun v
                                                                                                                H' =>
                                                                                                              ∃ b,
                                                                                                                v =
                                                                                                                    Value.bool
                                                                                                                      b ∧
                                                                                                                  R
                                                                                                                    (Value.bool
                                                                                                                      b)
                                                                                                                    H')
                                                                                                            (R
                                                                                                              (Value.bool
                                                                                                                false)
                                                                                                              H'))
                                                                                        (R (Value.bool false) H'))
                                                                                      (brB (b_5 == false)
                                                                                        (CallH Try.prog (9 : Nat)
                                                                                          {
                                                                                            toList :=
                                                                                              [Value.slice a_6 n_6
                                                                                                  c_3] }
                                                                                          H' fun v H' =>
                                                                                          ∃ a n c,
                                                                                            v = Value.slice a n c ∧
                                                                                              CallH Try.prog (9 : Nat)
                                                                                                {
                                                                                                  toList :=
                                                                                                    [Value.slice l_a l_n
                                                                                                        l_c] }
                                                                                                H' fun v H' =>
                                                                                                ∃ a_8 n_7 c_4,
                                                                                                  v =
                                                                                                      Value.slice a_8
                                                                                                        n_7 c_4 ∧
                                                                                                    CallH Try.prog
                                                                                                      (11 : Nat)
                                                                                                      {
                                                                                                        toList :=
                                                                                                          [Value.slice a
                                                                                                              n c,
                                                                                                            Value.slice
                                                                                                              a_8 n_7
                                                                                                              c_4] }
                                                                                                      H' fun v H' =>
                                                                                                      ∃ b,
                                                                                                        v =
                                                                                                            Value.bool
                                                                                                              b ∧
                                                                                                          brB b
                                                                                                            (CallH
                                                                                                              Try.prog
                                                                                                              (10 : Nat)
                                                                                                              {
                                                                                                                toList :=
                                                                                                                  [Value.slice
                                                                                                                      (some
                                                                                                                        {
                                                                                                                          block :=
                                                                                                                            b_3,
                                                                                                                          off :=
                                                                                                                            (0 :
                                                                                                                              Nat) })
                                                                                                                      (1 :
                                                                                                                        Nat)
                                                                                                                      (1 :
                                                                                                                        Nat),
                                                                                                                    Value.int
                                                                                                                      IntKind.i64
                                                                                                                      id,
                                                                                                                    Value.int
                                                                                                                      IntKind.i64
                                                                                                                      (1 :
                                                                                                                        Int)] }
                                                                                                              H'
                                                                                                              fun v
                                                                                                                H' =>
                                                                                                              ∃ b,
                                                                                                                v =
                                                                                                                    Value.bool
                                                                                                                      b ∧
                                                                                                                  R
                                                                                                                    (Value.bool
                                                                                                                      b)
                                                                                                                    H')
                                                                                                            (R
                                                                                                              (Value.bool
                                                                                                                false)
                                                                                                              H'))
                                                                                        (R (Value.bool false) H')))
                                                                              (R (Value.bool false) H')))) :
  CallH Try.prog 5 (List.toArray [Value.slice l_a l_n l_c, Value.agg #[Value.int IntKind.i64 r_0, Value.int IntKind.i64 r_1], Value.int IntKind.i64 id,
  Value.int IntKind.i64 t]) H R :=
  vc_call (annOf [([1, 1, 1, 1], .cut []), ([1, 1, 1, 1, 1], .cut [(11, .one .bool)])]) followsAll Go.Proofs.Try.func5 rfl Go.Proofs.Try.ntmps5 rfl rfl (Eq.mpr (by kernel_rfl) h)

/- 6 strandline/strandlinelaw12.CoverLeft
  notes: []
  places: [[1], [1, 0, 0, 1, 0, 1, 1, 1, 1]]
  slots: [0=l, 1=id, 2=s, 3=l, 4=id, 5=s, 7=a, 8=k, 9=i, 10=one] -/
abbrev fn_law12_CoverLeft : Nat := 6
theorem vc_law12_CoverLeft (l_a : Option Addr) (l_n : Nat) (l_c : Nat) (id : Int) (s_a : Option Addr) (s_n : Nat) (s_c : Nat) (H : Heap) (R : Value → Heap → Prop)
  (h : ∃ (M : List Value → Heap → Prop),
  brB (decide ((↑l_n : Int) > (100 : Int))) (R (Value.bool true) H)
      (brB (decide ((↑s_n : Int) > (100 : Int))) (R (Value.bool true) H) (M [] H)) ∧
    ∀ (J : F) (H' : Heap),
      M [] H' →
        CallH Try.prog (18 : Nat)
          { toList := [Value.slice l_a l_n l_c, Value.int IntKind.i64 id, Value.slice s_a s_n s_c] } H' fun v H' =>
          ∃ a n c,
            v = Value.slice a n c ∧
              ∃ (I : List Value → Heap → Prop) (μ : List Value → Heap → Nat),
                I [Value.int IntKind.i64 (0 : Int), Value.int IntKind.i64 (0 : Int)] H' ∧
                  ∀ (J : F) (n_1 n_2 : Int) (H' : Heap),
                    I [Value.int IntKind.i64 n_1, Value.int IntKind.i64 n_2] H' →
                      brB (decide (n_2 < (↑s_n : Int)))
                        (∃ (M : List Value → Heap → Prop),
                          (exSome s_a fun ad =>
                              chk (decide ((0 : Int) ≤ n_2 ∧ n_2 < (↑s_n : Int)))
                                (∃ n_3,
                                  Ld Try.prog (3 : Nat) H' (Addr.add ad (Int.toNat n_2 * (2 : Nat)))
                                      (Value.int IntKind.i64 n_3) ∧
                                    CallH Try.prog (10 : Nat)
                                      {
                                        toList :=
                                          [Value.slice l_a l_n l_c, Value.int IntKind.i64 id,
                                            Value.int IntKind.i64 n_3] }
                                      H' fun v H' =>
                                      ∃ b,
                                        v = Value.bool b ∧
                                          brB (!b)
                                            (brB (decide (n_1 ≥ (↑n : Int))) (R (Value.bool false) H')
                                              (exSome a fun ad =>
                                                chk (decide ((0 : Int) ≤ n_1 ∧ n_1 < (↑n : Int)))
                                                  (∃ n n_4,
                                                    Ld Try.prog (36 : Nat) H' (Addr.add ad (Int.toNat n_1 * (2 : Nat)))
                                                        (Value.agg
                                                          {
                                                            toList :=
                                                              [Value.int IntKind.i64 n, Value.int IntKind.i64 n_4] }) ∧
                                                      exSome s_a fun ad =>
                                                        chk (decide ((0 : Int) ≤ n_2 ∧ n_2 < (↑s_n : Int)))
                                                          (∃ n_5 n_6,
                                                            Ld Try.prog (36 : Nat) H'
                                                                (Addr.add ad (Int.toNat n_2 * (2 : Nat)))
                                                                (Value.agg
                                                                  {
                                                                    toList :=
                                                                      [Value.int IntKind.i64 n_5,
                                                                        Value.int IntKind.i64 n_6] }) ∧
                                                              brB (!(n == n_5 && (n_4 == n_6 && true)))
                                                                (R (Value.bool false) H')
                                                                (M
                                                                  [Value.int IntKind.i64
                                                                      (IntKind.wrap IntKind.i64 (n_1 + (1 : Int)))]
                                                                  H')))))
                                            (M [Value.int IntKind.i64 n_1] H'))) ∧
                            ∀ (J : F) (n : Int) (H'_1 : Heap),
                              M [Value.int IntKind.i64 n] H'_1 →
                                I
                                    [Value.int IntKind.i64 n,
                                      Value.int IntKind.i64 (IntKind.wrap IntKind.i64 (n_2 + (1 : Int)))]
                                    H'_1 ∧
                                  μ
                                      [Value.int IntKind.i64 n,
                                        Value.int IntKind.i64 (IntKind.wrap IntKind.i64 (n_2 + (1 : Int)))]
                                      H'_1 <
                                    μ [Value.int IntKind.i64 n_1, Value.int IntKind.i64 n_2] H')
                        (∀ (b : Nat) (H'_1 : Heap),
                          New H' b
                              (Obj.cells
                                {
                                  toList :=
                                    [Value.int IntKind.i64 id, Value.int IntKind.i64 (1 : Int),
                                      Value.int IntKind.i64 (2 : Int)] }
                                (28 : Nat))
                              H'_1 →
                            brB (n_1 == (↑n : Int))
                              (CallH Try.prog (20 : Nat)
                                {
                                  toList :=
                                    [Value.slice l_a l_n l_c, Value.int IntKind.i64 id, Value.slice s_a s_n s_c] }
                                H'_1 fun v H' =>
                                ∃ a_3 n_3 c_1,
                                  v = Value.slice a_3 n_3 c_1 ∧
                                    CallH Try.prog (19 : Nat) { toList := [Value.slice a n c, Value.slice a_3 n_3 c_1] }
                                      H' fun v H' =>
                                      ∃ b_1,
                                        v = Value.bool b_1 ∧
                                          brB b_1
                                            (CallH Try.prog (10 : Nat)
                                              {
                                                toList :=
                                                  [Value.slice (some { block := b, off := (0 : Nat) }) (1 : Nat)
                                                      (1 : Nat),
                                                    Value.int IntKind.i64 id, Value.int IntKind.i64 (1 : Int)] }
                                              H' fun v H' => ∃ b, v = Value.bool b ∧ R (Value.bool b) H')
                                            (R (Value.bool false) H'))
                              (R (Value.bool false) H'_1))) :
  CallH Try.prog 6 (List.toArray [Value.slice l_a l_n l_c, Value.int IntKind.i64 id, Value.slice s_a s_n s_c]) H R :=
  vc_call (annOf [([1], .cut []), ([0, 1, 0, 1, 1, 1, 1], .cut [(8, .one (.int .i64)), (9, .one (.int .i64))]), ([1, 0, 0, 1, 0, 1, 1, 1, 1], .cut [(8, .one (.int .i64))])]) followsAll Go.Proofs.Try.func6 rfl Go.Proofs.Try.ntmps6 rfl rfl (Eq.mpr (by kernel_rfl) h)

/- 7 strandline/strandlinelaw12.CoverTwice
  notes: []
  places: [[1]]
  slots: [0=a, 1=b, 2=id, 3=s, 4=a, 5=b, 6=id, 7=s, 9=both, 10=one] -/
abbrev fn_law12_CoverTwice : Nat := 7
theorem vc_law12_CoverTwice (a_a : Option Addr) (a_n : Nat) (a_c : Nat) (b_a : Option Addr) (b_n : Nat) (b_c : Nat) (id : Int) (s_a : Option Addr) (s_n : Nat) (s_c : Nat) (H : Heap) (R : Value → Heap → Prop)
  (h : ∃ (M : List Value → Heap → Prop),
  brB (decide ((↑a_n : Int) > (60 : Int))) (R (Value.bool true) H)
      (brB (decide ((↑b_n : Int) > (60 : Int))) (R (Value.bool true) H)
        (brB (decide ((↑s_n : Int) > (100 : Int))) (R (Value.bool true) H) (M [] H))) ∧
    ∀ (J : F) (H' : Heap),
      M [] H' →
        ∀ (b : Nat) (H'_1 : Heap),
          New H' b (Obj.cells { toList := [] } (28 : Nat)) H'_1 →
            SemWp Try.prog
              (Builtin.append_ { toList := [(22 : Nat), (22 : Nat)] } (22 : Nat)
                {
                  toList :=
                    [Value.slice (some { block := b, off := (0 : Nat) }) (0 : Nat) (0 : Nat),
                      Value.slice a_a a_n a_c] })
              H'_1 fun v H' =>
              ∃ a n c,
                v = Value.slice a n c ∧
                  SemWp Try.prog
                    (Builtin.append_ { toList := [(22 : Nat), (22 : Nat)] } (22 : Nat)
                      { toList := [Value.slice a n c, Value.slice b_a b_n b_c] })
                    H' fun v H' =>
                    ∃ a n c,
                      v = Value.slice a n c ∧
                        ∀ (b : Nat) (H'_2 : Heap),
                          New H' b
                              (Obj.cells
                                {
                                  toList :=
                                    [Value.int IntKind.i64 id, Value.int IntKind.i64 (1 : Int),
                                      Value.int IntKind.i64 (2 : Int)] }
                                (28 : Nat))
                              H'_2 →
                            CallH Try.prog (18 : Nat)
                              { toList := [Value.slice a_a a_n a_c, Value.int IntKind.i64 id, Value.slice s_a s_n s_c] }
                              H'_2 fun v H' =>
                              ∃ a_2 n_1 c_1,
                                v = Value.slice a_2 n_1 c_1 ∧
                                  CallH Try.prog (18 : Nat)
                                    {
                                      toList :=
                                        [Value.slice b_a b_n b_c, Value.int IntKind.i64 id, Value.slice a_2 n_1 c_1] }
                                    H' fun v H' =>
                                    ∃ a_3 n_2 c_2,
                                      v = Value.slice a_3 n_2 c_2 ∧
                                        CallH Try.prog (18 : Nat)
                                          {
                                            toList :=
                                              [Value.slice a n c, Value.int IntKind.i64 id, Value.slice s_a s_n s_c] }
                                          H' fun v H' =>
                                          ∃ a_4 n_3 c_3,
                                            v = Value.slice a_4 n_3 c_3 ∧
                                              CallH Try.prog (19 : Nat)
                                                { toList := [Value.slice a_3 n_2 c_2, Value.slice a_4 n_3 c_3] } H'
                                                fun v H' =>
                                                ∃ b_1,
                                                  v = Value.bool b_1 ∧
                                                    brB b_1
                                                      (CallH Try.prog (18 : Nat)
                                                        {
                                                          toList :=
                                                            [Value.slice a n c, Value.int IntKind.i64 id,
                                                              Value.slice s_a s_n s_c] }
                                                        H' fun v H' =>
                                                        ∃ a_5 n_4 c_4,
                                                          v = Value.slice a_5 n_4 c_4 ∧
                                                            CallH Try.prog (20 : Nat)
                                                              {
                                                                toList :=
                                                                  [Value.slice a n c, Value.int IntKind.i64 id,
                                                                    Value.slice s_a s_n s_c] }
                                                              H' fun v H' =>
                                                              ∃ a n c,
                                                                v = Value.slice a n c ∧
                                                                  CallH Try.prog (19 : Nat)
                                                                    {
                                                                      toList :=
                                                                        [Value.slice a_5 n_4 c_4, Value.slice a n c] }
                                                                    H' fun v H' =>
                                                                    ∃ b_2,
                                                                      v = Value.bool b_2 ∧
                                                                        brB b_2
                                                                          (CallH Try.prog (10 : Nat)
                                                                            {
                                                                              toList :=
                                                                                [Value.slice
                                                                                    (some
                                                                                      { block := b, off := (0 : Nat) })
                                                                                    (1 : Nat) (1 : Nat),
                                                                                  Value.int IntKind.i64 id,
                                                                                  Value.int IntKind.i64 (1 : Int)] }
                                                                            H' fun v H' =>
                                                                            ∃ b,
                                                                              v = Value.bool b ∧
                                                                                brB b
                                                                                  (CallH Try.prog (18 : Nat)
                                                                                    {
                                                                                      toList :=
                                                                                        [Value.slice none (0 : Nat)
                                                                                            (0 : Nat),
                                                                                          Value.int IntKind.i64 id,
                                                                                          Value.slice s_a s_n s_c] }
                                                                                    H' fun v H' =>
                                                                                    ∃ a n c,
                                                                                      v = Value.slice a n c ∧
                                                                                        CallH Try.prog (19 : Nat)
                                                                                          {
                                                                                            toList :=
                                                                                              [Value.slice a n c,
                                                                                                Value.slice s_a s_n
                                                                                                  s_c] }
                                                                                          H' fun v H' =>
                                                                                          ∃ b,
                                                                                            v = Value.bool b ∧
                                                                                              R (Value.bool b) H')
                                                                                  (R (Value.bool false) H'))
                                                                          (R (Value.bool false) H'))
                                                      (R (Value.bool false) H')) :
  CallH Try.prog 7 (List.toArray [Value.slice a_a a_n a_c, Value.slice b_a b_n b_c, Value.int IntKind.i64 id, Value.slice s_a s_n s_c]) H R :=
  vc_call (annOf [([1], .cut [])]) followsAll Go.Proofs.Try.func7 rfl Go.Proofs.Try.ntmps7 rfl rfl (Eq.mpr (by kernel_rfl) h)

/- 8 strandline/strandlinelaw12.CoverOthers
  notes: []
  places: [[1]]
  slots: [0=l, 1=id, 2=t, 3=s, 4=l, 5=id, 6=t, 7=s, 9=own, 10=i, 11=one] -/
abbrev fn_law12_CoverOthers : Nat := 8
theorem vc_law12_CoverOthers (l_a : Option Addr) (l_n : Nat) (l_c : Nat) (id : Int) (t : Int) (s_a : Option Addr) (s_n : Nat) (s_c : Nat) (H : Heap) (R : Value → Heap → Prop)
  (h : ∃ (M : List Value → Heap → Prop),
  brB (decide ((↑l_n : Int) > (100 : Int))) (R (Value.bool true) H)
      (brB (decide ((↑s_n : Int) > (100 : Int))) (R (Value.bool true) H) (M [] H)) ∧
    ∀ (J : F) (H' : Heap),
      M [] H' →
        ∀ (b : Nat) (H'_1 : Heap),
          New H' b (Obj.cells { toList := [] } (28 : Nat)) H'_1 →
            ∃ (I : List Value → Heap → Prop) (μ : List Value → Heap → Nat),
              I
                  [Value.slice (some { block := b, off := (0 : Nat) }) (0 : Nat) (0 : Nat),
                    Value.int IntKind.i64 (0 : Int)]
                  H'_1 ∧
                ∀ (J : F) (a : Option Addr) (n c : Nat) (n_1 : Int) (H' : Heap),
                  I [Value.slice a n c, Value.int IntKind.i64 n_1] H' →
                    brB (decide (n_1 < (↑l_n : Int)))
                      (exSome l_a fun ad =>
                        chk (decide ((0 : Int) ≤ n_1 ∧ n_1 < (↑l_n : Int)))
                          (∃ n_2,
                            Ld Try.prog (3 : Nat) H' (Addr.add ad (Int.toNat n_1 * (3 : Nat)))
                                (Value.int IntKind.i64 n_2) ∧
                              brB (n_2 == id)
                                (exSome l_a fun ad =>
                                  chk (decide ((0 : Int) ≤ n_1 ∧ n_1 < (↑l_n : Int)))
                                    (∃ n_3 n_4 n_5,
                                      Ld Try.prog (28 : Nat) H' (Addr.add ad (Int.toNat n_1 * (3 : Nat)))
                                          (Value.agg
                                            {
                                              toList :=
                                                [Value.int IntKind.i64 n_3, Value.int IntKind.i64 n_4,
                                                  Value.int IntKind.i64 n_5] }) ∧
                                        ∀ (b : Nat) (H'_2 : Heap),
                                          New H' b
                                              (Obj.cells
                                                {
                                                  toList :=
                                                    [Value.int IntKind.i64 n_3, Value.int IntKind.i64 n_4,
                                                      Value.int IntKind.i64 n_5] }
                                                (28 : Nat))
                                              H'_2 →
                                            SemWp Try.prog
                                              (Builtin.append_ { toList := [(22 : Nat), (22 : Nat)] } (22 : Nat)
                                                {
                                                  toList :=
                                                    [Value.slice a n c,
                                                      Value.slice (some { block := b, off := (0 : Nat) }) (1 : Nat)
                                                        (1 : Nat)] })
                                              H'_2 fun v H'_3 =>
                                              ∃ a_3 n_6 c_1,
                                                v = Value.slice a_3 n_6 c_1 ∧
                                                  I
                                                      [Value.slice a_3 n_6 c_1,
                                                        Value.int IntKind.i64
                                                          (IntKind.wrap IntKind.i64 (n_1 + (1 : Int)))]
                                                      H'_3 ∧
                                                    μ
                                                        [Value.slice a_3 n_6 c_1,
                                                          Value.int IntKind.i64
                                                            (IntKind.wrap IntKind.i64 (n_1 + (1 : Int)))]
                                                        H'_3 <
                                                      μ [Value.slice a n c, Value.int IntKind.i64 n_1] H'))
                                (I
                                    [Value.slice a n c,
                                      Value.int IntKind.i64 (IntKind.wrap IntKind.i64 (n_1 + (1 : Int)))]
                                    H' ∧
                                  μ
                                      [Value.slice a n c,
                                        Value.int IntKind.i64 (IntKind.wrap IntKind.i64 (n_1 + (1 : Int)))]
                                      H' <
                                    μ [Value.slice a n c, Value.int IntKind.i64 n_1] H')))
                      (∀ (b : Nat) (H'_2 : Heap),
                        New H' b
                            (Obj.cells
                              {
                                toList :=
                                  [Value.int IntKind.i64 id, Value.int IntKind.i64 (1 : Int),
                                    Value.int IntKind.i64 (2 : Int)] }
                              (28 : Nat))
                            H'_2 →
                          CallH Try.prog (10 : Nat)
                            { toList := [Value.slice l_a l_n l_c, Value.int IntKind.i64 id, Value.int IntKind.i64 t] }
                            H'_2 fun v H' =>
                            ∃ b_1,
                              v = Value.bool b_1 ∧
                                CallH Try.prog (10 : Nat)
                                  { toList := [Value.slice a n c, Value.int IntKind.i64 id, Value.int IntKind.i64 t] }
                                  H' fun v H' =>
                                  ∃ b_2,
                                    v = Value.bool b_2 ∧
                                      brB (b_1 == b_2)
                                        (CallH Try.prog (18 : Nat)
                                          {
                                            toList :=
                                              [Value.slice l_a l_n l_c, Value.int IntKind.i64 id,
                                                Value.slice s_a s_n s_c] }
                                          H' fun v H' =>
                                          ∃ a_3 n_2 c_1,
                                            v = Value.slice a_3 n_2 c_1 ∧
                                              CallH Try.prog (18 : Nat)
                                                {
                                                  toList :=
                                                    [Value.slice a n c, Value.int IntKind.i64 id,
                                                      Value.slice s_a s_n s_c] }
                                                H' fun v H' =>
                                                ∃ a_4 n_3 c_2,
                                                  v = Value.slice a_4 n_3 c_2 ∧
                                                    CallH Try.prog (19 : Nat)
                                                      { toList := [Value.slice a_3 n_2 c_1, Value.slice a_4 n_3 c_2] }
                                                      H' fun v H' =>
                                                      ∃ b_3,
                                                        v = Value.bool b_3 ∧
                                                          brB b_3
                                                            (CallH Try.prog (18 : Nat)
                                                              {
                                                                toList :=
                                                                  [Value.slice a n c, Value.int IntKind.i64 id,
                                                                    Value.slice s_a s_n s_c] }
                                                              H' fun v H' =>
                                                              ∃ a_5 n_4 c_3,
                                                                v = Value.slice a_5 n_4 c_3 ∧
                                                                  CallH Try.prog (20 : Nat)
                                                                    {
                                                                      toList :=
                                                                        [Value.slice a n c, Value.int IntKind.i64 id,
                                                                          Value.slice s_a s_n s_c] }
                                                                    H' fun v H' =>
                                                                    ∃ a n c,
                                                                      v = Value.slice a n c ∧
                                                                        CallH Try.prog (19 : Nat)
                                                                          {
                                                                            toList :=
                                                                              [Value.slice a_5 n_4 c_3,
                                                                                Value.slice a n c] }
                                                                          H' fun v H' =>
                                                                          ∃ b_4,
                                                                            v = Value.bool b_4 ∧
                                                                              brB b_4
                                                                                (CallH Try.prog (10 : Nat)
                                                                                  {
                                                                                    toList :=
                                                                                      [Value.slice
                                                                                          (some
                                                                                            { block := b,
                                                                                              off := (0 : Nat) })
                                                                                          (1 : Nat) (1 : Nat),
                                                                                        Value.int IntKind.i64 id,
                                                                                        Value.int IntKind.i64
                                                                                          (1 : Int)] }
                                                                                  H' fun v H' =>
                                                                                  ∃ b,
                                                                                    v = Value.bool b ∧
                                                                                      R (Value.bool b) H')
                                                                                (R (Value.bool false) H'))
                                                            (R (Value.bool false) H'))
                                        (R (Value.bool false) H'))) :
  CallH Try.prog 8 (List.toArray [Value.slice l_a l_n l_c, Value.int IntKind.i64 id, Value.int IntKind.i64 t, Value.slice s_a s_n s_c]) H R :=
  vc_call (annOf [([1], .cut []), ([0, 1, 0, 1, 1, 1], .cut [(9, .one .slice), (10, .one (.int .i64))])]) followsAll Go.Proofs.Try.func8 rfl Go.Proofs.Try.ntmps8 rfl rfl (Eq.mpr (by kernel_rfl) h)

/- 9 strandline/cover.Norm
  notes: []
  places: [[1, 1, 0, 0, 1, 0, 1, 1, 1, 1], [1, 0, 0, 1, 1, 0, 0, 1, 0, 1, 1, 1, 1], [1, 0, 1, 0, 0, 1, 1, 0, 0, 1, 0, 1, 1, 1, 1]]
  slots: [0=l, 1=l, 3=out, 4=_, 5=x, 6=n] -/
abbrev fn_cover_Norm : Nat := 9
theorem vc_cover_Norm (l_a : Option Addr) (l_n : Nat) (l_c : Nat) (H : Heap) (R : Value → Heap → Prop)
  (h : CallH Try.prog (22 : Nat) { toList := [Value.slice l_a l_n l_c] } H fun v H' =>
  ∃ a n c,
    v = Value.slice a n c ∧
      CallH Try.prog (21 : Nat)
        { toList := [Value.slice a n c, Value.func (Fn.func (23 : Nat)) { toList := [] } { toList := [] }] } H'
        fun v H' =>
        ∃ a n c,
          v = Value.slice a n c ∧
            CallH Try.prog (24 : Nat)
              { toList := [Value.slice a n c, Value.func (Fn.func (25 : Nat)) { toList := [] } { toList := [] }] } H'
              fun v H' =>
              v = Value.tuple { toList := [] } ∧
                ∃ (I : List Value → Heap → Prop) (μ : List Value → Heap → Nat),
                  I [Value.slice none (0 : Nat) (0 : Nat), Value.int IntKind.i64 (0 : Int)] H' ∧
                    ∀ (J : F) (a_1 : Option Addr) (n_1 c : Nat) (n_2 : Int) (H' : Heap),
                      I [Value.slice a_1 n_1 c, Value.int IntKind.i64 n_2] H' →
                        brB (decide (n_2 < (↑n : Int)))
                          (∃ (M : List Value → Heap → Prop),
                            (exSome a fun ad =>
                                chk (decide ((0 : Int) ≤ n_2 ∧ n_2 < (↑n : Int)))
                                  (∃ n n_3 n_4,
                                    Ld Try.prog (28 : Nat) H' (Addr.add ad (Int.toNat n_2 * (3 : Nat)))
                                        (Value.agg
                                          {
                                            toList :=
                                              [Value.int IntKind.i64 n, Value.int IntKind.i64 n_3,
                                                Value.int IntKind.i64 n_4] }) ∧
                                      ∀ (b : Nat) (H'_1 : Heap),
                                        New H' b
                                            (Obj.cells
                                              {
                                                toList :=
                                                  [Value.int IntKind.i64 (0 : Int), Value.int IntKind.i64 (0 : Int),
                                                    Value.int IntKind.i64 (0 : Int)] }
                                              (28 : Nat))
                                            H'_1 →
                                          ∃ H',
                                            St Try.prog (28 : Nat) H'_1 { block := b, off := (0 : Nat) }
                                                (Value.agg
                                                  {
                                                    toList :=
                                                      [Value.int IntKind.i64 n, Value.int IntKind.i64 n_3,
                                                        Value.int IntKind.i64 n_4] })
                                                H' ∧
                                              ∃ (M_1 : List Value → Heap → Prop),
                                                (∃ (M_2 : List Value → Heap → Prop),
                                                    brB (decide ((↑n_1 : Int) > (0 : Int)))
                                                        (exSome a_1 fun ad =>
                                                          chk
                                                            (decide
                                                              ((0 : Int) ≤
                                                                  IntKind.wrap IntKind.i64 ((↑n_1 : Int) - (1 : Int)) ∧
                                                                IntKind.wrap IntKind.i64 ((↑n_1 : Int) - (1 : Int)) <
                                                                  (↑n_1 : Int)))
                                                            (∃ n,
                                                              Ld Try.prog (3 : Nat) H'
                                                                  (Addr.add ad
                                                                    (Int.toNat
                                                                        (IntKind.wrap IntKind.i64
                                                                          ((↑n_1 : Int) - (1 : Int))) *
                                                                      (3 : Nat)))
                                                                  (Value.int IntKind.i64 n) ∧
                                                                ∃ n_5,
                                                                  Ld Try.prog (3 : Nat) H'
                                                                      { block := b, off := (0 : Nat) }
                                                                      (Value.int IntKind.i64 n_5) ∧
                                                                    brB (n == n_5)
                                                                      (exSome a_1 fun ad =>
                                                                        chk
                                                                          (decide
                                                                            ((0 : Int) ≤
                                                                                IntKind.wrap IntKind.i64
                                                                                  ((↑n_1 : Int) - (1 : Int)) ∧
                                                                              IntKind.wrap IntKind.i64
                                                                                  ((↑n_1 : Int) - (1 : Int)) <
                                                                                (↑n_1 : Int)))
                                                                          (∃ n,
                                                                            Ld Try.prog (3 : Nat) H'
                                                                                (Addr.add
                                                                                  (Addr.add
                                                                                    (Addr.add ad
                                                                                      (Int.toNat
                                                                                          (IntKind.wrap IntKind.i64
                                                                                            ((↑n_1 : Int) -
                                                                                              (1 : Int))) *
                                                                                        (3 : Nat)))
                                                                                    (1 : Nat))
                                                                                  (1 : Nat))
                                                                                (Value.int IntKind.i64 n) ∧
                                                                              ∃ n_6,
                                                                                Ld Try.prog (3 : Nat) H'
                                                                                    { block := b, off := (1 : Nat) }
                                                                                    (Value.int IntKind.i64 n_6) ∧
                                                                                  M_2 [Value.bool (decide (n ≥ n_6))]
                                                                                    H'))
                                                                      (M_2 [Value.bool false] H')))
                                                        (M_2 [Value.bool false] H') ∧
                                                      ∀ (J : F) (b_1 : Bool) (H' : Heap),
                                                        M_2 [Value.bool b_1] H' →
                                                          brB b_1
                                                            (exSome a_1 fun ad =>
                                                              chk
                                                                (decide
                                                                  ((0 : Int) ≤
                                                                      IntKind.wrap IntKind.i64
                                                                        ((↑n_1 : Int) - (1 : Int)) ∧
                                                                    IntKind.wrap IntKind.i64
                                                                        ((↑n_1 : Int) - (1 : Int)) <
                                                                      (↑n_1 : Int)))
                                                                (∃ n,
                                                                  Ld Try.prog (3 : Nat) H'
                                                                      (Addr.add
                                                                        (Addr.add
                                                                          (Addr.add ad
                                                                            (Int.toNat
                                                                                (IntKind.wrap IntKind.i64
                                                                                  ((↑n_1 : Int) - (1 : Int))) *
                                                                              (3 : Nat)))
                                                                          (1 : Nat))
                                                                        (1 : Nat))
                                                                      (Value.int IntKind.i64 n) ∧
                                                                    ∃ n_5,
                                                                      Ld Try.prog (3 : Nat) H'
                                                                          { block := b, off := (2 : Nat) }
                                                                          (Value.int IntKind.i64 n_5) ∧
                                                                        exSome a_1 fun ad =>
                                                                          chk
                                                                            (decide
                                                                              ((0 : Int) ≤
                                                                                  IntKind.wrap IntKind.i64
                                                                                    ((↑n_1 : Int) - (1 : Int)) ∧
                                                                                IntKind.wrap IntKind.i64
                                                                                    ((↑n_1 : Int) - (1 : Int)) <
                                                                                  (↑n_1 : Int)))
                                                                            (∃ H'_2,
                                                                              St Try.prog (3 : Nat) H'
                                                                                  (Addr.add
                                                                                    (Addr.add
                                                                                      (Addr.add ad
                                                                                        (Int.toNat
                                                                                            (IntKind.wrap IntKind.i64
                                                                                              ((↑n_1 : Int) -
                                                                                                (1 : Int))) *
                                                                                          (3 : Nat)))
                                                                                      (1 : Nat))
                                                                                    (1 : Nat))
                                                                                  (Value.int IntKind.i64
                                                                                    (if n_5 > n then n_5 else n))
                                                                                  H'_2 ∧
                                                                                M [Value.slice a_1 n_1 c] H'_2)))
                                                            (M_1 [] H')) ∧
                                                  ∀ (J : F) (H' : Heap),
                                                    M_1 [] H' →
                                                      ∃ n n_5 n_6,
                                                        Ld Try.prog (28 : Nat) H' { block := b, off := (0 : Nat) }
                                                            (Value.agg
                                                              {
                                                                toList :=
                                                                  [Value.int IntKind.i64 n, Value.int IntKind.i64 n_5,
                                                                    Value.int IntKind.i64 n_6] }) ∧
                                                          ∀ (b : Nat) (H'_2 : Heap),
                                                            New H' b
                                                                (Obj.cells
                                                                  {
                                                                    toList :=
                                                                      [Value.int IntKind.i64 n,
                                                                        Value.int IntKind.i64 n_5,
                                                                        Value.int IntKind.i64 n_6] }
                                                                  (28 : Nat))
                                                                H'_2 →
                                                              SemWp Try.prog
                                                                (Builtin.append_ { toList := [(22 : Nat), (22 : Nat)] }
                                                                  (22 : Nat)
                                                                  {
                                                                    toList :=
                                                                      [Value.slice a_1 n_1 c,
                                                                        Value.slice
                                                                          (some { block := b, off := (0 : Nat) })
                                                                          (1 : Nat) (1 : Nat)] })
                                                                H'_2 fun v H' =>
                                                                ∃ a n c,
                                                                  v = Value.slice a n c ∧ M [Value.slice a n c] H')) ∧
                              ∀ (J : F) (a : Option Addr) (n c_1 : Nat) (H'_1 : Heap),
                                M [Value.slice a n c_1] H'_1 →
                                  I
                                      [Value.slice a n c_1,
                                        Value.int IntKind.i64 (IntKind.wrap IntKind.i64 (n_2 + (1 : Int)))]
                                      H'_1 ∧
                                    μ
                                        [Value.slice a n c_1,
                                          Value.int IntKind.i64 (IntKind.wrap IntKind.i64 (n_2 + (1 : Int)))]
                                        H'_1 <
                                      μ [Value.slice a_1 n_1 c, Value.int IntKind.i64 n_2] H')
                          (R (Value.slice a_1 n_1 c) H')) :
  CallH Try.prog 9 (List.toArray [Value.slice l_a l_n l_c]) H R :=
  vc_call (annOf [([0, 1, 0, 1, 1, 1, 1], .cut [(3, .one .slice), (14, .one (.int .i64))]), ([1, 1, 0, 0, 1, 0, 1, 1, 1, 1], .cut [(3, .one .slice)]), ([1, 0, 0, 1, 1, 0, 0, 1, 0, 1, 1, 1, 1], .cut []), ([1, 0, 1, 0, 0, 1, 1, 0, 0, 1, 0, 1, 1, 1, 1], .cut [(45, .one .bool)]), ([0, 0, 1, 1, 0, 1, 0, 0, 1, 1, 0, 0, 1, 0, 1, 1, 1, 1], .tail 14)]) followsAll Go.Proofs.Try.func9 rfl Go.Proofs.Try.ntmps9 rfl rfl (Eq.mpr (by kernel_rfl) h)

/- 10 strandline/cover.Covers
  notes: []
  places: []
  slots: [0=l, 1=id, 2=t, 3=l, 4=id, 5=t] -/
abbrev fn_cover_Covers : Nat := 10
theorem vc_cover_Covers (l_a : Option Addr) (l_n : Nat) (l_c : Nat) (id : Int) (t : Int) (H : Heap) (R : Value → Heap → Prop)
  (h : ∀ (b : Nat) (H' : Heap),
  New H b (Obj.cells { toList := [Value.int IntKind.i64 id] } (3 : Nat)) H' →
    ∀ (b_1 : Nat) (H'_1 : Heap),
      New H' b_1 (Obj.cells { toList := [Value.int IntKind.i64 t] } (3 : Nat)) H'_1 →
        CallH Try.prog (28 : Nat)
          {
            toList :=
              [Value.slice l_a l_n l_c,
                Value.func (Fn.func (29 : Nat)) { toList := [] }
                  {
                    toList :=
                      [Value.pointer (some { block := b, off := (0 : Nat) }),
                        Value.pointer (some { block := b_1, off := (0 : Nat) })] }] }
          H'_1 fun v H' => ∃ b, v = Value.bool b ∧ R (Value.bool b) H') :
  CallH Try.prog 10 (List.toArray [Value.slice l_a l_n l_c, Value.int IntKind.i64 id, Value.int IntKind.i64 t]) H R :=
  vc_call (annOf []) followsAll Go.Proofs.Try.func10 rfl Go.Proofs.Try.ntmps10 rfl rfl (Eq.mpr (by kernel_rfl) h)

/- 11 strandline/strandlineref12.Same
  notes: []
  places: []
  slots: [0=a, 1=b, 2=a, 3=b, 5=i] -/
abbrev fn_ref12_Same : Nat := 11
theorem vc_ref12_Same (a_a : Option Addr) (a_n : Nat) (a_c : Nat) (b_a : Option Addr) (b_n : Nat) (b_c : Nat) (H : Heap) (R : Value → Heap → Prop)
  (h : brB ((↑a_n : Int) != (↑b_n : Int)) (R (Value.bool false) H)
  (∃ (I : List Value → Heap → Prop) (μ : List Value → Heap → Nat),
    I [Value.int IntKind.i64 (0 : Int)] H ∧
      ∀ (J : F) (n : Int) (H' : Heap),
        I [Value.int IntKind.i64 n] H' →
          brB (decide (n < (↑a_n : Int)))
            (exSome a_a fun ad =>
              chk (decide ((0 : Int) ≤ n ∧ n < (↑a_n : Int)))
                (∃ n_1 n_2 n_3,
                  Ld Try.prog (28 : Nat) H' (Addr.add ad (Int.toNat n * (3 : Nat)))
                      (Value.agg
                        {
                          toList :=
                            [Value.int IntKind.i64 n_1, Value.int IntKind.i64 n_2, Value.int IntKind.i64 n_3] }) ∧
                    exSome b_a fun ad =>
                      chk (decide ((0 : Int) ≤ n ∧ n < (↑b_n : Int)))
                        (∃ n_4 n_5 n_6,
                          Ld Try.prog (28 : Nat) H' (Addr.add ad (Int.toNat n * (3 : Nat)))
                              (Value.agg
                                {
                                  toList :=
                                    [Value.int IntKind.i64 n_4, Value.int IntKind.i64 n_5,
                                      Value.int IntKind.i64 n_6] }) ∧
                            brB (!(n_1 == n_4 && (n_2 == n_5 && (n_3 == n_6 && true) && true)))
                              (R (Value.bool false) H')
                              (I [Value.int IntKind.i64 (IntKind.wrap IntKind.i64 (n + (1 : Int)))] H' ∧
                                μ [Value.int IntKind.i64 (IntKind.wrap IntKind.i64 (n + (1 : Int)))] H' <
                                  μ [Value.int IntKind.i64 n] H'))))
            (R (Value.bool true) H'))) :
  CallH Try.prog 11 (List.toArray [Value.slice a_a a_n a_c, Value.slice b_a b_n b_c]) H R :=
  vc_call (annOf [([0, 1, 0, 1, 1], .cut [(5, .one (.int .i64))])]) followsAll Go.Proofs.Try.func11 rfl Go.Proofs.Try.ntmps11 rfl rfl (Eq.mpr (by kernel_rfl) h)

/- 12 strandline/strandlineref12.Norm
  notes: []
  places: [[1, 0, 0, 1, 0, 1, 1, 1, 0, 0, 1, 0, 0, 1, 0, 1, 1], [0, 0, 1, 0, 0, 1, 0, 1, 1, 1, 0, 0, 1, 0, 0, 1, 0, 1, 1], [0, 0, 0, 1, 0, 0, 1, 0, 1, 1, 1, 0, 0, 1, 0, 0, 1, 0, 1, 1], [1, 0, 0, 1, 0, 1, 1, 1, 1], [1, 1, 0, 0, 1, 0, 0, 1, 0, 1, 1, 1, 1]]
  slots: [0=l, 1=l, 3=sorted, 4=i, 5=now, 6=done, 7=k, 8=out, 9=i, 10=x, 11=k] -/
abbrev fn_ref12_Norm : Nat := 12
theorem vc_ref12_Norm (l_a : Option Addr) (l_n : Nat) (l_c : Nat) (H : Heap) (R : Value → Heap → Prop)
  (h : ∀ (b : Nat) (H' : Heap),
  New H b (Obj.cells { toList := [] } (28 : Nat)) H' →
    ∃ (I : List Value → Heap → Prop) (μ : List Value → Heap → Nat),
      I [Value.slice (some { block := b, off := (0 : Nat) }) (0 : Nat) (0 : Nat), Value.int IntKind.i64 (0 : Int)] H' ∧
        ∀ (J : F) (a : Option Addr) (n c : Nat) (n_1 : Int) (H' : Heap),
          I [Value.slice a n c, Value.int IntKind.i64 n_1] H' →
            brB (decide (n_1 < (↑l_n : Int)))
              (exSome l_a fun ad =>
                chk (decide ((0 : Int) ≤ n_1 ∧ n_1 < (↑l_n : Int)))
                  (∃ n_2,
                    Ld Try.prog (3 : Nat) H' (Addr.add (Addr.add ad (Int.toNat n_1 * (3 : Nat))) (1 : Nat))
                        (Value.int IntKind.i64 n_2) ∧
                      exSome l_a fun ad =>
                        chk (decide ((0 : Int) ≤ n_1 ∧ n_1 < (↑l_n : Int)))
                          (∃ n_3,
                            Ld Try.prog (3 : Nat) H'
                                (Addr.add (Addr.add (Addr.add ad (Int.toNat n_1 * (3 : Nat))) (1 : Nat)) (1 : Nat))
                                (Value.int IntKind.i64 n_3) ∧
                              brB (decide (n_2 ≥ n_3))
                                (I
                                    [Value.slice a n c,
                                      Value.int IntKind.i64 (IntKind.wrap IntKind.i64 (n_1 + (1 : Int)))]
                                    H' ∧
                                  μ
                                      [Value.slice a n c,
                                        Value.int IntKind.i64 (IntKind.wrap IntKind.i64 (n_1 + (1 : Int)))]
                                      H' <
                                    μ [Value.slice a n c, Value.int IntKind.i64 n_1] H')
                                (∀ (b : Nat) (H'_1 : Heap),
                                  New H' b (Obj.cells { toList := [] } (28 : Nat)) H'_1 →
                                    ∃ (I_1 : List Value → Heap → Prop) (μ_1 : List Value → Heap → Nat),
                                      I_1
                                          [Value.slice (some { block := b, off := (0 : Nat) }) (0 : Nat) (0 : Nat),
                                            Value.bool false, Value.int IntKind.i64 (0 : Int)]
                                          H'_1 ∧
                                        ∀ (J : F) (a_3 : Option Addr) (n_4 c_1 : Nat) (b : Bool) (n_5 : Int)
                                          (H'_2 : Heap),
                                          I_1 [Value.slice a_3 n_4 c_1, Value.bool b, Value.int IntKind.i64 n_5] H'_2 →
                                            brB (decide (n_5 < (↑n : Int)))
                                              (∃ (M : List Value → Heap → Prop),
                                                (∃ (M_1 : List Value → Heap → Prop),
                                                    (∃ (M : List Value → Heap → Prop),
                                                        brB (!b)
                                                            (exSome l_a fun ad =>
                                                              chk (decide ((0 : Int) ≤ n_1 ∧ n_1 < (↑l_n : Int)))
                                                                (∃ n_6 n_7 n_8,
                                                                  Ld Try.prog (28 : Nat) H'_2
                                                                      (Addr.add ad (Int.toNat n_1 * (3 : Nat)))
                                                                      (Value.agg
                                                                        {
                                                                          toList :=
                                                                            [Value.int IntKind.i64 n_6,
                                                                              Value.int IntKind.i64 n_7,
                                                                              Value.int IntKind.i64 n_8] }) ∧
                                                                    exSome a fun ad =>
                                                                      chk (decide ((0 : Int) ≤ n_5 ∧ n_5 < (↑n : Int)))
                                                                        (∃ n n_9 n_10,
                                                                          Ld Try.prog (28 : Nat) H'_2
                                                                              (Addr.add ad (Int.toNat n_5 * (3 : Nat)))
                                                                              (Value.agg
                                                                                {
                                                                                  toList :=
                                                                                    [Value.int IntKind.i64 n,
                                                                                      Value.int IntKind.i64 n_9,
                                                                                      Value.int IntKind.i64 n_10] }) ∧
                                                                            CallH Try.prog (30 : Nat)
                                                                              {
                                                                                toList :=
                                                                                  [Value.agg
                                                                                      {
                                                                                        toList :=
                                                                                          [Value.int IntKind.i64 n_6,
                                                                                            Value.int IntKind.i64 n_7,
                                                                                            Value.int IntKind.i64
                                                                                              n_8] },
                                                                                    Value.agg
                                                                                      {
                                                                                        toList :=
                                                                                          [Value.int IntKind.i64 n,
                                                                                            Value.int IntKind.i64 n_9,
                                                                                            Value.int IntKind.i64
                                                                                              n_10] }] }
                                                                              H'_2 fun v H' =>
                                                                              ∃ b,
                                                                                v = Value.bool b ∧
                                                                                  M [Value.bool b] H')))
                                                            (M [Value.bool false] H'_2) ∧
                                                          ∀ (J : F) (b_1 : Bool) (H' : Heap),
                                                            M [Value.bool b_1] H' →
                                                              brB b_1
                                                                (exSome l_a fun ad =>
                                                                  chk (decide ((0 : Int) ≤ n_1 ∧ n_1 < (↑l_n : Int)))
                                                                    (∃ n n_6 n_7,
                                                                      Ld Try.prog (28 : Nat) H'
                                                                          (Addr.add ad (Int.toNat n_1 * (3 : Nat)))
                                                                          (Value.agg
                                                                            {
                                                                              toList :=
                                                                                [Value.int IntKind.i64 n,
                                                                                  Value.int IntKind.i64 n_6,
                                                                                  Value.int IntKind.i64 n_7] }) ∧
                                                                        ∀ (b : Nat) (H'_3 : Heap),
                                                                          New H' b
                                                                              (Obj.cells
                                                                                {
                                                                                  toList :=
                                                                                    [Value.int IntKind.i64 n,
                                                                                      Value.int IntKind.i64 n_6,
                                                                                      Value.int IntKind.i64 n_7] }
                                                                                (28 : Nat))
                                                                              H'_3 →
                                                                            SemWp Try.prog
                                                                              (Builtin.append_
                                                                                { toList := [(22 : Nat), (22 : Nat)] }
                                                                                (22 : Nat)
                                                                                {
                                                                                  toList :=
                                                                                    [Value.slice a_3 n_4 c_1,
                                                                                      Value.slice
                                                                                        (some
                                                                                          { block := b,
                                                                                            off := (0 : Nat) })
                                                                                        (1 : Nat) (1 : Nat)] })
                                                                              H'_3 fun v H' =>
                                                                              ∃ a n c,
                                                                                v = Value.slice a n c ∧
                                                                                  M_1
                                                                                    [Value.slice a n c, Value.bool true]
                                                                                    H'))
                                                                (M_1 [Value.slice a_3 n_4 c_1, Value.bool b] H')) ∧
                                                      ∀ (J : F) (a_5 : Option Addr) (n_6 c : Nat) (b : Bool)
                                                        (H' : Heap),
                                                        M_1 [Value.slice a_5 n_6 c, Value.bool b] H' →
                                                          exSome a fun ad =>
                                                            chk (decide ((0 : Int) ≤ n_5 ∧ n_5 < (↑n : Int)))
                                                              (∃ n n_7 n_8,
                                                                Ld Try.prog (28 : Nat) H'
                                                                    (Addr.add ad (Int.toNat n_5 * (3 : Nat)))
                                                                    (Value.agg
                                                                      {
                                                                        toList :=
                                                                          [Value.int IntKind.i64 n,
                                                                            Value.int IntKind.i64 n_7,
                                                                            Value.int IntKind.i64 n_8] }) ∧
                                                                  ∀ (b_1 : Nat) (H'_3 : Heap),
                                                                    New H' b_1
                                                                        (Obj.cells
                                                                          {
                                                                            toList :=
                                                                              [Value.int IntKind.i64 n,
                                                                                Value.int IntKind.i64 n_7,
                                                                                Value.int IntKind.i64 n_8] }
                                                                          (28 : Nat))
                                                                        H'_3 →
                                                                      SemWp Try.prog
                                                                        (Builtin.append_
                                                                          { toList := [(22 : Nat), (22 : Nat)] }
                                                                          (22 : Nat)
                                                                          {
                                                                            toList :=
                                                                              [Value.slice a_5 n_6 c,
                                                                                Value.slice
                                                                                  (some
                                                                                    { block := b_1, off := (0 : Nat) })
                                                                                  (1 : Nat) (1 : Nat)] })
                                                                        H'_3 fun v H' =>
                                                                        ∃ a n c,
                                                                          v = Value.slice a n c ∧
                                                                            M [Value.slice a n c, Value.bool b] H')) ∧
                                                  ∀ (J : F) (a : Option Addr) (n c : Nat) (b_1 : Bool) (H' : Heap),
                                                    M [Value.slice a n c, Value.bool b_1] H' →
                                                      I_1
                                                          [Value.slice a n c, Value.bool b_1,
                                                            Value.int IntKind.i64
                                                              (IntKind.wrap IntKind.i64 (n_5 + (1 : Int)))]
                                                          H' ∧
                                                        μ_1
                                                            [Value.slice a n c, Value.bool b_1,
                                                              Value.int IntKind.i64
                                                                (IntKind.wrap IntKind.i64 (n_5 + (1 : Int)))]
                                                            H' <
                                                          μ_1
                                                            [Value.slice a_3 n_4 c_1, Value.bool b,
                                                              Value.int IntKind.i64 n_5]
                                                            H'_2)
                                              (brB (!b)
                                                (exSome l_a fun ad =>
                                                  chk (decide ((0 : Int) ≤ n_1 ∧ n_1 < (↑l_n : Int)))
                                                    (∃ n_6 n_7 n_8,
                                                      Ld Try.prog (28 : Nat) H'_2
                                                          (Addr.add ad (Int.toNat n_1 * (3 : Nat)))
                                                          (Value.agg
                                                            {
                                                              toList :=
                                                                [Value.int IntKind.i64 n_6, Value.int IntKind.i64 n_7,
                                                                  Value.int IntKind.i64 n_8] }) ∧
                                                        ∀ (b : Nat) (H'_3 : Heap),
                                                          New H'_2 b
                                                              (Obj.cells
                                                                {
                                                                  toList :=
                                                                    [Value.int IntKind.i64 n_6,
                                                                      Value.int IntKind.i64 n_7,
                                                                      Value.int IntKind.i64 n_8] }
                                                                (28 : Nat))
                                                              H'_3 →
                                                            SemWp Try.prog
                                                              (Builtin.append_ { toList := [(22 : Nat), (22 : Nat)] }
                                                                (22 : Nat)
                                                                {
                                                                  toList :=
                                                                    [Value.slice a_3 n_4 c_1,
                                                                      Value.slice
                                                                        (some { block := b, off := (0 : Nat) })
                                                                        (1 : Nat) (1 : Nat)] })
                                                              H'_3 fun v H'_4 =>
                                                              ∃ a_6 n_9 c_2,
                                                                v = Value.slice a_6 n_9 c_2 ∧
                                                                  I
                                                                      [Value.slice a_6 n_9 c_2,
                                                                        Value.int IntKind.i64
                                                                          (IntKind.wrap IntKind.i64 (n_1 + (1 : Int)))]
                                                                      H'_4 ∧
                                                                    μ
                                                                        [Value.slice a_6 n_9 c_2,
                                                                          Value.int IntKind.i64
                                                                            (IntKind.wrap IntKind.i64
                                                                              (n_1 + (1 : Int)))]
                                                                        H'_4 <
                                                                      μ [Value.slice a n c, Value.int IntKind.i64 n_1]
                                                                        H'))
                                                (I
                                                    [Value.slice a_3 n_4 c_1,
                                                      Value.int IntKind.i64
                                                        (IntKind.wrap IntKind.i64 (n_1 + (1 : Int)))]
                                                    H'_2 ∧
                                                  μ
                                                      [Value.slice a_3 n_4 c_1,
                                                        Value.int IntKind.i64
                                                          (IntKind.wrap IntKind.i64 (n_1 + (1 : Int)))]
                                                      H'_2 <
                                                    μ [Value.slice a n c, Value.int IntKind.i64 n_1] H'))))))
              (∀ (b : Nat) (H'_1 : Heap),
                New H' b (Obj.cells { toList := [] } (28 : Nat)) H'_1 →
                  ∃ (I : List Value → Heap → Prop) (μ : List Value → Heap → Nat),
                    I
                        [Value.slice (some { block := b, off := (0 : Nat) }) (0 : Nat) (0 : Nat),
                          Value.int IntKind.i64 (0 : Int)]
                        H'_1 ∧
                      ∀ (J : F) (a_3 : Option Addr) (n_2 c : Nat) (n_3 : Int) (H' : Heap),
                        I [Value.slice a_3 n_2 c, Value.int IntKind.i64 n_3] H' →
                          brB (decide (n_3 < (↑n : Int)))
                            (∃ (M : List Value → Heap → Prop),
                              (exSome a fun ad =>
                                  chk (decide ((0 : Int) ≤ n_3 ∧ n_3 < (↑n : Int)))
                                    (∃ n n_4 n_5,
                                      Ld Try.prog (28 : Nat) H' (Addr.add ad (Int.toNat n_3 * (3 : Nat)))
                                          (Value.agg
                                            {
                                              toList :=
                                                [Value.int IntKind.i64 n, Value.int IntKind.i64 n_4,
                                                  Value.int IntKind.i64 n_5] }) ∧
                                        ∀ (b : Nat) (H'_2 : Heap),
                                          New H' b
                                              (Obj.cells
                                                {
                                                  toList :=
                                                    [Value.int IntKind.i64 (0 : Int), Value.int IntKind.i64 (0 : Int),
                                                      Value.int IntKind.i64 (0 : Int)] }
                                                (28 : Nat))
                                              H'_2 →
                                            ∃ H',
                                              St Try.prog (28 : Nat) H'_2 { block := b, off := (0 : Nat) }
                                                  (Value.agg
                                                    {
                                                      toList :=
                                                        [Value.int IntKind.i64 n, Value.int IntKind.i64 n_4,
                                                          Value.int IntKind.i64 n_5] })
                                                  H' ∧
                                                ∃ (M_1 : List Value → Heap → Prop),
                                                  brB
                                                      (decide
                                                        (IntKind.wrap IntKind.i64 ((↑n_2 : Int) - (1 : Int)) ≥
                                                          (0 : Int)))
                                                      (exSome a_3 fun ad =>
                                                        chk
                                                          (decide
                                                            ((0 : Int) ≤
                                                                IntKind.wrap IntKind.i64 ((↑n_2 : Int) - (1 : Int)) ∧
                                                              IntKind.wrap IntKind.i64 ((↑n_2 : Int) - (1 : Int)) <
                                                                (↑n_2 : Int)))
                                                          (∃ n,
                                                            Ld Try.prog (3 : Nat) H'
                                                                (Addr.add ad
                                                                  (Int.toNat
                                                                      (IntKind.wrap IntKind.i64
                                                                        ((↑n_2 : Int) - (1 : Int))) *
                                                                    (3 : Nat)))
                                                                (Value.int IntKind.i64 n) ∧
                                                              ∃ n_6,
                                                                Ld Try.prog (3 : Nat) H'
                                                                    { block := b, off := (0 : Nat) }
                                                                    (Value.int IntKind.i64 n_6) ∧
                                                                  brB (n == n_6)
                                                                    (∃ n,
                                                                      Ld Try.prog (3 : Nat) H'
                                                                          { block := b, off := (1 : Nat) }
                                                                          (Value.int IntKind.i64 n) ∧
                                                                        exSome a_3 fun ad =>
                                                                          chk
                                                                            (decide
                                                                              ((0 : Int) ≤
                                                                                  IntKind.wrap IntKind.i64
                                                                                    ((↑n_2 : Int) - (1 : Int)) ∧
                                                                                IntKind.wrap IntKind.i64
                                                                                    ((↑n_2 : Int) - (1 : Int)) <
                                                                                  (↑n_2 : Int)))
                                                                            (∃ n_7,
                                                                              Ld Try.prog (3 : Nat) H'
                                                                                  (Addr.add
                                                                                    (Addr.add
                                                                                      (Addr.add ad
                                                                                        (Int.toNat
                                                                                            (IntKind.wrap IntKind.i64
                                                                                              ((↑n_2 : Int) -
                                                                                                (1 : Int))) *
                                                                                          (3 : Nat)))
                                                                                      (1 : Nat))
                                                                                    (1 : Nat))
                                                                                  (Value.int IntKind.i64 n_7) ∧
                                                                                M_1 [Value.bool (decide (n ≤ n_7))] H'))
                                                                    (M_1 [Value.bool false] H')))
                                                      (M_1 [Value.bool false] H') ∧
                                                    ∀ (J : F) (b_1 : Bool) (H' : Heap),
                                                      M_1 [Value.bool b_1] H' →
                                                        brB b_1
                                                          (exSome a_3 fun ad =>
                                                            chk
                                                              (decide
                                                                ((0 : Int) ≤
                                                                    IntKind.wrap IntKind.i64
                                                                      ((↑n_2 : Int) - (1 : Int)) ∧
                                                                  IntKind.wrap IntKind.i64 ((↑n_2 : Int) - (1 : Int)) <
                                                                    (↑n_2 : Int)))
                                                              (∃ n,
                                                                Ld Try.prog (3 : Nat) H'
                                                                    (Addr.add
                                                                      (Addr.add
                                                                        (Addr.add ad
                                                                          (Int.toNat
                                                                              (IntKind.wrap IntKind.i64
                                                                                ((↑n_2 : Int) - (1 : Int))) *
                                                                            (3 : Nat)))
                                                                        (1 : Nat))
                                                                      (1 : Nat))
                                                                    (Value.int IntKind.i64 n) ∧
                                                                  ∃ n_6,
                                                                    Ld Try.prog (3 : Nat) H'
                                                                        { block := b, off := (2 : Nat) }
                                                                        (Value.int IntKind.i64 n_6) ∧
                                                                      exSome a_3 fun ad =>
                                                                        chk
                                                                          (decide
                                                                            ((0 : Int) ≤
                                                                                IntKind.wrap IntKind.i64
                                                                                  ((↑n_2 : Int) - (1 : Int)) ∧
                                                                              IntKind.wrap IntKind.i64
                                                                                  ((↑n_2 : Int) - (1 : Int)) <
                                                                                (↑n_2 : Int)))
                                                                          (∃ H'_3,
                                                                            St Try.prog (3 : Nat) H'
                                                                                (Addr.add
                                                                                  (Addr.add
                                                                                    (Addr.add ad
                                                                                      (Int.toNat
                                                                                          (IntKind.wrap IntKind.i64
                                                                                            ((↑n_2 : Int) -
                                                                                              (1 : Int))) *
                                                                                        (3 : Nat)))
                                                                                    (1 : Nat))
                                                                                  (1 : Nat))
                                                                                (Value.int IntKind.i64
                                                                                  (if n_6 > n then n_6 else n))
                                                                                H'_3 ∧
                                                                              M [Value.slice a_3 n_2 c] H'_3)))
                                                          (∃ n n_6 n_7,
                                                            Ld Try.prog (28 : Nat) H' { block := b, off := (0 : Nat) }
                                                                (Value.agg
                                                                  {
                                                                    toList :=
                                                                      [Value.int IntKind.i64 n,
                                                                        Value.int IntKind.i64 n_6,
                                                                        Value.int IntKind.i64 n_7] }) ∧
                                                              ∀ (b : Nat) (H'_3 : Heap),
                                                                New H' b
                                                                    (Obj.cells
                                                                      {
                                                                        toList :=
                                                                          [Value.int IntKind.i64 n,
                                                                            Value.int IntKind.i64 n_6,
                                                                            Value.int IntKind.i64 n_7] }
                                                                      (28 : Nat))
                                                                    H'_3 →
                                                                  SemWp Try.prog
                                                                    (Builtin.append_
                                                                      { toList := [(22 : Nat), (22 : Nat)] } (22 : Nat)
                                                                      {
                                                                        toList :=
                                                                          [Value.slice a_3 n_2 c,
                                                                            Value.slice
                                                                              (some { block := b, off := (0 : Nat) })
                                                                              (1 : Nat) (1 : Nat)] })
                                                                    H'_3 fun v H' =>
                                                                    ∃ a n c,
                                                                      v = Value.slice a n c ∧
                                                                        M [Value.slice a n c] H'))) ∧
                                ∀ (J : F) (a : Option Addr) (n c_1 : Nat) (H'_2 : Heap),
                                  M [Value.slice a n c_1] H'_2 →
                                    I
                                        [Value.slice a n c_1,
                                          Value.int IntKind.i64 (IntKind.wrap IntKind.i64 (n_3 + (1 : Int)))]
                                        H'_2 ∧
                                      μ
                                          [Value.slice a n c_1,
                                            Value.int IntKind.i64 (IntKind.wrap IntKind.i64 (n_3 + (1 : Int)))]
                                          H'_2 <
                                        μ [Value.slice a_3 n_2 c, Value.int IntKind.i64 n_3] H')
                            (R (Value.slice a_3 n_2 c) H'))) :
  CallH Try.prog 12 (List.toArray [Value.slice l_a l_n l_c]) H R :=
  vc_call (annOf [([0, 1, 0, 1, 1], .cut [(3, .one .slice), (4, .one (.int .i64))]), ([0, 1, 0, 1, 1, 1, 0, 0, 1, 0, 0, 1, 0, 1, 1], .cut [(5, .one .slice), (6, .one .bool), (7, .one (.int .i64))]), ([1, 0, 0, 1, 0, 1, 1, 1, 0, 0, 1, 0, 0, 1, 0, 1, 1], .cut [(5, .one .slice), (6, .one .bool)]), ([0, 0, 1, 0, 0, 1, 0, 1, 1, 1, 0, 0, 1, 0, 0, 1, 0, 1, 1], .cut [(5, .one .slice), (6, .one .bool)]), ([0, 0, 0, 1, 0, 0, 1, 0, 1, 1, 1, 0, 0, 1, 0, 0, 1, 0, 1, 1], .cut [(51, .one .bool)]), ([0, 0, 0, 0, 1, 0, 0, 1, 0, 1, 1, 1, 0, 0, 1, 0, 0, 1, 0, 1, 1], .tail 11), ([0, 1, 0, 1, 1, 1, 1], .cut [(8, .one .slice), (9, .one (.int .i64))]), ([1, 0, 0, 1, 0, 1, 1, 1, 1], .cut [(8, .one .slice)]), ([1, 1, 0, 0, 1, 0, 0, 1, 0, 1, 1, 1, 1], .cut [(113, .one .bool)]), ([0, 1, 1, 1, 0, 0, 1, 0, 0, 1, 0, 1, 1, 1, 1], .tail 12)]) followsAll Go.Proofs.Try.func12 rfl Go.Proofs.Try.ntmps12 rfl rfl (Eq.mpr (by kernel_rfl) h)

/- 13 strandline/strandlineref12.Covers
  notes: []
  places: [[1, 0, 0, 1, 0, 1]]
  slots: [0=l, 1=id, 2=t, 3=l, 4=id, 5=t, 7=i] -/
abbrev fn_ref12_Covers : Nat := 13
theorem vc_ref12_Covers (l_a : Option Addr) (l_n : Nat) (l_c : Nat) (id : Int) (t : Int) (H : Heap) (R : Value → Heap → Prop)
  (h : ∃ (I : List Value → Heap → Prop) (μ : List Value → Heap → Nat),
  I [Value.int IntKind.i64 (0 : Int)] H ∧
    ∀ (J : F) (n : Int) (H' : Heap),
      I [Value.int IntKind.i64 n] H' →
        brB (decide (n < (↑l_n : Int)))
          (∃ (M : List Value → Heap → Prop),
            (exSome l_a fun ad =>
                chk (decide ((0 : Int) ≤ n ∧ n < (↑l_n : Int)))
                  (∃ n_1,
                    Ld Try.prog (3 : Nat) H' (Addr.add ad (Int.toNat n * (3 : Nat))) (Value.int IntKind.i64 n_1) ∧
                      brB (n_1 == id)
                        (exSome l_a fun ad =>
                          chk (decide ((0 : Int) ≤ n ∧ n < (↑l_n : Int)))
                            (∃ n_2,
                              Ld Try.prog (3 : Nat) H' (Addr.add (Addr.add ad (Int.toNat n * (3 : Nat))) (1 : Nat))
                                  (Value.int IntKind.i64 n_2) ∧
                                brB (decide (n_2 ≤ t))
                                  (exSome l_a fun ad =>
                                    chk (decide ((0 : Int) ≤ n ∧ n < (↑l_n : Int)))
                                      (∃ n_3,
                                        Ld Try.prog (3 : Nat) H'
                                            (Addr.add (Addr.add (Addr.add ad (Int.toNat n * (3 : Nat))) (1 : Nat))
                                              (1 : Nat))
                                            (Value.int IntKind.i64 n_3) ∧
                                          brB (decide (t < n_3)) (R (Value.bool true) H') (M [] H')))
                                  (M [] H')))
                        (M [] H'))) ∧
              ∀ (J : F) (H'_1 : Heap),
                M [] H'_1 →
                  I [Value.int IntKind.i64 (IntKind.wrap IntKind.i64 (n + (1 : Int)))] H'_1 ∧
                    μ [Value.int IntKind.i64 (IntKind.wrap IntKind.i64 (n + (1 : Int)))] H'_1 <
                      μ [Value.int IntKind.i64 n] H')
          (R (Value.bool false) H')) :
  CallH Try.prog 13 (List.toArray [Value.slice l_a l_n l_c, Value.int IntKind.i64 id, Value.int IntKind.i64 t]) H R :=
  vc_call (annOf [([0, 1, 0, 1], .cut [(7, .one (.int .i64))]), ([1, 0, 0, 1, 0, 1], .cut [])]) followsAll Go.Proofs.Try.func13 rfl Go.Proofs.Try.ntmps13 rfl rfl (Eq.mpr (by kernel_rfl) h)

/- 14 strandline/cover.Clip
  notes: []
  places: []
  slots: [0=l, 1=r, 2=l, 3=r, 5=out, 6=_, 7=x] -/
abbrev fn_cover_Clip : Nat := 14
theorem vc_cover_Clip (l_a : Option Addr) (l_n : Nat) (l_c : Nat) (r_0 : Int) (r_1 : Int) (H : Heap) (R : Value → Heap → Prop)
  (h : ∀ (b : Nat) (H' : Heap),
  New H b (Obj.cells { toList := [Value.int IntKind.i64 r_0, Value.int IntKind.i64 r_1] } (26 : Nat)) H' →
    ∃ (I : List Value → Heap → Prop) (μ : List Value → Heap → Nat),
      I [Value.slice none (0 : Nat) (0 : Nat), Value.int IntKind.i64 (0 : Int)] H' ∧
        ∀ (J : F) (a : Option Addr) (n c : Nat) (n_1 : Int) (H' : Heap),
          I [Value.slice a n c, Value.int IntKind.i64 n_1] H' →
            brB (decide (n_1 < (↑l_n : Int)))
              (exSome l_a fun ad =>
                chk (decide ((0 : Int) ≤ n_1 ∧ n_1 < (↑l_n : Int)))
                  (∃ n_2 n_3 n_4,
                    Ld Try.prog (28 : Nat) H' (Addr.add ad (Int.toNat n_1 * (3 : Nat)))
                        (Value.agg
                          {
                            toList :=
                              [Value.int IntKind.i64 n_2, Value.int IntKind.i64 n_3, Value.int IntKind.i64 n_4] }) ∧
                      ∀ (b_1 : Nat) (H'_1 : Heap),
                        New H' b_1
                            (Obj.cells
                              {
                                toList :=
                                  [Value.int IntKind.i64 (0 : Int), Value.int IntKind.i64 (0 : Int),
                                    Value.int IntKind.i64 (0 : Int)] }
                              (28 : Nat))
                            H'_1 →
                          ∃ H'_2,
                            St Try.prog (28 : Nat) H'_1 { block := b_1, off := (0 : Nat) }
                                (Value.agg
                                  {
                                    toList :=
                                      [Value.int IntKind.i64 n_2, Value.int IntKind.i64 n_3,
                                        Value.int IntKind.i64 n_4] })
                                H'_2 ∧
                              ∃ n_5 n_6 n_7,
                                Ld Try.prog (28 : Nat) H'_2 { block := b_1, off := (0 : Nat) }
                                    (Value.agg
                                      {
                                        toList :=
                                          [Value.int IntKind.i64 n_5, Value.int IntKind.i64 n_6,
                                            Value.int IntKind.i64 n_7] }) ∧
                                  ∃ n_8,
                                    Ld Try.prog (3 : Nat) H'_2 { block := b, off := (0 : Nat) }
                                        (Value.int IntKind.i64 n_8) ∧
                                      ∃ n_9,
                                        Ld Try.prog (3 : Nat) H'_2 { block := b, off := (1 : Nat) }
                                            (Value.int IntKind.i64 n_9) ∧
                                          CallH Try.prog (31 : Nat)
                                            {
                                              toList :=
                                                [Value.agg
                                                    {
                                                      toList :=
                                                        [Value.int IntKind.i64 n_5, Value.int IntKind.i64 n_6,
                                                          Value.int IntKind.i64 n_7] },
                                                  Value.int IntKind.i64 n_8, Value.int IntKind.i64 n_9] }
                                            H'_2 fun v H'_3 =>
                                            ∃ n_10 n_11 n_12,
                                              v =
                                                  Value.agg
                                                    {
                                                      toList :=
                                                        [Value.int IntKind.i64 n_10, Value.int IntKind.i64 n_11,
                                                          Value.int IntKind.i64 n_12] } ∧
                                                ∀ (b : Nat) (H'_4 : Heap),
                                                  New H'_3 b
                                                      (Obj.cells
                                                        {
                                                          toList :=
                                                            [Value.int IntKind.i64 n_10, Value.int IntKind.i64 n_11,
                                                              Value.int IntKind.i64 n_12] }
                                                        (28 : Nat))
                                                      H'_4 →
                                                    SemWp Try.prog
                                                      (Builtin.append_ { toList := [(22 : Nat), (22 : Nat)] } (22 : Nat)
                                                        {
                                                          toList :=
                                                            [Value.slice a n c,
                                                              Value.slice (some { block := b, off := (0 : Nat) })
                                                                (1 : Nat) (1 : Nat)] })
                                                      H'_4 fun v H'_5 =>
                                                      ∃ a_4 n_13 c_1,
                                                        v = Value.slice a_4 n_13 c_1 ∧
                                                          I
                                                              [Value.slice a_4 n_13 c_1,
                                                                Value.int IntKind.i64
                                                                  (IntKind.wrap IntKind.i64 (n_1 + (1 : Int)))]
                                                              H'_5 ∧
                                                            μ
                                                                [Value.slice a_4 n_13 c_1,
                                                                  Value.int IntKind.i64
                                                                    (IntKind.wrap IntKind.i64 (n_1 + (1 : Int)))]
                                                                H'_5 <
                                                              μ [Value.slice a n c, Value.int IntKind.i64 n_1] H'))
              (CallH Try.prog (9 : Nat) { toList := [Value.slice a n c] } H' fun v H' =>
                ∃ a n c, v = Value.slice a n c ∧ R (Value.slice a n c) H')) :
  CallH Try.prog 14 (List.toArray [Value.slice l_a l_n l_c, Value.agg #[Value.int IntKind.i64 r_0, Value.int IntKind.i64 r_1]]) H R :=
  vc_call (annOf [([0, 1, 0, 1, 1], .cut [(5, .one .slice), (10, .one (.int .i64))])]) followsAll Go.Proofs.Try.func14 rfl Go.Proofs.Try.ntmps14 rfl rfl (Eq.mpr (by kernel_rfl) h)

/- 15 strandline/cover.Minus
  notes: []
  places: []
  slots: [0=l, 1=r, 2=l, 3=r, 5=out, 6=_, 7=x] -/
abbrev fn_cover_Minus : Nat := 15
theorem vc_cover_Minus (l_a : Option Addr) (l_n : Nat) (l_c : Nat) (r_0 : Int) (r_1 : Int) (H : Heap) (R : Value → Heap → Prop)
  (h : ∀ (b : Nat) (H' : Heap),
  New H b (Obj.cells { toList := [Value.int IntKind.i64 r_0, Value.int IntKind.i64 r_1] } (26 : Nat)) H' →
    ∃ n,
      Ld Try.prog (3 : Nat) H' { block := b, off := (0 : Nat) } (Value.int IntKind.i64 n) ∧
        ∃ n_1,
          Ld Try.prog (3 : Nat) H' { block := b, off := (1 : Nat) } (Value.int IntKind.i64 n_1) ∧
            brB (decide (n ≥ n_1))
              (CallH Try.prog (9 : Nat) { toList := [Value.slice l_a l_n l_c] } H' fun v H' =>
                ∃ a n c, v = Value.slice a n c ∧ R (Value.slice a n c) H')
              (∃ (I : List Value → Heap → Prop) (μ : List Value → Heap → Nat),
                I [Value.slice none (0 : Nat) (0 : Nat), Value.int IntKind.i64 (0 : Int)] H' ∧
                  ∀ (J : F) (a : Option Addr) (n c : Nat) (n_2 : Int) (H' : Heap),
                    I [Value.slice a n c, Value.int IntKind.i64 n_2] H' →
                      brB (decide (n_2 < (↑l_n : Int)))
                        (exSome l_a fun ad =>
                          chk (decide ((0 : Int) ≤ n_2 ∧ n_2 < (↑l_n : Int)))
                            (∃ n_3 n_4 n_5,
                              Ld Try.prog (28 : Nat) H' (Addr.add ad (Int.toNat n_2 * (3 : Nat)))
                                  (Value.agg
                                    {
                                      toList :=
                                        [Value.int IntKind.i64 n_3, Value.int IntKind.i64 n_4,
                                          Value.int IntKind.i64 n_5] }) ∧
                                ∀ (b_1 : Nat) (H'_1 : Heap),
                                  New H' b_1
                                      (Obj.cells
                                        {
                                          toList :=
                                            [Value.int IntKind.i64 (0 : Int), Value.int IntKind.i64 (0 : Int),
                                              Value.int IntKind.i64 (0 : Int)] }
                                        (28 : Nat))
                                      H'_1 →
                                    ∃ H'_2,
                                      St Try.prog (28 : Nat) H'_1 { block := b_1, off := (0 : Nat) }
                                          (Value.agg
                                            {
                                              toList :=
                                                [Value.int IntKind.i64 n_3, Value.int IntKind.i64 n_4,
                                                  Value.int IntKind.i64 n_5] })
                                          H'_2 ∧
                                        ∃ n_6 n_7 n_8,
                                          Ld Try.prog (28 : Nat) H'_2 { block := b_1, off := (0 : Nat) }
                                              (Value.agg
                                                {
                                                  toList :=
                                                    [Value.int IntKind.i64 n_6, Value.int IntKind.i64 n_7,
                                                      Value.int IntKind.i64 n_8] }) ∧
                                            ∃ n_9,
                                              Ld Try.prog (3 : Nat) H'_2 { block := b, off := (0 : Nat) }
                                                  (Value.int IntKind.i64 n_9) ∧
                                                ∃ n_10 n_11 n_12,
                                                  Ld Try.prog (28 : Nat) H'_2 { block := b_1, off := (0 : Nat) }
                                                      (Value.agg
                                                        {
                                                          toList :=
                                                            [Value.int IntKind.i64 n_10, Value.int IntKind.i64 n_11,
                                                              Value.int IntKind.i64 n_12] }) ∧
                                                    ∃ n_13,
                                                      Ld Try.prog (3 : Nat) H'_2 { block := b, off := (1 : Nat) }
                                                          (Value.int IntKind.i64 n_13) ∧
                                                        CallH Try.prog (31 : Nat)
                                                          {
                                                            toList :=
                                                              [Value.agg
                                                                  {
                                                                    toList :=
                                                                      [Value.int IntKind.i64 n_6,
                                                                        Value.int IntKind.i64 n_7,
                                                                        Value.int IntKind.i64 n_8] },
                                                                Value.int IntKind.i64 (-9223372036854775808 : Int),
                                                                Value.int IntKind.i64 n_9] }
                                                          H'_2 fun v H'_3 =>
                                                          ∃ n_14 n_15 n_16,
                                                            v =
                                                                Value.agg
                                                                  {
                                                                    toList :=
                                                                      [Value.int IntKind.i64 n_14,
                                                                        Value.int IntKind.i64 n_15,
                                                                        Value.int IntKind.i64 n_16] } ∧
                                                              Ld Try.prog (3 : Nat) H'_3
                                                                  { block := b, off := (1 : Nat) }
                                                                  (Value.int IntKind.i64 n_13) ∧
                                                                Ld Try.prog (28 : Nat) H'_3
                                                                    { block := b_1, off := (0 : Nat) }
                                                                    (Value.agg
                                                                      {
                                                                        toList :=
                                                                          [Value.int IntKind.i64 n_10,
                                                                            Value.int IntKind.i64 n_11,
                                                                            Value.int IntKind.i64 n_12] }) ∧
                                                                  CallH Try.prog (31 : Nat)
                                                                    {
                                                                      toList :=
                                                                        [Value.agg
                                                                            {
                                                                              toList :=
                                                                                [Value.int IntKind.i64 n_10,
                                                                                  Value.int IntKind.i64 n_11,
                                                                                  Value.int IntKind.i64 n_12] },
                                                                          Value.int IntKind.i64 n_13,
                                                                          Value.int IntKind.i64
                                                                            (9223372036854775807 : Int)] }
                                                                    H'_3 fun v H'_4 =>
                                                                    ∃ n_17 n_18 n_19,
                                                                      v =
                                                                          Value.agg
                                                                            {
                                                                              toList :=
                                                                                [Value.int IntKind.i64 n_17,
                                                                                  Value.int IntKind.i64 n_18,
                                                                                  Value.int IntKind.i64 n_19] } ∧
                                                                        ∀ (b : Nat) (H'_5 : Heap),
                                                                          New H'_4 b
                                                                              (Obj.cells
                                                                                {
                                                                                  toList :=
                                                                                    [Value.int IntKind.i64 n_14,
                                                                                      Value.int IntKind.i64 n_15,
                                                                                      Value.int IntKind.i64 n_16,
                                                                                      Value.int IntKind.i64 n_17,
                                                                                      Value.int IntKind.i64 n_18,
                                                                                      Value.int IntKind.i64 n_19] }
                                                                                (28 : Nat))
                                                                              H'_5 →
                                                                            SemWp Try.prog
                                                                              (Builtin.append_
                                                                                { toList := [(22 : Nat), (22 : Nat)] }
                                                                                (22 : Nat)
                                                                                {
                                                                                  toList :=
                                                                                    [Value.slice a n c,
                                                                                      Value.slice
                                                                                        (some
                                                                                          { block := b,
                                                                                            off := (0 : Nat) })
                                                                                        (2 : Nat) (2 : Nat)] })
                                                                              H'_5 fun v H'_6 =>
                                                                              ∃ a_4 n_20 c_1,
                                                                                v = Value.slice a_4 n_20 c_1 ∧
                                                                                  I
                                                                                      [Value.slice a_4 n_20 c_1,
                                                                                        Value.int IntKind.i64
                                                                                          (IntKind.wrap IntKind.i64
                                                                                            (n_2 + (1 : Int)))]
                                                                                      H'_6 ∧
                                                                                    μ
                                                                                        [Value.slice a_4 n_20 c_1,
                                                                                          Value.int IntKind.i64
                                                                                            (IntKind.wrap IntKind.i64
                                                                                              (n_2 + (1 : Int)))]
                                                                                        H'_6 <
                                                                                      μ
                                                                                        [Value.slice a n c,
                                                                                          Value.int IntKind.i64 n_2]
                                                                                        H'))
                        (CallH Try.prog (9 : Nat) { toList := [Value.slice a n c] } H' fun v H' =>
                          ∃ a n c, v = Value.slice a n c ∧ R (Value.slice a n c) H'))) :
  CallH Try.prog 15 (List.toArray [Value.slice l_a l_n l_c, Value.agg #[Value.int IntKind.i64 r_0, Value.int IntKind.i64 r_1]]) H R :=
  vc_call (annOf [([0, 1, 0, 1, 1, 1], .cut [(5, .one .slice), (17, .one (.int .i64))]), ([1, 0, 0, 1, 1, 0, 0, 1, 0, 1, 1, 1], .reg [0, 0, 0, 4, 14, 0, 0, 64, 254, 510, 1023, 2047] (.quiet 0 (.quiet 1 (.quiet 2 (.quiet 3 (.quiet 5 (.quiet 6 (.quiet 7 (.pick (.alt 4 (.pick (.alt 8 (.pick (.alt 9 (.pick (.alt 10 (.quiet 11 .done) .stop)) .stop)) .stop)) .stop))))))))))]) followsAll Go.Proofs.Try.func15 rfl Go.Proofs.Try.ntmps15 rfl rfl (Eq.mpr (by kernel_rfl) h)

/- 16 strandline/strandlineref12.Clip
  notes: []
  places: []
  slots: [0=l, 1=r, 2=l, 3=r, 5=out, 6=i] -/
abbrev fn_ref12_Clip : Nat := 16
theorem vc_ref12_Clip (l_a : Option Addr) (l_n : Nat) (l_c : Nat) (r_0 : Int) (r_1 : Int) (H : Heap) (R : Value → Heap → Prop)
  (h : ∀ (b : Nat) (H' : Heap),
  New H b (Obj.cells { toList := [Value.int IntKind.i64 r_0, Value.int IntKind.i64 r_1] } (26 : Nat)) H' →
    ∀ (b_1 : Nat) (H'_1 : Heap),
      New H' b_1 (Obj.cells { toList := [] } (28 : Nat)) H'_1 →
        ∃ (I : List Value → Heap → Prop) (μ : List Value → Heap → Nat),
          I [Value.slice (some { block := b_1, off := (0 : Nat) }) (0 : Nat) (0 : Nat), Value.int IntKind.i64 (0 : Int)]
              H'_1 ∧
            ∀ (J : F) (a : Option Addr) (n c : Nat) (n_1 : Int) (H' : Heap),
              I [Value.slice a n c, Value.int IntKind.i64 n_1] H' →
                brB (decide (n_1 < (↑l_n : Int)))
                  (exSome l_a fun ad =>
                    chk (decide ((0 : Int) ≤ n_1 ∧ n_1 < (↑l_n : Int)))
                      (∃ n_2,
                        Ld Try.prog (3 : Nat) H' (Addr.add ad (Int.toNat n_1 * (3 : Nat))) (Value.int IntKind.i64 n_2) ∧
                          exSome l_a fun ad =>
                            chk (decide ((0 : Int) ≤ n_1 ∧ n_1 < (↑l_n : Int)))
                              (∃ n_3,
                                Ld Try.prog (3 : Nat) H' (Addr.add (Addr.add ad (Int.toNat n_1 * (3 : Nat))) (1 : Nat))
                                    (Value.int IntKind.i64 n_3) ∧
                                  ∃ n_4,
                                    Ld Try.prog (3 : Nat) H' { block := b, off := (0 : Nat) }
                                        (Value.int IntKind.i64 n_4) ∧
                                      exSome l_a fun ad =>
                                        chk (decide ((0 : Int) ≤ n_1 ∧ n_1 < (↑l_n : Int)))
                                          (∃ n_5,
                                            Ld Try.prog (3 : Nat) H'
                                                (Addr.add (Addr.add (Addr.add ad (Int.toNat n_1 * (3 : Nat))) (1 : Nat))
                                                  (1 : Nat))
                                                (Value.int IntKind.i64 n_5) ∧
                                              ∃ n_6,
                                                Ld Try.prog (3 : Nat) H' { block := b, off := (1 : Nat) }
                                                    (Value.int IntKind.i64 n_6) ∧
                                                  ∀ (b : Nat) (H'_2 : Heap),
                                                    New H' b
                                                        (Obj.cells
                                                          {
                                                            toList :=
                                                              [Value.int IntKind.i64 n_2,
                                                                Value.int IntKind.i64 (if n_4 > n_3 then n_4 else n_3),
                                                                Value.int IntKind.i64
                                                                  (if n_6 < n_5 then n_6 else n_5)] }
                                                          (28 : Nat))
                                                        H'_2 →
                                                      SemWp Try.prog
                                                        (Builtin.append_ { toList := [(22 : Nat), (22 : Nat)] }
                                                          (22 : Nat)
                                                          {
                                                            toList :=
                                                              [Value.slice a n c,
                                                                Value.slice (some { block := b, off := (0 : Nat) })
                                                                  (1 : Nat) (1 : Nat)] })
                                                        H'_2 fun v H'_3 =>
                                                        ∃ a_3 n_7 c_1,
                                                          v = Value.slice a_3 n_7 c_1 ∧
                                                            I
                                                                [Value.slice a_3 n_7 c_1,
                                                                  Value.int IntKind.i64
                                                                    (IntKind.wrap IntKind.i64 (n_1 + (1 : Int)))]
                                                                H'_3 ∧
                                                              μ
                                                                  [Value.slice a_3 n_7 c_1,
                                                                    Value.int IntKind.i64
                                                                      (IntKind.wrap IntKind.i64 (n_1 + (1 : Int)))]
                                                                  H'_3 <
                                                                μ [Value.slice a n c, Value.int IntKind.i64 n_1] H'))))
                  (CallH Try.prog (12 : Nat) { toList := [Value.slice a n c] } H' fun v H' =>
                    ∃ a n c, v = Value.slice a n c ∧ R (Value.slice a n c) H')) :
  CallH Try.prog 16 (List.toArray [Value.slice l_a l_n l_c, Value.agg #[Value.int IntKind.i64 r_0, Value.int IntKind.i64 r_1]]) H R :=
  vc_call (annOf [([0, 1, 0, 1, 1], .cut [(5, .one .slice), (6, .one (.int .i64))]), ([0, 0, 1, 0, 0, 1, 0, 1, 1], .reg [0, 0, 0, 6, 14, 30, 0, 0, 192, 448, 960, 1984, 0, 4096, 16320, 0, 0, 98304, 229376, 491520, 1015808, 0, 2097152, 8355840, 16777152, 33554430, 67108862, 134217727, 268435455] (.quiet 0 (.quiet 1 (.quiet 2 (.quiet 3 (.quiet 4 (.quiet 5 (.quiet 6 (.quiet 7 (.quiet 8 (.quiet 9 (.quiet 10 (.quiet 11 (.quiet 12 (.quiet 13 (.quiet 14 (.quiet 15 (.quiet 16 (.quiet 17 (.quiet 18 (.quiet 19 (.quiet 20 (.quiet 21 (.quiet 22 (.quiet 23 (.quiet 24 (.quiet 25 (.pick (.alt 26 (.pick (.alt 27 (.quiet 28 .done) .stop)) .stop)))))))))))))))))))))))))))))]) followsAll Go.Proofs.Try.func16 rfl Go.Proofs.Try.ntmps16 rfl rfl (Eq.mpr (by kernel_rfl) h)

/- 17 strandline/strandlineref12.Minus
  notes: []
  places: []
  slots: [0=l, 1=r, 2=l, 3=r, 5=out, 6=i, 7=x] -/
abbrev fn_ref12_Minus : Nat := 17
theorem vc_ref12_Minus (l_a : Option Addr) (l_n : Nat) (l_c : Nat) (r_0 : Int) (r_1 : Int) (H : Heap) (R : Value → Heap → Prop)
  (h : ∀ (b : Nat) (H' : Heap),
  New H b (Obj.cells { toList := [Value.int IntKind.i64 r_0, Value.int IntKind.i64 r_1] } (26 : Nat)) H' →
    ∃ n,
      Ld Try.prog (3 : Nat) H' { block := b, off := (0 : Nat) } (Value.int IntKind.i64 n) ∧
        ∃ n_1,
          Ld Try.prog (3 : Nat) H' { block := b, off := (1 : Nat) } (Value.int IntKind.i64 n_1) ∧
            brB (decide (n ≥ n_1))
              (CallH Try.prog (12 : Nat) { toList := [Value.slice l_a l_n l_c] } H' fun v H' =>
                ∃ a n c, v = Value.slice a n c ∧ R (Value.slice a n c) H')
              (∀ (b_1 : Nat) (H'_1 : Heap),
                New H' b_1 (Obj.cells { toList := [] } (28 : Nat)) H'_1 →
                  ∃ (I : List Value → Heap → Prop) (μ : List Value → Heap → Nat),
                    I
                        [Value.slice (some { block := b_1, off := (0 : Nat) }) (0 : Nat) (0 : Nat),
                          Value.int IntKind.i64 (0 : Int)]
                        H'_1 ∧
                      ∀ (J : F) (a : Option Addr) (n c : Nat) (n_2 : Int) (H' : Heap),
                        I [Value.slice a n c, Value.int IntKind.i64 n_2] H' →
                          brB (decide (n_2 < (↑l_n : Int)))
                            (exSome l_a fun ad =>
                              chk (decide ((0 : Int) ≤ n_2 ∧ n_2 < (↑l_n : Int)))
                                (∃ n_3 n_4,
                                  Ld Try.prog (26 : Nat) H'
                                      (Addr.add (Addr.add ad (Int.toNat n_2 * (3 : Nat))) (1 : Nat))
                                      (Value.agg { toList := [Value.int IntKind.i64 n_3, Value.int IntKind.i64 n_4] }) ∧
                                    ∀ (b_2 : Nat) (H'_2 : Heap),
                                      New H' b_2
                                          (Obj.cells
                                            {
                                              toList :=
                                                [Value.int IntKind.i64 (0 : Int), Value.int IntKind.i64 (0 : Int)] }
                                            (26 : Nat))
                                          H'_2 →
                                        ∃ H'_3,
                                          St Try.prog (26 : Nat) H'_2 { block := b_2, off := (0 : Nat) }
                                              (Value.agg
                                                { toList := [Value.int IntKind.i64 n_3, Value.int IntKind.i64 n_4] })
                                              H'_3 ∧
                                            exSome l_a fun ad =>
                                              chk (decide ((0 : Int) ≤ n_2 ∧ n_2 < (↑l_n : Int)))
                                                (∃ n_5,
                                                  Ld Try.prog (3 : Nat) H'_3 (Addr.add ad (Int.toNat n_2 * (3 : Nat)))
                                                      (Value.int IntKind.i64 n_5) ∧
                                                    ∃ n_6,
                                                      Ld Try.prog (3 : Nat) H'_3 { block := b_2, off := (0 : Nat) }
                                                          (Value.int IntKind.i64 n_6) ∧
                                                        ∃ n_7,
                                                          Ld Try.prog (3 : Nat) H'_3 { block := b_2, off := (1 : Nat) }
                                                              (Value.int IntKind.i64 n_7) ∧
                                                            ∃ n_8,
                                                              Ld Try.prog (3 : Nat) H'_3
                                                                  { block := b, off := (0 : Nat) }
                                                                  (Value.int IntKind.i64 n_8) ∧
                                                                ∀ (b_3 : Nat) (H'_4 : Heap),
                                                                  New H'_3 b_3
                                                                      (Obj.cells
                                                                        {
                                                                          toList :=
                                                                            [Value.int IntKind.i64 n_5,
                                                                              Value.int IntKind.i64 n_6,
                                                                              Value.int IntKind.i64
                                                                                (if n_8 < n_7 then n_8 else n_7)] }
                                                                        (28 : Nat))
                                                                      H'_4 →
                                                                    SemWp Try.prog
                                                                      (Builtin.append_
                                                                        { toList := [(22 : Nat), (22 : Nat)] }
                                                                        (22 : Nat)
                                                                        {
                                                                          toList :=
                                                                            [Value.slice a n c,
                                                                              Value.slice
                                                                                (some
                                                                                  { block := b_3, off := (0 : Nat) })
                                                                                (1 : Nat) (1 : Nat)] })
                                                                      H'_4 fun v H'_5 =>
                                                                      ∃ a_4 n_9 c_1,
                                                                        v = Value.slice a_4 n_9 c_1 ∧
                                                                          exSome l_a fun ad =>
                                                                            chk
                                                                              (decide
                                                                                ((0 : Int) ≤ n_2 ∧ n_2 < (↑l_n : Int)))
                                                                              (∃ n_10,
                                                                                Ld Try.prog (3 : Nat) H'_5
                                                                                    (Addr.add ad
                                                                                      (Int.toNat n_2 * (3 : Nat)))
                                                                                    (Value.int IntKind.i64 n_10) ∧
                                                                                  ∃ n_11,
                                                                                    Ld Try.prog (3 : Nat) H'_5
                                                                                        { block := b_2,
                                                                                          off := (0 : Nat) }
                                                                                        (Value.int IntKind.i64 n_11) ∧
                                                                                      ∃ n_12,
                                                                                        Ld Try.prog (3 : Nat) H'_5
                                                                                            { block := b,
                                                                                              off := (1 : Nat) }
                                                                                            (Value.int IntKind.i64
                                                                                              n_12) ∧
                                                                                          ∃ n_13,
                                                                                            Ld Try.prog (3 : Nat) H'_5
                                                                                                { block := b_2,
                                                                                                  off := (1 : Nat) }
                                                                                                (Value.int IntKind.i64
                                                                                                  n_13) ∧
                                                                                              ∀ (b : Nat) (H'_6 : Heap),
                                                                                                New H'_5 b
                                                                                                    (Obj.cells
                                                                                                      {
                                                                                                        toList :=
                                                                                                          [Value.int
                                                                                                              IntKind.i64
                                                                                                              n_10,
                                                                                                            Value.int
                                                                                                              IntKind.i64
                                                                                                              (if
                                                                                                                  n_12 >
                                                                                                                    n_11 then
                                                                                                                n_12
                                                                                                              else
                                                                                                                n_11),
                                                                                                            Value.int
                                                                                                              IntKind.i64
                                                                                                              n_13] }
                                                                                                      (28 : Nat))
                                                                                                    H'_6 →
                                                                                                  SemWp Try.prog
                                                                                                    (Builtin.append_
                                                                                                      {
                                                                                                        toList :=
                                                                                                          [(22 : Nat),
                                                                                                            (22 :
                                                                                                              Nat)] }
                                                                                                      (22 : Nat)
                                                                                                      {
                                                                                                        toList :=
                                                                                                          [Value.slice
                                                                                                              a_4 n_9
                                                                                                              c_1,
                                                                                                            Value.slice
                                                                                                              (some
                                                                                                                {
                                                                                                                  block :=
                                                                                                                    b,
                                                                                                                  off :=
                                                                                                                    (0 :
                                                                                                                      Nat) })
                                                                                                              (1 : Nat)
                                                                                                              (1 :
                                                                                                                Nat)] })
                                                                                                    H'_6 fun v H'_7 =>
                                                                                                    ∃ a_6 n_14 c_2,
                                                                                                      v =
                                                                                                          Value.slice
                                                                                                            a_6 n_14
                                                                                                            c_2 ∧
                                                                                                        I
                                                                                                            [Value.slice
                                                                                                                a_6 n_14
                                                                                                                c_2,
                                                                                                              Value.int
                                                                                                                IntKind.i64
                                                                                                                (IntKind.wrap
                                                                                                                  IntKind.i64
                                                                                                                  (n_2 +
                                                                                                                    (1 :
                                                                                                                      Int)))]
                                                                                                            H'_7 ∧
                                                                                                          μ
                                                                                                              [Value.slice
                                                                                                                  a_6
                                                                                                                  n_14
                                                                                                                  c_2,
                                                                                                                Value.int
                                                                                                                  IntKind.i64
                                                                                                                  (IntKind.wrap
                                                                                                                    IntKind.i64
                                                                                                                    (n_2 +
                                                                                                                      (1 :
                                                                                                                        Int)))]
                                                                                                              H'_7 <
                                                                                                            μ
                                                                                                              [Value.slice
                                                                                                                  a n c,
                                                                                                                Value.int
                                                                                                                  IntKind.i64
                                                                                                                  n_2]
                                                                                                              H'))))
                            (CallH Try.prog (12 : Nat) { toList := [Value.slice a n c] } H' fun v H' =>
                              ∃ a n c, v = Value.slice a n c ∧ R (Value.slice a n c) H'))) :
  CallH Try.prog 17 (List.toArray [Value.slice l_a l_n l_c, Value.agg #[Value.int IntKind.i64 r_0, Value.int IntKind.i64 r_1]]) H R :=
  vc_call (annOf [([0, 1, 0, 1, 1, 1], .cut [(5, .one .slice), (6, .one (.int .i64))]), ([0, 1, 0, 0, 1, 0, 0, 1, 0, 1, 1, 1], .reg [0, 0, 0, 6, 14, 30, 0, 64, 0, 256, 0, 1024, 3840, 8128, 16382, 32766, 65535, 131071] (.quiet 0 (.quiet 1 (.quiet 2 (.quiet 3 (.quiet 4 (.quiet 5 (.quiet 6 (.quiet 7 (.quiet 8 (.quiet 9 (.quiet 10 (.quiet 11 (.quiet 12 (.quiet 13 (.quiet 14 (.pick (.alt 15 (.pick (.alt 16 (.quiet 17 .done) .stop)) .stop)))))))))))))))))), ([1, 1, 0, 0, 1, 0, 0, 1, 0, 1, 1, 1], .reg [0, 0, 0, 6, 14, 30, 0, 64, 0, 256, 960, 0, 2048, 8128, 16382, 32766, 65535, 131071] (.quiet 0 (.quiet 1 (.quiet 2 (.quiet 3 (.quiet 4 (.quiet 5 (.quiet 6 (.quiet 7 (.quiet 8 (.quiet 9 (.quiet 10 (.quiet 11 (.quiet 12 (.quiet 13 (.quiet 14 (.pick (.alt 15 (.pick (.alt 16 (.quiet 17 .done) .stop)) .stop))))))))))))))))))]) followsAll Go.Proofs.Try.func17 rfl Go.Proofs.Try.ntmps17 rfl rfl (Eq.mpr (by kernel_rfl) h)

/- 18 strandline/cover.Left
  notes: []
  places: []
  slots: [0=l, 1=id, 2=s, 3=l, 4=id, 5=s, 7=own] -/
abbrev fn_cover_Left : Nat := 18
theorem vc_cover_Left (l_a : Option Addr) (l_n : Nat) (l_c : Nat) (id : Int) (s_a : Option Addr) (s_n : Nat) (s_c : Nat) (H : Heap) (R : Value → Heap → Prop)
  (h : ∀ (b : Nat) (H' : Heap),
  New H b (Obj.cells { toList := [Value.int IntKind.i64 id] } (3 : Nat)) H' →
    CallH Try.prog (9 : Nat) { toList := [Value.slice l_a l_n l_c] } H' fun v H' =>
      ∃ a n c,
        v = Value.slice a n c ∧
          ∀ (b_1 : Nat) (H'_1 : Heap),
            New H' b_1 (Obj.cells { toList := [Value.slice none (0 : Nat) (0 : Nat)] } (22 : Nat)) H'_1 →
              ∃ H',
                St Try.prog (22 : Nat) H'_1 { block := b_1, off := (0 : Nat) } (Value.slice a n c) H' ∧
                  ∃ a n c,
                    Ld Try.prog (22 : Nat) H' { block := b_1, off := (0 : Nat) } (Value.slice a n c) ∧
                      CallH Try.prog (21 : Nat)
                        {
                          toList :=
                            [Value.slice a n c,
                              Value.func (Fn.func (32 : Nat)) { toList := [] }
                                { toList := [Value.pointer (some { block := b, off := (0 : Nat) })] }] }
                        H' fun v H' =>
                        ∃ a n c,
                          v = Value.slice a n c ∧
                            ∃ H'_2,
                              St Try.prog (22 : Nat) H' { block := b_1, off := (0 : Nat) } (Value.slice a n c) H'_2 ∧
                                CallH Try.prog (34 : Nat) { toList := [Value.slice s_a s_n s_c] } H'_2 fun v H' =>
                                  ∃ a n c,
                                    v = Value.slice a n c ∧
                                      CallH Try.prog (33 : Nat)
                                        {
                                          toList :=
                                            [Value.slice a n c,
                                              Value.func (Fn.func (35 : Nat)) { toList := [] }
                                                {
                                                  toList :=
                                                    [Value.pointer (some { block := b_1, off := (0 : Nat) })] }] }
                                        H' fun v H' => ∃ a n c, v = Value.slice a n c ∧ R (Value.slice a n c) H') :
  CallH Try.prog 18 (List.toArray [Value.slice l_a l_n l_c, Value.int IntKind.i64 id, Value.slice s_a s_n s_c]) H R :=
  vc_call (annOf []) followsAll Go.Proofs.Try.func18 rfl Go.Proofs.Try.ntmps18 rfl rfl (Eq.mpr (by kernel_rfl) h)

/- 19 strandline/strandlinelaw12.same
  notes: []
  places: []
  slots: [0=a, 1=b, 2=a, 3=b, 5=i] -/
abbrev fn_law12_same : Nat := 19
theorem vc_law12_same (a_a : Option Addr) (a_n : Nat) (a_c : Nat) (b_a : Option Addr) (b_n : Nat) (b_c : Nat) (H : Heap) (R : Value → Heap → Prop)
  (h : brB ((↑a_n : Int) != (↑b_n : Int)) (R (Value.bool false) H)
  (∃ (I : List Value → Heap → Prop) (μ : List Value → Heap → Nat),
    I [Value.int IntKind.i64 (0 : Int)] H ∧
      ∀ (J : F) (n : Int) (H' : Heap),
        I [Value.int IntKind.i64 n] H' →
          brB (decide (n < (↑a_n : Int)))
            (exSome a_a fun ad =>
              chk (decide ((0 : Int) ≤ n ∧ n < (↑a_n : Int)))
                (∃ n_1 n_2,
                  Ld Try.prog (36 : Nat) H' (Addr.add ad (Int.toNat n * (2 : Nat)))
                      (Value.agg { toList := [Value.int IntKind.i64 n_1, Value.int IntKind.i64 n_2] }) ∧
                    exSome b_a fun ad =>
                      chk (decide ((0 : Int) ≤ n ∧ n < (↑b_n : Int)))
                        (∃ n_3 n_4,
                          Ld Try.prog (36 : Nat) H' (Addr.add ad (Int.toNat n * (2 : Nat)))
                              (Value.agg { toList := [Value.int IntKind.i64 n_3, Value.int IntKind.i64 n_4] }) ∧
                            brB (!(n_1 == n_3 && (n_2 == n_4 && true))) (R (Value.bool false) H')
                              (I [Value.int IntKind.i64 (IntKind.wrap IntKind.i64 (n + (1 : Int)))] H' ∧
                                μ [Value.int IntKind.i64 (IntKind.wrap IntKind.i64 (n + (1 : Int)))] H' <
                                  μ [Value.int IntKind.i64 n] H'))))
            (R (Value.bool true) H'))) :
  CallH Try.prog 19 (List.toArray [Value.slice a_a a_n a_c, Value.slice b_a b_n b_c]) H R :=
  vc_call (annOf [([0, 1, 0, 1, 1], .cut [(5, .one (.int .i64))])]) followsAll Go.Proofs.Try.func19 rfl Go.Proofs.Try.ntmps19 rfl rfl (Eq.mpr (by kernel_rfl) h)

/- 20 strandline/strandlineref12.Left
  notes: []
  places: []
  slots: [0=l, 1=id, 2=s, 3=l, 4=id, 5=s, 7=out, 8=i] -/
abbrev fn_ref12_Left : Nat := 20
theorem vc_ref12_Left (l_a : Option Addr) (l_n : Nat) (l_c : Nat) (id : Int) (s_a : Option Addr) (s_n : Nat) (s_c : Nat) (H : Heap) (R : Value → Heap → Prop)
  (h : ∀ (b : Nat) (H' : Heap),
  New H b (Obj.cells { toList := [] } (36 : Nat)) H' →
    ∃ (I : List Value → Heap → Prop) (μ : List Value → Heap → Nat),
      I [Value.slice (some { block := b, off := (0 : Nat) }) (0 : Nat) (0 : Nat), Value.int IntKind.i64 (0 : Int)] H' ∧
        ∀ (J : F) (a : Option Addr) (n c : Nat) (n_1 : Int) (H' : Heap),
          I [Value.slice a n c, Value.int IntKind.i64 n_1] H' →
            brB (decide (n_1 < (↑s_n : Int)))
              (exSome s_a fun ad =>
                chk (decide ((0 : Int) ≤ n_1 ∧ n_1 < (↑s_n : Int)))
                  (∃ n_2,
                    Ld Try.prog (3 : Nat) H' (Addr.add ad (Int.toNat n_1 * (2 : Nat))) (Value.int IntKind.i64 n_2) ∧
                      CallH Try.prog (13 : Nat)
                        { toList := [Value.slice l_a l_n l_c, Value.int IntKind.i64 id, Value.int IntKind.i64 n_2] } H'
                        fun v H'_1 =>
                        ∃ b,
                          v = Value.bool b ∧
                            brB (!b)
                              (exSome s_a fun ad =>
                                chk (decide ((0 : Int) ≤ n_1 ∧ n_1 < (↑s_n : Int)))
                                  (∃ n_3 n_4,
                                    Ld Try.prog (36 : Nat) H'_1 (Addr.add ad (Int.toNat n_1 * (2 : Nat)))
                                        (Value.agg
                                          { toList := [Value.int IntKind.i64 n_3, Value.int IntKind.i64 n_4] }) ∧
                                      ∀ (b : Nat) (H'_2 : Heap),
                                        New H'_1 b
                                            (Obj.cells
                                              { toList := [Value.int IntKind.i64 n_3, Value.int IntKind.i64 n_4] }
                                              (36 : Nat))
                                            H'_2 →
                                          SemWp Try.prog
                                            (Builtin.append_ { toList := [(33 : Nat), (33 : Nat)] } (33 : Nat)
                                              {
                                                toList :=
                                                  [Value.slice a n c,
                                                    Value.slice (some { block := b, off := (0 : Nat) }) (1 : Nat)
                                                      (1 : Nat)] })
                                            H'_2 fun v H'_3 =>
                                            ∃ a_3 n_5 c_1,
                                              v = Value.slice a_3 n_5 c_1 ∧
                                                I
                                                    [Value.slice a_3 n_5 c_1,
                                                      Value.int IntKind.i64
                                                        (IntKind.wrap IntKind.i64 (n_1 + (1 : Int)))]
                                                    H'_3 ∧
                                                  μ
                                                      [Value.slice a_3 n_5 c_1,
                                                        Value.int IntKind.i64
                                                          (IntKind.wrap IntKind.i64 (n_1 + (1 : Int)))]
                                                      H'_3 <
                                                    μ [Value.slice a n c, Value.int IntKind.i64 n_1] H'))
                              (I [Value.slice a n c, Value.int IntKind.i64 (IntKind.wrap IntKind.i64 (n_1 + (1 : Int)))]
                                  H'_1 ∧
                                μ
                                    [Value.slice a n c,
                                      Value.int IntKind.i64 (IntKind.wrap IntKind.i64 (n_1 + (1 : Int)))]
                                    H'_1 <
                                  μ [Value.slice a n c, Value.int IntKind.i64 n_1] H')))
              (R (Value.slice a n c) H')) :
  CallH Try.prog 20 (List.toArray [Value.slice l_a l_n l_c, Value.int IntKind.i64 id, Value.slice s_a s_n s_c]) H R :=
  vc_call (annOf [([0, 1, 0, 1, 1], .cut [(7, .one .slice), (8, .one (.int .i64))])]) followsAll Go.Proofs.Try.func20 rfl Go.Proofs.Try.ntmps20 rfl rfl (Eq.mpr (by kernel_rfl) h)

/- 21 slices.DeleteFunc[[]strandline/api.Tomb,strandline/api.Tomb]
  notes: []
  places: []
  slots: [0=s, 1=del, 2=s, 3=del, 5=i, 6=j, 7=v] -/
abbrev fn_slices_DeleteFunc___api_Tomb_api_Tomb_ : Nat := 21
theorem vc_slices_DeleteFunc___api_Tomb_api_Tomb_ (s_a : Option Addr) (s_n : Nat) (s_c : Nat) (del : Value) (H : Heap) (R : Value → Heap → Prop)
  (h : CallH Try.prog (38 : Nat) { toList := [Value.slice s_a s_n s_c, del] } H fun v H' =>
  ∃ n,
    v = Value.int IntKind.i64 n ∧
      brB (n == (-1 : Int)) (R (Value.slice s_a s_n s_c) H')
        (∃ (I : List Value → Heap → Prop) (μ : List Value → Heap → Nat),
          I [Value.int IntKind.i64 n, Value.int IntKind.i64 (IntKind.wrap IntKind.i64 (n + (1 : Int)))] H' ∧
            ∀ (J : F) (n n_1 : Int) (H' : Heap),
              I [Value.int IntKind.i64 n, Value.int IntKind.i64 n_1] H' →
                brB (decide (n_1 < (↑s_n : Int)))
                  (exSome s_a fun ad =>
                    chk (decide ((0 : Int) ≤ n_1 ∧ n_1 < (↑s_n : Int)))
                      (∃ n_2 n_3 n_4,
                        Ld Try.prog (28 : Nat) H' (Addr.add ad (Int.toNat n_1 * (3 : Nat)))
                            (Value.agg
                              {
                                toList :=
                                  [Value.int IntKind.i64 n_2, Value.int IntKind.i64 n_3, Value.int IntKind.i64 n_4] }) ∧
                          ∀ (b : Nat) (H'_1 : Heap),
                            New H' b
                                (Obj.cells
                                  {
                                    toList :=
                                      [Value.int IntKind.i64 (0 : Int), Value.int IntKind.i64 (0 : Int),
                                        Value.int IntKind.i64 (0 : Int)] }
                                  (28 : Nat))
                                H'_1 →
                              ∃ H'_2,
                                St Try.prog (28 : Nat) H'_1 { block := b, off := (0 : Nat) }
                                    (Value.agg
                                      {
                                        toList :=
                                          [Value.int IntKind.i64 n_2, Value.int IntKind.i64 n_3,
                                            Value.int IntKind.i64 n_4] })
                                    H'_2 ∧
                                  ∃ n_5 n_6 n_7,
                                    Ld Try.prog (28 : Nat) H'_2 { block := b, off := (0 : Nat) }
                                        (Value.agg
                                          {
                                            toList :=
                                              [Value.int IntKind.i64 n_5, Value.int IntKind.i64 n_6,
                                                Value.int IntKind.i64 n_7] }) ∧
                                      CallV Try.prog del
                                        [Value.agg
                                            {
                                              toList :=
                                                [Value.int IntKind.i64 n_5, Value.int IntKind.i64 n_6,
                                                  Value.int IntKind.i64 n_7] }]
                                        H'_2 fun v H'_3 =>
                                        ∃ b_1,
                                          v = Value.bool b_1 ∧
                                            brB (!b_1)
                                              (∃ n_8 n_9 n_10,
                                                Ld Try.prog (28 : Nat) H'_3 { block := b, off := (0 : Nat) }
                                                    (Value.agg
                                                      {
                                                        toList :=
                                                          [Value.int IntKind.i64 n_8, Value.int IntKind.i64 n_9,
                                                            Value.int IntKind.i64 n_10] }) ∧
                                                  exSome s_a fun ad =>
                                                    chk (decide ((0 : Int) ≤ n ∧ n < (↑s_n : Int)))
                                                      (∃ H'_4,
                                                        St Try.prog (28 : Nat) H'_3
                                                            (Addr.add ad (Int.toNat n * (3 : Nat)))
                                                            (Value.agg
                                                              {
                                                                toList :=
                                                                  [Value.int IntKind.i64 n_8, Value.int IntKind.i64 n_9,
                                                                    Value.int IntKind.i64 n_10] })
                                                            H'_4 ∧
                                                          I
                                                              [Value.int IntKind.i64
                                                                  (IntKind.wrap IntKind.i64 (n + (1 : Int))),
                                                                Value.int IntKind.i64
                                                                  (IntKind.wrap IntKind.i64 (n_1 + (1 : Int)))]
                                                              H'_4 ∧
                                                            μ
                                                                [Value.int IntKind.i64
                                                                    (IntKind.wrap IntKind.i64 (n + (1 : Int))),
                                                                  Value.int IntKind.i64
                                                                    (IntKind.wrap IntKind.i64 (n_1 + (1 : Int)))]
                                                                H'_4 <
                                                              μ [Value.int IntKind.i64 n, Value.int IntKind.i64 n_1]
                                                                H'))
                                              (I
                                                  [Value.int IntKind.i64 n,
                                                    Value.int IntKind.i64 (IntKind.wrap IntKind.i64 (n_1 + (1 : Int)))]
                                                  H'_3 ∧
                                                μ
                                                    [Value.int IntKind.i64 n,
                                                      Value.int IntKind.i64
                                                        (IntKind.wrap IntKind.i64 (n_1 + (1 : Int)))]
                                                    H'_3 <
                                                  μ [Value.int IntKind.i64 n, Value.int IntKind.i64 n_1] H')))
                  (chk (decide ((0 : Int) ≤ n ∧ n ≤ (↑s_n : Int) ∧ (↑s_n : Int) ≤ (↑s_c : Int)))
                    (SemWp Try.prog
                      (Builtin.clear_ { toList := [(22 : Nat)] } (0 : Nat)
                        {
                          toList :=
                            [Value.slice (slA s_c (Int.toNat n) (3 : Nat) s_a) (Int.toNat (↑s_n : Int) - Int.toNat n)
                                (s_c - Int.toNat n)] })
                      H' fun v H' =>
                      v = Value.tuple { toList := [] } ∧
                        chk (decide ((0 : Int) ≤ (0 : Int) ∧ (0 : Int) ≤ n ∧ n ≤ (↑s_c : Int)))
                          (R (Value.slice s_a (Int.toNat n - (0 : Nat)) (s_c - (0 : Nat))) H'))))) :
  CallH Try.prog 21 (List.toArray [Value.slice s_a s_n s_c, del]) H R :=
  vc_call (annOf [([0, 1, 0, 1, 1, 1], .cut [(5, .one (.int .i64)), (6, .one (.int .i64))])]) followsAll Go.Proofs.Try.func21 rfl Go.Proofs.Try.ntmps21 rfl rfl (Eq.mpr (by kernel_rfl) h)

/- 22 slices.Clone[[]strandline/api.Tomb,strandline/api.Tomb]
  notes: []
  places: []
  slots: [0=s, 1=s] -/
abbrev fn_slices_Clone___api_Tomb_api_Tomb_ : Nat := 22
theorem vc_slices_Clone___api_Tomb_api_Tomb_ (s_a : Option Addr) (s_n : Nat) (s_c : Nat) (H : Heap) (R : Value → Heap → Prop)
  (h : brB (Option.isNone s_a) (R (Value.slice none (0 : Nat) (0 : Nat)) H)
  (∀ (b : Nat) (H' : Heap),
    New H b (Obj.cells { toList := [] } (28 : Nat)) H' →
      SemWp Try.prog
        (Builtin.append_ { toList := [(22 : Nat), (22 : Nat)] } (22 : Nat)
          {
            toList :=
              [Value.slice (some { block := b, off := (0 : Nat) }) (0 : Nat) (0 : Nat), Value.slice s_a s_n s_c] })
        H' fun v H' => ∃ a n c, v = Value.slice a n c ∧ R (Value.slice a n c) H')) :
  CallH Try.prog 22 (List.toArray [Value.slice s_a s_n s_c]) H R :=
  vc_call (annOf []) followsAll Go.Proofs.Try.func22 rfl Go.Proofs.Try.ntmps22 rfl rfl (Eq.mpr (by kernel_rfl) h)

/- 23 strandline/cover.Norm$1
  notes: []
  places: []
  slots: [0=x, 1=x] -/
abbrev fn_cover_Norm_1 : Nat := 23
theorem vc_cover_Norm_1 (x_0 : Int) (x_1 : Int) (x_2 : Int) (H : Heap) (R : Value → Heap → Prop)
  (h : ∀ (b : Nat) (H' : Heap),
  New H b
      (Obj.cells { toList := [Value.int IntKind.i64 x_0, Value.int IntKind.i64 x_1, Value.int IntKind.i64 x_2] }
        (28 : Nat))
      H' →
    ∃ n,
      Ld Try.prog (3 : Nat) H' { block := b, off := (1 : Nat) } (Value.int IntKind.i64 n) ∧
        ∃ n_1,
          Ld Try.prog (3 : Nat) H' { block := b, off := (2 : Nat) } (Value.int IntKind.i64 n_1) ∧
            R (Value.bool (decide (n ≥ n_1))) H') :
  CallH Try.prog 23 (List.toArray [Value.agg #[Value.int IntKind.i64 x_0, Value.int IntKind.i64 x_1, Value.int IntKind.i64 x_2]]) H R :=
  vc_call (annOf []) followsAll Go.Proofs.Try.func23 rfl Go.Proofs.Try.ntmps23 rfl rfl (Eq.mpr (by kernel_rfl) h)

/- 25 strandline/cover.Norm$2
  notes: []
  places: []
  slots: [0=a, 1=b, 2=a, 3=b] -/
abbrev fn_cover_Norm_2 : Nat := 25
theorem vc_cover_Norm_2 (a_0 : Int) (a_1 : Int) (a_2 : Int) (b_0 : Int) (b_1 : Int) (b_2 : Int) (H : Heap) (R : Value → Heap → Prop)
  (h : ∀ (b : Nat) (H' : Heap),
  New H b
      (Obj.cells { toList := [Value.int IntKind.i64 a_0, Value.int IntKind.i64 a_1, Value.int IntKind.i64 a_2] }
        (28 : Nat))
      H' →
    ∀ (b_3 : Nat) (H'_1 : Heap),
      New H' b_3
          (Obj.cells { toList := [Value.int IntKind.i64 b_0, Value.int IntKind.i64 b_1, Value.int IntKind.i64 b_2] }
            (28 : Nat))
          H'_1 →
        ∃ n,
          Ld Try.prog (3 : Nat) H'_1 { block := b, off := (0 : Nat) } (Value.int IntKind.i64 n) ∧
            ∃ n_1,
              Ld Try.prog (3 : Nat) H'_1 { block := b_3, off := (0 : Nat) } (Value.int IntKind.i64 n_1) ∧
                ∃ n_2,
                  Ld Try.prog (3 : Nat) H'_1 { block := b, off := (1 : Nat) } (Value.int IntKind.i64 n_2) ∧
                    ∃ n_3,
                      Ld Try.prog (3 : Nat) H'_1 { block := b_3, off := (1 : Nat) } (Value.int IntKind.i64 n_3) ∧
                        CallH Try.prog (27 : Nat) { toList := [Value.int IntKind.i64 n, Value.int IntKind.i64 n_1] }
                          H'_1 fun v H' =>
                          ∃ n,
                            v = Value.int IntKind.i64 n ∧
                              Ld Try.prog (3 : Nat) H' { block := b_3, off := (1 : Nat) } (Value.int IntKind.i64 n_3) ∧
                                Ld Try.prog (3 : Nat) H' { block := b, off := (1 : Nat) } (Value.int IntKind.i64 n_2) ∧
                                  CallH Try.prog (27 : Nat)
                                    { toList := [Value.int IntKind.i64 n_2, Value.int IntKind.i64 n_3] } H' fun v H' =>
                                    ∃ n_4,
                                      v = Value.int IntKind.i64 n_4 ∧
                                        ∀ (b : Nat) (H'_2 : Heap),
                                          New H' b
                                              (Obj.cells
                                                { toList := [Value.int IntKind.i64 n, Value.int IntKind.i64 n_4] }
                                                (3 : Nat))
                                              H'_2 →
                                            CallH Try.prog (26 : Nat)
                                              {
                                                toList :=
                                                  [Value.slice (some { block := b, off := (0 : Nat) }) (2 : Nat)
                                                      (2 : Nat)] }
                                              H'_2 fun v H' =>
                                              ∃ n, v = Value.int IntKind.i64 n ∧ R (Value.int IntKind.i64 n) H') :
  CallH Try.prog 25 (List.toArray [Value.agg #[Value.int IntKind.i64 a_0, Value.int IntKind.i64 a_1, Value.int IntKind.i64 a_2],
  Value.agg #[Value.int IntKind.i64 b_0, Value.int IntKind.i64 b_1, Value.int IntKind.i64 b_2]]) H R :=
  vc_call (annOf [([0, 1], .reg [0, 1, 0, 4, 15, 0, 32, 96, 0, 256, 768, 2047, 4095, 8191, 16383] (.quiet 0 (.quiet 1 (.quiet 2 (.quiet 3 (.quiet 5 (.quiet 6 (.quiet 7 (.quiet 8 (.quiet 9 (.quiet 10 (.pick (.alt 4 (.pick (.alt 11 (.pick (.alt 12 (.pick (.alt 13 (.quiet 14 .done) .stop)) .stop)) .stop)) .stop)))))))))))))]) followsAll Go.Proofs.Try.func25 rfl Go.Proofs.Try.ntmps25 rfl rfl (Eq.mpr (by kernel_rfl) h)

/- 26 cmp.Or[int]
  notes: []
  places: []
  slots: [0=vals, 1=vals, 3=zero, 4=_, 5=val] -/
abbrev fn_cmp_Or_int_ : Nat := 26
theorem vc_cmp_Or_int_ (vals_a : Option Addr) (vals_n : Nat) (vals_c : Nat) (H : Heap) (R : Value → Heap → Prop)
  (h : ∃ (I : List Value → Heap → Prop) (μ : List Value → Heap → Nat),
  I [Value.int IntKind.i64 (0 : Int)] H ∧
    ∀ (J : F) (n : Int) (H' : Heap),
      I [Value.int IntKind.i64 n] H' →
        brB (decide (n < (↑vals_n : Int)))
          (exSome vals_a fun ad =>
            chk (decide ((0 : Int) ≤ n ∧ n < (↑vals_n : Int)))
              (∃ n_1,
                Ld Try.prog (3 : Nat) H' (Addr.add ad (Int.toNat n * (1 : Nat))) (Value.int IntKind.i64 n_1) ∧
                  brB (n_1 != (0 : Int)) (R (Value.int IntKind.i64 n_1) H')
                    (I [Value.int IntKind.i64 (IntKind.wrap IntKind.i64 (n + (1 : Int)))] H' ∧
                      μ [Value.int IntKind.i64 (IntKind.wrap IntKind.i64 (n + (1 : Int)))] H' <
                        μ [Value.int IntKind.i64 n] H')))
          (R (Value.int IntKind.i64 (0 : Int)) H')) :
  CallH Try.prog 26 (List.toArray [Value.slice vals_a vals_n vals_c]) H R :=
  vc_call (annOf [([0, 1, 0, 1, 1], .cut [(8, .one (.int .i64))])]) followsAll Go.Proofs.Try.func26 rfl Go.Proofs.Try.ntmps26 rfl rfl (Eq.mpr (by kernel_rfl) h)

/- 27 cmp.Compare[int]
  notes: []
  places: []
  slots: [0=x, 1=y, 2=x, 3=y, 5=xNaN, 6=yNaN] -/
abbrev fn_cmp_Compare_int_ : Nat := 27
theorem vc_cmp_Compare_int_ (x : Int) (y : Int) (H : Heap) (R : Value → Heap → Prop)
  (h : CallH Try.prog (41 : Nat) { toList := [Value.int IntKind.i64 x] } H fun v H' =>
  ∃ b,
    v = Value.bool b ∧
      CallH Try.prog (41 : Nat) { toList := [Value.int IntKind.i64 y] } H' fun v H' =>
        ∃ b_1,
          v = Value.bool b_1 ∧
            brB b (brB b_1 (R (Value.int IntKind.i64 (0 : Int)) H') (R (Value.int IntKind.i64 (-1 : Int)) H'))
              (brB b_1 (R (Value.int IntKind.i64 (1 : Int)) H')
                (brB (decide (x < y)) (R (Value.int IntKind.i64 (-1 : Int)) H')
                  (brB (decide (x > y)) (R (Value.int IntKind.i64 (1 : Int)) H')
                    (R (Value.int IntKind.i64 (0 : Int)) H'))))) :
  CallH Try.prog 27 (List.toArray [Value.int IntKind.i64 x, Value.int IntKind.i64 y]) H R :=
  vc_call (annOf []) followsAll Go.Proofs.Try.func27 rfl Go.Proofs.Try.ntmps27 rfl rfl (Eq.mpr (by kernel_rfl) h)

/- 28 slices.ContainsFunc[[]strandline/api.Tomb,strandline/api.Tomb]
  notes: []
  places: []
  slots: [0=s, 1=f, 2=s, 3=f] -/
abbrev fn_slices_ContainsFunc___api_Tomb_api_Tomb_ : Nat := 28
theorem vc_slices_ContainsFunc___api_Tomb_api_Tomb_ (s_a : Option Addr) (s_n : Nat) (s_c : Nat) (f : Value) (H : Heap) (R : Value → Heap → Prop)
  (h : CallH Try.prog (38 : Nat) { toList := [Value.slice s_a s_n s_c, f] } H fun v H' =>
  ∃ n, v = Value.int IntKind.i64 n ∧ R (Value.bool (decide (n ≥ (0 : Int)))) H') :
  CallH Try.prog 28 (List.toArray [Value.slice s_a s_n s_c, f]) H R :=
  vc_call (annOf []) followsAll Go.Proofs.Try.func28 rfl Go.Proofs.Try.ntmps28 rfl rfl (Eq.mpr (by kernel_rfl) h)

/- 29 strandline/cover.Covers$1
  notes: []
  places: []
  slots: [0=x, 3=x] -/
abbrev fn_cover_Covers_1 : Nat := 29
theorem vc_cover_Covers_1 (x_0 : Int) (x_1 : Int) (x_2 : Int) (a1 : Addr) (a2 : Addr) (H : Heap) (R : Value → Heap → Prop)
  (h : ∀ (b : Nat) (H' : Heap),
  New H b
      (Obj.cells { toList := [Value.int IntKind.i64 x_0, Value.int IntKind.i64 x_1, Value.int IntKind.i64 x_2] }
        (28 : Nat))
      H' →
    ∃ n,
      Ld Try.prog (3 : Nat) H' { block := b, off := (0 : Nat) } (Value.int IntKind.i64 n) ∧
        ∃ n_1,
          Ld Try.prog (3 : Nat) H' a1 (Value.int IntKind.i64 n_1) ∧
            brB (n == n_1)
              (∃ n,
                Ld Try.prog (3 : Nat) H' { block := b, off := (1 : Nat) } (Value.int IntKind.i64 n) ∧
                  ∃ n_2,
                    Ld Try.prog (3 : Nat) H' a2 (Value.int IntKind.i64 n_2) ∧
                      brB (decide (n ≤ n_2))
                        (∃ n,
                          Ld Try.prog (3 : Nat) H' a2 (Value.int IntKind.i64 n) ∧
                            ∃ n_3,
                              Ld Try.prog (3 : Nat) H' { block := b, off := (2 : Nat) } (Value.int IntKind.i64 n_3) ∧
                                R (Value.bool (decide (n < n_3))) H')
                        (R (Value.bool false) H'))
              (R (Value.bool false) H')) :
  CallH Try.prog 29 (List.toArray [Value.agg #[Value.int IntKind.i64 x_0, Value.int IntKind.i64 x_1, Value.int IntKind.i64 x_2], Value.pointer (some a1),
  Value.pointer (some a2)]) H R :=
  vc_call (annOf []) followsAll Go.Proofs.Try.func29 rfl Go.Proofs.Try.ntmps29 rfl rfl (Eq.mpr (by kernel_rfl) h)

/- 30 strandline/strandlineref12.ahead
  notes: []
  places: []
  slots: [0=a, 1=b, 2=a, 3=b] -/
abbrev fn_ref12_ahead : Nat := 30
theorem vc_ref12_ahead (a_0 : Int) (a_1 : Int) (a_2 : Int) (b_0 : Int) (b_1 : Int) (b_2 : Int) (H : Heap) (R : Value → Heap → Prop)
  (h : ∀ (b : Nat) (H' : Heap),
  New H b
      (Obj.cells { toList := [Value.int IntKind.i64 a_0, Value.int IntKind.i64 a_1, Value.int IntKind.i64 a_2] }
        (28 : Nat))
      H' →
    ∀ (b_3 : Nat) (H'_1 : Heap),
      New H' b_3
          (Obj.cells { toList := [Value.int IntKind.i64 b_0, Value.int IntKind.i64 b_1, Value.int IntKind.i64 b_2] }
            (28 : Nat))
          H'_1 →
        ∃ n,
          Ld Try.prog (3 : Nat) H'_1 { block := b, off := (0 : Nat) } (Value.int IntKind.i64 n) ∧
            ∃ n_1,
              Ld Try.prog (3 : Nat) H'_1 { block := b_3, off := (0 : Nat) } (Value.int IntKind.i64 n_1) ∧
                brB (decide (n < n_1)) (R (Value.bool true) H'_1)
                  (∃ n,
                    Ld Try.prog (3 : Nat) H'_1 { block := b, off := (0 : Nat) } (Value.int IntKind.i64 n) ∧
                      ∃ n_2,
                        Ld Try.prog (3 : Nat) H'_1 { block := b_3, off := (0 : Nat) } (Value.int IntKind.i64 n_2) ∧
                          brB (n == n_2)
                            (∃ n,
                              Ld Try.prog (3 : Nat) H'_1 { block := b, off := (1 : Nat) } (Value.int IntKind.i64 n) ∧
                                ∃ n_3,
                                  Ld Try.prog (3 : Nat) H'_1 { block := b_3, off := (1 : Nat) }
                                      (Value.int IntKind.i64 n_3) ∧
                                    R (Value.bool (decide (n < n_3))) H'_1)
                            (R (Value.bool false) H'_1))) :
  CallH Try.prog 30 (List.toArray [Value.agg #[Value.int IntKind.i64 a_0, Value.int IntKind.i64 a_1, Value.int IntKind.i64 a_2],
  Value.agg #[Value.int IntKind.i64 b_0, Value.int IntKind.i64 b_1, Value.int IntKind.i64 b_2]]) H R :=
  vc_call (annOf []) followsAll Go.Proofs.Try.func30 rfl Go.Proofs.Try.ntmps30 rfl rfl (Eq.mpr (by kernel_rfl) h)

/- 31 strandline/cover.part
  notes: []
  places: []
  slots: [0=x, 1=from, 2=to, 3=x, 4=from, 5=to] -/
abbrev fn_cover_part : Nat := 31
theorem vc_cover_part (x_0 : Int) (x_1 : Int) (x_2 : Int) (from' : Int) (to : Int) (H : Heap) (R : Value → Heap → Prop)
  (h : ∀ (b : Nat) (H' : Heap),
  New H b
      (Obj.cells { toList := [Value.int IntKind.i64 x_0, Value.int IntKind.i64 x_1, Value.int IntKind.i64 x_2] }
        (28 : Nat))
      H' →
    ∀ (b_1 : Nat) (H'_1 : Heap),
      New H' b_1
          (Obj.cells
            {
              toList :=
                [Value.int IntKind.i64 (0 : Int), Value.int IntKind.i64 (0 : Int), Value.int IntKind.i64 (0 : Int)] }
            (28 : Nat))
          H'_1 →
        ∃ n,
          Ld Try.prog (3 : Nat) H'_1 { block := b, off := (0 : Nat) } (Value.int IntKind.i64 n) ∧
            ∃ n_1,
              Ld Try.prog (3 : Nat) H'_1 { block := b, off := (1 : Nat) } (Value.int IntKind.i64 n_1) ∧
                ∃ n_2,
                  Ld Try.prog (3 : Nat) H'_1 { block := b, off := (2 : Nat) } (Value.int IntKind.i64 n_2) ∧
                    ∃ H',
                      St Try.prog (28 : Nat) H'_1 { block := b_1, off := (0 : Nat) }
                          (Value.agg
                            {
                              toList :=
                                [Value.int IntKind.i64 n, Value.int IntKind.i64 (if from' > n_1 then from' else n_1),
                                  Value.int IntKind.i64 (if to < n_2 then to else n_2)] })
                          H' ∧
                        ∃ n n_3 n_4,
                          Ld Try.prog (28 : Nat) H' { block := b_1, off := (0 : Nat) }
                              (Value.agg
                                {
                                  toList :=
                                    [Value.int IntKind.i64 n, Value.int IntKind.i64 n_3, Value.int IntKind.i64 n_4] }) ∧
                            R
                              (Value.agg
                                {
                                  toList :=
                                    [Value.int IntKind.i64 n, Value.int IntKind.i64 n_3, Value.int IntKind.i64 n_4] })
                              H') :
  CallH Try.prog 31 (List.toArray [Value.agg #[Value.int IntKind.i64 x_0, Value.int IntKind.i64 x_1, Value.int IntKind.i64 x_2],
  Value.int IntKind.i64 from', Value.int IntKind.i64 to]) H R :=
  vc_call (annOf []) followsAll Go.Proofs.Try.func31 rfl Go.Proofs.Try.ntmps31 rfl rfl (Eq.mpr (by kernel_rfl) h)

/- 32 strandline/cover.Left$1
  notes: []
  places: []
  slots: [0=x, 2=x] -/
abbrev fn_cover_Left_1 : Nat := 32
theorem vc_cover_Left_1 (x_0 : Int) (x_1 : Int) (x_2 : Int) (a1 : Addr) (H : Heap) (R : Value → Heap → Prop)
  (h : ∀ (b : Nat) (H' : Heap),
  New H b
      (Obj.cells { toList := [Value.int IntKind.i64 x_0, Value.int IntKind.i64 x_1, Value.int IntKind.i64 x_2] }
        (28 : Nat))
      H' →
    ∃ n,
      Ld Try.prog (3 : Nat) H' { block := b, off := (0 : Nat) } (Value.int IntKind.i64 n) ∧
        ∃ n_1, Ld Try.prog (3 : Nat) H' a1 (Value.int IntKind.i64 n_1) ∧ R (Value.bool (n != n_1)) H') :
  CallH Try.prog 32 (List.toArray [Value.agg #[Value.int IntKind.i64 x_0, Value.int IntKind.i64 x_1, Value.int IntKind.i64 x_2], Value.pointer (some a1)]) H R :=
  vc_call (annOf []) followsAll Go.Proofs.Try.func32 rfl Go.Proofs.Try.ntmps32 rfl rfl (Eq.mpr (by kernel_rfl) h)

/- 33 slices.DeleteFunc[[]strandline/api.Sample,strandline/api.Sample]
  notes: []
  places: []
  slots: [0=s, 1=del, 2=s, 3=del, 5=i, 6=j, 7=v] -/
abbrev fn_slices_DeleteFunc___api_Sample_api_Sample_ : Nat := 33
theorem vc_slices_DeleteFunc___api_Sample_api_Sample_ (s_a : Option Addr) (s_n : Nat) (s_c : Nat) (del : Value) (H : Heap) (R : Value → Heap → Prop)
  (h : CallH Try.prog (42 : Nat) { toList := [Value.slice s_a s_n s_c, del] } H fun v H' =>
  ∃ n,
    v = Value.int IntKind.i64 n ∧
      brB (n == (-1 : Int)) (R (Value.slice s_a s_n s_c) H')
        (∃ (I : List Value → Heap → Prop) (μ : List Value → Heap → Nat),
          I [Value.int IntKind.i64 n, Value.int IntKind.i64 (IntKind.wrap IntKind.i64 (n + (1 : Int)))] H' ∧
            ∀ (J : F) (n n_1 : Int) (H' : Heap),
              I [Value.int IntKind.i64 n, Value.int IntKind.i64 n_1] H' →
                brB (decide (n_1 < (↑s_n : Int)))
                  (exSome s_a fun ad =>
                    chk (decide ((0 : Int) ≤ n_1 ∧ n_1 < (↑s_n : Int)))
                      (∃ n_2 n_3,
                        Ld Try.prog (36 : Nat) H' (Addr.add ad (Int.toNat n_1 * (2 : Nat)))
                            (Value.agg { toList := [Value.int IntKind.i64 n_2, Value.int IntKind.i64 n_3] }) ∧
                          ∀ (b : Nat) (H'_1 : Heap),
                            New H' b
                                (Obj.cells
                                  { toList := [Value.int IntKind.i64 (0 : Int), Value.int IntKind.i64 (0 : Int)] }
                                  (36 : Nat))
                                H'_1 →
                              ∃ H'_2,
                                St Try.prog (36 : Nat) H'_1 { block := b, off := (0 : Nat) }
                                    (Value.agg { toList := [Value.int IntKind.i64 n_2, Value.int IntKind.i64 n_3] })
                                    H'_2 ∧
                                  ∃ n_4 n_5,
                                    Ld Try.prog (36 : Nat) H'_2 { block := b, off := (0 : Nat) }
                                        (Value.agg
                                          { toList := [Value.int IntKind.i64 n_4, Value.int IntKind.i64 n_5] }) ∧
                                      CallV Try.prog del
                                        [Value.agg { toList := [Value.int IntKind.i64 n_4, Value.int IntKind.i64 n_5] }]
                                        H'_2 fun v H'_3 =>
                                        ∃ b_1,
                                          v = Value.bool b_1 ∧
                                            brB (!b_1)
                                              (∃ n_6 n_7,
                                                Ld Try.prog (36 : Nat) H'_3 { block := b, off := (0 : Nat) }
                                                    (Value.agg
                                                      {
                                                        toList :=
                                                          [Value.int IntKind.i64 n_6, Value.int IntKind.i64 n_7] }) ∧
                                                  exSome s_a fun ad =>
                                                    chk (decide ((0 : Int) ≤ n ∧ n < (↑s_n : Int)))
                                                      (∃ H'_4,
                                                        St Try.prog (36 : Nat) H'_3
                                                            (Addr.add ad (Int.toNat n * (2 : Nat)))
                                                            (Value.agg
                                                              {
                                                                toList :=
                                                                  [Value.int IntKind.i64 n_6,
                                                                    Value.int IntKind.i64 n_7] })
                                                            H'_4 ∧
                                                          I
                                                              [Value.int IntKind.i64
                                                                  (IntKind.wrap IntKind.i64 (n + (1 : Int))),
                                                                Value.int IntKind.i64
                                                                  (IntKind.wrap IntKind.i64 (n_1 + (1 : Int)))]
                                                              H'_4 ∧
                                                            μ
                                                                [Value.int IntKind.i64
                                                                    (IntKind.wrap IntKind.i64 (n + (1 : Int))),
                                                                  Value.int IntKind.i64
                                                                    (IntKind.wrap IntKind.i64 (n_1 + (1 : Int)))]
                                                                H'_4 <
                                                              μ [Value.int IntKind.i64 n, Value.int IntKind.i64 n_1]
                                                                H'))
                                              (I
                                                  [Value.int IntKind.i64 n,
                                                    Value.int IntKind.i64 (IntKind.wrap IntKind.i64 (n_1 + (1 : Int)))]
                                                  H'_3 ∧
                                                μ
                                                    [Value.int IntKind.i64 n,
                                                      Value.int IntKind.i64
                                                        (IntKind.wrap IntKind.i64 (n_1 + (1 : Int)))]
                                                    H'_3 <
                                                  μ [Value.int IntKind.i64 n, Value.int IntKind.i64 n_1] H')))
                  (chk (decide ((0 : Int) ≤ n ∧ n ≤ (↑s_n : Int) ∧ (↑s_n : Int) ≤ (↑s_c : Int)))
                    (SemWp Try.prog
                      (Builtin.clear_ { toList := [(33 : Nat)] } (0 : Nat)
                        {
                          toList :=
                            [Value.slice (slA s_c (Int.toNat n) (2 : Nat) s_a) (Int.toNat (↑s_n : Int) - Int.toNat n)
                                (s_c - Int.toNat n)] })
                      H' fun v H' =>
                      v = Value.tuple { toList := [] } ∧
                        chk (decide ((0 : Int) ≤ (0 : Int) ∧ (0 : Int) ≤ n ∧ n ≤ (↑s_c : Int)))
                          (R (Value.slice s_a (Int.toNat n - (0 : Nat)) (s_c - (0 : Nat))) H'))))) :
  CallH Try.prog 33 (List.toArray [Value.slice s_a s_n s_c, del]) H R :=
  vc_call (annOf [([0, 1, 0, 1, 1, 1], .cut [(5, .one (.int .i64)), (6, .one (.int .i64))])]) followsAll Go.Proofs.Try.func33 rfl Go.Proofs.Try.ntmps33 rfl rfl (Eq.mpr (by kernel_rfl) h)

/- 34 slices.Clone[[]strandline/api.Sample,strandline/api.Sample]
  notes: []
  places: []
  slots: [0=s, 1=s] -/
abbrev fn_slices_Clone___api_Sample_api_Sample_ : Nat := 34
theorem vc_slices_Clone___api_Sample_api_Sample_ (s_a : Option Addr) (s_n : Nat) (s_c : Nat) (H : Heap) (R : Value → Heap → Prop)
  (h : brB (Option.isNone s_a) (R (Value.slice none (0 : Nat) (0 : Nat)) H)
  (∀ (b : Nat) (H' : Heap),
    New H b (Obj.cells { toList := [] } (36 : Nat)) H' →
      SemWp Try.prog
        (Builtin.append_ { toList := [(33 : Nat), (33 : Nat)] } (33 : Nat)
          {
            toList :=
              [Value.slice (some { block := b, off := (0 : Nat) }) (0 : Nat) (0 : Nat), Value.slice s_a s_n s_c] })
        H' fun v H' => ∃ a n c, v = Value.slice a n c ∧ R (Value.slice a n c) H')) :
  CallH Try.prog 34 (List.toArray [Value.slice s_a s_n s_c]) H R :=
  vc_call (annOf []) followsAll Go.Proofs.Try.func34 rfl Go.Proofs.Try.ntmps34 rfl rfl (Eq.mpr (by kernel_rfl) h)

/- 35 strandline/cover.Left$2
  notes: []
  places: []
  slots: [0=x, 2=x, 4=i] -/
abbrev fn_cover_Left_2 : Nat := 35
theorem vc_cover_Left_2 (x_0 : Int) (x_1 : Int) (a1 : Addr) (H : Heap) (R : Value → Heap → Prop)
  (h : ∀ (b : Nat) (H' : Heap),
  New H b (Obj.cells { toList := [Value.int IntKind.i64 x_0, Value.int IntKind.i64 x_1] } (36 : Nat)) H' →
    ∃ a n c,
      Ld Try.prog (22 : Nat) H' a1 (Value.slice a n c) ∧
        CallH Try.prog (36 : Nat)
          {
            toList :=
              [Value.int IntKind.i64 (↑n : Int),
                Value.func (Fn.func (37 : Nat)) { toList := [] }
                  { toList := [Value.pointer (some a1), Value.pointer (some { block := b, off := (0 : Nat) })] }] }
          H' fun v H' =>
          ∃ n,
            v = Value.int IntKind.i64 n ∧
              ∃ a n_1 c,
                Ld Try.prog (22 : Nat) H' a1 (Value.slice a n_1 c) ∧
                  brB (decide (n < (↑n_1 : Int)))
                    (∃ a n_2 c,
                      Ld Try.prog (22 : Nat) H' a1 (Value.slice a n_2 c) ∧
                        exSome a fun ad =>
                          chk (decide ((0 : Int) ≤ n ∧ n < (↑n_2 : Int)))
                            (∃ n_3,
                              Ld Try.prog (3 : Nat) H' (Addr.add (Addr.add ad (Int.toNat n * (3 : Nat))) (1 : Nat))
                                  (Value.int IntKind.i64 n_3) ∧
                                ∃ n,
                                  Ld Try.prog (3 : Nat) H' { block := b, off := (0 : Nat) } (Value.int IntKind.i64 n) ∧
                                    R (Value.bool (decide (n_3 ≤ n))) H'))
                    (R (Value.bool false) H')) :
  CallH Try.prog 35 (List.toArray [Value.agg #[Value.int IntKind.i64 x_0, Value.int IntKind.i64 x_1], Value.pointer (some a1)]) H R :=
  vc_call (annOf []) followsAll Go.Proofs.Try.func35 rfl Go.Proofs.Try.ntmps35 rfl rfl (Eq.mpr (by kernel_rfl) h)

/- 36 sort.Search
  notes: []
  places: []
  slots: [0=n, 1=f, 2=n, 3=f, 5=i, 6=j, 7=h] -/
abbrev fn_sort_Search : Nat := 36
theorem vc_sort_Search (n : Int) (f : Value) (H : Heap) (R : Value → Heap → Prop)
  (h : ∃ (I : List Value → Heap → Prop) (μ : List Value → Heap → Nat),
  I [Value.int IntKind.i64 (0 : Int), Value.int IntKind.i64 n] H ∧
    ∀ (J : F) (n n_1 : Int) (H' : Heap),
      I [Value.int IntKind.i64 n, Value.int IntKind.i64 n_1] H' →
        brB (decide (n < n_1))
          (CallV Try.prog f
            [Value.int IntKind.i64
                (IntKind.wrap IntKind.i64
                  (Int.fdiv (IntKind.wrap IntKind.u64 (IntKind.wrap IntKind.i64 (n + n_1))) ((2 : Int) ^ (1 : Nat))))]
            H' fun v H'_1 =>
            ∃ b,
              v = Value.bool b ∧
                brB (!b)
                  (I
                      [Value.int IntKind.i64
                          (IntKind.wrap IntKind.i64
                            (IntKind.wrap IntKind.i64
                                (Int.fdiv (IntKind.wrap IntKind.u64 (IntKind.wrap IntKind.i64 (n + n_1)))
                                  ((2 : Int) ^ (1 : Nat))) +
                              (1 : Int))),
                        Value.int IntKind.i64 n_1]
                      H'_1 ∧
                    μ
                        [Value.int IntKind.i64
                            (IntKind.wrap IntKind.i64
                              (IntKind.wrap IntKind.i64
                                  (Int.fdiv (IntKind.wrap IntKind.u64 (IntKind.wrap IntKind.i64 (n + n_1)))
                                    ((2 : Int) ^ (1 : Nat))) +
                                (1 : Int))),
                          Value.int IntKind.i64 n_1]
                        H'_1 <
                      μ [Value.int IntKind.i64 n, Value.int IntKind.i64 n_1] H')
                  (I
                      [Value.int IntKind.i64 n,
                        Value.int IntKind.i64
                          (IntKind.wrap IntKind.i64
                            (Int.fdiv (IntKind.wrap IntKind.u64 (IntKind.wrap IntKind.i64 (n + n_1)))
                              ((2 : Int) ^ (1 : Nat))))]
                      H'_1 ∧
                    μ
                        [Value.int IntKind.i64 n,
                          Value.int IntKind.i64
                            (IntKind.wrap IntKind.i64
                              (Int.fdiv (IntKind.wrap IntKind.u64 (IntKind.wrap IntKind.i64 (n + n_1)))
                                ((2 : Int) ^ (1 : Nat))))]
                        H'_1 <
                      μ [Value.int IntKind.i64 n, Value.int IntKind.i64 n_1] H'))
          (R (Value.int IntKind.i64 n) H')) :
  CallH Try.prog 36 (List.toArray [Value.int IntKind.i64 n, f]) H R :=
  vc_call (annOf [([0, 0, 1, 1], .cut [(5, .one (.int .i64)), (6, .one (.int .i64))])]) followsAll Go.Proofs.Try.func36 rfl Go.Proofs.Try.ntmps36 rfl rfl (Eq.mpr (by kernel_rfl) h)

/- 37 strandline/cover.Left$2$1
  notes: []
  places: []
  slots: [0=i, 3=i] -/
abbrev fn_cover_Left_2_1 : Nat := 37
theorem vc_cover_Left_2_1 (i : Int) (a1 : Addr) (a2 : Addr) (H : Heap) (R : Value → Heap → Prop)
  (h : ∃ a n c,
  Ld Try.prog (22 : Nat) H a1 (Value.slice a n c) ∧
    exSome a fun ad =>
      chk (decide ((0 : Int) ≤ i ∧ i < (↑n : Int)))
        (∃ n,
          Ld Try.prog (3 : Nat) H (Addr.add (Addr.add (Addr.add ad (Int.toNat i * (3 : Nat))) (1 : Nat)) (1 : Nat))
              (Value.int IntKind.i64 n) ∧
            ∃ n_1, Ld Try.prog (3 : Nat) H a2 (Value.int IntKind.i64 n_1) ∧ R (Value.bool (decide (n > n_1))) H)) :
  CallH Try.prog 37 (List.toArray [Value.int IntKind.i64 i, Value.pointer (some a1), Value.pointer (some a2)]) H R :=
  vc_call (annOf []) followsAll Go.Proofs.Try.func37 rfl Go.Proofs.Try.ntmps37 rfl rfl (Eq.mpr (by kernel_rfl) h)

/- 38 slices.IndexFunc[[]strandline/api.Tomb,strandline/api.Tomb]
  notes: []
  places: []
  slots: [0=s, 1=f, 2=s, 3=f, 5=i] -/
abbrev fn_slices_IndexFunc___api_Tomb_api_Tomb_ : Nat := 38
theorem vc_slices_IndexFunc___api_Tomb_api_Tomb_ (s_a : Option Addr) (s_n : Nat) (s_c : Nat) (f : Value) (H : Heap) (R : Value → Heap → Prop)
  (h : ∃ (I : List Value → Heap → Prop) (μ : List Value → Heap → Nat),
  I [Value.int IntKind.i64 (0 : Int)] H ∧
    ∀ (J : F) (n : Int) (H' : Heap),
      I [Value.int IntKind.i64 n] H' →
        brB (decide (n < (↑s_n : Int)))
          (exSome s_a fun ad =>
            chk (decide ((0 : Int) ≤ n ∧ n < (↑s_n : Int)))
              (∃ n_1 n_2 n_3,
                Ld Try.prog (28 : Nat) H' (Addr.add ad (Int.toNat n * (3 : Nat)))
                    (Value.agg
                      { toList := [Value.int IntKind.i64 n_1, Value.int IntKind.i64 n_2, Value.int IntKind.i64 n_3] }) ∧
                  CallV Try.prog f
                    [Value.agg
                        { toList := [Value.int IntKind.i64 n_1, Value.int IntKind.i64 n_2, Value.int IntKind.i64 n_3] }]
                    H' fun v H'_1 =>
                    ∃ b,
                      v = Value.bool b ∧
                        brB b (R (Value.int IntKind.i64 n) H'_1)
                          (I [Value.int IntKind.i64 (IntKind.wrap IntKind.i64 (n + (1 : Int)))] H'_1 ∧
                            μ [Value.int IntKind.i64 (IntKind.wrap IntKind.i64 (n + (1 : Int)))] H'_1 <
                              μ [Value.int IntKind.i64 n] H')))
          (R (Value.int IntKind.i64 (-1 : Int)) H')) :
  CallH Try.prog 38 (List.toArray [Value.slice s_a s_n s_c, f]) H R :=
  vc_call (annOf [([0, 1, 0, 1], .cut [(8, .one (.int .i64))])]) followsAll Go.Proofs.Try.func38 rfl Go.Proofs.Try.ntmps38 rfl rfl (Eq.mpr (by kernel_rfl) h)

/- 41 cmp.isNaN[int]
  notes: []
  places: []
  slots: [0=x, 1=x] -/
abbrev fn_cmp_isNaN_int_ : Nat := 41
theorem vc_cmp_isNaN_int_ (x : Int) (H : Heap) (R : Value → Heap → Prop)
  (h : R (Value.bool (x != x)) H) :
  CallH Try.prog 41 (List.toArray [Value.int IntKind.i64 x]) H R :=
  vc_call (annOf []) followsAll Go.Proofs.Try.func41 rfl Go.Proofs.Try.ntmps41 rfl rfl (Eq.mpr (by kernel_rfl) h)

/- 42 slices.IndexFunc[[]strandline/api.Sample,strandline/api.Sample]
  notes: []
  places: []
  slots: [0=s, 1=f, 2=s, 3=f, 5=i] -/
abbrev fn_slices_IndexFunc___api_Sample_api_Sample_ : Nat := 42
theorem vc_slices_IndexFunc___api_Sample_api_Sample_ (s_a : Option Addr) (s_n : Nat) (s_c : Nat) (f : Value) (H : Heap) (R : Value → Heap → Prop)
  (h : ∃ (I : List Value → Heap → Prop) (μ : List Value → Heap → Nat),
  I [Value.int IntKind.i64 (0 : Int)] H ∧
    ∀ (J : F) (n : Int) (H' : Heap),
      I [Value.int IntKind.i64 n] H' →
        brB (decide (n < (↑s_n : Int)))
          (exSome s_a fun ad =>
            chk (decide ((0 : Int) ≤ n ∧ n < (↑s_n : Int)))
              (∃ n_1 n_2,
                Ld Try.prog (36 : Nat) H' (Addr.add ad (Int.toNat n * (2 : Nat)))
                    (Value.agg { toList := [Value.int IntKind.i64 n_1, Value.int IntKind.i64 n_2] }) ∧
                  CallV Try.prog f [Value.agg { toList := [Value.int IntKind.i64 n_1, Value.int IntKind.i64 n_2] }] H'
                    fun v H'_1 =>
                    ∃ b,
                      v = Value.bool b ∧
                        brB b (R (Value.int IntKind.i64 n) H'_1)
                          (I [Value.int IntKind.i64 (IntKind.wrap IntKind.i64 (n + (1 : Int)))] H'_1 ∧
                            μ [Value.int IntKind.i64 (IntKind.wrap IntKind.i64 (n + (1 : Int)))] H'_1 <
                              μ [Value.int IntKind.i64 n] H')))
          (R (Value.int IntKind.i64 (-1 : Int)) H')) :
  CallH Try.prog 42 (List.toArray [Value.slice s_a s_n s_c, f]) H R :=
  vc_call (annOf [([0, 1, 0, 1], .cut [(8, .one (.int .i64))])]) followsAll Go.Proofs.Try.func42 rfl Go.Proofs.Try.ntmps42 rfl rfl (Eq.mpr (by kernel_rfl) h)
end Go.Proofs
