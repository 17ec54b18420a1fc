/- A part of a proof: see the last text of this claim. -/
import Derived.Test.YtnkkjfgelgdgcaaGvCore
import Derived.Test.YtnkkjfgelgdgcaaRows
set_option linter.unusedVariables false
set_option maxRecDepth 100000
open Go Go.GV
namespace Go.Proofs
theorem followsAll : Try.prog.follows .mixedOrders = true := by kernel_rfl

/- 3 strandline/strandlinelaw18.PolicyApart
  notes: []
  places: [([1], law.go:105 | law.go:108), ([0, 1], law.go:105 | law.go:106), ([1, 0, 0, 1, 0, 1, 1, 1, 1], law.go:111 | law.go:110), ([1, 0, 0, 1, 0, 0, 1, 0, 1, 1, 1, 1], law.go:112 | law.go:118), ([1, 1, 1, 1, 1, 1], law.go:124 | law.go:127), ([1, 1, 1, 1, 1, 1, 1, 1, 1, 1, 1, 1], law.go:132 | )]
  slots: [0=l, 1=day, 2=a, 3=b, 4=kind, 5=l, 6=day, 7=a, 8=b, 9=kind, 11=p, 12=q, 13=i, 14=o, 15=k, 16=x, 17=y, 18=u, 19=v] -/
abbrev fn_law18_PolicyApart : Nat := 3
theorem vc_law18_PolicyApart (l_a : Option Addr) (l_n : Nat) (l_c : Nat) (day : Int) (a : Int) (b : Int) (kind : Bool) (H : Heap) (R : Value → Heap → Prop)
  (h : brB (decide ((↑l_n : Int) > (200 : Int)))
  (CallH Try.prog (7 : Nat) { toList := [] } H fun v H' => ∃ b, v = Value.bool b ∧ R (Value.bool b) H')
  (CallH Try.prog (7 : Nat) { toList := [] } H fun v H' =>
    ∃ b_1,
      v = Value.bool b_1 ∧
        brB (!b_1)
          (CallH Try.prog (7 : Nat) { toList := [] } H' fun v H' => ∃ b, v = Value.bool b ∧ R (Value.bool b) H')
          (CallH Try.prog (8 : Nat) { toList := [] } H' fun v H' =>
            ∃ a_1,
              v = Value.pointer a_1 ∧
                CallH Try.prog (8 : Nat) { toList := [] } H' fun v H' =>
                  ∃ a_2,
                    v = Value.pointer a_2 ∧
                      ∃ (I : List Value → Heap → Prop) (μ : List Value → Heap → Nat),
                        I [Value.int IntKind.i64 (0 : Int)] H' ∧
                          ∀ (J : F) (n : Int) (H' : Heap),
                            I [Value.int IntKind.i64 n] H' →
                              brB (decide (n < (↑l_n : Int)))
                                (exSome l_a fun ad =>
                                  chk (decide ((0 : Int) ≤ n ∧ n < (↑l_n : Int)))
                                    (∃ n_1 n_2 n_3 n_4,
                                      Ld Try.prog (28 : Nat) H' (Addr.add ad (Int.toNat n * (4 : Nat)))
                                          (Value.agg
                                            {
                                              toList :=
                                                [Value.int IntKind.i64 n_1, Value.int IntKind.i64 n_2,
                                                  Value.int IntKind.i64 n_3, Value.int IntKind.i64 n_4] }) ∧
                                        ∀ (b : Nat) (H'_1 : Heap),
                                          New H' b
                                              (Obj.cells
                                                {
                                                  toList :=
                                                    [Value.int IntKind.i64 (0 : Int), Value.int IntKind.i64 (0 : Int),
                                                      Value.int IntKind.i64 (0 : Int),
                                                      Value.int IntKind.i64 (0 : Int)] }
                                                (28 : Nat))
                                              H'_1 →
                                            ∃ H'_2,
                                              St Try.prog (28 : Nat) H'_1 { block := b, off := (0 : Nat) }
                                                  (Value.agg
                                                    {
                                                      toList :=
                                                        [Value.int IntKind.i64 n_1, Value.int IntKind.i64 n_2,
                                                          Value.int IntKind.i64 n_3, Value.int IntKind.i64 n_4] })
                                                  H'_2 ∧
                                                ∃ (M : List Value → Heap → Prop),
                                                  (∃ n,
                                                      Ld Try.prog (3 : Nat) H'_2 { block := b, off := (0 : Nat) }
                                                          (Value.int IntKind.i64 n) ∧
                                                        brB (n == (0 : Int))
                                                          (∃ n,
                                                            Ld Try.prog (3 : Nat) H'_2 { block := b, off := (1 : Nat) }
                                                                (Value.int IntKind.i64 n) ∧
                                                              ∃ n_5,
                                                                Ld Try.prog (3 : Nat) H'_2
                                                                    { block := b, off := (2 : Nat) }
                                                                    (Value.int IntKind.i64 n_5) ∧
                                                                  ∃ n_6,
                                                                    Ld Try.prog (3 : Nat) H'_2
                                                                        { block := b, off := (3 : Nat) }
                                                                        (Value.int IntKind.i64 n_6) ∧
                                                                      CallH Try.prog (9 : Nat)
                                                                        {
                                                                          toList :=
                                                                            [Value.pointer a_1, Value.int IntKind.i64 n,
                                                                              Value.int IntKind.i64 n_5,
                                                                              Value.int IntKind.i64 n_6] }
                                                                        H'_2 fun v H' =>
                                                                        v = Value.tuple { toList := [] } ∧
                                                                          ∃ n,
                                                                            Ld Try.prog (3 : Nat) H'
                                                                                { block := b, off := (1 : Nat) }
                                                                                (Value.int IntKind.i64 n) ∧
                                                                              brB (n == day)
                                                                                (∃ n,
                                                                                  Ld Try.prog (3 : Nat) H'
                                                                                      { block := b, off := (1 : Nat) }
                                                                                      (Value.int IntKind.i64 n) ∧
                                                                                    ∃ n_7,
                                                                                      Ld Try.prog (3 : Nat) H'
                                                                                          { block := b,
                                                                                            off := (2 : Nat) }
                                                                                          (Value.int IntKind.i64 n_7) ∧
                                                                                        ∃ n_8,
                                                                                          Ld Try.prog (3 : Nat) H'
                                                                                              { block := b,
                                                                                                off := (3 : Nat) }
                                                                                              (Value.int IntKind.i64
                                                                                                n_8) ∧
                                                                                            CallH Try.prog (9 : Nat)
                                                                                              {
                                                                                                toList :=
                                                                                                  [Value.pointer a_2,
                                                                                                    Value.int
                                                                                                      IntKind.i64 n,
                                                                                                    Value.int
                                                                                                      IntKind.i64 n_7,
                                                                                                    Value.int
                                                                                                      IntKind.i64 n_8] }
                                                                                              H' fun v H' =>
                                                                                              v =
                                                                                                  Value.tuple
                                                                                                    { toList := [] } ∧
                                                                                                M [] H')
                                                                                (M [] H'))
                                                          (M [] H'_2)) ∧
                                                    ∀ (J : F) (H'_3 : Heap),
                                                      M [] H'_3 →
                                                        ∃ n_5,
                                                          Ld Try.prog (3 : Nat) H'_3 { block := b, off := (0 : Nat) }
                                                              (Value.int IntKind.i64 n_5) ∧
                                                            brB (n_5 == (1 : Int))
                                                              (CallH Try.prog (10 : Nat)
                                                                { toList := [Value.pointer a_1] } H'_3 fun v H'_4 =>
                                                                v = Value.tuple { toList := [] } ∧
                                                                  CallH Try.prog (10 : Nat)
                                                                    { toList := [Value.pointer a_2] } H'_4 fun v H'_5 =>
                                                                    v = Value.tuple { toList := [] } ∧
                                                                      I
                                                                          [Value.int IntKind.i64
                                                                              (IntKind.wrap IntKind.i64
                                                                                (n + (1 : Int)))]
                                                                          H'_5 ∧
                                                                        μ
                                                                            [Value.int IntKind.i64
                                                                                (IntKind.wrap IntKind.i64
                                                                                  (n + (1 : Int)))]
                                                                            H'_5 <
                                                                          μ [Value.int IntKind.i64 n] H')
                                                              (I
                                                                  [Value.int IntKind.i64
                                                                      (IntKind.wrap IntKind.i64 (n + (1 : Int)))]
                                                                  H'_3 ∧
                                                                μ
                                                                    [Value.int IntKind.i64
                                                                        (IntKind.wrap IntKind.i64 (n + (1 : Int)))]
                                                                    H'_3 <
                                                                  μ [Value.int IntKind.i64 n] H')))
                                (∃ (M : List Value → Heap → Prop),
                                  brB kind (M [Value.int IntKind.i64 (1 : Int)] H')
                                      (M [Value.int IntKind.i64 (0 : Int)] H') ∧
                                    ∀ (J : F) (n : Int) (H' : Heap),
                                      M [Value.int IntKind.i64 n] H' →
                                        CallH Try.prog (9 : Nat)
                                          {
                                            toList :=
                                              [Value.pointer a_1, Value.int IntKind.i64 day, Value.int IntKind.i64 n,
                                                Value.int IntKind.i64 (IntKind.wrap IntKind.i64 a)] }
                                          H' fun v H' =>
                                          v = Value.tuple { toList := [] } ∧
                                            CallH Try.prog (9 : Nat)
                                              {
                                                toList :=
                                                  [Value.pointer a_1, Value.int IntKind.i64 day,
                                                    Value.int IntKind.i64 n,
                                                    Value.int IntKind.i64 (IntKind.wrap IntKind.i64 b)] }
                                              H' fun v H' =>
                                              v = Value.tuple { toList := [] } ∧
                                                CallH Try.prog (9 : Nat)
                                                  {
                                                    toList :=
                                                      [Value.pointer a_2, Value.int IntKind.i64 day,
                                                        Value.int IntKind.i64 n,
                                                        Value.int IntKind.i64
                                                          (IntKind.wrap IntKind.i64
                                                            (IntKind.wrap IntKind.i64 a +
                                                              IntKind.wrap IntKind.i64 b))] }
                                                  H' fun v H' =>
                                                  v = Value.tuple { toList := [] } ∧
                                                    CallH Try.prog (11 : Nat)
                                                      { toList := [Value.pointer a_1, Value.int IntKind.i64 day] } H'
                                                      fun v H' =>
                                                      ∃ n n_1,
                                                        v =
                                                            Value.tuple
                                                              {
                                                                toList :=
                                                                  [Value.int IntKind.i64 n,
                                                                    Value.int IntKind.i64 n_1] } ∧
                                                          CallH Try.prog (11 : Nat)
                                                            { toList := [Value.pointer a_2, Value.int IntKind.i64 day] }
                                                            H' fun v H' =>
                                                            ∃ n_2 n_3,
                                                              v =
                                                                  Value.tuple
                                                                    {
                                                                      toList :=
                                                                        [Value.int IntKind.i64 n_2,
                                                                          Value.int IntKind.i64 n_3] } ∧
                                                                brB (n == n_2)
                                                                  (brB (n_1 == n_3)
                                                                    (CallH Try.prog (12 : Nat)
                                                                      {
                                                                        toList :=
                                                                          [Value.pointer a_1, Value.int IntKind.i64 day,
                                                                            Value.int IntKind.i64 (0 : Int)] }
                                                                      H' fun v H' =>
                                                                      ∃ n,
                                                                        v = Value.int IntKind.i64 n ∧
                                                                          CallH Try.prog (12 : Nat)
                                                                            {
                                                                              toList :=
                                                                                [Value.pointer a_2,
                                                                                  Value.int IntKind.i64 day,
                                                                                  Value.int IntKind.i64 (0 : Int)] }
                                                                            H' fun v H' =>
                                                                            ∃ n_4,
                                                                              v = Value.int IntKind.i64 n_4 ∧
                                                                                brB (n == n_4)
                                                                                  (CallH Try.prog (12 : Nat)
                                                                                    {
                                                                                      toList :=
                                                                                        [Value.pointer a_1,
                                                                                          Value.int IntKind.i64 day,
                                                                                          Value.int IntKind.i64
                                                                                            (1 : Int)] }
                                                                                    H' fun v H' =>
                                                                                    ∃ n,
                                                                                      v = Value.int IntKind.i64 n ∧
                                                                                        CallH Try.prog (12 : Nat)
                                                                                          {
                                                                                            toList :=
                                                                                              [Value.pointer a_2,
                                                                                                Value.int IntKind.i64
                                                                                                  day,
                                                                                                Value.int IntKind.i64
                                                                                                  (1 : Int)] }
                                                                                          H' fun v H' =>
                                                                                          ∃ n_5,
                                                                                            v =
                                                                                                Value.int IntKind.i64
                                                                                                  n_5 ∧
                                                                                              R (Value.bool (n == n_5))
                                                                                                H')
                                                                                  (R (Value.bool false) H'))
                                                                    (R (Value.bool false) H'))
                                                                  (R (Value.bool false) H'))))) :
  CallH Try.prog 3 (List.toArray [Value.slice l_a l_n l_c, Value.int IntKind.i64 day, Value.int IntKind.u16 a, Value.int IntKind.u16 b, Value.bool kind]) H R :=
  vc_call (annOf [([0, 1, 0, 1, 1, 1, 1], .cut [(13, .one (.int .i64))]), ([1, 0, 0, 1, 0, 0, 1, 0, 1, 1, 1, 1], .cut []), ([1, 1, 1, 1, 1, 1], .cut [(15, .one (.int .i64))])]) followsAll Go.Proofs.Try.func3 rfl Go.Proofs.Try.ntmps3 rfl rfl (Eq.mpr (by kernel_rfl) h)

/- 4 strandline/strandlinelaw18.PolicyRests
  notes: []
  places: [([1], law.go:65 | law.go:68), ([0, 1], law.go:65 | law.go:66), ([1, 1, 1, 1, 1, 1], law.go:74 | law.go:77), ([1, 1, 1, 1, 1, 1, 1, 1], law.go:78 | )]
  slots: [0=l, 1=day, 2=layout, 3=l, 4=day, 5=layout, 7=p, 8=r, 9=i, 10=k, 11=w] -/
abbrev fn_law18_PolicyRests : Nat := 4
theorem vc_law18_PolicyRests (l_a : Option Addr) (l_n : Nat) (l_c : Nat) (day : Int) (layout : Bool) (H : Heap) (R : Value → Heap → Prop)
  (h : brB (decide ((↑l_n : Int) > (200 : Int)))
  (CallH Try.prog (7 : Nat) { toList := [] } H fun v H' => ∃ b, v = Value.bool b ∧ R (Value.bool b) H')
  (CallH Try.prog (7 : Nat) { toList := [] } H fun v H' =>
    ∃ b,
      v = Value.bool b ∧
        brB (!b) (CallH Try.prog (7 : Nat) { toList := [] } H' fun v H' => ∃ b, v = Value.bool b ∧ R (Value.bool b) H')
          (CallH Try.prog (8 : Nat) { toList := [] } H' fun v H' =>
            ∃ a,
              v = Value.pointer a ∧
                CallH Try.prog (13 : Nat) { toList := [] } H' fun v H' =>
                  ∃ a_1,
                    v = Value.pointer a_1 ∧
                      ∃ (I : List Value → Heap → Prop) (μ : List Value → Heap → Nat),
                        I [Value.int IntKind.i64 (0 : Int)] H' ∧
                          ∀ (J : F) (n : Int) (H' : Heap),
                            I [Value.int IntKind.i64 n] H' →
                              brB (decide (n < (↑l_n : Int)))
                                (exSome l_a fun ad =>
                                  chk (decide ((0 : Int) ≤ n ∧ n < (↑l_n : Int)))
                                    (∃ n_1 n_2 n_3 n_4,
                                      Ld Try.prog (28 : Nat) H' (Addr.add ad (Int.toNat n * (4 : Nat)))
                                          (Value.agg
                                            {
                                              toList :=
                                                [Value.int IntKind.i64 n_1, Value.int IntKind.i64 n_2,
                                                  Value.int IntKind.i64 n_3, Value.int IntKind.i64 n_4] }) ∧
                                        CallH Try.prog (14 : Nat)
                                          {
                                            toList :=
                                              [Value.pointer a, Value.pointer a_1,
                                                Value.agg
                                                  {
                                                    toList :=
                                                      [Value.int IntKind.i64 n_1, Value.int IntKind.i64 n_2,
                                                        Value.int IntKind.i64 n_3, Value.int IntKind.i64 n_4] }] }
                                          H' fun v H'_1 =>
                                          v = Value.tuple { toList := [] } ∧
                                            I [Value.int IntKind.i64 (IntKind.wrap IntKind.i64 (n + (1 : Int)))] H'_1 ∧
                                              μ [Value.int IntKind.i64 (IntKind.wrap IntKind.i64 (n + (1 : Int)))]
                                                  H'_1 <
                                                μ [Value.int IntKind.i64 n] H'))
                                (brB layout
                                  (CallH Try.prog (12 : Nat)
                                    {
                                      toList :=
                                        [Value.pointer a, Value.int IntKind.i64 day, Value.int IntKind.i64 (1 : Int)] }
                                    H' fun v H' =>
                                    ∃ n,
                                      v = Value.int IntKind.i64 n ∧
                                        CallH Try.prog (12 : Nat)
                                          {
                                            toList :=
                                              [Value.pointer a, Value.int IntKind.i64 day, Value.int IntKind.i64 n] }
                                          H' fun v H' =>
                                          ∃ n_1,
                                            v = Value.int IntKind.i64 n_1 ∧
                                              brB (n_1 == n)
                                                (CallH Try.prog (15 : Nat)
                                                  {
                                                    toList :=
                                                      [Value.pointer a_1, Value.int IntKind.i64 day,
                                                        Value.int IntKind.i64 (1 : Int)] }
                                                  H' fun v H' =>
                                                  ∃ n_2, v = Value.int IntKind.i64 n_2 ∧ R (Value.bool (n == n_2)) H')
                                                (R (Value.bool false) H'))
                                  (CallH Try.prog (12 : Nat)
                                    {
                                      toList :=
                                        [Value.pointer a, Value.int IntKind.i64 day, Value.int IntKind.i64 (0 : Int)] }
                                    H' fun v H' =>
                                    ∃ n,
                                      v = Value.int IntKind.i64 n ∧
                                        CallH Try.prog (12 : Nat)
                                          {
                                            toList :=
                                              [Value.pointer a, Value.int IntKind.i64 day, Value.int IntKind.i64 n] }
                                          H' fun v H' =>
                                          ∃ n_1,
                                            v = Value.int IntKind.i64 n_1 ∧
                                              brB (n_1 == n)
                                                (CallH Try.prog (15 : Nat)
                                                  {
                                                    toList :=
                                                      [Value.pointer a_1, Value.int IntKind.i64 day,
                                                        Value.int IntKind.i64 (0 : Int)] }
                                                  H' fun v H' =>
                                                  ∃ n_2, v = Value.int IntKind.i64 n_2 ∧ R (Value.bool (n == n_2)) H')
                                                (R (Value.bool false) H')))))) :
  CallH Try.prog 4 (List.toArray [Value.slice l_a l_n l_c, Value.int IntKind.i64 day, Value.bool layout]) H R :=
  vc_call (annOf [([0, 1, 0, 1, 1, 1, 1], .cut [(9, .one (.int .i64))])]) followsAll Go.Proofs.Try.func4 rfl Go.Proofs.Try.ntmps4 rfl rfl (Eq.mpr (by kernel_rfl) h)

/- 5 strandline/strandlinelaw18.PolicyHalves
  notes: []
  places: [([1], law.go:83 | law.go:86), ([0, 1], law.go:83 | law.go:84), ([1, 0, 0, 1, 0, 1, 1, 1, 1, 1], law.go:92 | law.go:91), ([1, 1, 1, 0, 0, 1, 0, 0, 1, 0, 1, 1, 1, 1, 1], law.go:95 | law.go:96), ([1, 1, 1, 1, 1, 1, 1], law.go:100 | )]
  slots: [0=l, 1=day, 2=l, 3=day, 5=p, 6=r, 7=i, 8=i, 9=a, 10=b, 11=c, 12=d, 13=a, 14=b] -/
abbrev fn_law18_PolicyHalves : Nat := 5
theorem vc_law18_PolicyHalves (l_a : Option Addr) (l_n : Nat) (l_c : Nat) (day : Int) (H : Heap) (R : Value → Heap → Prop)
  (h : brB (decide ((↑l_n : Int) > (200 : Int)))
  (CallH Try.prog (7 : Nat) { toList := [] } H fun v H' => ∃ b, v = Value.bool b ∧ R (Value.bool b) H')
  (CallH Try.prog (7 : Nat) { toList := [] } H fun v H' =>
    ∃ b,
      v = Value.bool b ∧
        brB (!b) (CallH Try.prog (7 : Nat) { toList := [] } H' fun v H' => ∃ b, v = Value.bool b ∧ R (Value.bool b) H')
          (CallH Try.prog (8 : Nat) { toList := [] } H' fun v H' =>
            ∃ a,
              v = Value.pointer a ∧
                CallH Try.prog (13 : Nat) { toList := [] } H' fun v H' =>
                  ∃ a_1,
                    v = Value.pointer a_1 ∧
                      ∃ (I : List Value → Heap → Prop) (μ : List Value → Heap → Nat),
                        I [Value.int IntKind.i64 (0 : Int)] H' ∧
                          ∀ (J : F) (n : Int) (H' : Heap),
                            I [Value.int IntKind.i64 n] H' →
                              brB (decide (n < (↑l_n : Int)))
                                (exSome l_a fun ad =>
                                  chk (decide ((0 : Int) ≤ n ∧ n < (↑l_n : Int)))
                                    (∃ n_1 n_2 n_3 n_4,
                                      Ld Try.prog (28 : Nat) H' (Addr.add ad (Int.toNat n * (4 : Nat)))
                                          (Value.agg
                                            {
                                              toList :=
                                                [Value.int IntKind.i64 n_1, Value.int IntKind.i64 n_2,
                                                  Value.int IntKind.i64 n_3, Value.int IntKind.i64 n_4] }) ∧
                                        CallH Try.prog (14 : Nat)
                                          {
                                            toList :=
                                              [Value.pointer a, Value.pointer a_1,
                                                Value.agg
                                                  {
                                                    toList :=
                                                      [Value.int IntKind.i64 n_1, Value.int IntKind.i64 n_2,
                                                        Value.int IntKind.i64 n_3, Value.int IntKind.i64 n_4] }] }
                                          H' fun v H'_1 =>
                                          v = Value.tuple { toList := [] } ∧
                                            I [Value.int IntKind.i64 (IntKind.wrap IntKind.i64 (n + (1 : Int)))] H'_1 ∧
                                              μ [Value.int IntKind.i64 (IntKind.wrap IntKind.i64 (n + (1 : Int)))]
                                                  H'_1 <
                                                μ [Value.int IntKind.i64 n] H'))
                                (∃ (I : List Value → Heap → Prop) (μ : List Value → Heap → Nat),
                                  I [Value.int IntKind.i64 (0 : Int)] H' ∧
                                    ∀ (J : F) (n : Int) (H' : Heap),
                                      I [Value.int IntKind.i64 n] H' →
                                        brB (decide (n < (31 : Int)))
                                          (CallH Try.prog (11 : Nat)
                                            { toList := [Value.pointer a, Value.int IntKind.i64 day] } H' fun v H'_1 =>
                                            ∃ n_1 n_2,
                                              v =
                                                  Value.tuple
                                                    {
                                                      toList :=
                                                        [Value.int IntKind.i64 n_1, Value.int IntKind.i64 n_2] } ∧
                                                CallH Try.prog (10 : Nat) { toList := [Value.pointer a] } H'_1
                                                  fun v H'_2 =>
                                                  v = Value.tuple { toList := [] } ∧
                                                    CallH Try.prog (11 : Nat)
                                                      { toList := [Value.pointer a, Value.int IntKind.i64 day] } H'_2
                                                      fun v H'_3 =>
                                                      ∃ n_3 n_4,
                                                        v =
                                                            Value.tuple
                                                              {
                                                                toList :=
                                                                  [Value.int IntKind.i64 n_3,
                                                                    Value.int IntKind.i64 n_4] } ∧
                                                          brB (n_3 != IntKind.wrap IntKind.i64 (Int.tdiv n_1 (2 : Int)))
                                                            (R (Value.bool false) H'_3)
                                                            (brB
                                                              (n_4 != IntKind.wrap IntKind.i64 (Int.tdiv n_2 (2 : Int)))
                                                              (R (Value.bool false) H'_3)
                                                              (I
                                                                  [Value.int IntKind.i64
                                                                      (IntKind.wrap IntKind.i64 (n + (1 : Int)))]
                                                                  H'_3 ∧
                                                                μ
                                                                    [Value.int IntKind.i64
                                                                        (IntKind.wrap IntKind.i64 (n + (1 : Int)))]
                                                                    H'_3 <
                                                                  μ [Value.int IntKind.i64 n] H')))
                                          (CallH Try.prog (11 : Nat)
                                            { toList := [Value.pointer a, Value.int IntKind.i64 day] } H' fun v H' =>
                                            ∃ n n_1,
                                              v =
                                                  Value.tuple
                                                    { toList := [Value.int IntKind.i64 n, Value.int IntKind.i64 n_1] } ∧
                                                brB (n == (0 : Int))
                                                  (brB (n_1 == (0 : Int))
                                                    (CallH Try.prog (12 : Nat)
                                                      {
                                                        toList :=
                                                          [Value.pointer a, Value.int IntKind.i64 day,
                                                            Value.int IntKind.i64 (0 : Int)] }
                                                      H' fun v H' =>
                                                      ∃ n,
                                                        v = Value.int IntKind.i64 n ∧
                                                          brB (n == (0 : Int))
                                                            (CallH Try.prog (12 : Nat)
                                                              {
                                                                toList :=
                                                                  [Value.pointer a, Value.int IntKind.i64 day,
                                                                    Value.int IntKind.i64 (1 : Int)] }
                                                              H' fun v H' =>
                                                              ∃ n,
                                                                v = Value.int IntKind.i64 n ∧
                                                                  R (Value.bool (n == (1 : Int))) H')
                                                            (R (Value.bool false) H'))
                                                    (R (Value.bool false) H'))
                                                  (R (Value.bool false) H')))))) :
  CallH Try.prog 5 (List.toArray [Value.slice l_a l_n l_c, Value.int IntKind.i64 day]) H R :=
  vc_call (annOf [([0, 1, 0, 1, 1, 1, 1], .cut [(7, .one (.int .i64))]), ([0, 1, 0, 1, 1, 1, 1, 1], .cut [(8, .one (.int .i64))])]) followsAll Go.Proofs.Try.func5 rfl Go.Proofs.Try.ntmps5 rfl rfl (Eq.mpr (by kernel_rfl) h)

/- 6 strandline/strandlinelaw18.PolicyScript
  notes: []
  places: [([1], law.go:40 | law.go:43), ([0, 1], law.go:40 | law.go:41), ([1, 0, 0, 1, 0, 1, 1, 1, 1], law.go:46 | law.go:45), ([1, 1, 1, 0, 0, 1, 0, 0, 1, 0, 1, 1, 1, 1], law.go:49 | law.go:52), ([0, 1, 1, 1, 0, 0, 1, 0, 0, 1, 0, 1, 1, 1, 1], law.go:49 | law.go:50), ([1, 1, 1, 1, 1, 1, 1], law.go:60 | )]
  slots: [0=l, 1=days, 2=layouts, 3=l, 4=days, 5=layouts, 7=p, 8=r, 9=i, 10=a, 11=b, 12=c, 13=d, 14=k, 15=x, 16=y, 17=is, 18=u, 19=v, 20=was] -/
abbrev fn_law18_PolicyScript : Nat := 6
theorem vc_law18_PolicyScript (l_a : Option Addr) (l_n : Nat) (l_c : Nat) (days_a : Option Addr) (days_n : Nat) (days_c : Nat) (layouts_a : Option Addr) (layouts_n : Nat) (layouts_c : Nat) (H : Heap) (R : Value → Heap → Prop)
  (h : brB (decide ((↑l_n : Int) > (200 : Int)))
  (CallH Try.prog (7 : Nat) { toList := [] } H fun v H' => ∃ b, v = Value.bool b ∧ R (Value.bool b) H')
  (brB (decide ((↑days_n : Int) > (100 : Int)))
    (CallH Try.prog (7 : Nat) { toList := [] } H fun v H' => ∃ b, v = Value.bool b ∧ R (Value.bool b) H')
    (brB (decide ((↑layouts_n : Int) > (100 : Int)))
      (CallH Try.prog (7 : Nat) { toList := [] } H fun v H' => ∃ b, v = Value.bool b ∧ R (Value.bool b) H')
      (CallH Try.prog (7 : Nat) { toList := [] } H fun v H' =>
        ∃ b,
          v = Value.bool b ∧
            brB (!b)
              (CallH Try.prog (7 : Nat) { toList := [] } H' fun v H' => ∃ b, v = Value.bool b ∧ R (Value.bool b) H')
              (CallH Try.prog (8 : Nat) { toList := [] } H' fun v H' =>
                ∃ a,
                  v = Value.pointer a ∧
                    CallH Try.prog (13 : Nat) { toList := [] } H' fun v H' =>
                      ∃ a_1,
                        v = Value.pointer a_1 ∧
                          ∃ (I : List Value → Heap → Prop) (μ : List Value → Heap → Nat),
                            I [Value.int IntKind.i64 (0 : Int)] H' ∧
                              ∀ (J : F) (n : Int) (H' : Heap),
                                I [Value.int IntKind.i64 n] H' →
                                  brB (decide (n < (↑l_n : Int)))
                                    (exSome l_a fun ad =>
                                      chk (decide ((0 : Int) ≤ n ∧ n < (↑l_n : Int)))
                                        (∃ n_1 n_2 n_3 n_4,
                                          Ld Try.prog (28 : Nat) H' (Addr.add ad (Int.toNat n * (4 : Nat)))
                                              (Value.agg
                                                {
                                                  toList :=
                                                    [Value.int IntKind.i64 n_1, Value.int IntKind.i64 n_2,
                                                      Value.int IntKind.i64 n_3, Value.int IntKind.i64 n_4] }) ∧
                                            CallH Try.prog (14 : Nat)
                                              {
                                                toList :=
                                                  [Value.pointer a, Value.pointer a_1,
                                                    Value.agg
                                                      {
                                                        toList :=
                                                          [Value.int IntKind.i64 n_1, Value.int IntKind.i64 n_2,
                                                            Value.int IntKind.i64 n_3, Value.int IntKind.i64 n_4] }] }
                                              H' fun v H'_1 =>
                                              v = Value.tuple { toList := [] } ∧
                                                exSome l_a fun ad =>
                                                  chk (decide ((0 : Int) ≤ n ∧ n < (↑l_n : Int)))
                                                    (∃ n_5,
                                                      Ld Try.prog (3 : Nat) H'_1
                                                          (Addr.add (Addr.add ad (Int.toNat n * (4 : Nat))) (1 : Nat))
                                                          (Value.int IntKind.i64 n_5) ∧
                                                        CallH Try.prog (11 : Nat)
                                                          { toList := [Value.pointer a, Value.int IntKind.i64 n_5] }
                                                          H'_1 fun v H'_2 =>
                                                          ∃ n_6 n_7,
                                                            v =
                                                                Value.tuple
                                                                  {
                                                                    toList :=
                                                                      [Value.int IntKind.i64 n_6,
                                                                        Value.int IntKind.i64 n_7] } ∧
                                                              exSome l_a fun ad =>
                                                                chk (decide ((0 : Int) ≤ n ∧ n < (↑l_n : Int)))
                                                                  (∃ n_8,
                                                                    Ld Try.prog (3 : Nat) H'_2
                                                                        (Addr.add
                                                                          (Addr.add ad (Int.toNat n * (4 : Nat)))
                                                                          (1 : Nat))
                                                                        (Value.int IntKind.i64 n_8) ∧
                                                                      CallH Try.prog (16 : Nat)
                                                                        {
                                                                          toList :=
                                                                            [Value.pointer a_1,
                                                                              Value.int IntKind.i64 n_8] }
                                                                        H'_2 fun v H'_3 =>
                                                                        ∃ n_9 n_10,
                                                                          v =
                                                                              Value.tuple
                                                                                {
                                                                                  toList :=
                                                                                    [Value.int IntKind.i64 n_9,
                                                                                      Value.int IntKind.i64 n_10] } ∧
                                                                            brB (n_6 != n_9) (R (Value.bool false) H'_3)
                                                                              (brB (n_7 != n_10)
                                                                                (R (Value.bool false) H'_3)
                                                                                (∃ (I_1 : List Value → Heap → Prop) (μ_1 : List Value → Heap → Nat),
                                                                                  I_1 [Value.int IntKind.i64 (-1 : Int)]
                                                                                      H'_3 ∧
                                                                                    ∀ (J : F) (n_11 : Int)
                                                                                      (H'_4 : Heap),
                                                                                      I_1 [Value.int IntKind.i64 n_11]
                                                                                          H'_4 →
                                                                                        brB (decide (n_11 < (3 : Int)))
                                                                                          (exSome l_a fun ad =>
                                                                                            chk
                                                                                              (decide
                                                                                                ((0 : Int) ≤ n ∧
                                                                                                  n < (↑l_n : Int)))
                                                                                              (∃ n_12,
                                                                                                Ld Try.prog (3 : Nat)
                                                                                                    H'_4
                                                                                                    (Addr.add
                                                                                                      (Addr.add ad
                                                                                                        (Int.toNat n *
                                                                                                          (4 : Nat)))
                                                                                                      (1 : Nat))
                                                                                                    (Value.int
                                                                                                      IntKind.i64
                                                                                                      n_12) ∧
                                                                                                  exSome l_a fun ad =>
                                                                                                    chk
                                                                                                      (decide
                                                                                                        ((0 : Int) ≤ n ∧
                                                                                                          n <
                                                                                                            (↑l_n :
                                                                                                              Int)))
                                                                                                      (∃ n_13,
                                                                                                        Ld Try.prog
                                                                                                            (3 : Nat)
                                                                                                            H'_4
                                                                                                            (Addr.add
                                                                                                              (Addr.add
                                                                                                                ad
                                                                                                                (Int.toNat
                                                                                                                    n *
                                                                                                                  (4 :
                                                                                                                    Nat)))
                                                                                                              (1 : Nat))
                                                                                                            (Value.int
                                                                                                              IntKind.i64
                                                                                                              n_13) ∧
                                                                                                          CallH Try.prog
                                                                                                            (12 : Nat)
                                                                                                            {
                                                                                                              toList :=
                                                                                                                [Value.pointer
                                                                                                                    a,
                                                                                                                  Value.int
                                                                                                                    IntKind.i64
                                                                                                                    n_12,
                                                                                                                  Value.int
                                                                                                                    IntKind.i64
                                                                                                                    n_11] }
                                                                                                            H'_4
                                                                                                            fun v H' =>
                                                                                                            ∃ n_14,
                                                                                                              v =
                                                                                                                  Value.int
                                                                                                                    IntKind.i64
                                                                                                                    n_14 ∧
                                                                                                                Ld
                                                                                                                    Try.prog
                                                                                                                    (3 :
                                                                                                                      Nat)
                                                                                                                    H'
                                                                                                                    (Addr.add
                                                                                                                      (Addr.add
                                                                                                                        ad
                                                                                                                        (Int.toNat
                                                                                                                            n *
                                                                                                                          (4 :
                                                                                                                            Nat)))
                                                                                                                      (1 :
                                                                                                                        Nat))
                                                                                                                    (Value.int
                                                                                                                      IntKind.i64
                                                                                                                      n_13) ∧
                                                                                                                  CallH
                                                                                                                    Try.prog
                                                                                                                    (15 :
                                                                                                                      Nat)
                                                                                                                    {
                                                                                                                      toList :=
                                                                                                                        [Value.pointer
                                                                                                                            a_1,
                                                                                                                          Value.int
                                                                                                                            IntKind.i64
                                                                                                                            n_13,
                                                                                                                          Value.int
                                                                                                                            IntKind.i64
                                                                                                                            n_11] }
                                                                                                                    H'
                                                                                                                    fun
                                                                                                                      v
                                                                                                                      H' =>
                                                                                                                    ∃ n,
                                                                                                                      v =
                                                                                                                          Value.int
                                                                                                                            IntKind.i64
                                                                                                                            n ∧
                                                                                                                        brB
                                                                                                                          (n_14 !=
                                                                                                                            n)
                                                                                                                          (R
                                                                                                                            (Value.bool
                                                                                                                              false)
                                                                                                                            H')
                                                                                                                          (I_1
                                                                                                                              [Value.int
                                                                                                                                  IntKind.i64
                                                                                                                                  (IntKind.wrap
                                                                                                                                    IntKind.i64
                                                                                                                                    (n_11 +
                                                                                                                                      (1 :
                                                                                                                                        Int)))]
                                                                                                                              H' ∧
                                                                                                                            μ_1
                                                                                                                                [Value.int
                                                                                                                                    IntKind.i64
                                                                                                                                    (IntKind.wrap
                                                                                                                                      IntKind.i64
                                                                                                                                      (n_11 +
                                                                                                                                        (1 :
                                                                                                                                          Int)))]
                                                                                                                                H' <
                                                                                                                              μ_1
                                                                                                                                [Value.int
                                                                                                                                    IntKind.i64
                                                                                                                                    n_11]
                                                                                                                                H'_4))))
                                                                                          (I
                                                                                              [Value.int IntKind.i64
                                                                                                  (IntKind.wrap
                                                                                                    IntKind.i64
                                                                                                    (n + (1 : Int)))]
                                                                                              H'_4 ∧
                                                                                            μ
                                                                                                [Value.int IntKind.i64
                                                                                                    (IntKind.wrap
                                                                                                      IntKind.i64
                                                                                                      (n + (1 : Int)))]
                                                                                                H'_4 <
                                                                                              μ
                                                                                                [Value.int IntKind.i64
                                                                                                    n]
                                                                                                H')))))))
                                    (CallH Try.prog (17 : Nat)
                                      {
                                        toList :=
                                          [Value.pointer a, Value.slice days_a days_n days_c,
                                            Value.slice layouts_a layouts_n layouts_c] }
                                      H' fun v H' =>
                                      ∃ n n_1 b,
                                        v =
                                            Value.tuple
                                              {
                                                toList :=
                                                  [Value.int IntKind.i64 n, Value.int IntKind.i64 n_1, Value.bool b] } ∧
                                          CallH Try.prog (18 : Nat)
                                            {
                                              toList :=
                                                [Value.pointer a_1, Value.slice days_a days_n days_c,
                                                  Value.slice layouts_a layouts_n layouts_c] }
                                            H' fun v H' =>
                                            ∃ n_2 n_3 b_1,
                                              v =
                                                  Value.tuple
                                                    {
                                                      toList :=
                                                        [Value.int IntKind.i64 n_2, Value.int IntKind.i64 n_3,
                                                          Value.bool b_1] } ∧
                                                brB (n == n_2)
                                                  (brB (n_1 == n_3) (R (Value.bool (b == b_1)) H')
                                                    (R (Value.bool false) H'))
                                                  (R (Value.bool false) H'))))))) :
  CallH Try.prog 6 (List.toArray [Value.slice l_a l_n l_c, Value.slice days_a days_n days_c, Value.slice layouts_a layouts_n layouts_c]) H R :=
  vc_call (annOf [([0, 1, 0, 1, 1, 1, 1], .cut [(9, .one (.int .i64))]), ([0, 1, 1, 1, 1, 1, 0, 0, 1, 0, 0, 1, 0, 1, 1, 1, 1], .cut [(14, .one (.int .i64))]), ([0, 0, 0, 1, 0, 0, 1, 1, 1, 1, 1, 0, 0, 1, 0, 0, 1, 0, 1, 1, 1, 1], .reg [0, 0, 0, 6, 14, 30, 0, 127, 0, 0, 0, 1536, 3584, 7680, 0, 32767, 65535] (.quiet 0 (.quiet 1 (.quiet 2 (.quiet 3 (.quiet 4 (.quiet 5 (.quiet 6 (.quiet 8 (.quiet 9 (.quiet 10 (.quiet 11 (.quiet 12 (.quiet 13 (.quiet 14 (.pick (.alt 7 (.pick (.alt 15 (.quiet 16 .done) .stop)) .stop)))))))))))))))))]) followsAll Go.Proofs.Try.func6 rfl Go.Proofs.Try.ntmps6 rfl rfl (Eq.mpr (by kernel_rfl) h)

/- 7 strandline/strandlinelaw18.shown
  notes: []
  places: [([1, 1, 1, 1, 1], law.go:35 | )]
  slots: [1=p, 2=a, 3=b] -/
abbrev fn_law18_shown : Nat := 7
theorem vc_law18_shown (H : Heap) (R : Value → Heap → Prop)
  (h : CallH Try.prog (8 : Nat) { toList := [] } H fun v H' =>
  ∃ a,
    v = Value.pointer a ∧
      brB (Option.isNone a) (R (Value.bool false) H')
        (CallH Try.prog (9 : Nat)
          {
            toList :=
              [Value.pointer a, Value.int IntKind.i64 (3 : Int), Value.int IntKind.i64 (1 : Int),
                Value.int IntKind.i64 (9 : Int)] }
          H' fun v H' =>
          v = Value.tuple { toList := [] } ∧
            CallH Try.prog (11 : Nat) { toList := [Value.pointer a, Value.int IntKind.i64 (3 : Int)] } H' fun v H' =>
              ∃ n n_1,
                v = Value.tuple { toList := [Value.int IntKind.i64 n, Value.int IntKind.i64 n_1] } ∧
                  brB (n == (0 : Int))
                    (brB (n_1 == (9 : Int))
                      (CallH Try.prog (12 : Nat)
                        {
                          toList :=
                            [Value.pointer a, Value.int IntKind.i64 (3 : Int), Value.int IntKind.i64 (0 : Int)] }
                        H' fun v H' => ∃ n, v = Value.int IntKind.i64 n ∧ R (Value.bool (n == (1 : Int))) H')
                      (R (Value.bool false) H'))
                    (R (Value.bool false) H'))) :
  CallH Try.prog 7 (List.toArray []) H R :=
  vc_call (annOf []) followsAll Go.Proofs.Try.func7 rfl Go.Proofs.Try.ntmps7 rfl rfl (Eq.mpr (by kernel_rfl) h)

/- 8 strandline/policy.New
  notes: []
  places: []
  slots: [] -/
abbrev fn_policy_New : Nat := 8
theorem vc_policy_New (H : Heap) (R : Value → Heap → Prop)
  (h : ∀ (b : Nat) (H' : Heap),
  New H b (Obj.map { toList := [] } (0 : Nat)) H' →
    ∀ (b_1 : Nat) (H'_1 : Heap),
      New H' b_1 (Obj.cells { toList := [Value.map (some b)] } (45 : Nat)) H'_1 →
        R (Value.pointer (some { block := b_1, off := (0 : Nat) })) H'_1) :
  CallH Try.prog 8 (List.toArray []) H R :=
  vc_call (annOf []) followsAll Go.Proofs.Try.func8 rfl Go.Proofs.Try.ntmps8 rfl rfl (Eq.mpr (by kernel_rfl) h)

/- 9 (*strandline/policy.Policy).Note
  notes: []
  places: [([], policy.go:22 | policy.go:25), ([0], policy.go:22 | )]
  slots: [0=p, 1=day, 2=kind, 3=n, 4=p, 5=day, 6=kind, 7=n, 8=c] -/
abbrev fn_policy_Policy_Note : Nat := 9
theorem vc_policy_Policy_Note (p : Addr) (day : Int) (kind : Int) (n : Int) (H : Heap) (R : Value → Heap → Prop)
  (h : brB (decide (kind < (0 : Int))) (R (Value.tuple { toList := [] }) H)
  (brB (decide (kind > (1 : Int))) (R (Value.tuple { toList := [] }) H)
    (brB (decide (n < (1 : Int))) (R (Value.tuple { toList := [] }) H)
      (∃ r,
        Ld Try.prog (43 : Nat) H p (Value.map r) ∧
          ∃ n_1 n_2,
            Rd Try.prog (Instr.lookup (43 : Nat) (Value.map r) (Value.int IntKind.i64 day) false) H
                (Value.agg { toList := [Value.int IntKind.i64 n_1, Value.int IntKind.i64 n_2] }) ∧
              ∀ (b : Nat) (H' : Heap),
                New H b
                    (Obj.cells { toList := [Value.int IntKind.i64 (0 : Int), Value.int IntKind.i64 (0 : Int)] }
                      (46 : Nat))
                    H' →
                  ∃ H'_1,
                    St Try.prog (46 : Nat) H' { block := b, off := (0 : Nat) }
                        (Value.agg { toList := [Value.int IntKind.i64 n_1, Value.int IntKind.i64 n_2] }) H'_1 ∧
                      chk (decide ((0 : Int) ≤ kind ∧ kind < (↑(2 : Nat) : Int)))
                        (∃ n_3,
                          Ld Try.prog (3 : Nat) H'_1
                              (Addr.add { block := b, off := (0 : Nat) } (Int.toNat kind * (1 : Nat)))
                              (Value.int IntKind.i64 n_3) ∧
                            chk (decide ((0 : Int) ≤ kind ∧ kind < (↑(2 : Nat) : Int)))
                              (∃ H',
                                St Try.prog (3 : Nat) H'_1
                                    (Addr.add { block := b, off := (0 : Nat) } (Int.toNat kind * (1 : Nat)))
                                    (Value.int IntKind.i64
                                      (if
                                          (1073741824 : Int) <
                                            IntKind.wrap IntKind.i64
                                              (n_3 + if (1073741824 : Int) < n then (1073741824 : Int) else n) then
                                        (1073741824 : Int)
                                      else
                                        IntKind.wrap IntKind.i64
                                          (n_3 + if (1073741824 : Int) < n then (1073741824 : Int) else n)))
                                    H' ∧
                                  ∃ n n_4,
                                    Ld Try.prog (46 : Nat) H' { block := b, off := (0 : Nat) }
                                        (Value.agg { toList := [Value.int IntKind.i64 n, Value.int IntKind.i64 n_4] }) ∧
                                      CallH Try.prog (19 : Nat)
                                        {
                                          toList :=
                                            [Value.pointer (some p), Value.int IntKind.i64 day,
                                              Value.agg
                                                { toList := [Value.int IntKind.i64 n, Value.int IntKind.i64 n_4] }] }
                                        H' fun v H' =>
                                        v = Value.tuple { toList := [] } ∧ R (Value.tuple { toList := [] }) H')))))) :
  CallH Try.prog 9 (List.toArray [Value.pointer (some p), Value.int IntKind.i64 day, Value.int IntKind.i64 kind, Value.int IntKind.i64 n]) H R :=
  vc_call (annOf []) followsAll Go.Proofs.Try.func9 rfl Go.Proofs.Try.ntmps9 rfl rfl (Eq.mpr (by kernel_rfl) h)

/- 10 (*strandline/policy.Policy).Halve
  notes: []
  places: []
  slots: [0=p, 1=p, 2=day, 3=c] -/
abbrev fn_policy_Policy_Halve : Nat := 10
theorem vc_policy_Policy_Halve (p : Addr) (H : Heap) (R : Value → Heap → Prop)
  (h : ∃ r,
  Ld Try.prog (43 : Nat) H p (Value.map r) ∧
    SemWp Try.prog (Instr.range (43 : Nat) (Value.map r)) H fun v H' =>
      ∃ a,
        v = Value.pointer a ∧
          ∃ (I : List Value → Heap → Prop) (μ : List Value → Heap → Nat),
            I [] H' ∧
              ∀ (J : F) (H' : Heap),
                I [] H' →
                  SemWp Try.prog (Instr.next (Value.pointer a) false (0 : Nat)) H' fun v H'_1 =>
                    v = Value.tuple { toList := [Value.bool false] } ∧ R (Value.tuple { toList := [] }) H'_1 ∨
                      ∃ k x,
                        v = Value.tuple { toList := [Value.bool true, k, x] } ∧
                          SemWp Try.prog (Instr.entry (Value.pointer a)) H'_1 fun v H'_2 =>
                            ∃ k x,
                              v = Value.tuple { toList := [k, x] } ∧
                                ∀ (b : Nat) (H'_3 : Heap),
                                  New H'_2 b
                                      (Obj.cells
                                        { toList := [Value.int IntKind.i64 (0 : Int), Value.int IntKind.i64 (0 : Int)] }
                                        (46 : Nat))
                                      H'_3 →
                                    ∃ H'_4,
                                      St Try.prog (46 : Nat) H'_3 { block := b, off := (0 : Nat) } x H'_4 ∧
                                        ∃ n,
                                          Ld Try.prog (3 : Nat) H'_4 { block := b, off := (0 : Nat) }
                                              (Value.int IntKind.i64 n) ∧
                                            ∃ n_1,
                                              Ld Try.prog (3 : Nat) H'_4 { block := b, off := (1 : Nat) }
                                                  (Value.int IntKind.i64 n_1) ∧
                                                CallH Try.prog (19 : Nat)
                                                  {
                                                    toList :=
                                                      [Value.pointer (some p), k,
                                                        Value.agg
                                                          {
                                                            toList :=
                                                              [Value.int IntKind.i64
                                                                  (IntKind.wrap IntKind.i64 (Int.tdiv n (2 : Int))),
                                                                Value.int IntKind.i64
                                                                  (IntKind.wrap IntKind.i64
                                                                    (Int.tdiv n_1 (2 : Int)))] }] }
                                                  H'_4 fun v H'_5 =>
                                                  v = Value.tuple { toList := [] } ∧ I [] H'_5 ∧ μ [] H'_5 < μ [] H') :
  CallH Try.prog 10 (List.toArray [Value.pointer (some p)]) H R :=
  vc_call (annOf [([0, 1], .cut [])]) followsAll Go.Proofs.Try.func10 rfl Go.Proofs.Try.ntmps10 rfl rfl (Eq.mpr (by kernel_rfl) h)

/- 11 (*strandline/policy.Policy).Counts
  notes: []
  places: []
  slots: [0=p, 1=day, 2=p, 3=day, 6=c] -/
abbrev fn_policy_Policy_Counts : Nat := 11
theorem vc_policy_Policy_Counts (p : Addr) (day : Int) (H : Heap) (R : Value → Heap → Prop)
  (h : ∃ r,
  Ld Try.prog (43 : Nat) H p (Value.map r) ∧
    ∃ n n_1,
      Rd Try.prog (Instr.lookup (43 : Nat) (Value.map r) (Value.int IntKind.i64 day) false) H
          (Value.agg { toList := [Value.int IntKind.i64 n, Value.int IntKind.i64 n_1] }) ∧
        ∀ (b : Nat) (H' : Heap),
          New H b
              (Obj.cells { toList := [Value.int IntKind.i64 (0 : Int), Value.int IntKind.i64 (0 : Int)] } (46 : Nat))
              H' →
            ∃ H'_1,
              St Try.prog (46 : Nat) H' { block := b, off := (0 : Nat) }
                  (Value.agg { toList := [Value.int IntKind.i64 n, Value.int IntKind.i64 n_1] }) H'_1 ∧
                ∃ n,
                  Ld Try.prog (3 : Nat) H'_1 { block := b, off := (0 : Nat) } (Value.int IntKind.i64 n) ∧
                    ∃ n_2,
                      Ld Try.prog (3 : Nat) H'_1 { block := b, off := (1 : Nat) } (Value.int IntKind.i64 n_2) ∧
                        R (Value.tuple { toList := [Value.int IntKind.i64 n, Value.int IntKind.i64 n_2] }) H'_1) :
  CallH Try.prog 11 (List.toArray [Value.pointer (some p), Value.int IntKind.i64 day]) H R :=
  vc_call (annOf []) followsAll Go.Proofs.Try.func11 rfl Go.Proofs.Try.ntmps11 rfl rfl (Eq.mpr (by kernel_rfl) h)

/- 12 (*strandline/policy.Policy).Wants
  notes: []
  places: [([1], policy.go:45 | policy.go:48), ([0, 1], policy.go:45 | policy.go:46)]
  slots: [0=p, 1=day, 2=layout, 3=p, 4=day, 5=layout, 7=c] -/
abbrev fn_policy_Policy_Wants : Nat := 12
theorem vc_policy_Policy_Wants (p : Addr) (day : Int) (layout : Int) (H : Heap) (R : Value → Heap → Prop)
  (h : brB (decide (layout < (0 : Int))) (R (Value.int IntKind.i64 layout) H)
  (brB (decide (layout > (1 : Int))) (R (Value.int IntKind.i64 layout) H)
    (∃ r,
      Ld Try.prog (43 : Nat) H p (Value.map r) ∧
        ∃ n n_1,
          Rd Try.prog (Instr.lookup (43 : Nat) (Value.map r) (Value.int IntKind.i64 day) false) H
              (Value.agg { toList := [Value.int IntKind.i64 n, Value.int IntKind.i64 n_1] }) ∧
            ∀ (b : Nat) (H' : Heap),
              New H b
                  (Obj.cells { toList := [Value.int IntKind.i64 (0 : Int), Value.int IntKind.i64 (0 : Int)] }
                    (46 : Nat))
                  H' →
                ∃ H'_1,
                  St Try.prog (46 : Nat) H' { block := b, off := (0 : Nat) }
                      (Value.agg { toList := [Value.int IntKind.i64 n, Value.int IntKind.i64 n_1] }) H'_1 ∧
                    chk
                      (decide
                        ((0 : Int) ≤ IntKind.wrap IntKind.i64 ((1 : Int) - layout) ∧
                          IntKind.wrap IntKind.i64 ((1 : Int) - layout) < (↑(2 : Nat) : Int)))
                      (∃ n,
                        Ld Try.prog (3 : Nat) H'_1
                            (Addr.add { block := b, off := (0 : Nat) }
                              (Int.toNat (IntKind.wrap IntKind.i64 ((1 : Int) - layout)) * (1 : Nat)))
                            (Value.int IntKind.i64 n) ∧
                          chk (decide ((0 : Int) ≤ layout ∧ layout < (↑(2 : Nat) : Int)))
                            (∃ n_2,
                              Ld Try.prog (3 : Nat) H'_1
                                  (Addr.add { block := b, off := (0 : Nat) } (Int.toNat layout * (1 : Nat)))
                                  (Value.int IntKind.i64 n_2) ∧
                                brB
                                  (decide
                                    (n >
                                      IntKind.wrap IntKind.i64
                                        (IntKind.wrap IntKind.i64 ((2 : Int) * n_2) + (8 : Int))))
                                  (R (Value.int IntKind.i64 (IntKind.wrap IntKind.i64 ((1 : Int) - layout))) H'_1)
                                  (R (Value.int IntKind.i64 layout) H'_1)))))) :
  CallH Try.prog 12 (List.toArray [Value.pointer (some p), Value.int IntKind.i64 day, Value.int IntKind.i64 layout]) H R :=
  vc_call (annOf []) followsAll Go.Proofs.Try.func12 rfl Go.Proofs.Try.ntmps12 rfl rfl (Eq.mpr (by kernel_rfl) h)

/- 13 strandline/strandlineref18.New
  notes: []
  places: []
  slots: [] -/
abbrev fn_ref18_New : Nat := 13
theorem vc_ref18_New (H : Heap) (R : Value → Heap → Prop)
  (h : ∀ (b : Nat) (H' : Heap),
  New H b (Obj.cells { toList := [Value.slice none (0 : Nat) (0 : Nat)] } (50 : Nat)) H' →
    R (Value.pointer (some { block := b, off := (0 : Nat) })) H') :
  CallH Try.prog 13 (List.toArray []) H R :=
  vc_call (annOf []) followsAll Go.Proofs.Try.func13 rfl Go.Proofs.Try.ntmps13 rfl rfl (Eq.mpr (by kernel_rfl) h)

/- 14 strandline/strandlinelaw18.does
  notes: []
  places: []
  slots: [0=p, 1=r, 2=o, 3=p, 4=r, 5=o] -/
abbrev fn_law18_does : Nat := 14
theorem vc_law18_does (p : Addr) (r : Addr) (o_0 : Int) (o_1 : Int) (o_2 : Int) (o_3 : Int) (H : Heap) (R : Value → Heap → Prop)
  (h : ∀ (b : Nat) (H' : Heap),
  New H b
      (Obj.cells
        {
          toList :=
            [Value.int IntKind.i64 o_0, Value.int IntKind.i64 o_1, Value.int IntKind.i64 o_2,
              Value.int IntKind.i64 o_3] }
        (28 : Nat))
      H' →
    ∃ n,
      Ld Try.prog (3 : Nat) H' { block := b, off := (0 : Nat) } (Value.int IntKind.i64 n) ∧
        brB (n == (0 : Int))
          (∃ n,
            Ld Try.prog (3 : Nat) H' { block := b, off := (1 : Nat) } (Value.int IntKind.i64 n) ∧
              ∃ n_1,
                Ld Try.prog (3 : Nat) H' { block := b, off := (2 : Nat) } (Value.int IntKind.i64 n_1) ∧
                  ∃ n_2,
                    Ld Try.prog (3 : Nat) H' { block := b, off := (3 : Nat) } (Value.int IntKind.i64 n_2) ∧
                      CallH Try.prog (9 : Nat)
                        {
                          toList :=
                            [Value.pointer (some p), Value.int IntKind.i64 n, Value.int IntKind.i64 n_1,
                              Value.int IntKind.i64 n_2] }
                        H' fun v H' =>
                        v = Value.tuple { toList := [] } ∧
                          ∃ n,
                            Ld Try.prog (3 : Nat) H' { block := b, off := (1 : Nat) } (Value.int IntKind.i64 n) ∧
                              ∃ n_3,
                                Ld Try.prog (3 : Nat) H' { block := b, off := (2 : Nat) } (Value.int IntKind.i64 n_3) ∧
                                  ∃ n_4,
                                    Ld Try.prog (3 : Nat) H' { block := b, off := (3 : Nat) }
                                        (Value.int IntKind.i64 n_4) ∧
                                      CallH Try.prog (20 : Nat)
                                        {
                                          toList :=
                                            [Value.pointer (some r), Value.int IntKind.i64 n, Value.int IntKind.i64 n_3,
                                              Value.int IntKind.i64 n_4] }
                                        H' fun v H' =>
                                        v = Value.tuple { toList := [] } ∧ R (Value.tuple { toList := [] }) H')
          (brB (n == (1 : Int))
            (CallH Try.prog (10 : Nat) { toList := [Value.pointer (some p)] } H' fun v H' =>
              v = Value.tuple { toList := [] } ∧
                CallH Try.prog (21 : Nat) { toList := [Value.pointer (some r)] } H' fun v H' =>
                  v = Value.tuple { toList := [] } ∧ R (Value.tuple { toList := [] }) H')
            (brB (n == (2 : Int))
              (∃ n,
                Ld Try.prog (3 : Nat) H' { block := b, off := (1 : Nat) } (Value.int IntKind.i64 n) ∧
                  CallH Try.prog (22 : Nat) { toList := [Value.pointer (some p), Value.int IntKind.i64 n] } H'
                    fun v H' =>
                    v = Value.tuple { toList := [] } ∧
                      ∃ n,
                        Ld Try.prog (3 : Nat) H' { block := b, off := (1 : Nat) } (Value.int IntKind.i64 n) ∧
                          CallH Try.prog (23 : Nat) { toList := [Value.pointer (some r), Value.int IntKind.i64 n] } H'
                            fun v H' => v = Value.tuple { toList := [] } ∧ R (Value.tuple { toList := [] }) H')
              (R (Value.tuple { toList := [] }) H')))) :
  CallH Try.prog 14 (List.toArray [Value.pointer (some p), Value.pointer (some r),
  Value.agg
    #[Value.int IntKind.i64 o_0, Value.int IntKind.i64 o_1, Value.int IntKind.i64 o_2, Value.int IntKind.i64 o_3]]) H R :=
  vc_call (annOf []) followsAll Go.Proofs.Try.func14 rfl Go.Proofs.Try.ntmps14 rfl rfl (Eq.mpr (by kernel_rfl) h)

/- 15 (*strandline/strandlineref18.Policy).Wants
  notes: []
  places: [([1, 1], ref.go:56 | ref.go:59), ([0, 1, 1], ref.go:56 | ref.go:57), ([1, 1, 1], ref.go:59 | ref.go:62), ([0, 1, 1, 1], ref.go:59 | ref.go:60)]
  slots: [0=p, 1=day, 2=layout, 3=p, 4=day, 5=layout, 7=a, 8=b] -/
abbrev fn_ref18_Policy_Wants : Nat := 15
theorem vc_ref18_Policy_Wants (p : Addr) (day : Int) (layout : Int) (H : Heap) (R : Value → Heap → Prop)
  (h : CallH Try.prog (16 : Nat) { toList := [Value.pointer (some p), Value.int IntKind.i64 day] } H fun v H' =>
  ∃ n n_1,
    v = Value.tuple { toList := [Value.int IntKind.i64 n, Value.int IntKind.i64 n_1] } ∧
      brB (layout == (0 : Int))
        (brB (decide (n_1 > IntKind.wrap IntKind.i64 (IntKind.wrap IntKind.i64 ((2 : Int) * n) + (8 : Int))))
          (R (Value.int IntKind.i64 (1 : Int)) H')
          (brB (layout == (1 : Int))
            (brB (decide (n > IntKind.wrap IntKind.i64 (IntKind.wrap IntKind.i64 ((2 : Int) * n_1) + (8 : Int))))
              (R (Value.int IntKind.i64 (0 : Int)) H') (R (Value.int IntKind.i64 layout) H'))
            (R (Value.int IntKind.i64 layout) H')))
        (brB (layout == (1 : Int))
          (brB (decide (n > IntKind.wrap IntKind.i64 (IntKind.wrap IntKind.i64 ((2 : Int) * n_1) + (8 : Int))))
            (R (Value.int IntKind.i64 (0 : Int)) H') (R (Value.int IntKind.i64 layout) H'))
          (R (Value.int IntKind.i64 layout) H'))) :
  CallH Try.prog 15 (List.toArray [Value.pointer (some p), Value.int IntKind.i64 day, Value.int IntKind.i64 layout]) H R :=
  vc_call (annOf []) followsAll Go.Proofs.Try.func15 rfl Go.Proofs.Try.ntmps15 rfl rfl (Eq.mpr (by kernel_rfl) h)

/- 16 (*strandline/strandlineref18.Policy).Counts
  notes: []
  places: []
  slots: [0=p, 1=day, 2=p, 3=day, 6=i] -/
abbrev fn_ref18_Policy_Counts : Nat := 16
theorem vc_ref18_Policy_Counts (p : Addr) (day : Int) (H : Heap) (R : Value → Heap → Prop)
  (h : ∃ (I : List Value → Heap → Prop) (μ : List Value → Heap → Nat),
  I [Value.int IntKind.i64 (0 : Int)] H ∧
    ∀ (J : F) (n : Int) (H' : Heap),
      I [Value.int IntKind.i64 n] H' →
        ∃ a n_1 c,
          Ld Try.prog (48 : Nat) H' p (Value.slice a n_1 c) ∧
            brB (decide (n < (↑n_1 : Int)))
              (∃ a n_2 c,
                Ld Try.prog (48 : Nat) H' p (Value.slice a n_2 c) ∧
                  exSome a fun ad =>
                    chk (decide ((0 : Int) ≤ n ∧ n < (↑n_2 : Int)))
                      (∃ n_3,
                        Ld Try.prog (3 : Nat) H' (Addr.add ad (Int.toNat n * (3 : Nat))) (Value.int IntKind.i64 n_3) ∧
                          brB (n_3 == day)
                            (∃ a n_4 c,
                              Ld Try.prog (48 : Nat) H' p (Value.slice a n_4 c) ∧
                                exSome a fun ad =>
                                  chk (decide ((0 : Int) ≤ n ∧ n < (↑n_4 : Int)))
                                    (∃ n_5,
                                      Ld Try.prog (3 : Nat) H'
                                          (Addr.add (Addr.add ad (Int.toNat n * (3 : Nat))) (1 : Nat))
                                          (Value.int IntKind.i64 n_5) ∧
                                        ∃ a n_6 c,
                                          Ld Try.prog (48 : Nat) H' p (Value.slice a n_6 c) ∧
                                            exSome a fun ad =>
                                              chk (decide ((0 : Int) ≤ n ∧ n < (↑n_6 : Int)))
                                                (∃ n_7,
                                                  Ld Try.prog (3 : Nat) H'
                                                      (Addr.add (Addr.add ad (Int.toNat n * (3 : Nat))) (2 : Nat))
                                                      (Value.int IntKind.i64 n_7) ∧
                                                    R
                                                      (Value.tuple
                                                        {
                                                          toList :=
                                                            [Value.int IntKind.i64 n_5, Value.int IntKind.i64 n_7] })
                                                      H')))
                            (I [Value.int IntKind.i64 (IntKind.wrap IntKind.i64 (n + (1 : Int)))] H' ∧
                              μ [Value.int IntKind.i64 (IntKind.wrap IntKind.i64 (n + (1 : Int)))] H' <
                                μ [Value.int IntKind.i64 n] H')))
              (R (Value.tuple { toList := [Value.int IntKind.i64 (0 : Int), Value.int IntKind.i64 (0 : Int)] }) H')) :
  CallH Try.prog 16 (List.toArray [Value.pointer (some p), Value.int IntKind.i64 day]) H R :=
  vc_call (annOf [([0, 1, 0, 1], .cut [(6, .one (.int .i64))])]) followsAll Go.Proofs.Try.func16 rfl Go.Proofs.Try.ntmps16 rfl rfl (Eq.mpr (by kernel_rfl) h)

/- 17 (*strandline/policy.Policy).Next
  notes: []
  places: []
  slots: [0=p, 1=days, 2=layouts, 3=p, 4=days, 5=layouts, 9=i, 10=day, 11=w] -/
abbrev fn_policy_Policy_Next : Nat := 17
theorem vc_policy_Policy_Next (p : Addr) (days_a : Option Addr) (days_n : Nat) (days_c : Nat) (layouts_a : Option Addr) (layouts_n : Nat) (layouts_c : Nat) (H : Heap) (R : Value → Heap → Prop)
  (h : chk
  (decide
    ((0 : Int) ≤ (0 : Int) ∧
      ((0 : Int) ≤ if (↑layouts_n : Int) < (↑days_n : Int) then (↑layouts_n : Int) else (↑days_n : Int)) ∧
        (if (↑layouts_n : Int) < (↑days_n : Int) then (↑layouts_n : Int) else (↑days_n : Int)) ≤ (↑days_c : Int)))
  (∃ (I : List Value → Heap → Prop) (μ : List Value → Heap → Nat),
    I [Value.int IntKind.i64 (0 : Int)] H ∧
      ∀ (J : F) (n : Int) (H' : Heap),
        I [Value.int IntKind.i64 n] H' →
          brB
            (decide
              (n <
                (↑(Int.toNat (if (↑layouts_n : Int) < (↑days_n : Int) then (↑layouts_n : Int) else (↑days_n : Int)) -
                      Int.toNat (0 : Int)) :
                  Int)))
            (exSome days_a fun ad =>
              chk
                (decide
                  ((0 : Int) ≤ n ∧
                    n <
                      (↑(Int.toNat
                              (if (↑layouts_n : Int) < (↑days_n : Int) then (↑layouts_n : Int) else (↑days_n : Int)) -
                            (0 : Nat)) :
                        Int)))
                (∃ n_1,
                  Ld Try.prog (3 : Nat) H' (Addr.add ad (Int.toNat n * (1 : Nat))) (Value.int IntKind.i64 n_1) ∧
                    exSome layouts_a fun ad =>
                      chk (decide ((0 : Int) ≤ n ∧ n < (↑layouts_n : Int)))
                        (∃ n_2,
                          Ld Try.prog (3 : Nat) H' (Addr.add ad (Int.toNat n * (1 : Nat))) (Value.int IntKind.i64 n_2) ∧
                            CallH Try.prog (12 : Nat)
                              {
                                toList :=
                                  [Value.pointer (some p), Value.int IntKind.i64 n_1, Value.int IntKind.i64 n_2] }
                              H' fun v H'_1 =>
                              ∃ n_3,
                                v = Value.int IntKind.i64 n_3 ∧
                                  exSome layouts_a fun ad =>
                                    chk (decide ((0 : Int) ≤ n ∧ n < (↑layouts_n : Int)))
                                      (∃ n_4,
                                        Ld Try.prog (3 : Nat) H'_1 (Addr.add ad (Int.toNat n * (1 : Nat)))
                                            (Value.int IntKind.i64 n_4) ∧
                                          brB (n_3 != n_4)
                                            (R
                                              (Value.tuple
                                                {
                                                  toList :=
                                                    [Value.int IntKind.i64 n_1, Value.int IntKind.i64 n_3,
                                                      Value.bool true] })
                                              H'_1)
                                            (I [Value.int IntKind.i64 (IntKind.wrap IntKind.i64 (n + (1 : Int)))] H'_1 ∧
                                              μ [Value.int IntKind.i64 (IntKind.wrap IntKind.i64 (n + (1 : Int)))]
                                                  H'_1 <
                                                μ [Value.int IntKind.i64 n] H')))))
            (R
              (Value.tuple
                { toList := [Value.int IntKind.i64 (0 : Int), Value.int IntKind.i64 (0 : Int), Value.bool false] })
              H'))) :
  CallH Try.prog 17 (List.toArray [Value.pointer (some p), Value.slice days_a days_n days_c, Value.slice layouts_a layouts_n layouts_c]) H R :=
  vc_call (annOf [([0, 1, 0, 1], .cut [(20, .one (.int .i64))])]) followsAll Go.Proofs.Try.func17 rfl Go.Proofs.Try.ntmps17 rfl rfl (Eq.mpr (by kernel_rfl) h)

/- 18 (*strandline/strandlineref18.Policy).Next
  notes: []
  places: [([0, 0, 1, 0, 1], ref.go:66 | ref.go:67), ([0, 0, 0, 1, 0, 1], ref.go:66 | )]
  slots: [0=p, 1=days, 2=layouts, 3=p, 4=days, 5=layouts, 9=i, 10=w] -/
abbrev fn_ref18_Policy_Next : Nat := 18
theorem vc_ref18_Policy_Next (p : Addr) (days_a : Option Addr) (days_n : Nat) (days_c : Nat) (layouts_a : Option Addr) (layouts_n : Nat) (layouts_c : Nat) (H : Heap) (R : Value → Heap → Prop)
  (h : ∃ (I : List Value → Heap → Prop) (μ : List Value → Heap → Nat),
  I [Value.int IntKind.i64 (0 : Int)] H ∧
    ∀ (J : F) (n : Int) (H' : Heap),
      I [Value.int IntKind.i64 n] H' →
        brB (decide (n < (↑days_n : Int)))
          (brB (decide (n < (↑layouts_n : Int)))
            (exSome days_a fun ad =>
              chk (decide ((0 : Int) ≤ n ∧ n < (↑days_n : Int)))
                (∃ n_1,
                  Ld Try.prog (3 : Nat) H' (Addr.add ad (Int.toNat n * (1 : Nat))) (Value.int IntKind.i64 n_1) ∧
                    exSome layouts_a fun ad =>
                      chk (decide ((0 : Int) ≤ n ∧ n < (↑layouts_n : Int)))
                        (∃ n_2,
                          Ld Try.prog (3 : Nat) H' (Addr.add ad (Int.toNat n * (1 : Nat))) (Value.int IntKind.i64 n_2) ∧
                            CallH Try.prog (15 : Nat)
                              {
                                toList :=
                                  [Value.pointer (some p), Value.int IntKind.i64 n_1, Value.int IntKind.i64 n_2] }
                              H' fun v H'_1 =>
                              ∃ n_3,
                                v = Value.int IntKind.i64 n_3 ∧
                                  exSome layouts_a fun ad =>
                                    chk (decide ((0 : Int) ≤ n ∧ n < (↑layouts_n : Int)))
                                      (∃ n_4,
                                        Ld Try.prog (3 : Nat) H'_1 (Addr.add ad (Int.toNat n * (1 : Nat)))
                                            (Value.int IntKind.i64 n_4) ∧
                                          brB (n_3 != n_4)
                                            (exSome days_a fun ad =>
                                              chk (decide ((0 : Int) ≤ n ∧ n < (↑days_n : Int)))
                                                (∃ n_5,
                                                  Ld Try.prog (3 : Nat) H'_1 (Addr.add ad (Int.toNat n * (1 : Nat)))
                                                      (Value.int IntKind.i64 n_5) ∧
                                                    R
                                                      (Value.tuple
                                                        {
                                                          toList :=
                                                            [Value.int IntKind.i64 n_5, Value.int IntKind.i64 n_3,
                                                              Value.bool true] })
                                                      H'_1))
                                            (I [Value.int IntKind.i64 (IntKind.wrap IntKind.i64 (n + (1 : Int)))] H'_1 ∧
                                              μ [Value.int IntKind.i64 (IntKind.wrap IntKind.i64 (n + (1 : Int)))]
                                                  H'_1 <
                                                μ [Value.int IntKind.i64 n] H')))))
            (R
              (Value.tuple
                { toList := [Value.int IntKind.i64 (0 : Int), Value.int IntKind.i64 (0 : Int), Value.bool false] })
              H'))
          (R
            (Value.tuple
              { toList := [Value.int IntKind.i64 (0 : Int), Value.int IntKind.i64 (0 : Int), Value.bool false] })
            H')) :
  CallH Try.prog 18 (List.toArray [Value.pointer (some p), Value.slice days_a days_n days_c, Value.slice layouts_a layouts_n layouts_c]) H R :=
  vc_call (annOf [([0, 1, 0, 1], .cut [(9, .one (.int .i64))]), ([0, 0, 0, 1, 0, 0, 1, 0, 1], .tail 9)]) followsAll Go.Proofs.Try.func18 rfl Go.Proofs.Try.ntmps18 rfl rfl (Eq.mpr (by kernel_rfl) h)

/- 19 (*strandline/policy.Policy).put
  notes: []
  places: []
  slots: [0=p, 1=day, 2=c, 3=p, 4=day, 5=c] -/
abbrev fn_policy_Policy_put : Nat := 19
theorem vc_policy_Policy_put (p : Addr) (day : Int) (c_0 : Int) (c_1 : Int) (H : Heap) (R : Value → Heap → Prop)
  (h : ∀ (b : Nat) (H' : Heap),
  New H b (Obj.cells { toList := [Value.int IntKind.i64 c_0, Value.int IntKind.i64 c_1] } (46 : Nat)) H' →
    ∃ n n_1,
      Ld Try.prog (46 : Nat) H' { block := b, off := (0 : Nat) }
          (Value.agg { toList := [Value.int IntKind.i64 n, Value.int IntKind.i64 n_1] }) ∧
        brB (n == (0 : Int) && (n_1 == (0 : Int) && true))
          (∃ r,
            Ld Try.prog (43 : Nat) H' p (Value.map r) ∧
              SemWp Try.prog
                (Builtin.delete_ { toList := [(43 : Nat), (3 : Nat)] } (0 : Nat)
                  { toList := [Value.map r, Value.int IntKind.i64 day] })
                H' fun v H' => v = Value.tuple { toList := [] } ∧ R (Value.tuple { toList := [] }) H')
          (∃ r,
            Ld Try.prog (43 : Nat) H' p (Value.map r) ∧
              ∃ n n_2,
                Ld Try.prog (46 : Nat) H' { block := b, off := (0 : Nat) }
                    (Value.agg { toList := [Value.int IntKind.i64 n, Value.int IntKind.i64 n_2] }) ∧
                  SemU Try.prog
                    (Instr.mapUpdate (43 : Nat) (Value.map r) (Value.int IntKind.i64 day)
                      (Value.agg { toList := [Value.int IntKind.i64 n, Value.int IntKind.i64 n_2] }))
                    H' fun H' => R (Value.tuple { toList := [] }) H')) :
  CallH Try.prog 19 (List.toArray [Value.pointer (some p), Value.int IntKind.i64 day, Value.agg #[Value.int IntKind.i64 c_0, Value.int IntKind.i64 c_1]]) H R :=
  vc_call (annOf [([1, 1], .tail 6)]) followsAll Go.Proofs.Try.func19 rfl Go.Proofs.Try.ntmps19 rfl rfl (Eq.mpr (by kernel_rfl) h)

/- 20 (*strandline/strandlineref18.Policy).Note
  notes: []
  places: []
  slots: [0=p, 1=day, 2=kind, 3=n, 4=p, 5=day, 6=kind, 7=n, 8=a, 9=b] -/
abbrev fn_ref18_Policy_Note : Nat := 20
theorem vc_ref18_Policy_Note (p : Addr) (day : Int) (kind : Int) (n : Int) (H : Heap) (R : Value → Heap → Prop)
  (h : CallH Try.prog (16 : Nat) { toList := [Value.pointer (some p), Value.int IntKind.i64 day] } H fun v H' =>
  ∃ n_1 n_2,
    v = Value.tuple { toList := [Value.int IntKind.i64 n_1, Value.int IntKind.i64 n_2] } ∧
      brB (decide ((if (1073741824 : Int) < n then (1073741824 : Int) else n) < (1 : Int)))
        (R (Value.tuple { toList := [] }) H')
        (brB (kind == (0 : Int))
          (CallH Try.prog (24 : Nat)
            {
              toList :=
                [Value.pointer (some p), Value.int IntKind.i64 day,
                  Value.int IntKind.i64
                    (if
                        (1073741824 : Int) <
                          IntKind.wrap IntKind.i64 (n_1 + if (1073741824 : Int) < n then (1073741824 : Int) else n) then
                      (1073741824 : Int)
                    else IntKind.wrap IntKind.i64 (n_1 + if (1073741824 : Int) < n then (1073741824 : Int) else n)),
                  Value.int IntKind.i64 n_2] }
            H' fun v H' => v = Value.tuple { toList := [] } ∧ R (Value.tuple { toList := [] }) H')
          (brB (kind == (1 : Int))
            (CallH Try.prog (24 : Nat)
              {
                toList :=
                  [Value.pointer (some p), Value.int IntKind.i64 day, Value.int IntKind.i64 n_1,
                    Value.int IntKind.i64
                      (if
                          (1073741824 : Int) <
                            IntKind.wrap IntKind.i64
                              (n_2 + if (1073741824 : Int) < n then (1073741824 : Int) else n) then
                        (1073741824 : Int)
                      else IntKind.wrap IntKind.i64 (n_2 + if (1073741824 : Int) < n then (1073741824 : Int) else n))] }
              H' fun v H' => v = Value.tuple { toList := [] } ∧ R (Value.tuple { toList := [] }) H')
            (R (Value.tuple { toList := [] }) H')))) :
  CallH Try.prog 20 (List.toArray [Value.pointer (some p), Value.int IntKind.i64 day, Value.int IntKind.i64 kind, Value.int IntKind.i64 n]) H R :=
  vc_call (annOf []) followsAll Go.Proofs.Try.func20 rfl Go.Proofs.Try.ntmps20 rfl rfl (Eq.mpr (by kernel_rfl) h)

/- 21 (*strandline/strandlineref18.Policy).Halve
  notes: []
  places: []
  slots: [0=p, 1=p, 2=i] -/
abbrev fn_ref18_Policy_Halve : Nat := 21
theorem vc_ref18_Policy_Halve (p : Addr) (H : Heap) (R : Value → Heap → Prop)
  (h : ∃ (I : List Value → Heap → Prop) (μ : List Value → Heap → Nat),
  I [Value.int IntKind.i64 (0 : Int)] H ∧
    ∀ (J : F) (n : Int) (H' : Heap),
      I [Value.int IntKind.i64 n] H' →
        ∃ a n_1 c,
          Ld Try.prog (48 : Nat) H' p (Value.slice a n_1 c) ∧
            brB (decide (n < (↑n_1 : Int)))
              (∃ a n_2 c,
                Ld Try.prog (48 : Nat) H' p (Value.slice a n_2 c) ∧
                  ∃ a_1 n_3 c,
                    Ld Try.prog (48 : Nat) H' p (Value.slice a_1 n_3 c) ∧
                      exSome a_1 fun ad =>
                        chk (decide ((0 : Int) ≤ n ∧ n < (↑n_3 : Int)))
                          (∃ n_4,
                            Ld Try.prog (3 : Nat) H' (Addr.add (Addr.add ad (Int.toNat n * (3 : Nat))) (1 : Nat))
                                (Value.int IntKind.i64 n_4) ∧
                              exSome a fun ad =>
                                chk (decide ((0 : Int) ≤ n ∧ n < (↑n_2 : Int)))
                                  (∃ H'_1,
                                    St Try.prog (3 : Nat) H'
                                        (Addr.add (Addr.add ad (Int.toNat n * (3 : Nat))) (1 : Nat))
                                        (Value.int IntKind.i64 (IntKind.wrap IntKind.i64 (Int.tdiv n_4 (2 : Int))))
                                        H'_1 ∧
                                      ∃ a n_5 c,
                                        Ld Try.prog (48 : Nat) H'_1 p (Value.slice a n_5 c) ∧
                                          ∃ a_2 n_6 c,
                                            Ld Try.prog (48 : Nat) H'_1 p (Value.slice a_2 n_6 c) ∧
                                              exSome a_2 fun ad =>
                                                chk (decide ((0 : Int) ≤ n ∧ n < (↑n_6 : Int)))
                                                  (∃ n_7,
                                                    Ld Try.prog (3 : Nat) H'_1
                                                        (Addr.add (Addr.add ad (Int.toNat n * (3 : Nat))) (2 : Nat))
                                                        (Value.int IntKind.i64 n_7) ∧
                                                      exSome a fun ad =>
                                                        chk (decide ((0 : Int) ≤ n ∧ n < (↑n_5 : Int)))
                                                          (∃ H'_2,
                                                            St Try.prog (3 : Nat) H'_1
                                                                (Addr.add (Addr.add ad (Int.toNat n * (3 : Nat)))
                                                                  (2 : Nat))
                                                                (Value.int IntKind.i64
                                                                  (IntKind.wrap IntKind.i64 (Int.tdiv n_7 (2 : Int))))
                                                                H'_2 ∧
                                                              I
                                                                  [Value.int IntKind.i64
                                                                      (IntKind.wrap IntKind.i64 (n + (1 : Int)))]
                                                                  H'_2 ∧
                                                                μ
                                                                    [Value.int IntKind.i64
                                                                        (IntKind.wrap IntKind.i64 (n + (1 : Int)))]
                                                                    H'_2 <
                                                                  μ [Value.int IntKind.i64 n] H')))))
              (R (Value.tuple { toList := [] }) H')) :
  CallH Try.prog 21 (List.toArray [Value.pointer (some p)]) H R :=
  vc_call (annOf [([0, 1], .cut [(2, .one (.int .i64))]), ([0, 0, 0, 1, 0, 0, 1], .tail 14), ([1, 0, 0, 1, 0, 0, 1], .tail 14)]) followsAll Go.Proofs.Try.func21 rfl Go.Proofs.Try.ntmps21 rfl rfl (Eq.mpr (by kernel_rfl) h)

/- 22 (*strandline/policy.Policy).Forget
  notes: []
  places: []
  slots: [0=p, 1=day, 2=p, 3=day] -/
abbrev fn_policy_Policy_Forget : Nat := 22
theorem vc_policy_Policy_Forget (p : Addr) (day : Int) (H : Heap) (R : Value → Heap → Prop)
  (h : ∃ r,
  Ld Try.prog (43 : Nat) H p (Value.map r) ∧
    SemWp Try.prog
      (Builtin.delete_ { toList := [(43 : Nat), (3 : Nat)] } (0 : Nat)
        { toList := [Value.map r, Value.int IntKind.i64 day] })
      H fun v H' => v = Value.tuple { toList := [] } ∧ R (Value.tuple { toList := [] }) H') :
  CallH Try.prog 22 (List.toArray [Value.pointer (some p), Value.int IntKind.i64 day]) H R :=
  vc_call (annOf []) followsAll Go.Proofs.Try.func22 rfl Go.Proofs.Try.ntmps22 rfl rfl (Eq.mpr (by kernel_rfl) h)

/- 23 (*strandline/strandlineref18.Policy).Forget
  notes: []
  places: []
  slots: [0=p, 1=day, 2=p, 3=day] -/
abbrev fn_ref18_Policy_Forget : Nat := 23
theorem vc_ref18_Policy_Forget (p : Addr) (day : Int) (H : Heap) (R : Value → Heap → Prop)
  (h : CallH Try.prog (24 : Nat)
  {
    toList :=
      [Value.pointer (some p), Value.int IntKind.i64 day, Value.int IntKind.i64 (0 : Int),
        Value.int IntKind.i64 (0 : Int)] }
  H fun v H' => v = Value.tuple { toList := [] } ∧ R (Value.tuple { toList := [] }) H') :
  CallH Try.prog 23 (List.toArray [Value.pointer (some p), Value.int IntKind.i64 day]) H R :=
  vc_call (annOf []) followsAll Go.Proofs.Try.func23 rfl Go.Proofs.Try.ntmps23 rfl rfl (Eq.mpr (by kernel_rfl) h)

/- 24 (*strandline/strandlineref18.Policy).set
  notes: []
  places: [([1, 0, 0, 1, 0, 1], ref.go:24 | ref.go:23)]
  slots: [0=p, 1=day, 2=a, 3=b, 4=p, 5=day, 6=a, 7=b, 8=out, 9=i] -/
abbrev fn_ref18_Policy_set : Nat := 24
theorem vc_ref18_Policy_set (p : Addr) (day : Int) (a : Int) (b : Int) (H : Heap) (R : Value → Heap → Prop)
  (h : ∀ (b_1 : Nat) (H' : Heap),
  New H b_1 (Obj.cells { toList := [] } (53 : Nat)) H' →
    ∃ (I : List Value → Heap → Prop) (μ : List Value → Heap → Nat),
      I [Value.slice (some { block := b_1, off := (0 : Nat) }) (0 : Nat) (0 : Nat), Value.int IntKind.i64 (0 : Int)]
          H' ∧
        ∀ (J : F) (a_2 : Option Addr) (n c : Nat) (n_1 : Int) (H' : Heap),
          I [Value.slice a_2 n c, Value.int IntKind.i64 n_1] H' →
            ∃ a_4 n_2 c_1,
              Ld Try.prog (48 : Nat) H' p (Value.slice a_4 n_2 c_1) ∧
                brB (decide (n_1 < (↑n_2 : Int)))
                  (∃ a n_3 c_2,
                    Ld Try.prog (48 : Nat) H' p (Value.slice a n_3 c_2) ∧
                      exSome a fun ad =>
                        chk (decide ((0 : Int) ≤ n_1 ∧ n_1 < (↑n_3 : Int)))
                          (∃ n_4,
                            Ld Try.prog (3 : Nat) H' (Addr.add ad (Int.toNat n_1 * (3 : Nat)))
                                (Value.int IntKind.i64 n_4) ∧
                              brB (n_4 != day)
                                (∃ a n_5 c_3,
                                  Ld Try.prog (48 : Nat) H' p (Value.slice a n_5 c_3) ∧
                                    exSome a fun ad =>
                                      chk (decide ((0 : Int) ≤ n_1 ∧ n_1 < (↑n_5 : Int)))
                                        (∃ n_6 n_7 n_8,
                                          Ld Try.prog (53 : Nat) H' (Addr.add ad (Int.toNat n_1 * (3 : Nat)))
                                              (Value.agg
                                                {
                                                  toList :=
                                                    [Value.int IntKind.i64 n_6, Value.int IntKind.i64 n_7,
                                                      Value.int IntKind.i64 n_8] }) ∧
                                            ∀ (b : Nat) (H'_1 : Heap),
                                              New H' b
                                                  (Obj.cells
                                                    {
                                                      toList :=
                                                        [Value.int IntKind.i64 n_6, Value.int IntKind.i64 n_7,
                                                          Value.int IntKind.i64 n_8] }
                                                    (53 : Nat))
                                                  H'_1 →
                                                SemWp Try.prog
                                                  (Builtin.append_ { toList := [(48 : Nat), (48 : Nat)] } (48 : Nat)
                                                    {
                                                      toList :=
                                                        [Value.slice a_2 n c,
                                                          Value.slice (some { block := b, off := (0 : Nat) }) (1 : Nat)
                                                            (1 : Nat)] })
                                                  H'_1 fun v H'_2 =>
                                                  ∃ a n_9 c_4,
                                                    v = Value.slice a n_9 c_4 ∧
                                                      I
                                                          [Value.slice a n_9 c_4,
                                                            Value.int IntKind.i64
                                                              (IntKind.wrap IntKind.i64 (n_1 + (1 : Int)))]
                                                          H'_2 ∧
                                                        μ
                                                            [Value.slice a n_9 c_4,
                                                              Value.int IntKind.i64
                                                                (IntKind.wrap IntKind.i64 (n_1 + (1 : Int)))]
                                                            H'_2 <
                                                          μ [Value.slice a_2 n c, Value.int IntKind.i64 n_1] H'))
                                (I
                                    [Value.slice a_2 n c,
                                      Value.int IntKind.i64 (IntKind.wrap IntKind.i64 (n_1 + (1 : Int)))]
                                    H' ∧
                                  μ
                                      [Value.slice a_2 n c,
                                        Value.int IntKind.i64 (IntKind.wrap IntKind.i64 (n_1 + (1 : Int)))]
                                      H' <
                                    μ [Value.slice a_2 n c, Value.int IntKind.i64 n_1] H')))
                  (∀ (b_2 : Nat) (H'_1 : Heap),
                    New H' b_2
                        (Obj.cells
                          { toList := [Value.int IntKind.i64 day, Value.int IntKind.i64 a, Value.int IntKind.i64 b] }
                          (53 : Nat))
                        H'_1 →
                      SemWp Try.prog
                        (Builtin.append_ { toList := [(48 : Nat), (48 : Nat)] } (48 : Nat)
                          {
                            toList :=
                              [Value.slice a_2 n c,
                                Value.slice (some { block := b_2, off := (0 : Nat) }) (1 : Nat) (1 : Nat)] })
                        H'_1 fun v H' =>
                        ∃ a n c,
                          v = Value.slice a n c ∧
                            ∃ H'_2,
                              St Try.prog (48 : Nat) H' p (Value.slice a n c) H'_2 ∧
                                R (Value.tuple { toList := [] }) H'_2)) :
  CallH Try.prog 24 (List.toArray [Value.pointer (some p), Value.int IntKind.i64 day, Value.int IntKind.i64 a, Value.int IntKind.i64 b]) H R :=
  vc_call (annOf [([0, 1, 0, 1], .cut [(8, .one .slice), (9, .one (.int .i64))])]) followsAll Go.Proofs.Try.func24 rfl Go.Proofs.Try.ntmps24 rfl rfl (Eq.mpr (by kernel_rfl) h)
end Go.Proofs
