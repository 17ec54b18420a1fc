/- A part of a proof: see the last text of this claim. -/
import Derived.Test.YtjpjmpnlomkdbaaGvCore
import Derived.Test.YtjpjmpnlomkdbaaRows
set_option linter.unusedVariables false
set_option maxRecDepth 100000
open Go Go.GV
namespace Go.Proofs
theorem followsAll : Try.prog.follows .mixedOrders = true := by kernel_rfl

/- 3 strandline/strandlinelaw13.SeriesWins
  notes: []
  places: [[0, 0, 1, 0, 0, 1, 0, 1, 1, 1, 1, 1, 1, 1], [1, 0, 0, 1, 0, 0, 1, 0, 1, 1, 1, 1, 1, 1, 1], [1, 1, 0, 0, 1, 0, 0, 1, 0, 1, 1, 1, 1, 1, 1, 1], [1, 1, 1, 0, 0, 1, 0, 0, 1, 0, 1, 1, 1, 1, 1, 1, 1]]
  slots: [0=a, 1=b, 2=a, 3=b, 5=x, 6=y, 7=m, 8=k, 9=j, 10=i, 11=first, 12=second] -/
abbrev fn_law13_SeriesWins : Nat := 3
theorem vc_law13_SeriesWins (a_a : Option Addr) (a_n : Nat) (a_c : Nat) (b_a : Option Addr) (b_n : Nat) (b_c : Nat) (H : Heap) (R : Value → Heap → Prop)
  (h : brB (decide ((↑a_n : Int) > (4096 : Int))) (R (Value.bool true) H)
  (brB (decide ((↑b_n : Int) > (4096 : Int))) (R (Value.bool true) H)
    (CallH Try.prog (9 : Nat) { toList := [Value.slice a_a a_n a_c] } H fun v H' =>
      ∃ a n c,
        v = Value.slice a n c ∧
          CallH Try.prog (9 : Nat) { toList := [Value.slice b_a b_n b_c] } H' fun v H' =>
            ∃ a_1 n_1 c_1,
              v = Value.slice a_1 n_1 c_1 ∧
                CallH Try.prog (10 : Nat) { toList := [Value.slice a n c, Value.slice a_1 n_1 c_1] } H' fun v H' =>
                  ∃ a_2 n_2 c_2,
                    v = Value.slice a_2 n_2 c_2 ∧
                      ∃ (I : List Value → Heap → Prop) (μ : List Value → Heap → Nat),
                        I
                            [Value.int IntKind.i64 (0 : Int), Value.int IntKind.i64 (0 : Int),
                              Value.int IntKind.i64 (0 : Int)]
                            H' ∧
                          ∀ (J : F) (n_3 n_4 n_5 : Int) (H' : Heap),
                            I [Value.int IntKind.i64 n_3, Value.int IntKind.i64 n_4, Value.int IntKind.i64 n_5] H' →
                              brB (decide (n_5 < (↑n_2 : Int)))
                                (∃ (M : List Value → Heap → Prop),
                                  brB (decide (n_3 < (↑n : Int)))
                                      (exSome a fun ad =>
                                        chk (decide ((0 : Int) ≤ n_3 ∧ n_3 < (↑n : Int)))
                                          (∃ n,
                                            Ld Try.prog (3 : Nat) H' (Addr.add ad (Int.toNat n_3 * (2 : Nat)))
                                                (Value.int IntKind.i64 n) ∧
                                              exSome a_2 fun ad =>
                                                chk (decide ((0 : Int) ≤ n_5 ∧ n_5 < (↑n_2 : Int)))
                                                  (∃ n_6,
                                                    Ld Try.prog (3 : Nat) H' (Addr.add ad (Int.toNat n_5 * (2 : Nat)))
                                                        (Value.int IntKind.i64 n_6) ∧
                                                      M [Value.bool (n == n_6)] H')))
                                      (M [Value.bool false] H') ∧
                                    ∀ (J : F) (b : Bool) (H'_1 : Heap),
                                      M [Value.bool b] H'_1 →
                                        ∃ (M : List Value → Heap → Prop),
                                          brB (decide (n_4 < (↑n_1 : Int)))
                                              (exSome a_1 fun ad =>
                                                chk (decide ((0 : Int) ≤ n_4 ∧ n_4 < (↑n_1 : Int)))
                                                  (∃ n,
                                                    Ld Try.prog (3 : Nat) H'_1 (Addr.add ad (Int.toNat n_4 * (2 : Nat)))
                                                        (Value.int IntKind.i64 n) ∧
                                                      exSome a_2 fun ad =>
                                                        chk (decide ((0 : Int) ≤ n_5 ∧ n_5 < (↑n_2 : Int)))
                                                          (∃ n_6,
                                                            Ld Try.prog (3 : Nat) H'_1
                                                                (Addr.add ad (Int.toNat n_5 * (2 : Nat)))
                                                                (Value.int IntKind.i64 n_6) ∧
                                                              M [Value.bool (n == n_6)] H'_1)))
                                              (M [Value.bool false] H'_1) ∧
                                            ∀ (J : F) (b_1 : Bool) (H'_2 : Heap),
                                              M [Value.bool b_1] H'_2 →
                                                ∃ (M : List Value → Heap → Prop),
                                                  brB (!b)
                                                      (brB (!b_1) (R (Value.bool false) H'_2)
                                                        (brB b_1
                                                          (exSome a_2 fun ad =>
                                                            chk (decide ((0 : Int) ≤ n_5 ∧ n_5 < (↑n_2 : Int)))
                                                              (∃ n_6 n_7,
                                                                Ld Try.prog (26 : Nat) H'_2
                                                                    (Addr.add ad (Int.toNat n_5 * (2 : Nat)))
                                                                    (Value.agg
                                                                      {
                                                                        toList :=
                                                                          [Value.int IntKind.i64 n_6,
                                                                            Value.int IntKind.i64 n_7] }) ∧
                                                                  exSome a_1 fun ad =>
                                                                    chk (decide ((0 : Int) ≤ n_4 ∧ n_4 < (↑n_1 : Int)))
                                                                      (∃ n_8 n_9,
                                                                        Ld Try.prog (26 : Nat) H'_2
                                                                            (Addr.add ad (Int.toNat n_4 * (2 : Nat)))
                                                                            (Value.agg
                                                                              {
                                                                                toList :=
                                                                                  [Value.int IntKind.i64 n_8,
                                                                                    Value.int IntKind.i64 n_9] }) ∧
                                                                          brB (!(n_6 == n_8 && (n_7 == n_9 && true)))
                                                                            (R (Value.bool false) H'_2)
                                                                            (brB (!b_1)
                                                                              (exSome a_2 fun ad =>
                                                                                chk
                                                                                  (decide
                                                                                    ((0 : Int) ≤ n_5 ∧
                                                                                      n_5 < (↑n_2 : Int)))
                                                                                  (∃ n_10 n_11,
                                                                                    Ld Try.prog (26 : Nat) H'_2
                                                                                        (Addr.add ad
                                                                                          (Int.toNat n_5 * (2 : Nat)))
                                                                                        (Value.agg
                                                                                          {
                                                                                            toList :=
                                                                                              [Value.int IntKind.i64
                                                                                                  n_10,
                                                                                                Value.int IntKind.i64
                                                                                                  n_11] }) ∧
                                                                                      exSome a fun ad =>
                                                                                        chk
                                                                                          (decide
                                                                                            ((0 : Int) ≤ n_3 ∧
                                                                                              n_3 < (↑n : Int)))
                                                                                          (∃ n n_12,
                                                                                            Ld Try.prog (26 : Nat) H'_2
                                                                                                (Addr.add ad
                                                                                                  (Int.toNat n_3 *
                                                                                                    (2 : Nat)))
                                                                                                (Value.agg
                                                                                                  {
                                                                                                    toList :=
                                                                                                      [Value.int
                                                                                                          IntKind.i64 n,
                                                                                                        Value.int
                                                                                                          IntKind.i64
                                                                                                          n_12] }) ∧
                                                                                              brB
                                                                                                (!(n_10 == n &&
                                                                                                    (n_11 == n_12 &&
                                                                                                      true)))
                                                                                                (R (Value.bool false)
                                                                                                  H'_2)
                                                                                                (M [] H'_2))))
                                                                              (M [] H'_2)))))
                                                          (brB (!b_1)
                                                            (exSome a_2 fun ad =>
                                                              chk (decide ((0 : Int) ≤ n_5 ∧ n_5 < (↑n_2 : Int)))
                                                                (∃ n_6 n_7,
                                                                  Ld Try.prog (26 : Nat) H'_2
                                                                      (Addr.add ad (Int.toNat n_5 * (2 : Nat)))
                                                                      (Value.agg
                                                                        {
                                                                          toList :=
                                                                            [Value.int IntKind.i64 n_6,
                                                                              Value.int IntKind.i64 n_7] }) ∧
                                                                    exSome a fun ad =>
                                                                      chk (decide ((0 : Int) ≤ n_3 ∧ n_3 < (↑n : Int)))
                                                                        (∃ n n_8,
                                                                          Ld Try.prog (26 : Nat) H'_2
                                                                              (Addr.add ad (Int.toNat n_3 * (2 : Nat)))
                                                                              (Value.agg
                                                                                {
                                                                                  toList :=
                                                                                    [Value.int IntKind.i64 n,
                                                                                      Value.int IntKind.i64 n_8] }) ∧
                                                                            brB (!(n_6 == n && (n_7 == n_8 && true)))
                                                                              (R (Value.bool false) H'_2) (M [] H'_2))))
                                                            (M [] H'_2))))
                                                      (brB b_1
                                                        (exSome a_2 fun ad =>
                                                          chk (decide ((0 : Int) ≤ n_5 ∧ n_5 < (↑n_2 : Int)))
                                                            (∃ n_6 n_7,
                                                              Ld Try.prog (26 : Nat) H'_2
                                                                  (Addr.add ad (Int.toNat n_5 * (2 : Nat)))
                                                                  (Value.agg
                                                                    {
                                                                      toList :=
                                                                        [Value.int IntKind.i64 n_6,
                                                                          Value.int IntKind.i64 n_7] }) ∧
                                                                exSome a_1 fun ad =>
                                                                  chk (decide ((0 : Int) ≤ n_4 ∧ n_4 < (↑n_1 : Int)))
                                                                    (∃ n_8 n_9,
                                                                      Ld Try.prog (26 : Nat) H'_2
                                                                          (Addr.add ad (Int.toNat n_4 * (2 : Nat)))
                                                                          (Value.agg
                                                                            {
                                                                              toList :=
                                                                                [Value.int IntKind.i64 n_8,
                                                                                  Value.int IntKind.i64 n_9] }) ∧
                                                                        brB (!(n_6 == n_8 && (n_7 == n_9 && true)))
                                                                          (R (Value.bool false) H'_2)
                                                                          (brB (!b_1)
                                                                            (exSome a_2 fun ad =>
                                                                              chk
                                                                                (decide
                                                                                  ((0 : Int) ≤ n_5 ∧
                                                                                    n_5 < (↑n_2 : Int)))
                                                                                (∃ n_10 n_11,
                                                                                  Ld Try.prog (26 : Nat) H'_2
                                                                                      (Addr.add ad
                                                                                        (Int.toNat n_5 * (2 : Nat)))
                                                                                      (Value.agg
                                                                                        {
                                                                                          toList :=
                                                                                            [Value.int IntKind.i64 n_10,
                                                                                              Value.int IntKind.i64
                                                                                                n_11] }) ∧
                                                                                    exSome a fun ad =>
                                                                                      chk
                                                                                        (decide
                                                                                          ((0 : Int) ≤ n_3 ∧
                                                                                            n_3 < (↑n : Int)))
                                                                                        (∃ n n_12,
                                                                                          Ld Try.prog (26 : Nat) H'_2
                                                                                              (Addr.add ad
                                                                                                (Int.toNat n_3 *
                                                                                                  (2 : Nat)))
                                                                                              (Value.agg
                                                                                                {
                                                                                                  toList :=
                                                                                                    [Value.int
                                                                                                        IntKind.i64 n,
                                                                                                      Value.int
                                                                                                        IntKind.i64
                                                                                                        n_12] }) ∧
                                                                                            brB
                                                                                              (!(n_10 == n &&
                                                                                                  (n_11 == n_12 &&
                                                                                                    true)))
                                                                                              (R (Value.bool false)
                                                                                                H'_2)
                                                                                              (M [] H'_2))))
                                                                            (M [] H'_2)))))
                                                        (brB (!b_1)
                                                          (exSome a_2 fun ad =>
                                                            chk (decide ((0 : Int) ≤ n_5 ∧ n_5 < (↑n_2 : Int)))
                                                              (∃ n_6 n_7,
                                                                Ld Try.prog (26 : Nat) H'_2
                                                                    (Addr.add ad (Int.toNat n_5 * (2 : Nat)))
                                                                    (Value.agg
                                                                      {
                                                                        toList :=
                                                                          [Value.int IntKind.i64 n_6,
                                                                            Value.int IntKind.i64 n_7] }) ∧
                                                                  exSome a fun ad =>
                                                                    chk (decide ((0 : Int) ≤ n_3 ∧ n_3 < (↑n : Int)))
                                                                      (∃ n n_8,
                                                                        Ld Try.prog (26 : Nat) H'_2
                                                                            (Addr.add ad (Int.toNat n_3 * (2 : Nat)))
                                                                            (Value.agg
                                                                              {
                                                                                toList :=
                                                                                  [Value.int IntKind.i64 n,
                                                                                    Value.int IntKind.i64 n_8] }) ∧
                                                                          brB (!(n_6 == n && (n_7 == n_8 && true)))
                                                                            (R (Value.bool false) H'_2) (M [] H'_2))))
                                                          (M [] H'_2))) ∧
                                                    ∀ (J : F) (H'_3 : Heap),
                                                      M [] H'_3 →
                                                        ∃ (M : List Value → Heap → Prop),
                                                          brB b
                                                              (M
                                                                [Value.int IntKind.i64
                                                                    (IntKind.wrap IntKind.i64 (n_3 + (1 : Int)))]
                                                                H'_3)
                                                              (M [Value.int IntKind.i64 n_3] H'_3) ∧
                                                            ∀ (J : F) (n : Int) (H'_4 : Heap),
                                                              M [Value.int IntKind.i64 n] H'_4 →
                                                                brB b_1
                                                                  (I
                                                                      [Value.int IntKind.i64 n,
                                                                        Value.int IntKind.i64
                                                                          (IntKind.wrap IntKind.i64 (n_4 + (1 : Int))),
                                                                        Value.int IntKind.i64
                                                                          (IntKind.wrap IntKind.i64 (n_5 + (1 : Int)))]
                                                                      H'_4 ∧
                                                                    μ
                                                                        [Value.int IntKind.i64 n,
                                                                          Value.int IntKind.i64
                                                                            (IntKind.wrap IntKind.i64
                                                                              (n_4 + (1 : Int))),
                                                                          Value.int IntKind.i64
                                                                            (IntKind.wrap IntKind.i64
                                                                              (n_5 + (1 : Int)))]
                                                                        H'_4 <
                                                                      μ
                                                                        [Value.int IntKind.i64 n_3,
                                                                          Value.int IntKind.i64 n_4,
                                                                          Value.int IntKind.i64 n_5]
                                                                        H')
                                                                  (I
                                                                      [Value.int IntKind.i64 n,
                                                                        Value.int IntKind.i64 n_4,
                                                                        Value.int IntKind.i64
                                                                          (IntKind.wrap IntKind.i64 (n_5 + (1 : Int)))]
                                                                      H'_4 ∧
                                                                    μ
                                                                        [Value.int IntKind.i64 n,
                                                                          Value.int IntKind.i64 n_4,
                                                                          Value.int IntKind.i64
                                                                            (IntKind.wrap IntKind.i64
                                                                              (n_5 + (1 : Int)))]
                                                                        H'_4 <
                                                                      μ
                                                                        [Value.int IntKind.i64 n_3,
                                                                          Value.int IntKind.i64 n_4,
                                                                          Value.int IntKind.i64 n_5]
                                                                        H'))
                                (brB (n_3 == (↑n : Int))
                                  (brB (n_4 == (↑n_1 : Int))
                                    (CallH Try.prog (10 : Nat) { toList := [Value.slice a n c, Value.slice a n c] } H'
                                      fun v H' =>
                                      ∃ a_4 n_6 c_3,
                                        v = Value.slice a_4 n_6 c_3 ∧
                                          CallH Try.prog (11 : Nat)
                                            { toList := [Value.slice a_4 n_6 c_3, Value.slice a n c] } H' fun v H' =>
                                            ∃ b,
                                              v = Value.bool b ∧
                                                brB b
                                                  (CallH Try.prog (12 : Nat) { toList := [Value.slice a_2 n_2 c_2] } H'
                                                    fun v H' => ∃ b, v = Value.bool b ∧ R (Value.bool b) H')
                                                  (R (Value.bool false) H'))
                                    (R (Value.bool false) H'))
                                  (R (Value.bool false) H'))))) :
  CallH Try.prog 3 (List.toArray [Value.slice a_a a_n a_c, Value.slice b_a b_n b_c]) H R :=
  vc_call (annOf [([0, 1, 0, 1, 1, 1, 1, 1, 1, 1], .cut [(8, .one (.int .i64)), (9, .one (.int .i64)), (10, .one (.int .i64))]), ([0, 0, 1, 0, 0, 1, 0, 1, 1, 1, 1, 1, 1, 1], .cut [(11, .one .bool)]), ([1, 0, 0, 1, 0, 0, 1, 0, 1, 1, 1, 1, 1, 1, 1], .cut [(12, .one .bool)]), ([1, 1, 0, 0, 1, 0, 0, 1, 0, 1, 1, 1, 1, 1, 1, 1], .cut []), ([1, 1, 1, 0, 0, 1, 0, 0, 1, 0, 1, 1, 1, 1, 1, 1, 1], .cut [(8, .one (.int .i64))])]) followsAll Go.Proofs.Try.func3 rfl Go.Proofs.Try.ntmps3 rfl rfl (Eq.mpr (by kernel_rfl) h)

/- 4 strandline/strandlinelaw13.SeriesCut
  notes: []
  places: []
  slots: [0=raw, 1=a, 2=b, 3=c, 4=raw, 5=a, 6=b, 7=c, 9=l, 10=lo, 11=hi, 12=mid, 13=p, 14=q, 15=both] -/
abbrev fn_law13_SeriesCut : Nat := 4
theorem vc_law13_SeriesCut (raw_a : Option Addr) (raw_n : Nat) (raw_c : Nat) (a : Int) (b : Int) (c : Int) (H : Heap) (R : Value → Heap → Prop)
  (h : brB (decide ((↑raw_n : Int) > (4096 : Int))) (R (Value.bool true) H)
  (CallH Try.prog (9 : Nat) { toList := [Value.slice raw_a raw_n raw_c] } H fun v H' =>
    ∃ a_1 n c_1,
      v = Value.slice a_1 n c_1 ∧
        CallH Try.prog (13 : Nat)
          {
            toList :=
              [Value.slice a_1 n c_1,
                Value.agg
                  {
                    toList :=
                      [Value.int IntKind.i64 (if c < if b < a then b else a then c else if b < a then b else a),
                        Value.int IntKind.i64
                          (if
                              (if c < if b > a then b else a then c else if b > a then b else a) >
                                if b < a then b else a then
                            if c < if b > a then b else a then c else if b > a then b else a
                          else if b < a then b else a)] }] }
          H' fun v H' =>
          ∃ a_2 n_1 c_2,
            v = Value.slice a_2 n_1 c_2 ∧
              CallH Try.prog (13 : Nat)
                {
                  toList :=
                    [Value.slice a_1 n c_1,
                      Value.agg
                        {
                          toList :=
                            [Value.int IntKind.i64
                                (if
                                    (if c < if b > a then b else a then c else if b > a then b else a) >
                                      if b < a then b else a then
                                  if c < if b > a then b else a then c else if b > a then b else a
                                else if b < a then b else a),
                              Value.int IntKind.i64
                                (if c > if b > a then b else a then c else if b > a then b else a)] }] }
                H' fun v H' =>
                ∃ a_3 n_2 c_3,
                  v = Value.slice a_3 n_2 c_3 ∧
                    ∀ (b_1 : Nat) (H'_1 : Heap),
                      New H' b_1 (Obj.cells { toList := [] } (26 : Nat)) H'_1 →
                        SemWp Try.prog
                          (Builtin.append_ { toList := [(22 : Nat), (22 : Nat)] } (22 : Nat)
                            {
                              toList :=
                                [Value.slice (some { block := b_1, off := (0 : Nat) }) (0 : Nat) (0 : Nat),
                                  Value.slice a_2 n_1 c_2] })
                          H'_1 fun v H' =>
                          ∃ a_5 n_3 c_4,
                            v = Value.slice a_5 n_3 c_4 ∧
                              SemWp Try.prog
                                (Builtin.append_ { toList := [(22 : Nat), (22 : Nat)] } (22 : Nat)
                                  { toList := [Value.slice a_5 n_3 c_4, Value.slice a_3 n_2 c_3] })
                                H' fun v H' =>
                                ∃ a_6 n_4 c_5,
                                  v = Value.slice a_6 n_4 c_5 ∧
                                    CallH Try.prog (13 : Nat)
                                      {
                                        toList :=
                                          [Value.slice a_1 n c_1,
                                            Value.agg
                                              {
                                                toList :=
                                                  [Value.int IntKind.i64
                                                      (if c < if b < a then b else a then c
                                                      else if b < a then b else a),
                                                    Value.int IntKind.i64
                                                      (if c > if b > a then b else a then c
                                                      else if b > a then b else a)] }] }
                                      H' fun v H' =>
                                      ∃ a_7 n_5 c_6,
                                        v = Value.slice a_7 n_5 c_6 ∧
                                          CallH Try.prog (11 : Nat)
                                            { toList := [Value.slice a_6 n_4 c_5, Value.slice a_7 n_5 c_6] } H'
                                            fun v H' =>
                                            ∃ b_2,
                                              v = Value.bool b_2 ∧
                                                brB (!b_2) (R (Value.bool false) H')
                                                  (CallH Try.prog (12 : Nat)
                                                    { toList := [Value.slice none (0 : Nat) (0 : Nat)] } H' fun v H' =>
                                                    ∃ b_3,
                                                      v = Value.bool b_3 ∧
                                                        brB (!b_3) (R (Value.bool false) H')
                                                          (CallH Try.prog (14 : Nat)
                                                            {
                                                              toList :=
                                                                [Value.slice a_1 n c_1,
                                                                  Value.agg
                                                                    {
                                                                      toList :=
                                                                        [Value.int IntKind.i64
                                                                            (if c < if b < a then b else a then c
                                                                            else if b < a then b else a),
                                                                          Value.int IntKind.i64
                                                                            (if c > if b > a then b else a then c
                                                                            else if b > a then b else a)] }] }
                                                            H' fun v H' =>
                                                            ∃ a_8 n_6 c_7,
                                                              v = Value.slice a_8 n_6 c_7 ∧
                                                                CallH Try.prog (14 : Nat)
                                                                  {
                                                                    toList :=
                                                                      [Value.slice a_1 n c_1,
                                                                        Value.agg
                                                                          {
                                                                            toList :=
                                                                              [Value.int IntKind.i64
                                                                                  (if c < if b < a then b else a then c
                                                                                  else if b < a then b else a),
                                                                                Value.int IntKind.i64
                                                                                  (if
                                                                                      (if
                                                                                            c <
                                                                                              if b > a then b
                                                                                              else a then
                                                                                          c
                                                                                        else if b > a then b else a) >
                                                                                        if b < a then b else a then
                                                                                    if c < if b > a then b else a then c
                                                                                    else if b > a then b else a
                                                                                  else if b < a then b else a)] }] }
                                                                  H' fun v H' =>
                                                                  ∃ a_9 n_7 c_8,
                                                                    v = Value.slice a_9 n_7 c_8 ∧
                                                                      CallH Try.prog (14 : Nat)
                                                                        {
                                                                          toList :=
                                                                            [Value.slice a_9 n_7 c_8,
                                                                              Value.agg
                                                                                {
                                                                                  toList :=
                                                                                    [Value.int IntKind.i64
                                                                                        (if
                                                                                            (if
                                                                                                  c <
                                                                                                    if b > a then b
                                                                                                    else a then
                                                                                                c
                                                                                              else
                                                                                                if b > a then b
                                                                                                else a) >
                                                                                              if b < a then b
                                                                                              else a then
                                                                                          if
                                                                                              c <
                                                                                                if b > a then b
                                                                                                else a then
                                                                                            c
                                                                                          else if b > a then b else a
                                                                                        else if b < a then b else a),
                                                                                      Value.int IntKind.i64
                                                                                        (if
                                                                                            c >
                                                                                              if b > a then b
                                                                                              else a then
                                                                                          c
                                                                                        else
                                                                                          if b > a then b else a)] }] }
                                                                        H' fun v H' =>
                                                                        ∃ a_10 n_8 c_9,
                                                                          v = Value.slice a_10 n_8 c_9 ∧
                                                                            CallH Try.prog (11 : Nat)
                                                                              {
                                                                                toList :=
                                                                                  [Value.slice a_8 n_6 c_7,
                                                                                    Value.slice a_10 n_8 c_9] }
                                                                              H' fun v H' =>
                                                                              ∃ b_4,
                                                                                v = Value.bool b_4 ∧
                                                                                  brB b_4
                                                                                    (CallH Try.prog (15 : Nat)
                                                                                      {
                                                                                        toList :=
                                                                                          [Value.slice a_1 n c_1,
                                                                                            Value.agg
                                                                                              {
                                                                                                toList :=
                                                                                                  [Value.int IntKind.i64
                                                                                                      (if
                                                                                                          c <
                                                                                                            if
                                                                                                                b <
                                                                                                                  a then
                                                                                                              b
                                                                                                            else a then
                                                                                                        c
                                                                                                      else
                                                                                                        if b < a then b
                                                                                                        else a),
                                                                                                    Value.int
                                                                                                      IntKind.i64
                                                                                                      (if
                                                                                                          (if
                                                                                                                c <
                                                                                                                  if
                                                                                                                      b >
                                                                                                                        a then
                                                                                                                    b
                                                                                                                  else
                                                                                                                    a then
                                                                                                              c
                                                                                                            else
                                                                                                              if
                                                                                                                  b >
                                                                                                                    a then
                                                                                                                b
                                                                                                              else a) >
                                                                                                            if
                                                                                                                b <
                                                                                                                  a then
                                                                                                              b
                                                                                                            else a then
                                                                                                        if
                                                                                                            c <
                                                                                                              if
                                                                                                                  b >
                                                                                                                    a then
                                                                                                                b
                                                                                                              else
                                                                                                                a then
                                                                                                          c
                                                                                                        else
                                                                                                          if b > a then
                                                                                                            b
                                                                                                          else a
                                                                                                      else
                                                                                                        if b < a then b
                                                                                                        else a)] }] }
                                                                                      H' fun v H' =>
                                                                                      ∃ a n c,
                                                                                        v = Value.slice a n c ∧
                                                                                          CallH Try.prog (11 : Nat)
                                                                                            {
                                                                                              toList :=
                                                                                                [Value.slice a_2 n_1
                                                                                                    c_2,
                                                                                                  Value.slice a n c] }
                                                                                            H' fun v H' =>
                                                                                            ∃ b,
                                                                                              v = Value.bool b ∧
                                                                                                R (Value.bool b) H')
                                                                                    (R (Value.bool false) H'))))) :
  CallH Try.prog 4 (List.toArray [Value.slice raw_a raw_n raw_c, Value.int IntKind.i64 a, Value.int IntKind.i64 b, Value.int IntKind.i64 c]) H R :=
  vc_call (annOf []) followsAll Go.Proofs.Try.func4 rfl Go.Proofs.Try.ntmps4 rfl rfl (Eq.mpr (by kernel_rfl) h)

/- 5 strandline/strandlinelaw13.SeriesMerges
  notes: []
  places: []
  slots: [0=a, 1=b, 2=r, 3=a, 4=b, 5=r, 7=x, 8=y, 9=m, 10=p, 11=q] -/
abbrev fn_law13_SeriesMerges : Nat := 5
theorem vc_law13_SeriesMerges (a_a : Option Addr) (a_n : Nat) (a_c : Nat) (b_a : Option Addr) (b_n : Nat) (b_c : Nat) (r_0 : Int) (r_1 : Int) (H : Heap) (R : Value → Heap → Prop)
  (h : ∀ (b : Nat) (H' : Heap),
  New H b (Obj.cells { toList := [Value.int IntKind.i64 r_0, Value.int IntKind.i64 r_1] } (31 : Nat)) H' →
    brB (decide ((↑a_n : Int) > (4096 : Int))) (R (Value.bool true) H')
      (brB (decide ((↑b_n : Int) > (4096 : Int))) (R (Value.bool true) H')
        (CallH Try.prog (9 : Nat) { toList := [Value.slice a_a a_n a_c] } H' fun v H' =>
          ∃ a n c,
            v = Value.slice a n c ∧
              CallH Try.prog (9 : Nat) { toList := [Value.slice b_a b_n b_c] } H' fun v H' =>
                ∃ a_1 n_1 c_1,
                  v = Value.slice a_1 n_1 c_1 ∧
                    CallH Try.prog (10 : Nat) { toList := [Value.slice a n c, Value.slice a_1 n_1 c_1] } H' fun v H' =>
                      ∃ a_2 n_2 c_2,
                        v = Value.slice a_2 n_2 c_2 ∧
                          CallH Try.prog (12 : Nat) { toList := [Value.slice a_a a_n a_c] } H' fun v H' =>
                            ∃ b_1,
                              v = Value.bool b_1 ∧
                                CallH Try.prog (16 : Nat) { toList := [Value.slice a_a a_n a_c] } H' fun v H' =>
                                  ∃ b_2,
                                    v = Value.bool b_2 ∧
                                      brB (!b_1 == b_2) (R (Value.bool false) H')
                                        (CallH Try.prog (17 : Nat)
                                          { toList := [Value.slice a n c, Value.slice a_1 n_1 c_1] } H' fun v H' =>
                                          ∃ a n c,
                                            v = Value.slice a n c ∧
                                              CallH Try.prog (11 : Nat)
                                                { toList := [Value.slice a_2 n_2 c_2, Value.slice a n c] } H'
                                                fun v H' =>
                                                ∃ b_3,
                                                  v = Value.bool b_3 ∧
                                                    brB (!b_3) (R (Value.bool false) H')
                                                      (CallH Try.prog (12 : Nat) { toList := [Value.slice a_2 n_2 c_2] }
                                                        H' fun v H' =>
                                                        ∃ b_4,
                                                          v = Value.bool b_4 ∧
                                                            brB (!b_4) (R (Value.bool false) H')
                                                              (∃ n n_3,
                                                                Ld Try.prog (31 : Nat) H'
                                                                    { block := b, off := (0 : Nat) }
                                                                    (Value.agg
                                                                      {
                                                                        toList :=
                                                                          [Value.int IntKind.i64 n,
                                                                            Value.int IntKind.i64 n_3] }) ∧
                                                                  CallH Try.prog (13 : Nat)
                                                                    {
                                                                      toList :=
                                                                        [Value.slice a_2 n_2 c_2,
                                                                          Value.agg
                                                                            {
                                                                              toList :=
                                                                                [Value.int IntKind.i64 n,
                                                                                  Value.int IntKind.i64 n_3] }] }
                                                                    H' fun v H' =>
                                                                    ∃ a n c,
                                                                      v = Value.slice a n c ∧
                                                                        ∃ n_4 n_5,
                                                                          Ld Try.prog (31 : Nat) H'
                                                                              { block := b, off := (0 : Nat) }
                                                                              (Value.agg
                                                                                {
                                                                                  toList :=
                                                                                    [Value.int IntKind.i64 n_4,
                                                                                      Value.int IntKind.i64 n_5] }) ∧
                                                                            CallH Try.prog (14 : Nat)
                                                                              {
                                                                                toList :=
                                                                                  [Value.slice a_2 n_2 c_2,
                                                                                    Value.agg
                                                                                      {
                                                                                        toList :=
                                                                                          [Value.int IntKind.i64 n_4,
                                                                                            Value.int IntKind.i64
                                                                                              n_5] }] }
                                                                              H' fun v H' =>
                                                                              ∃ a_3 n_6 c_3,
                                                                                v = Value.slice a_3 n_6 c_3 ∧
                                                                                  ∃ n_7 n_8,
                                                                                    Ld Try.prog (31 : Nat) H'
                                                                                        { block := b, off := (0 : Nat) }
                                                                                        (Value.agg
                                                                                          {
                                                                                            toList :=
                                                                                              [Value.int IntKind.i64
                                                                                                  n_7,
                                                                                                Value.int IntKind.i64
                                                                                                  n_8] }) ∧
                                                                                      CallH Try.prog (15 : Nat)
                                                                                        {
                                                                                          toList :=
                                                                                            [Value.slice a_2 n_2 c_2,
                                                                                              Value.agg
                                                                                                {
                                                                                                  toList :=
                                                                                                    [Value.int
                                                                                                        IntKind.i64 n_7,
                                                                                                      Value.int
                                                                                                        IntKind.i64
                                                                                                        n_8] }] }
                                                                                        H' fun v H' =>
                                                                                        ∃ a_4 n_9 c_4,
                                                                                          v = Value.slice a_4 n_9 c_4 ∧
                                                                                            CallH Try.prog (11 : Nat)
                                                                                              {
                                                                                                toList :=
                                                                                                  [Value.slice a n c,
                                                                                                    Value.slice a_4 n_9
                                                                                                      c_4] }
                                                                                              H' fun v H' =>
                                                                                              ∃ b_5,
                                                                                                v = Value.bool b_5 ∧
                                                                                                  brB b_5
                                                                                                    (∃ n_10 n_11,
                                                                                                      Ld Try.prog
                                                                                                          (31 : Nat) H'
                                                                                                          { block := b,
                                                                                                            off :=
                                                                                                              (0 :
                                                                                                                Nat) }
                                                                                                          (Value.agg
                                                                                                            {
                                                                                                              toList :=
                                                                                                                [Value.int
                                                                                                                    IntKind.i64
                                                                                                                    n_10,
                                                                                                                  Value.int
                                                                                                                    IntKind.i64
                                                                                                                    n_11] }) ∧
                                                                                                        CallH Try.prog
                                                                                                          (18 : Nat)
                                                                                                          {
                                                                                                            toList :=
                                                                                                              [Value.slice
                                                                                                                  a_2
                                                                                                                  n_2
                                                                                                                  c_2,
                                                                                                                Value.agg
                                                                                                                  {
                                                                                                                    toList :=
                                                                                                                      [Value.int
                                                                                                                          IntKind.i64
                                                                                                                          n_10,
                                                                                                                        Value.int
                                                                                                                          IntKind.i64
                                                                                                                          n_11] }] }
                                                                                                          H' fun v H' =>
                                                                                                          ∃ a_5 n_12
                                                                                                            c_5,
                                                                                                            v =
                                                                                                                Value.slice
                                                                                                                  a_5
                                                                                                                  n_12
                                                                                                                  c_5 ∧
                                                                                                              CallH
                                                                                                                Try.prog
                                                                                                                (11 :
                                                                                                                  Nat)
                                                                                                                {
                                                                                                                  toList :=
                                                                                                                    [Value.slice
                                                                                                                        a_3
                                                                                                                        n_6
                                                                                                                        c_3,
                                                                                                                      Value.slice
                                                                                                                        a_5
                                                                                                                        n_12
                                                                                                                        c_5] }
                                                                                                                H'
                                                                                                                fun v
                                                                                                                  H' =>
                                                                                                                ∃ b,
                                                                                                                  v =
                                                                                                                      Value.bool
                                                                                                                        b ∧
                                                                                                                    brB
                                                                                                                      b
                                                                                                                      (CallH
                                                                                                                        Try.prog
                                                                                                                        (10 :
                                                                                                                          Nat)
                                                                                                                        {
                                                                                                                          toList :=
                                                                                                                            [Value.slice
                                                                                                                                a
                                                                                                                                n
                                                                                                                                c,
                                                                                                                              Value.slice
                                                                                                                                a_3
                                                                                                                                n_6
                                                                                                                                c_3] }
                                                                                                                        H'
                                                                                                                        fun
                                                                                                                          v
                                                                                                                          H' =>
                                                                                                                        ∃
                                                                                                                          a
                                                                                                                          n_13
                                                                                                                          c,
                                                                                                                          v =
                                                                                                                              Value.slice
                                                                                                                                a
                                                                                                                                n_13
                                                                                                                                c ∧
                                                                                                                            CallH
                                                                                                                              Try.prog
                                                                                                                              (11 :
                                                                                                                                Nat)
                                                                                                                              {
                                                                                                                                toList :=
                                                                                                                                  [Value.slice
                                                                                                                                      a
                                                                                                                                      n_13
                                                                                                                                      c,
                                                                                                                                    Value.slice
                                                                                                                                      a_2
                                                                                                                                      n_2
                                                                                                                                      c_2] }
                                                                                                                              H'
                                                                                                                              fun
                                                                                                                                v
                                                                                                                                H' =>
                                                                                                                              ∃
                                                                                                                                b,
                                                                                                                                v =
                                                                                                                                    Value.bool
                                                                                                                                      b ∧
                                                                                                                                  brB
                                                                                                                                    b
                                                                                                                                    (R
                                                                                                                                      (Value.bool
                                                                                                                                        (IntKind.wrap
                                                                                                                                            IntKind.i64
                                                                                                                                            ((↑n :
                                                                                                                                                Int) +
                                                                                                                                              (↑n_6 :
                                                                                                                                                Int)) ==
                                                                                                                                          (↑n_2 :
                                                                                                                                            Int)))
                                                                                                                                      H')
                                                                                                                                    (R
                                                                                                                                      (Value.bool
                                                                                                                                        false)
                                                                                                                                      H'))
                                                                                                                      (R
                                                                                                                        (Value.bool
                                                                                                                          false)
                                                                                                                        H'))
                                                                                                    (R
                                                                                                      (Value.bool false)
                                                                                                      H'))))))) :
  CallH Try.prog 5 (List.toArray [Value.slice a_a a_n a_c, Value.slice b_a b_n b_c, Value.agg #[Value.int IntKind.i64 r_0, Value.int IntKind.i64 r_1]]) H R :=
  vc_call (annOf []) followsAll Go.Proofs.Try.func5 rfl Go.Proofs.Try.ntmps5 rfl rfl (Eq.mpr (by kernel_rfl) h)

/- 9 strandline/strandlinelaw13.rising
  notes: []
  places: []
  slots: [0=l, 1=l, 3=out, 4=i] -/
abbrev fn_law13_rising : Nat := 9
theorem vc_law13_rising (l_a : Option Addr) (l_n : Nat) (l_c : Nat) (H : Heap) (R : Value → Heap → Prop)
  (h : ∀ (b : Nat) (H' : Heap),
  New H b (Obj.cells { toList := [] } (26 : Nat)) H' →
    ∃ (I : List Value → Heap → Prop) (μ : List Value → Heap → Nat),
      I [Value.slice (some { block := b, off := (0 : Nat) }) (0 : Nat) (0 : Nat), Value.int IntKind.i64 (0 : Int)] H' ∧
        ∀ (J : F) (a : Option Addr) (n c : Nat) (n_1 : Int) (H' : Heap),
          I [Value.slice a n c, Value.int IntKind.i64 n_1] H' →
            brB (decide (n_1 < (↑l_n : Int)))
              (brB (decide (n_1 < (100 : Int)))
                (brB ((↑n : Int) == (0 : Int))
                  (exSome l_a fun ad =>
                    chk (decide ((0 : Int) ≤ n_1 ∧ n_1 < (↑l_n : Int)))
                      (∃ n_2 n_3,
                        Ld Try.prog (26 : Nat) H' (Addr.add ad (Int.toNat n_1 * (2 : Nat)))
                            (Value.agg { toList := [Value.int IntKind.i64 n_2, Value.int IntKind.i64 n_3] }) ∧
                          ∀ (b : Nat) (H'_1 : Heap),
                            New H' b
                                (Obj.cells { toList := [Value.int IntKind.i64 n_2, Value.int IntKind.i64 n_3] }
                                  (26 : Nat))
                                H'_1 →
                              SemWp Try.prog
                                (Builtin.append_ { toList := [(22 : Nat), (22 : Nat)] } (22 : Nat)
                                  {
                                    toList :=
                                      [Value.slice a n c,
                                        Value.slice (some { block := b, off := (0 : Nat) }) (1 : Nat) (1 : Nat)] })
                                H'_1 fun v H'_2 =>
                                ∃ a_3 n_4 c_1,
                                  v = Value.slice a_3 n_4 c_1 ∧
                                    I
                                        [Value.slice a_3 n_4 c_1,
                                          Value.int IntKind.i64 (IntKind.wrap IntKind.i64 (n_1 + (1 : Int)))]
                                        H'_2 ∧
                                      μ
                                          [Value.slice a_3 n_4 c_1,
                                            Value.int IntKind.i64 (IntKind.wrap IntKind.i64 (n_1 + (1 : Int)))]
                                          H'_2 <
                                        μ [Value.slice a n c, Value.int IntKind.i64 n_1] H'))
                  (exSome l_a fun ad =>
                    chk (decide ((0 : Int) ≤ n_1 ∧ n_1 < (↑l_n : Int)))
                      (∃ n_2,
                        Ld Try.prog (3 : Nat) H' (Addr.add ad (Int.toNat n_1 * (2 : Nat))) (Value.int IntKind.i64 n_2) ∧
                          exSome a fun ad =>
                            chk
                              (decide
                                ((0 : Int) ≤ IntKind.wrap IntKind.i64 ((↑n : Int) - (1 : Int)) ∧
                                  IntKind.wrap IntKind.i64 ((↑n : Int) - (1 : Int)) < (↑n : Int)))
                              (∃ n_3,
                                Ld Try.prog (3 : Nat) H'
                                    (Addr.add ad
                                      (Int.toNat (IntKind.wrap IntKind.i64 ((↑n : Int) - (1 : Int))) * (2 : Nat)))
                                    (Value.int IntKind.i64 n_3) ∧
                                  brB (decide (n_2 > n_3))
                                    (exSome l_a fun ad =>
                                      chk (decide ((0 : Int) ≤ n_1 ∧ n_1 < (↑l_n : Int)))
                                        (∃ n_4 n_5,
                                          Ld Try.prog (26 : Nat) H' (Addr.add ad (Int.toNat n_1 * (2 : Nat)))
                                              (Value.agg
                                                { toList := [Value.int IntKind.i64 n_4, Value.int IntKind.i64 n_5] }) ∧
                                            ∀ (b : Nat) (H'_1 : Heap),
                                              New H' b
                                                  (Obj.cells
                                                    { toList := [Value.int IntKind.i64 n_4, Value.int IntKind.i64 n_5] }
                                                    (26 : Nat))
                                                  H'_1 →
                                                SemWp Try.prog
                                                  (Builtin.append_ { toList := [(22 : Nat), (22 : Nat)] } (22 : Nat)
                                                    {
                                                      toList :=
                                                        [Value.slice a n c,
                                                          Value.slice (some { block := b, off := (0 : Nat) }) (1 : Nat)
                                                            (1 : Nat)] })
                                                  H'_1 fun v H'_2 =>
                                                  ∃ a_3 n_6 c_1,
                                                    v = Value.slice a_3 n_6 c_1 ∧
                                                      I
                                                          [Value.slice a_3 n_6 c_1,
                                                            Value.int IntKind.i64
                                                              (IntKind.wrap IntKind.i64 (n_1 + (1 : Int)))]
                                                          H'_2 ∧
                                                        μ
                                                            [Value.slice a_3 n_6 c_1,
                                                              Value.int IntKind.i64
                                                                (IntKind.wrap IntKind.i64 (n_1 + (1 : Int)))]
                                                            H'_2 <
                                                          μ [Value.slice a n c, Value.int IntKind.i64 n_1] H'))
                                    (I
                                        [Value.slice a n c,
                                          Value.int IntKind.i64 (IntKind.wrap IntKind.i64 (n_1 + (1 : Int)))]
                                        H' ∧
                                      μ
                                          [Value.slice a n c,
                                            Value.int IntKind.i64 (IntKind.wrap IntKind.i64 (n_1 + (1 : Int)))]
                                          H' <
                                        μ [Value.slice a n c, Value.int IntKind.i64 n_1] H')))))
                (R (Value.slice a n c) H'))
              (R (Value.slice a n c) H')) :
  CallH Try.prog 9 (List.toArray [Value.slice l_a l_n l_c]) H R :=
  vc_call (annOf [([0, 1, 0, 1, 1], .cut [(3, .one .slice), (4, .one (.int .i64))])]) followsAll Go.Proofs.Try.func9 rfl Go.Proofs.Try.ntmps9 rfl rfl (Eq.mpr (by kernel_rfl) h)

/- 10 strandline/series.Merge
  notes: []
  places: []
  slots: [0=a, 1=b, 2=a, 3=b] -/
abbrev fn_series_Merge : Nat := 10
theorem vc_series_Merge (a_a : Option Addr) (a_n : Nat) (a_c : Nat) (b_a : Option Addr) (b_n : Nat) (b_c : Nat) (H : Heap) (R : Value → Heap → Prop)
  (h : CallH Try.prog (31 : Nat)
  {
    toList :=
      [Value.slice a_a a_n a_c, Value.slice b_a b_n b_c,
        Value.func (Fn.func (32 : Nat)) { toList := [] } { toList := [] }] }
  H fun v H' => ∃ a n c, v = Value.slice a n c ∧ R (Value.slice a n c) H') :
  CallH Try.prog 10 (List.toArray [Value.slice a_a a_n a_c, Value.slice b_a b_n b_c]) H R :=
  vc_call (annOf []) followsAll Go.Proofs.Try.func10 rfl Go.Proofs.Try.ntmps10 rfl rfl (Eq.mpr (by kernel_rfl) h)

/- 11 strandline/strandlineref13.Same
  notes: []
  places: []
  slots: [0=a, 1=b, 2=a, 3=b, 5=i] -/
abbrev fn_ref13_Same : Nat := 11
theorem vc_ref13_Same (a_a : Option Addr) (a_n : Nat) (a_c : Nat) (b_a : Option Addr) (b_n : Nat) (b_c : Nat) (H : Heap) (R : Value → Heap → Prop)
  (h : brB ((↑a_n : Int) != (↑b_n : Int)) (R (Value.bool false) H)
  (∃ (I : List Value → Heap → Prop) (μ : List Value → Heap → Nat),
    I [Value.int IntKind.i64 (0 : Int)] H ∧
      ∀ (J : F) (n : Int) (H' : Heap),
        I [Value.int IntKind.i64 n] H' →
          brB (decide (n < (↑a_n : Int)))
            (exSome a_a fun ad =>
              chk (decide ((0 : Int) ≤ n ∧ n < (↑a_n : Int)))
                (∃ n_1 n_2,
                  Ld Try.prog (26 : Nat) H' (Addr.add ad (Int.toNat n * (2 : Nat)))
                      (Value.agg { toList := [Value.int IntKind.i64 n_1, Value.int IntKind.i64 n_2] }) ∧
                    exSome b_a fun ad =>
                      chk (decide ((0 : Int) ≤ n ∧ n < (↑b_n : Int)))
                        (∃ n_3 n_4,
                          Ld Try.prog (26 : Nat) H' (Addr.add ad (Int.toNat n * (2 : Nat)))
                              (Value.agg { toList := [Value.int IntKind.i64 n_3, Value.int IntKind.i64 n_4] }) ∧
                            brB (!(n_1 == n_3 && (n_2 == n_4 && true))) (R (Value.bool false) H')
                              (I [Value.int IntKind.i64 (IntKind.wrap IntKind.i64 (n + (1 : Int)))] H' ∧
                                μ [Value.int IntKind.i64 (IntKind.wrap IntKind.i64 (n + (1 : Int)))] H' <
                                  μ [Value.int IntKind.i64 n] H'))))
            (R (Value.bool true) H'))) :
  CallH Try.prog 11 (List.toArray [Value.slice a_a a_n a_c, Value.slice b_a b_n b_c]) H R :=
  vc_call (annOf [([0, 1, 0, 1, 1], .cut [(5, .one (.int .i64))])]) followsAll Go.Proofs.Try.func11 rfl Go.Proofs.Try.ntmps11 rfl rfl (Eq.mpr (by kernel_rfl) h)

/- 12 strandline/series.Rises
  notes: []
  places: []
  slots: [0=l, 1=l, 3=i] -/
abbrev fn_series_Rises : Nat := 12
theorem vc_series_Rises (l_a : Option Addr) (l_n : Nat) (l_c : Nat) (H : Heap) (R : Value → Heap → Prop)
  (h : ∃ (I : List Value → Heap → Prop) (μ : List Value → Heap → Nat),
  I [Value.int IntKind.i64 (0 : Int)] H ∧
    ∀ (J : F) (n : Int) (H' : Heap),
      I [Value.int IntKind.i64 n] H' →
        brB (decide (n < (↑l_n : Int)))
          (brB (decide (n > (0 : Int)))
            (exSome l_a fun ad =>
              chk
                (decide
                  ((0 : Int) ≤ IntKind.wrap IntKind.i64 (n - (1 : Int)) ∧
                    IntKind.wrap IntKind.i64 (n - (1 : Int)) < (↑l_n : Int)))
                (∃ n_1 n_2,
                  Ld Try.prog (26 : Nat) H'
                      (Addr.add ad (Int.toNat (IntKind.wrap IntKind.i64 (n - (1 : Int))) * (2 : Nat)))
                      (Value.agg { toList := [Value.int IntKind.i64 n_1, Value.int IntKind.i64 n_2] }) ∧
                    exSome l_a fun ad =>
                      chk (decide ((0 : Int) ≤ n ∧ n < (↑l_n : Int)))
                        (∃ n_3 n_4,
                          Ld Try.prog (26 : Nat) H' (Addr.add ad (Int.toNat n * (2 : Nat)))
                              (Value.agg { toList := [Value.int IntKind.i64 n_3, Value.int IntKind.i64 n_4] }) ∧
                            CallH Try.prog (32 : Nat)
                              {
                                toList :=
                                  [Value.agg { toList := [Value.int IntKind.i64 n_1, Value.int IntKind.i64 n_2] },
                                    Value.agg { toList := [Value.int IntKind.i64 n_3, Value.int IntKind.i64 n_4] }] }
                              H' fun v H'_1 =>
                              ∃ n_5,
                                v = Value.int IntKind.i64 n_5 ∧
                                  brB (decide (n_5 ≥ (0 : Int))) (R (Value.bool false) H'_1)
                                    (I [Value.int IntKind.i64 (IntKind.wrap IntKind.i64 (n + (1 : Int)))] H'_1 ∧
                                      μ [Value.int IntKind.i64 (IntKind.wrap IntKind.i64 (n + (1 : Int)))] H'_1 <
                                        μ [Value.int IntKind.i64 n] H'))))
            (I [Value.int IntKind.i64 (IntKind.wrap IntKind.i64 (n + (1 : Int)))] H' ∧
              μ [Value.int IntKind.i64 (IntKind.wrap IntKind.i64 (n + (1 : Int)))] H' < μ [Value.int IntKind.i64 n] H'))
          (R (Value.bool true) H')) :
  CallH Try.prog 12 (List.toArray [Value.slice l_a l_n l_c]) H R :=
  vc_call (annOf [([0, 1, 0, 1], .cut [(6, .one (.int .i64))]), ([0, 1, 0, 0, 1, 1, 0, 0, 1, 0, 1], .tail 12)]) followsAll Go.Proofs.Try.func12 rfl Go.Proofs.Try.ntmps12 rfl rfl (Eq.mpr (by kernel_rfl) h)

/- 13 strandline/series.In
  notes: []
  places: []
  slots: [0=l, 1=r, 2=l, 3=r, 5=is] -/
abbrev fn_series_In : Nat := 13
theorem vc_series_In (l_a : Option Addr) (l_n : Nat) (l_c : Nat) (r_0 : Int) (r_1 : Int) (H : Heap) (R : Value → Heap → Prop)
  (h : ∀ (b : Nat) (H' : Heap),
  New H b (Obj.cells { toList := [Value.int IntKind.i64 r_0, Value.int IntKind.i64 r_1] } (31 : Nat)) H' →
    ∃ n n_1,
      Ld Try.prog (31 : Nat) H' { block := b, off := (0 : Nat) }
          (Value.agg { toList := [Value.int IntKind.i64 n, Value.int IntKind.i64 n_1] }) ∧
        CallH Try.prog (33 : Nat)
          { toList := [Value.agg { toList := [Value.int IntKind.i64 n, Value.int IntKind.i64 n_1] }] } H' fun v H' =>
          ∃ v_1,
            v = v_1 ∧
              ∀ (b : Nat) (H'_1 : Heap),
                New H' b (Obj.cells { toList := [Value.nilFunc] } (56 : Nat)) H'_1 →
                  ∃ H',
                    St Try.prog (56 : Nat) H'_1 { block := b, off := (0 : Nat) } v_1 H' ∧
                      CallH Try.prog (35 : Nat) { toList := [Value.slice l_a l_n l_c] } H' fun v H' =>
                        ∃ a n c,
                          v = Value.slice a n c ∧
                            CallH Try.prog (34 : Nat)
                              {
                                toList :=
                                  [Value.slice a n c,
                                    Value.func (Fn.func (36 : Nat)) { toList := [] }
                                      { toList := [Value.pointer (some { block := b, off := (0 : Nat) })] }] }
                              H' fun v H' => ∃ a n c, v = Value.slice a n c ∧ R (Value.slice a n c) H') :
  CallH Try.prog 13 (List.toArray [Value.slice l_a l_n l_c, Value.agg #[Value.int IntKind.i64 r_0, Value.int IntKind.i64 r_1]]) H R :=
  vc_call (annOf []) followsAll Go.Proofs.Try.func13 rfl Go.Proofs.Try.ntmps13 rfl rfl (Eq.mpr (by kernel_rfl) h)

/- 14 strandline/series.Out
  notes: []
  places: []
  slots: [0=l, 1=r, 2=l, 3=r] -/
abbrev fn_series_Out : Nat := 14
theorem vc_series_Out (l_a : Option Addr) (l_n : Nat) (l_c : Nat) (r_0 : Int) (r_1 : Int) (H : Heap) (R : Value → Heap → Prop)
  (h : ∀ (b : Nat) (H' : Heap),
  New H b (Obj.cells { toList := [Value.int IntKind.i64 r_0, Value.int IntKind.i64 r_1] } (31 : Nat)) H' →
    ∃ n n_1,
      Ld Try.prog (31 : Nat) H' { block := b, off := (0 : Nat) }
          (Value.agg { toList := [Value.int IntKind.i64 n, Value.int IntKind.i64 n_1] }) ∧
        CallH Try.prog (35 : Nat) { toList := [Value.slice l_a l_n l_c] } H' fun v H' =>
          ∃ a n_2 c,
            v = Value.slice a n_2 c ∧
              Ld Try.prog (31 : Nat) H' { block := b, off := (0 : Nat) }
                  (Value.agg { toList := [Value.int IntKind.i64 n, Value.int IntKind.i64 n_1] }) ∧
                CallH Try.prog (33 : Nat)
                  { toList := [Value.agg { toList := [Value.int IntKind.i64 n, Value.int IntKind.i64 n_1] }] } H'
                  fun v H' =>
                  ∃ v_1,
                    v = v_1 ∧
                      CallH Try.prog (34 : Nat) { toList := [Value.slice a n_2 c, v_1] } H' fun v H' =>
                        ∃ a n c, v = Value.slice a n c ∧ R (Value.slice a n c) H') :
  CallH Try.prog 14 (List.toArray [Value.slice l_a l_n l_c, Value.agg #[Value.int IntKind.i64 r_0, Value.int IntKind.i64 r_1]]) H R :=
  vc_call (annOf [([0, 1], .reg [0, 1, 0, 7, 15, 31] (.quiet 0 (.quiet 2 (.pick (.alt 1 (.pick (.alt 3 (.pick (.alt 4 (.quiet 5 .done) .stop)) .stop)) .stop)))))]) followsAll Go.Proofs.Try.func14 rfl Go.Proofs.Try.ntmps14 rfl rfl (Eq.mpr (by kernel_rfl) h)

/- 15 strandline/strandlineref13.In
  notes: []
  places: []
  slots: [0=l, 1=r, 2=l, 3=r, 5=out, 6=i] -/
abbrev fn_ref13_In : Nat := 15
theorem vc_ref13_In (l_a : Option Addr) (l_n : Nat) (l_c : Nat) (r_0 : Int) (r_1 : Int) (H : Heap) (R : Value → Heap → Prop)
  (h : ∀ (b : Nat) (H' : Heap),
  New H b (Obj.cells { toList := [Value.int IntKind.i64 r_0, Value.int IntKind.i64 r_1] } (31 : Nat)) H' →
    ∀ (b_1 : Nat) (H'_1 : Heap),
      New H' b_1 (Obj.cells { toList := [] } (26 : Nat)) H'_1 →
        ∃ (I : List Value → Heap → Prop) (μ : List Value → Heap → Nat),
          I [Value.slice (some { block := b_1, off := (0 : Nat) }) (0 : Nat) (0 : Nat), Value.int IntKind.i64 (0 : Int)]
              H'_1 ∧
            ∀ (J : F) (a : Option Addr) (n c : Nat) (n_1 : Int) (H' : Heap),
              I [Value.slice a n c, Value.int IntKind.i64 n_1] H' →
                brB (decide (n_1 < (↑l_n : Int)))
                  (exSome l_a fun ad =>
                    chk (decide ((0 : Int) ≤ n_1 ∧ n_1 < (↑l_n : Int)))
                      (∃ n_2 n_3,
                        Ld Try.prog (26 : Nat) H' (Addr.add ad (Int.toNat n_1 * (2 : Nat)))
                            (Value.agg { toList := [Value.int IntKind.i64 n_2, Value.int IntKind.i64 n_3] }) ∧
                          ∃ n_4 n_5,
                            Ld Try.prog (31 : Nat) H' { block := b, off := (0 : Nat) }
                                (Value.agg { toList := [Value.int IntKind.i64 n_4, Value.int IntKind.i64 n_5] }) ∧
                              CallH Try.prog (37 : Nat)
                                {
                                  toList :=
                                    [Value.agg { toList := [Value.int IntKind.i64 n_2, Value.int IntKind.i64 n_3] },
                                      Value.agg { toList := [Value.int IntKind.i64 n_4, Value.int IntKind.i64 n_5] }] }
                                H' fun v H'_2 =>
                                ∃ b,
                                  v = Value.bool b ∧
                                    brB b
                                      (exSome l_a fun ad =>
                                        chk (decide ((0 : Int) ≤ n_1 ∧ n_1 < (↑l_n : Int)))
                                          (∃ n_6 n_7,
                                            Ld Try.prog (26 : Nat) H'_2 (Addr.add ad (Int.toNat n_1 * (2 : Nat)))
                                                (Value.agg
                                                  {
                                                    toList :=
                                                      [Value.int IntKind.i64 n_6, Value.int IntKind.i64 n_7] }) ∧
                                              ∀ (b : Nat) (H'_3 : Heap),
                                                New H'_2 b
                                                    (Obj.cells
                                                      {
                                                        toList :=
                                                          [Value.int IntKind.i64 n_6, Value.int IntKind.i64 n_7] }
                                                      (26 : Nat))
                                                    H'_3 →
                                                  SemWp Try.prog
                                                    (Builtin.append_ { toList := [(22 : Nat), (22 : Nat)] } (22 : Nat)
                                                      {
                                                        toList :=
                                                          [Value.slice a n c,
                                                            Value.slice (some { block := b, off := (0 : Nat) })
                                                              (1 : Nat) (1 : Nat)] })
                                                    H'_3 fun v H'_4 =>
                                                    ∃ a_3 n_8 c_1,
                                                      v = Value.slice a_3 n_8 c_1 ∧
                                                        I
                                                            [Value.slice a_3 n_8 c_1,
                                                              Value.int IntKind.i64
                                                                (IntKind.wrap IntKind.i64 (n_1 + (1 : Int)))]
                                                            H'_4 ∧
                                                          μ
                                                              [Value.slice a_3 n_8 c_1,
                                                                Value.int IntKind.i64
                                                                  (IntKind.wrap IntKind.i64 (n_1 + (1 : Int)))]
                                                              H'_4 <
                                                            μ [Value.slice a n c, Value.int IntKind.i64 n_1] H'))
                                      (I
                                          [Value.slice a n c,
                                            Value.int IntKind.i64 (IntKind.wrap IntKind.i64 (n_1 + (1 : Int)))]
                                          H'_2 ∧
                                        μ
                                            [Value.slice a n c,
                                              Value.int IntKind.i64 (IntKind.wrap IntKind.i64 (n_1 + (1 : Int)))]
                                            H'_2 <
                                          μ [Value.slice a n c, Value.int IntKind.i64 n_1] H')))
                  (R (Value.slice a n c) H')) :
  CallH Try.prog 15 (List.toArray [Value.slice l_a l_n l_c, Value.agg #[Value.int IntKind.i64 r_0, Value.int IntKind.i64 r_1]]) H R :=
  vc_call (annOf [([0, 1, 0, 1, 1], .cut [(5, .one .slice), (6, .one (.int .i64))]), ([0, 0, 0, 1, 0, 0, 1, 0, 1, 1], .tail 5)]) followsAll Go.Proofs.Try.func15 rfl Go.Proofs.Try.ntmps15 rfl rfl (Eq.mpr (by kernel_rfl) h)

/- 16 strandline/strandlineref13.Rises
  notes: []
  places: []
  slots: [0=l, 1=l, 3=i] -/
abbrev fn_ref13_Rises : Nat := 16
theorem vc_ref13_Rises (l_a : Option Addr) (l_n : Nat) (l_c : Nat) (H : Heap) (R : Value → Heap → Prop)
  (h : ∃ (I : List Value → Heap → Prop) (μ : List Value → Heap → Nat),
  I [Value.int IntKind.i64 (1 : Int)] H ∧
    ∀ (J : F) (n : Int) (H' : Heap),
      I [Value.int IntKind.i64 n] H' →
        brB (decide (n < (↑l_n : Int)))
          (exSome l_a fun ad =>
            chk (decide ((0 : Int) ≤ n ∧ n < (↑l_n : Int)))
              (∃ n_1,
                Ld Try.prog (3 : Nat) H' (Addr.add ad (Int.toNat n * (2 : Nat))) (Value.int IntKind.i64 n_1) ∧
                  exSome l_a fun ad =>
                    chk
                      (decide
                        ((0 : Int) ≤ IntKind.wrap IntKind.i64 (n - (1 : Int)) ∧
                          IntKind.wrap IntKind.i64 (n - (1 : Int)) < (↑l_n : Int)))
                      (∃ n_2,
                        Ld Try.prog (3 : Nat) H'
                            (Addr.add ad (Int.toNat (IntKind.wrap IntKind.i64 (n - (1 : Int))) * (2 : Nat)))
                            (Value.int IntKind.i64 n_2) ∧
                          brB (decide (n_1 ≤ n_2)) (R (Value.bool false) H')
                            (I [Value.int IntKind.i64 (IntKind.wrap IntKind.i64 (n + (1 : Int)))] H' ∧
                              μ [Value.int IntKind.i64 (IntKind.wrap IntKind.i64 (n + (1 : Int)))] H' <
                                μ [Value.int IntKind.i64 n] H'))))
          (R (Value.bool true) H')) :
  CallH Try.prog 16 (List.toArray [Value.slice l_a l_n l_c]) H R :=
  vc_call (annOf [([0, 1, 0, 1], .cut [(3, .one (.int .i64))])]) followsAll Go.Proofs.Try.func16 rfl Go.Proofs.Try.ntmps16 rfl rfl (Eq.mpr (by kernel_rfl) h)

/- 17 strandline/strandlineref13.Merge
  notes: []
  places: []
  slots: [0=a, 1=b, 2=a, 3=b, 5=out, 6=i] -/
abbrev fn_ref13_Merge : Nat := 17
theorem vc_ref13_Merge (a_a : Option Addr) (a_n : Nat) (a_c : Nat) (b_a : Option Addr) (b_n : Nat) (b_c : Nat) (H : Heap) (R : Value → Heap → Prop)
  (h : ∀ (b : Nat) (H' : Heap),
  New H b (Obj.cells { toList := [] } (26 : Nat)) H' →
    SemWp Try.prog
      (Builtin.append_ { toList := [(22 : Nat), (22 : Nat)] } (22 : Nat)
        {
          toList :=
            [Value.slice (some { block := b, off := (0 : Nat) }) (0 : Nat) (0 : Nat), Value.slice a_a a_n a_c] })
      H' fun v H' =>
      ∃ a n c,
        v = Value.slice a n c ∧
          ∃ (I : List Value → Heap → Prop) (μ : List Value → Heap → Nat),
            I [Value.slice a n c, Value.int IntKind.i64 (0 : Int)] H' ∧
              ∀ (J : F) (a : Option Addr) (n c : Nat) (n_1 : Int) (H' : Heap),
                I [Value.slice a n c, Value.int IntKind.i64 n_1] H' →
                  brB (decide (n_1 < (↑b_n : Int)))
                    (exSome b_a fun ad =>
                      chk (decide ((0 : Int) ≤ n_1 ∧ n_1 < (↑b_n : Int)))
                        (∃ n_2 n_3,
                          Ld Try.prog (26 : Nat) H' (Addr.add ad (Int.toNat n_1 * (2 : Nat)))
                              (Value.agg { toList := [Value.int IntKind.i64 n_2, Value.int IntKind.i64 n_3] }) ∧
                            CallH Try.prog (38 : Nat)
                              {
                                toList :=
                                  [Value.slice a n c,
                                    Value.agg { toList := [Value.int IntKind.i64 n_2, Value.int IntKind.i64 n_3] }] }
                              H' fun v H'_1 =>
                              ∃ a_2 n_4 c_1,
                                v = Value.slice a_2 n_4 c_1 ∧
                                  I
                                      [Value.slice a_2 n_4 c_1,
                                        Value.int IntKind.i64 (IntKind.wrap IntKind.i64 (n_1 + (1 : Int)))]
                                      H'_1 ∧
                                    μ
                                        [Value.slice a_2 n_4 c_1,
                                          Value.int IntKind.i64 (IntKind.wrap IntKind.i64 (n_1 + (1 : Int)))]
                                        H'_1 <
                                      μ [Value.slice a n c, Value.int IntKind.i64 n_1] H'))
                    (R (Value.slice a n c) H')) :
  CallH Try.prog 17 (List.toArray [Value.slice a_a a_n a_c, Value.slice b_a b_n b_c]) H R :=
  vc_call (annOf [([0, 1, 0, 1, 1, 1], .cut [(5, .one .slice), (6, .one (.int .i64))])]) followsAll Go.Proofs.Try.func17 rfl Go.Proofs.Try.ntmps17 rfl rfl (Eq.mpr (by kernel_rfl) h)

/- 18 strandline/strandlineref13.Out
  notes: []
  places: []
  slots: [0=l, 1=r, 2=l, 3=r, 5=out, 6=i] -/
abbrev fn_ref13_Out : Nat := 18
theorem vc_ref13_Out (l_a : Option Addr) (l_n : Nat) (l_c : Nat) (r_0 : Int) (r_1 : Int) (H : Heap) (R : Value → Heap → Prop)
  (h : ∀ (b : Nat) (H' : Heap),
  New H b (Obj.cells { toList := [Value.int IntKind.i64 r_0, Value.int IntKind.i64 r_1] } (31 : Nat)) H' →
    ∀ (b_1 : Nat) (H'_1 : Heap),
      New H' b_1 (Obj.cells { toList := [] } (26 : Nat)) H'_1 →
        ∃ (I : List Value → Heap → Prop) (μ : List Value → Heap → Nat),
          I [Value.slice (some { block := b_1, off := (0 : Nat) }) (0 : Nat) (0 : Nat), Value.int IntKind.i64 (0 : Int)]
              H'_1 ∧
            ∀ (J : F) (a : Option Addr) (n c : Nat) (n_1 : Int) (H' : Heap),
              I [Value.slice a n c, Value.int IntKind.i64 n_1] H' →
                brB (decide (n_1 < (↑l_n : Int)))
                  (exSome l_a fun ad =>
                    chk (decide ((0 : Int) ≤ n_1 ∧ n_1 < (↑l_n : Int)))
                      (∃ n_2 n_3,
                        Ld Try.prog (26 : Nat) H' (Addr.add ad (Int.toNat n_1 * (2 : Nat)))
                            (Value.agg { toList := [Value.int IntKind.i64 n_2, Value.int IntKind.i64 n_3] }) ∧
                          ∃ n_4 n_5,
                            Ld Try.prog (31 : Nat) H' { block := b, off := (0 : Nat) }
                                (Value.agg { toList := [Value.int IntKind.i64 n_4, Value.int IntKind.i64 n_5] }) ∧
                              CallH Try.prog (37 : Nat)
                                {
                                  toList :=
                                    [Value.agg { toList := [Value.int IntKind.i64 n_2, Value.int IntKind.i64 n_3] },
                                      Value.agg { toList := [Value.int IntKind.i64 n_4, Value.int IntKind.i64 n_5] }] }
                                H' fun v H'_2 =>
                                ∃ b,
                                  v = Value.bool b ∧
                                    brB (!b)
                                      (exSome l_a fun ad =>
                                        chk (decide ((0 : Int) ≤ n_1 ∧ n_1 < (↑l_n : Int)))
                                          (∃ n_6 n_7,
                                            Ld Try.prog (26 : Nat) H'_2 (Addr.add ad (Int.toNat n_1 * (2 : Nat)))
                                                (Value.agg
                                                  {
                                                    toList :=
                                                      [Value.int IntKind.i64 n_6, Value.int IntKind.i64 n_7] }) ∧
                                              ∀ (b : Nat) (H'_3 : Heap),
                                                New H'_2 b
                                                    (Obj.cells
                                                      {
                                                        toList :=
                                                          [Value.int IntKind.i64 n_6, Value.int IntKind.i64 n_7] }
                                                      (26 : Nat))
                                                    H'_3 →
                                                  SemWp Try.prog
                                                    (Builtin.append_ { toList := [(22 : Nat), (22 : Nat)] } (22 : Nat)
                                                      {
                                                        toList :=
                                                          [Value.slice a n c,
                                                            Value.slice (some { block := b, off := (0 : Nat) })
                                                              (1 : Nat) (1 : Nat)] })
                                                    H'_3 fun v H'_4 =>
                                                    ∃ a_3 n_8 c_1,
                                                      v = Value.slice a_3 n_8 c_1 ∧
                                                        I
                                                            [Value.slice a_3 n_8 c_1,
                                                              Value.int IntKind.i64
                                                                (IntKind.wrap IntKind.i64 (n_1 + (1 : Int)))]
                                                            H'_4 ∧
                                                          μ
                                                              [Value.slice a_3 n_8 c_1,
                                                                Value.int IntKind.i64
                                                                  (IntKind.wrap IntKind.i64 (n_1 + (1 : Int)))]
                                                              H'_4 <
                                                            μ [Value.slice a n c, Value.int IntKind.i64 n_1] H'))
                                      (I
                                          [Value.slice a n c,
                                            Value.int IntKind.i64 (IntKind.wrap IntKind.i64 (n_1 + (1 : Int)))]
                                          H'_2 ∧
                                        μ
                                            [Value.slice a n c,
                                              Value.int IntKind.i64 (IntKind.wrap IntKind.i64 (n_1 + (1 : Int)))]
                                            H'_2 <
                                          μ [Value.slice a n c, Value.int IntKind.i64 n_1] H')))
                  (R (Value.slice a n c) H')) :
  CallH Try.prog 18 (List.toArray [Value.slice l_a l_n l_c, Value.agg #[Value.int IntKind.i64 r_0, Value.int IntKind.i64 r_1]]) H R :=
  vc_call (annOf [([0, 1, 0, 1, 1], .cut [(5, .one .slice), (6, .one (.int .i64))]), ([0, 0, 0, 1, 0, 0, 1, 0, 1, 1], .tail 5)]) followsAll Go.Proofs.Try.func18 rfl Go.Proofs.Try.ntmps18 rfl rfl (Eq.mpr (by kernel_rfl) h)

/- 31 strandline/series.merge[strandline/api.Sample]
  notes: []
  places: []
  slots: [0=a, 1=b, 2=order, 3=a, 4=b, 5=order, 7=out, 8=c] -/
abbrev fn_series_merge_api_Sample_ : Nat := 31
theorem vc_series_merge_api_Sample_ (a_a : Option Addr) (a_n : Nat) (a_c : Nat) (b_a : Option Addr) (b_n : Nat) (b_c : Nat) (order : Value) (H : Heap) (R : Value → Heap → Prop)
  (h : SemWp Try.prog
  (Instr.makeSlice (22 : Nat) (Value.int IntKind.i64 (0 : Int))
    (Value.int IntKind.i64 (IntKind.wrap IntKind.i64 ((↑a_n : Int) + (↑b_n : Int)))))
  H fun v H' =>
  ∃ a n c,
    v = Value.slice a n c ∧
      ∃ (I : List Value → Heap → Prop) (μ : List Value → Heap → Nat),
        I [Value.slice a_a a_n a_c, Value.slice b_a b_n b_c, Value.slice a n c] H' ∧
          ∀ (J : F) (a : Option Addr) (n c : Nat) (a_1 : Option Addr) (n_1 c_1 : Nat) (a_2 : Option Addr)
            (n_2 c_2 : Nat) (H' : Heap),
            I [Value.slice a n c, Value.slice a_1 n_1 c_1, Value.slice a_2 n_2 c_2] H' →
              brB (decide ((↑n : Int) > (0 : Int)))
                (brB (decide ((↑n_1 : Int) > (0 : Int)))
                  (exSome a fun ad =>
                    chk (decide ((0 : Int) ≤ (0 : Int) ∧ (0 : Int) < (↑n : Int)))
                      (∃ n_3 n_4,
                        Ld Try.prog (26 : Nat) H' ad
                            (Value.agg { toList := [Value.int IntKind.i64 n_3, Value.int IntKind.i64 n_4] }) ∧
                          exSome a_1 fun ad =>
                            chk (decide ((0 : Int) ≤ (0 : Int) ∧ (0 : Int) < (↑n_1 : Int)))
                              (∃ n_5 n_6,
                                Ld Try.prog (26 : Nat) H' ad
                                    (Value.agg { toList := [Value.int IntKind.i64 n_5, Value.int IntKind.i64 n_6] }) ∧
                                  CallV Try.prog order
                                    [Value.agg { toList := [Value.int IntKind.i64 n_3, Value.int IntKind.i64 n_4] },
                                      Value.agg { toList := [Value.int IntKind.i64 n_5, Value.int IntKind.i64 n_6] }]
                                    H' fun v H'_1 =>
                                    ∃ n_7,
                                      v = Value.int IntKind.i64 n_7 ∧
                                        brB (decide (n_7 < (0 : Int)))
                                          (exSome a fun ad =>
                                            chk (decide ((0 : Int) ≤ (0 : Int) ∧ (0 : Int) < (↑n : Int)))
                                              (∃ n_8 n_9,
                                                Ld Try.prog (26 : Nat) H'_1 ad
                                                    (Value.agg
                                                      {
                                                        toList :=
                                                          [Value.int IntKind.i64 n_8, Value.int IntKind.i64 n_9] }) ∧
                                                  chk
                                                    (decide
                                                      ((0 : Int) ≤ (1 : Int) ∧
                                                        (1 : Int) ≤ (↑n : Int) ∧ (↑n : Int) ≤ (↑c : Int)))
                                                    (∀ (b : Nat) (H'_2 : Heap),
                                                      New H'_1 b
                                                          (Obj.cells
                                                            {
                                                              toList :=
                                                                [Value.int IntKind.i64 n_8, Value.int IntKind.i64 n_9] }
                                                            (26 : Nat))
                                                          H'_2 →
                                                        SemWp Try.prog
                                                          (Builtin.append_ { toList := [(22 : Nat), (22 : Nat)] }
                                                            (22 : Nat)
                                                            {
                                                              toList :=
                                                                [Value.slice a_2 n_2 c_2,
                                                                  Value.slice (some { block := b, off := (0 : Nat) })
                                                                    (1 : Nat) (1 : Nat)] })
                                                          H'_2 fun v H'_3 =>
                                                          ∃ a_5 n_10 c_3,
                                                            v = Value.slice a_5 n_10 c_3 ∧
                                                              I
                                                                  [Value.slice (slA c (1 : Nat) (2 : Nat) a)
                                                                      (Int.toNat (↑n : Int) - (1 : Nat))
                                                                      (c - (1 : Nat)),
                                                                    Value.slice a_1 n_1 c_1, Value.slice a_5 n_10 c_3]
                                                                  H'_3 ∧
                                                                μ
                                                                    [Value.slice (slA c (1 : Nat) (2 : Nat) a)
                                                                        (Int.toNat (↑n : Int) - (1 : Nat))
                                                                        (c - (1 : Nat)),
                                                                      Value.slice a_1 n_1 c_1, Value.slice a_5 n_10 c_3]
                                                                    H'_3 <
                                                                  μ
                                                                    [Value.slice a n c, Value.slice a_1 n_1 c_1,
                                                                      Value.slice a_2 n_2 c_2]
                                                                    H')))
                                          (brB (n_7 == (0 : Int))
                                            (chk
                                              (decide
                                                ((0 : Int) ≤ (1 : Int) ∧
                                                  (1 : Int) ≤ (↑n : Int) ∧ (↑n : Int) ≤ (↑c : Int)))
                                              (exSome a_1 fun ad =>
                                                chk (decide ((0 : Int) ≤ (0 : Int) ∧ (0 : Int) < (↑n_1 : Int)))
                                                  (∃ n_8 n_9,
                                                    Ld Try.prog (26 : Nat) H'_1 ad
                                                        (Value.agg
                                                          {
                                                            toList :=
                                                              [Value.int IntKind.i64 n_8,
                                                                Value.int IntKind.i64 n_9] }) ∧
                                                      chk
                                                        (decide
                                                          ((0 : Int) ≤ (1 : Int) ∧
                                                            (1 : Int) ≤ (↑n_1 : Int) ∧ (↑n_1 : Int) ≤ (↑c_1 : Int)))
                                                        (∀ (b : Nat) (H'_2 : Heap),
                                                          New H'_1 b
                                                              (Obj.cells
                                                                {
                                                                  toList :=
                                                                    [Value.int IntKind.i64 n_8,
                                                                      Value.int IntKind.i64 n_9] }
                                                                (26 : Nat))
                                                              H'_2 →
                                                            SemWp Try.prog
                                                              (Builtin.append_ { toList := [(22 : Nat), (22 : Nat)] }
                                                                (22 : Nat)
                                                                {
                                                                  toList :=
                                                                    [Value.slice a_2 n_2 c_2,
                                                                      Value.slice
                                                                        (some { block := b, off := (0 : Nat) })
                                                                        (1 : Nat) (1 : Nat)] })
                                                              H'_2 fun v H'_3 =>
                                                              ∃ a_5 n_10 c_3,
                                                                v = Value.slice a_5 n_10 c_3 ∧
                                                                  I
                                                                      [Value.slice (slA c (1 : Nat) (2 : Nat) a)
                                                                          (Int.toNat (↑n : Int) - (1 : Nat))
                                                                          (c - (1 : Nat)),
                                                                        Value.slice (slA c_1 (1 : Nat) (2 : Nat) a_1)
                                                                          (Int.toNat (↑n_1 : Int) - (1 : Nat))
                                                                          (c_1 - (1 : Nat)),
                                                                        Value.slice a_5 n_10 c_3]
                                                                      H'_3 ∧
                                                                    μ
                                                                        [Value.slice (slA c (1 : Nat) (2 : Nat) a)
                                                                            (Int.toNat (↑n : Int) - (1 : Nat))
                                                                            (c - (1 : Nat)),
                                                                          Value.slice (slA c_1 (1 : Nat) (2 : Nat) a_1)
                                                                            (Int.toNat (↑n_1 : Int) - (1 : Nat))
                                                                            (c_1 - (1 : Nat)),
                                                                          Value.slice a_5 n_10 c_3]
                                                                        H'_3 <
                                                                      μ
                                                                        [Value.slice a n c, Value.slice a_1 n_1 c_1,
                                                                          Value.slice a_2 n_2 c_2]
                                                                        H'))))
                                            (exSome a_1 fun ad =>
                                              chk (decide ((0 : Int) ≤ (0 : Int) ∧ (0 : Int) < (↑n_1 : Int)))
                                                (∃ n_8 n_9,
                                                  Ld Try.prog (26 : Nat) H'_1 ad
                                                      (Value.agg
                                                        {
                                                          toList :=
                                                            [Value.int IntKind.i64 n_8, Value.int IntKind.i64 n_9] }) ∧
                                                    chk
                                                      (decide
                                                        ((0 : Int) ≤ (1 : Int) ∧
                                                          (1 : Int) ≤ (↑n_1 : Int) ∧ (↑n_1 : Int) ≤ (↑c_1 : Int)))
                                                      (∀ (b : Nat) (H'_2 : Heap),
                                                        New H'_1 b
                                                            (Obj.cells
                                                              {
                                                                toList :=
                                                                  [Value.int IntKind.i64 n_8,
                                                                    Value.int IntKind.i64 n_9] }
                                                              (26 : Nat))
                                                            H'_2 →
                                                          SemWp Try.prog
                                                            (Builtin.append_ { toList := [(22 : Nat), (22 : Nat)] }
                                                              (22 : Nat)
                                                              {
                                                                toList :=
                                                                  [Value.slice a_2 n_2 c_2,
                                                                    Value.slice (some { block := b, off := (0 : Nat) })
                                                                      (1 : Nat) (1 : Nat)] })
                                                            H'_2 fun v H'_3 =>
                                                            ∃ a_5 n_10 c_3,
                                                              v = Value.slice a_5 n_10 c_3 ∧
                                                                I
                                                                    [Value.slice a n c,
                                                                      Value.slice (slA c_1 (1 : Nat) (2 : Nat) a_1)
                                                                        (Int.toNat (↑n_1 : Int) - (1 : Nat))
                                                                        (c_1 - (1 : Nat)),
                                                                      Value.slice a_5 n_10 c_3]
                                                                    H'_3 ∧
                                                                  μ
                                                                      [Value.slice a n c,
                                                                        Value.slice (slA c_1 (1 : Nat) (2 : Nat) a_1)
                                                                          (Int.toNat (↑n_1 : Int) - (1 : Nat))
                                                                          (c_1 - (1 : Nat)),
                                                                        Value.slice a_5 n_10 c_3]
                                                                      H'_3 <
                                                                    μ
                                                                      [Value.slice a n c, Value.slice a_1 n_1 c_1,
                                                                        Value.slice a_2 n_2 c_2]
                                                                      H')))))))
                  (SemWp Try.prog
                    (Builtin.append_ { toList := [(22 : Nat), (22 : Nat)] } (22 : Nat)
                      { toList := [Value.slice a_2 n_2 c_2, Value.slice a n c] })
                    H' fun v H' =>
                    ∃ a n c,
                      v = Value.slice a n c ∧
                        SemWp Try.prog
                          (Builtin.append_ { toList := [(22 : Nat), (22 : Nat)] } (22 : Nat)
                            { toList := [Value.slice a n c, Value.slice a_1 n_1 c_1] })
                          H' fun v H' => ∃ a n c, v = Value.slice a n c ∧ R (Value.slice a n c) H'))
                (SemWp Try.prog
                  (Builtin.append_ { toList := [(22 : Nat), (22 : Nat)] } (22 : Nat)
                    { toList := [Value.slice a_2 n_2 c_2, Value.slice a n c] })
                  H' fun v H' =>
                  ∃ a n c,
                    v = Value.slice a n c ∧
                      SemWp Try.prog
                        (Builtin.append_ { toList := [(22 : Nat), (22 : Nat)] } (22 : Nat)
                          { toList := [Value.slice a n c, Value.slice a_1 n_1 c_1] })
                        H' fun v H' => ∃ a n c, v = Value.slice a n c ∧ R (Value.slice a n c) H')) :
  CallH Try.prog 31 (List.toArray [Value.slice a_a a_n a_c, Value.slice b_a b_n b_c, order]) H R :=
  vc_call (annOf [([0, 0, 1, 1], .cut [(0, .one .slice), (1, .one .slice), (7, .one .slice)]), ([0, 0, 1, 0, 0, 0, 1, 1], .tail 7), ([0, 0, 1, 0, 1, 0, 1, 0, 0, 0, 1, 1], .reg [0, 0, 2, 6, 14, 31, 0, 64, 63, 511] (.quiet 0 (.quiet 1 (.quiet 2 (.quiet 3 (.quiet 6 (.quiet 7 (.pick (.alt 4 (.pick (.alt 5 (.quiet 8 (.quiet 9 .done)) .stop)) .stop))))))))), ([1, 1, 1, 0, 1, 0, 0, 0, 1, 1], .reg [0, 0, 2, 6, 14, 31, 0, 64, 63, 511] (.quiet 0 (.quiet 1 (.quiet 2 (.quiet 3 (.quiet 6 (.quiet 7 (.pick (.alt 4 (.pick (.alt 5 (.quiet 8 (.quiet 9 .done)) .stop)) .stop)))))))))]) followsAll Go.Proofs.Try.func31 rfl Go.Proofs.Try.ntmps31 rfl rfl (Eq.mpr (by kernel_rfl) h)

/- 32 strandline/series.byTime
  notes: []
  places: []
  slots: [0=x, 1=y, 2=x, 3=y] -/
abbrev fn_series_byTime : Nat := 32
theorem vc_series_byTime (x_0 : Int) (x_1 : Int) (y_0 : Int) (y_1 : Int) (H : Heap) (R : Value → Heap → Prop)
  (h : ∀ (b : Nat) (H' : Heap),
  New H b (Obj.cells { toList := [Value.int IntKind.i64 x_0, Value.int IntKind.i64 x_1] } (26 : Nat)) H' →
    ∀ (b_1 : Nat) (H'_1 : Heap),
      New H' b_1 (Obj.cells { toList := [Value.int IntKind.i64 y_0, Value.int IntKind.i64 y_1] } (26 : Nat)) H'_1 →
        ∃ n,
          Ld Try.prog (3 : Nat) H'_1 { block := b, off := (0 : Nat) } (Value.int IntKind.i64 n) ∧
            ∃ n_1,
              Ld Try.prog (3 : Nat) H'_1 { block := b_1, off := (0 : Nat) } (Value.int IntKind.i64 n_1) ∧
                CallH Try.prog (44 : Nat) { toList := [Value.int IntKind.i64 n, Value.int IntKind.i64 n_1] } H'_1
                  fun v H' => ∃ n, v = Value.int IntKind.i64 n ∧ R (Value.int IntKind.i64 n) H') :
  CallH Try.prog 32 (List.toArray [Value.agg #[Value.int IntKind.i64 x_0, Value.int IntKind.i64 x_1],
  Value.agg #[Value.int IntKind.i64 y_0, Value.int IntKind.i64 y_1]]) H R :=
  vc_call (annOf []) followsAll Go.Proofs.Try.func32 rfl Go.Proofs.Try.ntmps32 rfl rfl (Eq.mpr (by kernel_rfl) h)

/- 33 strandline/series.within
  notes: []
  places: []
  slots: [0=r, 1=r] -/
abbrev fn_series_within : Nat := 33
theorem vc_series_within (r_0 : Int) (r_1 : Int) (H : Heap) (R : Value → Heap → Prop)
  (h : ∀ (b : Nat) (H' : Heap),
  New H b (Obj.cells { toList := [Value.int IntKind.i64 r_0, Value.int IntKind.i64 r_1] } (31 : Nat)) H' →
    R
      (Value.func (Fn.func (51 : Nat)) { toList := [] }
        { toList := [Value.pointer (some { block := b, off := (0 : Nat) })] })
      H') :
  CallH Try.prog 33 (List.toArray [Value.agg #[Value.int IntKind.i64 r_0, Value.int IntKind.i64 r_1]]) H R :=
  vc_call (annOf []) followsAll Go.Proofs.Try.func33 rfl Go.Proofs.Try.ntmps33 rfl rfl (Eq.mpr (by kernel_rfl) h)

/- 34 slices.DeleteFunc[[]strandline/api.Sample,strandline/api.Sample]
  notes: []
  places: []
  slots: [0=s, 1=del, 2=s, 3=del, 5=i, 6=j, 7=v] -/
abbrev fn_slices_DeleteFunc___api_Sample_api_Sample_ : Nat := 34
theorem vc_slices_DeleteFunc___api_Sample_api_Sample_ (s_a : Option Addr) (s_n : Nat) (s_c : Nat) (del : Value) (H : Heap) (R : Value → Heap → Prop)
  (h : CallH Try.prog (52 : Nat) { toList := [Value.slice s_a s_n s_c, del] } H fun v H' =>
  ∃ n,
    v = Value.int IntKind.i64 n ∧
      brB (n == (-1 : Int)) (R (Value.slice s_a s_n s_c) H')
        (∃ (I : List Value → Heap → Prop) (μ : List Value → Heap → Nat),
          I [Value.int IntKind.i64 n, Value.int IntKind.i64 (IntKind.wrap IntKind.i64 (n + (1 : Int)))] H' ∧
            ∀ (J : F) (n n_1 : Int) (H' : Heap),
              I [Value.int IntKind.i64 n, Value.int IntKind.i64 n_1] H' →
                brB (decide (n_1 < (↑s_n : Int)))
                  (exSome s_a fun ad =>
                    chk (decide ((0 : Int) ≤ n_1 ∧ n_1 < (↑s_n : Int)))
                      (∃ n_2 n_3,
                        Ld Try.prog (26 : Nat) H' (Addr.add ad (Int.toNat n_1 * (2 : Nat)))
                            (Value.agg { toList := [Value.int IntKind.i64 n_2, Value.int IntKind.i64 n_3] }) ∧
                          ∀ (b : Nat) (H'_1 : Heap),
                            New H' b
                                (Obj.cells
                                  { toList := [Value.int IntKind.i64 (0 : Int), Value.int IntKind.i64 (0 : Int)] }
                                  (26 : Nat))
                                H'_1 →
                              ∃ H'_2,
                                St Try.prog (26 : Nat) H'_1 { block := b, off := (0 : Nat) }
                                    (Value.agg { toList := [Value.int IntKind.i64 n_2, Value.int IntKind.i64 n_3] })
                                    H'_2 ∧
                                  ∃ n_4 n_5,
                                    Ld Try.prog (26 : Nat) H'_2 { block := b, off := (0 : Nat) }
                                        (Value.agg
                                          { toList := [Value.int IntKind.i64 n_4, Value.int IntKind.i64 n_5] }) ∧
                                      CallV Try.prog del
                                        [Value.agg { toList := [Value.int IntKind.i64 n_4, Value.int IntKind.i64 n_5] }]
                                        H'_2 fun v H'_3 =>
                                        ∃ b_1,
                                          v = Value.bool b_1 ∧
                                            brB (!b_1)
                                              (∃ n_6 n_7,
                                                Ld Try.prog (26 : Nat) H'_3 { block := b, off := (0 : Nat) }
                                                    (Value.agg
                                                      {
                                                        toList :=
                                                          [Value.int IntKind.i64 n_6, Value.int IntKind.i64 n_7] }) ∧
                                                  exSome s_a fun ad =>
                                                    chk (decide ((0 : Int) ≤ n ∧ n < (↑s_n : Int)))
                                                      (∃ H'_4,
                                                        St Try.prog (26 : Nat) H'_3
                                                            (Addr.add ad (Int.toNat n * (2 : Nat)))
                                                            (Value.agg
                                                              {
                                                                toList :=
                                                                  [Value.int IntKind.i64 n_6,
                                                                    Value.int IntKind.i64 n_7] })
                                                            H'_4 ∧
                                                          I
                                                              [Value.int IntKind.i64
                                                                  (IntKind.wrap IntKind.i64 (n + (1 : Int))),
                                                                Value.int IntKind.i64
                                                                  (IntKind.wrap IntKind.i64 (n_1 + (1 : Int)))]
                                                              H'_4 ∧
                                                            μ
                                                                [Value.int IntKind.i64
                                                                    (IntKind.wrap IntKind.i64 (n + (1 : Int))),
                                                                  Value.int IntKind.i64
                                                                    (IntKind.wrap IntKind.i64 (n_1 + (1 : Int)))]
                                                                H'_4 <
                                                              μ [Value.int IntKind.i64 n, Value.int IntKind.i64 n_1]
                                                                H'))
                                              (I
                                                  [Value.int IntKind.i64 n,
                                                    Value.int IntKind.i64 (IntKind.wrap IntKind.i64 (n_1 + (1 : Int)))]
                                                  H'_3 ∧
                                                μ
                                                    [Value.int IntKind.i64 n,
                                                      Value.int IntKind.i64
                                                        (IntKind.wrap IntKind.i64 (n_1 + (1 : Int)))]
                                                    H'_3 <
                                                  μ [Value.int IntKind.i64 n, Value.int IntKind.i64 n_1] H')))
                  (chk (decide ((0 : Int) ≤ n ∧ n ≤ (↑s_n : Int) ∧ (↑s_n : Int) ≤ (↑s_c : Int)))
                    (SemWp Try.prog
                      (Builtin.clear_ { toList := [(22 : Nat)] } (0 : Nat)
                        {
                          toList :=
                            [Value.slice (slA s_c (Int.toNat n) (2 : Nat) s_a) (Int.toNat (↑s_n : Int) - Int.toNat n)
                                (s_c - Int.toNat n)] })
                      H' fun v H' =>
                      v = Value.tuple { toList := [] } ∧
                        chk (decide ((0 : Int) ≤ (0 : Int) ∧ (0 : Int) ≤ n ∧ n ≤ (↑s_c : Int)))
                          (R (Value.slice s_a (Int.toNat n - (0 : Nat)) (s_c - (0 : Nat))) H'))))) :
  CallH Try.prog 34 (List.toArray [Value.slice s_a s_n s_c, del]) H R :=
  vc_call (annOf [([0, 1, 0, 1, 1, 1], .cut [(5, .one (.int .i64)), (6, .one (.int .i64))])]) followsAll Go.Proofs.Try.func34 rfl Go.Proofs.Try.ntmps34 rfl rfl (Eq.mpr (by kernel_rfl) h)

/- 35 slices.Clone[[]strandline/api.Sample,strandline/api.Sample]
  notes: []
  places: []
  slots: [0=s, 1=s] -/
abbrev fn_slices_Clone___api_Sample_api_Sample_ : Nat := 35
theorem vc_slices_Clone___api_Sample_api_Sample_ (s_a : Option Addr) (s_n : Nat) (s_c : Nat) (H : Heap) (R : Value → Heap → Prop)
  (h : brB (Option.isNone s_a) (R (Value.slice none (0 : Nat) (0 : Nat)) H)
  (∀ (b : Nat) (H' : Heap),
    New H b (Obj.cells { toList := [] } (26 : Nat)) H' →
      SemWp Try.prog
        (Builtin.append_ { toList := [(22 : Nat), (22 : Nat)] } (22 : Nat)
          {
            toList :=
              [Value.slice (some { block := b, off := (0 : Nat) }) (0 : Nat) (0 : Nat), Value.slice s_a s_n s_c] })
        H' fun v H' => ∃ a n c, v = Value.slice a n c ∧ R (Value.slice a n c) H')) :
  CallH Try.prog 35 (List.toArray [Value.slice s_a s_n s_c]) H R :=
  vc_call (annOf []) followsAll Go.Proofs.Try.func35 rfl Go.Proofs.Try.ntmps35 rfl rfl (Eq.mpr (by kernel_rfl) h)

/- 36 strandline/series.In$1
  notes: []
  places: []
  slots: [0=x, 2=x] -/
abbrev fn_series_In_1 : Nat := 36
theorem vc_series_In_1 (x_0 : Int) (x_1 : Int) (a1 : Addr) (H : Heap) (R : Value → Heap → Prop)
  (h : ∀ (b : Nat) (H' : Heap),
  New H b (Obj.cells { toList := [Value.int IntKind.i64 x_0, Value.int IntKind.i64 x_1] } (26 : Nat)) H' →
    ∃ v,
      Ld Try.prog (56 : Nat) H' a1 v ∧
        ∃ n n_1,
          Ld Try.prog (26 : Nat) H' { block := b, off := (0 : Nat) }
              (Value.agg { toList := [Value.int IntKind.i64 n, Value.int IntKind.i64 n_1] }) ∧
            CallV Try.prog v [Value.agg { toList := [Value.int IntKind.i64 n, Value.int IntKind.i64 n_1] }] H'
              fun v H' => ∃ b, v = Value.bool b ∧ R (Value.bool !b) H') :
  CallH Try.prog 36 (List.toArray [Value.agg #[Value.int IntKind.i64 x_0, Value.int IntKind.i64 x_1], Value.pointer (some a1)]) H R :=
  vc_call (annOf []) followsAll Go.Proofs.Try.func36 rfl Go.Proofs.Try.ntmps36 rfl rfl (Eq.mpr (by kernel_rfl) h)

/- 37 strandline/strandlineref13.in
  notes: []
  places: []
  slots: [0=x, 1=r, 2=x, 3=r] -/
abbrev fn_ref13_in : Nat := 37
theorem vc_ref13_in (x_0 : Int) (x_1 : Int) (r_0 : Int) (r_1 : Int) (H : Heap) (R : Value → Heap → Prop)
  (h : ∀ (b : Nat) (H' : Heap),
  New H b (Obj.cells { toList := [Value.int IntKind.i64 x_0, Value.int IntKind.i64 x_1] } (26 : Nat)) H' →
    ∀ (b_1 : Nat) (H'_1 : Heap),
      New H' b_1 (Obj.cells { toList := [Value.int IntKind.i64 r_0, Value.int IntKind.i64 r_1] } (31 : Nat)) H'_1 →
        ∃ n,
          Ld Try.prog (3 : Nat) H'_1 { block := b_1, off := (0 : Nat) } (Value.int IntKind.i64 n) ∧
            ∃ n_1,
              Ld Try.prog (3 : Nat) H'_1 { block := b, off := (0 : Nat) } (Value.int IntKind.i64 n_1) ∧
                brB (decide (n ≤ n_1))
                  (∃ n,
                    Ld Try.prog (3 : Nat) H'_1 { block := b, off := (0 : Nat) } (Value.int IntKind.i64 n) ∧
                      ∃ n_2,
                        Ld Try.prog (3 : Nat) H'_1 { block := b_1, off := (1 : Nat) } (Value.int IntKind.i64 n_2) ∧
                          R (Value.bool (decide (n < n_2))) H'_1)
                  (R (Value.bool false) H'_1)) :
  CallH Try.prog 37 (List.toArray [Value.agg #[Value.int IntKind.i64 x_0, Value.int IntKind.i64 x_1],
  Value.agg #[Value.int IntKind.i64 r_0, Value.int IntKind.i64 r_1]]) H R :=
  vc_call (annOf []) followsAll Go.Proofs.Try.func37 rfl Go.Proofs.Try.ntmps37 rfl rfl (Eq.mpr (by kernel_rfl) h)

/- 38 strandline/strandlineref13.set
  notes: []
  places: [[0, 0, 1, 0, 0, 1, 0, 1, 1, 1]]
  slots: [0=l, 1=x, 2=l, 3=x, 5=out, 6=done, 7=i] -/
abbrev fn_ref13_set : Nat := 38
theorem vc_ref13_set (l_a : Option Addr) (l_n : Nat) (l_c : Nat) (x_0 : Int) (x_1 : Int) (H : Heap) (R : Value → Heap → Prop)
  (h : ∀ (b : Nat) (H' : Heap),
  New H b (Obj.cells { toList := [Value.int IntKind.i64 x_0, Value.int IntKind.i64 x_1] } (26 : Nat)) H' →
    ∀ (b_1 : Nat) (H'_1 : Heap),
      New H' b_1 (Obj.cells { toList := [] } (26 : Nat)) H'_1 →
        ∃ (I : List Value → Heap → Prop) (μ : List Value → Heap → Nat),
          I
              [Value.slice (some { block := b_1, off := (0 : Nat) }) (0 : Nat) (0 : Nat), Value.bool false,
                Value.int IntKind.i64 (0 : Int)]
              H'_1 ∧
            ∀ (J : F) (a : Option Addr) (n c : Nat) (b_2 : Bool) (n_1 : Int) (H' : Heap),
              I [Value.slice a n c, Value.bool b_2, Value.int IntKind.i64 n_1] H' →
                brB (decide (n_1 < (↑l_n : Int)))
                  (∃ (M : List Value → Heap → Prop),
                    brB (!b_2)
                        (exSome l_a fun ad =>
                          chk (decide ((0 : Int) ≤ n_1 ∧ n_1 < (↑l_n : Int)))
                            (∃ n_2,
                              Ld Try.prog (3 : Nat) H' (Addr.add ad (Int.toNat n_1 * (2 : Nat)))
                                  (Value.int IntKind.i64 n_2) ∧
                                ∃ n_3,
                                  Ld Try.prog (3 : Nat) H' { block := b, off := (0 : Nat) }
                                      (Value.int IntKind.i64 n_3) ∧
                                    brB (decide (n_2 ≥ n_3))
                                      (∃ n_4 n_5,
                                        Ld Try.prog (26 : Nat) H' { block := b, off := (0 : Nat) }
                                            (Value.agg
                                              { toList := [Value.int IntKind.i64 n_4, Value.int IntKind.i64 n_5] }) ∧
                                          ∀ (b : Nat) (H'_2 : Heap),
                                            New H' b
                                                (Obj.cells
                                                  { toList := [Value.int IntKind.i64 n_4, Value.int IntKind.i64 n_5] }
                                                  (26 : Nat))
                                                H'_2 →
                                              SemWp Try.prog
                                                (Builtin.append_ { toList := [(22 : Nat), (22 : Nat)] } (22 : Nat)
                                                  {
                                                    toList :=
                                                      [Value.slice a n c,
                                                        Value.slice (some { block := b, off := (0 : Nat) }) (1 : Nat)
                                                          (1 : Nat)] })
                                                H'_2 fun v H' =>
                                                ∃ a n c,
                                                  v = Value.slice a n c ∧ M [Value.slice a n c, Value.bool true] H')
                                      (M [Value.slice a n c, Value.bool b_2] H')))
                        (M [Value.slice a n c, Value.bool b_2] H') ∧
                      ∀ (J : F) (a_2 : Option Addr) (n_2 c_1 : Nat) (b_3 : Bool) (H'_2 : Heap),
                        M [Value.slice a_2 n_2 c_1, Value.bool b_3] H'_2 →
                          exSome l_a fun ad =>
                            chk (decide ((0 : Int) ≤ n_1 ∧ n_1 < (↑l_n : Int)))
                              (∃ n_3,
                                Ld Try.prog (3 : Nat) H'_2 (Addr.add ad (Int.toNat n_1 * (2 : Nat)))
                                    (Value.int IntKind.i64 n_3) ∧
                                  ∃ n_4,
                                    Ld Try.prog (3 : Nat) H'_2 { block := b, off := (0 : Nat) }
                                        (Value.int IntKind.i64 n_4) ∧
                                      brB (n_3 != n_4)
                                        (exSome l_a fun ad =>
                                          chk (decide ((0 : Int) ≤ n_1 ∧ n_1 < (↑l_n : Int)))
                                            (∃ n_5 n_6,
                                              Ld Try.prog (26 : Nat) H'_2 (Addr.add ad (Int.toNat n_1 * (2 : Nat)))
                                                  (Value.agg
                                                    {
                                                      toList :=
                                                        [Value.int IntKind.i64 n_5, Value.int IntKind.i64 n_6] }) ∧
                                                ∀ (b : Nat) (H'_3 : Heap),
                                                  New H'_2 b
                                                      (Obj.cells
                                                        {
                                                          toList :=
                                                            [Value.int IntKind.i64 n_5, Value.int IntKind.i64 n_6] }
                                                        (26 : Nat))
                                                      H'_3 →
                                                    SemWp Try.prog
                                                      (Builtin.append_ { toList := [(22 : Nat), (22 : Nat)] } (22 : Nat)
                                                        {
                                                          toList :=
                                                            [Value.slice a_2 n_2 c_1,
                                                              Value.slice (some { block := b, off := (0 : Nat) })
                                                                (1 : Nat) (1 : Nat)] })
                                                      H'_3 fun v H'_4 =>
                                                      ∃ a_5 n_7 c_2,
                                                        v = Value.slice a_5 n_7 c_2 ∧
                                                          I
                                                              [Value.slice a_5 n_7 c_2, Value.bool b_3,
                                                                Value.int IntKind.i64
                                                                  (IntKind.wrap IntKind.i64 (n_1 + (1 : Int)))]
                                                              H'_4 ∧
                                                            μ
                                                                [Value.slice a_5 n_7 c_2, Value.bool b_3,
                                                                  Value.int IntKind.i64
                                                                    (IntKind.wrap IntKind.i64 (n_1 + (1 : Int)))]
                                                                H'_4 <
                                                              μ
                                                                [Value.slice a n c, Value.bool b_2,
                                                                  Value.int IntKind.i64 n_1]
                                                                H'))
                                        (I
                                            [Value.slice a_2 n_2 c_1, Value.bool b_3,
                                              Value.int IntKind.i64 (IntKind.wrap IntKind.i64 (n_1 + (1 : Int)))]
                                            H'_2 ∧
                                          μ
                                              [Value.slice a_2 n_2 c_1, Value.bool b_3,
                                                Value.int IntKind.i64 (IntKind.wrap IntKind.i64 (n_1 + (1 : Int)))]
                                              H'_2 <
                                            μ [Value.slice a n c, Value.bool b_2, Value.int IntKind.i64 n_1] H')))
                  (brB (!b_2)
                    (∃ n_2 n_3,
                      Ld Try.prog (26 : Nat) H' { block := b, off := (0 : Nat) }
                          (Value.agg { toList := [Value.int IntKind.i64 n_2, Value.int IntKind.i64 n_3] }) ∧
                        ∀ (b : Nat) (H'_2 : Heap),
                          New H' b
                              (Obj.cells { toList := [Value.int IntKind.i64 n_2, Value.int IntKind.i64 n_3] }
                                (26 : Nat))
                              H'_2 →
                            SemWp Try.prog
                              (Builtin.append_ { toList := [(22 : Nat), (22 : Nat)] } (22 : Nat)
                                {
                                  toList :=
                                    [Value.slice a n c,
                                      Value.slice (some { block := b, off := (0 : Nat) }) (1 : Nat) (1 : Nat)] })
                              H'_2 fun v H' => ∃ a n c, v = Value.slice a n c ∧ R (Value.slice a n c) H')
                    (R (Value.slice a n c) H'))) :
  CallH Try.prog 38 (List.toArray [Value.slice l_a l_n l_c, Value.agg #[Value.int IntKind.i64 x_0, Value.int IntKind.i64 x_1]]) H R :=
  vc_call (annOf [([0, 1, 0, 1, 1, 1], .cut [(5, .one .slice), (6, .one .bool), (7, .one (.int .i64))]), ([0, 0, 1, 0, 0, 1, 0, 1, 1, 1], .cut [(5, .one .slice), (6, .one .bool)])]) followsAll Go.Proofs.Try.func38 rfl Go.Proofs.Try.ntmps38 rfl rfl (Eq.mpr (by kernel_rfl) h)

/- 44 cmp.Compare[int]
  notes: []
  places: []
  slots: [0=x, 1=y, 2=x, 3=y, 5=xNaN, 6=yNaN] -/
abbrev fn_cmp_Compare_int_ : Nat := 44
theorem vc_cmp_Compare_int_ (x : Int) (y : Int) (H : Heap) (R : Value → Heap → Prop)
  (h : CallH Try.prog (54 : Nat) { toList := [Value.int IntKind.i64 x] } H fun v H' =>
  ∃ b,
    v = Value.bool b ∧
      CallH Try.prog (54 : Nat) { toList := [Value.int IntKind.i64 y] } H' fun v H' =>
        ∃ b_1,
          v = Value.bool b_1 ∧
            brB b (brB b_1 (R (Value.int IntKind.i64 (0 : Int)) H') (R (Value.int IntKind.i64 (-1 : Int)) H'))
              (brB b_1 (R (Value.int IntKind.i64 (1 : Int)) H')
                (brB (decide (x < y)) (R (Value.int IntKind.i64 (-1 : Int)) H')
                  (brB (decide (x > y)) (R (Value.int IntKind.i64 (1 : Int)) H')
                    (R (Value.int IntKind.i64 (0 : Int)) H'))))) :
  CallH Try.prog 44 (List.toArray [Value.int IntKind.i64 x, Value.int IntKind.i64 y]) H R :=
  vc_call (annOf []) followsAll Go.Proofs.Try.func44 rfl Go.Proofs.Try.ntmps44 rfl rfl (Eq.mpr (by kernel_rfl) h)

/- 50 strandline/strandlineref13.Behind
  notes: []
  places: []
  slots: [0=a, 1=b, 2=a, 3=b] -/
abbrev fn_ref13_Behind : Nat := 50
theorem vc_ref13_Behind (a_0 : Int) (a_1 : Int) (a_2 : Int) (b_0 : Int) (b_1 : Int) (b_2 : Int) (H : Heap) (R : Value → Heap → Prop)
  (h : ∀ (b : Nat) (H' : Heap),
  New H b
      (Obj.cells { toList := [Value.int IntKind.i64 a_0, Value.int IntKind.i64 a_1, Value.int IntKind.i64 a_2] }
        (45 : Nat))
      H' →
    ∀ (b_3 : Nat) (H'_1 : Heap),
      New H' b_3
          (Obj.cells { toList := [Value.int IntKind.i64 b_0, Value.int IntKind.i64 b_1, Value.int IntKind.i64 b_2] }
            (45 : Nat))
          H'_1 →
        ∃ n,
          Ld Try.prog (3 : Nat) H'_1 { block := b, off := (0 : Nat) } (Value.int IntKind.i64 n) ∧
            ∃ n_1,
              Ld Try.prog (3 : Nat) H'_1 { block := b_3, off := (0 : Nat) } (Value.int IntKind.i64 n_1) ∧
                brB (decide (n > n_1)) (R (Value.bool true) H'_1)
                  (∃ n,
                    Ld Try.prog (3 : Nat) H'_1 { block := b, off := (0 : Nat) } (Value.int IntKind.i64 n) ∧
                      ∃ n_2,
                        Ld Try.prog (3 : Nat) H'_1 { block := b_3, off := (0 : Nat) } (Value.int IntKind.i64 n_2) ∧
                          brB (n == n_2)
                            (∃ n,
                              Ld Try.prog (3 : Nat) H'_1 { block := b, off := (1 : Nat) } (Value.int IntKind.i64 n) ∧
                                ∃ n_3,
                                  Ld Try.prog (3 : Nat) H'_1 { block := b_3, off := (1 : Nat) }
                                      (Value.int IntKind.i64 n_3) ∧
                                    R (Value.bool (decide (n > n_3))) H'_1)
                            (R (Value.bool false) H'_1))) :
  CallH Try.prog 50 (List.toArray [Value.agg #[Value.int IntKind.i64 a_0, Value.int IntKind.i64 a_1, Value.int IntKind.i64 a_2],
  Value.agg #[Value.int IntKind.i64 b_0, Value.int IntKind.i64 b_1, Value.int IntKind.i64 b_2]]) H R :=
  vc_call (annOf []) followsAll Go.Proofs.Try.func50 rfl Go.Proofs.Try.ntmps50 rfl rfl (Eq.mpr (by kernel_rfl) h)

/- 51 strandline/series.within$1
  notes: []
  places: []
  slots: [0=x, 2=x] -/
abbrev fn_series_within_1 : Nat := 51
theorem vc_series_within_1 (x_0 : Int) (x_1 : Int) (a1 : Addr) (H : Heap) (R : Value → Heap → Prop)
  (h : ∀ (b : Nat) (H' : Heap),
  New H b (Obj.cells { toList := [Value.int IntKind.i64 x_0, Value.int IntKind.i64 x_1] } (26 : Nat)) H' →
    ∃ n,
      Ld Try.prog (3 : Nat) H' { block := b, off := (0 : Nat) } (Value.int IntKind.i64 n) ∧
        ∃ n_1,
          Ld Try.prog (3 : Nat) H' a1 (Value.int IntKind.i64 n_1) ∧
            brB (decide (n ≥ n_1))
              (∃ n,
                Ld Try.prog (3 : Nat) H' { block := b, off := (0 : Nat) } (Value.int IntKind.i64 n) ∧
                  ∃ n_2,
                    Ld Try.prog (3 : Nat) H' (Addr.add a1 (1 : Nat)) (Value.int IntKind.i64 n_2) ∧
                      R (Value.bool (decide (n < n_2))) H')
              (R (Value.bool false) H')) :
  CallH Try.prog 51 (List.toArray [Value.agg #[Value.int IntKind.i64 x_0, Value.int IntKind.i64 x_1], Value.pointer (some a1)]) H R :=
  vc_call (annOf []) followsAll Go.Proofs.Try.func51 rfl Go.Proofs.Try.ntmps51 rfl rfl (Eq.mpr (by kernel_rfl) h)

/- 52 slices.IndexFunc[[]strandline/api.Sample,strandline/api.Sample]
  notes: []
  places: []
  slots: [0=s, 1=f, 2=s, 3=f, 5=i] -/
abbrev fn_slices_IndexFunc___api_Sample_api_Sample_ : Nat := 52
theorem vc_slices_IndexFunc___api_Sample_api_Sample_ (s_a : Option Addr) (s_n : Nat) (s_c : Nat) (f : Value) (H : Heap) (R : Value → Heap → Prop)
  (h : ∃ (I : List Value → Heap → Prop) (μ : List Value → Heap → Nat),
  I [Value.int IntKind.i64 (0 : Int)] H ∧
    ∀ (J : F) (n : Int) (H' : Heap),
      I [Value.int IntKind.i64 n] H' →
        brB (decide (n < (↑s_n : Int)))
          (exSome s_a fun ad =>
            chk (decide ((0 : Int) ≤ n ∧ n < (↑s_n : Int)))
              (∃ n_1 n_2,
                Ld Try.prog (26 : Nat) H' (Addr.add ad (Int.toNat n * (2 : Nat)))
                    (Value.agg { toList := [Value.int IntKind.i64 n_1, Value.int IntKind.i64 n_2] }) ∧
                  CallV Try.prog f [Value.agg { toList := [Value.int IntKind.i64 n_1, Value.int IntKind.i64 n_2] }] H'
                    fun v H'_1 =>
                    ∃ b,
                      v = Value.bool b ∧
                        brB b (R (Value.int IntKind.i64 n) H'_1)
                          (I [Value.int IntKind.i64 (IntKind.wrap IntKind.i64 (n + (1 : Int)))] H'_1 ∧
                            μ [Value.int IntKind.i64 (IntKind.wrap IntKind.i64 (n + (1 : Int)))] H'_1 <
                              μ [Value.int IntKind.i64 n] H')))
          (R (Value.int IntKind.i64 (-1 : Int)) H')) :
  CallH Try.prog 52 (List.toArray [Value.slice s_a s_n s_c, f]) H R :=
  vc_call (annOf [([0, 1, 0, 1], .cut [(8, .one (.int .i64))])]) followsAll Go.Proofs.Try.func52 rfl Go.Proofs.Try.ntmps52 rfl rfl (Eq.mpr (by kernel_rfl) h)

/- 54 cmp.isNaN[int]
  notes: []
  places: []
  slots: [0=x, 1=x] -/
abbrev fn_cmp_isNaN_int_ : Nat := 54
theorem vc_cmp_isNaN_int_ (x : Int) (H : Heap) (R : Value → Heap → Prop)
  (h : R (Value.bool (x != x)) H) :
  CallH Try.prog 54 (List.toArray [Value.int IntKind.i64 x]) H R :=
  vc_call (annOf []) followsAll Go.Proofs.Try.func54 rfl Go.Proofs.Try.ntmps54 rfl rfl (Eq.mpr (by kernel_rfl) h)
end Go.Proofs
