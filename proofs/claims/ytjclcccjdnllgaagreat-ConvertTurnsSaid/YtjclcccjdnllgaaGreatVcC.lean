/- A part of a proof: see the last text of this claim. -/
import Derived.Test.YtjclcccjdnllgaaGreatGvCore
import Derived.Test.YtjclcccjdnllgaaGreatRange
import Derived.Test.YtjclcccjdnllgaaGreatRows
set_option linter.unusedVariables false
set_option maxRecDepth 100000
open Go Go.GV
namespace Go.Proofs
theorem followsAll : Tryz.prog.follows .mixedOrders = true := by kernel_rfl
abbrev IV := List Value → Heap → Prop
abbrev MU := List Value → Heap → Nat
abbrev lD := Ld Tryz.prog
abbrev sT := St Tryz.prog
abbrev cH := CallH Tryz.prog
abbrev cB (k : FuncId) (l : List Value) (H : Heap) (K : Bool → Heap → Prop) : Prop := CallH Tryz.prog k ⟨l⟩ H fun v H' => ∃ b, v = .bool b ∧ K b H'
abbrev cI (k : FuncId) (l : List Value) (H : Heap) (K : Int → Heap → Prop) : Prop := CallH Tryz.prog k ⟨l⟩ H fun v H' => ∃ n, v = .int .i64 n ∧ K n H'
abbrev cS (k : FuncId) (l : List Value) (H : Heap) (K : ByteArray → Heap → Prop) : Prop := CallH Tryz.prog k ⟨l⟩ H fun v H' => ∃ s, v = .string s ∧ K s H'
abbrev cP (k : FuncId) (l : List Value) (H : Heap) (K : Option Addr → Heap → Prop) : Prop := CallH Tryz.prog k ⟨l⟩ H fun v H' => ∃ a, v = .pointer a ∧ K a H'
abbrev cL (k : FuncId) (l : List Value) (H : Heap) (K : Option Addr → Nat → Nat → Heap → Prop) : Prop := CallH Tryz.prog k ⟨l⟩ H fun v H' => ∃ a n c, v = .slice a n c ∧ K a n c H'
abbrev cV (k : FuncId) (l : List Value) (H : Heap) (K : Value → Heap → Prop) : Prop := CallH Tryz.prog k ⟨l⟩ H fun v H' => ∃ x, v = x ∧ K x H'
abbrev cU (k : FuncId) (l : List Value) (H : Heap) (K : Heap → Prop) : Prop := CallH Tryz.prog k ⟨l⟩ H fun v H' => v = .tuple ⟨[]⟩ ∧ K H'
abbrev ix (a : Option Addr) (i : Int) (n : Nat) (K : Addr → Prop) : Prop := exSome a fun ad => chk (decide (0 ≤ i ∧ i < (n : Int))) (K ad)
abbrev fn_law19_ConvertUnits : Nat := 3
theorem vc_law19_ConvertUnits (raw_a : Option Addr) (raw_n : Nat) (raw_c : Nat) (H : Heap) (R : Value → Heap → Prop) (h : brB (decide ((↑raw_n : Int) > 4096)) (R (.bool true) H) (cL 7 [.slice raw_a
 raw_n raw_c] H fun a n c H' => ∀ (b : Nat) (H'_1 : Heap), New H' b (.cells ⟨[]⟩ 3) H'_1 → ∃ (I : IV) (μ : MU), I [.slice (some ⟨b, 0, none⟩) 0 0, .int .i64 0] H'_1 ∧ ∀ (J : F) (a_2 : Option Addr)
 (n_1 c_1 : Nat) (n_2 : Int) (H' : Heap), I [.slice a_2 n_1 c_1, .int .i64 n_2] H' → brB (decide (n_2 < (↑n : Int))) (∃ (I_1 : IV) (μ_1 : MU), I_1 [.bool false, .int .i64 0] H' ∧ ∀ (J : F) (b : Bool)
 (n_3 : Int) (H'_2 : Heap), I_1 [.bool b, .int .i64 n_3] H'_2 → brB (decide (n_3 < (↑n_1 : Int))) (∃ (M : IV), brB b (M [.bool true] H'_2) (ix a_2 n_3 n_1 fun ad => (∃ n_4, lD 3 H'_2 (Addr.add ad
 (Int.toNat n_3 * 1)) (.int .i64 n_4) ∧ ix a n_2 n fun ad => (∃ n, lD 3 H'_2 (Addr.add (Addr.add ad (Int.toNat n_2 * 3)) 1) (.int .i64 n) ∧ M [.bool (n_4 == n)] H'_2))) ∧ ∀ (J : F) (b_1 : Bool) (H' :
 Heap), M [.bool b_1] H' → I_1 [.bool b_1, .int .i64 (IntKind.wrap .i64 (n_3 + 1))] H' ∧ μ_1 [.bool b_1, .int .i64 (IntKind.wrap .i64 (n_3 + 1))] H' < μ_1 [.bool b, .int .i64 n_3] H'_2) (brB (!b) (ix
 a n_2 n fun ad => (∃ n, lD 3 H'_2 (Addr.add (Addr.add ad (Int.toNat n_2 * 3)) 1) (.int .i64 n) ∧ ∀ (b : Nat) (H'_3 : Heap), New H'_2 b (.cells ⟨[.int .i64 n]⟩ 3) H'_3 → SemWp Tryz.prog
 (Builtin.append_ ⟨[24, 24]⟩ 24 ⟨[.slice a_2 n_1 c_1, .slice (some ⟨b, 0, none⟩) 1 1]⟩) H'_3 fun v H'_4 => ∃ a n c, v = .slice a n c ∧ I [.slice a n c, .int .i64 (IntKind.wrap .i64 (n_2 + 1))] H'_4 ∧
 μ [.slice a n c, .int .i64 (IntKind.wrap .i64 (n_2 + 1))] H'_4 < μ [.slice a_2 n_1 c_1, .int .i64 n_2] H')) (I [.slice a_2 n_1 c_1, .int .i64 (IntKind.wrap .i64 (n_2 + 1))] H'_2 ∧ μ [.slice a_2 n_1
 c_1, .int .i64 (IntKind.wrap .i64 (n_2 + 1))] H'_2 < μ [.slice a_2 n_1 c_1, .int .i64 n_2] H'))) (cH 8 ⟨[.int .i64 0, .slice a n c]⟩ H' fun v H' => ∃ s n_3, v = .tuple ⟨[.string s, .int .i64 n_3]⟩ ∧
 cH 8 ⟨[.int .i64 1, .slice a n c]⟩ H' fun v H' => ∃ s_1 n_4, v = .tuple ⟨[.string s_1, .int .i64 n_4]⟩ ∧ cH 9 ⟨[.int .i64 0, .string s]⟩ H' fun v H' => ∃ n_5 n_6, v = .tuple ⟨[.int .i64 n_5, .int
 .i64 n_6]⟩ ∧ cH 9 ⟨[.int .i64 1, .string s_1]⟩ H' fun v H' => ∃ n_7 n_8, v = .tuple ⟨[.int .i64 n_7, .int .i64 n_8]⟩ ∧ cH 9 ⟨[.int .i64 2, .string { data := #[] }]⟩ H' fun v H' => ∃ n_9 n_10, v =
 .tuple ⟨[.int .i64 n_9, .int .i64 n_10]⟩ ∧ brB (n_3 == 0) (brB (n_4 == 0) (brB (n_6 == 0) (brB (n_8 == 0) (brB (n_5 == (↑n_1 : Int)) (brB (n_7 == IntKind.wrap .i64 (Int.tdiv (IntKind.wrap .i64 ((↑n
 : Int) + 15)) 16)) (R (.bool (n_10 == 1)) H') (R (.bool false) H')) (R (.bool false) H')) (R (.bool false) H')) (R (.bool false) H')) (R (.bool false) H')) (R (.bool false) H')))) : CallH Tryz.prog
 3 (List.toArray [.slice raw_a raw_n raw_c]) H R := vc_call (annOf [([0, 1, 0, 1, 1, 1, 1], .cut [(4, .one .slice), (5, .one (.int .i64))]), ([0, 1, 0, 1, 0, 0, 1, 0, 0, 1, 0, 1, 1, 1, 1], .cut [(6,
 .one .bool), (7, .one (.int .i64))]), ([1, 0, 0, 1, 0, 1, 0, 0, 1, 0, 0, 1, 0, 1, 1, 1, 1], .cut [(6, .one .bool)])]) followsAll Tryz.func3 rfl Tryz.ntmps3 rfl rfl (Eq.mpr (by kernel_rfl) h)
abbrev fn_law19_ConvertTurns : Nat := 6
theorem vc_law19_ConvertTurns (raw_a : Option Addr) (raw_n : Nat) (raw_c : Nat) (first : Bool) (H : Heap) (R : Value → Heap → Prop) (h : brB (decide ((↑raw_n : Int) > 4096)) (R (.bool true) H) (cL 7
 [.slice raw_a raw_n raw_c] H fun a n c H' => ∃ (M : IV), brB first (M [.int .i64 1] H') (M [.int .i64 0] H') ∧ ∀ (J : F) (n_1 : Int) (H' : Heap), M [.int .i64 n_1] H' → cH 8 ⟨[.int .i64 n_1, .slice
 a n c]⟩ H' fun v H' => ∃ s n_2, v = .tuple ⟨[.string s, .int .i64 n_2]⟩ ∧ cH 13 ⟨[.int .i64 n_1, .slice a n c]⟩ H' fun v H' => ∃ s_1 n_3, v = .tuple ⟨[.string s_1, .int .i64 n_3]⟩ ∧ ∃ (M : IV), brB
 (n_2 != 0) (R (.bool false) H') (brB (n_3 != 0) (R (.bool false) H') (brB (!ByteArray.toList s == ByteArray.toList s_1) (R (.bool false) H') (M [] H'))) ∧ ∀ (J : F) (H' : Heap), M [] H' → cH 10
 ⟨[.int .i64 n_1, .string s]⟩ H' fun v H' => ∃ a_3 n_4 c_1 n_5, v = .tuple ⟨[.slice a_3 n_4 c_1, .int .i64 n_5]⟩ ∧ ∃ (M : IV), brB (n_5 != 0) (R (.bool false) H') (cB 14 [.slice a_3 n_4 c_1, .slice a
 n c] H' fun b H' => brB (!b) (R (.bool false) H') (M [] H')) ∧ ∀ (J : F) (H' : Heap), M [] H' → cH 23 ⟨[.int .i64 n_1, .string s]⟩ H' fun v H' => ∃ s_2 b, v = .tuple ⟨[.string s_2, .bool b]⟩ ∧ brB
 (!b) (R (.bool false) H') (cH 23 ⟨[.int .i64 (IntKind.wrap .i64 (1 - n_1)), .string s_2]⟩ H' fun v H' => ∃ s_3 b, v = .tuple ⟨[.string s_3, .bool b]⟩ ∧ cH 8 ⟨[.int .i64 (IntKind.wrap .i64 (1 -
 n_1)), .slice a n c]⟩ H' fun v H' => ∃ s_4 n, v = .tuple ⟨[.string s_4, .int .i64 n]⟩ ∧ brB b (brB (ByteArray.toList s_3 == ByteArray.toList s) (brB (n == 0) (R (.bool (ByteArray.toList s_2 ==
 ByteArray.toList s_4)) H') (R (.bool false) H')) (R (.bool false) H')) (R (.bool false) H')))) : CallH Tryz.prog 6 (List.toArray [.slice raw_a raw_n raw_c, .bool first]) H R := vc_call (annOf [([1,
 1, 1, 1], .cut [(6, .one (.int .i64))]), ([1, 1, 1, 1, 1, 1, 1], .cut []), ([1, 1, 1, 1, 1, 1, 1, 1, 1], .cut [])]) followsAll Tryz.func6 rfl Tryz.ntmps6 rfl rfl (Eq.mpr (by kernel_rfl) h)
abbrev fn_law19_fine : Nat := 7
theorem vc_law19_fine (l_a : Option Addr) (l_n : Nat) (l_c : Nat) (H : Heap) (R : Value → Heap → Prop) (h : ∀ (b : Nat) (H' : Heap), New H b (.cells ⟨[]⟩ 26) H' → ∃ (I : IV) (μ : MU), I [.slice
 (some ⟨b, 0, none⟩) 0 0, .int .i64 0] H' ∧ ∀ (J : F) (a : Option Addr) (n c : Nat) (n_1 : Int) (H' : Heap), I [.slice a n c, .int .i64 n_1] H' → ∃ (M : IV), brB (decide (n_1 < (↑l_n : Int))) (brB
 (decide ((↑n : Int) < 100)) (M [] H') (R (.slice a n c) H')) (R (.slice a n c) H') ∧ ∀ (J : F) (H'_1 : Heap), M [] H'_1 → ∃ (M : IV), (ix l_a n_1 l_n fun ad => (∃ n_2 n_3 n_4, lD 26 H'_1 (Addr.add
 ad (Int.toNat n_1 * 3)) (.agg ⟨[.int .i64 n_2, .int .i64 n_3, .int .i64 n_4]⟩) ∧ ∀ (b : Nat) (H' : Heap), New H'_1 b (.cells ⟨[.int .i64 0, .int .i64 0, .int .i64 0]⟩ 26) H' → ∃ H'_2, sT 26 H' ⟨b,
 0, none⟩ (.agg ⟨[.int .i64 n_2, .int .i64 n_3, .int .i64 n_4]⟩) H'_2 ∧ ∃ (M_1 : IV), (∃ n_5, lD 3 H'_2 ⟨b, 0, none⟩ (.int .i64 n_5) ∧ brB (decide (n_5 ≥ 0)) (∃ n_6, lD 3 H'_2 ⟨b, 0, none⟩ (.int .i64
 n_6) ∧ brB (decide (n_6 < 1099511627776)) (∃ n_7, lD 3 H'_2 ⟨b, 1, none⟩ (.int .i64 n_7) ∧ brB (decide (n_7 ≥ 0)) (∃ n_8, lD 3 H'_2 ⟨b, 1, none⟩ (.int .i64 n_8) ∧ brB (decide (n_8 < 200)) (brB ((↑n
 : Int) == 0) (M_1 [.bool true] H'_2) (∃ n_9 n_10 n_11, lD 26 H'_2 ⟨b, 0, none⟩ (.agg ⟨[.int .i64 n_9, .int .i64 n_10, .int .i64 n_11]⟩) ∧ ix a (IntKind.wrap .i64 ((↑n : Int) - 1)) n fun ad => (∃
 n_12 n_13 n_14, lD 26 H'_2 (Addr.add ad (Int.toNat (IntKind.wrap .i64 ((↑n : Int) - 1)) * 3)) (.agg ⟨[.int .i64 n_12, .int .i64 n_13, .int .i64 n_14]⟩) ∧ cB 24 [.agg ⟨[.int .i64 n_9, .int .i64 n_10,
 .int .i64 n_11]⟩, .agg ⟨[.int .i64 n_12, .int .i64 n_13, .int .i64 n_14]⟩] H'_2 fun b H' => M_1 [.bool b] H'))) (M_1 [.bool false] H'_2)) (M_1 [.bool false] H'_2)) (M_1 [.bool false] H'_2)) (M_1
 [.bool false] H'_2)) ∧ ∀ (J : F) (b_1 : Bool) (H' : Heap), M_1 [.bool b_1] H' → brB b_1 (∃ n_5 n_6 n_7, lD 26 H' ⟨b, 0, none⟩ (.agg ⟨[.int .i64 n_5, .int .i64 n_6, .int .i64 n_7]⟩) ∧ ∀ (b : Nat)
 (H'_3 : Heap), New H' b (.cells ⟨[.int .i64 n_5, .int .i64 n_6, .int .i64 n_7]⟩ 26) H'_3 → SemWp Tryz.prog (Builtin.append_ ⟨[22, 22]⟩ 22 ⟨[.slice a n c, .slice (some ⟨b, 0, none⟩) 1 1]⟩) H'_3 fun v
 H' => ∃ a n c, v = .slice a n c ∧ M [.slice a n c] H') (M [.slice a n c] H'))) ∧ ∀ (J : F) (a_3 : Option Addr) (n_2 c_1 : Nat) (H'_2 : Heap), M [.slice a_3 n_2 c_1] H'_2 → I [.slice a_3 n_2 c_1,
 .int .i64 (IntKind.wrap .i64 (n_1 + 1))] H'_2 ∧ μ [.slice a_3 n_2 c_1, .int .i64 (IntKind.wrap .i64 (n_1 + 1))] H'_2 < μ [.slice a n c, .int .i64 n_1] H') : CallH Tryz.prog 7 (List.toArray [.slice
 l_a l_n l_c]) H R := vc_call (annOf [([0, 1, 0, 1, 1], .cut [(3, .one .slice), (4, .one (.int .i64))]), ([0, 0, 1, 0, 1, 1], .cut []), ([1, 0, 0, 1, 0, 1, 1], .cut [(3, .one .slice)]), ([1, 0, 0, 1,
 0, 0, 1, 0, 1, 1], .cut [(54, .one .bool)]), ([0, 1, 0, 0, 1, 0, 0, 1, 0, 1, 1], .tail 30)]) followsAll Tryz.func7 rfl Tryz.ntmps7 rfl rfl (Eq.mpr (by kernel_rfl) h)
abbrev fn_convert_Write : Nat := 8
theorem vc_convert_Write (layout : Int) (rows_a : Option Addr) (rows_n : Nat) (rows_c : Nat) (H : Heap) (R : Value → Heap → Prop) (h : ∃ (M : IV), brB (layout == 0) (cB 25 [.slice rows_a rows_n
 rows_c] H fun b H' => M [.bool !b] H') (M [.bool false] H) ∧ ∀ (J : F) (b : Bool) (H' : Heap), M [.bool b] H' → brB b (R (.tuple ⟨[.string { data := #[] }, .int .i64 30]⟩) H') (brB (layout == 0) (cL
 27 [.slice rows_a rows_n rows_c] H' fun a n c H' => cH 26 ⟨[.slice a n c]⟩ H' fun v H' => ∃ s n, v = .tuple ⟨[.string s, .int .i64 n]⟩ ∧ R (.tuple ⟨[.string s, .int .i64 n]⟩) H') (brB (layout == 1)
 (cH 28 ⟨[.slice rows_a rows_n rows_c]⟩ H' fun v H' => ∃ s n, v = .tuple ⟨[.string s, .int .i64 n]⟩ ∧ R (.tuple ⟨[.string s, .int .i64 n]⟩) H') (R (.tuple ⟨[.string { data := #[] }, .int .i64 1]⟩)
 H')))) : CallH Tryz.prog 8 (List.toArray [.int .i64 layout, .slice rows_a rows_n rows_c]) H R := vc_call (annOf [([0, 0, 1], .cut [(6, .one .bool)])]) followsAll Tryz.func8 rfl Tryz.ntmps8 rfl rfl
 (Eq.mpr (by kernel_rfl) h)
abbrev fn_convert_Units : Nat := 9
theorem vc_convert_Units (layout : Int) (data : ByteArray) (H : Heap) (R : Value → Heap → Prop) (h : cH 29 ⟨[.int .i64 layout, .string data]⟩ H fun v H' => ∃ n v_1 n_1, v = .tuple ⟨[.int .i64 n,
 v_1, .int .i64 n_1]⟩ ∧ R (.tuple ⟨[.int .i64 n, .int .i64 n_1]⟩) H') : CallH Tryz.prog 9 (List.toArray [.int .i64 layout, .string data]) H R := vc_call (annOf []) followsAll Tryz.func9 rfl
 Tryz.ntmps9 rfl rfl (Eq.mpr (by kernel_rfl) h)
abbrev fn_convert_Read : Nat := 10
theorem vc_convert_Read (layout : Int) (data : ByteArray) (H : Heap) (R : Value → Heap → Prop) (h : brB (layout == 0) (cH 30 ⟨[.string data]⟩ H fun v H' => ∃ a n c n_1, v = .tuple ⟨[.slice a n c,
 .int .i64 n_1]⟩ ∧ cL 31 [.slice a n c] H' fun a n c H' => R (.tuple ⟨[.slice a n c, .int .i64 n_1]⟩) H') (brB (layout == 1) (cH 32 ⟨[.string data]⟩ H fun v H' => ∃ a n c n_1, v = .tuple ⟨[.slice a n
 c, .int .i64 n_1]⟩ ∧ R (.tuple ⟨[.slice a n c, .int .i64 n_1]⟩) H') (R (.tuple ⟨[.slice none 0 0, .int .i64 1]⟩) H))) : CallH Tryz.prog 10 (List.toArray [.int .i64 layout, .string data]) H R :=
 vc_call (annOf []) followsAll Tryz.func10 rfl Tryz.ntmps10 rfl rfl (Eq.mpr (by kernel_rfl) h)
abbrev fn_ref19_Write : Nat := 13
theorem vc_ref19_Write (layout : Int) (rows_a : Option Addr) (rows_n : Nat) (rows_c : Nat) (H : Heap) (R : Value → Heap → Prop) (h : brB (layout == 0) (cB 38 [.slice rows_a rows_n rows_c] H fun b H'
 => brB (!b) (R (.tuple ⟨[.string { data := #[] }, .int .i64 30]⟩) H') (cL 40 [.slice rows_a rows_n rows_c] H' fun a n c H' => cH 39 ⟨[.slice a n c]⟩ H' fun v H' => ∃ s n, v = .tuple ⟨[.string s,
 .int .i64 n]⟩ ∧ R (.tuple ⟨[.string s, .int .i64 n]⟩) H')) (brB (layout == 1) (cH 41 ⟨[.slice rows_a rows_n rows_c]⟩ H fun v H' => ∃ s n, v = .tuple ⟨[.string s, .int .i64 n]⟩ ∧ R (.tuple ⟨[.string
 s, .int .i64 n]⟩) H') (R (.tuple ⟨[.string { data := #[] }, .int .i64 1]⟩) H))) : CallH Tryz.prog 13 (List.toArray [.int .i64 layout, .slice rows_a rows_n rows_c]) H R := vc_call (annOf [])
 followsAll Tryz.func13 rfl Tryz.ntmps13 rfl rfl (Eq.mpr (by kernel_rfl) h)
abbrev fn_ref13_Equal : Nat := 14
theorem vc_ref13_Equal (a_a : Option Addr) (a_n : Nat) (a_c : Nat) (b_a : Option Addr) (b_n : Nat) (b_c : Nat) (H : Heap) (R : Value → Heap → Prop) (h : brB ((↑a_n : Int) != (↑b_n : Int)) (R (.bool
 false) H) (∃ (I : IV) (μ : MU), I [.int .i64 0] H ∧ ∀ (J : F) (n : Int) (H' : Heap), I [.int .i64 n] H' → brB (decide (n < (↑a_n : Int))) (ix a_a n a_n fun ad => (∃ n_1 n_2 n_3, lD 26 H' (Addr.add
 ad (Int.toNat n * 3)) (.agg ⟨[.int .i64 n_1, .int .i64 n_2, .int .i64 n_3]⟩) ∧ ix b_a n b_n fun ad => (∃ n_4 n_5 n_6, lD 26 H' (Addr.add ad (Int.toNat n * 3)) (.agg ⟨[.int .i64 n_4, .int .i64 n_5,
 .int .i64 n_6]⟩) ∧ brB (!(n_1 == n_4 && (n_2 == n_5 && (n_3 == n_6 && true)))) (R (.bool false) H') (I [.int .i64 (IntKind.wrap .i64 (n + 1))] H' ∧ μ [.int .i64 (IntKind.wrap .i64 (n + 1))] H' < μ
 [.int .i64 n] H')))) (R (.bool true) H'))) : CallH Tryz.prog 14 (List.toArray [.slice a_a a_n a_c, .slice b_a b_n b_c]) H R := vc_call (annOf [([0, 1, 0, 1, 1], .cut [(5, .one (.int .i64))])])
 followsAll Tryz.func14 rfl Tryz.ntmps14 rfl rfl (Eq.mpr (by kernel_rfl) h)
abbrev fn_convert_Begin : Nat := 15
theorem vc_convert_Begin (layout : Int) (data : ByteArray) (H : Heap) (R : Value → Heap → Prop) (h : cH 29 ⟨[.int .i64 layout, .string data]⟩ H fun v H' => ∃ n v_1 n_1, v = .tuple ⟨[.int .i64 n,
 v_1, .int .i64 n_1]⟩ ∧ brB (n_1 != 0) (R (.tuple ⟨[.pointer none, .int .i64 n_1]⟩) H') (∀ (b : Nat) (H'_1 : Heap), New H' b (.cells ⟨[.slice none 0 0]⟩ 73) H'_1 → ∀ (D l : Nat) (R0 : Loop) (H1 :
 Heap), NewL H'_1 D l R0 H1 → (∀ (a : Option Addr) (n c : Nat) (H2 : Heap) (K2 : Value → Heap → Prop), Lp H2 l R0 LoopState.ready none → (Lp H2 l R0 LoopState.ready none ∧ ∃ a_2 n_2 c_1, lD 73 (setLp
 H2 l R0 LoopState.busy none) ⟨b, 0, none⟩ (.slice a_2 n_2 c_1) ∧ ∀ (b_1 : Nat) (H' : Heap), New (setLp H2 l R0 LoopState.busy none) b_1 (.cells ⟨[.slice a n c]⟩ 22) H' → SemWp Tryz.prog
 (Builtin.append_ ⟨[73, 73]⟩ 73 ⟨[.slice a_2 n_2 c_1, .slice (some ⟨b_1, 0, none⟩) 1 1]⟩) H' fun v H' => ∃ a n c, v = .slice a n c ∧ ∃ H'_2, sT 73 H' ⟨b, 0, none⟩ (.slice a n c) H'_2 ∧ Lp H'_2 l R0
 LoopState.busy none ∧ K2 (.bool true) (setLp H'_2 l R0 LoopState.ready none)) → YieldH Tryz.prog l [.slice a n c] H2 fun a a_3 => K2 a a_3) → CallV Tryz.prog v_1 [.func (Fn.yield l) ⟨[]⟩ ⟨[]⟩] H1
 fun x H4 => (Lp H4 l R0 LoopState.ready none ∧ ∀ (b_1 : Nat) (H' : Heap), New (setLp H4 l R0 LoopState.exhausted none) b_1 (.cells ⟨[.int .i64 layout, .int .i64 n, .nilFunc, .slice none 0 0]⟩ 76) H'
 → ∃ H'_2, sT 74 H' ⟨b_1, 2, none⟩ (.func (Fn.func 42) ⟨[]⟩ ⟨[.pointer (some ⟨b, 0, none⟩)]⟩) H'_2 ∧ Dq H'_2 D ∧ R (.tuple ⟨[.pointer (some ⟨b_1, 0, none⟩), .int .i64 0]⟩) (shutD H'_2 D)) ∨ Lp H4 l
 R0 LoopState.done (some Code.ret) ∧ Dq (setLp H4 l R0 LoopState.exhausted (some Code.ret)) D ∧ R (.tuple ⟨[.pointer none, .int .i64 0]⟩) (shutD (setLp H4 l R0 LoopState.exhausted (some Code.ret))
 D))) : CallH Tryz.prog 15 (List.toArray [.int .i64 layout, .string data]) H R := vcS_call (annOf [([0, 1, 0, 1, 1, 1, 1], .cut [(23, .one .slice)])]) followsAll Tryz.func15 rfl Tryz.ntmps15 rfl rfl
 (Eq.mpr (by kernel_rfl) h)
abbrev fn_convert_Work_Data : Nat := 17
theorem vc_convert_Work_Data (w : Addr) (H : Heap) (R : Value → Heap → Prop) (h : ∃ n, lD 3 H (Addr.add w 1) (.int .i64 n) ∧ brB (decide (n > 0)) (R (.tuple ⟨[.string { data := #[] }, .int .i64
 212]⟩) H) (∃ n, lD 3 H w (.int .i64 n) ∧ ∃ a n_1 c, lD 52 H (Addr.add w 3) (.slice a n_1 c) ∧ cL 31 [.slice a n_1 c] H fun a n_2 c H' => lD 3 H' w (.int .i64 n) ∧ cH 8 ⟨[.int .i64 (IntKind.wrap .i64
 (1 - n)), .slice a n_2 c]⟩ H' fun v H' => ∃ s n, v = .tuple ⟨[.string s, .int .i64 n]⟩ ∧ R (.tuple ⟨[.string s, .int .i64 n]⟩) H')) : CallH Tryz.prog 17 (List.toArray [.pointer (some w)]) H R :=
 vc_call (annOf [([0, 1, 1], .reg [0, 1, 3, 7, 15, 0, 32, 96, 224, 480, 1023, 2047, 2047, 8191, 16383] (.quiet 0 (.quiet 1 (.quiet 2 (.quiet 3 (.quiet 4 (.quiet 5 (.quiet 6 (.quiet 7 (.quiet 8 (.pick
 (.alt 9 (.pick (.alt 10 (.quiet 11 (.quiet 12 (.quiet 13 (.quiet 14 .done)))) .stop)) .stop))))))))))))]) followsAll Tryz.func17 rfl Tryz.ntmps17 rfl rfl (Eq.mpr (by kernel_rfl) h)
abbrev fn_convert_Work_Left : Nat := 19
theorem vc_convert_Work_Left (w : Addr) (H : Heap) (R : Value → Heap → Prop) (h : ∃ n, lD 3 H (Addr.add w 1) (.int .i64 n) ∧ R (.int .i64 n) H) : CallH Tryz.prog 19 (List.toArray [.pointer (some
 w)]) H R := vc_call (annOf []) followsAll Tryz.func19 rfl Tryz.ntmps19 rfl rfl (Eq.mpr (by kernel_rfl) h)
abbrev fn_convert_Work_Step : Nat := 21
theorem vc_convert_Work_Step (w : Addr) (H : Heap) (R : Value → Heap → Prop) (h : ∃ n, lD 3 H (Addr.add w 1) (.int .i64 n) ∧ brB (n == 0) (R (.bool false) H) (∃ a n c, lD 52 H (Addr.add w 3) (.slice
 a n c) ∧ ∃ v, lD 74 H (Addr.add w 2) v ∧ CallV Tryz.prog v [] H fun v H' => ∃ a_1 n_1 c_1, v = .slice a_1 n_1 c_1 ∧ lD 52 H' (Addr.add w 3) (.slice a n c) ∧ cL 43 [.slice a n c, .slice a_1 n_1 c_1]
 H' fun a n c H' => ∃ H'_1, sT 52 H' (Addr.add w 3) (.slice a n c) H'_1 ∧ ∃ n, lD 3 H'_1 (Addr.add w 1) (.int .i64 n) ∧ ∃ H', sT 3 H'_1 (Addr.add w 1) (.int .i64 (IntKind.wrap .i64 (n - 1))) H' ∧ R
 (.bool true) H')) : CallH Tryz.prog 21 (List.toArray [.pointer (some w)]) H R := vc_call (annOf [([0, 1, 1], .reg [0, 0, 2, 6, 14, 0, 32, 96, 224, 480, 1022, 2047, 4095, 8191] (.quiet 0 (.quiet 1
 (.quiet 2 (.quiet 3 (.quiet 4 (.quiet 5 (.quiet 6 (.quiet 7 (.quiet 8 (.pick (.alt 9 (.pick (.alt 10 (.quiet 11 (.quiet 12 (.pick (.alt 13 (.done) .stop)))) .stop)) .stop))))))))))))]) followsAll
 Tryz.func21 rfl Tryz.ntmps21 rfl rfl (Eq.mpr (by kernel_rfl) h)
abbrev fn_law19_turned : Nat := 23
theorem vc_law19_turned (layout : Int) (s : ByteArray) (H : Heap) (R : Value → Heap → Prop) (h : cH 15 ⟨[.int .i64 layout, .string s]⟩ H fun v H' => ∃ a n, v = .tuple ⟨[.pointer a, .int .i64 n]⟩ ∧
 cH 9 ⟨[.int .i64 layout, .string s]⟩ H' fun v H' => ∃ n_1 n_2, v = .tuple ⟨[.int .i64 n_1, .int .i64 n_2]⟩ ∧ ∃ (M : IV), brB (n != 0) (R (.tuple ⟨[.string { data := #[] }, .bool false]⟩) H') (brB
 (n_2 != 0) (R (.tuple ⟨[.string { data := #[] }, .bool false]⟩) H') (brB (Option.isNone a) (R (.tuple ⟨[.string { data := #[] }, .bool false]⟩) H') (M [] H'))) ∧ ∀ (J : F) (H' : Heap), M [] H' → ∃
 (I : IV) (μ : MU), I [.int .i64 0] H' ∧ ∀ (J : F) (n : Int) (H' : Heap), I [.int .i64 n] H' → brB (decide (n < n_1)) (cH 17 ⟨[.pointer a]⟩ H' fun v H'_1 => ∃ s n_3, v = .tuple ⟨[.string s, .int .i64
 n_3]⟩ ∧ cI 19 [.pointer a] H'_1 fun n_4 H'_2 => brB (n_4 != IntKind.wrap .i64 (n_1 - n)) (R (.tuple ⟨[.string { data := #[] }, .bool false]⟩) H'_2) (brB (n_3 != 212) (R (.tuple ⟨[.string { data :=
 #[] }, .bool false]⟩) H'_2) (cB 21 [.pointer a] H'_2 fun b H'_3 => brB (!b) (R (.tuple ⟨[.string { data := #[] }, .bool false]⟩) H'_3) (I [.int .i64 (IntKind.wrap .i64 (n + 1))] H'_3 ∧ μ [.int .i64
 (IntKind.wrap .i64 (n + 1))] H'_3 < μ [.int .i64 n] H')))) (cI 19 [.pointer a] H' fun n H' => brB (n != 0) (R (.tuple ⟨[.string { data := #[] }, .bool false]⟩) H') (cB 21 [.pointer a] H' fun b H' =>
 brB b (R (.tuple ⟨[.string { data := #[] }, .bool false]⟩) H') (cH 17 ⟨[.pointer a]⟩ H' fun v H' => ∃ s n, v = .tuple ⟨[.string s, .int .i64 n]⟩ ∧ R (.tuple ⟨[.string s, .bool (n == 0)]⟩) H')))) :
 CallH Tryz.prog 23 (List.toArray [.int .i64 layout, .string s]) H R := vc_call (annOf [([1, 1, 1], .cut []), ([0, 1, 0, 1, 1, 1, 1], .cut [(10, .one (.int .i64))])]) followsAll Tryz.func23 rfl
 Tryz.ntmps23 rfl rfl (Eq.mpr (by kernel_rfl) h)
abbrev fn_ref13_Behind : Nat := 24
theorem vc_ref13_Behind (a_0 : Int) (a_1 : Int) (a_2 : Int) (b_0 : Int) (b_1 : Int) (b_2 : Int) (H : Heap) (R : Value → Heap → Prop) (h : ∀ (b : Nat) (H' : Heap), New H b (.cells ⟨[.int .i64 a_0,
 .int .i64 a_1, .int .i64 a_2]⟩ 26) H' → ∀ (b_3 : Nat) (H'_1 : Heap), New H' b_3 (.cells ⟨[.int .i64 b_0, .int .i64 b_1, .int .i64 b_2]⟩ 26) H'_1 → ∃ n, lD 3 H'_1 ⟨b, 0, none⟩ (.int .i64 n) ∧ ∃ n_1,
 lD 3 H'_1 ⟨b_3, 0, none⟩ (.int .i64 n_1) ∧ brB (decide (n > n_1)) (R (.bool true) H'_1) (∃ n, lD 3 H'_1 ⟨b, 0, none⟩ (.int .i64 n) ∧ ∃ n_2, lD 3 H'_1 ⟨b_3, 0, none⟩ (.int .i64 n_2) ∧ brB (n == n_2)
 (∃ n, lD 3 H'_1 ⟨b, 1, none⟩ (.int .i64 n) ∧ ∃ n_3, lD 3 H'_1 ⟨b_3, 1, none⟩ (.int .i64 n_3) ∧ R (.bool (decide (n > n_3))) H'_1) (R (.bool false) H'_1))) : CallH Tryz.prog 24 (List.toArray [.agg
 #[.int .i64 a_0, .int .i64 a_1, .int .i64 a_2], .agg #[.int .i64 b_0, .int .i64 b_1, .int .i64 b_2]]) H R := vc_call (annOf []) followsAll Tryz.func24 rfl Tryz.ntmps24 rfl rfl (Eq.mpr (by
 kernel_rfl) h)
abbrev fn_convert_right : Nat := 25
theorem vc_convert_right (rows_a : Option Addr) (rows_n : Nat) (rows_c : Nat) (H : Heap) (R : Value → Heap → Prop) (h : ∃ (I : IV) (μ : MU), I [.int .i64 0] H ∧ ∀ (J : F) (n : Int) (H' : Heap), I
 [.int .i64 n] H' → brB (decide (n < (↑rows_n : Int))) (ix rows_a n rows_n fun ad => (∃ n_1 n_2 n_3, lD 26 H' (Addr.add ad (Int.toNat n * 3)) (.agg ⟨[.int .i64 n_1, .int .i64 n_2, .int .i64 n_3]⟩) ∧
 ∀ (b : Nat) (H'_1 : Heap), New H' b (.cells ⟨[.int .i64 0, .int .i64 0, .int .i64 0]⟩ 26) H'_1 → ∃ H'_2, sT 26 H'_1 ⟨b, 0, none⟩ (.agg ⟨[.int .i64 n_1, .int .i64 n_2, .int .i64 n_3]⟩) H'_2 ∧ brB
 (decide (n > 0)) (ix rows_a (IntKind.wrap .i64 (n - 1)) rows_n fun ad => (∃ n_4 n_5 n_6, lD 26 H'_2 (Addr.add ad (Int.toNat (IntKind.wrap .i64 (n - 1)) * 3)) (.agg ⟨[.int .i64 n_4, .int .i64 n_5,
 .int .i64 n_6]⟩) ∧ ∀ (b_1 : Nat) (H'_3 : Heap), New H'_2 b_1 (.cells ⟨[.int .i64 0, .int .i64 0, .int .i64 0]⟩ 26) H'_3 → ∃ H'_4, sT 26 H'_3 ⟨b_1, 0, none⟩ (.agg ⟨[.int .i64 n_4, .int .i64 n_5, .int
 .i64 n_6]⟩) H'_4 ∧ ∃ n_7, lD 3 H'_4 ⟨b, 0, none⟩ (.int .i64 n_7) ∧ ∃ n_8, lD 3 H'_4 ⟨b_1, 0, none⟩ (.int .i64 n_8) ∧ brB (decide (n_7 < n_8)) (R (.bool false) H'_4) (∃ n_9, lD 3 H'_4 ⟨b, 0, none⟩
 (.int .i64 n_9) ∧ ∃ n_10, lD 3 H'_4 ⟨b_1, 0, none⟩ (.int .i64 n_10) ∧ brB (n_9 == n_10) (∃ n_11, lD 3 H'_4 ⟨b, 1, none⟩ (.int .i64 n_11) ∧ ∃ n_12, lD 3 H'_4 ⟨b_1, 1, none⟩ (.int .i64 n_12) ∧ brB
 (decide (n_11 ≤ n_12)) (R (.bool false) H'_4) (I [.int .i64 (IntKind.wrap .i64 (n + 1))] H'_4 ∧ μ [.int .i64 (IntKind.wrap .i64 (n + 1))] H'_4 < μ [.int .i64 n] H')) (I [.int .i64 (IntKind.wrap .i64
 (n + 1))] H'_4 ∧ μ [.int .i64 (IntKind.wrap .i64 (n + 1))] H'_4 < μ [.int .i64 n] H')))) (I [.int .i64 (IntKind.wrap .i64 (n + 1))] H'_2 ∧ μ [.int .i64 (IntKind.wrap .i64 (n + 1))] H'_2 < μ [.int
 .i64 n] H'))) (R (.bool true) H')) : CallH Tryz.prog 25 (List.toArray [.slice rows_a rows_n rows_c]) H R := vc_call (annOf [([0, 1, 0, 1], .cut [(8, .one (.int .i64))])]) followsAll Tryz.func25 rfl
 Tryz.ntmps25 rfl rfl (Eq.mpr (by kernel_rfl) h)
abbrev fn_major_Encode : Nat := 26
theorem vc_major_Encode (l_a : Option Addr) (l_n : Nat) (l_c : Nat) (H : Heap) (R : Value → Heap → Prop) (h : ∀ (b : Nat) (H' : Heap), New H b (.cells ⟨[.pointer none, .slice none 0 0]⟩ 83) H' → ∀
 (b_1 : Nat) (H'_1 : Heap), New H' b_1 (.cells ⟨[.pointer none, .slice none 0 0]⟩ 83) H'_1 → cS 45 [.int .u64 (IntKind.wrap .u64 (↑l_n : Int))] H'_1 fun s H' => cH 44 ⟨[.pointer (some ⟨b, 0, none⟩),
 .string s]⟩ H' fun v H' => ∃ n v_1, v = .tuple ⟨[.int .i64 n, v_1]⟩ ∧ ∃ (I : IV) (μ : MU), I [.int .i64 (-1 : Int), .int .i64 0] H' ∧ ∀ (J : F) (n n_1 : Int) (H' : Heap), I [.int .i64 n, .int .i64
 n_1] H' → brB (decide (n_1 < (↑l_n : Int))) (ix l_a n_1 l_n fun ad => (∃ n_2 a n_3 c, lD 92 H' (Addr.add ad (Int.toNat n_1 * 2)) (.agg ⟨[.int .i64 n_2, .slice a n_3 c]⟩) ∧ ∀ (b_2 : Nat) (H'_2 :
 Heap), New H' b_2 (.cells ⟨[.int .i64 0, .slice none 0 0]⟩ 92) H'_2 → ∃ H'_3, sT 92 H'_2 ⟨b_2, 0, none⟩ (.agg ⟨[.int .i64 n_2, .slice a n_3 c]⟩) H'_3 ∧ ∃ a n_4 c, lD 90 H'_3 ⟨b_2, 1, none⟩ (.slice a
 n_4 c) ∧ cH 46 ⟨[.slice a n_4 c]⟩ H'_3 fun v H'_4 => ∃ s n_5, v = .tuple ⟨[.string s, .int .i64 n_5]⟩ ∧ ∃ (M : IV), brB (n_5 != 0) (R (.tuple ⟨[.string { data := #[] }, .int .i64 30]⟩) H'_4) (∃ a
 n_6 c, lD 90 H'_4 ⟨b_2, 1, none⟩ (.slice a n_6 c) ∧ brB ((↑n_6 : Int) == 0) (R (.tuple ⟨[.string { data := #[] }, .int .i64 30]⟩) H'_4) (∃ n_7, lD 3 H'_4 ⟨b_2, 0, none⟩ (.int .i64 n_7) ∧ brB (decide
 (n_7 ≤ n)) (R (.tuple ⟨[.string { data := #[] }, .int .i64 30]⟩) H'_4) (∃ n, lD 3 H'_4 ⟨b_2, 0, none⟩ (.int .i64 n) ∧ brB (decide (n ≥ 200)) (R (.tuple ⟨[.string { data := #[] }, .int .i64 30]⟩)
 H'_4) (M [] H'_4)))) ∧ ∀ (J : F) (H'_5 : Heap), M [] H'_5 → ∃ n_6, lD 3 H'_5 ⟨b_2, 0, none⟩ (.int .i64 n_6) ∧ ∃ n_7, lD 3 H'_5 ⟨b_2, 0, none⟩ (.int .i64 n_7) ∧ cS 45 [.int .u64 (IntKind.wrap .u64
 n_7)] H'_5 fun s_1 H'_6 => cS 45 [.int .u64 (IntKind.wrap .u64 (↑(ByteArray.size s) : Int))] H'_6 fun s_2 H'_7 => chk (decide (ByteArray.size s_1 + ByteArray.size s_2 ≤ 9223372036854775807)) (cH 44
 ⟨[.pointer (some ⟨b, 0, none⟩), .string (s_1 ++ s_2)]⟩ H'_7 fun v H'_8 => ∃ n_8 v_2, v = .tuple ⟨[.int .i64 n_8, v_2]⟩ ∧ cH 44 ⟨[.pointer (some ⟨b_1, 0, none⟩), .string s]⟩ H'_8 fun v H'_9 => ∃ n_9
 v_3, v = .tuple ⟨[.int .i64 n_9, v_3]⟩ ∧ I [.int .i64 n_6, .int .i64 (IntKind.wrap .i64 (n_1 + 1))] H'_9 ∧ μ [.int .i64 n_6, .int .i64 (IntKind.wrap .i64 (n_1 + 1))] H'_9 < μ [.int .i64 n, .int .i64
 n_1] H'))) (cS 47 [.pointer (some ⟨b, 0, none⟩)] H' fun s H' => cS 47 [.pointer (some ⟨b_1, 0, none⟩)] H' fun s_1 H' => chk (decide (ByteArray.size s + ByteArray.size s_1 ≤ 9223372036854775807)) (R
 (.tuple ⟨[.string (s ++ s_1), .int .i64 0]⟩) H'))) : CallH Tryz.prog 26 (List.toArray [.slice l_a l_n l_c]) H R := vc_call (annOf [([0, 1, 0, 1, 1, 1, 1], .cut [(6, .one (.int .i64)), (18, .one
 (.int .i64))]), ([1, 1, 0, 0, 1, 1, 0, 0, 1, 0, 1, 1, 1, 1], .cut [])]) followsAll Tryz.func26 rfl Tryz.ntmps26 rfl rfl (Eq.mpr (by kernel_rfl) h)
abbrev fn_series_Split : Nat := 27
theorem vc_series_Split (rows_a : Option Addr) (rows_n : Nat) (rows_c : Nat) (H : Heap) (R : Value → Heap → Prop) (h : cL 43 [.slice none 0 0, .slice rows_a rows_n rows_c] H fun a n c H' => R
 (.slice a n c) H') : CallH Tryz.prog 27 (List.toArray [.slice rows_a rows_n rows_c]) H R := vc_call (annOf []) followsAll Tryz.func27 rfl Tryz.ntmps27 rfl rfl (Eq.mpr (by kernel_rfl) h)
abbrev fn_runs_Encode : Nat := 28
theorem vc_runs_Encode (rows_a : Option Addr) (rows_n : Nat) (rows_c : Nat) (H : Heap) (R : Value → Heap → Prop) (h : ∃ (I : IV) (μ : MU), I [.int .i64 0] H ∧ ∀ (J : F) (n : Int) (H' : Heap), I
 [.int .i64 n] H' → brB (decide (n < (↑rows_n : Int))) (∃ (M : IV), (ix rows_a n rows_n fun ad => (∃ n_1 n_2 n_3, lD 26 H' (Addr.add ad (Int.toNat n * 3)) (.agg ⟨[.int .i64 n_1, .int .i64 n_2, .int
 .i64 n_3]⟩) ∧ ∀ (b : Nat) (H'_1 : Heap), New H' b (.cells ⟨[.int .i64 0, .int .i64 0, .int .i64 0]⟩ 26) H'_1 → ∃ H', sT 26 H'_1 ⟨b, 0, none⟩ (.agg ⟨[.int .i64 n_1, .int .i64 n_2, .int .i64 n_3]⟩) H'
 ∧ ∃ (M_1 : IV), (∃ n_4, lD 3 H' ⟨b, 0, none⟩ (.int .i64 n_4) ∧ brB (decide (n_4 < 0)) (M_1 [.bool true] H') (∃ n_5, lD 3 H' ⟨b, 0, none⟩ (.int .i64 n_5) ∧ brB (decide (n_5 ≥ 1099511627776)) (M_1
 [.bool true] H') (∃ n_6, lD 3 H' ⟨b, 1, none⟩ (.int .i64 n_6) ∧ brB (decide (n_6 < 0)) (M_1 [.bool true] H') (∃ n_7, lD 3 H' ⟨b, 1, none⟩ (.int .i64 n_7) ∧ brB (decide (n_7 ≥ 200)) (M_1 [.bool true]
 H') (brB (decide (n > 0)) (∃ n_8 n_9 n_10, lD 26 H' ⟨b, 0, none⟩ (.agg ⟨[.int .i64 n_8, .int .i64 n_9, .int .i64 n_10]⟩) ∧ ix rows_a (IntKind.wrap .i64 (n - 1)) rows_n fun ad => (∃ n_11 n_12 n_13,
 lD 26 H' (Addr.add ad (Int.toNat (IntKind.wrap .i64 (n - 1)) * 3)) (.agg ⟨[.int .i64 n_11, .int .i64 n_12, .int .i64 n_13]⟩) ∧ cB 48 [.agg ⟨[.int .i64 n_8, .int .i64 n_9, .int .i64 n_10]⟩, .agg
 ⟨[.int .i64 n_11, .int .i64 n_12, .int .i64 n_13]⟩] H' fun b H' => M_1 [.bool !b] H')) (M_1 [.bool false] H')))))) ∧ ∀ (J : F) (b : Bool) (H' : Heap), M_1 [.bool b] H' → brB b (R (.tuple ⟨[.string {
 data := #[] }, .int .i64 30]⟩) H') (M [] H'))) ∧ ∀ (J : F) (H'_1 : Heap), M [] H'_1 → I [.int .i64 (IntKind.wrap .i64 (n + 1))] H'_1 ∧ μ [.int .i64 (IntKind.wrap .i64 (n + 1))] H'_1 < μ [.int .i64
 n] H') (brB (decide ((↑rows_n : Int) > 5000)) (R (.tuple ⟨[.string { data := #[] }, .int .i64 30]⟩) H') (∀ (b : Nat) (H'_1 : Heap), New H' b (.cells ⟨[.pointer none, .slice none 0 0]⟩ 83) H'_1 → ∀
 (b_1 : Nat) (H' : Heap), New H'_1 b_1 (.cells ⟨[.pointer none, .slice none 0 0]⟩ 83) H' → cS 45 [.int .u64 (IntKind.wrap .u64 (↑rows_n : Int))] H' fun s H' => cH 44 ⟨[.pointer (some ⟨b, 0, none⟩),
 .string s]⟩ H' fun v H' => ∃ n v_1, v = .tuple ⟨[.int .i64 n, v_1]⟩ ∧ cV 49 [.slice rows_a rows_n rows_c, .int .i64 16] H' fun v_2 H' => ∀ (D l : Nat) (R0 : Loop) (H1 : Heap), NewL H' D l R0 H1 → (∀
 (a : Option Addr) (n c : Nat) (H2 : Heap) (K2 : Value → Heap → Prop), Lp H2 l R0 LoopState.ready none → (Lp H2 l R0 LoopState.ready none ∧ CallH Tryz.prog 50 ⟨[.pointer (some ⟨b_1, 0, none⟩)]⟩
 (setLp H2 l R0 LoopState.busy none) fun v H' => ∃ n_1, v = .int .i64 n_1 ∧ ix a (0) n fun ad => (∃ n_2, lD 3 H' ad (.int .i64 n_2) ∧ ∃ (I : IV) (μ : MU), I [.int .i64 n_2, .int .i64 0] H' ∧ ∀ (J :
 F) (n_3 n_4 : Int) (H' : Heap), I [.int .i64 n_3, .int .i64 n_4] H' → brB (decide (n_4 < (↑n : Int))) (ix a n_4 n fun ad => (∃ n n_5 n_6, lD 26 H' (Addr.add ad (Int.toNat n_4 * 3)) (.agg ⟨[.int .i64
 n, .int .i64 n_5, .int .i64 n_6]⟩) ∧ ∀ (b : Nat) (H'_2 : Heap), New H' b (.cells ⟨[.int .i64 0, .int .i64 0, .int .i64 0]⟩ 26) H'_2 → ∃ H'_3, sT 26 H'_2 ⟨b, 0, none⟩ (.agg ⟨[.int .i64 n, .int .i64
 n_5, .int .i64 n_6]⟩) H'_3 ∧ ∃ n, lD 3 H'_3 ⟨b, 0, none⟩ (.int .i64 n) ∧ ∃ n_7, lD 3 H'_3 ⟨b, 1, none⟩ (.int .i64 n_7) ∧ ∃ n_8, lD 3 H'_3 ⟨b, 2, none⟩ (.int .i64 n_8) ∧ cS 45 [.int .u64
 (IntKind.wrap .u64 (IntKind.wrap .i64 (n - n_3)))] H'_3 fun s H'_4 => lD 3 H'_4 ⟨b, 2, none⟩ (.int .i64 n_8) ∧ lD 3 H'_4 ⟨b, 1, none⟩ (.int .i64 n_7) ∧ cS 45 [.int .u64 (IntKind.wrap .u64 n_7)] H'_4
 fun s_1 H'_5 => lD 3 H'_5 ⟨b, 2, none⟩ (.int .i64 n_8) ∧ chk (decide (ByteArray.size s + ByteArray.size s_1 ≤ 9223372036854775807)) (cS 51 [.int .i64 n_8] H'_5 fun s_2 H'_6 => chk (decide
 (ByteArray.size (s ++ s_1) + ByteArray.size s_2 ≤ 9223372036854775807)) (cH 44 ⟨[.pointer (some ⟨b_1, 0, none⟩), .string (s ++ s_1 ++ s_2)]⟩ H'_6 fun v H'_7 => ∃ n v_3, v = .tuple ⟨[.int .i64 n,
 v_3]⟩ ∧ ∃ n, lD 3 H'_7 ⟨b, 0, none⟩ (.int .i64 n) ∧ I [.int .i64 n, .int .i64 (IntKind.wrap .i64 (n_4 + 1))] H'_7 ∧ μ [.int .i64 n, .int .i64 (IntKind.wrap .i64 (n_4 + 1))] H'_7 < μ [.int .i64 n_3,
 .int .i64 n_4] H')))) (cS 45 [.int .u64 (IntKind.wrap .u64 n_2)] H' fun s H' => cS 45 [.int .u64 (IntKind.wrap .u64 (IntKind.wrap .i64 (n_3 - n_2)))] H' fun s_1 H' => chk (decide (ByteArray.size s +
 ByteArray.size s_1 ≤ 9223372036854775807)) (cI 50 [.pointer (some ⟨b_1, 0, none⟩)] H' fun n H' => cS 45 [.int .u64 (IntKind.wrap .u64 (IntKind.wrap .i64 (n - n_1)))] H' fun s_2 H' => chk (decide
 (ByteArray.size (s ++ s_1) + ByteArray.size s_2 ≤ 9223372036854775807)) (cH 44 ⟨[.pointer (some ⟨b, 0, none⟩), .string (s ++ s_1 ++ s_2)]⟩ H' fun v H' => ∃ n v_3, v = .tuple ⟨[.int .i64 n, v_3]⟩ ∧
 Lp H' l R0 LoopState.busy none ∧ K2 (.bool true) (setLp H' l R0 LoopState.ready none)))))) → YieldH Tryz.prog l [.slice a n c] H2 fun a a_3 => K2 a a_3) → CallV Tryz.prog v_2 [.func (Fn.yield l)
 ⟨[]⟩ ⟨[]⟩] H1 fun x H4 => (Lp H4 l R0 LoopState.ready none ∧ CallH Tryz.prog 47 ⟨[.pointer (some ⟨b, 0, none⟩)]⟩ (setLp H4 l R0 LoopState.exhausted none) fun v H' => ∃ s, v = .string s ∧ cS 47
 [.pointer (some ⟨b_1, 0, none⟩)] H' fun s_1 H' => chk (decide (ByteArray.size s + ByteArray.size s_1 ≤ 9223372036854775807)) (Dq H' D ∧ R (.tuple ⟨[.string (s ++ s_1), .int .i64 0]⟩) (shutD H' D)))
 ∨ Lp H4 l R0 LoopState.done (some Code.ret) ∧ Dq (setLp H4 l R0 LoopState.exhausted (some Code.ret)) D ∧ R (.tuple ⟨[J 2, J 3]⟩) (shutD (setLp H4 l R0 LoopState.exhausted (some Code.ret)) D)))) :
 CallH Tryz.prog 28 (List.toArray [.slice rows_a rows_n rows_c]) H R := vcS_call (annOf [([0, 1, 0, 1], .cut [(16, .one (.int .i64))]), ([1, 1, 0, 0, 1, 0, 1], .cut []), ([1, 0, 0, 1, 1, 0, 0, 1, 0,
 1], .cut [(52, .one .bool)]), ([0, 1, 0, 0, 1, 1, 0, 0, 1, 0, 1], .tail 28), ([0, 1, 0, 1, 1, 1, 1, 1], .cut [(64, .one .slice)]), ([0, 1, 0, 1, 1, 1, 0, 1, 0, 1, 0, 1, 1, 1, 1, 1], .cut [(11, .one
 (.int .i64)), (73, .one (.int .i64))]), ([0, 1, 0, 0, 1, 1, 0, 0, 1, 0, 1, 1, 1, 0, 1, 0, 1, 0, 1, 1, 1, 1, 1], .reg [0, 1, 0, 7, 15, 31, 0, 64, 192, 511, 1023, 0, 2048, 7167, 16383, 32767] (.quiet
 0 (.quiet 1 (.quiet 2 (.quiet 3 (.quiet 4 (.quiet 6 (.quiet 7 (.quiet 8 (.quiet 11 (.quiet 12 (.pick (.alt 5 (.pick (.alt 9 (.quiet 10 (.pick (.alt 13 (.quiet 14 (.pick (.alt 15 (.done) .stop)))
 .stop))) .stop)) .stop)))))))))))))]) followsAll Tryz.func28 rfl Tryz.ntmps28 rfl rfl (Eq.mpr (by kernel_rfl) h)
abbrev fn_convert_units : Nat := 29
theorem vc_convert_units (layout : Int) (data : ByteArray) (H : Heap) (R : Value → Heap → Prop) (h : brB (layout == 0) (cH 30 ⟨[.string data]⟩ H fun v H' => ∃ a n c n_1, v = .tuple ⟨[.slice a n c,
 .int .i64 n_1]⟩ ∧ ∀ (b : Nat) (H'_1 : Heap), New H' b (.cells ⟨[.slice none 0 0]⟩ 52) H'_1 → ∃ H', sT 52 H'_1 ⟨b, 0, none⟩ (.slice a n c) H' ∧ ∃ a n c, lD 52 H' ⟨b, 0, none⟩ (.slice a n c) ∧ R
 (.tuple ⟨[.int .i64 (↑n : Int), .func (Fn.func 52) ⟨[]⟩ ⟨[.pointer (some ⟨b, 0, none⟩)]⟩, .int .i64 n_1]⟩) H') (brB (layout == 1) (cH 32 ⟨[.string data]⟩ H fun v H' => ∃ a n c n_1, v = .tuple
 ⟨[.slice a n c, .int .i64 n_1]⟩ ∧ ∀ (b : Nat) (H'_1 : Heap), New H' b (.cells ⟨[.slice none 0 0]⟩ 22) H'_1 → ∃ H', sT 22 H'_1 ⟨b, 0, none⟩ (.slice a n c) H' ∧ ∃ a n c, lD 22 H' ⟨b, 0, none⟩ (.slice
 a n c) ∧ ∀ (b_1 : Nat) (H'_2 : Heap), New H' b_1 (.cells ⟨[.int .i64 0]⟩ 3) H'_2 → ∃ H', sT 3 H'_2 ⟨b_1, 0, none⟩ (.int .i64 (IntKind.wrap .i64 (Int.tdiv (IntKind.wrap .i64 ((↑n : Int) + 15)) 16)))
 H' ∧ ∃ n, lD 3 H' ⟨b_1, 0, none⟩ (.int .i64 n) ∧ R (.tuple ⟨[.int .i64 n, .func (Fn.func 53) ⟨[]⟩ ⟨[.pointer (some ⟨b_1, 0, none⟩), .pointer (some ⟨b, 0, none⟩)]⟩, .int .i64 n_1]⟩) H') (R (.tuple
 ⟨[.int .i64 0, .nilFunc, .int .i64 1]⟩) H))) : CallH Tryz.prog 29 (List.toArray [.int .i64 layout, .string data]) H R := vc_call (annOf []) followsAll Tryz.func29 rfl Tryz.ntmps29 rfl rfl (Eq.mpr
 (by kernel_rfl) h)
abbrev fn_major_Decode : Nat := 30
theorem vc_major_Decode (s : ByteArray) (H : Heap) (R : Value → Heap → Prop) (h : ∀ (b : Nat) (H' : Heap), New H b (.cells ⟨[.slice none 0 0]⟩ 52) H' → ∀ (b_1 : Nat) (H'_1 : Heap), New H' b_1
 (.cells ⟨[.int .i64 0]⟩ 27) H'_1 → cH 54 ⟨[.string s]⟩ H'_1 fun v H' => ∃ a n c b_2, v = .tuple ⟨[.slice a n c, .bool b_2]⟩ ∧ brB (!b_2) (∃ H'_2, sT 52 H' ⟨b, 0, none⟩ (.slice none 0 0) H'_2 ∧ ∃ H',
 sT 27 H'_2 ⟨b_1, 0, none⟩ (.int .i64 11) H' ∧ ∃ a n c, lD 52 H' ⟨b, 0, none⟩ (.slice a n c) ∧ ∃ n_1, lD 27 H' ⟨b_1, 0, none⟩ (.int .i64 n_1) ∧ R (.tuple ⟨[.slice a n c, .int .i64 n_1]⟩) H') (∀ (b_3
 : Nat) (H'_2 : Heap), New H' b_3 (.cells ⟨[.slice none 0 0]⟩ 52) H'_2 → cV 55 [.string s, .slice a n c] H'_2 fun v_1 H' => ∀ (D l : Nat) (R0 : Loop) (H1 : Heap), NewL H' D l R0 H1 → (∀ (n : Int) (s
 : ByteArray) (H2 : Heap) (K2 : Value → Heap → Prop), Lp H2 l R0 LoopState.ready none → (Lp H2 l R0 LoopState.ready none ∧ CallH Tryz.prog 56 ⟨[.string s]⟩ (setLp H2 l R0 LoopState.busy none) fun v
 H' => ∃ a n_1 c n_2, v = .tuple ⟨[.slice a n_1 c, .int .i64 n_2]⟩ ∧ brB (n_2 != 0) (∃ H'_3, sT 52 H' ⟨b, 0, none⟩ (.slice none 0 0) H'_3 ∧ ∃ H', sT 27 H'_3 ⟨b_1, 0, none⟩ (.int .i64 n_2) H' ∧ Lp H'
 l R0 LoopState.busy none ∧ K2 (.bool false) (setLp H' l R0 LoopState.done (some Code.ret))) (∃ a_2 n_3 c_1, lD 52 H' ⟨b_3, 0, none⟩ (.slice a_2 n_3 c_1) ∧ ∀ (b : Nat) (H'_3 : Heap), New H' b (.cells
 ⟨[.int .i64 n, .slice a n_1 c]⟩ 92) H'_3 → SemWp Tryz.prog (Builtin.append_ ⟨[52, 52]⟩ 52 ⟨[.slice a_2 n_3 c_1, .slice (some ⟨b, 0, none⟩) 1 1]⟩) H'_3 fun v H' => ∃ a n c, v = .slice a n c ∧ ∃ H'_4,
 sT 52 H' ⟨b_3, 0, none⟩ (.slice a n c) H'_4 ∧ Lp H'_4 l R0 LoopState.busy none ∧ K2 (.bool true) (setLp H'_4 l R0 LoopState.ready none))) → YieldH Tryz.prog l [.int .i64 n, .string s] H2 fun a a_2
 => K2 a a_2) → CallV Tryz.prog v_1 [.func (Fn.yield l) ⟨[]⟩ ⟨[]⟩] H1 fun x H4 => (Lp H4 l R0 LoopState.ready none ∧ ∃ a n c, lD 52 (setLp H4 l R0 LoopState.exhausted none) ⟨b_3, 0, none⟩ (.slice a n
 c) ∧ ∃ H', sT 52 (setLp H4 l R0 LoopState.exhausted none) ⟨b, 0, none⟩ (.slice a n c) H' ∧ ∃ H'_3, sT 27 H' ⟨b_1, 0, none⟩ (.int .i64 0) H'_3 ∧ Dq H'_3 D ∧ ∃ a n c, lD 52 (shutD H'_3 D) ⟨b, 0, none⟩
 (.slice a n c) ∧ ∃ n_1, lD 27 (shutD H'_3 D) ⟨b_1, 0, none⟩ (.int .i64 n_1) ∧ R (.tuple ⟨[.slice a n c, .int .i64 n_1]⟩) (shutD H'_3 D)) ∨ Lp H4 l R0 LoopState.done (some Code.ret) ∧ Dq (setLp H4 l
 R0 LoopState.exhausted (some Code.ret)) D ∧ ∃ a n c, lD 52 (shutD (setLp H4 l R0 LoopState.exhausted (some Code.ret)) D) ⟨b, 0, none⟩ (.slice a n c) ∧ ∃ n_1, lD 27 (shutD (setLp H4 l R0
 LoopState.exhausted (some Code.ret)) D) ⟨b_1, 0, none⟩ (.int .i64 n_1) ∧ R (.tuple ⟨[.slice a n c, .int .i64 n_1]⟩) (shutD (setLp H4 l R0 LoopState.exhausted (some Code.ret)) D))) : CallH Tryz.prog
 30 (List.toArray [.string s]) H R := vcS_call (annOf [([0, 1, 0, 1, 1, 1, 1], .cut [(21, .one (.int .i64)), (22, .one .str)])]) followsAll Tryz.func30 rfl Tryz.ntmps30 rfl rfl (Eq.mpr (by
 kernel_rfl) h)
abbrev fn_series_Rows : Nat := 31
theorem vc_series_Rows (l_a : Option Addr) (l_n : Nat) (l_c : Nat) (H : Heap) (R : Value → Heap → Prop) (h : ∃ (I : IV) (μ : MU), I [.slice none 0 0, .int .i64 0] H ∧ ∀ (J : F) (a : Option Addr) (n
 c : Nat) (n_1 : Int) (H' : Heap), I [.slice a n c, .int .i64 n_1] H' → brB (decide (n_1 < (↑l_n : Int))) (ix l_a n_1 l_n fun ad => (∃ n_2 a_2 n_3 c_1, lD 92 H' (Addr.add ad (Int.toNat n_1 * 2))
 (.agg ⟨[.int .i64 n_2, .slice a_2 n_3 c_1]⟩) ∧ ∀ (b : Nat) (H'_1 : Heap), New H' b (.cells ⟨[.int .i64 0, .slice none 0 0]⟩ 92) H'_1 → ∃ H'_2, sT 92 H'_1 ⟨b, 0, none⟩ (.agg ⟨[.int .i64 n_2, .slice
 a_2 n_3 c_1]⟩) H'_2 ∧ ∃ a_4 n_4 c_2, lD 90 H'_2 ⟨b, 1, none⟩ (.slice a_4 n_4 c_2) ∧ ∃ (I_1 : IV) (μ_1 : MU), I_1 [.slice none 0 0, .int .i64 0] H'_2 ∧ ∀ (J : F) (a_5 : Option Addr) (n_5 c_3 : Nat)
 (n_6 : Int) (H'_3 : Heap), I_1 [.slice a_5 n_5 c_3, .int .i64 n_6] H'_3 → brB (decide (n_6 < (↑n_4 : Int))) (ix a_4 n_6 n_4 fun ad => (∃ n n_7, lD 107 H'_3 (Addr.add ad (Int.toNat n_6 * 2)) (.agg
 ⟨[.int .i64 n, .int .i64 n_7]⟩) ∧ ∀ (b_1 : Nat) (H' : Heap), New H'_3 b_1 (.cells ⟨[.int .i64 0, .int .i64 0]⟩ 107) H' → ∃ H'_4, sT 107 H' ⟨b_1, 0, none⟩ (.agg ⟨[.int .i64 n, .int .i64 n_7]⟩) H'_4 ∧
 ∃ n, lD 3 H'_4 ⟨b_1, 0, none⟩ (.int .i64 n) ∧ ∃ n_8, lD 3 H'_4 ⟨b, 0, none⟩ (.int .i64 n_8) ∧ ∃ n_9, lD 3 H'_4 ⟨b_1, 1, none⟩ (.int .i64 n_9) ∧ ∀ (b : Nat) (H' : Heap), New H'_4 b (.cells ⟨[.int
 .i64 n, .int .i64 n_8, .int .i64 n_9]⟩ 26) H' → SemWp Tryz.prog (Builtin.append_ ⟨[22, 22]⟩ 22 ⟨[.slice a_5 n_5 c_3, .slice (some ⟨b, 0, none⟩) 1 1]⟩) H' fun v H' => ∃ a n c, v = .slice a n c ∧ I_1
 [.slice a n c, .int .i64 (IntKind.wrap .i64 (n_6 + 1))] H' ∧ μ_1 [.slice a n c, .int .i64 (IntKind.wrap .i64 (n_6 + 1))] H' < μ_1 [.slice a_5 n_5 c_3, .int .i64 n_6] H'_3)) (cL 57 [.slice a n c,
 .slice a_5 n_5 c_3, .func (Fn.func 58) ⟨[]⟩ ⟨[]⟩] H'_3 fun a_7 n_7 c_4 H'_4 => I [.slice a_7 n_7 c_4, .int .i64 (IntKind.wrap .i64 (n_1 + 1))] H'_4 ∧ μ [.slice a_7 n_7 c_4, .int .i64 (IntKind.wrap
 .i64 (n_1 + 1))] H'_4 < μ [.slice a n c, .int .i64 n_1] H'))) (R (.slice a n c) H')) : CallH Tryz.prog 31 (List.toArray [.slice l_a l_n l_c]) H R := vc_call (annOf [([0, 1, 0, 1, 1], .cut [(3, .one
 .slice), (11, .one (.int .i64))]), ([0, 1, 0, 1, 1, 0, 0, 1, 1, 0, 0, 1, 0, 1, 1], .cut [(6, .one .slice), (18, .one (.int .i64))])]) followsAll Tryz.func31 rfl Tryz.ntmps31 rfl rfl (Eq.mpr (by
 kernel_rfl) h)
abbrev fn_runs_Decode : Nat := 32
theorem vc_runs_Decode (s : ByteArray) (H : Heap) (R : Value → Heap → Prop) (h : cH 59 ⟨[.string s, .agg ⟨[.int .i64 0, .int .i64 1099511627776]⟩]⟩ H fun v H' => ∃ a n c n_1, v = .tuple ⟨[.slice a n
 c, .int .i64 n_1]⟩ ∧ brB (n_1 != 0) (R (.tuple ⟨[.slice none 0 0, .int .i64 n_1]⟩) H') (cH 28 ⟨[.slice a n c]⟩ H' fun v H' => ∃ s_1 n_2, v = .tuple ⟨[.string s_1, .int .i64 n_2]⟩ ∧ brB (n_2 != 0) (R
 (.tuple ⟨[.slice none 0 0, .int .i64 11]⟩) H') (brB (!ByteArray.toList s_1 == ByteArray.toList s) (R (.tuple ⟨[.slice none 0 0, .int .i64 11]⟩) H') (R (.tuple ⟨[.slice a n c, .int .i64 0]⟩) H')))) :
 CallH Tryz.prog 32 (List.toArray [.string s]) H R := vc_call (annOf []) followsAll Tryz.func32 rfl Tryz.ntmps32 rfl rfl (Eq.mpr (by kernel_rfl) h)
abbrev fn_ref13_Fine : Nat := 38
theorem vc_ref13_Fine (rows_a : Option Addr) (rows_n : Nat) (rows_c : Nat) (H : Heap) (R : Value → Heap → Prop) (h : ∃ (I : IV) (μ : MU), I [.int .i64 1] H ∧ ∀ (J : F) (n : Int) (H' : Heap), I [.int
 .i64 n] H' → brB (decide (n < (↑rows_n : Int))) (ix rows_a n rows_n fun ad => (∃ n_1 n_2 n_3, lD 26 H' (Addr.add ad (Int.toNat n * 3)) (.agg ⟨[.int .i64 n_1, .int .i64 n_2, .int .i64 n_3]⟩) ∧ ix
 rows_a (IntKind.wrap .i64 (n - 1)) rows_n fun ad => (∃ n_4 n_5 n_6, lD 26 H' (Addr.add ad (Int.toNat (IntKind.wrap .i64 (n - 1)) * 3)) (.agg ⟨[.int .i64 n_4, .int .i64 n_5, .int .i64 n_6]⟩) ∧ cB 24
 [.agg ⟨[.int .i64 n_1, .int .i64 n_2, .int .i64 n_3]⟩, .agg ⟨[.int .i64 n_4, .int .i64 n_5, .int .i64 n_6]⟩] H' fun b H'_1 => brB (!b) (R (.bool false) H'_1) (I [.int .i64 (IntKind.wrap .i64 (n +
 1))] H'_1 ∧ μ [.int .i64 (IntKind.wrap .i64 (n + 1))] H'_1 < μ [.int .i64 n] H')))) (R (.bool true) H')) : CallH Tryz.prog 38 (List.toArray [.slice rows_a rows_n rows_c]) H R := vc_call (annOf [([0,
 1, 0, 1], .cut [(3, .one (.int .i64))]), ([0, 0, 0, 1, 0, 0, 1, 0, 1], .tail 9)]) followsAll Tryz.func38 rfl Tryz.ntmps38 rfl rfl (Eq.mpr (by kernel_rfl) h)
abbrev fn_ref15_Encode : Nat := 39
theorem vc_ref15_Encode (l_a : Option Addr) (l_n : Nat) (l_c : Nat) (H : Heap) (R : Value → Heap → Prop) (h : cB 64 [.slice l_a l_n l_c] H fun b H' => brB (!b) (R (.tuple ⟨[.string { data := #[] },
 .int .i64 30]⟩) H') (cS 65 [.int .u64 (IntKind.wrap .u64 (↑l_n : Int))] H' fun s H' => ∃ (I : IV) (μ : MU), I [.string s, .string { data := #[] }, .int .i64 0] H' ∧ ∀ (J : F) (s s_1 : ByteArray) (n
 : Int) (H' : Heap), I [.string s, .string s_1, .int .i64 n] H' → brB (decide (n < (↑l_n : Int))) (∃ (M : IV), (ix l_a n l_n fun ad => (∃ a n_1 c, lD 90 H' (Addr.add (Addr.add ad (Int.toNat n * 2))
 1) (.slice a n_1 c) ∧ cH 66 ⟨[.slice a n_1 c]⟩ H' fun v H' => ∃ s_2 n_2, v = .tuple ⟨[.string s_2, .int .i64 n_2]⟩ ∧ ∃ (M_1 : IV), brB (n_2 != 0) (R (.tuple ⟨[.string { data := #[] }, .int .i64
 30]⟩) H') (ix l_a n l_n fun ad => (∃ n_3, lD 3 H' (Addr.add ad (Int.toNat n * 2)) (.int .i64 n_3) ∧ brB (decide (n_3 < 0)) (R (.tuple ⟨[.string { data := #[] }, .int .i64 30]⟩) H') (ix l_a n l_n fun
 ad => (∃ n_4, lD 3 H' (Addr.add ad (Int.toNat n * 2)) (.int .i64 n_4) ∧ brB (decide (n_4 ≥ 200)) (R (.tuple ⟨[.string { data := #[] }, .int .i64 30]⟩) H') (M_1 [] H'))))) ∧ ∀ (J : F) (H' : Heap),
 M_1 [] H' → ix l_a n l_n fun ad => (∃ n_3, lD 3 H' (Addr.add ad (Int.toNat n * 2)) (.int .i64 n_3) ∧ cS 65 [.int .u64 (IntKind.wrap .u64 n_3)] H' fun s_3 H' => chk (decide (ByteArray.size s +
 ByteArray.size s_3 ≤ 9223372036854775807)) (cS 65 [.int .u64 (IntKind.wrap .u64 (↑(ByteArray.size s_2) : Int))] H' fun s_4 H' => chk (decide (ByteArray.size (s ++ s_3) + ByteArray.size s_4 ≤
 9223372036854775807)) (chk (decide (ByteArray.size s_1 + ByteArray.size s_2 ≤ 9223372036854775807)) (M [.string (s ++ s_3 ++ s_4), .string (s_1 ++ s_2)] H')))))) ∧ ∀ (J : F) (s_2 s_3 : ByteArray)
 (H'_1 : Heap), M [.string s_2, .string s_3] H'_1 → I [.string s_2, .string s_3, .int .i64 (IntKind.wrap .i64 (n + 1))] H'_1 ∧ μ [.string s_2, .string s_3, .int .i64 (IntKind.wrap .i64 (n + 1))] H'_1
 < μ [.string s, .string s_1, .int .i64 n] H') (chk (decide (ByteArray.size s + ByteArray.size s_1 ≤ 9223372036854775807)) (R (.tuple ⟨[.string (s ++ s_1), .int .i64 0]⟩) H')))) : CallH Tryz.prog 39
 (List.toArray [.slice l_a l_n l_c]) H R := vc_call (annOf [([0, 1, 0, 1, 1, 1, 1], .cut [(4, .one .str), (5, .one .str), (6, .one (.int .i64))]), ([1, 0, 0, 1, 0, 1, 1, 1, 1], .cut [(4, .one .str),
 (5, .one .str)]), ([1, 0, 0, 1, 0, 0, 1, 0, 1, 1, 1, 1], .cut [])]) followsAll Tryz.func39 rfl Tryz.ntmps39 rfl rfl (Eq.mpr (by kernel_rfl) h)
abbrev fn_ref13_Split : Nat := 40
theorem vc_ref13_Split (rows_a : Option Addr) (rows_n : Nat) (rows_c : Nat) (H : Heap) (R : Value → Heap → Prop) (h : cL 67 [.slice none 0 0, .slice rows_a rows_n rows_c] H fun a n c H' => R (.slice
 a n c) H') : CallH Tryz.prog 40 (List.toArray [.slice rows_a rows_n rows_c]) H R := vc_call (annOf []) followsAll Tryz.func40 rfl Tryz.ntmps40 rfl rfl (Eq.mpr (by kernel_rfl) h)
abbrev fn_ref16_Encode : Nat := 41
theorem vc_ref16_Encode (rows_a : Option Addr) (rows_n : Nat) (rows_c : Nat) (H : Heap) (R : Value → Heap → Prop) (h : ∃ (M : IV), (cB 38 [.slice rows_a rows_n rows_c] H fun b H' => brB (!b) (R
 (.tuple ⟨[.string { data := #[] }, .int .i64 30]⟩) H') (brB (decide ((↑rows_n : Int) > 5000)) (R (.tuple ⟨[.string { data := #[] }, .int .i64 30]⟩) H') (M [] H'))) ∧ ∀ (J : F) (H' : Heap), M [] H' →
 ∃ (I : IV) (μ : MU), I [.int .i64 0] H' ∧ ∀ (J : F) (n : Int) (H' : Heap), I [.int .i64 n] H' → brB (decide (n < (↑rows_n : Int))) (∃ (M : IV), (∃ (M_1 : IV), (ix rows_a n rows_n fun ad => (∃ n_1,
 lD 3 H' (Addr.add ad (Int.toNat n * 3)) (.int .i64 n_1) ∧ brB (decide (n_1 < 0)) (M_1 [.bool true] H') (ix rows_a n rows_n fun ad => (∃ n_2, lD 3 H' (Addr.add ad (Int.toNat n * 3)) (.int .i64 n_2) ∧
 brB (decide (n_2 ≥ 1099511627776)) (M_1 [.bool true] H') (ix rows_a n rows_n fun ad => (∃ n_3, lD 3 H' (Addr.add (Addr.add ad (Int.toNat n * 3)) 1) (.int .i64 n_3) ∧ brB (decide (n_3 < 0)) (M_1
 [.bool true] H') (ix rows_a n rows_n fun ad => (∃ n_4, lD 3 H' (Addr.add (Addr.add ad (Int.toNat n * 3)) 1) (.int .i64 n_4) ∧ M_1 [.bool (decide (n_4 ≥ 200))] H')))))))) ∧ ∀ (J : F) (b : Bool) (H' :
 Heap), M_1 [.bool b] H' → brB b (R (.tuple ⟨[.string { data := #[] }, .int .i64 30]⟩) H') (M [] H')) ∧ ∀ (J : F) (H'_1 : Heap), M [] H'_1 → I [.int .i64 (IntKind.wrap .i64 (n + 1))] H'_1 ∧ μ [.int
 .i64 (IntKind.wrap .i64 (n + 1))] H'_1 < μ [.int .i64 n] H') (cS 68 [.int .i64 (↑rows_n : Int)] H' fun s H' => ∃ (I : IV) (μ : MU), I [.string s, .string { data := #[] }, .int .i64 0] H' ∧ ∀ (J : F)
 (s s_1 : ByteArray) (n : Int) (H' : Heap), I [.string s, .string s_1, .int .i64 n] H' → brB (decide (n < (↑rows_n : Int))) (chk (decide (0 ≤ n ∧ (n ≤ if (↑rows_n : Int) < IntKind.wrap .i64 (n + 16)
 then (↑rows_n : Int) else IntKind.wrap .i64 (n + 16)) ∧ (if (↑rows_n : Int) < IntKind.wrap .i64 (n + 16) then (↑rows_n : Int) else IntKind.wrap .i64 (n + 16)) ≤ (↑rows_c : Int))) (cS 69 [.slice (slA
 rows_c (Int.toNat n) 3 rows_a) (Int.toNat (if (↑rows_n : Int) < IntKind.wrap .i64 (n + 16) then (↑rows_n : Int) else IntKind.wrap .i64 (n + 16)) - Int.toNat n) (rows_c - Int.toNat n)] H' fun s_2
 H'_1 => exSome (slA rows_c (Int.toNat n) 3 rows_a) fun ad => chk (decide ((0 : Int) ≤ (0 : Int) ∧ 0 < (↑(Int.toNat (if (↑rows_n : Int) < IntKind.wrap .i64 (n + 16) then (↑rows_n : Int) else
 IntKind.wrap .i64 (n + 16)) - Int.toNat n) : Int))) (∃ n_1, lD 3 H'_1 ad (.int .i64 n_1) ∧ exSome (slA rows_c (Int.toNat n) 3 rows_a) fun ad => chk (decide (0 ≤ IntKind.wrap .i64 ((↑(Int.toNat (if
 (↑rows_n : Int) < IntKind.wrap .i64 (n + 16) then (↑rows_n : Int) else IntKind.wrap .i64 (n + 16)) - Int.toNat n) : Int) - 1) ∧ IntKind.wrap .i64 ((↑(Int.toNat (if (↑rows_n : Int) < IntKind.wrap
 .i64 (n + 16) then (↑rows_n : Int) else IntKind.wrap .i64 (n + 16)) - Int.toNat n) : Int) - 1) < (↑(Int.toNat (if (↑rows_n : Int) < IntKind.wrap .i64 (n + 16) then (↑rows_n : Int) else IntKind.wrap
 .i64 (n + 16)) - Int.toNat n) : Int))) (∃ n_2, lD 3 H'_1 (Addr.add ad (Int.toNat (IntKind.wrap .i64 ((↑(Int.toNat (if (↑rows_n : Int) < IntKind.wrap .i64 (n + 16) then (↑rows_n : Int) else
 IntKind.wrap .i64 (n + 16)) - Int.toNat n) : Int) - 1)) * 3)) (.int .i64 n_2) ∧ exSome (slA rows_c (Int.toNat n) 3 rows_a) fun ad_1 => chk (decide ((0 : Int) ≤ (0 : Int) ∧ 0 < (↑(Int.toNat (if
 (↑rows_n : Int) < IntKind.wrap .i64 (n + 16) then (↑rows_n : Int) else IntKind.wrap .i64 (n + 16)) - Int.toNat n) : Int))) (∃ n_3, lD 3 H'_1 ad_1 (.int .i64 n_3) ∧ cS 68 [.int .i64 n_1] H'_1 fun s_3
 H'_2 => lD 3 H'_2 ad_1 (.int .i64 n_3) ∧ lD 3 H'_2 (Addr.add ad (Int.toNat (IntKind.wrap .i64 ((↑(Int.toNat (if (↑rows_n : Int) < IntKind.wrap .i64 (n + 16) then (↑rows_n : Int) else IntKind.wrap
 .i64 (n + 16)) - Int.toNat n) : Int) - 1)) * 3)) (.int .i64 n_2) ∧ chk (decide (ByteArray.size s + ByteArray.size s_3 ≤ 9223372036854775807)) (cS 68 [.int .i64 (IntKind.wrap .i64 (n_2 - n_3))] H'_2
 fun s_4 H'_3 => chk (decide (ByteArray.size (s ++ s_3) + ByteArray.size s_4 ≤ 9223372036854775807)) (cS 68 [.int .i64 (↑(ByteArray.size s_2) : Int)] H'_3 fun s_5 H'_4 => chk (decide (ByteArray.size
 (s ++ s_3 ++ s_4) + ByteArray.size s_5 ≤ 9223372036854775807)) (chk (decide (ByteArray.size s_1 + ByteArray.size s_2 ≤ 9223372036854775807)) (I [.string (s ++ s_3 ++ s_4 ++ s_5), .string (s_1 ++
 s_2), .int .i64 (IntKind.wrap .i64 (n + 16))] H'_4 ∧ μ [.string (s ++ s_3 ++ s_4 ++ s_5), .string (s_1 ++ s_2), .int .i64 (IntKind.wrap .i64 (n + 16))] H'_4 < μ [.string s, .string s_1, .int .i64 n]
 H'))))))))) (chk (decide (ByteArray.size s + ByteArray.size s_1 ≤ 9223372036854775807)) (R (.tuple ⟨[.string (s ++ s_1), .int .i64 0]⟩) H')))) : CallH Tryz.prog 41 (List.toArray [.slice rows_a
 rows_n rows_c]) H R := vc_call (annOf [([1], .cut []), ([0, 1, 0, 1, 1], .cut [(4, .one (.int .i64))]), ([1, 0, 0, 1, 0, 1, 1], .cut []), ([0, 0, 1, 0, 0, 1, 0, 1, 1], .cut [(53, .one .bool)]), ([0,
 1, 0, 1, 1, 1, 1, 1], .cut [(5, .one .str), (6, .one .str), (7, .one (.int .i64))]), ([0, 1, 1, 0, 0, 1, 0, 0, 1, 0, 1, 1, 1, 1, 1], .reg [0, 0, 2, 6, 14, 30, 63, 0, 0, 256, 768, 1920, 3968, 8064,
 0, 16384, 49152, 114688, 262016, 524222, 1048575, 0, 2097152, 7339966, 16777215, 33554431] (.quiet 0 (.quiet 1 (.quiet 2 (.quiet 3 (.quiet 4 (.quiet 7 (.quiet 8 (.quiet 9 (.quiet 10 (.quiet 11
 (.quiet 12 (.quiet 13 (.quiet 14 (.quiet 15 (.quiet 16 (.quiet 17 (.quiet 18 (.quiet 21 (.quiet 22 (.pick (.alt 5 (.quiet 6 (.pick (.alt 19 (.quiet 20 (.pick (.alt 23 (.quiet 24 (.quiet 25 .done))
 .stop))) .stop))) .stop))))))))))))))))))))))]) followsAll Tryz.func41 rfl Tryz.ntmps41 rfl rfl (Eq.mpr (by kernel_rfl) h)
theorem vc_convert_Begin_1 (a0 : Addr) (H : Heap) (R : Value → Heap → Prop) (h : ∃ a n c, lD 73 H a0 (.slice a n c) ∧ ix a (0) n fun ad => (∃ a n c, lD 22 H ad (.slice a n c) ∧ ∃ a_1 n_1 c_1, lD 73
 H a0 (.slice a_1 n_1 c_1) ∧ chk (decide ((0 : Int) ≤ (1 : Int) ∧ 1 ≤ (↑n_1 : Int) ∧ (↑n_1 : Int) ≤ (↑c_1 : Int))) (∃ H', sT 73 H a0 (.slice (slA c_1 1 1 a_1) (Int.toNat (↑n_1 : Int) - 1) (c_1 - 1))
 H' ∧ R (.slice a n c) H'))) : CallH Tryz.prog 42 (List.toArray [.pointer (some a0)]) H R := vc_call (annOf []) followsAll Tryz.func42 rfl Tryz.ntmps42 rfl rfl (Eq.mpr (by kernel_rfl) h)
abbrev fn_series_Put : Nat := 43
theorem vc_series_Put (l_a : Option Addr) (l_n : Nat) (l_c : Nat) (rows_a : Option Addr) (rows_n : Nat) (rows_c : Nat) (H : Heap) (R : Value → Heap → Prop) (h : ∀ (b : Nat) (H' : Heap), New H b
 (.map ⟨[]⟩ 0) H' → ∃ (I : IV) (μ : MU), I [.int .i64 0] H' ∧ ∀ (J : F) (n : Int) (H' : Heap), I [.int .i64 n] H' → brB (decide (n < (↑rows_n : Int))) (ix rows_a n rows_n fun ad => (∃ n_1 n_2 n_3, lD
 26 H' (Addr.add ad (Int.toNat n * 3)) (.agg ⟨[.int .i64 n_1, .int .i64 n_2, .int .i64 n_3]⟩) ∧ ∀ (b_1 : Nat) (H'_1 : Heap), New H' b_1 (.cells ⟨[.int .i64 0, .int .i64 0, .int .i64 0]⟩ 26) H'_1 → ∃
 H'_2, sT 26 H'_1 ⟨b_1, 0, none⟩ (.agg ⟨[.int .i64 n_1, .int .i64 n_2, .int .i64 n_3]⟩) H'_2 ∧ ∃ n_4, lD 3 H'_2 ⟨b_1, 1, none⟩ (.int .i64 n_4) ∧ ∃ n_5, lD 3 H'_2 ⟨b_1, 1, none⟩ (.int .i64 n_5) ∧ ∃ a
 n_6 c, Rd Tryz.prog (Instr.lookup 123 (.map (some b)) (.int .i64 n_5) false) H'_2 (.slice a n_6 c) ∧ ∃ n_7, lD 3 H'_2 ⟨b_1, 0, none⟩ (.int .i64 n_7) ∧ ∃ n_8, lD 3 H'_2 ⟨b_1, 2, none⟩ (.int .i64 n_8)
 ∧ ∀ (b_2 : Nat) (H'_3 : Heap), New H'_2 b_2 (.cells ⟨[.int .i64 n_7, .int .i64 n_8]⟩ 107) H'_3 → Rd Tryz.prog (Instr.lookup 123 (.map (some b)) (.int .i64 n_5) false) H'_3 (.slice a n_6 c) ∧ lD 3
 H'_3 ⟨b_1, 1, none⟩ (.int .i64 n_5) ∧ lD 3 H'_3 ⟨b_1, 1, none⟩ (.int .i64 n_4) ∧ SemWp Tryz.prog (Builtin.append_ ⟨[90, 90]⟩ 90 ⟨[.slice a n_6 c, .slice (some ⟨b_2, 0, none⟩) 1 1]⟩) H'_3 fun v H'_4
 => ∃ a n_9 c, v = .slice a n_9 c ∧ lD 3 H'_4 ⟨b_1, 1, none⟩ (.int .i64 n_4) ∧ SemU Tryz.prog (Instr.mapUpdate 123 (.map (some b)) (.int .i64 n_4) (.slice a n_9 c)) H'_4 fun H'_5 => I [.int .i64
 (IntKind.wrap .i64 (n + 1))] H'_5 ∧ μ [.int .i64 (IntKind.wrap .i64 (n + 1))] H'_5 < μ [.int .i64 n] H')) (SemWp Tryz.prog (Instr.range 123 (.map (some b))) H' fun v H' => ∃ a, v = .pointer a ∧ ∃ (I
 : IV) (μ : MU), I [.slice none 0 0] H' ∧ ∀ (J : F) (a_1 : Option Addr) (n c : Nat) (H' : Heap), I [.slice a_1 n c] H' → SemWp Tryz.prog (Instr.next (.pointer a) false 0) H' fun v H'_1 => (v = .tuple
 ⟨[.bool false]⟩ ∧ cU 77 [.slice a_1 n c, .func (Fn.func 75) ⟨[]⟩ ⟨[]⟩] H'_1 fun H' => ∃ (I : IV) (μ : MU), I [.int .i64 0] H' ∧ ∀ (J : F) (n_1 : Int) (H' : Heap), I [.int .i64 n_1] H' → brB (decide
 (n_1 < (↑n : Int))) (ix a_1 n_1 n fun ad => (∃ n_2 a n_3 c, lD 92 H' (Addr.add ad (Int.toNat n_1 * 2)) (.agg ⟨[.int .i64 n_2, .slice a n_3 c]⟩) ∧ cH 78 ⟨[.slice l_a l_n l_c, .agg ⟨[.int .i64 n_2,
 .slice a n_3 c]⟩, .func (Fn.func 75) ⟨[]⟩ ⟨[]⟩]⟩ H' fun v H'_2 => ∃ n_4 b, v = .tuple ⟨[.int .i64 n_4, .bool b]⟩ ∧ brB b (ix l_a n_4 l_n fun ad => (∃ a n_5 c, lD 90 H'_2 (Addr.add (Addr.add ad
 (Int.toNat n_4 * 2)) 1) (.slice a n_5 c) ∧ ix a_1 n_1 n fun ad => (∃ a_3 n_6 c_1, lD 90 H'_2 (Addr.add (Addr.add ad (Int.toNat n_1 * 2)) 1) (.slice a_3 n_6 c_1) ∧ cL 79 [.slice a n_5 c, .slice a_3
 n_6 c_1] H'_2 fun a n_7 c H'_3 => ix a_1 n_1 n fun ad => (∃ H'_4, sT 90 H'_3 (Addr.add (Addr.add ad (Int.toNat n_1 * 2)) 1) (.slice a n_7 c) H'_4 ∧ I [.int .i64 (IntKind.wrap .i64 (n_1 + 1))] H'_4 ∧
 μ [.int .i64 (IntKind.wrap .i64 (n_1 + 1))] H'_4 < μ [.int .i64 n_1] H')))) (I [.int .i64 (IntKind.wrap .i64 (n_1 + 1))] H'_2 ∧ μ [.int .i64 (IntKind.wrap .i64 (n_1 + 1))] H'_2 < μ [.int .i64 n_1]
 H'))) (cL 80 [.slice l_a l_n l_c, .slice a_1 n c, .func (Fn.func 75) ⟨[]⟩ ⟨[]⟩] H' fun a n c H' => ∃ (I : IV) (μ : MU), I [.int .i64 0] H' ∧ ∀ (J : F) (n_2 : Int) (H' : Heap), I [.int .i64 n_2] H' →
 brB (decide (n_2 < (↑n : Int))) (ix a n_2 n fun ad => (∃ a_4 n_3 c, lD 90 H' (Addr.add (Addr.add ad (Int.toNat n_2 * 2)) 1) (.slice a_4 n_3 c) ∧ cL 81 [.slice a_4 n_3 c] H' fun a_5 n_4 c H'_2 => ix
 a n_2 n fun ad => (∃ H'_3, sT 90 H'_2 (Addr.add (Addr.add ad (Int.toNat n_2 * 2)) 1) (.slice a_5 n_4 c) H'_3 ∧ I [.int .i64 (IntKind.wrap .i64 (n_2 + 1))] H'_3 ∧ μ [.int .i64 (IntKind.wrap .i64 (n_2
 + 1))] H'_3 < μ [.int .i64 n_2] H'))) (R (.slice a n c) H'))) ∨ ∃ k x, v = .tuple ⟨[.bool true, k, x]⟩ ∧ SemWp Tryz.prog (Instr.entry (.pointer a)) H'_1 fun v H'_2 => ∃ k x, v = .tuple ⟨[k, x]⟩ ∧ ∃
 n_1, k = .int .i64 n_1 ∧ ∃ a n_2 c_1, x = .slice a n_2 c_1 ∧ cU 70 [.slice a n_2 c_1] H'_2 fun H'_3 => cU 71 [.slice a n_2 c_1, .func (Fn.func 72) ⟨[]⟩ ⟨[]⟩] H'_3 fun H'_4 => cL 73 [.slice a n_2
 c_1, .func (Fn.func 74) ⟨[]⟩ ⟨[]⟩] H'_4 fun a n_3 c_2 H'_5 => ∀ (b : Nat) (H'_6 : Heap), New H'_5 b (.cells ⟨[.int .i64 n_1, .slice a n_3 c_2]⟩ 92) H'_6 → SemWp Tryz.prog (Builtin.append_ ⟨[52, 52]⟩
 52 ⟨[.slice a_1 n c, .slice (some ⟨b, 0, none⟩) 1 1]⟩) H'_6 fun v H'_7 => ∃ a n_4 c_3, v = .slice a n_4 c_3 ∧ I [.slice a n_4 c_3] H'_7 ∧ μ [.slice a n_4 c_3] H'_7 < μ [.slice a_1 n c] H')) : CallH
 Tryz.prog 43 (List.toArray [.slice l_a l_n l_c, .slice rows_a rows_n rows_c]) H R := vc_call (annOf [([0, 1, 0, 1, 1], .cut [(20, .one (.int .i64))]), ([1, 0, 0, 1, 1, 0, 0, 1, 0, 1, 1], .reg [0, 0,
 2, 0, 0, 16, 56, 0, 128, 0, 512, 1920, 3968, 8184, 16383] (.quiet 0 (.quiet 1 (.quiet 2 (.quiet 3 (.quiet 4 (.quiet 5 (.quiet 6 (.quiet 7 (.quiet 8 (.quiet 9 (.quiet 10 (.quiet 11 (.pick (.alt 12
 (.pick (.alt 13 (.pick (.alt 14 (.done) .stop)) .stop)) .stop))))))))))))))), ([0, 1, 0, 1, 1, 1, 1], .cut [(8, .one .slice)]), ([0, 0, 1, 1, 0, 0, 1, 0, 1, 1, 1, 1], .ext), ([0, 1, 0, 1, 1, 1, 1,
 1, 1, 1], .cut [(63, .one (.int .i64))]), ([0, 1, 1, 1, 0, 0, 1, 1, 0, 0, 1, 0, 1, 1, 1, 1, 1, 1, 1], .reg [0, 0, 0, 0, 12, 28, 60, 0, 0, 384, 896, 1920, 4092, 8191, 16383, 32767] (.quiet 0 (.quiet
 1 (.quiet 2 (.quiet 3 (.quiet 4 (.quiet 5 (.quiet 6 (.quiet 7 (.quiet 8 (.quiet 9 (.quiet 10 (.quiet 11 (.pick (.alt 12 (.quiet 13 (.quiet 14 (.pick (.alt 15 (.done) .stop)))) .stop))))))))))))))),
 ([0, 1, 0, 1, 1, 1, 1, 1, 1, 1, 1, 1], .cut [(99, .one (.int .i64))])]) followsAll Tryz.func43 rfl Tryz.ntmps43 rfl rfl (Eq.mpr (by kernel_rfl) h)
abbrev fn_strings_Builder_WriteString : Nat := 44
theorem vc_strings_Builder_WriteString (b : Addr) (s : ByteArray) (H : Heap) (R : Value → Heap → Prop) (h : cU 82 [.pointer (some b)] H fun H' => ∃ a n c, lD 81 H' (Addr.add b 1) (.slice a n c) ∧
 SemWp Tryz.prog (Builtin.append_ ⟨[81, 9]⟩ 81 ⟨[.slice a n c, .string s]⟩) H' fun v H' => ∃ a n c, v = .slice a n c ∧ ∃ H'_1, sT 81 H' (Addr.add b 1) (.slice a n c) H'_1 ∧ R (.tuple ⟨[.int .i64
 (↑(ByteArray.size s) : Int), .nilIface]⟩) H'_1) : CallH Tryz.prog 44 (List.toArray [.pointer (some b), .string s]) H R := vc_call (annOf []) followsAll Tryz.func44 rfl Tryz.ntmps44 rfl rfl (Eq.mpr
 (by kernel_rfl) h)
abbrev fn_zig_Uint : Nat := 45
theorem vc_zig_Uint (n : Int) (H : Heap) (R : Value → Heap → Prop) (h : SemWp Tryz.prog (Instr.makeSlice 81 (.int .i64 0) (.int .i64 10)) H fun v H' => ∃ a n_1 c, v = .slice a n_1 c ∧ ∃ (I : IV) (μ
 : MU), I [.int .u64 n, .slice a n_1 c] H' ∧ ∀ (J : F) (n : Int) (a : Option Addr) (n_2 c : Nat) (H' : Heap), I [.int .u64 n, .slice a n_2 c] H' → brB (decide (n ≥ 128)) (∀ (b : Nat) (H'_1 : Heap),
 New H' b (.cells ⟨[.int .u8 (IntKind.wrap .u8 (↑(BitVec.toNat (BitVec.ofInt 8 (IntKind.wrap .u8 n) ||| BitVec.ofInt 8 128)) : Int))]⟩ 5) H'_1 → SemWp Tryz.prog (Builtin.append_ ⟨[81, 81]⟩ 81
 ⟨[.slice a n_2 c, .slice (some ⟨b, 0, none⟩) 1 1]⟩) H'_1 fun v H'_2 => ∃ a_3 n_3 c_1, v = .slice a_3 n_3 c_1 ∧ I [.int .u64 (Int.fdiv n (2 ^ 7)), .slice a_3 n_3 c_1] H'_2 ∧ μ [.int .u64 (Int.fdiv n
 (2 ^ 7)), .slice a_3 n_3 c_1] H'_2 < μ [.int .u64 n, .slice a n_2 c] H') (∀ (b : Nat) (H'_1 : Heap), New H' b (.cells ⟨[.int .u8 (IntKind.wrap .u8 n)]⟩ 5) H'_1 → SemWp Tryz.prog (Builtin.append_
 ⟨[81, 81]⟩ 81 ⟨[.slice a n_2 c, .slice (some ⟨b, 0, none⟩) 1 1]⟩) H'_1 fun v H' => ∃ a n c, v = .slice a n c ∧ SemWp Tryz.prog (convert 81 9 (.slice a n c)) H' fun v H' => ∃ s, v = .string s ∧ R
 (.string s) H')) : CallH Tryz.prog 45 (List.toArray [.int .u64 n]) H R := vc_call (annOf [([0, 0, 1, 1], .cut [(0, .one (.int .u64)), (3, .one .slice)])]) followsAll Tryz.func45 rfl Tryz.ntmps45 rfl
 rfl (Eq.mpr (by kernel_rfl) h)
abbrev fn_delta_Encode : Nat := 46
theorem vc_delta_Encode (l_a : Option Addr) (l_n : Nat) (l_c : Nat) (H : Heap) (R : Value → Heap → Prop) (h : brB (decide ((↑l_n : Int) > 5000)) (R (.tuple ⟨[.string { data := #[] }, .int .i64 1]⟩)
 H) (∃ (I : IV) (μ : MU), I [.int .i64 (-1 : Int), .int .i64 0] H ∧ ∀ (J : F) (n n_1 : Int) (H' : Heap), I [.int .i64 n, .int .i64 n_1] H' → brB (decide (n_1 < (↑l_n : Int))) (ix l_a n_1 l_n fun ad
 => (∃ n_2 n_3, lD 107 H' (Addr.add ad (Int.toNat n_1 * 2)) (.agg ⟨[.int .i64 n_2, .int .i64 n_3]⟩) ∧ ∀ (b : Nat) (H'_1 : Heap), New H' b (.cells ⟨[.int .i64 0, .int .i64 0]⟩ 107) H'_1 → ∃ H'_2, sT
 107 H'_1 ⟨b, 0, none⟩ (.agg ⟨[.int .i64 n_2, .int .i64 n_3]⟩) H'_2 ∧ ∃ n_4, lD 3 H'_2 ⟨b, 0, none⟩ (.int .i64 n_4) ∧ brB (decide (n_4 ≤ n)) (R (.tuple ⟨[.string { data := #[] }, .int .i64 30]⟩)
 H'_2) (∃ n_5, lD 3 H'_2 ⟨b, 0, none⟩ (.int .i64 n_5) ∧ brB (decide (n_5 ≥ 1099511627776)) (R (.tuple ⟨[.string { data := #[] }, .int .i64 30]⟩) H'_2) (∃ n_6, lD 3 H'_2 ⟨b, 0, none⟩ (.int .i64 n_6) ∧
 I [.int .i64 n_6, .int .i64 (IntKind.wrap .i64 (n_1 + 1))] H'_2 ∧ μ [.int .i64 n_6, .int .i64 (IntKind.wrap .i64 (n_1 + 1))] H'_2 < μ [.int .i64 n, .int .i64 n_1] H')))) (cS 45 [.int .u64
 (IntKind.wrap .u64 (↑l_n : Int))] H' fun s H' => brB (decide ((↑l_n : Int) > 0)) (ix l_a (0) l_n fun ad => (∃ n, lD 3 H' ad (.int .i64 n) ∧ ix l_a (0) l_n fun ad => (∃ n_2, lD 3 H' (Addr.add ad 1)
 (.int .i64 n_2) ∧ cS 45 [.int .u64 (IntKind.wrap .u64 n)] H' fun s_1 H' => lD 3 H' (Addr.add ad 1) (.int .i64 n_2) ∧ cS 51 [.int .i64 n_2] H' fun s_2 H' => chk (decide (ByteArray.size s_1 +
 ByteArray.size s_2 ≤ 9223372036854775807)) (chk (decide (ByteArray.size s + ByteArray.size (s_1 ++ s_2) ≤ 9223372036854775807)) (brB (decide ((↑l_n : Int) < 2)) (R (.tuple ⟨[.string (s ++ (s_1 ++
 s_2)), .int .i64 0]⟩) H') (∀ (b : Nat) (H'_1 : Heap), New H' b (.cells ⟨[.slice none 0 0]⟩ 138) H'_1 → ∀ (b_1 : Nat) (H' : Heap), New H'_1 b_1 (.cells ⟨[.slice none 0 0]⟩ 138) H' → cV 83 [.slice l_a
 l_n l_c] H' fun v_1 H' => ∀ (D l : Nat) (R0 : Loop) (H1 : Heap), NewL H' D l R0 H1 → (∀ (n n_3 : Int) (H2 : Heap) (K2 : Value → Heap → Prop), Lp H2 l R0 LoopState.ready none → (Lp H2 l R0
 LoopState.ready none ∧ ∃ a n_4 c, lD 138 (setLp H2 l R0 LoopState.busy none) ⟨b, 0, none⟩ (.slice a n_4 c) ∧ ∃ a_1 n_5 c_1, lD 138 (setLp H2 l R0 LoopState.busy none) ⟨b_1, 0, none⟩ (.slice a_1 n_5
 c_1) ∧ (∀ (b_2 : Nat) (H' : Heap), New (setLp H2 l R0 LoopState.busy none) b_2 (.cells ⟨[.int .u64 n]⟩ 89) H' → lD 138 H' ⟨b_1, 0, none⟩ (.slice a_1 n_5 c_1) ∧ lD 138 H' ⟨b, 0, none⟩ (.slice a n_4
 c) ∧ (SemWp Tryz.prog (Builtin.append_ ⟨[138, 138]⟩ 138 ⟨[.slice a n_4 c, .slice (some ⟨b_2, 0, none⟩) 1 1]⟩) H' fun v H' => ∃ a n c, v = .slice a n c ∧ lD 138 H' ⟨b_1, 0, none⟩ (.slice a_1 n_5 c_1)
 ∧ ∀ (b_3 : Nat) (H'_2 : Heap), New H' b_3 (.cells ⟨[.int .u64 n_3]⟩ 89) H'_2 → lD 138 H'_2 ⟨b_1, 0, none⟩ (.slice a_1 n_5 c_1) ∧ SemWp Tryz.prog (Builtin.append_ ⟨[138, 138]⟩ 138 ⟨[.slice a_1 n_5
 c_1, .slice (some ⟨b_3, 0, none⟩) 1 1]⟩) H'_2 fun v H' => ∃ a_4 n_6 c_2, v = .slice a_4 n_6 c_2 ∧ ∃ H'_3, sT 138 H' ⟨b, 0, none⟩ (.slice a n c) H'_3 ∧ ∃ H', sT 138 H'_3 ⟨b_1, 0, none⟩ (.slice a_4
 n_6 c_2) H' ∧ Lp H' l R0 LoopState.busy none ∧ K2 (.bool true) (setLp H' l R0 LoopState.ready none)) ∧ ∀ (b_3 : Nat) (H'_2 : Heap), New H' b_3 (.cells ⟨[.int .u64 n_3]⟩ 89) H'_2 → lD 138 H'_2 ⟨b_1,
 0, none⟩ (.slice a_1 n_5 c_1) ∧ lD 138 H'_2 ⟨b, 0, none⟩ (.slice a n_4 c) ∧ SemWp Tryz.prog (Builtin.append_ ⟨[138, 138]⟩ 138 ⟨[.slice a n_4 c, .slice (some ⟨b_2, 0, none⟩) 1 1]⟩) H'_2 fun v H' => ∃
 a n c, v = .slice a n c ∧ lD 138 H' ⟨b_1, 0, none⟩ (.slice a_1 n_5 c_1) ∧ SemWp Tryz.prog (Builtin.append_ ⟨[138, 138]⟩ 138 ⟨[.slice a_1 n_5 c_1, .slice (some ⟨b_3, 0, none⟩) 1 1]⟩) H' fun v H' => ∃
 a_4 n_6 c_2, v = .slice a_4 n_6 c_2 ∧ ∃ H'_3, sT 138 H' ⟨b, 0, none⟩ (.slice a n c) H'_3 ∧ ∃ H', sT 138 H'_3 ⟨b_1, 0, none⟩ (.slice a_4 n_6 c_2) H' ∧ Lp H' l R0 LoopState.busy none ∧ K2 (.bool true)
 (setLp H' l R0 LoopState.ready none)) ∧ ∀ (b_2 : Nat) (H' : Heap), New (setLp H2 l R0 LoopState.busy none) b_2 (.cells ⟨[.int .u64 n_3]⟩ 89) H' → lD 138 H' ⟨b_1, 0, none⟩ (.slice a_1 n_5 c_1) ∧ lD
 138 H' ⟨b, 0, none⟩ (.slice a n_4 c) ∧ ∀ (b_3 : Nat) (H'_2 : Heap), New H' b_3 (.cells ⟨[.int .u64 n]⟩ 89) H'_2 → lD 138 H'_2 ⟨b_1, 0, none⟩ (.slice a_1 n_5 c_1) ∧ lD 138 H'_2 ⟨b, 0, none⟩ (.slice a
 n_4 c) ∧ SemWp Tryz.prog (Builtin.append_ ⟨[138, 138]⟩ 138 ⟨[.slice a n_4 c, .slice (some ⟨b_3, 0, none⟩) 1 1]⟩) H'_2 fun v H' => ∃ a n c, v = .slice a n c ∧ lD 138 H' ⟨b_1, 0, none⟩ (.slice a_1 n_5
 c_1) ∧ SemWp Tryz.prog (Builtin.append_ ⟨[138, 138]⟩ 138 ⟨[.slice a_1 n_5 c_1, .slice (some ⟨b_2, 0, none⟩) 1 1]⟩) H' fun v H' => ∃ a_4 n_6 c_2, v = .slice a_4 n_6 c_2 ∧ ∃ H'_3, sT 138 H' ⟨b, 0,
 none⟩ (.slice a n c) H'_3 ∧ ∃ H', sT 138 H'_3 ⟨b_1, 0, none⟩ (.slice a_4 n_6 c_2) H' ∧ Lp H' l R0 LoopState.busy none ∧ K2 (.bool true) (setLp H' l R0 LoopState.ready none)) → YieldH Tryz.prog l
 [.int .u64 n, .int .u64 n_3] H2 fun a a_1 => K2 a a_1) → CallV Tryz.prog v_1 [.func (Fn.yield l) ⟨[]⟩ ⟨[]⟩] H1 fun x H4 => (Lp H4 l R0 LoopState.ready none ∧ ∃ a n c, lD 138 (setLp H4 l R0
 LoopState.exhausted none) ⟨b, 0, none⟩ (.slice a n c) ∧ ∃ a_1 n_3 c_1, lD 138 (setLp H4 l R0 LoopState.exhausted none) ⟨b_1, 0, none⟩ (.slice a_1 n_3 c_1) ∧ CallH Tryz.prog 84 ⟨[.slice a n c]⟩
 (setLp H4 l R0 LoopState.exhausted none) fun v H' => ∃ n, v = .int .i64 n ∧ lD 138 H' ⟨b_1, 0, none⟩ (.slice a_1 n_3 c_1) ∧ cI 84 [.slice a_1 n_3 c_1] H' fun n_4 H' => cP 85 [] H' fun a H' => ∃ a_2
 n_5 c, lD 138 H' ⟨b, 0, none⟩ (.slice a_2 n_5 c) ∧ ∃ (I : IV) (μ : MU), I [.int .i64 0] H' ∧ ∀ (J : F) (n_6 : Int) (H' : Heap), I [.int .i64 n_6] H' → brB (decide (n_6 < (↑n_5 : Int))) (ix a_2 n_6
 n_5 fun ad => (∃ n_7, lD 89 H' (Addr.add ad (Int.toNat n_6 * 1)) (.int .u64 n_7) ∧ cI 86 [.pointer a, .int .u64 n_7, .int .i64 n] H' fun n H'_2 => ∃ a_4 n c, lD 138 H'_2 ⟨b_1, 0, none⟩ (.slice a_4 n
 c) ∧ ix a_4 n_6 n fun ad => (∃ n, lD 89 H'_2 (Addr.add ad (Int.toNat n_6 * 1)) (.int .u64 n) ∧ cI 86 [.pointer a, .int .u64 n, .int .i64 n_4] H'_2 fun n H'_3 => I [.int .i64 (IntKind.wrap .i64 (n_6
 + 1))] H'_3 ∧ μ [.int .i64 (IntKind.wrap .i64 (n_6 + 1))] H'_3 < μ [.int .i64 n_6] H'))) ((∀ (b : Nat) (H'_2 : Heap), New H' b (.cells ⟨[.int .u8 (IntKind.wrap .u8 n), .int .u8 (IntKind.wrap .u8
 n_4)]⟩ 5) H'_2 → (SemWp Tryz.prog (convert 81 9 (.slice (some ⟨b, 0, none⟩) 2 2)) H'_2 fun v H' => ∃ s_3, v = .string s_3 ∧ chk (decide (ByteArray.size (s ++ (s_1 ++ s_2)) + ByteArray.size s_3 ≤
 9223372036854775807)) (cS 87 [.pointer a] H' fun s_4 H' => chk (decide (ByteArray.size (s ++ (s_1 ++ s_2) ++ s_3) + ByteArray.size s_4 ≤ 9223372036854775807)) (Dq H' D ∧ R (.tuple ⟨[.string (s ++
 (s_1 ++ s_2) ++ s_3 ++ s_4), .int .i64 0]⟩) (shutD H' D)))) ∧ cS 87 [.pointer a] H'_2 fun s_3 H' => SemWp Tryz.prog (convert 81 9 (.slice (some ⟨b, 0, none⟩) 2 2)) H' fun v H' => ∃ s_4, v = .string
 s_4 ∧ chk (decide (ByteArray.size (s ++ (s_1 ++ s_2)) + ByteArray.size s_4 ≤ 9223372036854775807)) (chk (decide (ByteArray.size (s ++ (s_1 ++ s_2) ++ s_4) + ByteArray.size s_3 ≤
 9223372036854775807)) (Dq H' D ∧ R (.tuple ⟨[.string (s ++ (s_1 ++ s_2) ++ s_4 ++ s_3), .int .i64 0]⟩) (shutD H' D)))) ∧ cS 87 [.pointer a] H' fun s_3 H' => ∀ (b : Nat) (H'_2 : Heap), New H' b
 (.cells ⟨[.int .u8 (IntKind.wrap .u8 n), .int .u8 (IntKind.wrap .u8 n_4)]⟩ 5) H'_2 → SemWp Tryz.prog (convert 81 9 (.slice (some ⟨b, 0, none⟩) 2 2)) H'_2 fun v H' => ∃ s_4, v = .string s_4 ∧ chk
 (decide (ByteArray.size (s ++ (s_1 ++ s_2)) + ByteArray.size s_4 ≤ 9223372036854775807)) (chk (decide (ByteArray.size (s ++ (s_1 ++ s_2) ++ s_4) + ByteArray.size s_3 ≤ 9223372036854775807)) (Dq H' D
 ∧ R (.tuple ⟨[.string (s ++ (s_1 ++ s_2) ++ s_4 ++ s_3), .int .i64 0]⟩) (shutD H' D))))) ∨ Lp H4 l R0 LoopState.done (some Code.ret) ∧ Dq (setLp H4 l R0 LoopState.exhausted (some Code.ret)) D ∧ R
 (.tuple ⟨[J 2, J 3]⟩) (shutD (setLp H4 l R0 LoopState.exhausted (some Code.ret)) D))))))) (brB (decide ((↑l_n : Int) < 2)) (R (.tuple ⟨[.string s, .int .i64 0]⟩) H') (∀ (b : Nat) (H'_1 : Heap), New
 H' b (.cells ⟨[.slice none 0 0]⟩ 138) H'_1 → ∀ (b_1 : Nat) (H' : Heap), New H'_1 b_1 (.cells ⟨[.slice none 0 0]⟩ 138) H' → cV 83 [.slice l_a l_n l_c] H' fun v_1 H' => ∀ (D l : Nat) (R0 : Loop) (H1 :
 Heap), NewL H' D l R0 H1 → (∀ (n n_2 : Int) (H2 : Heap) (K2 : Value → Heap → Prop), Lp H2 l R0 LoopState.ready none → (Lp H2 l R0 LoopState.ready none ∧ ∃ a n_3 c, lD 138 (setLp H2 l R0
 LoopState.busy none) ⟨b, 0, none⟩ (.slice a n_3 c) ∧ ∃ a_1 n_4 c_1, lD 138 (setLp H2 l R0 LoopState.busy none) ⟨b_1, 0, none⟩ (.slice a_1 n_4 c_1) ∧ (∀ (b_2 : Nat) (H' : Heap), New (setLp H2 l R0
 LoopState.busy none) b_2 (.cells ⟨[.int .u64 n]⟩ 89) H' → lD 138 H' ⟨b_1, 0, none⟩ (.slice a_1 n_4 c_1) ∧ lD 138 H' ⟨b, 0, none⟩ (.slice a n_3 c) ∧ (SemWp Tryz.prog (Builtin.append_ ⟨[138, 138]⟩ 138
 ⟨[.slice a n_3 c, .slice (some ⟨b_2, 0, none⟩) 1 1]⟩) H' fun v H' => ∃ a n c, v = .slice a n c ∧ lD 138 H' ⟨b_1, 0, none⟩ (.slice a_1 n_4 c_1) ∧ ∀ (b_3 : Nat) (H'_2 : Heap), New H' b_3 (.cells
 ⟨[.int .u64 n_2]⟩ 89) H'_2 → lD 138 H'_2 ⟨b_1, 0, none⟩ (.slice a_1 n_4 c_1) ∧ SemWp Tryz.prog (Builtin.append_ ⟨[138, 138]⟩ 138 ⟨[.slice a_1 n_4 c_1, .slice (some ⟨b_3, 0, none⟩) 1 1]⟩) H'_2 fun v
 H' => ∃ a_4 n_5 c_2, v = .slice a_4 n_5 c_2 ∧ ∃ H'_3, sT 138 H' ⟨b, 0, none⟩ (.slice a n c) H'_3 ∧ ∃ H', sT 138 H'_3 ⟨b_1, 0, none⟩ (.slice a_4 n_5 c_2) H' ∧ Lp H' l R0 LoopState.busy none ∧ K2
 (.bool true) (setLp H' l R0 LoopState.ready none)) ∧ ∀ (b_3 : Nat) (H'_2 : Heap), New H' b_3 (.cells ⟨[.int .u64 n_2]⟩ 89) H'_2 → lD 138 H'_2 ⟨b_1, 0, none⟩ (.slice a_1 n_4 c_1) ∧ lD 138 H'_2 ⟨b, 0,
 none⟩ (.slice a n_3 c) ∧ SemWp Tryz.prog (Builtin.append_ ⟨[138, 138]⟩ 138 ⟨[.slice a n_3 c, .slice (some ⟨b_2, 0, none⟩) 1 1]⟩) H'_2 fun v H' => ∃ a n c, v = .slice a n c ∧ lD 138 H' ⟨b_1, 0, none⟩
 (.slice a_1 n_4 c_1) ∧ SemWp Tryz.prog (Builtin.append_ ⟨[138, 138]⟩ 138 ⟨[.slice a_1 n_4 c_1, .slice (some ⟨b_3, 0, none⟩) 1 1]⟩) H' fun v H' => ∃ a_4 n_5 c_2, v = .slice a_4 n_5 c_2 ∧ ∃ H'_3, sT
 138 H' ⟨b, 0, none⟩ (.slice a n c) H'_3 ∧ ∃ H', sT 138 H'_3 ⟨b_1, 0, none⟩ (.slice a_4 n_5 c_2) H' ∧ Lp H' l R0 LoopState.busy none ∧ K2 (.bool true) (setLp H' l R0 LoopState.ready none)) ∧ ∀ (b_2 :
 Nat) (H' : Heap), New (setLp H2 l R0 LoopState.busy none) b_2 (.cells ⟨[.int .u64 n_2]⟩ 89) H' → lD 138 H' ⟨b_1, 0, none⟩ (.slice a_1 n_4 c_1) ∧ lD 138 H' ⟨b, 0, none⟩ (.slice a n_3 c) ∧ ∀ (b_3 :
 Nat) (H'_2 : Heap), New H' b_3 (.cells ⟨[.int .u64 n]⟩ 89) H'_2 → lD 138 H'_2 ⟨b_1, 0, none⟩ (.slice a_1 n_4 c_1) ∧ lD 138 H'_2 ⟨b, 0, none⟩ (.slice a n_3 c) ∧ SemWp Tryz.prog (Builtin.append_
 ⟨[138, 138]⟩ 138 ⟨[.slice a n_3 c, .slice (some ⟨b_3, 0, none⟩) 1 1]⟩) H'_2 fun v H' => ∃ a n c, v = .slice a n c ∧ lD 138 H' ⟨b_1, 0, none⟩ (.slice a_1 n_4 c_1) ∧ SemWp Tryz.prog (Builtin.append_
 ⟨[138, 138]⟩ 138 ⟨[.slice a_1 n_4 c_1, .slice (some ⟨b_2, 0, none⟩) 1 1]⟩) H' fun v H' => ∃ a_4 n_5 c_2, v = .slice a_4 n_5 c_2 ∧ ∃ H'_3, sT 138 H' ⟨b, 0, none⟩ (.slice a n c) H'_3 ∧ ∃ H', sT 138
 H'_3 ⟨b_1, 0, none⟩ (.slice a_4 n_5 c_2) H' ∧ Lp H' l R0 LoopState.busy none ∧ K2 (.bool true) (setLp H' l R0 LoopState.ready none)) → YieldH Tryz.prog l [.int .u64 n, .int .u64 n_2] H2 fun a a_1 =>
 K2 a a_1) → CallV Tryz.prog v_1 [.func (Fn.yield l) ⟨[]⟩ ⟨[]⟩] H1 fun x H4 => (Lp H4 l R0 LoopState.ready none ∧ ∃ a n c, lD 138 (setLp H4 l R0 LoopState.exhausted none) ⟨b, 0, none⟩ (.slice a n c)
 ∧ ∃ a_1 n_2 c_1, lD 138 (setLp H4 l R0 LoopState.exhausted none) ⟨b_1, 0, none⟩ (.slice a_1 n_2 c_1) ∧ CallH Tryz.prog 84 ⟨[.slice a n c]⟩ (setLp H4 l R0 LoopState.exhausted none) fun v H' => ∃ n, v
 = .int .i64 n ∧ lD 138 H' ⟨b_1, 0, none⟩ (.slice a_1 n_2 c_1) ∧ cI 84 [.slice a_1 n_2 c_1] H' fun n_3 H' => cP 85 [] H' fun a H' => ∃ a_2 n_4 c, lD 138 H' ⟨b, 0, none⟩ (.slice a_2 n_4 c) ∧ ∃ (I :
 IV) (μ : MU), I [.int .i64 0] H' ∧ ∀ (J : F) (n_5 : Int) (H' : Heap), I [.int .i64 n_5] H' → brB (decide (n_5 < (↑n_4 : Int))) (ix a_2 n_5 n_4 fun ad => (∃ n_6, lD 89 H' (Addr.add ad (Int.toNat n_5
 * 1)) (.int .u64 n_6) ∧ cI 86 [.pointer a, .int .u64 n_6, .int .i64 n] H' fun n H'_2 => ∃ a_4 n c, lD 138 H'_2 ⟨b_1, 0, none⟩ (.slice a_4 n c) ∧ ix a_4 n_5 n fun ad => (∃ n, lD 89 H'_2 (Addr.add ad
 (Int.toNat n_5 * 1)) (.int .u64 n) ∧ cI 86 [.pointer a, .int .u64 n, .int .i64 n_3] H'_2 fun n H'_3 => I [.int .i64 (IntKind.wrap .i64 (n_5 + 1))] H'_3 ∧ μ [.int .i64 (IntKind.wrap .i64 (n_5 + 1))]
 H'_3 < μ [.int .i64 n_5] H'))) ((∀ (b : Nat) (H'_2 : Heap), New H' b (.cells ⟨[.int .u8 (IntKind.wrap .u8 n), .int .u8 (IntKind.wrap .u8 n_3)]⟩ 5) H'_2 → (SemWp Tryz.prog (convert 81 9 (.slice (some
 ⟨b, 0, none⟩) 2 2)) H'_2 fun v H' => ∃ s_1, v = .string s_1 ∧ chk (decide (ByteArray.size s + ByteArray.size s_1 ≤ 9223372036854775807)) (cS 87 [.pointer a] H' fun s_2 H' => chk (decide
 (ByteArray.size (s ++ s_1) + ByteArray.size s_2 ≤ 9223372036854775807)) (Dq H' D ∧ R (.tuple ⟨[.string (s ++ s_1 ++ s_2), .int .i64 0]⟩) (shutD H' D)))) ∧ cS 87 [.pointer a] H'_2 fun s_1 H' => SemWp
 Tryz.prog (convert 81 9 (.slice (some ⟨b, 0, none⟩) 2 2)) H' fun v H' => ∃ s_2, v = .string s_2 ∧ chk (decide (ByteArray.size s + ByteArray.size s_2 ≤ 9223372036854775807)) (chk (decide
 (ByteArray.size (s ++ s_2) + ByteArray.size s_1 ≤ 9223372036854775807)) (Dq H' D ∧ R (.tuple ⟨[.string (s ++ s_2 ++ s_1), .int .i64 0]⟩) (shutD H' D)))) ∧ cS 87 [.pointer a] H' fun s_1 H' => ∀ (b :
 Nat) (H'_2 : Heap), New H' b (.cells ⟨[.int .u8 (IntKind.wrap .u8 n), .int .u8 (IntKind.wrap .u8 n_3)]⟩ 5) H'_2 → SemWp Tryz.prog (convert 81 9 (.slice (some ⟨b, 0, none⟩) 2 2)) H'_2 fun v H' => ∃
 s_2, v = .string s_2 ∧ chk (decide (ByteArray.size s + ByteArray.size s_2 ≤ 9223372036854775807)) (chk (decide (ByteArray.size (s ++ s_2) + ByteArray.size s_1 ≤ 9223372036854775807)) (Dq H' D ∧ R
 (.tuple ⟨[.string (s ++ s_2 ++ s_1), .int .i64 0]⟩) (shutD H' D))))) ∨ Lp H4 l R0 LoopState.done (some Code.ret) ∧ Dq (setLp H4 l R0 LoopState.exhausted (some Code.ret)) D ∧ R (.tuple ⟨[J 2, J 3]⟩)
 (shutD (setLp H4 l R0 LoopState.exhausted (some Code.ret)) D)))))) : CallH Tryz.prog 46 (List.toArray [.slice l_a l_n l_c]) H R := vcS_call (annOf [([0, 1, 0, 1, 1, 1], .cut [(4, .one (.int .i64)),
 (22, .one (.int .i64))]), ([1, 1, 1, 1, 1], .cut [(7, .one .str)]), ([0, 1, 0, 1, 1, 1, 1, 1], .reg [0, 0, 2, 6, 14, 30, 62, 0, 128, 384, 896, 2046, 4094, 8191, 16383] (.quiet 0 (.quiet 1 (.quiet 2
 (.quiet 3 (.quiet 4 (.quiet 5 (.quiet 7 (.quiet 8 (.quiet 9 (.quiet 10 (.pick (.alt 6 (.pick (.alt 11 (.quiet 12 (.quiet 13 (.quiet 14 .done))) .stop)) .stop))))))))))))), ([0, 1, 0, 1, 1, 1, 1, 1,
 1, 1, 1], .cut [(65, .one (.int .u64)), (66, .one (.int .u64))]), ([0, 1, 0, 1, 0, 1, 1, 1, 1, 1, 1, 1, 1], .reg [0, 0, 2, 7, 0, 0, 32, 127, 255, 511] (.quiet 0 (.quiet 1 (.quiet 4 (.quiet 5 (.pick
 (.alt 2 (.pick (.alt 3 (.pick (.alt 6 (.pick (.alt 7 (.pick (.alt 8 (.pick (.alt 9 (.done) .stop)) .stop)) .stop)) .stop)) (.alt 6 (.pick (.alt 3 (.pick (.alt 7 (.pick (.alt 8 (.pick (.alt 9 (.done)
 .stop)) .stop)) .stop)) .stop)) .stop))) (.alt 6 (.pick (.alt 2 (.pick (.alt 3 (.pick (.alt 7 (.pick (.alt 8 (.pick (.alt 9 (.done) .stop)) .stop)) .stop)) .stop)) .stop)) .stop)))))))), ([0, 1, 1,
 1, 1, 1, 1, 1, 1, 1], .reg [0, 1, 0, 7, 15, 31] (.quiet 0 (.quiet 2 (.pick (.alt 1 (.pick (.alt 3 (.quiet 4 (.quiet 5 .done)) .stop)) .stop))))), ([0, 1, 0, 1, 1, 1, 1, 1, 1, 1, 1, 1, 1, 1], .cut
 [(82, .one (.int .i64))]), ([0, 1, 1, 1, 1, 1, 1, 1, 1, 1, 1, 1, 1], .reg [0, 0, 2, 0, 8, 30, 62, 127, 0, 256, 1023, 2047, 4095] (.quiet 0 (.quiet 1 (.quiet 2 (.quiet 3 (.quiet 4 (.quiet 8 (.pick
 (.alt 5 (.pick (.alt 6 (.quiet 7 (.pick (.alt 9 (.quiet 10 (.quiet 11 (.quiet 12 .done))) .stop))) (.alt 9 (.pick (.alt 6 (.quiet 7 (.quiet 10 (.quiet 11 (.quiet 12 .done)))) .stop)) .stop))) (.alt
 9 (.pick (.alt 5 (.pick (.alt 6 (.quiet 7 (.quiet 10 (.quiet 11 (.quiet 12 .done)))) .stop)) .stop)) .stop))))))))))]) followsAll Tryz.func46 rfl Tryz.ntmps46 rfl rfl (Eq.mpr (by kernel_rfl) h)
abbrev fn_strings_Builder_String : Nat := 47
theorem vc_strings_Builder_String (b : Addr) (H : Heap) (R : Value → Heap → Prop) (h : ∃ a n c, lD 81 H (Addr.add b 1) (.slice a n c) ∧ ∃ a_1 n_1 c_1, lD 81 H (Addr.add b 1) (.slice a_1 n_1 c_1) ∧
 SemWp Tryz.prog (Builtin.unsafeSliceData_ ⟨[81]⟩ 146 ⟨[.slice a n c]⟩) H fun v H' => ∃ a, v = .pointer a ∧ lD 81 H' (Addr.add b 1) (.slice a_1 n_1 c_1) ∧ SemWp Tryz.prog (Builtin.unsafeString_
 ⟨[146, 3]⟩ 9 ⟨[.pointer a, .int .i64 (↑n_1 : Int)]⟩) H' fun v H' => ∃ s, v = .string s ∧ R (.string s) H') : CallH Tryz.prog 47 (List.toArray [.pointer (some b)]) H R := vc_call (annOf [([0, 1],
 .reg [0, 1, 3, 7, 15, 0, 32, 96, 224, 480, 1023, 2047] (.quiet 0 (.quiet 1 (.quiet 2 (.quiet 3 (.quiet 5 (.quiet 6 (.quiet 7 (.quiet 8 (.quiet 9 (.pick (.alt 4 (.pick (.alt 10 (.quiet 11 .done)
 .stop)) .stop))))))))))))]) followsAll Tryz.func47 rfl Tryz.ntmps47 rfl rfl (Eq.mpr (by kernel_rfl) h)
abbrev fn_runs_behind : Nat := 48
theorem vc_runs_behind (a_0 : Int) (a_1 : Int) (a_2 : Int) (b_0 : Int) (b_1 : Int) (b_2 : Int) (H : Heap) (R : Value → Heap → Prop) (h : ∀ (b : Nat) (H' : Heap), New H b (.cells ⟨[.int .i64 a_0,
 .int .i64 a_1, .int .i64 a_2]⟩ 26) H' → ∀ (b_3 : Nat) (H'_1 : Heap), New H' b_3 (.cells ⟨[.int .i64 b_0, .int .i64 b_1, .int .i64 b_2]⟩ 26) H'_1 → ∃ n, lD 3 H'_1 ⟨b_3, 0, none⟩ (.int .i64 n) ∧ ∃
 n_1, lD 3 H'_1 ⟨b, 0, none⟩ (.int .i64 n_1) ∧ brB (decide (n < n_1)) (R (.bool true) H'_1) (∃ n, lD 3 H'_1 ⟨b_3, 0, none⟩ (.int .i64 n) ∧ ∃ n_2, lD 3 H'_1 ⟨b, 0, none⟩ (.int .i64 n_2) ∧ brB (n ==
 n_2) (∃ n, lD 3 H'_1 ⟨b_3, 1, none⟩ (.int .i64 n) ∧ ∃ n_3, lD 3 H'_1 ⟨b, 1, none⟩ (.int .i64 n_3) ∧ R (.bool (decide (n < n_3))) H'_1) (R (.bool false) H'_1))) : CallH Tryz.prog 48 (List.toArray
 [.agg #[.int .i64 a_0, .int .i64 a_1, .int .i64 a_2], .agg #[.int .i64 b_0, .int .i64 b_1, .int .i64 b_2]]) H R := vc_call (annOf []) followsAll Tryz.func48 rfl Tryz.ntmps48 rfl rfl (Eq.mpr (by
 kernel_rfl) h)
theorem vc_slices_Chunk___api_Row_api_Row_ (s_a : Option Addr) (s_n : Nat) (s_c : Nat) (n : Int) (H : Heap) (R : Value → Heap → Prop) (h : ∀ (b : Nat) (H' : Heap), New H b (.cells ⟨[.slice s_a s_n
 s_c]⟩ 22) H' → ∀ (b_1 : Nat) (H'_1 : Heap), New H' b_1 (.cells ⟨[.int .i64 n]⟩ 3) H'_1 → ∃ n, lD 3 H'_1 ⟨b_1, 0, none⟩ (.int .i64 n) ∧ brB (decide (n < 1)) False (R (.func (Fn.func 88) ⟨[]⟩
 ⟨[.pointer (some ⟨b, 0, none⟩), .pointer (some ⟨b_1, 0, none⟩)]⟩) H'_1)) : CallH Tryz.prog 49 (List.toArray [.slice s_a s_n s_c, .int .i64 n]) H R := vc_call (annOf []) followsAll Tryz.func49 rfl
 Tryz.ntmps49 rfl rfl (Eq.mpr (by kernel_rfl) h)
abbrev fn_strings_Builder_Len : Nat := 50
theorem vc_strings_Builder_Len (b : Addr) (H : Heap) (R : Value → Heap → Prop) (h : ∃ a n c, lD 81 H (Addr.add b 1) (.slice a n c) ∧ R (.int .i64 (↑n : Int)) H) : CallH Tryz.prog 50 (List.toArray
 [.pointer (some b)]) H R := vc_call (annOf []) followsAll Tryz.func50 rfl Tryz.ntmps50 rfl rfl (Eq.mpr (by kernel_rfl) h)
abbrev fn_zig_Int : Nat := 51
theorem vc_zig_Int (n : Int) (H : Heap) (R : Value → Heap → Prop) (h : cH 89 ⟨[.int .i64 n]⟩ H fun v H' => ∃ n, v = .int .u64 n ∧ cS 45 [.int .u64 n] H' fun s H' => R (.string s) H') : CallH
 Tryz.prog 51 (List.toArray [.int .i64 n]) H R := vc_call (annOf []) followsAll Tryz.func51 rfl Tryz.ntmps51 rfl rfl (Eq.mpr (by kernel_rfl) h)
theorem vc_convert_units_1 (yield : Value) (a1 : Addr) (H : Heap) (R : Value → Heap → Prop) (h : ∃ a n c, lD 52 H a1 (.slice a n c) ∧ ∃ (I : IV) (μ : MU), I [.int .i64 0] H ∧ ∀ (J : F) (n_1 : Int)
 (H' : Heap), I [.int .i64 n_1] H' → brB (decide (n_1 < (↑n : Int))) (ix a n_1 n fun ad => (∃ n a n_2 c, lD 92 H' (Addr.add ad (Int.toNat n_1 * 2)) (.agg ⟨[.int .i64 n, .slice a n_2 c]⟩) ∧ ∀ (b :
 Nat) (H'_1 : Heap), New H' b (.cells ⟨[.int .i64 0, .slice none 0 0]⟩ 92) H'_1 → ∃ H'_2, sT 92 H'_1 ⟨b, 0, none⟩ (.agg ⟨[.int .i64 n, .slice a n_2 c]⟩) H'_2 ∧ ∃ n a n_3 c, lD 92 H'_2 ⟨b, 0, none⟩
 (.agg ⟨[.int .i64 n, .slice a n_3 c]⟩) ∧ ∀ (b : Nat) (H'_3 : Heap), New H'_2 b (.cells ⟨[.int .i64 n, .slice a n_3 c]⟩ 92) H'_3 → cL 31 [.slice (some ⟨b, 0, none⟩) 1 1] H'_3 fun a n c H'_4 => CallY
 Tryz.prog yield [.slice a n c] H'_4 fun v H'_5 => ∃ b, v = .bool b ∧ brB (!b) (R (.tuple ⟨[]⟩) H'_5) (I [.int .i64 (IntKind.wrap .i64 (n_1 + 1))] H'_5 ∧ μ [.int .i64 (IntKind.wrap .i64 (n_1 + 1))]
 H'_5 < μ [.int .i64 n_1] H'))) (R (.tuple ⟨[]⟩) H')) : CallH Tryz.prog 52 (List.toArray [yield, .pointer (some a1)]) H R := vcY_call (annOf [([0, 1], .cut [(7, .one (.int .i64))])]) followsAll
 Tryz.func52 rfl Tryz.ntmps52 rfl rfl (Eq.mpr (by kernel_rfl) h)
theorem vc_convert_units_2 (yield : Value) (a1 : Addr) (a2 : Addr) (H : Heap) (R : Value → Heap → Prop) (h : ∃ n, lD 3 H a1 (.int .i64 n) ∧ ∃ (I : IV) (μ : MU), I [.int .i64 0] H ∧ ∀ (J : F) (n_1 :
 Int) (H' : Heap), I [.int .i64 n_1] H' → brB (decide (n_1 < n)) (∃ a n c, lD 22 H' a2 (.slice a n c) ∧ ∃ a_1 n c_1, lD 22 H' a2 (.slice a_1 n c_1) ∧ chk (decide (0 ≤ IntKind.wrap .i64 (16 * n_1) ∧
 (IntKind.wrap .i64 (16 * n_1) ≤ if (↑n : Int) < IntKind.wrap .i64 (IntKind.wrap .i64 (16 * n_1) + 16) then (↑n : Int) else IntKind.wrap .i64 (IntKind.wrap .i64 (16 * n_1) + 16)) ∧ (if (↑n : Int) <
 IntKind.wrap .i64 (IntKind.wrap .i64 (16 * n_1) + 16) then (↑n : Int) else IntKind.wrap .i64 (IntKind.wrap .i64 (16 * n_1) + 16)) ≤ (↑c : Int))) (CallY Tryz.prog yield [.slice (slA c (Int.toNat
 (IntKind.wrap .i64 (16 * n_1))) 3 a) (Int.toNat (if (↑n : Int) < IntKind.wrap .i64 (IntKind.wrap .i64 (16 * n_1) + 16) then (↑n : Int) else IntKind.wrap .i64 (IntKind.wrap .i64 (16 * n_1) + 16)) -
 Int.toNat (IntKind.wrap .i64 (16 * n_1))) (c - Int.toNat (IntKind.wrap .i64 (16 * n_1)))] H' fun v H'_1 => ∃ b, v = .bool b ∧ brB (!b) (R (.tuple ⟨[]⟩) H'_1) (I [.int .i64 (IntKind.wrap .i64 (n_1 +
 1))] H'_1 ∧ μ [.int .i64 (IntKind.wrap .i64 (n_1 + 1))] H'_1 < μ [.int .i64 n_1] H'))) (R (.tuple ⟨[]⟩) H')) : CallH Tryz.prog 53 (List.toArray [yield, .pointer (some a1), .pointer (some a2)]) H R
 := vcY_call (annOf [([0, 1], .cut [(6, .one (.int .i64))])]) followsAll Tryz.func53 rfl Tryz.ntmps53 rfl rfl (Eq.mpr (by kernel_rfl) h)
abbrev fn_major_table : Nat := 54
theorem vc_major_table (s : ByteArray) (H : Heap) (R : Value → Heap → Prop) (h : cH 90 ⟨[.string s, .int .i64 0]⟩ H fun v H' => ∃ n n_1 n_2, v = .tuple ⟨[.int .u64 n, .int .i64 n_1, .int .i64 n_2]⟩
 ∧ ∃ (M : IV), brB (n_2 != 0) (R (.tuple ⟨[.slice none 0 0, .bool false]⟩) H') (brB (decide (n > 200)) (R (.tuple ⟨[.slice none 0 0, .bool false]⟩) H') (M [] H')) ∧ ∀ (J : F) (H' : Heap), M [] H' → ∃
 (I : IV) (μ : MU), I [.int .i64 n_1, .slice none 0 0, .int .i64 (-1 : Int), .int .i64 0, .int .u64 0] H' ∧ ∀ (J : F) (n_3 : Int) (a : Option Addr) (n_4 c : Nat) (n_5 n_6 n_7 : Int) (H' : Heap), I
 [.int .i64 n_3, .slice a n_4 c, .int .i64 n_5, .int .i64 n_6, .int .u64 n_7] H' → brB (decide (n_7 < n)) (cH 90 ⟨[.string s, .int .i64 n_3]⟩ H' fun v H'_1 => ∃ n n_8 n_9, v = .tuple ⟨[.int .u64 n,
 .int .i64 n_8, .int .i64 n_9]⟩ ∧ cH 90 ⟨[.string s, .int .i64 n_8]⟩ H'_1 fun v H'_2 => ∃ n_10 n_11 n_12, v = .tuple ⟨[.int .u64 n_10, .int .i64 n_11, .int .i64 n_12]⟩ ∧ ∃ (M : IV), brB (n_9 != 0) (R
 (.tuple ⟨[.slice none 0 0, .bool false]⟩) H'_2) (brB (n_12 != 0) (R (.tuple ⟨[.slice none 0 0, .bool false]⟩) H'_2) (brB (decide (n ≥ 200)) (R (.tuple ⟨[.slice none 0 0, .bool false]⟩) H'_2) (brB
 (decide (IntKind.wrap .i64 n ≤ n_5)) (R (.tuple ⟨[.slice none 0 0, .bool false]⟩) H'_2) (brB (decide (n_10 > IntKind.wrap .u64 (↑(ByteArray.size s) : Int))) (R (.tuple ⟨[.slice none 0 0, .bool
 false]⟩) H'_2) (M [] H'_2))))) ∧ ∀ (J : F) (H'_3 : Heap), M [] H'_3 → ∀ (b : Nat) (H'_4 : Heap), New H'_3 b (.cells ⟨[.int .i64 (IntKind.wrap .i64 n), .int .i64 n_6, .int .i64 (IntKind.wrap .i64
 (n_6 + IntKind.wrap .i64 n_10))]⟩ 151) H'_4 → SemWp Tryz.prog (Builtin.append_ ⟨[98, 98]⟩ 98 ⟨[.slice a n_4 c, .slice (some ⟨b, 0, none⟩) 1 1]⟩) H'_4 fun v H'_5 => ∃ a_4 n_13 c_1, v = .slice a_4
 n_13 c_1 ∧ I [.int .i64 n_11, .slice a_4 n_13 c_1, .int .i64 (IntKind.wrap .i64 n), .int .i64 (IntKind.wrap .i64 (n_6 + IntKind.wrap .i64 n_10)), .int .u64 (IntKind.wrap .u64 (n_7 + 1))] H'_5 ∧ μ
 [.int .i64 n_11, .slice a_4 n_13 c_1, .int .i64 (IntKind.wrap .i64 n), .int .i64 (IntKind.wrap .i64 (n_6 + IntKind.wrap .i64 n_10)), .int .u64 (IntKind.wrap .u64 (n_7 + 1))] H'_5 < μ [.int .i64 n_3,
 .slice a n_4 c, .int .i64 n_5, .int .i64 n_6, .int .u64 n_7] H') (∃ (I : IV) (μ : MU), I [.int .i64 0] H' ∧ ∀ (J : F) (n : Int) (H' : Heap), I [.int .i64 n] H' → brB (decide (n < (↑n_4 : Int))) (ix
 a n n_4 fun ad => (∃ n_8, lD 3 H' (Addr.add (Addr.add ad (Int.toNat n * 3)) 1) (.int .i64 n_8) ∧ ix a n n_4 fun ad => (∃ H'_1, sT 3 H' (Addr.add (Addr.add ad (Int.toNat n * 3)) 1) (.int .i64
 (IntKind.wrap .i64 (n_8 + n_3))) H'_1 ∧ ix a n n_4 fun ad => (∃ n_9, lD 3 H'_1 (Addr.add (Addr.add ad (Int.toNat n * 3)) 2) (.int .i64 n_9) ∧ ix a n n_4 fun ad => (∃ H'_2, sT 3 H'_1 (Addr.add
 (Addr.add ad (Int.toNat n * 3)) 2) (.int .i64 (IntKind.wrap .i64 (n_9 + n_3))) H'_2 ∧ I [.int .i64 (IntKind.wrap .i64 (n + 1))] H'_2 ∧ μ [.int .i64 (IntKind.wrap .i64 (n + 1))] H'_2 < μ [.int .i64
 n] H'))))) (R (.tuple ⟨[.slice a n_4 c, .bool (n_6 == IntKind.wrap .i64 ((↑(ByteArray.size s) : Int) - n_3))]⟩) H'))) : CallH Tryz.prog 54 (List.toArray [.string s]) H R := vc_call (annOf [([1, 1],
 .cut []), ([0, 1, 0, 1, 1, 1, 1, 1], .cut [(5, .one (.int .i64)), (7, .one .slice), (8, .one (.int .i64)), (9, .one (.int .i64)), (29, .one (.int .u64))]), ([1, 1, 0, 0, 1, 1, 0, 0, 1, 0, 1, 1, 1,
 1, 1], .cut []), ([0, 1, 0, 1, 1, 1, 1, 1, 1], .cut [(89, .one (.int .i64))])]) followsAll Tryz.func54 rfl Tryz.ntmps54 rfl rfl (Eq.mpr (by kernel_rfl) h)
theorem vc_major_parts (s : ByteArray) (l_a : Option Addr) (l_n : Nat) (l_c : Nat) (H : Heap) (R : Value → Heap → Prop) (h : ∀ (b : Nat) (H' : Heap), New H b (.cells ⟨[.string s]⟩ 9) H' → ∀ (b_1 :
 Nat) (H'_1 : Heap), New H' b_1 (.cells ⟨[.slice l_a l_n l_c]⟩ 98) H'_1 → R (.func (Fn.func 91) ⟨[]⟩ ⟨[.pointer (some ⟨b_1, 0, none⟩), .pointer (some ⟨b, 0, none⟩)]⟩) H'_1) : CallH Tryz.prog 55
 (List.toArray [.string s, .slice l_a l_n l_c]) H R := vc_call (annOf []) followsAll Tryz.func55 rfl Tryz.ntmps55 rfl rfl (Eq.mpr (by kernel_rfl) h)
abbrev fn_major_read : Nat := 56
theorem vc_major_read (c : ByteArray) (H : Heap) (R : Value → Heap → Prop) (h : cH 92 ⟨[.string c]⟩ H fun v H' => ∃ a n c n_1, v = .tuple ⟨[.slice a n c, .int .i64 n_1]⟩ ∧ brB (n_1 != 0) (R (.tuple
 ⟨[.slice none 0 0, .int .i64 11]⟩) H') (brB ((↑n : Int) == 0) (R (.tuple ⟨[.slice none 0 0, .int .i64 11]⟩) H') (R (.tuple ⟨[.slice a n c, .int .i64 0]⟩) H'))) : CallH Tryz.prog 56 (List.toArray
 [.string c]) H R := vc_call (annOf []) followsAll Tryz.func56 rfl Tryz.ntmps56 rfl rfl (Eq.mpr (by kernel_rfl) h)
abbrev fn_series_merge_api_Row_ : Nat := 57
theorem vc_series_merge_api_Row_ (a_a : Option Addr) (a_n : Nat) (a_c : Nat) (b_a : Option Addr) (b_n : Nat) (b_c : Nat) (order : Value) (H : Heap) (R : Value → Heap → Prop) (h : SemWp Tryz.prog
 (Instr.makeSlice 22 (.int .i64 0) (.int .i64 (IntKind.wrap .i64 ((↑a_n : Int) + (↑b_n : Int))))) H fun v H' => ∃ a n c, v = .slice a n c ∧ ∃ (I : IV) (μ : MU), I [.slice a_a a_n a_c, .slice b_a b_n
 b_c, .slice a n c] H' ∧ ∀ (J : F) (a : Option Addr) (n c : Nat) (a_1 : Option Addr) (n_1 c_1 : Nat) (a_2 : Option Addr) (n_2 c_2 : Nat) (H' : Heap), I [.slice a n c, .slice a_1 n_1 c_1, .slice a_2
 n_2 c_2] H' → ∃ (M : IV), brB (decide ((↑n : Int) > 0)) (brB (decide ((↑n_1 : Int) > 0)) (M [] H') (SemWp Tryz.prog (Builtin.append_ ⟨[22, 22]⟩ 22 ⟨[.slice a_2 n_2 c_2, .slice a n c]⟩) H' fun v H'
 => ∃ a n c, v = .slice a n c ∧ SemWp Tryz.prog (Builtin.append_ ⟨[22, 22]⟩ 22 ⟨[.slice a n c, .slice a_1 n_1 c_1]⟩) H' fun v H' => ∃ a n c, v = .slice a n c ∧ R (.slice a n c) H')) (SemWp Tryz.prog
 (Builtin.append_ ⟨[22, 22]⟩ 22 ⟨[.slice a_2 n_2 c_2, .slice a n c]⟩) H' fun v H' => ∃ a n c, v = .slice a n c ∧ SemWp Tryz.prog (Builtin.append_ ⟨[22, 22]⟩ 22 ⟨[.slice a n c, .slice a_1 n_1 c_1]⟩)
 H' fun v H' => ∃ a n c, v = .slice a n c ∧ R (.slice a n c) H') ∧ ∀ (J : F) (H'_1 : Heap), M [] H'_1 → ix a (0) n fun ad => (∃ n_3 n_4 n_5, lD 26 H'_1 ad (.agg ⟨[.int .i64 n_3, .int .i64 n_4, .int
 .i64 n_5]⟩) ∧ ix a_1 (0) n_1 fun ad => (∃ n_6 n_7 n_8, lD 26 H'_1 ad (.agg ⟨[.int .i64 n_6, .int .i64 n_7, .int .i64 n_8]⟩) ∧ CallV Tryz.prog order [.agg ⟨[.int .i64 n_3, .int .i64 n_4, .int .i64
 n_5]⟩, .agg ⟨[.int .i64 n_6, .int .i64 n_7, .int .i64 n_8]⟩] H'_1 fun v H'_2 => ∃ n_9, v = .int .i64 n_9 ∧ brB (decide (n_9 < 0)) (ix a (0) n fun ad => (∃ n_10 n_11 n_12, lD 26 H'_2 ad (.agg ⟨[.int
 .i64 n_10, .int .i64 n_11, .int .i64 n_12]⟩) ∧ chk (decide ((0 : Int) ≤ (1 : Int) ∧ 1 ≤ (↑n : Int) ∧ (↑n : Int) ≤ (↑c : Int))) (∀ (b : Nat) (H'_3 : Heap), New H'_2 b (.cells ⟨[.int .i64 n_10, .int
 .i64 n_11, .int .i64 n_12]⟩ 26) H'_3 → SemWp Tryz.prog (Builtin.append_ ⟨[22, 22]⟩ 22 ⟨[.slice a_2 n_2 c_2, .slice (some ⟨b, 0, none⟩) 1 1]⟩) H'_3 fun v H'_4 => ∃ a_6 n_13 c_3, v = .slice a_6 n_13
 c_3 ∧ I [.slice (slA c 1 3 a) (Int.toNat (↑n : Int) - 1) (c - 1), .slice a_1 n_1 c_1, .slice a_6 n_13 c_3] H'_4 ∧ μ [.slice (slA c 1 3 a) (Int.toNat (↑n : Int) - 1) (c - 1), .slice a_1 n_1 c_1,
 .slice a_6 n_13 c_3] H'_4 < μ [.slice a n c, .slice a_1 n_1 c_1, .slice a_2 n_2 c_2] H'))) (brB (n_9 == 0) (chk (decide ((0 : Int) ≤ (1 : Int) ∧ 1 ≤ (↑n : Int) ∧ (↑n : Int) ≤ (↑c : Int))) (ix a_1
 (0) n_1 fun ad => (∃ n_10 n_11 n_12, lD 26 H'_2 ad (.agg ⟨[.int .i64 n_10, .int .i64 n_11, .int .i64 n_12]⟩) ∧ chk (decide ((0 : Int) ≤ (1 : Int) ∧ 1 ≤ (↑n_1 : Int) ∧ (↑n_1 : Int) ≤ (↑c_1 : Int)))
 (∀ (b : Nat) (H'_3 : Heap), New H'_2 b (.cells ⟨[.int .i64 n_10, .int .i64 n_11, .int .i64 n_12]⟩ 26) H'_3 → SemWp Tryz.prog (Builtin.append_ ⟨[22, 22]⟩ 22 ⟨[.slice a_2 n_2 c_2, .slice (some ⟨b, 0,
 none⟩) 1 1]⟩) H'_3 fun v H'_4 => ∃ a_6 n_13 c_3, v = .slice a_6 n_13 c_3 ∧ I [.slice (slA c 1 3 a) (Int.toNat (↑n : Int) - 1) (c - 1), .slice (slA c_1 1 3 a_1) (Int.toNat (↑n_1 : Int) - 1) (c_1 -
 1), .slice a_6 n_13 c_3] H'_4 ∧ μ [.slice (slA c 1 3 a) (Int.toNat (↑n : Int) - 1) (c - 1), .slice (slA c_1 1 3 a_1) (Int.toNat (↑n_1 : Int) - 1) (c_1 - 1), .slice a_6 n_13 c_3] H'_4 < μ [.slice a n
 c, .slice a_1 n_1 c_1, .slice a_2 n_2 c_2] H')))) (ix a_1 (0) n_1 fun ad => (∃ n_10 n_11 n_12, lD 26 H'_2 ad (.agg ⟨[.int .i64 n_10, .int .i64 n_11, .int .i64 n_12]⟩) ∧ chk (decide ((0 : Int) ≤ (1 :
 Int) ∧ 1 ≤ (↑n_1 : Int) ∧ (↑n_1 : Int) ≤ (↑c_1 : Int))) (∀ (b : Nat) (H'_3 : Heap), New H'_2 b (.cells ⟨[.int .i64 n_10, .int .i64 n_11, .int .i64 n_12]⟩ 26) H'_3 → SemWp Tryz.prog (Builtin.append_
 ⟨[22, 22]⟩ 22 ⟨[.slice a_2 n_2 c_2, .slice (some ⟨b, 0, none⟩) 1 1]⟩) H'_3 fun v H'_4 => ∃ a_6 n_13 c_3, v = .slice a_6 n_13 c_3 ∧ I [.slice a n c, .slice (slA c_1 1 3 a_1) (Int.toNat (↑n_1 : Int) -
 1) (c_1 - 1), .slice a_6 n_13 c_3] H'_4 ∧ μ [.slice a n c, .slice (slA c_1 1 3 a_1) (Int.toNat (↑n_1 : Int) - 1) (c_1 - 1), .slice a_6 n_13 c_3] H'_4 < μ [.slice a n c, .slice a_1 n_1 c_1, .slice
 a_2 n_2 c_2] H'))))))) : CallH Tryz.prog 57 (List.toArray [.slice a_a a_n a_c, .slice b_a b_n b_c, order]) H R := vc_call (annOf [([0, 0, 1, 1], .cut [(0, .one .slice), (1, .one .slice), (7, .one
 .slice)]), ([0, 0, 0, 1, 1], .cut []), ([0, 0, 1, 0, 0, 0, 1, 1], .tail 7), ([0, 0, 1, 0, 1, 0, 1, 0, 0, 0, 1, 1], .reg [0, 0, 2, 6, 14, 31, 0, 64, 63, 511] (.quiet 0 (.quiet 1 (.quiet 2 (.quiet 3
 (.quiet 6 (.quiet 7 (.pick (.alt 4 (.pick (.alt 5 (.quiet 8 (.quiet 9 .done)) .stop)) .stop))))))))), ([1, 1, 1, 0, 1, 0, 0, 0, 1, 1], .reg [0, 0, 2, 6, 14, 31, 0, 64, 63, 511] (.quiet 0 (.quiet 1
 (.quiet 2 (.quiet 3 (.quiet 6 (.quiet 7 (.pick (.alt 4 (.pick (.alt 5 (.quiet 8 (.quiet 9 .done)) .stop)) .stop)))))))))]) followsAll Tryz.func57 rfl Tryz.ntmps57 rfl rfl (Eq.mpr (by kernel_rfl) h)
abbrev fn_series_byRow : Nat := 58
theorem vc_series_byRow (x_0 : Int) (x_1 : Int) (x_2 : Int) (y_0 : Int) (y_1 : Int) (y_2 : Int) (H : Heap) (R : Value → Heap → Prop) (h : ∀ (b : Nat) (H' : Heap), New H b (.cells ⟨[.int .i64 x_0,
 .int .i64 x_1, .int .i64 x_2]⟩ 26) H' → ∀ (b_1 : Nat) (H'_1 : Heap), New H' b_1 (.cells ⟨[.int .i64 y_0, .int .i64 y_1, .int .i64 y_2]⟩ 26) H'_1 → ∃ n, lD 3 H'_1 ⟨b, 0, none⟩ (.int .i64 n) ∧ ∃ n_1,
 lD 3 H'_1 ⟨b_1, 0, none⟩ (.int .i64 n_1) ∧ ∃ n_2, lD 3 H'_1 ⟨b, 1, none⟩ (.int .i64 n_2) ∧ ∃ n_3, lD 3 H'_1 ⟨b_1, 1, none⟩ (.int .i64 n_3) ∧ cI 76 [.int .i64 n, .int .i64 n_1] H'_1 fun n H' => lD 3
 H' ⟨b_1, 1, none⟩ (.int .i64 n_3) ∧ lD 3 H' ⟨b, 1, none⟩ (.int .i64 n_2) ∧ cI 76 [.int .i64 n_2, .int .i64 n_3] H' fun n_4 H' => ∀ (b : Nat) (H'_2 : Heap), New H' b (.cells ⟨[.int .i64 n, .int .i64
 n_4]⟩ 3) H'_2 → cI 93 [.slice (some ⟨b, 0, none⟩) 2 2] H'_2 fun n H' => R (.int .i64 n) H') : CallH Tryz.prog 58 (List.toArray [.agg #[.int .i64 x_0, .int .i64 x_1, .int .i64 x_2], .agg #[.int .i64
 y_0, .int .i64 y_1, .int .i64 y_2]]) H R := vc_call (annOf [([0, 1], .reg [0, 1, 0, 4, 15, 0, 32, 0, 128, 511, 1023, 2047, 4095] (.quiet 0 (.quiet 1 (.quiet 2 (.quiet 3 (.quiet 5 (.quiet 6 (.quiet 7
 (.quiet 8 (.pick (.alt 4 (.pick (.alt 9 (.pick (.alt 10 (.pick (.alt 11 (.quiet 12 .done) .stop)) .stop)) .stop)) .stop)))))))))))]) followsAll Tryz.func58 rfl Tryz.ntmps58 rfl rfl (Eq.mpr (by
 kernel_rfl) h)
abbrev fn_runs_Between : Nat := 59
theorem vc_runs_Between (s : ByteArray) (r_0 : Int) (r_1 : Int) (H : Heap) (R : Value → Heap → Prop) (h : ∀ (b : Nat) (H' : Heap), New H b (.cells ⟨[.int .i64 r_0, .int .i64 r_1]⟩ 112) H' → cH 94
 ⟨[.string s]⟩ H' fun v H' => ∃ a n c b_1, v = .tuple ⟨[.slice a n c, .bool b_1]⟩ ∧ brB (!b_1) (R (.tuple ⟨[.slice none 0 0, .int .i64 11]⟩) H') (∃ (I : IV) (μ : MU), I [.slice none 0 0, .int .i64 0]
 H' ∧ ∀ (J : F) (a_1 : Option Addr) (n_1 c : Nat) (n_2 : Int) (H' : Heap), I [.slice a_1 n_1 c, .int .i64 n_2] H' → brB (decide (n_2 < (↑n : Int))) (ix a n_2 n fun ad => (∃ n n_3 n_4 s, lD 158 H'
 (Addr.add ad (Int.toNat n_2 * 4)) (.agg ⟨[.int .i64 n, .int .i64 n_3, .int .i64 n_4, .string s]⟩) ∧ ∀ (b_2 : Nat) (H'_1 : Heap), New H' b_2 (.cells ⟨[.int .i64 0, .int .i64 0, .int .i64 0, .string {
 data := #[] }]⟩ 158) H'_1 → ∃ H'_2, sT 158 H'_1 ⟨b_2, 0, none⟩ (.agg ⟨[.int .i64 n, .int .i64 n_3, .int .i64 n_4, .string s]⟩) H'_2 ∧ ∃ n n_5 n_6 s, lD 158 H'_2 ⟨b_2, 0, none⟩ (.agg ⟨[.int .i64 n,
 .int .i64 n_5, .int .i64 n_6, .string s]⟩) ∧ ∃ n_7 n_8, lD 112 H'_2 ⟨b, 0, none⟩ (.agg ⟨[.int .i64 n_7, .int .i64 n_8]⟩) ∧ cB 95 [.agg ⟨[.int .i64 n, .int .i64 n_5, .int .i64 n_6, .string s]⟩, .agg
 ⟨[.int .i64 n_7, .int .i64 n_8]⟩] H'_2 fun b_3 H'_3 => brB (!b_3) (I [.slice a_1 n_1 c, .int .i64 (IntKind.wrap .i64 (n_2 + 1))] H'_3 ∧ μ [.slice a_1 n_1 c, .int .i64 (IntKind.wrap .i64 (n_2 + 1))]
 H'_3 < μ [.slice a_1 n_1 c, .int .i64 n_2] H') (∃ n n_9 n_10 s, lD 158 H'_3 ⟨b_2, 0, none⟩ (.agg ⟨[.int .i64 n, .int .i64 n_9, .int .i64 n_10, .string s]⟩) ∧ cH 96 ⟨[.agg ⟨[.int .i64 n, .int .i64
 n_9, .int .i64 n_10, .string s]⟩]⟩ H'_3 fun v H'_4 => ∃ a n c_1 b_4, v = .tuple ⟨[.slice a n c_1, .bool b_4]⟩ ∧ brB (!b_4) (R (.tuple ⟨[.slice none 0 0, .int .i64 11]⟩) H'_4) (cL 97 [.slice a n c_1,
 .func (Fn.func 98) ⟨[]⟩ ⟨[.pointer (some ⟨b, 0, none⟩)]⟩] H'_4 fun a n c_2 H'_5 => SemWp Tryz.prog (Builtin.append_ ⟨[22, 22]⟩ 22 ⟨[.slice a_1 n_1 c, .slice a n c_2]⟩) H'_5 fun v H'_6 => ∃ a n c_3,
 v = .slice a n c_3 ∧ I [.slice a n c_3, .int .i64 (IntKind.wrap .i64 (n_2 + 1))] H'_6 ∧ μ [.slice a n c_3, .int .i64 (IntKind.wrap .i64 (n_2 + 1))] H'_6 < μ [.slice a_1 n_1 c, .int .i64 n_2] H'))))
 (R (.tuple ⟨[.slice a_1 n_1 c, .int .i64 0]⟩) H'))) : CallH Tryz.prog 59 (List.toArray [.string s, .agg #[.int .i64 r_0, .int .i64 r_1]]) H R := vc_call (annOf [([0, 1, 0, 1, 1, 1, 1], .cut [(8,
 .one .slice), (22, .one (.int .i64))])]) followsAll Tryz.func59 rfl Tryz.ntmps59 rfl rfl (Eq.mpr (by kernel_rfl) h)
abbrev fn_ref13_Right : Nat := 64
theorem vc_ref13_Right (l_a : Option Addr) (l_n : Nat) (l_c : Nat) (H : Heap) (R : Value → Heap → Prop) (h : ∃ (I : IV) (μ : MU), I [.int .i64 0] H ∧ ∀ (J : F) (n : Int) (H' : Heap), I [.int .i64 n]
 H' → brB (decide (n < (↑l_n : Int))) (∃ (M : IV), (ix l_a n l_n fun ad => (∃ a n_1 c, lD 90 H' (Addr.add (Addr.add ad (Int.toNat n * 2)) 1) (.slice a n_1 c) ∧ brB ((↑n_1 : Int) == 0) (R (.bool
 false) H') (ix l_a n l_n fun ad => (∃ a n_2 c, lD 90 H' (Addr.add (Addr.add ad (Int.toNat n * 2)) 1) (.slice a n_2 c) ∧ cB 102 [.slice a n_2 c] H' fun b H' => brB (!b) (R (.bool false) H') (brB
 (decide (n > 0)) (ix l_a n l_n fun ad => (∃ n_3, lD 3 H' (Addr.add ad (Int.toNat n * 2)) (.int .i64 n_3) ∧ ix l_a (IntKind.wrap .i64 (n - 1)) l_n fun ad => (∃ n_4, lD 3 H' (Addr.add ad (Int.toNat
 (IntKind.wrap .i64 (n - 1)) * 2)) (.int .i64 n_4) ∧ brB (decide (n_3 ≤ n_4)) (R (.bool false) H') (M [] H')))) (M [] H')))))) ∧ ∀ (J : F) (H'_1 : Heap), M [] H'_1 → I [.int .i64 (IntKind.wrap .i64
 (n + 1))] H'_1 ∧ μ [.int .i64 (IntKind.wrap .i64 (n + 1))] H'_1 < μ [.int .i64 n] H') (R (.bool true) H')) : CallH Tryz.prog 64 (List.toArray [.slice l_a l_n l_c]) H R := vc_call (annOf [([0, 1, 0,
 1], .cut [(3, .one (.int .i64))]), ([1, 0, 0, 1, 0, 1], .cut []), ([0, 0, 0, 1, 0, 0, 1, 0, 1], .reg [0, 0, 3, 7, 15, 31, 63, 127, 255, 255, 1023, 2047, 4095, 8191, 16383, 32767, 65535, 131071,
 262143, 524287, 1048575, 1048575, 4194303, 8388607, 16777215, 1048575, 1048575, 68157439, 235929599, 504365055, 1041235967, 2147483647, 4294967295, 8589934591] (.quiet 0 (.quiet 1 (.quiet 2 (.quiet
 3 (.quiet 4 (.quiet 5 (.quiet 6 (.quiet 7 (.quiet 8 (.quiet 9 (.quiet 10 (.quiet 11 (.quiet 12 (.pick (.alt 13 (.quiet 14 (.quiet 15 (.quiet 16 (.quiet 17 (.quiet 18 (.quiet 19 (.quiet 20 (.quiet 21
 (.quiet 22 (.quiet 23 (.quiet 24 (.quiet 25 (.quiet 26 (.quiet 27 (.quiet 28 (.quiet 29 (.quiet 30 (.quiet 31 (.quiet 32 (.quiet 33 .done)))))))))))))))))))) .stop))))))))))))))))]) followsAll
 Tryz.func64 rfl Tryz.ntmps64 rfl rfl (Eq.mpr (by kernel_rfl) h)
abbrev fn_ref01_Uint : Nat := 65
theorem vc_ref01_Uint (n : Int) (H : Heap) (R : Value → Heap → Prop) (h : ∃ (I : IV) (μ : MU), I [.int .u64 n, .string { data := #[] }] H ∧ ∀ (J : F) (n : Int) (s : ByteArray) (H' : Heap), I [.int
 .u64 n, .string s] H' → brB (decide (n > 127)) (∀ (b : Nat) (H'_1 : Heap), New H' b (.cells ⟨[.int .u8 (IntKind.wrap .u8 (IntKind.wrap .u64 (Int.tmod n 128 + 128)))]⟩ 5) H'_1 → SemWp Tryz.prog
 (convert 81 9 (.slice (some ⟨b, 0, none⟩) 1 1)) H'_1 fun v H'_2 => ∃ s_1, v = .string s_1 ∧ chk (decide (ByteArray.size s + ByteArray.size s_1 ≤ 9223372036854775807)) (I [.int .u64 (IntKind.wrap
 .u64 (Int.tdiv n 128)), .string (s ++ s_1)] H'_2 ∧ μ [.int .u64 (IntKind.wrap .u64 (Int.tdiv n 128)), .string (s ++ s_1)] H'_2 < μ [.int .u64 n, .string s] H')) (∀ (b : Nat) (H'_1 : Heap), New H' b
 (.cells ⟨[.int .u8 (IntKind.wrap .u8 n)]⟩ 5) H'_1 → SemWp Tryz.prog (convert 81 9 (.slice (some ⟨b, 0, none⟩) 1 1)) H'_1 fun v H' => ∃ s_1, v = .string s_1 ∧ chk (decide (ByteArray.size s +
 ByteArray.size s_1 ≤ 9223372036854775807)) (R (.string (s ++ s_1)) H'))) : CallH Tryz.prog 65 (List.toArray [.int .u64 n]) H R := vc_call (annOf [([0, 0, 1, 1], .cut [(0, .one (.int .u64)), (3, .one
 .str)])]) followsAll Tryz.func65 rfl Tryz.ntmps65 rfl rfl (Eq.mpr (by kernel_rfl) h)
abbrev fn_ref03_Encode : Nat := 66
theorem vc_ref03_Encode (l_a : Option Addr) (l_n : Nat) (l_c : Nat) (H : Heap) (R : Value → Heap → Prop) (h : brB (decide ((↑l_n : Int) > 5000)) (R (.tuple ⟨[.string { data := #[] }, .int .i64 1]⟩)
 H) (∃ (I : IV) (μ : MU), I [.int .i64 0] H ∧ ∀ (J : F) (n : Int) (H' : Heap), I [.int .i64 n] H' → brB (decide (n < (↑l_n : Int))) (∃ (M : IV), (∃ (M_1 : IV), (ix l_a n l_n fun ad => (∃ n_1, lD 3 H'
 (Addr.add ad (Int.toNat n * 2)) (.int .i64 n_1) ∧ brB (decide (n_1 < 0)) (M_1 [.bool true] H') (ix l_a n l_n fun ad => (∃ n_2, lD 3 H' (Addr.add ad (Int.toNat n * 2)) (.int .i64 n_2) ∧ brB (decide
 (n_2 ≥ 1099511627776)) (M_1 [.bool true] H') (brB (decide (n > 0)) (ix l_a n l_n fun ad => (∃ n_3, lD 3 H' (Addr.add ad (Int.toNat n * 2)) (.int .i64 n_3) ∧ ix l_a (IntKind.wrap .i64 (n - 1)) l_n
 fun ad => (∃ n_4, lD 3 H' (Addr.add ad (Int.toNat (IntKind.wrap .i64 (n - 1)) * 2)) (.int .i64 n_4) ∧ M_1 [.bool (decide (n_3 ≤ n_4))] H'))) (M_1 [.bool false] H')))))) ∧ ∀ (J : F) (b : Bool) (H' :
 Heap), M_1 [.bool b] H' → brB b (R (.tuple ⟨[.string { data := #[] }, .int .i64 30]⟩) H') (M [] H')) ∧ ∀ (J : F) (H'_1 : Heap), M [] H'_1 → I [.int .i64 (IntKind.wrap .i64 (n + 1))] H'_1 ∧ μ [.int
 .i64 (IntKind.wrap .i64 (n + 1))] H'_1 < μ [.int .i64 n] H') (cS 65 [.int .u64 (IntKind.wrap .u64 (↑l_n : Int))] H' fun s H' => brB ((↑l_n : Int) == 0) (R (.tuple ⟨[.string s, .int .i64 0]⟩) H') (ix
 l_a (0) l_n fun ad => (∃ n, lD 3 H' ad (.int .i64 n) ∧ ix l_a (0) l_n fun ad => (∃ n_1, lD 3 H' (Addr.add ad 1) (.int .i64 n_1) ∧ cS 65 [.int .u64 (IntKind.wrap .u64 n)] H' fun s_1 H' => lD 3 H'
 (Addr.add ad 1) (.int .i64 n_1) ∧ chk (decide (ByteArray.size s + ByteArray.size s_1 ≤ 9223372036854775807)) (cS 103 [.int .i64 n_1] H' fun s_2 H' => chk (decide (ByteArray.size (s ++ s_1) +
 ByteArray.size s_2 ≤ 9223372036854775807)) (brB ((↑l_n : Int) == 1) (R (.tuple ⟨[.string (s ++ s_1 ++ s_2), .int .i64 0]⟩) H') (∀ (b : Nat) (H'_1 : Heap), New H' b (.cells ⟨[]⟩ 89) H'_1 → ∀ (b_1 :
 Nat) (H' : Heap), New H'_1 b_1 (.cells ⟨[]⟩ 89) H' → ∃ (I : IV) (μ : MU), I [.slice (some ⟨b, 0, none⟩) 0 0, .slice (some ⟨b_1, 0, none⟩) 0 0, .int .i64 0, .int .i64 1] H' ∧ ∀ (J : F) (a : Option
 Addr) (n c : Nat) (a_1 : Option Addr) (n_2 c_1 : Nat) (n_3 n_4 : Int) (H' : Heap), I [.slice a n c, .slice a_1 n_2 c_1, .int .i64 n_3, .int .i64 n_4] H' → brB (decide (n_4 < (↑l_n : Int))) (ix l_a
 n_4 l_n fun ad => (∃ n_5, lD 3 H' (Addr.add ad (Int.toNat n_4 * 2)) (.int .i64 n_5) ∧ ix l_a (IntKind.wrap .i64 (n_4 - 1)) l_n fun ad => (∃ n_6, lD 3 H' (Addr.add ad (Int.toNat (IntKind.wrap .i64
 (n_4 - 1)) * 2)) (.int .i64 n_6) ∧ cH 104 ⟨[.int .i64 (IntKind.wrap .i64 (IntKind.wrap .i64 (n_5 - n_6) - n_3))]⟩ H' fun v H'_2 => ∃ n_7, v = .int .u64 n_7 ∧ ∀ (b : Nat) (H'_3 : Heap), New H'_2 b
 (.cells ⟨[.int .u64 n_7]⟩ 89) H'_3 → SemWp Tryz.prog (Builtin.append_ ⟨[138, 138]⟩ 138 ⟨[.slice a n c, .slice (some ⟨b, 0, none⟩) 1 1]⟩) H'_3 fun v H'_4 => ∃ a_4 n_8 c_2, v = .slice a_4 n_8 c_2 ∧ ix
 l_a n_4 l_n fun ad => (∃ n_9, lD 3 H'_4 (Addr.add (Addr.add ad (Int.toNat n_4 * 2)) 1) (.int .i64 n_9) ∧ ix l_a (IntKind.wrap .i64 (n_4 - 1)) l_n fun ad => (∃ n_10, lD 3 H'_4 (Addr.add (Addr.add ad
 (Int.toNat (IntKind.wrap .i64 (n_4 - 1)) * 2)) 1) (.int .i64 n_10) ∧ cH 104 ⟨[.int .i64 (IntKind.wrap .i64 (n_9 - n_10))]⟩ H'_4 fun v H'_5 => ∃ n_11, v = .int .u64 n_11 ∧ ∀ (b : Nat) (H'_6 : Heap),
 New H'_5 b (.cells ⟨[.int .u64 n_11]⟩ 89) H'_6 → SemWp Tryz.prog (Builtin.append_ ⟨[138, 138]⟩ 138 ⟨[.slice a_1 n_2 c_1, .slice (some ⟨b, 0, none⟩) 1 1]⟩) H'_6 fun v H'_7 => ∃ a_6 n_12 c_3, v =
 .slice a_6 n_12 c_3 ∧ I [.slice a_4 n_8 c_2, .slice a_6 n_12 c_3, .int .i64 (IntKind.wrap .i64 (n_5 - n_6)), .int .i64 (IntKind.wrap .i64 (n_4 + 1))] H'_7 ∧ μ [.slice a_4 n_8 c_2, .slice a_6 n_12
 c_3, .int .i64 (IntKind.wrap .i64 (n_5 - n_6)), .int .i64 (IntKind.wrap .i64 (n_4 + 1))] H'_7 < μ [.slice a n c, .slice a_1 n_2 c_1, .int .i64 n_3, .int .i64 n_4] H'))))) (cI 105 [.slice a n c] H'
 fun n_5 H' => cI 105 [.slice a_1 n_2 c_1] H' fun n_6 H' => cP 106 [] H' fun a_3 H' => ∃ (I : IV) (μ : MU), I [.int .i64 0] H' ∧ ∀ (J : F) (n_7 : Int) (H' : Heap), I [.int .i64 n_7] H' → brB (decide
 (n_7 < (↑n : Int))) (ix a n_7 n fun ad => (∃ n, lD 89 H' (Addr.add ad (Int.toNat n_7 * 1)) (.int .u64 n) ∧ cI 107 [.pointer a_3, .int .u64 n, .int .i64 n_5] H' fun n H'_2 => ix a_1 n_7 n_2 fun ad =>
 (∃ n, lD 89 H'_2 (Addr.add ad (Int.toNat n_7 * 1)) (.int .u64 n) ∧ cI 107 [.pointer a_3, .int .u64 n, .int .i64 n_6] H'_2 fun n H'_3 => I [.int .i64 (IntKind.wrap .i64 (n_7 + 1))] H'_3 ∧ μ [.int
 .i64 (IntKind.wrap .i64 (n_7 + 1))] H'_3 < μ [.int .i64 n_7] H'))) ((∀ (b : Nat) (H'_2 : Heap), New H' b (.cells ⟨[.int .u8 (IntKind.wrap .u8 n_5), .int .u8 (IntKind.wrap .u8 n_6)]⟩ 5) H'_2 → (SemWp
 Tryz.prog (convert 81 9 (.slice (some ⟨b, 0, none⟩) 2 2)) H'_2 fun v H' => ∃ s_3, v = .string s_3 ∧ chk (decide (ByteArray.size (s ++ s_1 ++ s_2) + ByteArray.size s_3 ≤ 9223372036854775807)) (cS 108
 [.pointer a_3] H' fun s_4 H' => chk (decide (ByteArray.size (s ++ s_1 ++ s_2 ++ s_3) + ByteArray.size s_4 ≤ 9223372036854775807)) (R (.tuple ⟨[.string (s ++ s_1 ++ s_2 ++ s_3 ++ s_4), .int .i64 0]⟩)
 H'))) ∧ cS 108 [.pointer a_3] H'_2 fun s_3 H' => SemWp Tryz.prog (convert 81 9 (.slice (some ⟨b, 0, none⟩) 2 2)) H' fun v H' => ∃ s_4, v = .string s_4 ∧ chk (decide (ByteArray.size (s ++ s_1 ++ s_2)
 + ByteArray.size s_4 ≤ 9223372036854775807)) (chk (decide (ByteArray.size (s ++ s_1 ++ s_2 ++ s_4) + ByteArray.size s_3 ≤ 9223372036854775807)) (R (.tuple ⟨[.string (s ++ s_1 ++ s_2 ++ s_4 ++ s_3),
 .int .i64 0]⟩) H'))) ∧ cS 108 [.pointer a_3] H' fun s_3 H' => ∀ (b : Nat) (H'_2 : Heap), New H' b (.cells ⟨[.int .u8 (IntKind.wrap .u8 n_5), .int .u8 (IntKind.wrap .u8 n_6)]⟩ 5) H'_2 → SemWp
 Tryz.prog (convert 81 9 (.slice (some ⟨b, 0, none⟩) 2 2)) H'_2 fun v H' => ∃ s_4, v = .string s_4 ∧ chk (decide (ByteArray.size (s ++ s_1 ++ s_2) + ByteArray.size s_4 ≤ 9223372036854775807)) (chk
 (decide (ByteArray.size (s ++ s_1 ++ s_2 ++ s_4) + ByteArray.size s_3 ≤ 9223372036854775807)) (R (.tuple ⟨[.string (s ++ s_1 ++ s_2 ++ s_4 ++ s_3), .int .i64 0]⟩) H'))))))))))))) : CallH Tryz.prog
 66 (List.toArray [.slice l_a l_n l_c]) H R := vc_call (annOf [([0, 1, 0, 1, 1], .cut [(4, .one (.int .i64))]), ([1, 0, 0, 1, 0, 1, 1], .cut []), ([0, 0, 1, 0, 0, 1, 0, 1, 1], .cut [(55, .one
 .bool)]), ([0, 1, 1, 1, 1, 1], .reg [0, 0, 2, 6, 14, 30, 62, 127, 0, 256, 768, 1792, 3966, 8191, 16383] (.quiet 0 (.quiet 1 (.quiet 2 (.quiet 3 (.quiet 4 (.quiet 5 (.quiet 8 (.quiet 9 (.quiet 10
 (.quiet 11 (.pick (.alt 6 (.quiet 7 (.pick (.alt 12 (.quiet 13 (.quiet 14 .done)) .stop))) .stop))))))))))))), ([0, 1, 0, 1, 1, 1, 1, 1, 1, 1, 1, 1, 1], .cut [(6, .one .slice), (7, .one .slice), (8,
 .one (.int .i64)), (9, .one (.int .i64))]), ([0, 1, 1, 0, 0, 1, 0, 0, 1, 0, 1, 1, 1, 1, 1, 1, 1, 1, 1, 1], .reg [0, 0, 0, 6, 14, 30, 0, 0, 128, 448, 960, 1984, 4094, 8190, 16382, 32767, 65535]
 (.quiet 0 (.quiet 1 (.quiet 2 (.quiet 3 (.quiet 4 (.quiet 5 (.quiet 6 (.quiet 7 (.quiet 8 (.quiet 9 (.quiet 10 (.quiet 11 (.quiet 12 (.pick (.alt 13 (.pick (.alt 14 (.pick (.alt 15 (.quiet 16 .done)
 .stop)) .stop)) .stop)))))))))))))))), ([0, 1, 0, 1, 1, 1, 1, 1, 1, 1, 1, 1, 1, 1, 1, 1, 1], .cut [(14, .one (.int .i64))]), ([0, 1, 1, 1, 1, 1, 1, 1, 1, 1, 1, 1, 1, 1, 1, 1], .reg [0, 0, 2, 0, 8,
 30, 62, 127, 0, 256, 1023, 2047, 4095] (.quiet 0 (.quiet 1 (.quiet 2 (.quiet 3 (.quiet 4 (.quiet 8 (.pick (.alt 5 (.pick (.alt 6 (.quiet 7 (.pick (.alt 9 (.quiet 10 (.quiet 11 (.quiet 12 .done)))
 .stop))) (.alt 9 (.pick (.alt 6 (.quiet 7 (.quiet 10 (.quiet 11 (.quiet 12 .done)))) .stop)) .stop))) (.alt 9 (.pick (.alt 5 (.pick (.alt 6 (.quiet 7 (.quiet 10 (.quiet 11 (.quiet 12 .done))))
 .stop)) .stop)) .stop))))))))))]) followsAll Tryz.func66 rfl Tryz.ntmps66 rfl rfl (Eq.mpr (by kernel_rfl) h)
abbrev fn_ref13_Put : Nat := 67
theorem vc_ref13_Put (l_a : Option Addr) (l_n : Nat) (l_c : Nat) (rows_a : Option Addr) (rows_n : Nat) (rows_c : Nat) (H : Heap) (R : Value → Heap → Prop) (h : ∃ (I : IV) (μ : MU), I [.slice l_a l_n
 l_c, .int .i64 0] H ∧ ∀ (J : F) (a : Option Addr) (n c : Nat) (n_1 : Int) (H' : Heap), I [.slice a n c, .int .i64 n_1] H' → brB (decide (n_1 < (↑rows_n : Int))) (ix rows_a n_1 rows_n fun ad => (∃
 n_2 n_3 n_4, lD 26 H' (Addr.add ad (Int.toNat n_1 * 3)) (.agg ⟨[.int .i64 n_2, .int .i64 n_3, .int .i64 n_4]⟩) ∧ ∀ (b : Nat) (H'_1 : Heap), New H' b (.cells ⟨[.int .i64 0, .int .i64 0, .int .i64 0]⟩
 26) H'_1 → ∃ H'_2, sT 26 H'_1 ⟨b, 0, none⟩ (.agg ⟨[.int .i64 n_2, .int .i64 n_3, .int .i64 n_4]⟩) H'_2 ∧ ∃ n_5, lD 3 H'_2 ⟨b, 0, none⟩ (.int .i64 n_5) ∧ ∃ n_6, lD 3 H'_2 ⟨b, 2, none⟩ (.int .i64 n_6)
 ∧ ∀ (b_1 : Nat) (H'_3 : Heap), New H'_2 b_1 (.cells ⟨[.int .i64 n_5, .int .i64 n_6]⟩ 107) H'_3 → ∀ (b_2 : Nat) (H'_4 : Heap), New H'_3 b_2 (.cells ⟨[]⟩ 117) H'_4 → ∃ (I_1 : IV) (μ_1 : MU), I_1
 [.slice (some ⟨b_2, 0, none⟩) 0 0, .bool false, .int .i64 0] H'_4 ∧ ∀ (J : F) (a_5 : Option Addr) (n_7 c_1 : Nat) (b_3 : Bool) (n_8 : Int) (H'_5 : Heap), I_1 [.slice a_5 n_7 c_1, .bool b_3, .int
 .i64 n_8] H'_5 → brB (decide (n_8 < (↑n : Int))) (∃ (M : IV), (∃ (M_1 : IV), (∃ (M : IV), brB (!b_3) (ix a n_8 n fun ad => (∃ n, lD 3 H'_5 (Addr.add ad (Int.toNat n_8 * 2)) (.int .i64 n) ∧ ∃ n_9, lD
 3 H'_5 ⟨b, 1, none⟩ (.int .i64 n_9) ∧ M [.bool (decide (n > n_9))] H'_5)) (M [.bool false] H'_5) ∧ ∀ (J : F) (b_4 : Bool) (H' : Heap), M [.bool b_4] H' → brB b_4 (∃ n, lD 3 H' ⟨b, 1, none⟩ (.int
 .i64 n) ∧ ∀ (b : Nat) (H'_6 : Heap), New H' b (.cells ⟨[.int .i64 n, .slice (some ⟨b_1, 0, none⟩) 1 1]⟩ 117) H'_6 → SemWp Tryz.prog (Builtin.append_ ⟨[62, 62]⟩ 62 ⟨[.slice a_5 n_7 c_1, .slice (some
 ⟨b, 0, none⟩) 1 1]⟩) H'_6 fun v H' => ∃ a n c, v = .slice a n c ∧ M_1 [.slice a n c, .bool true] H') (M_1 [.slice a_5 n_7 c_1, .bool b_3] H')) ∧ ∀ (J : F) (a_7 : Option Addr) (n_9 c : Nat) (b_4 :
 Bool) (H' : Heap), M_1 [.slice a_7 n_9 c, .bool b_4] H' → ix a n_8 n fun ad => (∃ n_10, lD 3 H' (Addr.add ad (Int.toNat n_8 * 2)) (.int .i64 n_10) ∧ ∃ n_11, lD 3 H' ⟨b, 1, none⟩ (.int .i64 n_11) ∧
 brB (n_10 == n_11) (∃ n_12, lD 3 H' ⟨b, 1, none⟩ (.int .i64 n_12) ∧ ix a n_8 n fun ad => (∃ a n c_2, lD 90 H' (Addr.add (Addr.add ad (Int.toNat n_8 * 2)) 1) (.slice a n c_2) ∧ cL 109 [.slice a n
 c_2, .slice (some ⟨b_1, 0, none⟩) 1 1] H' fun a n c_3 H' => lD 3 H' ⟨b, 1, none⟩ (.int .i64 n_12) ∧ ∀ (b : Nat) (H'_6 : Heap), New H' b (.cells ⟨[.int .i64 n_12, .slice a n c_3]⟩ 117) H'_6 → SemWp
 Tryz.prog (Builtin.append_ ⟨[62, 62]⟩ 62 ⟨[.slice a_7 n_9 c, .slice (some ⟨b, 0, none⟩) 1 1]⟩) H'_6 fun v H' => ∃ a n c, v = .slice a n c ∧ M [.slice a n c, .bool true] H')) (ix a n_8 n fun ad => (∃
 n a n_12 c_2, lD 117 H' (Addr.add ad (Int.toNat n_8 * 2)) (.agg ⟨[.int .i64 n, .slice a n_12 c_2]⟩) ∧ ∀ (b : Nat) (H'_6 : Heap), New H' b (.cells ⟨[.int .i64 n, .slice a n_12 c_2]⟩ 117) H'_6 → SemWp
 Tryz.prog (Builtin.append_ ⟨[62, 62]⟩ 62 ⟨[.slice a_7 n_9 c, .slice (some ⟨b, 0, none⟩) 1 1]⟩) H'_6 fun v H' => ∃ a n c, v = .slice a n c ∧ M [.slice a n c, .bool b_4] H')))) ∧ ∀ (J : F) (a : Option
 Addr) (n c : Nat) (b : Bool) (H' : Heap), M [.slice a n c, .bool b] H' → I_1 [.slice a n c, .bool b, .int .i64 (IntKind.wrap .i64 (n_8 + 1))] H' ∧ μ_1 [.slice a n c, .bool b, .int .i64 (IntKind.wrap
 .i64 (n_8 + 1))] H' < μ_1 [.slice a_5 n_7 c_1, .bool b_3, .int .i64 n_8] H'_5) (brB (!b_3) (∃ n_9, lD 3 H'_5 ⟨b, 1, none⟩ (.int .i64 n_9) ∧ ∀ (b : Nat) (H'_6 : Heap), New H'_5 b (.cells ⟨[.int .i64
 n_9, .slice (some ⟨b_1, 0, none⟩) 1 1]⟩ 117) H'_6 → SemWp Tryz.prog (Builtin.append_ ⟨[62, 62]⟩ 62 ⟨[.slice a_5 n_7 c_1, .slice (some ⟨b, 0, none⟩) 1 1]⟩) H'_6 fun v H'_7 => ∃ a_8 n_10 c_2, v =
 .slice a_8 n_10 c_2 ∧ I [.slice a_8 n_10 c_2, .int .i64 (IntKind.wrap .i64 (n_1 + 1))] H'_7 ∧ μ [.slice a_8 n_10 c_2, .int .i64 (IntKind.wrap .i64 (n_1 + 1))] H'_7 < μ [.slice a n c, .int .i64 n_1]
 H') (I [.slice a_5 n_7 c_1, .int .i64 (IntKind.wrap .i64 (n_1 + 1))] H'_5 ∧ μ [.slice a_5 n_7 c_1, .int .i64 (IntKind.wrap .i64 (n_1 + 1))] H'_5 < μ [.slice a n c, .int .i64 n_1] H')))) (R (.slice a
 n c) H')) : CallH Tryz.prog 67 (List.toArray [.slice l_a l_n l_c, .slice rows_a rows_n rows_c]) H R := vc_call (annOf [([0, 1, 0, 1], .cut [(0, .one .slice), (5, .one (.int .i64))]), ([0, 1, 0, 1,
 1, 1, 1, 0, 0, 1, 0, 0, 1, 0, 1], .cut [(8, .one .slice), (9, .one .bool), (10, .one (.int .i64))]), ([1, 0, 0, 1, 0, 1, 1, 1, 1, 0, 0, 1, 0, 0, 1, 0, 1], .cut [(8, .one .slice), (9, .one .bool)]),
 ([0, 0, 1, 0, 0, 1, 0, 1, 1, 1, 1, 0, 0, 1, 0, 0, 1, 0, 1], .cut [(8, .one .slice), (9, .one .bool)]), ([0, 0, 0, 1, 0, 0, 1, 0, 1, 1, 1, 1, 0, 0, 1, 0, 0, 1, 0, 1], .cut [(45, .one .bool)]), ([0,
 0, 1, 1, 0, 0, 1, 0, 0, 1, 0, 1, 1, 1, 1, 0, 0, 1, 0, 0, 1, 0, 1], .reg [0, 0, 2, 0, 0, 24, 56, 120, 0, 504, 1022, 2046, 4095, 8191] (.quiet 0 (.quiet 1 (.quiet 2 (.quiet 3 (.quiet 4 (.quiet 5
 (.quiet 6 (.quiet 7 (.quiet 8 (.pick (.alt 9 (.quiet 10 (.pick (.alt 11 (.pick (.alt 12 (.quiet 13 .done) .stop)) .stop))) .stop))))))))))))]) followsAll Tryz.func67 rfl Tryz.ntmps67 rfl rfl (Eq.mpr
 (by kernel_rfl) h)
abbrev fn_ref16_u : Nat := 68
theorem vc_ref16_u (n : Int) (H : Heap) (R : Value → Heap → Prop) (h : cS 65 [.int .u64 (IntKind.wrap .u64 n)] H fun s H' => R (.string s) H') : CallH Tryz.prog 68 (List.toArray [.int .i64 n]) H R
 := vc_call (annOf []) followsAll Tryz.func68 rfl Tryz.ntmps68 rfl rfl (Eq.mpr (by kernel_rfl) h)
abbrev fn_ref16_block : Nat := 69
theorem vc_ref16_block (rows_a : Option Addr) (rows_n : Nat) (rows_c : Nat) (H : Heap) (R : Value → Heap → Prop) (h : ix rows_a (0) rows_n fun ad => (∃ n, lD 3 H ad (.int .i64 n) ∧ ∃ (I : IV) (μ :
 MU), I [.string { data := #[] }, .int .i64 n, .int .i64 0] H ∧ ∀ (J : F) (s : ByteArray) (n n_1 : Int) (H' : Heap), I [.string s, .int .i64 n, .int .i64 n_1] H' → brB (decide (n_1 < (↑rows_n :
 Int))) (ix rows_a n_1 rows_n fun ad => (∃ n_2, lD 3 H' (Addr.add ad (Int.toNat n_1 * 3)) (.int .i64 n_2) ∧ ix rows_a n_1 rows_n fun ad => (∃ n_3, lD 3 H' (Addr.add (Addr.add ad (Int.toNat n_1 * 3))
 1) (.int .i64 n_3) ∧ exSome rows_a fun ad_1 => chk (decide (0 ≤ n_1 ∧ n_1 < (↑rows_n : Int))) (∃ n_4, lD 3 H' (Addr.add (Addr.add ad_1 (Int.toNat n_1 * 3)) 2) (.int .i64 n_4) ∧ cS 68 [.int .i64
 (IntKind.wrap .i64 (n_2 - n))] H' fun s_1 H'_1 => lD 3 H'_1 (Addr.add (Addr.add ad_1 (Int.toNat n_1 * 3)) 2) (.int .i64 n_4) ∧ lD 3 H'_1 (Addr.add (Addr.add ad (Int.toNat n_1 * 3)) 1) (.int .i64
 n_3) ∧ chk (decide (ByteArray.size s + ByteArray.size s_1 ≤ 9223372036854775807)) (cS 68 [.int .i64 n_3] H'_1 fun s_2 H'_2 => lD 3 H'_2 (Addr.add (Addr.add ad_1 (Int.toNat n_1 * 3)) 2) (.int .i64
 n_4) ∧ chk (decide (ByteArray.size (s ++ s_1) + ByteArray.size s_2 ≤ 9223372036854775807)) (cS 103 [.int .i64 n_4] H'_2 fun s_3 H'_3 => chk (decide (ByteArray.size (s ++ s_1 ++ s_2) + ByteArray.size
 s_3 ≤ 9223372036854775807)) (ix rows_a n_1 rows_n fun ad => (∃ n_5, lD 3 H'_3 (Addr.add ad (Int.toNat n_1 * 3)) (.int .i64 n_5) ∧ I [.string (s ++ s_1 ++ s_2 ++ s_3), .int .i64 n_5, .int .i64
 (IntKind.wrap .i64 (n_1 + 1))] H'_3 ∧ μ [.string (s ++ s_1 ++ s_2 ++ s_3), .int .i64 n_5, .int .i64 (IntKind.wrap .i64 (n_1 + 1))] H'_3 < μ [.string s, .int .i64 n, .int .i64 n_1] H')))))))) (R
 (.string s) H'))) : CallH Tryz.prog 69 (List.toArray [.slice rows_a rows_n rows_c]) H R := vc_call (annOf [([0, 1, 0, 1, 1, 1], .cut [(3, .one .str), (4, .one (.int .i64)), (5, .one (.int .i64))]),
 ([0, 0, 0, 1, 0, 0, 1, 0, 1, 1, 1], .reg [0, 0, 0, 6, 14, 30, 0, 126, 254, 511, 0, 0, 3072, 7168, 15360, 32254, 65535, 0, 0, 393216, 917504, 1966080, 4128254, 8388607, 16777215] (.quiet 0 (.quiet 1
 (.quiet 2 (.quiet 3 (.quiet 4 (.quiet 5 (.quiet 6 (.quiet 7 (.quiet 10 (.quiet 11 (.quiet 12 (.quiet 13 (.quiet 14 (.quiet 17 (.quiet 18 (.quiet 19 (.quiet 20 (.quiet 21 (.pick (.alt 8 (.quiet 9
 (.pick (.alt 15 (.quiet 16 (.pick (.alt 22 (.quiet 23 (.quiet 24 .done)) .stop))) .stop))) .stop)))))))))))))))))))))]) followsAll Tryz.func69 rfl Tryz.ntmps69 rfl rfl (Eq.mpr (by kernel_rfl) h)
abbrev fn_slices_Reverse___api_Sample_api_Sample_ : Nat := 70
theorem vc_slices_Reverse___api_Sample_api_Sample_ (s_a : Option Addr) (s_n : Nat) (s_c : Nat) (H : Heap) (R : Value → Heap → Prop) (h : ∃ (I : IV) (μ : MU), I [.int .i64 0, .int .i64 (IntKind.wrap
 .i64 ((↑s_n : Int) - 1))] H ∧ ∀ (J : F) (n n_1 : Int) (H' : Heap), I [.int .i64 n, .int .i64 n_1] H' → brB (decide (n < n_1)) (ix s_a n_1 s_n fun ad => (∃ n_2 n_3, lD 107 H' (Addr.add ad (Int.toNat
 n_1 * 2)) (.agg ⟨[.int .i64 n_2, .int .i64 n_3]⟩) ∧ ix s_a n s_n fun ad => (∃ n_4 n_5, lD 107 H' (Addr.add ad (Int.toNat n * 2)) (.agg ⟨[.int .i64 n_4, .int .i64 n_5]⟩) ∧ ix s_a n s_n fun ad => (∃
 H'_1, sT 107 H' (Addr.add ad (Int.toNat n * 2)) (.agg ⟨[.int .i64 n_2, .int .i64 n_3]⟩) H'_1 ∧ ix s_a n_1 s_n fun ad => (∃ H'_2, sT 107 H'_1 (Addr.add ad (Int.toNat n_1 * 2)) (.agg ⟨[.int .i64 n_4,
 .int .i64 n_5]⟩) H'_2 ∧ I [.int .i64 (IntKind.wrap .i64 (n + 1)), .int .i64 (IntKind.wrap .i64 (n_1 - 1))] H'_2 ∧ μ [.int .i64 (IntKind.wrap .i64 (n + 1)), .int .i64 (IntKind.wrap .i64 (n_1 - 1))]
 H'_2 < μ [.int .i64 n, .int .i64 n_1] H'))))) (R (.tuple ⟨[]⟩) H')) : CallH Tryz.prog 70 (List.toArray [.slice s_a s_n s_c]) H R := vc_call (annOf [([0, 1], .cut [(2, .one (.int .i64)), (3, .one
 (.int .i64))]), ([0, 0, 1, 0, 0, 1], .reg [0, 0, 0, 0, 0, 0, 48, 112, 0, 0, 768, 1792, 4083, 8179, 16383, 32767] (.quiet 0 (.quiet 1 (.quiet 2 (.quiet 3 (.quiet 4 (.quiet 5 (.quiet 6 (.quiet 7
 (.quiet 8 (.quiet 9 (.quiet 10 (.quiet 11 (.quiet 12 (.pick (.alt 13 (.quiet 14 (.pick (.alt 15 (.done) .stop))) .stop))))))))))))))))]) followsAll Tryz.func70 rfl Tryz.ntmps70 rfl rfl (Eq.mpr (by
 kernel_rfl) h)
abbrev fn_slices_SortStableFunc___api_Sample_api_Sample_ : Nat := 71
theorem vc_slices_SortStableFunc___api_Sample_api_Sample_ (x_a : Option Addr) (x_n : Nat) (x_c : Nat) (cmp : Value) (H : Heap) (R : Value → Heap → Prop) (h : cU 110 [.slice x_a x_n x_c, .int .i64
 (↑x_n : Int), cmp] H fun H' => R (.tuple ⟨[]⟩) H') : CallH Tryz.prog 71 (List.toArray [.slice x_a x_n x_c, cmp]) H R := vc_call (annOf []) followsAll Tryz.func71 rfl Tryz.ntmps71 rfl rfl (Eq.mpr (by
 kernel_rfl) h)
abbrev fn_series_byTime : Nat := 72
theorem vc_series_byTime (x_0 : Int) (x_1 : Int) (y_0 : Int) (y_1 : Int) (H : Heap) (R : Value → Heap → Prop) (h : ∀ (b : Nat) (H' : Heap), New H b (.cells ⟨[.int .i64 x_0, .int .i64 x_1]⟩ 107) H' →
 ∀ (b_1 : Nat) (H'_1 : Heap), New H' b_1 (.cells ⟨[.int .i64 y_0, .int .i64 y_1]⟩ 107) H'_1 → ∃ n, lD 3 H'_1 ⟨b, 0, none⟩ (.int .i64 n) ∧ ∃ n_1, lD 3 H'_1 ⟨b_1, 0, none⟩ (.int .i64 n_1) ∧ cI 76 [.int
 .i64 n, .int .i64 n_1] H'_1 fun n H' => R (.int .i64 n) H') : CallH Tryz.prog 72 (List.toArray [.agg #[.int .i64 x_0, .int .i64 x_1], .agg #[.int .i64 y_0, .int .i64 y_1]]) H R := vc_call (annOf [])
 followsAll Tryz.func72 rfl Tryz.ntmps72 rfl rfl (Eq.mpr (by kernel_rfl) h)
abbrev fn_slices_CompactFunc___api_Sample_api_Sample_ : Nat := 73
theorem vc_slices_CompactFunc___api_Sample_api_Sample_ (s_a : Option Addr) (s_n : Nat) (s_c : Nat) (eq : Value) (H : Heap) (R : Value → Heap → Prop) (h : brB (decide ((↑s_n : Int) < 2)) (R (.slice
 s_a s_n s_c) H) (∃ (I : IV) (μ : MU), I [.int .i64 1] H ∧ ∀ (J : F) (n : Int) (H' : Heap), I [.int .i64 n] H' → brB (decide (n < (↑s_n : Int))) (ix s_a n s_n fun ad => (∃ n_1 n_2, lD 107 H'
 (Addr.add ad (Int.toNat n * 2)) (.agg ⟨[.int .i64 n_1, .int .i64 n_2]⟩) ∧ ix s_a (IntKind.wrap .i64 (n - 1)) s_n fun ad => (∃ n_3 n_4, lD 107 H' (Addr.add ad (Int.toNat (IntKind.wrap .i64 (n - 1)) *
 2)) (.agg ⟨[.int .i64 n_3, .int .i64 n_4]⟩) ∧ CallV Tryz.prog eq [.agg ⟨[.int .i64 n_1, .int .i64 n_2]⟩, .agg ⟨[.int .i64 n_3, .int .i64 n_4]⟩] H' fun v H'_1 => ∃ b, v = .bool b ∧ brB b (chk (decide
 (0 ≤ n ∧ n ≤ (↑s_n : Int) ∧ (↑s_n : Int) ≤ (↑s_c : Int))) (∃ (I : IV) (μ : MU), I [.int .i64 n, .int .i64 1] H'_1 ∧ ∀ (J : F) (n_5 n_6 : Int) (H' : Heap), I [.int .i64 n_5, .int .i64 n_6] H' → brB
 (decide (n_6 < (↑(Int.toNat (↑s_n : Int) - Int.toNat n) : Int))) (exSome (slA s_c (Int.toNat n) 2 s_a) fun ad => chk (decide (0 ≤ n_6 ∧ n_6 < (↑(Int.toNat (↑s_n : Int) - Int.toNat n) : Int))) (∃ n_7
 n_8, lD 107 H' (Addr.add ad (Int.toNat n_6 * 2)) (.agg ⟨[.int .i64 n_7, .int .i64 n_8]⟩) ∧ exSome (slA s_c (Int.toNat n) 2 s_a) fun ad => chk (decide (0 ≤ IntKind.wrap .i64 (n_6 - 1) ∧ IntKind.wrap
 .i64 (n_6 - 1) < (↑(Int.toNat (↑s_n : Int) - Int.toNat n) : Int))) (∃ n_9 n_10, lD 107 H' (Addr.add ad (Int.toNat (IntKind.wrap .i64 (n_6 - 1)) * 2)) (.agg ⟨[.int .i64 n_9, .int .i64 n_10]⟩) ∧ CallV
 Tryz.prog eq [.agg ⟨[.int .i64 n_7, .int .i64 n_8]⟩, .agg ⟨[.int .i64 n_9, .int .i64 n_10]⟩] H' fun v H'_2 => ∃ b, v = .bool b ∧ brB (!b) (exSome (slA s_c (Int.toNat n) 2 s_a) fun ad => chk (decide
 (0 ≤ n_6 ∧ n_6 < (↑(Int.toNat (↑s_n : Int) - Int.toNat n) : Int))) (∃ n n_11, lD 107 H'_2 (Addr.add ad (Int.toNat n_6 * 2)) (.agg ⟨[.int .i64 n, .int .i64 n_11]⟩) ∧ ix s_a n_5 s_n fun ad => (∃ H'_3,
 sT 107 H'_2 (Addr.add ad (Int.toNat n_5 * 2)) (.agg ⟨[.int .i64 n, .int .i64 n_11]⟩) H'_3 ∧ I [.int .i64 (IntKind.wrap .i64 (n_5 + 1)), .int .i64 (IntKind.wrap .i64 (n_6 + 1))] H'_3 ∧ μ [.int .i64
 (IntKind.wrap .i64 (n_5 + 1)), .int .i64 (IntKind.wrap .i64 (n_6 + 1))] H'_3 < μ [.int .i64 n_5, .int .i64 n_6] H'))) (I [.int .i64 n_5, .int .i64 (IntKind.wrap .i64 (n_6 + 1))] H'_2 ∧ μ [.int .i64
 n_5, .int .i64 (IntKind.wrap .i64 (n_6 + 1))] H'_2 < μ [.int .i64 n_5, .int .i64 n_6] H')))) (chk (decide (0 ≤ n_5 ∧ n_5 ≤ (↑s_n : Int) ∧ (↑s_n : Int) ≤ (↑s_c : Int))) (SemWp Tryz.prog
 (Builtin.clear_ ⟨[90]⟩ 0 ⟨[.slice (slA s_c (Int.toNat n_5) 2 s_a) (Int.toNat (↑s_n : Int) - Int.toNat n_5) (s_c - Int.toNat n_5)]⟩) H' fun v H' => v = .tuple ⟨[]⟩ ∧ chk (decide ((0 : Int) ≤ (0 :
 Int) ∧ 0 ≤ n_5 ∧ n_5 ≤ (↑s_c : Int))) (R (.slice s_a (Int.toNat n_5 - 0) (s_c - 0)) H'))))) (I [.int .i64 (IntKind.wrap .i64 (n + 1))] H'_1 ∧ μ [.int .i64 (IntKind.wrap .i64 (n + 1))] H'_1 < μ [.int
 .i64 n] H')))) (R (.slice s_a s_n s_c) H'))) : CallH Tryz.prog 73 (List.toArray [.slice s_a s_n s_c, eq]) H R := vc_call (annOf [([0, 1, 0, 1, 1], .cut [(5, .one (.int .i64))]), ([0, 0, 0, 1, 0, 0,
 1, 0, 1, 1], .tail 10), ([0, 1, 0, 1, 0, 1, 0, 0, 1, 0, 0, 1, 0, 1, 1], .cut [(5, .one (.int .i64)), (7, .one (.int .i64))]), ([0, 0, 0, 1, 0, 0, 1, 0, 1, 0, 1, 0, 0, 1, 0, 0, 1, 0, 1, 1], .tail
 10)]) followsAll Tryz.func73 rfl Tryz.ntmps73 rfl rfl (Eq.mpr (by kernel_rfl) h)
theorem vc_series_Put_1 (x_0 : Int) (x_1 : Int) (y_0 : Int) (y_1 : Int) (H : Heap) (R : Value → Heap → Prop) (h : ∀ (b : Nat) (H' : Heap), New H b (.cells ⟨[.int .i64 x_0, .int .i64 x_1]⟩ 107) H' →
 ∀ (b_1 : Nat) (H'_1 : Heap), New H' b_1 (.cells ⟨[.int .i64 y_0, .int .i64 y_1]⟩ 107) H'_1 → ∃ n, lD 3 H'_1 ⟨b, 0, none⟩ (.int .i64 n) ∧ ∃ n_1, lD 3 H'_1 ⟨b_1, 0, none⟩ (.int .i64 n_1) ∧ R (.bool (n
 == n_1)) H'_1) : CallH Tryz.prog 74 (List.toArray [.agg #[.int .i64 x_0, .int .i64 x_1], .agg #[.int .i64 y_0, .int .i64 y_1]]) H R := vc_call (annOf []) followsAll Tryz.func74 rfl Tryz.ntmps74 rfl
 rfl (Eq.mpr (by kernel_rfl) h)
abbrev fn_series_Put_2 : Nat := 75
theorem vc_series_Put_2 (x_0 : Int) (x_1_a : Option Addr) (x_1_n : Nat) (x_1_c : Nat) (y_0 : Int) (y_1_a : Option Addr) (y_1_n : Nat) (y_1_c : Nat) (H : Heap) (R : Value → Heap → Prop) (h : ∀ (b :
 Nat) (H' : Heap), New H b (.cells ⟨[.int .i64 x_0, .slice x_1_a x_1_n x_1_c]⟩ 92) H' → ∀ (b_1 : Nat) (H'_1 : Heap), New H' b_1 (.cells ⟨[.int .i64 y_0, .slice y_1_a y_1_n y_1_c]⟩ 92) H'_1 → ∃ n, lD
 3 H'_1 ⟨b, 0, none⟩ (.int .i64 n) ∧ ∃ n_1, lD 3 H'_1 ⟨b_1, 0, none⟩ (.int .i64 n_1) ∧ cI 76 [.int .i64 n, .int .i64 n_1] H'_1 fun n H' => R (.int .i64 n) H') : CallH Tryz.prog 75 (List.toArray [.agg
 #[.int .i64 x_0, .slice x_1_a x_1_n x_1_c], .agg #[.int .i64 y_0, .slice y_1_a y_1_n y_1_c]]) H R := vc_call (annOf []) followsAll Tryz.func75 rfl Tryz.ntmps75 rfl rfl (Eq.mpr (by kernel_rfl) h)
abbrev fn_cmp_Compare_int_ : Nat := 76
theorem vc_cmp_Compare_int_ (x : Int) (y : Int) (H : Heap) (R : Value → Heap → Prop) (h : cB 111 [.int .i64 x] H fun b H' => cB 111 [.int .i64 y] H' fun b_1 H' => brB b (brB b_1 (R (.int .i64 0) H')
 (R (.int .i64 (-1 : Int)) H')) (brB b_1 (R (.int .i64 1) H') (brB (decide (x < y)) (R (.int .i64 (-1 : Int)) H') (brB (decide (x > y)) (R (.int .i64 1) H') (R (.int .i64 0) H'))))) : CallH Tryz.prog
 76 (List.toArray [.int .i64 x, .int .i64 y]) H R := vc_call (annOf []) followsAll Tryz.func76 rfl Tryz.ntmps76 rfl rfl (Eq.mpr (by kernel_rfl) h)
abbrev fn_slices_BinarySearchFunc___series_Series_series_Series_series_Series_ : Nat := 78
theorem vc_slices_BinarySearchFunc___series_Series_series_Series_series_Series_ (x_a : Option Addr) (x_n : Nat) (x_c : Nat) (target_0 : Int) (target_1_a : Option Addr) (target_1_n : Nat) (target_1_c
 : Nat) (cmp : Value) (H : Heap) (R : Value → Heap → Prop) (h : ∀ (b : Nat) (H' : Heap), New H b (.cells ⟨[.int .i64 target_0, .slice target_1_a target_1_n target_1_c]⟩ 92) H' → ∃ (I : IV) (μ : MU),
 I [.int .i64 0, .int .i64 (↑x_n : Int)] H' ∧ ∀ (J : F) (n n_1 : Int) (H' : Heap), I [.int .i64 n, .int .i64 n_1] H' → brB (decide (n < n_1)) (ix x_a (IntKind.wrap .i64 (Int.fdiv (IntKind.wrap .u64
 (IntKind.wrap .i64 (n + n_1))) (2 ^ 1))) x_n fun ad => (∃ n_2 a n_3 c, lD 92 H' (Addr.add ad (Int.toNat (IntKind.wrap .i64 (Int.fdiv (IntKind.wrap .u64 (IntKind.wrap .i64 (n + n_1))) (2 ^ 1))) * 2))
 (.agg ⟨[.int .i64 n_2, .slice a n_3 c]⟩) ∧ ∃ n_4 a_1 n_5 c_1, lD 92 H' ⟨b, 0, none⟩ (.agg ⟨[.int .i64 n_4, .slice a_1 n_5 c_1]⟩) ∧ CallV Tryz.prog cmp [.agg ⟨[.int .i64 n_2, .slice a n_3 c]⟩, .agg
 ⟨[.int .i64 n_4, .slice a_1 n_5 c_1]⟩] H' fun v H'_1 => ∃ n_6, v = .int .i64 n_6 ∧ brB (decide (n_6 < 0)) (I [.int .i64 (IntKind.wrap .i64 (IntKind.wrap .i64 (Int.fdiv (IntKind.wrap .u64
 (IntKind.wrap .i64 (n + n_1))) (2 ^ 1)) + 1)), .int .i64 n_1] H'_1 ∧ μ [.int .i64 (IntKind.wrap .i64 (IntKind.wrap .i64 (Int.fdiv (IntKind.wrap .u64 (IntKind.wrap .i64 (n + n_1))) (2 ^ 1)) + 1)),
 .int .i64 n_1] H'_1 < μ [.int .i64 n, .int .i64 n_1] H') (I [.int .i64 n, .int .i64 (IntKind.wrap .i64 (Int.fdiv (IntKind.wrap .u64 (IntKind.wrap .i64 (n + n_1))) (2 ^ 1)))] H'_1 ∧ μ [.int .i64 n,
 .int .i64 (IntKind.wrap .i64 (Int.fdiv (IntKind.wrap .u64 (IntKind.wrap .i64 (n + n_1))) (2 ^ 1)))] H'_1 < μ [.int .i64 n, .int .i64 n_1] H'))) (brB (decide (n < (↑x_n : Int))) (ix x_a n x_n fun ad
 => (∃ n_2 a n_3 c, lD 92 H' (Addr.add ad (Int.toNat n * 2)) (.agg ⟨[.int .i64 n_2, .slice a n_3 c]⟩) ∧ ∃ n_4 a_1 n_5 c_1, lD 92 H' ⟨b, 0, none⟩ (.agg ⟨[.int .i64 n_4, .slice a_1 n_5 c_1]⟩) ∧ CallV
 Tryz.prog cmp [.agg ⟨[.int .i64 n_2, .slice a n_3 c]⟩, .agg ⟨[.int .i64 n_4, .slice a_1 n_5 c_1]⟩] H' fun v H' => ∃ n_6, v = .int .i64 n_6 ∧ R (.tuple ⟨[.int .i64 n, .bool (n_6 == 0)]⟩) H')) (R
 (.tuple ⟨[.int .i64 n, .bool false]⟩) H'))) : CallH Tryz.prog 78 (List.toArray [.slice x_a x_n x_c, .agg #[.int .i64 target_0, .slice target_1_a target_1_n target_1_c], cmp]) H R := vc_call (annOf
 [([0, 0, 1, 1, 1], .cut [(9, .one (.int .i64)), (10, .one (.int .i64))]), ([0, 1, 0, 1, 0, 0, 0, 1, 1, 1], .tail 6), ([0, 1, 1, 1, 1], .reg [0, 0, 0, 6, 14, 30, 30, 30, 222, 478, 30, 2046, 4094,
 8190, 4095, 32767] (.quiet 0 (.quiet 1 (.quiet 2 (.quiet 3 (.quiet 4 (.quiet 5 (.quiet 6 (.quiet 7 (.quiet 8 (.quiet 9 (.quiet 10 (.pick (.alt 11 (.quiet 12 (.quiet 13 (.quiet 14 (.quiet 15
 .done)))) .stop))))))))))))))]) followsAll Tryz.func78 rfl Tryz.ntmps78 rfl rfl (Eq.mpr (by kernel_rfl) h)
abbrev fn_series_Merge : Nat := 79
theorem vc_series_Merge (a_a : Option Addr) (a_n : Nat) (a_c : Nat) (b_a : Option Addr) (b_n : Nat) (b_c : Nat) (H : Heap) (R : Value → Heap → Prop) (h : cL 114 [.slice a_a a_n a_c, .slice b_a b_n
 b_c, .func (Fn.func 72) ⟨[]⟩ ⟨[]⟩] H fun a n c H' => R (.slice a n c) H') : CallH Tryz.prog 79 (List.toArray [.slice a_a a_n a_c, .slice b_a b_n b_c]) H R := vc_call (annOf []) followsAll
 Tryz.func79 rfl Tryz.ntmps79 rfl rfl (Eq.mpr (by kernel_rfl) h)
abbrev fn_series_merge_series_Series_ : Nat := 80
theorem vc_series_merge_series_Series_ (a_a : Option Addr) (a_n : Nat) (a_c : Nat) (b_a : Option Addr) (b_n : Nat) (b_c : Nat) (order : Value) (H : Heap) (R : Value → Heap → Prop) (h : SemWp
 Tryz.prog (Instr.makeSlice 52 (.int .i64 0) (.int .i64 (IntKind.wrap .i64 ((↑a_n : Int) + (↑b_n : Int))))) H fun v H' => ∃ a n c, v = .slice a n c ∧ ∃ (I : IV) (μ : MU), I [.slice a_a a_n a_c,
 .slice b_a b_n b_c, .slice a n c] H' ∧ ∀ (J : F) (a : Option Addr) (n c : Nat) (a_1 : Option Addr) (n_1 c_1 : Nat) (a_2 : Option Addr) (n_2 c_2 : Nat) (H' : Heap), I [.slice a n c, .slice a_1 n_1
 c_1, .slice a_2 n_2 c_2] H' → ∃ (M : IV), brB (decide ((↑n : Int) > 0)) (brB (decide ((↑n_1 : Int) > 0)) (M [] H') (SemWp Tryz.prog (Builtin.append_ ⟨[52, 52]⟩ 52 ⟨[.slice a_2 n_2 c_2, .slice a n
 c]⟩) H' fun v H' => ∃ a n c, v = .slice a n c ∧ SemWp Tryz.prog (Builtin.append_ ⟨[52, 52]⟩ 52 ⟨[.slice a n c, .slice a_1 n_1 c_1]⟩) H' fun v H' => ∃ a n c, v = .slice a n c ∧ R (.slice a n c) H'))
 (SemWp Tryz.prog (Builtin.append_ ⟨[52, 52]⟩ 52 ⟨[.slice a_2 n_2 c_2, .slice a n c]⟩) H' fun v H' => ∃ a n c, v = .slice a n c ∧ SemWp Tryz.prog (Builtin.append_ ⟨[52, 52]⟩ 52 ⟨[.slice a n c, .slice
 a_1 n_1 c_1]⟩) H' fun v H' => ∃ a n c, v = .slice a n c ∧ R (.slice a n c) H') ∧ ∀ (J : F) (H'_1 : Heap), M [] H'_1 → ix a (0) n fun ad => (∃ n_3 a_5 n_4 c_3, lD 92 H'_1 ad (.agg ⟨[.int .i64 n_3,
 .slice a_5 n_4 c_3]⟩) ∧ ix a_1 (0) n_1 fun ad => (∃ n_5 a_6 n_6 c_4, lD 92 H'_1 ad (.agg ⟨[.int .i64 n_5, .slice a_6 n_6 c_4]⟩) ∧ CallV Tryz.prog order [.agg ⟨[.int .i64 n_3, .slice a_5 n_4 c_3]⟩,
 .agg ⟨[.int .i64 n_5, .slice a_6 n_6 c_4]⟩] H'_1 fun v H'_2 => ∃ n_7, v = .int .i64 n_7 ∧ brB (decide (n_7 < 0)) (ix a (0) n fun ad => (∃ n_8 a_7 n_9 c_5, lD 92 H'_2 ad (.agg ⟨[.int .i64 n_8, .slice
 a_7 n_9 c_5]⟩) ∧ chk (decide ((0 : Int) ≤ (1 : Int) ∧ 1 ≤ (↑n : Int) ∧ (↑n : Int) ≤ (↑c : Int))) (∀ (b : Nat) (H'_3 : Heap), New H'_2 b (.cells ⟨[.int .i64 n_8, .slice a_7 n_9 c_5]⟩ 92) H'_3 → SemWp
 Tryz.prog (Builtin.append_ ⟨[52, 52]⟩ 52 ⟨[.slice a_2 n_2 c_2, .slice (some ⟨b, 0, none⟩) 1 1]⟩) H'_3 fun v H'_4 => ∃ a_9 n_10 c_6, v = .slice a_9 n_10 c_6 ∧ I [.slice (slA c 1 2 a) (Int.toNat (↑n :
 Int) - 1) (c - 1), .slice a_1 n_1 c_1, .slice a_9 n_10 c_6] H'_4 ∧ μ [.slice (slA c 1 2 a) (Int.toNat (↑n : Int) - 1) (c - 1), .slice a_1 n_1 c_1, .slice a_9 n_10 c_6] H'_4 < μ [.slice a n c, .slice
 a_1 n_1 c_1, .slice a_2 n_2 c_2] H'))) (brB (n_7 == 0) (chk (decide ((0 : Int) ≤ (1 : Int) ∧ 1 ≤ (↑n : Int) ∧ (↑n : Int) ≤ (↑c : Int))) (ix a_1 (0) n_1 fun ad => (∃ n_8 a_7 n_9 c_5, lD 92 H'_2 ad
 (.agg ⟨[.int .i64 n_8, .slice a_7 n_9 c_5]⟩) ∧ chk (decide ((0 : Int) ≤ (1 : Int) ∧ 1 ≤ (↑n_1 : Int) ∧ (↑n_1 : Int) ≤ (↑c_1 : Int))) (∀ (b : Nat) (H'_3 : Heap), New H'_2 b (.cells ⟨[.int .i64 n_8,
 .slice a_7 n_9 c_5]⟩ 92) H'_3 → SemWp Tryz.prog (Builtin.append_ ⟨[52, 52]⟩ 52 ⟨[.slice a_2 n_2 c_2, .slice (some ⟨b, 0, none⟩) 1 1]⟩) H'_3 fun v H'_4 => ∃ a_9 n_10 c_6, v = .slice a_9 n_10 c_6 ∧ I
 [.slice (slA c 1 2 a) (Int.toNat (↑n : Int) - 1) (c - 1), .slice (slA c_1 1 2 a_1) (Int.toNat (↑n_1 : Int) - 1) (c_1 - 1), .slice a_9 n_10 c_6] H'_4 ∧ μ [.slice (slA c 1 2 a) (Int.toNat (↑n : Int) -
 1) (c - 1), .slice (slA c_1 1 2 a_1) (Int.toNat (↑n_1 : Int) - 1) (c_1 - 1), .slice a_9 n_10 c_6] H'_4 < μ [.slice a n c, .slice a_1 n_1 c_1, .slice a_2 n_2 c_2] H')))) (ix a_1 (0) n_1 fun ad => (∃
 n_8 a_7 n_9 c_5, lD 92 H'_2 ad (.agg ⟨[.int .i64 n_8, .slice a_7 n_9 c_5]⟩) ∧ chk (decide ((0 : Int) ≤ (1 : Int) ∧ 1 ≤ (↑n_1 : Int) ∧ (↑n_1 : Int) ≤ (↑c_1 : Int))) (∀ (b : Nat) (H'_3 : Heap), New
 H'_2 b (.cells ⟨[.int .i64 n_8, .slice a_7 n_9 c_5]⟩ 92) H'_3 → SemWp Tryz.prog (Builtin.append_ ⟨[52, 52]⟩ 52 ⟨[.slice a_2 n_2 c_2, .slice (some ⟨b, 0, none⟩) 1 1]⟩) H'_3 fun v H'_4 => ∃ a_9 n_10
 c_6, v = .slice a_9 n_10 c_6 ∧ I [.slice a n c, .slice (slA c_1 1 2 a_1) (Int.toNat (↑n_1 : Int) - 1) (c_1 - 1), .slice a_9 n_10 c_6] H'_4 ∧ μ [.slice a n c, .slice (slA c_1 1 2 a_1) (Int.toNat
 (↑n_1 : Int) - 1) (c_1 - 1), .slice a_9 n_10 c_6] H'_4 < μ [.slice a n c, .slice a_1 n_1 c_1, .slice a_2 n_2 c_2] H'))))))) : CallH Tryz.prog 80 (List.toArray [.slice a_a a_n a_c, .slice b_a b_n
 b_c, order]) H R := vc_call (annOf [([0, 0, 1, 1], .cut [(0, .one .slice), (1, .one .slice), (7, .one .slice)]), ([0, 0, 0, 1, 1], .cut []), ([0, 0, 1, 0, 0, 0, 1, 1], .tail 7), ([0, 0, 1, 0, 1, 0,
 1, 0, 0, 0, 1, 1], .reg [0, 0, 2, 6, 14, 31, 0, 64, 63, 511] (.quiet 0 (.quiet 1 (.quiet 2 (.quiet 3 (.quiet 6 (.quiet 7 (.pick (.alt 4 (.pick (.alt 5 (.quiet 8 (.quiet 9 .done)) .stop))
 .stop))))))))), ([1, 1, 1, 0, 1, 0, 0, 0, 1, 1], .reg [0, 0, 2, 6, 14, 31, 0, 64, 63, 511] (.quiet 0 (.quiet 1 (.quiet 2 (.quiet 3 (.quiet 6 (.quiet 7 (.pick (.alt 4 (.pick (.alt 5 (.quiet 8 (.quiet
 9 .done)) .stop)) .stop)))))))))]) followsAll Tryz.func80 rfl Tryz.ntmps80 rfl rfl (Eq.mpr (by kernel_rfl) h)
abbrev fn_slices_Clone___api_Sample_api_Sample_ : Nat := 81
theorem vc_slices_Clone___api_Sample_api_Sample_ (s_a : Option Addr) (s_n : Nat) (s_c : Nat) (H : Heap) (R : Value → Heap → Prop) (h : brB (Option.isNone s_a) (R (.slice none 0 0) H) (∀ (b : Nat)
 (H' : Heap), New H b (.cells ⟨[]⟩ 107) H' → SemWp Tryz.prog (Builtin.append_ ⟨[90, 90]⟩ 90 ⟨[.slice (some ⟨b, 0, none⟩) 0 0, .slice s_a s_n s_c]⟩) H' fun v H' => ∃ a n c, v = .slice a n c ∧ R
 (.slice a n c) H')) : CallH Tryz.prog 81 (List.toArray [.slice s_a s_n s_c]) H R := vc_call (annOf []) followsAll Tryz.func81 rfl Tryz.ntmps81 rfl rfl (Eq.mpr (by kernel_rfl) h)
abbrev fn_strings_Builder_copyCheck : Nat := 82
theorem vc_strings_Builder_copyCheck (b : Addr) (H : Heap) (R : Value → Heap → Prop) (h : ∃ a, lD 80 H b (.pointer a) ∧ brB (Option.isNone a) (SemWp Tryz.prog (convert 80 173 (.pointer (some b))) H
 fun v H' => ∃ v_1, v = v_1 ∧ ExtH Tryz.prog 115 ⟨[v_1]⟩ H' fun v H' => ∃ v_2, v = v_2 ∧ SemWp Tryz.prog (convert 173 80 v_2) H' fun v H' => ∃ a, v = .pointer a ∧ ∃ H'_1, sT 80 H' b (.pointer a) H'_1
 ∧ R (.tuple ⟨[]⟩) H'_1) (∃ a, lD 80 H b (.pointer a) ∧ ∃ r, RdA Tryz.prog (eqSem BinOp.neq 80 (Operand.tmp 17) (Operand.tmp 18) (.pointer a) (.pointer (some b))) (.bool r) ∧ brB r False (R (.tuple
 ⟨[]⟩) H))) : CallH Tryz.prog 82 (List.toArray [.pointer (some b)]) H R := vc_call (annOf []) followsAll Tryz.func82 rfl Tryz.ntmps82 rfl rfl (Eq.mpr (by kernel_rfl) h)
theorem vc_delta_numbers (l_a : Option Addr) (l_n : Nat) (l_c : Nat) (H : Heap) (R : Value → Heap → Prop) (h : ∀ (b : Nat) (H' : Heap), New H b (.cells ⟨[.slice l_a l_n l_c]⟩ 90) H' → R (.func
 (Fn.func 116) ⟨[]⟩ ⟨[.pointer (some ⟨b, 0, none⟩)]⟩) H') : CallH Tryz.prog 83 (List.toArray [.slice l_a l_n l_c]) H R := vc_call (annOf []) followsAll Tryz.func83 rfl Tryz.ntmps83 rfl rfl (Eq.mpr
 (by kernel_rfl) h)
abbrev fn_rice_Best : Nat := 84
theorem vc_rice_Best (l_a : Option Addr) (l_n : Nat) (l_c : Nat) (H : Heap) (R : Value → Heap → Prop) (h : ∀ (b : Nat) (H' : Heap), New H b (.cells ⟨[.slice l_a l_n l_c]⟩ 138) H' → ∃ a n c, lD 138
 H' ⟨b, 0, none⟩ (.slice a n c) ∧ cI 117 [.slice a n c, .int .i64 0] H' fun n H' => ∀ (b_1 : Nat) (H'_1 : Heap), New H' b_1 (.cells ⟨[.int .i64 0]⟩ 3) H'_1 → ∀ (b_2 : Nat) (H' : Heap), New H'_1 b_2
 (.cells ⟨[.int .i64 0]⟩ 3) H' → ∃ H'_2, sT 3 H' ⟨b_1, 0, none⟩ (.int .i64 0) H'_2 ∧ ∃ H', sT 3 H'_2 ⟨b_2, 0, none⟩ (.int .i64 n) H' ∧ ∃ (I : IV) (μ : MU), I [.int .i64 1] H' ∧ ∀ (J : F) (n : Int)
 (H' : Heap), I [.int .i64 n] H' → brB (decide (n ≤ 40)) (CallV Tryz.prog (.func (Fn.func 118) ⟨[]⟩ ⟨[.pointer (some ⟨b, 0, none⟩), .pointer (some ⟨b_2, 0, none⟩), .pointer (some ⟨b_1, 0, none⟩)]⟩)
 [.int .i64 n] H' fun v H'_3 => v = .tuple ⟨[]⟩ ∧ I [.int .i64 (IntKind.wrap .i64 (n + 1))] H'_3 ∧ μ [.int .i64 (IntKind.wrap .i64 (n + 1))] H'_3 < μ [.int .i64 n] H') (∃ n, lD 3 H' ⟨b_1, 0, none⟩
 (.int .i64 n) ∧ R (.int .i64 n) H')) : CallH Tryz.prog 84 (List.toArray [.slice l_a l_n l_c]) H R := vc_call (annOf [([0, 1, 0, 1, 1, 1], .cut [(6, .one (.int .i64))])]) followsAll Tryz.func84 rfl
 Tryz.ntmps84 rfl rfl (Eq.mpr (by kernel_rfl) h)
abbrev fn_rice_New : Nat := 85
theorem vc_rice_New (H : Heap) (R : Value → Heap → Prop) (h : ∀ (b : Nat) (H' : Heap), New H b (.cells ⟨[.pointer none, .slice none 0 0, .int .u64 0, .int .i64 0]⟩ 179) H' → R (.pointer (some ⟨b, 0,
 none⟩)) H') : CallH Tryz.prog 85 (List.toArray []) H R := vc_call (annOf []) followsAll Tryz.func85 rfl Tryz.ntmps85 rfl rfl (Eq.mpr (by kernel_rfl) h)
abbrev fn_rice_Writer_Rice : Nat := 86
theorem vc_rice_Writer_Rice (w : Addr) (n : Int) (k : Int) (H : Heap) (R : Value → Heap → Prop) (h : ∃ (M : IV), brB (decide (k < 0)) (R (.int .i64 1) H) (brB (decide (k > 40)) (R (.int .i64 1) H)
 (M [] H)) ∧ ∀ (J : F) (H' : Heap), M [] H' → chk (decide (0 ≤ IntKind.wrap .u64 k)) (brB (decide (Int.fdiv n (2 ^ min (Int.toNat (IntKind.wrap .u64 k)) (IntKind.bits .u64)) ≥ 24)) (cU 119 [.pointer
 (some w), .int .u64 16777215, .int .i64 24] H' fun H' => cU 119 [.pointer (some w), .int .u64 n, .int .i64 64] H' fun H' => R (.int .i64 0) H') (chk (decide (0 ≤ Int.fdiv n (2 ^ min (Int.toNat
 (IntKind.wrap .u64 k)) 64))) (cU 119 [.pointer (some w), .int .u64 (IntKind.wrap .u64 (IntKind.wrap .u64 (IntKind.wrap .u64 (1 * 2 ^ min (Int.toNat (Int.fdiv n (2 ^ min (Int.toNat (IntKind.wrap .u64
 k)) 64))) 64) - 1) * 2 ^ 1)), .int .i64 (IntKind.wrap .i64 (IntKind.wrap .i64 (Int.fdiv n (2 ^ min (Int.toNat (IntKind.wrap .u64 k)) 64)) + 1))] H' fun H' => chk (decide (0 ≤ IntKind.wrap .u64 k))
 (cU 119 [.pointer (some w), .int .u64 (IntKind.wrap .u64 (↑(BitVec.toNat (BitVec.ofInt 64 n &&& BitVec.ofInt 64 (IntKind.wrap .u64 (IntKind.wrap .u64 (1 * 2 ^ min (Int.toNat (IntKind.wrap .u64 k))
 64) - 1)))) : Int)), .int .i64 k] H' fun H' => R (.int .i64 0) H'))))) : CallH Tryz.prog 86 (List.toArray [.pointer (some w), .int .u64 n, .int .i64 k]) H R := vc_call (annOf [([1], .cut [])])
 followsAll Tryz.func86 rfl Tryz.ntmps86 rfl rfl (Eq.mpr (by kernel_rfl) h)
abbrev fn_rice_Writer_Bytes : Nat := 87
theorem vc_rice_Writer_Bytes (w : Addr) (H : Heap) (R : Value → Heap → Prop) (h : ∃ n, lD 3 H (Addr.add w 3) (.int .i64 n) ∧ brB (n == 0) (cS 47 [.pointer (some w)] H fun s H' => R (.string s) H')
 (∃ n, lD 89 H (Addr.add w 2) (.int .u64 n) ∧ ∃ n_1, lD 3 H (Addr.add w 3) (.int .i64 n_1) ∧ chk (decide (0 ≤ IntKind.wrap .u64 (IntKind.wrap .i64 (8 - n_1)))) ((cS 47 [.pointer (some w)] H fun s H'
 => lD 3 H' (Addr.add w 3) (.int .i64 n_1) ∧ lD 89 H' (Addr.add w 2) (.int .u64 n) ∧ ∀ (b : Nat) (H'_1 : Heap), New H' b (.cells ⟨[.int .u8 (IntKind.wrap .u8 (IntKind.wrap .u64 (n * 2 ^ min
 (Int.toNat (IntKind.wrap .u64 (IntKind.wrap .i64 (8 - n_1)))) 64)))]⟩ 5) H'_1 → SemWp Tryz.prog (convert 81 9 (.slice (some ⟨b, 0, none⟩) 1 1)) H'_1 fun v H' => ∃ s_1, v = .string s_1 ∧ chk (decide
 (ByteArray.size s + ByteArray.size s_1 ≤ 9223372036854775807)) (R (.string (s ++ s_1)) H')) ∧ ∀ (b : Nat) (H' : Heap), New H b (.cells ⟨[.int .u8 (IntKind.wrap .u8 (IntKind.wrap .u64 (n * 2 ^ min
 (Int.toNat (IntKind.wrap .u64 (IntKind.wrap .i64 (8 - n_1)))) 64)))]⟩ 5) H' → (cS 47 [.pointer (some w)] H' fun s H' => SemWp Tryz.prog (convert 81 9 (.slice (some ⟨b, 0, none⟩) 1 1)) H' fun v H' =>
 ∃ s_1, v = .string s_1 ∧ chk (decide (ByteArray.size s + ByteArray.size s_1 ≤ 9223372036854775807)) (R (.string (s ++ s_1)) H')) ∧ SemWp Tryz.prog (convert 81 9 (.slice (some ⟨b, 0, none⟩) 1 1)) H'
 fun v H' => ∃ s, v = .string s ∧ cS 47 [.pointer (some w)] H' fun s_1 H' => chk (decide (ByteArray.size s_1 + ByteArray.size s ≤ 9223372036854775807)) (R (.string (s_1 ++ s)) H')))) : CallH
 Tryz.prog 87 (List.toArray [.pointer (some w)]) H R := vc_call (annOf [([0, 1, 1], .reg [0, 1, 3, 7, 0, 16, 48, 112, 0, 256, 768, 1792, 3840, 7936, 16368, 32752, 65520, 131056, 262143, 524287]
 (.quiet 0 (.quiet 1 (.quiet 2 (.quiet 4 (.quiet 5 (.quiet 6 (.quiet 7 (.quiet 8 (.quiet 9 (.quiet 10 (.quiet 11 (.quiet 12 (.quiet 13 (.quiet 14 (.quiet 15 (.pick (.alt 3 (.pick (.alt 16 (.pick
 (.alt 17 (.quiet 18 (.quiet 19 .done)) .stop)) .stop)) (.alt 16 (.pick (.alt 3 (.pick (.alt 17 (.quiet 18 (.quiet 19 .done)) .stop)) (.alt 17 (.pick (.alt 3 (.quiet 18 (.quiet 19 .done)) .stop))
 .stop))) .stop)))))))))))))))))))]) followsAll Tryz.func87 rfl Tryz.ntmps87 rfl rfl (Eq.mpr (by kernel_rfl) h)
theorem vc_slices_Chunk___api_Row_api_Row__1 (yield : Value) (a1 : Addr) (a2 : Addr) (H : Heap) (R : Value → Heap → Prop) (h : ∃ (I : IV) (μ : MU), I [.int .i64 0] H ∧ ∀ (J : F) (n : Int) (H' :
 Heap), I [.int .i64 n] H' → ∃ a n_1 c, lD 22 H' a1 (.slice a n_1 c) ∧ brB (decide (n < (↑n_1 : Int))) (∃ n_2, lD 3 H' a2 (.int .i64 n_2) ∧ ∃ a n_3 c, lD 22 H' a1 (.slice a n_3 c) ∧ chk (decide (0 ≤
 n ∧ n ≤ (↑n_3 : Int) ∧ (↑n_3 : Int) ≤ (↑c : Int))) (∃ a n_4 c, lD 22 H' a1 (.slice a n_4 c) ∧ chk (decide (0 ≤ n ∧ n ≤ IntKind.wrap .i64 (n + if (↑(Int.toNat (↑n_3 : Int) - Int.toNat n) : Int) < n_2
 then (↑(Int.toNat (↑n_3 : Int) - Int.toNat n) : Int) else n_2) ∧ IntKind.wrap .i64 (n + if (↑(Int.toNat (↑n_3 : Int) - Int.toNat n) : Int) < n_2 then (↑(Int.toNat (↑n_3 : Int) - Int.toNat n) : Int)
 else n_2) ≤ IntKind.wrap .i64 (n + if (↑(Int.toNat (↑n_3 : Int) - Int.toNat n) : Int) < n_2 then (↑(Int.toNat (↑n_3 : Int) - Int.toNat n) : Int) else n_2) ∧ IntKind.wrap .i64 (n + if (↑(Int.toNat
 (↑n_3 : Int) - Int.toNat n) : Int) < n_2 then (↑(Int.toNat (↑n_3 : Int) - Int.toNat n) : Int) else n_2) ≤ (↑c : Int))) (CallY Tryz.prog yield [.slice (slA (Int.toNat (IntKind.wrap .i64 (n + if
 (↑(Int.toNat (↑n_3 : Int) - Int.toNat n) : Int) < n_2 then (↑(Int.toNat (↑n_3 : Int) - Int.toNat n) : Int) else n_2))) (Int.toNat n) 3 a) (Int.toNat (IntKind.wrap .i64 (n + if (↑(Int.toNat (↑n_3 :
 Int) - Int.toNat n) : Int) < n_2 then (↑(Int.toNat (↑n_3 : Int) - Int.toNat n) : Int) else n_2)) - Int.toNat n) (Int.toNat (IntKind.wrap .i64 (n + if (↑(Int.toNat (↑n_3 : Int) - Int.toNat n) : Int)
 < n_2 then (↑(Int.toNat (↑n_3 : Int) - Int.toNat n) : Int) else n_2)) - Int.toNat n)] H' fun v H'_1 => ∃ b, v = .bool b ∧ brB (!b) (R (.tuple ⟨[]⟩) H'_1) (∃ n_5, lD 3 H'_1 a2 (.int .i64 n_5) ∧ I
 [.int .i64 (IntKind.wrap .i64 (n + n_5))] H'_1 ∧ μ [.int .i64 (IntKind.wrap .i64 (n + n_5))] H'_1 < μ [.int .i64 n] H')))) (R (.tuple ⟨[]⟩) H')) : CallH Tryz.prog 88 (List.toArray [yield, .pointer
 (some a1), .pointer (some a2)]) H R := vcY_call (annOf [([0, 1], .cut [(4, .one (.int .i64))]), ([0, 0, 0, 1, 0, 0, 1], .reg [0, 0, 0, 6, 14, 31, 63] (.quiet 0 (.quiet 1 (.quiet 2 (.quiet 3 (.quiet
 4 (.quiet 5 (.quiet 6 .done))))))))]) followsAll Tryz.func88 rfl Tryz.ntmps88 rfl rfl (Eq.mpr (by kernel_rfl) h)
abbrev fn_zig_Fold : Nat := 89
theorem vc_zig_Fold (n : Int) (H : Heap) (R : Value → Heap → Prop) (h : R (.int .u64 (IntKind.wrap .u64 (↑(BitVec.toNat (BitVec.ofInt 64 (IntKind.wrap .u64 (IntKind.wrap .i64 (n * 2 ^ 1))) ^^^
 BitVec.ofInt 64 (IntKind.wrap .u64 (Int.fdiv n (2 ^ 63))))) : Int))) H) : CallH Tryz.prog 89 (List.toArray [.int .i64 n]) H R := vc_call (annOf []) followsAll Tryz.func89 rfl Tryz.ntmps89 rfl rfl
 (Eq.mpr (by kernel_rfl) h)
abbrev fn_zig_GetUint : Nat := 90
theorem vc_zig_GetUint (s : ByteArray) (at' : Int) (H : Heap) (R : Value → Heap → Prop) (h : ∃ (M : IV), brB (decide (at' < 0)) (R (.tuple ⟨[.int .u64 0, .int .i64 0, .int .i64 1]⟩) H) (brB (decide
 (at' > (↑(ByteArray.size s) : Int))) (R (.tuple ⟨[.int .u64 0, .int .i64 0, .int .i64 1]⟩) H) (M [.int .u64 0] H)) ∧ ∀ (J : F) (n : Int) (H' : Heap), M [.int .u64 n] H' → ∃ (I : IV) (μ : MU), I
 [.int .u64 n, .int .i64 0] H' ∧ ∀ (J : F) (n n_1 : Int) (H' : Heap), I [.int .u64 n, .int .i64 n_1] H' → brB (decide (n_1 < 10)) (brB (IntKind.wrap .i64 (at' + n_1) == (↑(ByteArray.size s) : Int))
 (R (.tuple ⟨[.int .u64 0, .int .i64 0, .int .i64 10]⟩) H') (chk (decide (0 ≤ IntKind.wrap .i64 (at' + n_1) ∧ IntKind.wrap .i64 (at' + n_1) < (↑(ByteArray.size s) : Int))) (∃ (M : IV), brB (n_1 == 9)
 (brB (decide ((↑(atB s (Int.toNat (IntKind.wrap .i64 (at' + n_1)))) : Int) > 1)) (R (.tuple ⟨[.int .u64 0, .int .i64 0, .int .i64 11]⟩) H') (brB ((↑(atB s (Int.toNat (IntKind.wrap .i64 (at' +
 n_1)))) : Int) == 0) (brB (decide (n_1 > 0)) (R (.tuple ⟨[.int .u64 0, .int .i64 0, .int .i64 11]⟩) H') (M [.int .u64 n] H')) (M [.int .u64 n] H'))) (brB ((↑(atB s (Int.toNat (IntKind.wrap .i64 (at'
 + n_1)))) : Int) == 0) (brB (decide (n_1 > 0)) (R (.tuple ⟨[.int .u64 0, .int .i64 0, .int .i64 11]⟩) H') (M [.int .u64 n] H')) (M [.int .u64 n] H')) ∧ ∀ (J : F) (n_2 : Int) (H'_1 : Heap), M [.int
 .u64 n_2] H'_1 → chk (decide (0 ≤ IntKind.wrap .u64 (IntKind.wrap .i64 (7 * n_1)))) (brB (decide ((↑(atB s (Int.toNat (IntKind.wrap .i64 (at' + n_1)))) : Int) < 128)) (R (.tuple ⟨[.int .u64
 (IntKind.wrap .u64 (↑(BitVec.toNat (BitVec.ofInt 64 n_2 ||| BitVec.ofInt 64 (IntKind.wrap .u64 (IntKind.wrap .u64 (IntKind.wrap .u8 (↑(BitVec.toNat (BitVec.ofInt 8 (↑(atB s (Int.toNat (IntKind.wrap
 .i64 (at' + n_1)))) : Int) &&& BitVec.ofInt 8 127)) : Int)) * 2 ^ min (Int.toNat (IntKind.wrap .u64 (IntKind.wrap .i64 (7 * n_1)))) 64)))) : Int)), .int .i64 (IntKind.wrap .i64 (IntKind.wrap .i64
 (at' + n_1) + 1)), .int .i64 0]⟩) H'_1) (I [.int .u64 (IntKind.wrap .u64 (↑(BitVec.toNat (BitVec.ofInt 64 n_2 ||| BitVec.ofInt 64 (IntKind.wrap .u64 (IntKind.wrap .u64 (IntKind.wrap .u8
 (↑(BitVec.toNat (BitVec.ofInt 8 (↑(atB s (Int.toNat (IntKind.wrap .i64 (at' + n_1)))) : Int) &&& BitVec.ofInt 8 127)) : Int)) * 2 ^ min (Int.toNat (IntKind.wrap .u64 (IntKind.wrap .i64 (7 * n_1))))
 64)))) : Int)), .int .i64 (IntKind.wrap .i64 (n_1 + 1))] H'_1 ∧ μ [.int .u64 (IntKind.wrap .u64 (↑(BitVec.toNat (BitVec.ofInt 64 n_2 ||| BitVec.ofInt 64 (IntKind.wrap .u64 (IntKind.wrap .u64
 (IntKind.wrap .u8 (↑(BitVec.toNat (BitVec.ofInt 8 (↑(atB s (Int.toNat (IntKind.wrap .i64 (at' + n_1)))) : Int) &&& BitVec.ofInt 8 127)) : Int)) * 2 ^ min (Int.toNat (IntKind.wrap .u64 (IntKind.wrap
 .i64 (7 * n_1)))) 64)))) : Int)), .int .i64 (IntKind.wrap .i64 (n_1 + 1))] H'_1 < μ [.int .u64 n, .int .i64 n_1] H'))))) (R (.tuple ⟨[.int .u64 0, .int .i64 0, .int .i64 11]⟩) H')) : CallH Tryz.prog
 90 (List.toArray [.string s, .int .i64 at']) H R := vc_call (annOf [([1], .cut [(4, .one (.int .u64))]), ([0, 1, 0, 1, 1], .cut [(4, .one (.int .u64)), (17, .one (.int .i64))]), ([1, 1, 1, 0, 0, 1,
 1, 0, 0, 1, 0, 1, 1], .cut [(4, .one (.int .u64))])]) followsAll Tryz.func90 rfl Tryz.ntmps90 rfl rfl (Eq.mpr (by kernel_rfl) h)
theorem vc_major_parts_1 (yield : Value) (a1 : Addr) (a2 : Addr) (H : Heap) (R : Value → Heap → Prop) (h : ∃ a n c, lD 98 H a1 (.slice a n c) ∧ ∃ (I : IV) (μ : MU), I [.int .i64 0] H ∧ ∀ (J : F)
 (n_1 : Int) (H' : Heap), I [.int .i64 n_1] H' → brB (decide (n_1 < (↑n : Int))) (ix a n_1 n fun ad => (∃ n n_2 n_3, lD 151 H' (Addr.add ad (Int.toNat n_1 * 3)) (.agg ⟨[.int .i64 n, .int .i64 n_2,
 .int .i64 n_3]⟩) ∧ ∀ (b : Nat) (H'_1 : Heap), New H' b (.cells ⟨[.int .i64 0, .int .i64 0, .int .i64 0]⟩ 151) H'_1 → ∃ H'_2, sT 151 H'_1 ⟨b, 0, none⟩ (.agg ⟨[.int .i64 n, .int .i64 n_2, .int .i64
 n_3]⟩) H'_2 ∧ ∃ n, lD 3 H'_2 ⟨b, 0, none⟩ (.int .i64 n) ∧ ∃ s, lD 9 H'_2 a2 (.string s) ∧ ∃ n_4, lD 3 H'_2 ⟨b, 1, none⟩ (.int .i64 n_4) ∧ ∃ n_5, lD 3 H'_2 ⟨b, 2, none⟩ (.int .i64 n_5) ∧ chk (decide
 (0 ≤ n_4 ∧ n_4 ≤ n_5 ∧ n_5 ≤ (↑(ByteArray.size s) : Int))) (CallY Tryz.prog yield [.int .i64 n, .string (ByteArray.extract s (Int.toNat n_4) (Int.toNat n_5))] H'_2 fun v H'_3 => ∃ b, v = .bool b ∧
 brB (!b) (R (.tuple ⟨[]⟩) H'_3) (I [.int .i64 (IntKind.wrap .i64 (n_1 + 1))] H'_3 ∧ μ [.int .i64 (IntKind.wrap .i64 (n_1 + 1))] H'_3 < μ [.int .i64 n_1] H')))) (R (.tuple ⟨[]⟩) H')) : CallH
 Tryz.prog 91 (List.toArray [yield, .pointer (some a1), .pointer (some a2)]) H R := vcY_call (annOf [([0, 1], .cut [(8, .one (.int .i64))]), ([0, 1, 0, 0, 1, 1, 0, 0, 1], .reg [0, 0, 2, 0, 0, 16, 0,
 64, 248, 511, 1023] (.quiet 0 (.quiet 1 (.quiet 2 (.quiet 3 (.quiet 4 (.quiet 5 (.quiet 6 (.quiet 7 (.quiet 8 (.pick (.alt 9 (.quiet 10 .done) .stop))))))))))))]) followsAll Tryz.func91 rfl
 Tryz.ntmps91 rfl rfl (Eq.mpr (by kernel_rfl) h)
abbrev fn_delta_Decode : Nat := 92
theorem vc_delta_Decode (s : ByteArray) (H : Heap) (R : Value → Heap → Prop) (h : cH 90 ⟨[.string s, .int .i64 0]⟩ H fun v H' => ∃ n n_1 n_2, v = .tuple ⟨[.int .u64 n, .int .i64 n_1, .int .i64 n_2]⟩
 ∧ ∃ (M : IV), (∃ (M_1 : IV), brB (n_2 != 0) (M_1 [.bool true] H') (brB (decide (n > 5000)) (M_1 [.bool true] H') (brB (n == 0) (M_1 [.bool (decide (n_1 < (↑(ByteArray.size s) : Int)))] H') (M_1
 [.bool false] H'))) ∧ ∀ (J : F) (b : Bool) (H' : Heap), M_1 [.bool b] H' → brB b (R (.tuple ⟨[.slice none 0 0, .int .i64 11]⟩) H') (brB (n == 0) (R (.tuple ⟨[.slice none 0 0, .int .i64 0]⟩) H') (M
 [] H'))) ∧ ∀ (J : F) (H' : Heap), M [] H' → cH 90 ⟨[.string s, .int .i64 n_1]⟩ H' fun v H' => ∃ n_3 n_4 n_5, v = .tuple ⟨[.int .u64 n_3, .int .i64 n_4, .int .i64 n_5]⟩ ∧ ∃ (M : IV), brB (n_5 != 0)
 (R (.tuple ⟨[.slice none 0 0, .int .i64 11]⟩) H') (brB (decide (n_3 ≥ 1099511627776)) (R (.tuple ⟨[.slice none 0 0, .int .i64 11]⟩) H') (M [] H')) ∧ ∀ (J : F) (H' : Heap), M [] H' → cH 120 ⟨[.string
 s, .int .i64 n_4]⟩ H' fun v H' => ∃ n_6 n_7 n_8, v = .tuple ⟨[.int .i64 n_6, .int .i64 n_7, .int .i64 n_8]⟩ ∧ brB (n_8 != 0) (R (.tuple ⟨[.slice none 0 0, .int .i64 11]⟩) H') (∀ (b : Nat) (H'_1 :
 Heap), New H' b (.cells ⟨[.int .i64 (IntKind.wrap .i64 n_3), .int .i64 n_6]⟩ 107) H'_1 → brB (decide (n > 1)) (chk (decide (0 ≤ n_7 ∧ n_7 ≤ (↑(ByteArray.size s) : Int) ∧ (↑(ByteArray.size s) : Int)
 ≤ (↑(ByteArray.size s) : Int))) (cH 121 ⟨[.slice (some ⟨b, 0, none⟩) 1 1, .int .i64 (IntKind.wrap .i64 n), .string (ByteArray.extract s (Int.toNat n_7) (Int.toNat (↑(ByteArray.size s) : Int)))]⟩
 H'_1 fun v H' => ∃ a n c b, v = .tuple ⟨[.slice a n c, .bool b]⟩ ∧ brB (!b) (R (.tuple ⟨[.slice none 0 0, .int .i64 11]⟩) H') (cH 46 ⟨[.slice a n c]⟩ H' fun v H' => ∃ s_1 n_9, v = .tuple ⟨[.string
 s_1, .int .i64 n_9]⟩ ∧ brB (!ByteArray.toList s_1 == ByteArray.toList s) (R (.tuple ⟨[.slice none 0 0, .int .i64 11]⟩) H') (R (.tuple ⟨[.slice a n c, .int .i64 0]⟩) H')))) (brB (!n_7 ==
 (↑(ByteArray.size s) : Int)) (R (.tuple ⟨[.slice none 0 0, .int .i64 11]⟩) H'_1) (cH 46 ⟨[.slice (some ⟨b, 0, none⟩) 1 1]⟩ H'_1 fun v H' => ∃ s_1 n, v = .tuple ⟨[.string s_1, .int .i64 n]⟩ ∧ brB
 (!ByteArray.toList s_1 == ByteArray.toList s) (R (.tuple ⟨[.slice none 0 0, .int .i64 11]⟩) H') (R (.tuple ⟨[.slice (some ⟨b, 0, none⟩) 1 1, .int .i64 0]⟩) H'))))) : CallH Tryz.prog 92 (List.toArray
 [.string s]) H R := vc_call (annOf [([1, 1], .cut []), ([0, 0, 1, 1], .cut [(19, .one .bool)]), ([1, 1, 1, 1], .cut [])]) followsAll Tryz.func92 rfl Tryz.ntmps92 rfl rfl (Eq.mpr (by kernel_rfl) h)
abbrev fn_cmp_Or_int_ : Nat := 93
theorem vc_cmp_Or_int_ (vals_a : Option Addr) (vals_n : Nat) (vals_c : Nat) (H : Heap) (R : Value → Heap → Prop) (h : ∃ (I : IV) (μ : MU), I [.int .i64 0] H ∧ ∀ (J : F) (n : Int) (H' : Heap), I
 [.int .i64 n] H' → brB (decide (n < (↑vals_n : Int))) (ix vals_a n vals_n fun ad => (∃ n_1, lD 3 H' (Addr.add ad (Int.toNat n * 1)) (.int .i64 n_1) ∧ brB (n_1 != 0) (R (.int .i64 n_1) H') (I [.int
 .i64 (IntKind.wrap .i64 (n + 1))] H' ∧ μ [.int .i64 (IntKind.wrap .i64 (n + 1))] H' < μ [.int .i64 n] H'))) (R (.int .i64 0) H')) : CallH Tryz.prog 93 (List.toArray [.slice vals_a vals_n vals_c]) H
 R := vc_call (annOf [([0, 1, 0, 1, 1], .cut [(8, .one (.int .i64))])]) followsAll Tryz.func93 rfl Tryz.ntmps93 rfl rfl (Eq.mpr (by kernel_rfl) h)
abbrev fn_runs_fences : Nat := 94
theorem vc_runs_fences (s : ByteArray) (H : Heap) (R : Value → Heap → Prop) (h : ∀ (b : Nat) (H' : Heap), New H b (.cells ⟨[.string s, .int .i64 0, .bool true]⟩ 187) H' → cI 122 [.pointer (some ⟨b,
 0, none⟩), .int .i64 5001] H' fun n H' => ∃ (I : IV) (μ : MU), I [.slice none 0 0, .slice none 0 0, .int .i64 0, .int .i64 0, .int .i64 n] H' ∧ ∀ (J : F) (a : Option Addr) (n c : Nat) (a_1 : Option
 Addr) (n_1 c_1 : Nat) (n_2 n_3 n_4 : Int) (H' : Heap), I [.slice a n c, .slice a_1 n_1 c_1, .int .i64 n_2, .int .i64 n_3, .int .i64 n_4] H' → brB (decide (n_4 > 0)) (cI 122 [.pointer (some ⟨b, 0,
 none⟩), .int .i64 1099511627776] H' fun n_5 H'_1 => cI 122 [.pointer (some ⟨b, 0, none⟩), .int .i64 1099511627776] H'_1 fun n_6 H'_2 => cI 122 [.pointer (some ⟨b, 0, none⟩), .int .i64 (IntKind.wrap
 .i64 ((↑(ByteArray.size s) : Int) + 1))] H'_2 fun n_7 H'_3 => ∃ (M : IV), (∃ b_1, lD 4 H'_3 ⟨b, 2, none⟩ (.bool b_1) ∧ brB (!b_1) (R (.tuple ⟨[.slice none 0 0, .bool false]⟩) H'_3) (brB (decide
 (IntKind.wrap .i64 (n_5 + n_6) ≥ 1099511627776)) (R (.tuple ⟨[.slice none 0 0, .bool false]⟩) H'_3) (brB (decide (n_5 < n_3)) (R (.tuple ⟨[.slice none 0 0, .bool false]⟩) H'_3) (M [] H'_3)))) ∧ ∀ (J
 : F) (H'_4 : Heap), M [] H'_4 → ∀ (b : Nat) (H'_5 : Heap), New H'_4 b (.cells ⟨[.int .i64 n_5, .int .i64 (IntKind.wrap .i64 (IntKind.wrap .i64 (n_5 + n_6) + 1)), .int .i64 (if 16 < n_4 then 16 else
 n_4), .string { data := #[] }]⟩ 158) H'_5 → SemWp Tryz.prog (Builtin.append_ ⟨[154, 154]⟩ 154 ⟨[.slice a n c, .slice (some ⟨b, 0, none⟩) 1 1]⟩) H'_5 fun v H'_6 => ∃ a_5 n_8 c_2, v = .slice a_5 n_8
 c_2 ∧ ∀ (b : Nat) (H'_7 : Heap), New H'_6 b (.cells ⟨[.int .i64 n_7]⟩ 3) H'_7 → SemWp Tryz.prog (Builtin.append_ ⟨[24, 24]⟩ 24 ⟨[.slice a_1 n_1 c_1, .slice (some ⟨b, 0, none⟩) 1 1]⟩) H'_7 fun v H'_8
 => ∃ a_7 n_9 c_3, v = .slice a_7 n_9 c_3 ∧ I [.slice a_5 n_8 c_2, .slice a_7 n_9 c_3, .int .i64 (IntKind.wrap .i64 (n_2 + n_7)), .int .i64 (IntKind.wrap .i64 (n_5 + n_6)), .int .i64 (IntKind.wrap
 .i64 (n_4 - 16))] H'_8 ∧ μ [.slice a_5 n_8 c_2, .slice a_7 n_9 c_3, .int .i64 (IntKind.wrap .i64 (n_2 + n_7)), .int .i64 (IntKind.wrap .i64 (n_5 + n_6)), .int .i64 (IntKind.wrap .i64 (n_4 - 16))]
 H'_8 < μ [.slice a n c, .slice a_1 n_1 c_1, .int .i64 n_2, .int .i64 n_3, .int .i64 n_4] H') (∃ (M : IV), (∃ b_1, lD 4 H' ⟨b, 2, none⟩ (.bool b_1) ∧ brB (!b_1) (R (.tuple ⟨[.slice none 0 0, .bool
 false]⟩) H') (∃ n, lD 3 H' ⟨b, 1, none⟩ (.int .i64 n) ∧ brB (n_2 != IntKind.wrap .i64 ((↑(ByteArray.size s) : Int) - n)) (R (.tuple ⟨[.slice none 0 0, .bool false]⟩) H') (M [] H'))) ∧ ∀ (J : F) (H'
 : Heap), M [] H' → ∃ n_5, lD 3 H' ⟨b, 1, none⟩ (.int .i64 n_5) ∧ ∃ (I : IV) (μ : MU), I [.int .i64 n_5, .int .i64 0] H' ∧ ∀ (J : F) (n_6 n_7 : Int) (H' : Heap), I [.int .i64 n_6, .int .i64 n_7] H' →
 brB (decide (n_7 < (↑n_1 : Int))) (ix a_1 n_7 n_1 fun ad => (∃ n_8, lD 3 H' (Addr.add ad (Int.toNat n_7 * 1)) (.int .i64 n_8) ∧ chk (decide (0 ≤ n_6 ∧ n_6 ≤ IntKind.wrap .i64 (n_6 + n_8) ∧
 IntKind.wrap .i64 (n_6 + n_8) ≤ (↑(ByteArray.size s) : Int))) (ix a n_7 n fun ad => (∃ H'_1, sT 9 H' (Addr.add (Addr.add ad (Int.toNat n_7 * 4)) 3) (.string (ByteArray.extract s (Int.toNat n_6)
 (Int.toNat (IntKind.wrap .i64 (n_6 + n_8))))) H'_1 ∧ I [.int .i64 (IntKind.wrap .i64 (n_6 + n_8)), .int .i64 (IntKind.wrap .i64 (n_7 + 1))] H'_1 ∧ μ [.int .i64 (IntKind.wrap .i64 (n_6 + n_8)), .int
 .i64 (IntKind.wrap .i64 (n_7 + 1))] H'_1 < μ [.int .i64 n_6, .int .i64 n_7] H')))) (R (.tuple ⟨[.slice a n c, .bool true]⟩) H'))) : CallH Tryz.prog 94 (List.toArray [.string s]) H R := vc_call
 (annOf [([0, 1, 0, 1, 1, 1, 1, 1], .cut [(5, .one .slice), (6, .one .slice), (7, .one (.int .i64)), (8, .one (.int .i64)), (9, .one (.int .i64))]), ([1, 1, 0, 0, 1, 0, 0, 1, 0, 1, 1, 1, 1, 1], .cut
 []), ([1, 1, 1, 1, 1, 1], .cut []), ([0, 1, 0, 1, 1, 1, 1, 1, 1, 1, 1], .cut [(13, .one (.int .i64)), (92, .one (.int .i64))])]) followsAll Tryz.func94 rfl Tryz.ntmps94 rfl rfl (Eq.mpr (by
 kernel_rfl) h)
abbrev fn_runs_fence_has : Nat := 95
theorem vc_runs_fence_has (f_0 : Int) (f_1 : Int) (f_2 : Int) (f_3 : ByteArray) (r_0 : Int) (r_1 : Int) (H : Heap) (R : Value → Heap → Prop) (h : ∀ (b : Nat) (H' : Heap), New H b (.cells ⟨[.int .i64
 f_0, .int .i64 f_1, .int .i64 f_2, .string f_3]⟩ 158) H' → ∀ (b_1 : Nat) (H'_1 : Heap), New H' b_1 (.cells ⟨[.int .i64 r_0, .int .i64 r_1]⟩ 112) H'_1 → ∃ n, lD 3 H'_1 ⟨b, 0, none⟩ (.int .i64 n) ∧ ∃
 n_1, lD 3 H'_1 ⟨b_1, 0, none⟩ (.int .i64 n_1) ∧ ∃ n_2, lD 3 H'_1 ⟨b, 1, none⟩ (.int .i64 n_2) ∧ ∃ n_3, lD 3 H'_1 ⟨b_1, 1, none⟩ (.int .i64 n_3) ∧ R (.bool (decide ((if n_1 > n then n_1 else n) < if
 n_3 < n_2 then n_3 else n_2))) H'_1) : CallH Tryz.prog 95 (List.toArray [.agg #[.int .i64 f_0, .int .i64 f_1, .int .i64 f_2, .string f_3], .agg #[.int .i64 r_0, .int .i64 r_1]]) H R := vc_call
 (annOf []) followsAll Tryz.func95 rfl Tryz.ntmps95 rfl rfl (Eq.mpr (by kernel_rfl) h)
abbrev fn_runs_fence_read : Nat := 96
theorem vc_runs_fence_read (f_0 : Int) (f_1 : Int) (f_2 : Int) (f_3 : ByteArray) (H : Heap) (R : Value → Heap → Prop) (h : ∀ (b : Nat) (H' : Heap), New H b (.cells ⟨[.int .i64 f_0, .int .i64 f_1,
 .int .i64 f_2, .string f_3]⟩ 158) H' → ∃ s, lD 9 H' ⟨b, 3, none⟩ (.string s) ∧ ∀ (b_1 : Nat) (H'_1 : Heap), New H' b_1 (.cells ⟨[.string s, .int .i64 0, .bool true]⟩ 187) H'_1 → ∃ n, lD 3 H'_1 ⟨b,
 0, none⟩ (.int .i64 n) ∧ ∃ n_1, lD 3 H'_1 ⟨b, 2, none⟩ (.int .i64 n_1) ∧ ∃ (I : IV) (μ : MU), I [.slice none 0 0, .int .i64 n, .int .i64 0] H'_1 ∧ ∀ (J : F) (a : Option Addr) (n c : Nat) (n_2 n_3 :
 Int) (H' : Heap), I [.slice a n c, .int .i64 n_2, .int .i64 n_3] H' → brB (decide (n_3 < n_1)) (∃ (M : IV), (cI 122 [.pointer (some ⟨b_1, 0, none⟩), .int .i64 1099511627776] H' fun n_4 H' => cI 122
 [.pointer (some ⟨b_1, 0, none⟩), .int .i64 200] H' fun n_5 H' => ∃ s, lD 9 H' ⟨b_1, 0, none⟩ (.string s) ∧ ∃ n_6, lD 3 H' ⟨b_1, 1, none⟩ (.int .i64 n_6) ∧ cH 120 ⟨[.string s, .int .i64 n_6]⟩ H' fun
 v H' => ∃ n_7 n_8 n_9, v = .tuple ⟨[.int .i64 n_7, .int .i64 n_8, .int .i64 n_9]⟩ ∧ ∀ (b : Nat) (H'_2 : Heap), New H' b (.cells ⟨[.int .i64 0, .int .i64 0, .int .i64 0]⟩ 26) H'_2 → ∃ H', sT 26 H'_2
 ⟨b, 0, none⟩ (.agg ⟨[.int .i64 (IntKind.wrap .i64 (n_2 + n_4)), .int .i64 n_5, .int .i64 n_7]⟩) H' ∧ ∃ (M_1 : IV), (∃ (M : IV), (∃ b_2, lD 4 H' ⟨b_1, 2, none⟩ (.bool b_2) ∧ brB (!b_2) (M [.bool
 true] H') (brB (n_9 != 0) (M [.bool true] H') (brB (decide ((↑n : Int) > 0)) (∃ n_10 n_11 n_12, lD 26 H' ⟨b, 0, none⟩ (.agg ⟨[.int .i64 n_10, .int .i64 n_11, .int .i64 n_12]⟩) ∧ ix a (IntKind.wrap
 .i64 ((↑n : Int) - 1)) n fun ad => (∃ n_13 n_14 n_15, lD 26 H' (Addr.add ad (Int.toNat (IntKind.wrap .i64 ((↑n : Int) - 1)) * 3)) (.agg ⟨[.int .i64 n_13, .int .i64 n_14, .int .i64 n_15]⟩) ∧ cB 48
 [.agg ⟨[.int .i64 n_10, .int .i64 n_11, .int .i64 n_12]⟩, .agg ⟨[.int .i64 n_13, .int .i64 n_14, .int .i64 n_15]⟩] H' fun b H' => M [.bool !b] H')) (M [.bool false] H')))) ∧ ∀ (J : F) (b : Bool) (H'
 : Heap), M [.bool b] H' → brB b (R (.tuple ⟨[.slice none 0 0, .bool false]⟩) H') (M_1 [] H')) ∧ ∀ (J : F) (H' : Heap), M_1 [] H' → ∃ H'_3, sT 3 H' ⟨b_1, 1, none⟩ (.int .i64 n_8) H'_3 ∧ ∃ n_10 n_11
 n_12, lD 26 H'_3 ⟨b, 0, none⟩ (.agg ⟨[.int .i64 n_10, .int .i64 n_11, .int .i64 n_12]⟩) ∧ ∀ (b : Nat) (H' : Heap), New H'_3 b (.cells ⟨[.int .i64 n_10, .int .i64 n_11, .int .i64 n_12]⟩ 26) H' →
 SemWp Tryz.prog (Builtin.append_ ⟨[22, 22]⟩ 22 ⟨[.slice a n c, .slice (some ⟨b, 0, none⟩) 1 1]⟩) H' fun v H' => ∃ a n c, v = .slice a n c ∧ M [.slice a n c, .int .i64 (IntKind.wrap .i64 (n_2 +
 n_4))] H') ∧ ∀ (J : F) (a_2 : Option Addr) (n_4 c_1 : Nat) (n_5 : Int) (H'_2 : Heap), M [.slice a_2 n_4 c_1, .int .i64 n_5] H'_2 → I [.slice a_2 n_4 c_1, .int .i64 n_5, .int .i64 (IntKind.wrap .i64
 (n_3 + 1))] H'_2 ∧ μ [.slice a_2 n_4 c_1, .int .i64 n_5, .int .i64 (IntKind.wrap .i64 (n_3 + 1))] H'_2 < μ [.slice a n c, .int .i64 n_2, .int .i64 n_3] H') (∃ n_4, lD 3 H' ⟨b_1, 1, none⟩ (.int .i64
 n_4) ∧ ∃ s, lD 9 H' ⟨b_1, 0, none⟩ (.string s) ∧ brB (n_4 == (↑(ByteArray.size s) : Int)) (ix a (0) n fun ad => (∃ n_5, lD 3 H' ad (.int .i64 n_5) ∧ ∃ n_6, lD 3 H' ⟨b, 0, none⟩ (.int .i64 n_6) ∧ brB
 (n_5 == n_6) (∃ n_7, lD 3 H' ⟨b, 1, none⟩ (.int .i64 n_7) ∧ R (.tuple ⟨[.slice a n c, .bool (n_2 == IntKind.wrap .i64 (n_7 - 1))]⟩) H') (R (.tuple ⟨[.slice a n c, .bool false]⟩) H'))) (R (.tuple
 ⟨[.slice a n c, .bool false]⟩) H'))) : CallH Tryz.prog 96 (List.toArray [.agg #[.int .i64 f_0, .int .i64 f_1, .int .i64 f_2, .string f_3]]) H R := vc_call (annOf [([0, 1, 0, 1, 1, 1, 1], .cut [(5,
 .one .slice), (6, .one (.int .i64)), (21, .one (.int .i64))]), ([1, 1, 0, 0, 1, 0, 1, 1, 1, 1], .cut [(5, .one .slice), (6, .one (.int .i64))]), ([0, 1, 1, 0, 0, 1, 1, 0, 0, 1, 0, 1, 1, 1, 1], .reg
 [0, 1, 3, 7, 0, 16, 48, 112, 255, 511, 1023, 1023, 1023, 2047, 12287, 32767] (.quiet 0 (.quiet 1 (.quiet 2 (.quiet 3 (.quiet 4 (.quiet 5 (.quiet 6 (.quiet 7 (.pick (.alt 8 (.quiet 9 (.quiet 10
 (.quiet 11 (.quiet 12 (.quiet 13 (.quiet 14 (.quiet 15 .done))))))) .stop))))))))))), ([1, 1, 1, 1, 0, 0, 1, 1, 0, 0, 1, 0, 1, 1, 1, 1], .cut []), ([0, 1, 1, 1, 1, 0, 0, 1, 1, 0, 0, 1, 0, 1, 1, 1,
 1], .cut [(70, .one .bool)]), ([0, 0, 1, 1, 1, 1, 0, 0, 1, 1, 0, 0, 1, 0, 1, 1, 1, 1], .tail 21)]) followsAll Tryz.func96 rfl Tryz.ntmps96 rfl rfl (Eq.mpr (by kernel_rfl) h)
abbrev fn_slices_DeleteFunc___api_Row_api_Row_ : Nat := 97
theorem vc_slices_DeleteFunc___api_Row_api_Row_ (s_a : Option Addr) (s_n : Nat) (s_c : Nat) (del : Value) (H : Heap) (R : Value → Heap → Prop) (h : cI 123 [.slice s_a s_n s_c, del] H fun n H' => brB
 (n == (-1 : Int)) (R (.slice s_a s_n s_c) H') (∃ (I : IV) (μ : MU), I [.int .i64 n, .int .i64 (IntKind.wrap .i64 (n + 1))] H' ∧ ∀ (J : F) (n n_1 : Int) (H' : Heap), I [.int .i64 n, .int .i64 n_1] H'
 → brB (decide (n_1 < (↑s_n : Int))) (ix s_a n_1 s_n fun ad => (∃ n_2 n_3 n_4, lD 26 H' (Addr.add ad (Int.toNat n_1 * 3)) (.agg ⟨[.int .i64 n_2, .int .i64 n_3, .int .i64 n_4]⟩) ∧ ∀ (b : Nat) (H'_1 :
 Heap), New H' b (.cells ⟨[.int .i64 0, .int .i64 0, .int .i64 0]⟩ 26) H'_1 → ∃ H'_2, sT 26 H'_1 ⟨b, 0, none⟩ (.agg ⟨[.int .i64 n_2, .int .i64 n_3, .int .i64 n_4]⟩) H'_2 ∧ ∃ n_5 n_6 n_7, lD 26 H'_2
 ⟨b, 0, none⟩ (.agg ⟨[.int .i64 n_5, .int .i64 n_6, .int .i64 n_7]⟩) ∧ CallV Tryz.prog del [.agg ⟨[.int .i64 n_5, .int .i64 n_6, .int .i64 n_7]⟩] H'_2 fun v H'_3 => ∃ b_1, v = .bool b_1 ∧ brB (!b_1)
 (∃ n_8 n_9 n_10, lD 26 H'_3 ⟨b, 0, none⟩ (.agg ⟨[.int .i64 n_8, .int .i64 n_9, .int .i64 n_10]⟩) ∧ ix s_a n s_n fun ad => (∃ H'_4, sT 26 H'_3 (Addr.add ad (Int.toNat n * 3)) (.agg ⟨[.int .i64 n_8,
 .int .i64 n_9, .int .i64 n_10]⟩) H'_4 ∧ I [.int .i64 (IntKind.wrap .i64 (n + 1)), .int .i64 (IntKind.wrap .i64 (n_1 + 1))] H'_4 ∧ μ [.int .i64 (IntKind.wrap .i64 (n + 1)), .int .i64 (IntKind.wrap
 .i64 (n_1 + 1))] H'_4 < μ [.int .i64 n, .int .i64 n_1] H')) (I [.int .i64 n, .int .i64 (IntKind.wrap .i64 (n_1 + 1))] H'_3 ∧ μ [.int .i64 n, .int .i64 (IntKind.wrap .i64 (n_1 + 1))] H'_3 < μ [.int
 .i64 n, .int .i64 n_1] H'))) (chk (decide (0 ≤ n ∧ n ≤ (↑s_n : Int) ∧ (↑s_n : Int) ≤ (↑s_c : Int))) (SemWp Tryz.prog (Builtin.clear_ ⟨[22]⟩ 0 ⟨[.slice (slA s_c (Int.toNat n) 3 s_a) (Int.toNat (↑s_n
 : Int) - Int.toNat n) (s_c - Int.toNat n)]⟩) H' fun v H' => v = .tuple ⟨[]⟩ ∧ chk (decide ((0 : Int) ≤ (0 : Int) ∧ 0 ≤ n ∧ n ≤ (↑s_c : Int))) (R (.slice s_a (Int.toNat n - 0) (s_c - 0)) H'))))) :
 CallH Tryz.prog 97 (List.toArray [.slice s_a s_n s_c, del]) H R := vc_call (annOf [([0, 1, 0, 1, 1, 1], .cut [(5, .one (.int .i64)), (6, .one (.int .i64))])]) followsAll Tryz.func97 rfl Tryz.ntmps97
 rfl rfl (Eq.mpr (by kernel_rfl) h)
theorem vc_runs_Between_1 (x_0 : Int) (x_1 : Int) (x_2 : Int) (a1 : Addr) (H : Heap) (R : Value → Heap → Prop) (h : ∀ (b : Nat) (H' : Heap), New H b (.cells ⟨[.int .i64 x_0, .int .i64 x_1, .int .i64
 x_2]⟩ 26) H' → ∃ n, lD 3 H' ⟨b, 0, none⟩ (.int .i64 n) ∧ ∃ n_1, lD 3 H' a1 (.int .i64 n_1) ∧ brB (decide (n < n_1)) (R (.bool true) H') (∃ n, lD 3 H' ⟨b, 0, none⟩ (.int .i64 n) ∧ ∃ n_2, lD 3 H'
 (Addr.add a1 1) (.int .i64 n_2) ∧ R (.bool (decide (n ≥ n_2))) H')) : CallH Tryz.prog 98 (List.toArray [.agg #[.int .i64 x_0, .int .i64 x_1, .int .i64 x_2], .pointer (some a1)]) H R := vc_call
 (annOf []) followsAll Tryz.func98 rfl Tryz.ntmps98 rfl rfl (Eq.mpr (by kernel_rfl) h)
abbrev fn_ref13_Rises : Nat := 102
theorem vc_ref13_Rises (l_a : Option Addr) (l_n : Nat) (l_c : Nat) (H : Heap) (R : Value → Heap → Prop) (h : ∃ (I : IV) (μ : MU), I [.int .i64 1] H ∧ ∀ (J : F) (n : Int) (H' : Heap), I [.int .i64 n]
 H' → brB (decide (n < (↑l_n : Int))) (ix l_a n l_n fun ad => (∃ n_1, lD 3 H' (Addr.add ad (Int.toNat n * 2)) (.int .i64 n_1) ∧ ix l_a (IntKind.wrap .i64 (n - 1)) l_n fun ad => (∃ n_2, lD 3 H'
 (Addr.add ad (Int.toNat (IntKind.wrap .i64 (n - 1)) * 2)) (.int .i64 n_2) ∧ brB (decide (n_1 ≤ n_2)) (R (.bool false) H') (I [.int .i64 (IntKind.wrap .i64 (n + 1))] H' ∧ μ [.int .i64 (IntKind.wrap
 .i64 (n + 1))] H' < μ [.int .i64 n] H')))) (R (.bool true) H')) : CallH Tryz.prog 102 (List.toArray [.slice l_a l_n l_c]) H R := vc_call (annOf [([0, 1, 0, 1], .cut [(3, .one (.int .i64))])])
 followsAll Tryz.func102 rfl Tryz.ntmps102 rfl rfl (Eq.mpr (by kernel_rfl) h)
abbrev fn_ref01_Int : Nat := 103
theorem vc_ref01_Int (n : Int) (H : Heap) (R : Value → Heap → Prop) (h : cH 104 ⟨[.int .i64 n]⟩ H fun v H' => ∃ n, v = .int .u64 n ∧ cS 65 [.int .u64 n] H' fun s H' => R (.string s) H') : CallH
 Tryz.prog 103 (List.toArray [.int .i64 n]) H R := vc_call (annOf []) followsAll Tryz.func103 rfl Tryz.ntmps103 rfl rfl (Eq.mpr (by kernel_rfl) h)
abbrev fn_ref01_Fold : Nat := 104
theorem vc_ref01_Fold (n : Int) (H : Heap) (R : Value → Heap → Prop) (h : brB (decide (n ≥ 0)) (R (.int .u64 (IntKind.wrap .u64 (2 * IntKind.wrap .u64 n))) H) (R (.int .u64 (IntKind.wrap .u64
 (IntKind.wrap .u64 (2 * IntKind.wrap .u64 (IntKind.wrap .i64 (0 - IntKind.wrap .i64 (n + 1)))) + 1))) H)) : CallH Tryz.prog 104 (List.toArray [.int .i64 n]) H R := vc_call (annOf []) followsAll
 Tryz.func104 rfl Tryz.ntmps104 rfl rfl (Eq.mpr (by kernel_rfl) h)
abbrev fn_ref02_Best : Nat := 105
theorem vc_ref02_Best (l_a : Option Addr) (l_n : Nat) (l_c : Nat) (H : Heap) (R : Value → Heap → Prop) (h : ∃ (I : IV) (μ : MU), I [.int .i64 0, .int .i64 1] H ∧ ∀ (J : F) (n n_1 : Int) (H' : Heap),
 I [.int .i64 n, .int .i64 n_1] H' → brB (decide (n_1 ≤ 40)) (cI 126 [.slice l_a l_n l_c, .int .i64 n_1] H' fun n_2 H'_1 => cI 126 [.slice l_a l_n l_c, .int .i64 n] H'_1 fun n_3 H'_2 => brB (decide
 (n_2 < n_3)) (I [.int .i64 n_1, .int .i64 (IntKind.wrap .i64 (n_1 + 1))] H'_2 ∧ μ [.int .i64 n_1, .int .i64 (IntKind.wrap .i64 (n_1 + 1))] H'_2 < μ [.int .i64 n, .int .i64 n_1] H') (I [.int .i64 n,
 .int .i64 (IntKind.wrap .i64 (n_1 + 1))] H'_2 ∧ μ [.int .i64 n, .int .i64 (IntKind.wrap .i64 (n_1 + 1))] H'_2 < μ [.int .i64 n, .int .i64 n_1] H')) (R (.int .i64 n) H')) : CallH Tryz.prog 105
 (List.toArray [.slice l_a l_n l_c]) H R := vc_call (annOf [([0, 1, 0, 1, 1], .cut [(3, .one (.int .i64)), (4, .one (.int .i64))])]) followsAll Tryz.func105 rfl Tryz.ntmps105 rfl rfl (Eq.mpr (by
 kernel_rfl) h)
abbrev fn_ref02_New : Nat := 106
theorem vc_ref02_New (H : Heap) (R : Value → Heap → Prop) (h : ∀ (b : Nat) (H' : Heap), New H b (.cells ⟨[.slice none 0 0]⟩ 193) H' → R (.pointer (some ⟨b, 0, none⟩)) H') : CallH Tryz.prog 106
 (List.toArray []) H R := vc_call (annOf []) followsAll Tryz.func106 rfl Tryz.ntmps106 rfl rfl (Eq.mpr (by kernel_rfl) h)
abbrev fn_ref02_Writer_Rice : Nat := 107
theorem vc_ref02_Writer_Rice (w : Addr) (n : Int) (k : Int) (H : Heap) (R : Value → Heap → Prop) (h : brB (decide (k < 0)) (R (.int .i64 1) H) (brB (decide (k > 40)) (R (.int .i64 1) H) (∃ a n_1 c,
 lD 191 H w (.slice a n_1 c) ∧ cL 127 [.int .u64 n, .int .i64 k] H fun a_1 n c_1 H' => lD 191 H' w (.slice a n_1 c) ∧ SemWp Tryz.prog (Builtin.append_ ⟨[191, 191]⟩ 191 ⟨[.slice a n_1 c, .slice a_1 n
 c_1]⟩) H' fun v H' => ∃ a n c, v = .slice a n c ∧ ∃ H'_1, sT 191 H' w (.slice a n c) H'_1 ∧ R (.int .i64 0) H'_1))) : CallH Tryz.prog 107 (List.toArray [.pointer (some w), .int .u64 n, .int .i64 k])
 H R := vc_call (annOf [([0, 1, 1], .reg [0, 0, 2, 6, 14, 0, 0, 96, 254, 511, 1023, 2047] (.quiet 0 (.quiet 1 (.quiet 2 (.quiet 3 (.quiet 4 (.quiet 5 (.quiet 6 (.pick (.alt 7 (.pick (.alt 8 (.quiet 9
 (.quiet 10 (.pick (.alt 11 (.done) .stop)))) .stop)) .stop))))))))))]) followsAll Tryz.func107 rfl Tryz.ntmps107 rfl rfl (Eq.mpr (by kernel_rfl) h)
abbrev fn_ref02_Writer_Bytes : Nat := 108
theorem vc_ref02_Writer_Bytes (w : Addr) (H : Heap) (R : Value → Heap → Prop) (h : ∃ a n c, lD 191 H w (.slice a n c) ∧ SemWp Tryz.prog (Instr.makeSlice 81 (.int .i64 (IntKind.wrap .i64 (Int.tdiv
 (IntKind.wrap .i64 ((↑n : Int) + 7)) 8))) (.int .i64 (IntKind.wrap .i64 (Int.tdiv (IntKind.wrap .i64 ((↑n : Int) + 7)) 8)))) H fun v H' => ∃ a n c, v = .slice a n c ∧ ∃ (I : IV) (μ : MU), I [.int
 .i64 0] H' ∧ ∀ (J : F) (n_1 : Int) (H' : Heap), I [.int .i64 n_1] H' → ∃ a_2 n_2 c_1, lD 191 H' w (.slice a_2 n_2 c_1) ∧ brB (decide (n_1 < (↑n_2 : Int))) (∃ a_3 n_3 c, lD 191 H' w (.slice a_3 n_3
 c) ∧ ix a_3 n_1 n_3 fun ad => (∃ b, lD 4 H' (Addr.add ad (Int.toNat n_1 * 1)) (.bool b) ∧ brB b (ix a (IntKind.wrap .i64 (Int.tdiv n_1 8)) n fun ad => (∃ n_4, lD 5 H' (Addr.add ad (Int.toNat
 (IntKind.wrap .i64 (Int.tdiv n_1 8)) * 1)) (.int .u8 n_4) ∧ chk (decide (0 ≤ IntKind.wrap .u64 (Int.tmod n_1 8))) (ix a (IntKind.wrap .i64 (Int.tdiv n_1 8)) n fun ad => (∃ H'_1, sT 5 H' (Addr.add ad
 (Int.toNat (IntKind.wrap .i64 (Int.tdiv n_1 8)) * 1)) (.int .u8 (IntKind.wrap .u8 (n_4 + Int.fdiv 128 (2 ^ min (Int.toNat (IntKind.wrap .u64 (Int.tmod n_1 8))) 8)))) H'_1 ∧ I [.int .i64
 (IntKind.wrap .i64 (n_1 + 1))] H'_1 ∧ μ [.int .i64 (IntKind.wrap .i64 (n_1 + 1))] H'_1 < μ [.int .i64 n_1] H')))) (I [.int .i64 (IntKind.wrap .i64 (n_1 + 1))] H' ∧ μ [.int .i64 (IntKind.wrap .i64
 (n_1 + 1))] H' < μ [.int .i64 n_1] H'))) (SemWp Tryz.prog (convert 81 9 (.slice a n c)) H' fun v H' => ∃ s, v = .string s ∧ R (.string s) H')) : CallH Tryz.prog 108 (List.toArray [.pointer (some
 w)]) H R := vc_call (annOf [([0, 1, 0, 1, 1], .cut [(4, .one (.int .i64))])]) followsAll Tryz.func108 rfl Tryz.ntmps108 rfl rfl (Eq.mpr (by kernel_rfl) h)
abbrev fn_ref13_Merge : Nat := 109
theorem vc_ref13_Merge (a_a : Option Addr) (a_n : Nat) (a_c : Nat) (b_a : Option Addr) (b_n : Nat) (b_c : Nat) (H : Heap) (R : Value → Heap → Prop) (h : ∀ (b : Nat) (H' : Heap), New H b (.cells ⟨[]⟩
 107) H' → SemWp Tryz.prog (Builtin.append_ ⟨[90, 90]⟩ 90 ⟨[.slice (some ⟨b, 0, none⟩) 0 0, .slice a_a a_n a_c]⟩) H' fun v H' => ∃ a n c, v = .slice a n c ∧ ∃ (I : IV) (μ : MU), I [.slice a n c, .int
 .i64 0] H' ∧ ∀ (J : F) (a : Option Addr) (n c : Nat) (n_1 : Int) (H' : Heap), I [.slice a n c, .int .i64 n_1] H' → brB (decide (n_1 < (↑b_n : Int))) (ix b_a n_1 b_n fun ad => (∃ n_2 n_3, lD 107 H'
 (Addr.add ad (Int.toNat n_1 * 2)) (.agg ⟨[.int .i64 n_2, .int .i64 n_3]⟩) ∧ cL 128 [.slice a n c, .agg ⟨[.int .i64 n_2, .int .i64 n_3]⟩] H' fun a_2 n_4 c_1 H'_1 => I [.slice a_2 n_4 c_1, .int .i64
 (IntKind.wrap .i64 (n_1 + 1))] H'_1 ∧ μ [.slice a_2 n_4 c_1, .int .i64 (IntKind.wrap .i64 (n_1 + 1))] H'_1 < μ [.slice a n c, .int .i64 n_1] H')) (R (.slice a n c) H')) : CallH Tryz.prog 109
 (List.toArray [.slice a_a a_n a_c, .slice b_a b_n b_c]) H R := vc_call (annOf [([0, 1, 0, 1, 1, 1], .cut [(5, .one .slice), (6, .one (.int .i64))])]) followsAll Tryz.func109 rfl Tryz.ntmps109 rfl
 rfl (Eq.mpr (by kernel_rfl) h)
abbrev fn_slices_stableCmpFunc_api_Sample_ : Nat := 110
theorem vc_slices_stableCmpFunc_api_Sample_ (data_a : Option Addr) (data_n : Nat) (data_c : Nat) (n : Int) (cmp : Value) (H : Heap) (R : Value → Heap → Prop) (h : ∃ (I : IV) (μ : MU), I [.int .i64
 0, .int .i64 20] H ∧ ∀ (J : F) (n_1 n_2 : Int) (H' : Heap), I [.int .i64 n_1, .int .i64 n_2] H' → brB (decide (n_2 ≤ n)) (cU 129 [.slice data_a data_n data_c, .int .i64 n_1, .int .i64 n_2, cmp] H'
 fun H'_1 => I [.int .i64 n_2, .int .i64 (IntKind.wrap .i64 (n_2 + 20))] H'_1 ∧ μ [.int .i64 n_2, .int .i64 (IntKind.wrap .i64 (n_2 + 20))] H'_1 < μ [.int .i64 n_1, .int .i64 n_2] H') (cU 129 [.slice
 data_a data_n data_c, .int .i64 n_1, .int .i64 n, cmp] H' fun H' => ∃ (I : IV) (μ : MU), I [.int .i64 20] H' ∧ ∀ (J : F) (n_3 : Int) (H' : Heap), I [.int .i64 n_3] H' → brB (decide (n_3 < n)) (∃
 (I_1 : IV) (μ_1 : MU), I_1 [.int .i64 0, .int .i64 (IntKind.wrap .i64 (2 * n_3))] H' ∧ ∀ (J : F) (n_4 n_5 : Int) (H'_1 : Heap), I_1 [.int .i64 n_4, .int .i64 n_5] H'_1 → brB (decide (n_5 ≤ n)) (cU
 130 [.slice data_a data_n data_c, .int .i64 n_4, .int .i64 (IntKind.wrap .i64 (n_4 + n_3)), .int .i64 n_5, cmp] H'_1 fun H' => I_1 [.int .i64 n_5, .int .i64 (IntKind.wrap .i64 (n_5 + IntKind.wrap
 .i64 (2 * n_3)))] H' ∧ μ_1 [.int .i64 n_5, .int .i64 (IntKind.wrap .i64 (n_5 + IntKind.wrap .i64 (2 * n_3)))] H' < μ_1 [.int .i64 n_4, .int .i64 n_5] H'_1) (brB (decide (IntKind.wrap .i64 (n_4 +
 n_3) < n)) (cU 130 [.slice data_a data_n data_c, .int .i64 n_4, .int .i64 (IntKind.wrap .i64 (n_4 + n_3)), .int .i64 n, cmp] H'_1 fun H'_2 => I [.int .i64 (IntKind.wrap .i64 (n_3 * 2))] H'_2 ∧ μ
 [.int .i64 (IntKind.wrap .i64 (n_3 * 2))] H'_2 < μ [.int .i64 n_3] H') (I [.int .i64 (IntKind.wrap .i64 (n_3 * 2))] H'_1 ∧ μ [.int .i64 (IntKind.wrap .i64 (n_3 * 2))] H'_1 < μ [.int .i64 n_3] H')))
 (R (.tuple ⟨[]⟩) H'))) : CallH Tryz.prog 110 (List.toArray [.slice data_a data_n data_c, .int .i64 n, cmp]) H R := vc_call (annOf [([0, 0, 1, 1], .cut [(7, .one (.int .i64)), (8, .one (.int
 .i64))]), ([0, 1, 1, 1, 1], .cut [(6, .one (.int .i64))]), ([0, 0, 1, 0, 1, 0, 0, 1, 1, 1, 1], .cut [(7, .one (.int .i64)), (8, .one (.int .i64))])]) followsAll Tryz.func110 rfl Tryz.ntmps110 rfl
 rfl (Eq.mpr (by kernel_rfl) h)
theorem vc_cmp_isNaN_int_ (x : Int) (H : Heap) (R : Value → Heap → Prop) (h : R (.bool (x != x)) H) : CallH Tryz.prog 111 (List.toArray [.int .i64 x]) H R := vc_call (annOf []) followsAll
 Tryz.func111 rfl Tryz.ntmps111 rfl rfl (Eq.mpr (by kernel_rfl) h)
abbrev fn_series_merge_api_Sample_ : Nat := 114
theorem vc_series_merge_api_Sample_ (a_a : Option Addr) (a_n : Nat) (a_c : Nat) (b_a : Option Addr) (b_n : Nat) (b_c : Nat) (order : Value) (H : Heap) (R : Value → Heap → Prop) (h : SemWp Tryz.prog
 (Instr.makeSlice 90 (.int .i64 0) (.int .i64 (IntKind.wrap .i64 ((↑a_n : Int) + (↑b_n : Int))))) H fun v H' => ∃ a n c, v = .slice a n c ∧ ∃ (I : IV) (μ : MU), I [.slice a_a a_n a_c, .slice b_a b_n
 b_c, .slice a n c] H' ∧ ∀ (J : F) (a : Option Addr) (n c : Nat) (a_1 : Option Addr) (n_1 c_1 : Nat) (a_2 : Option Addr) (n_2 c_2 : Nat) (H' : Heap), I [.slice a n c, .slice a_1 n_1 c_1, .slice a_2
 n_2 c_2] H' → brB (decide ((↑n : Int) > 0)) (brB (decide ((↑n_1 : Int) > 0)) (ix a (0) n fun ad => (∃ n_3 n_4, lD 107 H' ad (.agg ⟨[.int .i64 n_3, .int .i64 n_4]⟩) ∧ ix a_1 (0) n_1 fun ad => (∃ n_5
 n_6, lD 107 H' ad (.agg ⟨[.int .i64 n_5, .int .i64 n_6]⟩) ∧ CallV Tryz.prog order [.agg ⟨[.int .i64 n_3, .int .i64 n_4]⟩, .agg ⟨[.int .i64 n_5, .int .i64 n_6]⟩] H' fun v H'_1 => ∃ n_7, v = .int .i64
 n_7 ∧ brB (decide (n_7 < 0)) (ix a (0) n fun ad => (∃ n_8 n_9, lD 107 H'_1 ad (.agg ⟨[.int .i64 n_8, .int .i64 n_9]⟩) ∧ chk (decide ((0 : Int) ≤ (1 : Int) ∧ 1 ≤ (↑n : Int) ∧ (↑n : Int) ≤ (↑c :
 Int))) (∀ (b : Nat) (H'_2 : Heap), New H'_1 b (.cells ⟨[.int .i64 n_8, .int .i64 n_9]⟩ 107) H'_2 → SemWp Tryz.prog (Builtin.append_ ⟨[90, 90]⟩ 90 ⟨[.slice a_2 n_2 c_2, .slice (some ⟨b, 0, none⟩) 1
 1]⟩) H'_2 fun v H'_3 => ∃ a_5 n_10 c_3, v = .slice a_5 n_10 c_3 ∧ I [.slice (slA c 1 2 a) (Int.toNat (↑n : Int) - 1) (c - 1), .slice a_1 n_1 c_1, .slice a_5 n_10 c_3] H'_3 ∧ μ [.slice (slA c 1 2 a)
 (Int.toNat (↑n : Int) - 1) (c - 1), .slice a_1 n_1 c_1, .slice a_5 n_10 c_3] H'_3 < μ [.slice a n c, .slice a_1 n_1 c_1, .slice a_2 n_2 c_2] H'))) (brB (n_7 == 0) (chk (decide ((0 : Int) ≤ (1 : Int)
 ∧ 1 ≤ (↑n : Int) ∧ (↑n : Int) ≤ (↑c : Int))) (ix a_1 (0) n_1 fun ad => (∃ n_8 n_9, lD 107 H'_1 ad (.agg ⟨[.int .i64 n_8, .int .i64 n_9]⟩) ∧ chk (decide ((0 : Int) ≤ (1 : Int) ∧ 1 ≤ (↑n_1 : Int) ∧
 (↑n_1 : Int) ≤ (↑c_1 : Int))) (∀ (b : Nat) (H'_2 : Heap), New H'_1 b (.cells ⟨[.int .i64 n_8, .int .i64 n_9]⟩ 107) H'_2 → SemWp Tryz.prog (Builtin.append_ ⟨[90, 90]⟩ 90 ⟨[.slice a_2 n_2 c_2, .slice
 (some ⟨b, 0, none⟩) 1 1]⟩) H'_2 fun v H'_3 => ∃ a_5 n_10 c_3, v = .slice a_5 n_10 c_3 ∧ I [.slice (slA c 1 2 a) (Int.toNat (↑n : Int) - 1) (c - 1), .slice (slA c_1 1 2 a_1) (Int.toNat (↑n_1 : Int) -
 1) (c_1 - 1), .slice a_5 n_10 c_3] H'_3 ∧ μ [.slice (slA c 1 2 a) (Int.toNat (↑n : Int) - 1) (c - 1), .slice (slA c_1 1 2 a_1) (Int.toNat (↑n_1 : Int) - 1) (c_1 - 1), .slice a_5 n_10 c_3] H'_3 < μ
 [.slice a n c, .slice a_1 n_1 c_1, .slice a_2 n_2 c_2] H')))) (ix a_1 (0) n_1 fun ad => (∃ n_8 n_9, lD 107 H'_1 ad (.agg ⟨[.int .i64 n_8, .int .i64 n_9]⟩) ∧ chk (decide ((0 : Int) ≤ (1 : Int) ∧ 1 ≤
 (↑n_1 : Int) ∧ (↑n_1 : Int) ≤ (↑c_1 : Int))) (∀ (b : Nat) (H'_2 : Heap), New H'_1 b (.cells ⟨[.int .i64 n_8, .int .i64 n_9]⟩ 107) H'_2 → SemWp Tryz.prog (Builtin.append_ ⟨[90, 90]⟩ 90 ⟨[.slice a_2
 n_2 c_2, .slice (some ⟨b, 0, none⟩) 1 1]⟩) H'_2 fun v H'_3 => ∃ a_5 n_10 c_3, v = .slice a_5 n_10 c_3 ∧ I [.slice a n c, .slice (slA c_1 1 2 a_1) (Int.toNat (↑n_1 : Int) - 1) (c_1 - 1), .slice a_5
 n_10 c_3] H'_3 ∧ μ [.slice a n c, .slice (slA c_1 1 2 a_1) (Int.toNat (↑n_1 : Int) - 1) (c_1 - 1), .slice a_5 n_10 c_3] H'_3 < μ [.slice a n c, .slice a_1 n_1 c_1, .slice a_2 n_2 c_2] H')))))))
 (SemWp Tryz.prog (Builtin.append_ ⟨[90, 90]⟩ 90 ⟨[.slice a_2 n_2 c_2, .slice a n c]⟩) H' fun v H' => ∃ a n c, v = .slice a n c ∧ SemWp Tryz.prog (Builtin.append_ ⟨[90, 90]⟩ 90 ⟨[.slice a n c, .slice
 a_1 n_1 c_1]⟩) H' fun v H' => ∃ a n c, v = .slice a n c ∧ R (.slice a n c) H')) (SemWp Tryz.prog (Builtin.append_ ⟨[90, 90]⟩ 90 ⟨[.slice a_2 n_2 c_2, .slice a n c]⟩) H' fun v H' => ∃ a n c, v =
 .slice a n c ∧ SemWp Tryz.prog (Builtin.append_ ⟨[90, 90]⟩ 90 ⟨[.slice a n c, .slice a_1 n_1 c_1]⟩) H' fun v H' => ∃ a n c, v = .slice a n c ∧ R (.slice a n c) H')) : CallH Tryz.prog 114
 (List.toArray [.slice a_a a_n a_c, .slice b_a b_n b_c, order]) H R := vc_call (annOf [([0, 0, 1, 1], .cut [(0, .one .slice), (1, .one .slice), (7, .one .slice)]), ([0, 0, 1, 0, 0, 0, 1, 1], .tail
 7), ([0, 0, 1, 0, 1, 0, 1, 0, 0, 0, 1, 1], .reg [0, 0, 2, 6, 14, 31, 0, 64, 63, 511] (.quiet 0 (.quiet 1 (.quiet 2 (.quiet 3 (.quiet 6 (.quiet 7 (.pick (.alt 4 (.pick (.alt 5 (.quiet 8 (.quiet 9
 .done)) .stop)) .stop))))))))), ([1, 1, 1, 0, 1, 0, 0, 0, 1, 1], .reg [0, 0, 2, 6, 14, 31, 0, 64, 63, 511] (.quiet 0 (.quiet 1 (.quiet 2 (.quiet 3 (.quiet 6 (.quiet 7 (.pick (.alt 4 (.pick (.alt 5
 (.quiet 8 (.quiet 9 .done)) .stop)) .stop)))))))))]) followsAll Tryz.func114 rfl Tryz.ntmps114 rfl rfl (Eq.mpr (by kernel_rfl) h)
theorem vc_delta_numbers_1 (yield : Value) (a1 : Addr) (H : Heap) (R : Value → Heap → Prop) (h : ∃ a n c, lD 90 H a1 (.slice a n c) ∧ chk (decide ((0 : Int) ≤ (1 : Int) ∧ 1 ≤ (↑n : Int) ∧ (↑n : Int)
 ≤ (↑c : Int))) (∃ (I : IV) (μ : MU), I [.int .i64 0, .int .i64 0] H ∧ ∀ (J : F) (n_1 n_2 : Int) (H' : Heap), I [.int .i64 n_1, .int .i64 n_2] H' → brB (decide (n_2 < (↑(Int.toNat (↑n : Int) -
 Int.toNat 1) : Int))) (exSome (slA c 1 2 a) fun ad => chk (decide (0 ≤ n_2 ∧ n_2 < (↑(Int.toNat (↑n : Int) - 1) : Int))) (∃ n n_3, lD 107 H' (Addr.add ad (Int.toNat n_2 * 2)) (.agg ⟨[.int .i64 n,
 .int .i64 n_3]⟩) ∧ ∀ (b : Nat) (H'_1 : Heap), New H' b (.cells ⟨[.int .i64 0, .int .i64 0]⟩ 107) H'_1 → ∃ H'_2, sT 107 H'_1 ⟨b, 0, none⟩ (.agg ⟨[.int .i64 n, .int .i64 n_3]⟩) H'_2 ∧ ∃ n, lD 3 H'_2
 ⟨b, 0, none⟩ (.int .i64 n) ∧ ∃ a n_4 c, lD 90 H'_2 a1 (.slice a n_4 c) ∧ ix a n_2 n_4 fun ad => (∃ n_5, lD 3 H'_2 (Addr.add ad (Int.toNat n_2 * 2)) (.int .i64 n_5) ∧ ∃ n_6, lD 3 H'_2 ⟨b, 1, none⟩
 (.int .i64 n_6) ∧ ∃ a n_7 c, lD 90 H'_2 a1 (.slice a n_7 c) ∧ ix a n_2 n_7 fun ad => (∃ n_8, lD 3 H'_2 (Addr.add (Addr.add ad (Int.toNat n_2 * 2)) 1) (.int .i64 n_8) ∧ cH 89 ⟨[.int .i64
 (IntKind.wrap .i64 (IntKind.wrap .i64 (n - n_5) - n_1))]⟩ H'_2 fun v H'_3 => ∃ n_9, v = .int .u64 n_9 ∧ lD 3 H'_3 (Addr.add (Addr.add ad (Int.toNat n_2 * 2)) 1) (.int .i64 n_8) ∧ lD 90 H'_3 a1
 (.slice a n_7 c) ∧ lD 3 H'_3 ⟨b, 1, none⟩ (.int .i64 n_6) ∧ cH 89 ⟨[.int .i64 (IntKind.wrap .i64 (n_6 - n_8))]⟩ H'_3 fun v H'_4 => ∃ n_10, v = .int .u64 n_10 ∧ CallY Tryz.prog yield [.int .u64 n_9,
 .int .u64 n_10] H'_4 fun v H'_5 => ∃ b, v = .bool b ∧ brB (!b) (R (.tuple ⟨[]⟩) H'_5) (I [.int .i64 (IntKind.wrap .i64 (n - n_5)), .int .i64 (IntKind.wrap .i64 (n_2 + 1))] H'_5 ∧ μ [.int .i64
 (IntKind.wrap .i64 (n - n_5)), .int .i64 (IntKind.wrap .i64 (n_2 + 1))] H'_5 < μ [.int .i64 n_1, .int .i64 n_2] H'))))) (R (.tuple ⟨[]⟩) H'))) : CallH Tryz.prog 116 (List.toArray [yield, .pointer
 (some a1)]) H R := vcY_call (annOf [([0, 1, 1], .cut [(3, .one (.int .i64)), (10, .one (.int .i64))]), ([0, 1, 0, 0, 1, 1, 0, 0, 1, 1], .reg [0, 1, 0, 0, 12, 28, 60, 127, 255] (.quiet 0 (.quiet 1
 (.quiet 2 (.quiet 3 (.quiet 4 (.quiet 5 (.quiet 6 (.quiet 7 (.quiet 8 .done)))))))))), ([0, 0, 1, 1, 0, 0, 1, 1, 0, 0, 1, 1], .reg [0, 0, 0, 6, 14, 0, 32, 0, 0, 384, 896, 1920, 4064, 8190, 16383,
 32767] (.quiet 0 (.quiet 1 (.quiet 2 (.quiet 3 (.quiet 5 (.quiet 6 (.quiet 7 (.quiet 8 (.quiet 9 (.quiet 10 (.quiet 11 (.quiet 12 (.pick (.alt 4 (.pick (.alt 13 (.pick (.alt 14 (.quiet 15 .done)
 .stop)) .stop)) .stop)))))))))))))))]) followsAll Tryz.func116 rfl Tryz.ntmps116 rfl rfl (Eq.mpr (by kernel_rfl) h)
abbrev fn_rice_Cost : Nat := 117
theorem vc_rice_Cost (l_a : Option Addr) (l_n : Nat) (l_c : Nat) (k : Int) (H : Heap) (R : Value → Heap → Prop) (h : ∃ (M : IV), brB (decide (k < 0)) (R (.int .i64 0) H) (brB (decide (k > 40)) (R
 (.int .i64 0) H) (M [] H)) ∧ ∀ (J : F) (H' : Heap), M [] H' → ∃ (I : IV) (μ : MU), I [.int .i64 0, .int .i64 0] H' ∧ ∀ (J : F) (n n_1 : Int) (H' : Heap), I [.int .i64 n, .int .i64 n_1] H' → brB
 (decide (n_1 < (↑l_n : Int))) (ix l_a n_1 l_n fun ad => (∃ n_2, lD 89 H' (Addr.add ad (Int.toNat n_1 * 1)) (.int .u64 n_2) ∧ chk (decide (0 ≤ IntKind.wrap .u64 k)) (brB (decide (Int.fdiv n_2 (2 ^
 min (Int.toNat (IntKind.wrap .u64 k)) (IntKind.bits .u64)) < 24)) (I [.int .i64 (IntKind.wrap .i64 (n + IntKind.wrap .i64 (IntKind.wrap .i64 (IntKind.wrap .i64 (Int.fdiv n_2 (2 ^ min (Int.toNat
 (IntKind.wrap .u64 k)) 64)) + 1) + k))), .int .i64 (IntKind.wrap .i64 (n_1 + 1))] H' ∧ μ [.int .i64 (IntKind.wrap .i64 (n + IntKind.wrap .i64 (IntKind.wrap .i64 (IntKind.wrap .i64 (Int.fdiv n_2 (2 ^
 min (Int.toNat (IntKind.wrap .u64 k)) 64)) + 1) + k))), .int .i64 (IntKind.wrap .i64 (n_1 + 1))] H' < μ [.int .i64 n, .int .i64 n_1] H') (I [.int .i64 (IntKind.wrap .i64 (n + 88)), .int .i64
 (IntKind.wrap .i64 (n_1 + 1))] H' ∧ μ [.int .i64 (IntKind.wrap .i64 (n + 88)), .int .i64 (IntKind.wrap .i64 (n_1 + 1))] H' < μ [.int .i64 n, .int .i64 n_1] H')))) (R (.int .i64 n) H')) : CallH
 Tryz.prog 117 (List.toArray [.slice l_a l_n l_c, .int .i64 k]) H R := vc_call (annOf [([1], .cut []), ([0, 1, 0, 1, 1, 1], .cut [(5, .one (.int .i64)), (17, .one (.int .i64))])]) followsAll
 Tryz.func117 rfl Tryz.ntmps117 rfl rfl (Eq.mpr (by kernel_rfl) h)
theorem vc_rice_Best_1 (k : Int) (a1 : Addr) (a2 : Addr) (a3 : Addr) (H : Heap) (R : Value → Heap → Prop) (h : ∃ a n c, lD 138 H a1 (.slice a n c) ∧ cI 117 [.slice a n c, .int .i64 k] H fun n H' =>
 ∃ n_1, lD 3 H' a2 (.int .i64 n_1) ∧ brB (decide (n < n_1)) (∃ H'_1, sT 3 H' a3 (.int .i64 k) H'_1 ∧ ∃ H', sT 3 H'_1 a2 (.int .i64 n) H' ∧ R (.tuple ⟨[]⟩) H') (R (.tuple ⟨[]⟩) H')) : CallH Tryz.prog
 118 (List.toArray [.int .i64 k, .pointer (some a1), .pointer (some a2), .pointer (some a3)]) H R := vc_call (annOf []) followsAll Tryz.func118 rfl Tryz.ntmps118 rfl rfl (Eq.mpr (by kernel_rfl) h)
abbrev fn_rice_Writer_all : Nat := 119
theorem vc_rice_Writer_all (w : Addr) (n : Int) (many : Int) (H : Heap) (R : Value → Heap → Prop) (h : ∃ (I : IV) (μ : MU), I [.int .i64 many] H ∧ ∀ (J : F) (n_1 : Int) (H' : Heap), I [.int .i64
 n_1] H' → brB (decide (n_1 > 8)) (chk (decide (0 ≤ IntKind.wrap .u64 (IntKind.wrap .i64 (n_1 - 8)))) (cU 141 [.pointer (some w), .int .u64 (IntKind.wrap .u64 (↑(BitVec.toNat (BitVec.ofInt 64
 (Int.fdiv n (2 ^ min (Int.toNat (IntKind.wrap .u64 (IntKind.wrap .i64 (n_1 - 8)))) 64)) &&& BitVec.ofInt 64 255)) : Int)), .int .i64 8] H' fun H'_1 => I [.int .i64 (IntKind.wrap .i64 (n_1 - 8))]
 H'_1 ∧ μ [.int .i64 (IntKind.wrap .i64 (n_1 - 8))] H'_1 < μ [.int .i64 n_1] H')) (chk (decide (0 ≤ IntKind.wrap .u64 n_1)) (cU 141 [.pointer (some w), .int .u64 (IntKind.wrap .u64 (↑(BitVec.toNat
 (BitVec.ofInt 64 n &&& BitVec.ofInt 64 (IntKind.wrap .u64 (IntKind.wrap .u64 (1 * 2 ^ min (Int.toNat (IntKind.wrap .u64 n_1)) 64) - 1)))) : Int)), .int .i64 n_1] H' fun H' => R (.tuple ⟨[]⟩) H'))) :
 CallH Tryz.prog 119 (List.toArray [.pointer (some w), .int .u64 n, .int .i64 many]) H R := vc_call (annOf [([0, 0], .cut [(2, .one (.int .i64))])]) followsAll Tryz.func119 rfl Tryz.ntmps119 rfl rfl
 (Eq.mpr (by kernel_rfl) h)
abbrev fn_zig_GetInt : Nat := 120
theorem vc_zig_GetInt (s : ByteArray) (at' : Int) (H : Heap) (R : Value → Heap → Prop) (h : cH 90 ⟨[.string s, .int .i64 at']⟩ H fun v H' => ∃ n n_1 n_2, v = .tuple ⟨[.int .u64 n, .int .i64 n_1,
 .int .i64 n_2]⟩ ∧ cI 142 [.int .u64 n] H' fun n H' => R (.tuple ⟨[.int .i64 n, .int .i64 n_1, .int .i64 n_2]⟩) H') : CallH Tryz.prog 120 (List.toArray [.string s, .int .i64 at']) H R := vc_call
 (annOf []) followsAll Tryz.func120 rfl Tryz.ntmps120 rfl rfl (Eq.mpr (by kernel_rfl) h)
abbrev fn_delta_rest : Nat := 121
theorem vc_delta_rest (l_a : Option Addr) (l_n : Nat) (l_c : Nat) (n : Int) (s : ByteArray) (H : Heap) (R : Value → Heap → Prop) (h : brB (decide ((↑(ByteArray.size s) : Int) < 2)) (R (.tuple
 ⟨[.slice none 0 0, .bool false]⟩) H) (chk (decide ((0 : Int) ≤ (0 : Int) ∧ 0 < (↑(ByteArray.size s) : Int))) (chk (decide ((0 : Int) ≤ (1 : Int) ∧ 1 < (↑(ByteArray.size s) : Int))) (chk (decide ((0
 : Int) ≤ (2 : Int) ∧ 2 ≤ (↑(ByteArray.size s) : Int) ∧ (↑(ByteArray.size s) : Int) ≤ (↑(ByteArray.size s) : Int))) (cP 143 [.string (ByteArray.extract s 2 (Int.toNat (↑(ByteArray.size s) : Int)))] H
 fun a H' => ∃ (I : IV) (μ : MU), I [.slice l_a l_n l_c, .int .i64 0] H' ∧ ∀ (J : F) (a_1 : Option Addr) (n_1 c : Nat) (n_2 : Int) (H' : Heap), I [.slice a_1 n_1 c, .int .i64 n_2] H' → brB (decide
 ((↑n_1 : Int) < n)) (cH 144 ⟨[.pointer a, .int .i64 (IntKind.wrap .i64 (↑(atB s 0) : Int))]⟩ H' fun v H'_1 => ∃ n n_3, v = .tuple ⟨[.int .u64 n, .int .i64 n_3]⟩ ∧ cH 144 ⟨[.pointer a, .int .i64
 (IntKind.wrap .i64 (↑(atB s 1) : Int))]⟩ H'_1 fun v H'_2 => ∃ n_4 n_5, v = .tuple ⟨[.int .u64 n_4, .int .i64 n_5]⟩ ∧ ix a_1 (IntKind.wrap .i64 ((↑n_1 : Int) - 1)) n_1 fun ad => (∃ n_6 n_7, lD 107
 H'_2 (Addr.add ad (Int.toNat (IntKind.wrap .i64 ((↑n_1 : Int) - 1)) * 2)) (.agg ⟨[.int .i64 n_6, .int .i64 n_7]⟩) ∧ ∀ (b : Nat) (H'_3 : Heap), New H'_2 b (.cells ⟨[.int .i64 0, .int .i64 0]⟩ 107)
 H'_3 → ∃ H'_4, sT 107 H'_3 ⟨b, 0, none⟩ (.agg ⟨[.int .i64 n_6, .int .i64 n_7]⟩) H'_4 ∧ cI 142 [.int .u64 n] H'_4 fun n H'_5 => ∃ (M : IV), brB (n_3 != 0) (R (.tuple ⟨[.slice none 0 0, .bool false]⟩)
 H'_5) (brB (n_5 != 0) (R (.tuple ⟨[.slice none 0 0, .bool false]⟩) H'_5) (brB (decide (n > 1099511627776)) (R (.tuple ⟨[.slice none 0 0, .bool false]⟩) H'_5) (brB (decide (n < (-1099511627776 :
 Int))) (R (.tuple ⟨[.slice none 0 0, .bool false]⟩) H'_5) (M [] H'_5)))) ∧ ∀ (J : F) (H'_6 : Heap), M [] H'_6 → ∃ (M : IV), brB (decide (IntKind.wrap .i64 (n_2 + n) < 1)) (R (.tuple ⟨[.slice none 0
 0, .bool false]⟩) H'_6) (brB (decide (IntKind.wrap .i64 (n_2 + n) > 1099511627776)) (R (.tuple ⟨[.slice none 0 0, .bool false]⟩) H'_6) (∃ n_8, lD 3 H'_6 ⟨b, 0, none⟩ (.int .i64 n_8) ∧ brB (decide
 (IntKind.wrap .i64 (n_8 + IntKind.wrap .i64 (n_2 + n)) ≥ 1099511627776)) (R (.tuple ⟨[.slice none 0 0, .bool false]⟩) H'_6) (M [.int .i64 (IntKind.wrap .i64 (n_2 + n))] H'_6))) ∧ ∀ (J : F) (n : Int)
 (H'_7 : Heap), M [.int .i64 n] H'_7 → ∃ n_8, lD 3 H'_7 ⟨b, 0, none⟩ (.int .i64 n_8) ∧ ∃ n_9, lD 3 H'_7 ⟨b, 1, none⟩ (.int .i64 n_9) ∧ cI 142 [.int .u64 n_4] H'_7 fun n_10 H'_8 => lD 3 H'_8 ⟨b, 1,
 none⟩ (.int .i64 n_9) ∧ lD 3 H'_8 ⟨b, 0, none⟩ (.int .i64 n_8) ∧ ∀ (b : Nat) (H'_9 : Heap), New H'_8 b (.cells ⟨[.int .i64 (IntKind.wrap .i64 (n_8 + n)), .int .i64 (IntKind.wrap .i64 (n_9 + n_10))]⟩
 107) H'_9 → SemWp Tryz.prog (Builtin.append_ ⟨[90, 90]⟩ 90 ⟨[.slice a_1 n_1 c, .slice (some ⟨b, 0, none⟩) 1 1]⟩) H'_9 fun v H'_10 => ∃ a n_11 c_1, v = .slice a n_11 c_1 ∧ I [.slice a n_11 c_1, .int
 .i64 n] H'_10 ∧ μ [.slice a n_11 c_1, .int .i64 n] H'_10 < μ [.slice a_1 n_1 c, .int .i64 n_2] H')) (cI 145 [.pointer a] H' fun n H' => R (.tuple ⟨[.slice a_1 n_1 c, .bool (n == 0)]⟩) H')))))) :
 CallH Tryz.prog 121 (List.toArray [.slice l_a l_n l_c, .int .i64 n, .string s]) H R := vc_call (annOf [([0, 0, 1, 1, 1, 1, 1], .cut [(0, .one .slice), (11, .one (.int .i64))]), ([1, 1, 1, 1, 0, 1,
 0, 0, 0, 1, 1, 1, 1, 1], .cut []), ([1, 1, 1, 1, 1, 0, 1, 0, 0, 0, 1, 1, 1, 1, 1], .cut [(11, .one (.int .i64))]), ([1, 1, 1, 1, 1, 1, 0, 1, 0, 0, 0, 1, 1, 1, 1, 1], .reg [0, 0, 2, 0, 14, 0, 32, 0,
 128, 480, 1022, 2046, 4095, 8191] (.quiet 0 (.quiet 1 (.quiet 2 (.quiet 3 (.quiet 4 (.quiet 5 (.quiet 6 (.quiet 7 (.pick (.alt 8 (.quiet 9 (.quiet 10 (.pick (.alt 11 (.pick (.alt 12 (.quiet 13
 .done) .stop)) .stop)))) .stop)))))))))))]) followsAll Tryz.func121 rfl Tryz.ntmps121 rfl rfl (Eq.mpr (by kernel_rfl) h)
abbrev fn_runs_reader_number : Nat := 122
theorem vc_runs_reader_number (x : Addr) (below : Int) (H : Heap) (R : Value → Heap → Prop) (h : ∃ s, lD 9 H x (.string s) ∧ ∃ n, lD 3 H (Addr.add x 1) (.int .i64 n) ∧ cH 90 ⟨[.string s, .int .i64
 n]⟩ H fun v H' => ∃ n n_1 n_2, v = .tuple ⟨[.int .u64 n, .int .i64 n_1, .int .i64 n_2]⟩ ∧ ∃ (M : IV), (∃ (M_1 : IV), (∃ b, lD 4 H' (Addr.add x 2) (.bool b) ∧ brB (!b) (M_1 [.bool true] H') (brB (n_2
 != 0) (M_1 [.bool true] H') (M_1 [.bool (decide (n ≥ IntKind.wrap .u64 below))] H'))) ∧ ∀ (J : F) (b : Bool) (H' : Heap), M_1 [.bool b] H' → brB b (∃ H'_1, sT 4 H' (Addr.add x 2) (.bool false) H'_1
 ∧ R (.int .i64 0) H'_1) (M [] H')) ∧ ∀ (J : F) (H' : Heap), M [] H' → ∃ H'_1, sT 3 H' (Addr.add x 1) (.int .i64 n_1) H'_1 ∧ R (.int .i64 (IntKind.wrap .i64 n)) H'_1) : CallH Tryz.prog 122
 (List.toArray [.pointer (some x), .int .i64 below]) H R := vc_call (annOf [([0, 1], .reg [0, 1, 3, 7, 0, 16, 48, 112, 255, 511, 1023, 1023, 1023, 2047, 12287, 32767] (.quiet 0 (.quiet 1 (.quiet 2
 (.quiet 3 (.quiet 4 (.quiet 5 (.quiet 6 (.quiet 7 (.pick (.alt 8 (.quiet 9 (.quiet 10 (.quiet 11 (.quiet 12 (.quiet 13 (.quiet 14 (.quiet 15 .done))))))) .stop))))))))))), ([1, 1], .cut []), ([0, 1,
 1], .cut [(35, .one .bool)])]) followsAll Tryz.func122 rfl Tryz.ntmps122 rfl rfl (Eq.mpr (by kernel_rfl) h)
abbrev fn_slices_IndexFunc___api_Row_api_Row_ : Nat := 123
theorem vc_slices_IndexFunc___api_Row_api_Row_ (s_a : Option Addr) (s_n : Nat) (s_c : Nat) (f : Value) (H : Heap) (R : Value → Heap → Prop) (h : ∃ (I : IV) (μ : MU), I [.int .i64 0] H ∧ ∀ (J : F) (n
 : Int) (H' : Heap), I [.int .i64 n] H' → brB (decide (n < (↑s_n : Int))) (ix s_a n s_n fun ad => (∃ n_1 n_2 n_3, lD 26 H' (Addr.add ad (Int.toNat n * 3)) (.agg ⟨[.int .i64 n_1, .int .i64 n_2, .int
 .i64 n_3]⟩) ∧ CallV Tryz.prog f [.agg ⟨[.int .i64 n_1, .int .i64 n_2, .int .i64 n_3]⟩] H' fun v H'_1 => ∃ b, v = .bool b ∧ brB b (R (.int .i64 n) H'_1) (I [.int .i64 (IntKind.wrap .i64 (n + 1))]
 H'_1 ∧ μ [.int .i64 (IntKind.wrap .i64 (n + 1))] H'_1 < μ [.int .i64 n] H'))) (R (.int .i64 (-1 : Int)) H')) : CallH Tryz.prog 123 (List.toArray [.slice s_a s_n s_c, f]) H R := vc_call (annOf [([0,
 1, 0, 1], .cut [(8, .one (.int .i64))])]) followsAll Tryz.func123 rfl Tryz.ntmps123 rfl rfl (Eq.mpr (by kernel_rfl) h)
abbrev fn_ref02_Cost : Nat := 126
theorem vc_ref02_Cost (l_a : Option Addr) (l_n : Nat) (l_c : Nat) (k : Int) (H : Heap) (R : Value → Heap → Prop) (h : ∃ (M : IV), brB (decide (k < 0)) (R (.int .i64 0) H) (brB (decide (k > 40)) (R
 (.int .i64 0) H) (M [] H)) ∧ ∀ (J : F) (H' : Heap), M [] H' → ∃ (I : IV) (μ : MU), I [.int .i64 0, .int .i64 0] H' ∧ ∀ (J : F) (n n_1 : Int) (H' : Heap), I [.int .i64 n, .int .i64 n_1] H' → brB
 (decide (n_1 < (↑l_n : Int))) (ix l_a n_1 l_n fun ad => (∃ n_2, lD 89 H' (Addr.add ad (Int.toNat n_1 * 1)) (.int .u64 n_2) ∧ cL 127 [.int .u64 n_2, .int .i64 k] H' fun a n_3 c H'_1 => I [.int .i64
 (IntKind.wrap .i64 (n + (↑n_3 : Int))), .int .i64 (IntKind.wrap .i64 (n_1 + 1))] H'_1 ∧ μ [.int .i64 (IntKind.wrap .i64 (n + (↑n_3 : Int))), .int .i64 (IntKind.wrap .i64 (n_1 + 1))] H'_1 < μ [.int
 .i64 n, .int .i64 n_1] H')) (R (.int .i64 n) H')) : CallH Tryz.prog 126 (List.toArray [.slice l_a l_n l_c, .int .i64 k]) H R := vc_call (annOf [([1], .cut []), ([0, 1, 0, 1, 1, 1], .cut [(5, .one
 (.int .i64)), (6, .one (.int .i64))])]) followsAll Tryz.func126 rfl Tryz.ntmps126 rfl rfl (Eq.mpr (by kernel_rfl) h)
abbrev fn_ref02_Code : Nat := 127
theorem vc_ref02_Code (n : Int) (k : Int) (H : Heap) (R : Value → Heap → Prop) (h : ∀ (b : Nat) (H' : Heap), New H b (.cells ⟨[]⟩ 4) H' → chk (decide (0 ≤ IntKind.wrap .u64 k)) (brB (decide
 (Int.fdiv n (2 ^ min (Int.toNat (IntKind.wrap .u64 k)) (IntKind.bits .u64)) ≥ 24)) (∃ (I : IV) (μ : MU), I [.slice (some ⟨b, 0, none⟩) 0 0, .int .i64 0] H' ∧ ∀ (J : F) (a : Option Addr) (n_1 c :
 Nat) (n_2 : Int) (H' : Heap), I [.slice a n_1 c, .int .i64 n_2] H' → brB (decide (n_2 < 24)) (∀ (b : Nat) (H'_1 : Heap), New H' b (.cells ⟨[.bool true]⟩ 4) H'_1 → SemWp Tryz.prog (Builtin.append_
 ⟨[191, 191]⟩ 191 ⟨[.slice a n_1 c, .slice (some ⟨b, 0, none⟩) 1 1]⟩) H'_1 fun v H'_2 => ∃ a_3 n c_1, v = .slice a_3 n c_1 ∧ I [.slice a_3 n c_1, .int .i64 (IntKind.wrap .i64 (n_2 + 1))] H'_2 ∧ μ
 [.slice a_3 n c_1, .int .i64 (IntKind.wrap .i64 (n_2 + 1))] H'_2 < μ [.slice a n_1 c, .int .i64 n_2] H') (cL 149 [.int .u64 n, .int .i64 64] H' fun a_2 n c_1 H' => SemWp Tryz.prog (Builtin.append_
 ⟨[191, 191]⟩ 191 ⟨[.slice a n_1 c, .slice a_2 n c_1]⟩) H' fun v H' => ∃ a n c, v = .slice a n c ∧ R (.slice a n c) H')) (∃ (I : IV) (μ : MU), I [.slice (some ⟨b, 0, none⟩) 0 0, .int .u64 0] H' ∧ ∀
 (J : F) (a : Option Addr) (n_1 c : Nat) (n_2 : Int) (H' : Heap), I [.slice a n_1 c, .int .u64 n_2] H' → brB (decide (n_2 < Int.fdiv n (2 ^ min (Int.toNat (IntKind.wrap .u64 k)) (IntKind.bits
 .u64)))) (∀ (b : Nat) (H'_1 : Heap), New H' b (.cells ⟨[.bool true]⟩ 4) H'_1 → SemWp Tryz.prog (Builtin.append_ ⟨[191, 191]⟩ 191 ⟨[.slice a n_1 c, .slice (some ⟨b, 0, none⟩) 1 1]⟩) H'_1 fun v H'_2
 => ∃ a_3 n c_1, v = .slice a_3 n c_1 ∧ I [.slice a_3 n c_1, .int .u64 (IntKind.wrap .u64 (n_2 + 1))] H'_2 ∧ μ [.slice a_3 n c_1, .int .u64 (IntKind.wrap .u64 (n_2 + 1))] H'_2 < μ [.slice a n_1 c,
 .int .u64 n_2] H') (∀ (b : Nat) (H'_1 : Heap), New H' b (.cells ⟨[.bool false]⟩ 4) H'_1 → SemWp Tryz.prog (Builtin.append_ ⟨[191, 191]⟩ 191 ⟨[.slice a n_1 c, .slice (some ⟨b, 0, none⟩) 1 1]⟩) H'_1
 fun v H' => ∃ a n_3 c, v = .slice a n_3 c ∧ cL 149 [.int .u64 n, .int .i64 k] H' fun a_3 n c_1 H' => SemWp Tryz.prog (Builtin.append_ ⟨[191, 191]⟩ 191 ⟨[.slice a n_3 c, .slice a_3 n c_1]⟩) H' fun v
 H' => ∃ a n c, v = .slice a n c ∧ R (.slice a n c) H')))) : CallH Tryz.prog 127 (List.toArray [.int .u64 n, .int .i64 k]) H R := vc_call (annOf [([0, 1, 0, 0, 1, 0, 1, 1, 1], .cut [(5, .one .slice),
 (7, .one (.int .i64))]), ([0, 1, 0, 1, 1, 1, 1], .cut [(5, .one .slice), (8, .one (.int .u64))])]) followsAll Tryz.func127 rfl Tryz.ntmps127 rfl rfl (Eq.mpr (by kernel_rfl) h)
abbrev fn_ref13_set : Nat := 128
theorem vc_ref13_set (l_a : Option Addr) (l_n : Nat) (l_c : Nat) (x_0 : Int) (x_1 : Int) (H : Heap) (R : Value → Heap → Prop) (h : ∀ (b : Nat) (H' : Heap), New H b (.cells ⟨[.int .i64 x_0, .int .i64
 x_1]⟩ 107) H' → ∀ (b_1 : Nat) (H'_1 : Heap), New H' b_1 (.cells ⟨[]⟩ 107) H'_1 → ∃ (I : IV) (μ : MU), I [.slice (some ⟨b_1, 0, none⟩) 0 0, .bool false, .int .i64 0] H'_1 ∧ ∀ (J : F) (a : Option
 Addr) (n c : Nat) (b_2 : Bool) (n_1 : Int) (H' : Heap), I [.slice a n c, .bool b_2, .int .i64 n_1] H' → brB (decide (n_1 < (↑l_n : Int))) (∃ (M : IV), brB (!b_2) (ix l_a n_1 l_n fun ad => (∃ n_2, lD
 3 H' (Addr.add ad (Int.toNat n_1 * 2)) (.int .i64 n_2) ∧ ∃ n_3, lD 3 H' ⟨b, 0, none⟩ (.int .i64 n_3) ∧ brB (decide (n_2 ≥ n_3)) (∃ n_4 n_5, lD 107 H' ⟨b, 0, none⟩ (.agg ⟨[.int .i64 n_4, .int .i64
 n_5]⟩) ∧ ∀ (b : Nat) (H'_2 : Heap), New H' b (.cells ⟨[.int .i64 n_4, .int .i64 n_5]⟩ 107) H'_2 → SemWp Tryz.prog (Builtin.append_ ⟨[90, 90]⟩ 90 ⟨[.slice a n c, .slice (some ⟨b, 0, none⟩) 1 1]⟩)
 H'_2 fun v H' => ∃ a n c, v = .slice a n c ∧ M [.slice a n c, .bool true] H') (M [.slice a n c, .bool b_2] H'))) (M [.slice a n c, .bool b_2] H') ∧ ∀ (J : F) (a_2 : Option Addr) (n_2 c_1 : Nat) (b_3
 : Bool) (H'_2 : Heap), M [.slice a_2 n_2 c_1, .bool b_3] H'_2 → ix l_a n_1 l_n fun ad => (∃ n_3, lD 3 H'_2 (Addr.add ad (Int.toNat n_1 * 2)) (.int .i64 n_3) ∧ ∃ n_4, lD 3 H'_2 ⟨b, 0, none⟩ (.int
 .i64 n_4) ∧ brB (n_3 != n_4) (ix l_a n_1 l_n fun ad => (∃ n_5 n_6, lD 107 H'_2 (Addr.add ad (Int.toNat n_1 * 2)) (.agg ⟨[.int .i64 n_5, .int .i64 n_6]⟩) ∧ ∀ (b : Nat) (H'_3 : Heap), New H'_2 b
 (.cells ⟨[.int .i64 n_5, .int .i64 n_6]⟩ 107) H'_3 → SemWp Tryz.prog (Builtin.append_ ⟨[90, 90]⟩ 90 ⟨[.slice a_2 n_2 c_1, .slice (some ⟨b, 0, none⟩) 1 1]⟩) H'_3 fun v H'_4 => ∃ a_5 n_7 c_2, v =
 .slice a_5 n_7 c_2 ∧ I [.slice a_5 n_7 c_2, .bool b_3, .int .i64 (IntKind.wrap .i64 (n_1 + 1))] H'_4 ∧ μ [.slice a_5 n_7 c_2, .bool b_3, .int .i64 (IntKind.wrap .i64 (n_1 + 1))] H'_4 < μ [.slice a n
 c, .bool b_2, .int .i64 n_1] H')) (I [.slice a_2 n_2 c_1, .bool b_3, .int .i64 (IntKind.wrap .i64 (n_1 + 1))] H'_2 ∧ μ [.slice a_2 n_2 c_1, .bool b_3, .int .i64 (IntKind.wrap .i64 (n_1 + 1))] H'_2 <
 μ [.slice a n c, .bool b_2, .int .i64 n_1] H'))) (brB (!b_2) (∃ n_2 n_3, lD 107 H' ⟨b, 0, none⟩ (.agg ⟨[.int .i64 n_2, .int .i64 n_3]⟩) ∧ ∀ (b : Nat) (H'_2 : Heap), New H' b (.cells ⟨[.int .i64 n_2,
 .int .i64 n_3]⟩ 107) H'_2 → SemWp Tryz.prog (Builtin.append_ ⟨[90, 90]⟩ 90 ⟨[.slice a n c, .slice (some ⟨b, 0, none⟩) 1 1]⟩) H'_2 fun v H' => ∃ a n c, v = .slice a n c ∧ R (.slice a n c) H') (R
 (.slice a n c) H'))) : CallH Tryz.prog 128 (List.toArray [.slice l_a l_n l_c, .agg #[.int .i64 x_0, .int .i64 x_1]]) H R := vc_call (annOf [([0, 1, 0, 1, 1, 1], .cut [(5, .one .slice), (6, .one
 .bool), (7, .one (.int .i64))]), ([0, 0, 1, 0, 0, 1, 0, 1, 1, 1], .cut [(5, .one .slice), (6, .one .bool)])]) followsAll Tryz.func128 rfl Tryz.ntmps128 rfl rfl (Eq.mpr (by kernel_rfl) h)
abbrev fn_slices_insertionSortCmpFunc_api_Sample_ : Nat := 129
theorem vc_slices_insertionSortCmpFunc_api_Sample_ (data_a : Option Addr) (data_n : Nat) (data_c : Nat) (a : Int) (b : Int) (cmp : Value) (H : Heap) (R : Value → Heap → Prop) (h : ∃ (I : IV) (μ :
 MU), I [.int .i64 (IntKind.wrap .i64 (a + 1))] H ∧ ∀ (J : F) (n : Int) (H' : Heap), I [.int .i64 n] H' → brB (decide (n < b)) (∃ (I_1 : IV) (μ_1 : MU), I_1 [.int .i64 n] H' ∧ ∀ (J : F) (n_1 : Int)
 (H'_1 : Heap), I_1 [.int .i64 n_1] H'_1 → ∃ (M : IV), brB (decide (n_1 > a)) (ix data_a n_1 data_n fun ad => (∃ n_2 n_3, lD 107 H'_1 (Addr.add ad (Int.toNat n_1 * 2)) (.agg ⟨[.int .i64 n_2, .int
 .i64 n_3]⟩) ∧ ix data_a (IntKind.wrap .i64 (n_1 - 1)) data_n fun ad => (∃ n_4 n_5, lD 107 H'_1 (Addr.add ad (Int.toNat (IntKind.wrap .i64 (n_1 - 1)) * 2)) (.agg ⟨[.int .i64 n_4, .int .i64 n_5]⟩) ∧
 CallV Tryz.prog cmp [.agg ⟨[.int .i64 n_2, .int .i64 n_3]⟩, .agg ⟨[.int .i64 n_4, .int .i64 n_5]⟩] H'_1 fun v H'_2 => ∃ n_6, v = .int .i64 n_6 ∧ brB (decide (n_6 < 0)) (M [] H'_2) (I [.int .i64
 (IntKind.wrap .i64 (n + 1))] H'_2 ∧ μ [.int .i64 (IntKind.wrap .i64 (n + 1))] H'_2 < μ [.int .i64 n] H')))) (I [.int .i64 (IntKind.wrap .i64 (n + 1))] H'_1 ∧ μ [.int .i64 (IntKind.wrap .i64 (n +
 1))] H'_1 < μ [.int .i64 n] H') ∧ ∀ (J : F) (H' : Heap), M [] H' → ix data_a (IntKind.wrap .i64 (n_1 - 1)) data_n fun ad => (∃ n n_2, lD 107 H' (Addr.add ad (Int.toNat (IntKind.wrap .i64 (n_1 - 1))
 * 2)) (.agg ⟨[.int .i64 n, .int .i64 n_2]⟩) ∧ ix data_a n_1 data_n fun ad => (∃ n_3 n_4, lD 107 H' (Addr.add ad (Int.toNat n_1 * 2)) (.agg ⟨[.int .i64 n_3, .int .i64 n_4]⟩) ∧ ix data_a n_1 data_n
 fun ad => (∃ H'_2, sT 107 H' (Addr.add ad (Int.toNat n_1 * 2)) (.agg ⟨[.int .i64 n, .int .i64 n_2]⟩) H'_2 ∧ ix data_a (IntKind.wrap .i64 (n_1 - 1)) data_n fun ad => (∃ H', sT 107 H'_2 (Addr.add ad
 (Int.toNat (IntKind.wrap .i64 (n_1 - 1)) * 2)) (.agg ⟨[.int .i64 n_3, .int .i64 n_4]⟩) H' ∧ I_1 [.int .i64 (IntKind.wrap .i64 (n_1 - 1))] H' ∧ μ_1 [.int .i64 (IntKind.wrap .i64 (n_1 - 1))] H' < μ_1
 [.int .i64 n_1] H'_1))))) (R (.tuple ⟨[]⟩) H')) : CallH Tryz.prog 129 (List.toArray [.slice data_a data_n data_c, .int .i64 a, .int .i64 b, cmp]) H R := vc_call (annOf [([0, 1], .cut [(8, .one (.int
 .i64))]), ([0, 1, 0, 0, 1, 0, 0, 1], .cut [(9, .one (.int .i64))]), ([0, 0, 1, 0, 0, 1, 0, 0, 1], .cut []), ([0, 0, 0, 0, 1, 0, 0, 1, 0, 0, 1], .tail 14), ([0, 0, 1, 0, 0, 1, 0, 0, 1, 0, 0, 1], .reg
 [0, 0, 0, 0, 8, 0, 0, 64, 224, 480, 0, 0, 3072, 7168, 16355, 32739, 65535, 131071] (.quiet 0 (.quiet 1 (.quiet 2 (.quiet 3 (.quiet 4 (.quiet 5 (.quiet 6 (.quiet 7 (.quiet 8 (.quiet 9 (.quiet 10
 (.quiet 11 (.quiet 12 (.quiet 13 (.quiet 14 (.pick (.alt 15 (.quiet 16 (.pick (.alt 17 (.done) .stop))) .stop))))))))))))))))))]) followsAll Tryz.func129 rfl Tryz.ntmps129 rfl rfl (Eq.mpr (by
 kernel_rfl) h)
abbrev fn_slices_symMergeCmpFunc_api_Sample_ : Nat := 130
theorem vc_slices_symMergeCmpFunc_api_Sample_ (data_a : Option Addr) (data_n : Nat) (data_c : Nat) (a : Int) (m : Int) (b : Int) (cmp : Value) (H : Heap) (R : Value → Heap → Prop) (h : brB
 (IntKind.wrap .i64 (m - a) == 1) (∃ (I : IV) (μ : MU), I [.int .i64 m, .int .i64 b] H ∧ ∀ (J : F) (n n_1 : Int) (H' : Heap), I [.int .i64 n, .int .i64 n_1] H' → brB (decide (n < n_1)) (ix data_a
 (IntKind.wrap .i64 (Int.fdiv (IntKind.wrap .u64 (IntKind.wrap .i64 (n + n_1))) (2 ^ 1))) data_n fun ad => (∃ n_2 n_3, lD 107 H' (Addr.add ad (Int.toNat (IntKind.wrap .i64 (Int.fdiv (IntKind.wrap
 .u64 (IntKind.wrap .i64 (n + n_1))) (2 ^ 1))) * 2)) (.agg ⟨[.int .i64 n_2, .int .i64 n_3]⟩) ∧ ix data_a a data_n fun ad => (∃ n_4 n_5, lD 107 H' (Addr.add ad (Int.toNat a * 2)) (.agg ⟨[.int .i64
 n_4, .int .i64 n_5]⟩) ∧ CallV Tryz.prog cmp [.agg ⟨[.int .i64 n_2, .int .i64 n_3]⟩, .agg ⟨[.int .i64 n_4, .int .i64 n_5]⟩] H' fun v H'_1 => ∃ n_6, v = .int .i64 n_6 ∧ brB (decide (n_6 < 0)) (I [.int
 .i64 (IntKind.wrap .i64 (IntKind.wrap .i64 (Int.fdiv (IntKind.wrap .u64 (IntKind.wrap .i64 (n + n_1))) (2 ^ 1)) + 1)), .int .i64 n_1] H'_1 ∧ μ [.int .i64 (IntKind.wrap .i64 (IntKind.wrap .i64
 (Int.fdiv (IntKind.wrap .u64 (IntKind.wrap .i64 (n + n_1))) (2 ^ 1)) + 1)), .int .i64 n_1] H'_1 < μ [.int .i64 n, .int .i64 n_1] H') (I [.int .i64 n, .int .i64 (IntKind.wrap .i64 (Int.fdiv
 (IntKind.wrap .u64 (IntKind.wrap .i64 (n + n_1))) (2 ^ 1)))] H'_1 ∧ μ [.int .i64 n, .int .i64 (IntKind.wrap .i64 (Int.fdiv (IntKind.wrap .u64 (IntKind.wrap .i64 (n + n_1))) (2 ^ 1)))] H'_1 < μ [.int
 .i64 n, .int .i64 n_1] H')))) (∃ (I : IV) (μ : MU), I [.int .i64 a] H' ∧ ∀ (J : F) (n_2 : Int) (H' : Heap), I [.int .i64 n_2] H' → brB (decide (n_2 < IntKind.wrap .i64 (n - 1))) (ix data_a
 (IntKind.wrap .i64 (n_2 + 1)) data_n fun ad => (∃ n n_3, lD 107 H' (Addr.add ad (Int.toNat (IntKind.wrap .i64 (n_2 + 1)) * 2)) (.agg ⟨[.int .i64 n, .int .i64 n_3]⟩) ∧ ix data_a n_2 data_n fun ad =>
 (∃ n_4 n_5, lD 107 H' (Addr.add ad (Int.toNat n_2 * 2)) (.agg ⟨[.int .i64 n_4, .int .i64 n_5]⟩) ∧ ix data_a n_2 data_n fun ad => (∃ H'_1, sT 107 H' (Addr.add ad (Int.toNat n_2 * 2)) (.agg ⟨[.int
 .i64 n, .int .i64 n_3]⟩) H'_1 ∧ ix data_a (IntKind.wrap .i64 (n_2 + 1)) data_n fun ad => (∃ H'_2, sT 107 H'_1 (Addr.add ad (Int.toNat (IntKind.wrap .i64 (n_2 + 1)) * 2)) (.agg ⟨[.int .i64 n_4, .int
 .i64 n_5]⟩) H'_2 ∧ I [.int .i64 (IntKind.wrap .i64 (n_2 + 1))] H'_2 ∧ μ [.int .i64 (IntKind.wrap .i64 (n_2 + 1))] H'_2 < μ [.int .i64 n_2] H'))))) (R (.tuple ⟨[]⟩) H'))) (brB (IntKind.wrap .i64 (b -
 m) == 1) (∃ (I : IV) (μ : MU), I [.int .i64 a, .int .i64 m] H ∧ ∀ (J : F) (n n_1 : Int) (H' : Heap), I [.int .i64 n, .int .i64 n_1] H' → brB (decide (n < n_1)) (ix data_a m data_n fun ad => (∃ n_2
 n_3, lD 107 H' (Addr.add ad (Int.toNat m * 2)) (.agg ⟨[.int .i64 n_2, .int .i64 n_3]⟩) ∧ ix data_a (IntKind.wrap .i64 (Int.fdiv (IntKind.wrap .u64 (IntKind.wrap .i64 (n + n_1))) (2 ^ 1))) data_n fun
 ad => (∃ n_4 n_5, lD 107 H' (Addr.add ad (Int.toNat (IntKind.wrap .i64 (Int.fdiv (IntKind.wrap .u64 (IntKind.wrap .i64 (n + n_1))) (2 ^ 1))) * 2)) (.agg ⟨[.int .i64 n_4, .int .i64 n_5]⟩) ∧ CallV
 Tryz.prog cmp [.agg ⟨[.int .i64 n_2, .int .i64 n_3]⟩, .agg ⟨[.int .i64 n_4, .int .i64 n_5]⟩] H' fun v H'_1 => ∃ n_6, v = .int .i64 n_6 ∧ brB (!decide (n_6 < 0)) (I [.int .i64 (IntKind.wrap .i64
 (IntKind.wrap .i64 (Int.fdiv (IntKind.wrap .u64 (IntKind.wrap .i64 (n + n_1))) (2 ^ 1)) + 1)), .int .i64 n_1] H'_1 ∧ μ [.int .i64 (IntKind.wrap .i64 (IntKind.wrap .i64 (Int.fdiv (IntKind.wrap .u64
 (IntKind.wrap .i64 (n + n_1))) (2 ^ 1)) + 1)), .int .i64 n_1] H'_1 < μ [.int .i64 n, .int .i64 n_1] H') (I [.int .i64 n, .int .i64 (IntKind.wrap .i64 (Int.fdiv (IntKind.wrap .u64 (IntKind.wrap .i64
 (n + n_1))) (2 ^ 1)))] H'_1 ∧ μ [.int .i64 n, .int .i64 (IntKind.wrap .i64 (Int.fdiv (IntKind.wrap .u64 (IntKind.wrap .i64 (n + n_1))) (2 ^ 1)))] H'_1 < μ [.int .i64 n, .int .i64 n_1] H')))) (∃ (I :
 IV) (μ : MU), I [.int .i64 m] H' ∧ ∀ (J : F) (n_2 : Int) (H' : Heap), I [.int .i64 n_2] H' → brB (decide (n_2 > n)) (ix data_a (IntKind.wrap .i64 (n_2 - 1)) data_n fun ad => (∃ n n_3, lD 107 H'
 (Addr.add ad (Int.toNat (IntKind.wrap .i64 (n_2 - 1)) * 2)) (.agg ⟨[.int .i64 n, .int .i64 n_3]⟩) ∧ ix data_a n_2 data_n fun ad => (∃ n_4 n_5, lD 107 H' (Addr.add ad (Int.toNat n_2 * 2)) (.agg
 ⟨[.int .i64 n_4, .int .i64 n_5]⟩) ∧ ix data_a n_2 data_n fun ad => (∃ H'_1, sT 107 H' (Addr.add ad (Int.toNat n_2 * 2)) (.agg ⟨[.int .i64 n, .int .i64 n_3]⟩) H'_1 ∧ ix data_a (IntKind.wrap .i64 (n_2
 - 1)) data_n fun ad => (∃ H'_2, sT 107 H'_1 (Addr.add ad (Int.toNat (IntKind.wrap .i64 (n_2 - 1)) * 2)) (.agg ⟨[.int .i64 n_4, .int .i64 n_5]⟩) H'_2 ∧ I [.int .i64 (IntKind.wrap .i64 (n_2 - 1))]
 H'_2 ∧ μ [.int .i64 (IntKind.wrap .i64 (n_2 - 1))] H'_2 < μ [.int .i64 n_2] H'))))) (R (.tuple ⟨[]⟩) H'))) (∃ (M : IV), brB (decide (m > IntKind.wrap .i64 (Int.fdiv (IntKind.wrap .u64 (IntKind.wrap
 .i64 (a + b))) (2 ^ min (Int.toNat 1) (IntKind.bits .u64))))) (M [.int .i64 (IntKind.wrap .i64 (IntKind.wrap .i64 (IntKind.wrap .i64 (Int.fdiv (IntKind.wrap .u64 (IntKind.wrap .i64 (a + b))) (2 ^
 1)) + m) - b)), .int .i64 (IntKind.wrap .i64 (Int.fdiv (IntKind.wrap .u64 (IntKind.wrap .i64 (a + b))) (2 ^ 1)))] H) (M [.int .i64 a, .int .i64 m] H) ∧ ∀ (J : F) (n n_1 : Int) (H' : Heap), M [.int
 .i64 n, .int .i64 n_1] H' → ∃ (I : IV) (μ : MU), I [.int .i64 n, .int .i64 n_1] H' ∧ ∀ (J : F) (n n_2 : Int) (H' : Heap), I [.int .i64 n, .int .i64 n_2] H' → brB (decide (n < n_2)) (ix data_a
 (IntKind.wrap .i64 (IntKind.wrap .i64 (IntKind.wrap .i64 (IntKind.wrap .i64 (Int.fdiv (IntKind.wrap .u64 (IntKind.wrap .i64 (a + b))) (2 ^ 1)) + m) - 1) - IntKind.wrap .i64 (Int.fdiv (IntKind.wrap
 .u64 (IntKind.wrap .i64 (n + n_2))) (2 ^ 1)))) data_n fun ad => (∃ n_3 n_4, lD 107 H' (Addr.add ad (Int.toNat (IntKind.wrap .i64 (IntKind.wrap .i64 (IntKind.wrap .i64 (IntKind.wrap .i64 (Int.fdiv
 (IntKind.wrap .u64 (IntKind.wrap .i64 (a + b))) (2 ^ 1)) + m) - 1) - IntKind.wrap .i64 (Int.fdiv (IntKind.wrap .u64 (IntKind.wrap .i64 (n + n_2))) (2 ^ 1)))) * 2)) (.agg ⟨[.int .i64 n_3, .int .i64
 n_4]⟩) ∧ ix data_a (IntKind.wrap .i64 (Int.fdiv (IntKind.wrap .u64 (IntKind.wrap .i64 (n + n_2))) (2 ^ 1))) data_n fun ad => (∃ n_5 n_6, lD 107 H' (Addr.add ad (Int.toNat (IntKind.wrap .i64
 (Int.fdiv (IntKind.wrap .u64 (IntKind.wrap .i64 (n + n_2))) (2 ^ 1))) * 2)) (.agg ⟨[.int .i64 n_5, .int .i64 n_6]⟩) ∧ CallV Tryz.prog cmp [.agg ⟨[.int .i64 n_3, .int .i64 n_4]⟩, .agg ⟨[.int .i64
 n_5, .int .i64 n_6]⟩] H' fun v H'_1 => ∃ n_7, v = .int .i64 n_7 ∧ brB (!decide (n_7 < 0)) (I [.int .i64 (IntKind.wrap .i64 (IntKind.wrap .i64 (Int.fdiv (IntKind.wrap .u64 (IntKind.wrap .i64 (n +
 n_2))) (2 ^ 1)) + 1)), .int .i64 n_2] H'_1 ∧ μ [.int .i64 (IntKind.wrap .i64 (IntKind.wrap .i64 (Int.fdiv (IntKind.wrap .u64 (IntKind.wrap .i64 (n + n_2))) (2 ^ 1)) + 1)), .int .i64 n_2] H'_1 < μ
 [.int .i64 n, .int .i64 n_2] H') (I [.int .i64 n, .int .i64 (IntKind.wrap .i64 (Int.fdiv (IntKind.wrap .u64 (IntKind.wrap .i64 (n + n_2))) (2 ^ 1)))] H'_1 ∧ μ [.int .i64 n, .int .i64 (IntKind.wrap
 .i64 (Int.fdiv (IntKind.wrap .u64 (IntKind.wrap .i64 (n + n_2))) (2 ^ 1)))] H'_1 < μ [.int .i64 n, .int .i64 n_2] H')))) (∃ (M : IV), brB (decide (n < m)) (brB (decide (m < IntKind.wrap .i64
 (IntKind.wrap .i64 (IntKind.wrap .i64 (Int.fdiv (IntKind.wrap .u64 (IntKind.wrap .i64 (a + b))) (2 ^ min (Int.toNat 1) (IntKind.bits .u64))) + m) - n))) (cU 150 [.slice data_a data_n data_c, .int
 .i64 n, .int .i64 m, .int .i64 (IntKind.wrap .i64 (IntKind.wrap .i64 (IntKind.wrap .i64 (Int.fdiv (IntKind.wrap .u64 (IntKind.wrap .i64 (a + b))) (2 ^ 1)) + m) - n)), cmp] H' fun H' => M [] H') (M
 [] H')) (M [] H') ∧ ∀ (J : F) (H' : Heap), M [] H' → ∃ (M : IV), brB (decide (a < n)) (brB (decide (n < IntKind.wrap .i64 (Int.fdiv (IntKind.wrap .u64 (IntKind.wrap .i64 (a + b))) (2 ^ min
 (Int.toNat 1) (IntKind.bits .u64))))) (cU 130 [.slice data_a data_n data_c, .int .i64 a, .int .i64 n, .int .i64 (IntKind.wrap .i64 (Int.fdiv (IntKind.wrap .u64 (IntKind.wrap .i64 (a + b))) (2 ^
 1))), cmp] H' fun H' => M [] H') (M [] H')) (M [] H') ∧ ∀ (J : F) (H' : Heap), M [] H' → brB (decide (IntKind.wrap .i64 (Int.fdiv (IntKind.wrap .u64 (IntKind.wrap .i64 (a + b))) (2 ^ min (Int.toNat
 1) (IntKind.bits .u64))) < IntKind.wrap .i64 (IntKind.wrap .i64 (IntKind.wrap .i64 (Int.fdiv (IntKind.wrap .u64 (IntKind.wrap .i64 (a + b))) (2 ^ min (Int.toNat 1) (IntKind.bits .u64))) + m) - n)))
 (brB (decide (IntKind.wrap .i64 (IntKind.wrap .i64 (IntKind.wrap .i64 (Int.fdiv (IntKind.wrap .u64 (IntKind.wrap .i64 (a + b))) (2 ^ min (Int.toNat 1) (IntKind.bits .u64))) + m) - n) < b)) (cU 130
 [.slice data_a data_n data_c, .int .i64 (IntKind.wrap .i64 (Int.fdiv (IntKind.wrap .u64 (IntKind.wrap .i64 (a + b))) (2 ^ 1))), .int .i64 (IntKind.wrap .i64 (IntKind.wrap .i64 (IntKind.wrap .i64
 (Int.fdiv (IntKind.wrap .u64 (IntKind.wrap .i64 (a + b))) (2 ^ 1)) + m) - n)), .int .i64 b, cmp] H' fun H' => R (.tuple ⟨[]⟩) H') (R (.tuple ⟨[]⟩) H')) (R (.tuple ⟨[]⟩) H'))))) : CallH Tryz.prog 130
 (List.toArray [.slice data_a data_n data_c, .int .i64 a, .int .i64 m, .int .i64 b, cmp]) H R := vc_call (annOf [([0, 0, 1, 1, 0, 1, 0], .cut [(10, .one (.int .i64)), (11, .one (.int .i64))]), ([0,
 1, 0, 1, 0, 0, 0, 1, 1, 0, 1, 0], .tail 9), ([0, 1, 0, 1, 1, 1, 0, 1, 0], .cut [(13, .one (.int .i64))]), ([0, 0, 1, 0, 0, 1, 0, 1, 1, 1, 0, 1, 0], .reg [0, 0, 0, 0, 8, 0, 0, 64, 224, 480, 0, 0,
 3072, 7168, 16355, 32739, 65535, 131071] (.quiet 0 (.quiet 1 (.quiet 2 (.quiet 3 (.quiet 4 (.quiet 5 (.quiet 6 (.quiet 7 (.quiet 8 (.quiet 9 (.quiet 10 (.quiet 11 (.quiet 12 (.quiet 13 (.quiet 14
 (.pick (.alt 15 (.quiet 16 (.pick (.alt 17 (.done) .stop))) .stop)))))))))))))))))), ([0, 0, 1, 1, 0, 1, 0, 1], .cut [(14, .one (.int .i64)), (15, .one (.int .i64))]), ([0, 1, 0, 1, 0, 0, 0, 1, 1,
 0, 1, 0, 1], .tail 9), ([0, 1, 0, 1, 1, 1, 0, 1, 0, 1], .cut [(17, .one (.int .i64))]), ([0, 0, 1, 0, 0, 1, 0, 1, 1, 1, 0, 1, 0, 1], .reg [0, 0, 0, 0, 8, 0, 0, 64, 224, 480, 0, 0, 3072, 7168, 16355,
 32739, 65535, 131071] (.quiet 0 (.quiet 1 (.quiet 2 (.quiet 3 (.quiet 4 (.quiet 5 (.quiet 6 (.quiet 7 (.quiet 8 (.quiet 9 (.quiet 10 (.quiet 11 (.quiet 12 (.quiet 13 (.quiet 14 (.pick (.alt 15
 (.quiet 16 (.pick (.alt 17 (.done) .stop))) .stop)))))))))))))))))), ([1, 1, 1, 1, 1], .cut [(20, .one (.int .i64)), (21, .one (.int .i64))]), ([0, 0, 1, 1, 1, 1, 1, 1, 1], .cut [(20, .one (.int
 .i64)), (21, .one (.int .i64))]), ([0, 1, 0, 1, 0, 0, 0, 1, 1, 1, 1, 1, 1, 1], .tail 11), ([1, 1, 1, 1, 1, 1, 1, 1, 1], .cut []), ([1, 1, 1, 1, 1, 1, 1, 1, 1, 1], .cut [])]) followsAll Tryz.func130
 rfl Tryz.ntmps130 rfl rfl (Eq.mpr (by kernel_rfl) h)
abbrev fn_rice_Writer_put : Nat := 141
theorem vc_rice_Writer_put (w : Addr) (n : Int) (many : Int) (H : Heap) (R : Value → Heap → Prop) (h : ∃ n_1, lD 89 H (Addr.add w 2) (.int .u64 n_1) ∧ chk (decide (0 ≤ IntKind.wrap .u64 many)) (∃
 n_2, lD 3 H (Addr.add w 3) (.int .i64 n_2) ∧ ∃ H', sT 89 H (Addr.add w 2) (.int .u64 (IntKind.wrap .u64 (↑(BitVec.toNat (BitVec.ofInt 64 (IntKind.wrap .u64 (n_1 * 2 ^ min (Int.toNat (IntKind.wrap
 .u64 many)) 64)) ||| BitVec.ofInt 64 n)) : Int))) H' ∧ ∃ H'_1, sT 3 H' (Addr.add w 3) (.int .i64 (IntKind.wrap .i64 (n_2 + many))) H'_1 ∧ ∃ n, lD 3 H'_1 (Addr.add w 3) (.int .i64 n) ∧ brB (decide (n
 ≥ 8)) (∃ n, lD 3 H'_1 (Addr.add w 3) (.int .i64 n) ∧ ∃ H', sT 3 H'_1 (Addr.add w 3) (.int .i64 (IntKind.wrap .i64 (n - 8))) H' ∧ ∃ n, lD 89 H' (Addr.add w 2) (.int .u64 n) ∧ ∃ n_3, lD 3 H' (Addr.add
 w 3) (.int .i64 n_3) ∧ chk (decide (0 ≤ IntKind.wrap .u64 n_3)) (cV 156 [.pointer (some w), .int .u8 (IntKind.wrap .u8 (Int.fdiv n (2 ^ min (Int.toNat (IntKind.wrap .u64 n_3)) 64)))] H' fun v_1 H'
 => ∃ n, lD 89 H' (Addr.add w 2) (.int .u64 n) ∧ ∃ n_4, lD 3 H' (Addr.add w 3) (.int .i64 n_4) ∧ chk (decide (0 ≤ IntKind.wrap .u64 n_4)) (∃ H'_2, sT 89 H' (Addr.add w 2) (.int .u64 (IntKind.wrap
 .u64 (↑(BitVec.toNat (BitVec.ofInt 64 n &&& BitVec.ofInt 64 (IntKind.wrap .u64 (IntKind.wrap .u64 (1 * 2 ^ min (Int.toNat (IntKind.wrap .u64 n_4)) 64) - 1)))) : Int))) H'_2 ∧ R (.tuple ⟨[]⟩) H'_2)))
 (R (.tuple ⟨[]⟩) H'_1))) : CallH Tryz.prog 141 (List.toArray [.pointer (some w), .int .u64 n, .int .i64 many]) H R := vc_call (annOf [([0], .reg [0, 0, 0, 4, 12, 28, 0, 64, 252, 0, 1020, 0, 2048,
 6144, 14336, 0, 63488, 32765, 163837, 425981, 1048575, 2097151, 4194303] (.quiet 0 (.quiet 1 (.quiet 2 (.quiet 3 (.quiet 4 (.quiet 5 (.quiet 6 (.quiet 7 (.quiet 8 (.quiet 9 (.quiet 10 (.quiet 11
 (.quiet 12 (.quiet 13 (.quiet 14 (.quiet 15 (.quiet 16 (.quiet 17 (.quiet 18 (.pick (.alt 19 (.quiet 20 (.quiet 21 (.pick (.alt 22 (.done) .stop)))) .stop)))))))))))))))))))))), ([0, 1, 0, 1, 1],
 .tail 14), ([1, 1, 0, 1, 1], .tail 11)]) followsAll Tryz.func141 rfl Tryz.ntmps141 rfl rfl (Eq.mpr (by kernel_rfl) h)
abbrev fn_zig_Unfold : Nat := 142
theorem vc_zig_Unfold (n : Int) (H : Heap) (R : Value → Heap → Prop) (h : R (.int .i64 (IntKind.wrap .i64 (↑(BitVec.toNat (BitVec.ofInt 64 (IntKind.wrap .i64 (Int.fdiv n (2 ^ 1))) ^^^ BitVec.ofInt
 64 (IntKind.wrap .i64 (0 - IntKind.wrap .i64 (IntKind.wrap .u64 (↑(BitVec.toNat (BitVec.ofInt 64 n &&& BitVec.ofInt 64 1)) : Int)))))) : Int))) H) : CallH Tryz.prog 142 (List.toArray [.int .u64 n])
 H R := vc_call (annOf []) followsAll Tryz.func142 rfl Tryz.ntmps142 rfl rfl (Eq.mpr (by kernel_rfl) h)
abbrev fn_rice_Read : Nat := 143
theorem vc_rice_Read (s : ByteArray) (H : Heap) (R : Value → Heap → Prop) (h : ∀ (b : Nat) (H' : Heap), New H b (.cells ⟨[.string s, .int .i64 0]⟩ 223) H' → R (.pointer (some ⟨b, 0, none⟩)) H') :
 CallH Tryz.prog 143 (List.toArray [.string s]) H R := vc_call (annOf []) followsAll Tryz.func143 rfl Tryz.ntmps143 rfl rfl (Eq.mpr (by kernel_rfl) h)
abbrev fn_rice_Reader_Rice : Nat := 144
theorem vc_rice_Reader_Rice (r : Addr) (k : Int) (H : Heap) (R : Value → Heap → Prop) (h : ∃ (M : IV), brB (decide (k < 0)) (R (.tuple ⟨[.int .u64 0, .int .i64 1]⟩) H) (brB (decide (k > 40)) (R
 (.tuple ⟨[.int .u64 0, .int .i64 1]⟩) H) (M [] H)) ∧ ∀ (J : F) (H' : Heap), M [] H' → cI 157 [.pointer (some r)] H' fun n H' => ∃ n_1, lD 3 H' (Addr.add r 1) (.int .i64 n_1) ∧ cH 159 ⟨[.pointer
 (some r), .int .i64 n_1, .int .i64 (if n < 24 then n else 24)]⟩ H' fun v H' => ∃ n_2, v = .int .u64 n_2 ∧ chk (decide (0 ≤ IntKind.wrap .u64 (IntKind.wrap .i64 (64 - if n < 24 then n else 24)))) (cI
 158 [.int .u64 (IntKind.wrap .u64 (↑(BitVec.toNat (BitVec.ofInt 64 (if IntKind.signed .u64 = true then (-1 : Int) else IntKind.max .u64) ^^^ BitVec.ofInt 64 (IntKind.wrap .u64 (n_2 * 2 ^ min
 (Int.toNat (IntKind.wrap .u64 (IntKind.wrap .i64 (64 - if n < 24 then n else 24)))) 64)))) : Int))] H' fun n_3 H' => ∃ (M : IV), brB ((if n < 24 then n else 24) == 0) (M [.int .i64 0] H') (M [.int
 .i64 n_3] H') ∧ ∀ (J : F) (n_4 : Int) (H' : Heap), M [.int .i64 n_4] H' → ∃ n_5, lD 3 H' (Addr.add r 1) (.int .i64 n_5) ∧ ∃ (M : IV), brB ((if (if n < 24 then n else 24) < n_4 then if n < 24 then n
 else 24 else n_4) == 24) (∃ n_6, lD 3 H' (Addr.add r 1) (.int .i64 n_6) ∧ M [.int .i64 (if (if n < 24 then n else 24) < n_4 then if n < 24 then n else 24 else n_4), .int .i64 (IntKind.wrap .i64 (n_6
 + 24)), .int .i64 64] H') (M [.int .i64 (if (if n < 24 then n else 24) < n_4 then if n < 24 then n else 24 else n_4), .int .i64 (IntKind.wrap .i64 (IntKind.wrap .i64 (n_5 + n_4) + 1)), .int .i64 k]
 H') ∧ ∀ (J : F) (n n_6 n_7 : Int) (H' : Heap), M [.int .i64 n, .int .i64 n_6, .int .i64 n_7] H' → ∃ s, lD 9 H' r (.string s) ∧ brB (decide (IntKind.wrap .i64 (IntKind.wrap .i64 (8 *
 (↑(ByteArray.size s) : Int)) - n_6) < n_7)) (R (.tuple ⟨[.int .u64 0, .int .i64 10]⟩) H') (cH 159 ⟨[.pointer (some r), .int .i64 n_6, .int .i64 n_7]⟩ H' fun v H' => ∃ n_8, v = .int .u64 n_8 ∧ ∃ (M :
 IV), (∃ (M_1 : IV), brB (n == 24) (chk (decide (0 ≤ IntKind.wrap .u64 k)) (M_1 [.bool (decide (Int.fdiv n_8 (2 ^ min (Int.toNat (IntKind.wrap .u64 k)) 64) < 24))] H')) (M_1 [.bool false] H') ∧ ∀ (J
 : F) (b : Bool) (H' : Heap), M_1 [.bool b] H' → brB b (R (.tuple ⟨[.int .u64 0, .int .i64 11]⟩) H') (brB (decide (n < 24)) (chk (decide (0 ≤ IntKind.wrap .u64 k)) (M [.int .u64 (IntKind.wrap .u64
 (↑(BitVec.toNat (BitVec.ofInt 64 n_8 ||| BitVec.ofInt 64 (IntKind.wrap .u64 (IntKind.wrap .u64 n * 2 ^ min (Int.toNat (IntKind.wrap .u64 k)) 64)))) : Int))] H')) (M [.int .u64 n_8] H'))) ∧ ∀ (J : F)
 (n : Int) (H' : Heap), M [.int .u64 n] H' → ∃ H'_1, sT 3 H' (Addr.add r 1) (.int .i64 (IntKind.wrap .i64 (n_6 + n_7))) H'_1 ∧ R (.tuple ⟨[.int .u64 n, .int .i64 0]⟩) H'_1))) : CallH Tryz.prog 144
 (List.toArray [.pointer (some r), .int .i64 k]) H R := vc_call (annOf [([1], .cut []), ([1, 1, 1, 1], .cut [(7, .one (.int .i64))]), ([1, 1, 1, 1, 1, 1], .cut [(7, .one (.int .i64)), (8, .one (.int
 .i64)), (9, .one (.int .i64))]), ([1, 1, 1, 1, 1, 1, 1, 1, 1], .cut [(10, .one (.int .u64))]), ([0, 0, 1, 1, 1, 1, 1, 1, 1, 1, 1], .cut [(67, .one .bool)])]) followsAll Tryz.func144 rfl
 Tryz.ntmps144 rfl rfl (Eq.mpr (by kernel_rfl) h)
abbrev fn_rice_Reader_End : Nat := 145
theorem vc_rice_Reader_End (r : Addr) (H : Heap) (R : Value → Heap → Prop) (h : cI 157 [.pointer (some r)] H fun n H' => brB (decide (n ≥ 8)) (R (.int .i64 11) H') (∃ n_1, lD 3 H' (Addr.add r 1)
 (.int .i64 n_1) ∧ cH 159 ⟨[.pointer (some r), .int .i64 n_1, .int .i64 n]⟩ H' fun v H' => ∃ n, v = .int .u64 n ∧ brB (n != 0) (R (.int .i64 11) H') (R (.int .i64 0) H'))) : CallH Tryz.prog 145
 (List.toArray [.pointer (some r)]) H R := vc_call (annOf []) followsAll Tryz.func145 rfl Tryz.ntmps145 rfl rfl (Eq.mpr (by kernel_rfl) h)
abbrev fn_ref02_low : Nat := 149
theorem vc_ref02_low (n : Int) (bits : Int) (H : Heap) (R : Value → Heap → Prop) (h : ∀ (b : Nat) (H' : Heap), New H b (.cells ⟨[]⟩ 4) H' → ∃ (I : IV) (μ : MU), I [.slice (some ⟨b, 0, none⟩) 0 0,
 .int .i64 (IntKind.wrap .i64 (bits - 1))] H' ∧ ∀ (J : F) (a : Option Addr) (n_1 c : Nat) (n_2 : Int) (H' : Heap), I [.slice a n_1 c, .int .i64 n_2] H' → brB (decide (n_2 ≥ 0)) (chk (decide (0 ≤
 IntKind.wrap .u64 n_2)) (∀ (b : Nat) (H'_1 : Heap), New H' b (.cells ⟨[.bool (Int.tmod (Int.fdiv n (2 ^ min (Int.toNat (IntKind.wrap .u64 n_2)) 64)) 2 == 1)]⟩ 4) H'_1 → SemWp Tryz.prog
 (Builtin.append_ ⟨[191, 191]⟩ 191 ⟨[.slice a n_1 c, .slice (some ⟨b, 0, none⟩) 1 1]⟩) H'_1 fun v H'_2 => ∃ a_3 n c_1, v = .slice a_3 n c_1 ∧ I [.slice a_3 n c_1, .int .i64 (IntKind.wrap .i64 (n_2 -
 1))] H'_2 ∧ μ [.slice a_3 n c_1, .int .i64 (IntKind.wrap .i64 (n_2 - 1))] H'_2 < μ [.slice a n_1 c, .int .i64 n_2] H')) (R (.slice a n_1 c) H')) : CallH Tryz.prog 149 (List.toArray [.int .u64 n,
 .int .i64 bits]) H R := vc_call (annOf [([0, 1, 0, 1, 1], .cut [(5, .one .slice), (6, .one (.int .i64))])]) followsAll Tryz.func149 rfl Tryz.ntmps149 rfl rfl (Eq.mpr (by kernel_rfl) h)
abbrev fn_slices_rotateCmpFunc_api_Sample_ : Nat := 150
theorem vc_slices_rotateCmpFunc_api_Sample_ (data_a : Option Addr) (data_n : Nat) (data_c : Nat) (a : Int) (m : Int) (b : Int) (cmp : Value) (H : Heap) (R : Value → Heap → Prop) (h : ∃ (I : IV) (μ :
 MU), I [.int .i64 (IntKind.wrap .i64 (m - a)), .int .i64 (IntKind.wrap .i64 (b - m))] H ∧ ∀ (J : F) (n n_1 : Int) (H' : Heap), I [.int .i64 n, .int .i64 n_1] H' → brB (n != n_1) (brB (decide (n >
 n_1)) (cU 163 [.slice data_a data_n data_c, .int .i64 (IntKind.wrap .i64 (m - n)), .int .i64 m, .int .i64 n_1, cmp] H' fun H'_1 => I [.int .i64 (IntKind.wrap .i64 (n - n_1)), .int .i64 n_1] H'_1 ∧ μ
 [.int .i64 (IntKind.wrap .i64 (n - n_1)), .int .i64 n_1] H'_1 < μ [.int .i64 n, .int .i64 n_1] H') (cU 163 [.slice data_a data_n data_c, .int .i64 (IntKind.wrap .i64 (m - n)), .int .i64
 (IntKind.wrap .i64 (IntKind.wrap .i64 (m + n_1) - n)), .int .i64 n, cmp] H' fun H'_1 => I [.int .i64 n, .int .i64 (IntKind.wrap .i64 (n_1 - n))] H'_1 ∧ μ [.int .i64 n, .int .i64 (IntKind.wrap .i64
 (n_1 - n))] H'_1 < μ [.int .i64 n, .int .i64 n_1] H')) (cU 163 [.slice data_a data_n data_c, .int .i64 (IntKind.wrap .i64 (m - n)), .int .i64 m, .int .i64 n, cmp] H' fun H' => R (.tuple ⟨[]⟩) H')) :
 CallH Tryz.prog 150 (List.toArray [.slice data_a data_n data_c, .int .i64 a, .int .i64 m, .int .i64 b, cmp]) H R := vc_call (annOf [([0, 0, 1, 1], .cut [(10, .one (.int .i64)), (11, .one (.int
 .i64))])]) followsAll Tryz.func150 rfl Tryz.ntmps150 rfl rfl (Eq.mpr (by kernel_rfl) h)
abbrev fn_strings_Builder_WriteByte : Nat := 156
theorem vc_strings_Builder_WriteByte (b : Addr) (c : Int) (H : Heap) (R : Value → Heap → Prop) (h : cU 82 [.pointer (some b)] H fun H' => ∃ a n c_1, lD 81 H' (Addr.add b 1) (.slice a n c_1) ∧ ∀ (b_1
 : Nat) (H'_1 : Heap), New H' b_1 (.cells ⟨[.int .u8 c]⟩ 5) H'_1 → SemWp Tryz.prog (Builtin.append_ ⟨[81, 81]⟩ 81 ⟨[.slice a n c_1, .slice (some ⟨b_1, 0, none⟩) 1 1]⟩) H'_1 fun v H' => ∃ a n c, v =
 .slice a n c ∧ ∃ H'_2, sT 81 H' (Addr.add b 1) (.slice a n c) H'_2 ∧ R .nilIface H'_2) : CallH Tryz.prog 156 (List.toArray [.pointer (some b), .int .u8 c]) H R := vc_call (annOf []) followsAll
 Tryz.func156 rfl Tryz.ntmps156 rfl rfl (Eq.mpr (by kernel_rfl) h)
theorem vc_rice_Reader_Left (r : Addr) (H : Heap) (R : Value → Heap → Prop) (h : ∃ s, lD 9 H r (.string s) ∧ ∃ n, lD 3 H (Addr.add r 1) (.int .i64 n) ∧ R (.int .i64 (IntKind.wrap .i64 (IntKind.wrap
 .i64 (8 * (↑(ByteArray.size s) : Int)) - n))) H) : CallH Tryz.prog 157 (List.toArray [.pointer (some r)]) H R := vc_call (annOf []) followsAll Tryz.func157 rfl Tryz.ntmps157 rfl rfl (Eq.mpr (by
 kernel_rfl) h)
abbrev fn_math_bits_LeadingZeros64 : Nat := 158
theorem vc_math_bits_LeadingZeros64 (x : Int) (H : Heap) (R : Value → Heap → Prop) (h : cI 140 [.int .u64 x] H fun n H' => R (.int .i64 (IntKind.wrap .i64 (64 - n))) H') : CallH Tryz.prog 158
 (List.toArray [.int .u64 x]) H R := vc_call (annOf []) followsAll Tryz.func158 rfl Tryz.ntmps158 rfl rfl (Eq.mpr (by kernel_rfl) h)
abbrev fn_rice_Reader_peek : Nat := 159
theorem vc_rice_Reader_peek (r : Addr) (at' : Int) (many : Int) (H : Heap) (R : Value → Heap → Prop) (h : ∃ (I : IV) (μ : MU), I [.int .i64 at', .int .i64 many, .int .u64 0] H ∧ ∀ (J : F) (n n_1 n_2
 : Int) (H' : Heap), I [.int .i64 n, .int .i64 n_1, .int .u64 n_2] H' → brB (decide (n_1 > 0)) (∃ s, lD 9 H' r (.string s) ∧ chk (decide (0 ≤ IntKind.wrap .i64 (Int.tdiv n 8) ∧ IntKind.wrap .i64
 (Int.tdiv n 8) < (↑(ByteArray.size s) : Int))) (chk (decide (0 ≤ IntKind.wrap .u64 (IntKind.wrap .i64 (IntKind.wrap .i64 (8 - Int.tmod n 8) - if n_1 < IntKind.wrap .i64 (8 - Int.tmod n 8) then n_1
 else IntKind.wrap .i64 (8 - Int.tmod n 8))))) (chk (decide (0 ≤ IntKind.wrap .u64 (if n_1 < IntKind.wrap .i64 (8 - Int.tmod n 8) then n_1 else IntKind.wrap .i64 (8 - Int.tmod n 8)))) (chk (decide (0
 ≤ IntKind.wrap .u64 (if n_1 < IntKind.wrap .i64 (8 - Int.tmod n 8) then n_1 else IntKind.wrap .i64 (8 - Int.tmod n 8)))) (I [.int .i64 (IntKind.wrap .i64 (n + if n_1 < IntKind.wrap .i64 (8 -
 Int.tmod n 8) then n_1 else IntKind.wrap .i64 (8 - Int.tmod n 8))), .int .i64 (IntKind.wrap .i64 (n_1 - if n_1 < IntKind.wrap .i64 (8 - Int.tmod n 8) then n_1 else IntKind.wrap .i64 (8 - Int.tmod n
 8))), .int .u64 (IntKind.wrap .u64 (↑(BitVec.toNat (BitVec.ofInt 64 (IntKind.wrap .u64 (n_2 * 2 ^ min (Int.toNat (IntKind.wrap .u64 (if n_1 < IntKind.wrap .i64 (8 - Int.tmod n 8) then n_1 else
 IntKind.wrap .i64 (8 - Int.tmod n 8)))) 64)) ||| BitVec.ofInt 64 (IntKind.wrap .u64 (↑(BitVec.toNat (BitVec.ofInt 64 (Int.fdiv (IntKind.wrap .u64 (↑(atB s (Int.toNat (IntKind.wrap .i64 (Int.tdiv n
 8)))) : Int)) (2 ^ min (Int.toNat (IntKind.wrap .u64 (IntKind.wrap .i64 (IntKind.wrap .i64 (8 - Int.tmod n 8) - if n_1 < IntKind.wrap .i64 (8 - Int.tmod n 8) then n_1 else IntKind.wrap .i64 (8 -
 Int.tmod n 8))))) 64)) &&& BitVec.ofInt 64 (IntKind.wrap .u64 (IntKind.wrap .u64 (1 * 2 ^ min (Int.toNat (IntKind.wrap .u64 (if n_1 < IntKind.wrap .i64 (8 - Int.tmod n 8) then n_1 else IntKind.wrap
 .i64 (8 - Int.tmod n 8)))) 64) - 1)))) : Int)))) : Int))] H' ∧ μ [.int .i64 (IntKind.wrap .i64 (n + if n_1 < IntKind.wrap .i64 (8 - Int.tmod n 8) then n_1 else IntKind.wrap .i64 (8 - Int.tmod n
 8))), .int .i64 (IntKind.wrap .i64 (n_1 - if n_1 < IntKind.wrap .i64 (8 - Int.tmod n 8) then n_1 else IntKind.wrap .i64 (8 - Int.tmod n 8))), .int .u64 (IntKind.wrap .u64 (↑(BitVec.toNat
 (BitVec.ofInt 64 (IntKind.wrap .u64 (n_2 * 2 ^ min (Int.toNat (IntKind.wrap .u64 (if n_1 < IntKind.wrap .i64 (8 - Int.tmod n 8) then n_1 else IntKind.wrap .i64 (8 - Int.tmod n 8)))) 64)) |||
 BitVec.ofInt 64 (IntKind.wrap .u64 (↑(BitVec.toNat (BitVec.ofInt 64 (Int.fdiv (IntKind.wrap .u64 (↑(atB s (Int.toNat (IntKind.wrap .i64 (Int.tdiv n 8)))) : Int)) (2 ^ min (Int.toNat (IntKind.wrap
 .u64 (IntKind.wrap .i64 (IntKind.wrap .i64 (8 - Int.tmod n 8) - if n_1 < IntKind.wrap .i64 (8 - Int.tmod n 8) then n_1 else IntKind.wrap .i64 (8 - Int.tmod n 8))))) 64)) &&& BitVec.ofInt 64
 (IntKind.wrap .u64 (IntKind.wrap .u64 (1 * 2 ^ min (Int.toNat (IntKind.wrap .u64 (if n_1 < IntKind.wrap .i64 (8 - Int.tmod n 8) then n_1 else IntKind.wrap .i64 (8 - Int.tmod n 8)))) 64) - 1)))) :
 Int)))) : Int))] H' < μ [.int .i64 n, .int .i64 n_1, .int .u64 n_2] H'))))) (R (.int .u64 n_2) H')) : CallH Tryz.prog 159 (List.toArray [.pointer (some r), .int .i64 at', .int .i64 many]) H R :=
 vc_call (annOf [([0, 0, 1, 1], .cut [(1, .one (.int .i64)), (2, .one (.int .i64)), (7, .one (.int .u64))])]) followsAll Tryz.func159 rfl Tryz.ntmps159 rfl rfl (Eq.mpr (by kernel_rfl) h)
abbrev fn_slices_swapRangeCmpFunc_api_Sample_ : Nat := 163
theorem vc_slices_swapRangeCmpFunc_api_Sample_ (data_a : Option Addr) (data_n : Nat) (data_c : Nat) (a : Int) (b : Int) (n : Int) (cmp : Value) (H : Heap) (R : Value → Heap → Prop) (h : ∃ (I : IV)
 (μ : MU), I [.int .i64 0] H ∧ ∀ (J : F) (n_1 : Int) (H' : Heap), I [.int .i64 n_1] H' → brB (decide (n_1 < n)) (ix data_a (IntKind.wrap .i64 (b + n_1)) data_n fun ad => (∃ n n_2, lD 107 H' (Addr.add
 ad (Int.toNat (IntKind.wrap .i64 (b + n_1)) * 2)) (.agg ⟨[.int .i64 n, .int .i64 n_2]⟩) ∧ ix data_a (IntKind.wrap .i64 (a + n_1)) data_n fun ad => (∃ n_3 n_4, lD 107 H' (Addr.add ad (Int.toNat
 (IntKind.wrap .i64 (a + n_1)) * 2)) (.agg ⟨[.int .i64 n_3, .int .i64 n_4]⟩) ∧ ix data_a (IntKind.wrap .i64 (a + n_1)) data_n fun ad => (∃ H'_1, sT 107 H' (Addr.add ad (Int.toNat (IntKind.wrap .i64
 (a + n_1)) * 2)) (.agg ⟨[.int .i64 n, .int .i64 n_2]⟩) H'_1 ∧ ix data_a (IntKind.wrap .i64 (b + n_1)) data_n fun ad => (∃ H'_2, sT 107 H'_1 (Addr.add ad (Int.toNat (IntKind.wrap .i64 (b + n_1)) *
 2)) (.agg ⟨[.int .i64 n_3, .int .i64 n_4]⟩) H'_2 ∧ I [.int .i64 (IntKind.wrap .i64 (n_1 + 1))] H'_2 ∧ μ [.int .i64 (IntKind.wrap .i64 (n_1 + 1))] H'_2 < μ [.int .i64 n_1] H'))))) (R (.tuple ⟨[]⟩)
 H')) : CallH Tryz.prog 163 (List.toArray [.slice data_a data_n data_c, .int .i64 a, .int .i64 b, .int .i64 n, cmp]) H R := vc_call (annOf [([0, 1], .cut [(10, .one (.int .i64))]), ([0, 0, 1, 0, 0,
 1], .reg [0, 0, 0, 6, 0, 0, 0, 96, 0, 0, 0, 1536, 3840, 7936, 0, 0, 0, 98304, 245760, 507904, 1048335, 2096911, 4194303, 8388607] (.quiet 0 (.quiet 1 (.quiet 2 (.quiet 3 (.quiet 4 (.quiet 5 (.quiet
 6 (.quiet 7 (.quiet 8 (.quiet 9 (.quiet 10 (.quiet 11 (.quiet 12 (.quiet 13 (.quiet 14 (.quiet 15 (.quiet 16 (.quiet 17 (.quiet 18 (.quiet 19 (.quiet 20 (.pick (.alt 21 (.quiet 22 (.pick (.alt 23
 (.done) .stop))) .stop))))))))))))))))))))))))]) followsAll Tryz.func163 rfl Tryz.ntmps163 rfl rfl (Eq.mpr (by kernel_rfl) h)
end Go.Proofs
