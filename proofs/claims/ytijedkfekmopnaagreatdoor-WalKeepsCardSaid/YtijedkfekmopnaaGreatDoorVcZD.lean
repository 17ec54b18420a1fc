/- A part of a proof: see the last text of this claim. -/
import Derived.Test.YtijedkfekmopnaaGreatDoorGvCore
import Derived.Test.YtijedkfekmopnaaGreatDoorRange
import Derived.Test.YtijedkfekmopnaaGreatDoorRows
set_option linter.unusedVariables false
set_option maxRecDepth 100000
open Go Go.GV
namespace Go.Proofs
theorem followsAll : Tryz.prog.follows .mixedOrders = true := by kernel_rfl
abbrev IV := List Value → Heap → Prop
abbrev MU := List Value → Heap → Nat
abbrev lD := Ld Tryz.prog
abbrev sT := St Tryz.prog
abbrev cH := CallH Tryz.prog
abbrev cB (k : FuncId) (l : List Value) (H : Heap) (K : Bool → Heap → Prop) : Prop := CallH Tryz.prog k ⟨l⟩ H fun v H' => ∃ b, v = .bool b ∧ K b H'
abbrev cI (k : FuncId) (l : List Value) (H : Heap) (K : Int → Heap → Prop) : Prop := CallH Tryz.prog k ⟨l⟩ H fun v H' => ∃ n, v = .int .i64 n ∧ K n H'
abbrev cS (k : FuncId) (l : List Value) (H : Heap) (K : ByteArray → Heap → Prop) : Prop := CallH Tryz.prog k ⟨l⟩ H fun v H' => ∃ s, v = .string s ∧ K s H'
abbrev cP (k : FuncId) (l : List Value) (H : Heap) (K : Option Addr → Heap → Prop) : Prop := CallH Tryz.prog k ⟨l⟩ H fun v H' => ∃ a, v = .pointer a ∧ K a H'
abbrev cL (k : FuncId) (l : List Value) (H : Heap) (K : Option Addr → Nat → Nat → Heap → Prop) : Prop := CallH Tryz.prog k ⟨l⟩ H fun v H' => ∃ a n c, v = .slice a n c ∧ K a n c H'
abbrev cM (k : FuncId) (l : List Value) (H : Heap) (K : Option Nat → Heap → Prop) : Prop := CallH Tryz.prog k ⟨l⟩ H fun v H' => ∃ r, v = .map r ∧ K r H'
abbrev cV (k : FuncId) (l : List Value) (H : Heap) (K : Value → Heap → Prop) : Prop := CallH Tryz.prog k ⟨l⟩ H fun v H' => ∃ x, v = x ∧ K x H'
abbrev cU (k : FuncId) (l : List Value) (H : Heap) (K : Heap → Prop) : Prop := CallH Tryz.prog k ⟨l⟩ H fun v H' => v = .tuple ⟨[]⟩ ∧ K H'
abbrev ix (a : Option Addr) (i : Int) (n : Nat) (K : Addr → Prop) : Prop := exSome a fun ad => chk (decide (0 ≤ i ∧ i < (n : Int))) (K ad)
theorem vc_law11_WalKeeps (n : Int) (lists_a : Option Addr) (lists_n : Nat) (lists_c : Nat) (reset : Int) (H : Heap) (R : Value → Heap → Prop) (h : brB (decide ((↑lists_n : Int) > 10)) (R (.bool
 true) H) (∃ (I : IV) (μ : MU), I [.int .i64 0] H ∧ ∀ (J : F) (n_1 : Int) (H' : Heap), I [.int .i64 n_1] H' → brB (decide (n_1 < (↑lists_n : Int))) (ix lists_a n_1 lists_n fun ad => (∃ a n c, lD 22
 H' (Addr.add ad (Int.toNat n_1 * 1)) (.slice a n c) ∧ cB 6 [.slice a n c] H' fun b H'_1 => brB b (R (.bool true) H'_1) (I [.int .i64 (IntKind.wrap .i64 (n_1 + 1))] H'_1 ∧ μ [.int .i64 (IntKind.wrap
 .i64 (n_1 + 1))] H'_1 < μ [.int .i64 n_1] H'))) (cH 7 ⟨[.int .i64 (IntKind.wrap .i64 (8 + Int.tmod (IntKind.wrap .i64 n) 60))]⟩ H' fun v H' => ∃ a a_1, v = .tuple ⟨[.pointer a, .pointer a_1]⟩ ∧ brB
 (Option.isNone a) (R (.bool false) H') (∀ (b : Nat) (H'_1 : Heap), New H' b (.cells ⟨[]⟩ 77) H'_1 → ∃ (I : IV) (μ : MU), I [.slice (some ⟨b, 0, none⟩) 0 0, .int .i64 0] H'_1 ∧ ∀ (J : F) (a_3 :
 Option Addr) (n c : Nat) (n_2 : Int) (H' : Heap), I [.slice a_3 n c, .int .i64 n_2] H' → brB (decide (n_2 < (↑lists_n : Int))) (∃ (M : IV), (ix lists_a n_2 lists_n fun ad => (∃ a_5 n_3 c_1, lD 22 H'
 (Addr.add ad (Int.toNat n_2 * 1)) (.slice a_5 n_3 c_1) ∧ cI 8 [.pointer a, .slice a_5 n_3 c_1] H' fun n_4 H' => ix lists_a n_2 lists_n fun ad => (∃ a_6 n_5 c_2, lD 22 H' (Addr.add ad (Int.toNat n_2
 * 1)) (.slice a_6 n_5 c_2) ∧ cL 10 [.slice a_6 n_5 c_2] H' fun a_7 n_6 c_3 H' => cI 9 [.pointer a_1, .slice a_7 n_6 c_3] H' fun n_7 H' => brB (n_4 != n_7) (R (.bool false) H') (∃ (M_1 : IV), brB
 (n_4 == 0) (ix lists_a n_2 lists_n fun ad => (∃ a n_8 c_4, lD 22 H' (Addr.add ad (Int.toNat n_2 * 1)) (.slice a n_8 c_4) ∧ cL 10 [.slice a n_8 c_4] H' fun a n_9 c_5 H' => SemWp Tryz.prog
 (Builtin.append_ ⟨[31, 31]⟩ 31 ⟨[.slice a_3 n c, .slice a n_9 c_5]⟩) H' fun v H' => ∃ a n c, v = .slice a n c ∧ M_1 [.slice a n c] H')) (M_1 [.slice a_3 n c] H') ∧ ∀ (J : F) (a_8 : Option Addr) (n c
 : Nat) (H' : Heap), M_1 [.slice a_8 n c] H' → ∃ (M_2 : IV), brB (n_2 == IntKind.wrap .i64 reset) (cI 18 [.pointer a] H' fun n H' => brB (n != 0) (R (.bool false) H') (cI 19 [.pointer a_1] H' fun n
 H' => brB (n != 0) (R (.bool false) H') (M_2 [.slice a_8 0 (c - 0)] H'))) (M_2 [.slice a_8 n c] H') ∧ ∀ (J : F) (a_10 : Option Addr) (n c : Nat) (H' : Heap), M_2 [.slice a_10 n c] H' → cH 14
 ⟨[.pointer a]⟩ H' fun v H' => ∃ a n_8 c_4 n_9, v = .tuple ⟨[.slice a n_8 c_4, .int .i64 n_9]⟩ ∧ brB (n_9 != 0) (R (.bool false) H') (cL 10 [.slice a n_8 c_4] H' fun a n_10 c_5 H' => cB 17 [.slice a
 n_10 c_5, .slice a_10 n c] H' fun b H' => brB (!b) (R (.bool false) H') (M [.slice a_10 n c] H')))))) ∧ ∀ (J : F) (a : Option Addr) (n_3 c_1 : Nat) (H'_2 : Heap), M [.slice a n_3 c_1] H'_2 → I
 [.slice a n_3 c_1, .int .i64 (IntKind.wrap .i64 (n_2 + 1))] H'_2 ∧ μ [.slice a n_3 c_1, .int .i64 (IntKind.wrap .i64 (n_2 + 1))] H'_2 < μ [.slice a_3 n c, .int .i64 n_2] H') (cH 11 ⟨[.pointer a,
 .string { data := #[(119 : UInt8), (97 : UInt8), (108 : UInt8)] }]⟩ H' fun v H' => ∃ s b, v = .tuple ⟨[.string s, .bool b]⟩ ∧ cH 20 ⟨[.pointer a_1, .string { data := #[(119 : UInt8), (97 : UInt8),
 (108 : UInt8)] }]⟩ H' fun v H' => ∃ s_1 b_1, v = .tuple ⟨[.string s_1, .bool b_1]⟩ ∧ SemWp Tryz.prog (Instr.makeSlice 22 (.int .i64 1) (.int .i64 1)) H' fun v H' => ∃ a_5 n c, v = .slice a_5 n c ∧
 ix a_5 (0) n fun ad => (∃ H'_2, sT 3 H' ad (.int .i64 4) H'_2 ∧ brB (ByteArray.toList s == ByteArray.toList s_1) (brB (b == b_1) (cI 8 [.pointer a, .slice a_5 n c] H'_2 fun n H' => R (.bool (n ==
 1)) H') (R (.bool false) H'_2)) (R (.bool false) H'_2))))))) : CallH Tryz.prog 5 (List.toArray [.int .u8 n, .slice lists_a lists_n lists_c, .int .u8 reset]) H R := vc_call (annOf [([0, 1, 0, 1, 1],
 .cut [(7, .one (.int .i64))]), ([0, 1, 0, 1, 1, 1, 1, 1, 1], .cut [(10, .one .slice), (11, .one (.int .i64))]), ([1, 0, 0, 1, 0, 1, 1, 1, 1, 1, 1], .cut [(10, .one .slice)]), ([1, 1, 0, 0, 1, 0, 0,
 1, 0, 1, 1, 1, 1, 1, 1], .cut [(10, .one .slice)]), ([1, 1, 1, 0, 0, 1, 0, 0, 1, 0, 1, 1, 1, 1, 1, 1], .cut [(10, .one .slice)])]) followsAll Tryz.func5 rfl Tryz.ntmps5 rfl rfl (Eq.mpr (by
 kernel_rfl) h)
abbrev fn_law11_heavy : Nat := 6
theorem vc_law11_heavy (l_a : Option Addr) (l_n : Nat) (l_c : Nat) (H : Heap) (R : Value → Heap → Prop) (h : ∃ (I : IV) (μ : MU), I [.int .i64 (if 1048576 < (↑l_n : Int) then 1048576 else (↑l_n :
 Int)), .int .i64 0] H ∧ ∀ (J : F) (n n_1 : Int) (H' : Heap), I [.int .i64 n, .int .i64 n_1] H' → ∃ (M : IV), brB (decide (n_1 < (↑l_n : Int))) (brB (decide (n ≤ 2048)) (M [] H') (R (.bool (decide (n
 > 2048))) H')) (R (.bool (decide (n > 2048))) H') ∧ ∀ (J : F) (H'_1 : Heap), M [] H'_1 → ix l_a n_1 l_n fun ad => (∃ a n_2 c, lD 36 H'_1 (Addr.add (Addr.add ad (Int.toNat n_1 * 5)) 2) (.slice a n_2
 c) ∧ ix l_a n_1 l_n fun ad => (∃ a n_3 c, lD 37 H'_1 (Addr.add (Addr.add ad (Int.toNat n_1 * 5)) 3) (.slice a n_3 c) ∧ ix l_a n_1 l_n fun ad => (∃ a n_4 c, lD 35 H'_1 (Addr.add (Addr.add ad
 (Int.toNat n_1 * 5)) 1) (.slice a n_4 c) ∧ ∃ (I_1 : IV) (μ_1 : MU), I_1 [.int .i64 (IntKind.wrap .i64 (n + IntKind.wrap .i64 (IntKind.wrap .i64 ((if 1048576 < (↑n_2 : Int) then 1048576 else (↑n_2 :
 Int)) + if 1048576 < (↑n_3 : Int) then 1048576 else (↑n_3 : Int)) + if 1048576 < (↑n_4 : Int) then 1048576 else (↑n_4 : Int)))), .int .i64 0] H'_1 ∧ ∀ (J : F) (n_5 n_6 : Int) (H'_2 : Heap), I_1
 [.int .i64 n_5, .int .i64 n_6] H'_2 → ∃ (M : IV), (ix l_a n_1 l_n fun ad => (∃ a n_7 c, lD 35 H'_2 (Addr.add (Addr.add ad (Int.toNat n_1 * 5)) 1) (.slice a n_7 c) ∧ brB (decide (n_6 < (↑n_7 : Int)))
 (brB (decide (n_5 ≤ 2048)) (M [] H'_2) (I [.int .i64 n_5, .int .i64 (IntKind.wrap .i64 (n_1 + 1))] H'_2 ∧ μ [.int .i64 n_5, .int .i64 (IntKind.wrap .i64 (n_1 + 1))] H'_2 < μ [.int .i64 n, .int .i64
 n_1] H')) (I [.int .i64 n_5, .int .i64 (IntKind.wrap .i64 (n_1 + 1))] H'_2 ∧ μ [.int .i64 n_5, .int .i64 (IntKind.wrap .i64 (n_1 + 1))] H'_2 < μ [.int .i64 n, .int .i64 n_1] H'))) ∧ ∀ (J : F) (H' :
 Heap), M [] H' → ix l_a n_1 l_n fun ad => (∃ a n c, lD 35 H' (Addr.add (Addr.add ad (Int.toNat n_1 * 5)) 1) (.slice a n c) ∧ ix a n_6 n fun ad => (∃ s, lD 9 H' (Addr.add ad (Int.toNat n_6 * 2))
 (.string s) ∧ ix l_a n_1 l_n fun ad => (∃ a n c, lD 35 H' (Addr.add (Addr.add ad (Int.toNat n_1 * 5)) 1) (.slice a n c) ∧ ix a n_6 n fun ad => (∃ s_1, lD 9 H' (Addr.add (Addr.add ad (Int.toNat n_6 *
 2)) 1) (.string s_1) ∧ I_1 [.int .i64 (IntKind.wrap .i64 (n_5 + IntKind.wrap .i64 ((if 1048576 < (↑(ByteArray.size s) : Int) then 1048576 else (↑(ByteArray.size s) : Int)) + if 1048576 <
 (↑(ByteArray.size s_1) : Int) then 1048576 else (↑(ByteArray.size s_1) : Int)))), .int .i64 (IntKind.wrap .i64 (n_6 + 1))] H' ∧ μ_1 [.int .i64 (IntKind.wrap .i64 (n_5 + IntKind.wrap .i64 ((if
 1048576 < (↑(ByteArray.size s) : Int) then 1048576 else (↑(ByteArray.size s) : Int)) + if 1048576 < (↑(ByteArray.size s_1) : Int) then 1048576 else (↑(ByteArray.size s_1) : Int)))), .int .i64
 (IntKind.wrap .i64 (n_6 + 1))] H' < μ_1 [.int .i64 n_5, .int .i64 n_6] H'_2)))))))) : CallH Tryz.prog 6 (List.toArray [.slice l_a l_n l_c]) H R := vc_call (annOf [([0, 1, 0, 1, 1], .cut [(3, .one
 (.int .i64)), (4, .one (.int .i64))]), ([0, 0, 1, 0, 1, 1], .cut []), ([0, 1, 1, 0, 0, 1, 0, 0, 1, 0, 1, 1], .cut [(3, .one (.int .i64)), (5, .one (.int .i64))]), ([0, 0, 1, 1, 0, 0, 1, 0, 0, 1, 0,
 1, 1], .cut [])]) followsAll Tryz.func6 rfl Tryz.ntmps6 rfl rfl (Eq.mpr (by kernel_rfl) h)
abbrev fn_law11_stores : Nat := 7
theorem vc_law11_stores (n : Int) (H : Heap) (R : Value → Heap → Prop) (h : cP 22 [.int .i64 n] H fun a H' => cH 21 ⟨[.pointer a]⟩ H' fun v H' => ∃ a n_1, v = .tuple ⟨[.pointer a, .int .i64 n_1]⟩ ∧
 cP 24 [.int .i64 n] H' fun a_1 H' => cH 23 ⟨[.pointer a_1]⟩ H' fun v H' => ∃ a_2 n, v = .tuple ⟨[.pointer a_2, .int .i64 n]⟩ ∧ brB (n_1 != 0) (R (.tuple ⟨[.pointer none, .pointer a_2]⟩) H') (R
 (.tuple ⟨[.pointer a, .pointer a_2]⟩) H')) : CallH Tryz.prog 7 (List.toArray [.int .i64 n]) H R := vc_call (annOf []) followsAll Tryz.func7 rfl Tryz.ntmps7 rfl rfl (Eq.mpr (by kernel_rfl) h)
abbrev fn_wal_Append : Nat := 8
theorem vc_wal_Append (st : Addr) (l_a : Option Addr) (l_n : Nat) (l_c : Nat) (H : Heap) (R : Value → Heap → Prop) (h : ∀ (b : Nat) (H' : Heap), New H b (.cells ⟨[.pointer none, .slice none 0 0]⟩
 67) H' → ∃ (I : IV) (μ : MU), I [.int .i64 0] H' ∧ ∀ (J : F) (n : Int) (H' : Heap), I [.int .i64 n] H' → brB (decide (n < (↑l_n : Int))) (ix l_a n l_n fun ad => (∃ n_1 a n_2 c a_1 n_3 c_1 a_2 n_4
 c_2 n_5, lD 39 H' (Addr.add ad (Int.toNat n * 5)) (.agg ⟨[.int .i64 n_1, .slice a n_2 c, .slice a_1 n_3 c_1, .slice a_2 n_4 c_2, .int .i64 n_5]⟩) ∧ ∀ (b_1 : Nat) (H'_1 : Heap), New H' b_1 (.cells
 ⟨[.int .i64 0, .slice none 0 0, .slice none 0 0, .slice none 0 0, .int .i64 0]⟩ 39) H'_1 → ∃ H'_2, sT 39 H'_1 ⟨b_1, 0, none⟩ (.agg ⟨[.int .i64 n_1, .slice a n_2 c, .slice a_1 n_3 c_1, .slice a_2 n_4
 c_2, .int .i64 n_5]⟩) H'_2 ∧ ∃ n_6 a n_7 c a_4 n_8 c_3 a_5 n_9 c_4 n_10, lD 39 H'_2 ⟨b_1, 0, none⟩ (.agg ⟨[.int .i64 n_6, .slice a n_7 c, .slice a_4 n_8 c_3, .slice a_5 n_9 c_4, .int .i64 n_10]⟩) ∧
 cH 25 ⟨[.agg ⟨[.int .i64 n_6, .slice a n_7 c, .slice a_4 n_8 c_3, .slice a_5 n_9 c_4, .int .i64 n_10]⟩]⟩ H'_2 fun v H'_3 => ∃ s n_11, v = .tuple ⟨[.string s, .int .i64 n_11]⟩ ∧ brB (n_11 != 0) (R
 (.int .i64 n_11) H'_3) (cS 27 [.string s] H'_3 fun s H'_4 => cH 26 ⟨[.pointer (some ⟨b, 0, none⟩), .string s]⟩ H'_4 fun v H'_5 => ∃ n_12 v_1, v = .tuple ⟨[.int .i64 n_12, v_1]⟩ ∧ I [.int .i64
 (IntKind.wrap .i64 (n + 1))] H'_5 ∧ μ [.int .i64 (IntKind.wrap .i64 (n + 1))] H'_5 < μ [.int .i64 n] H'))) (cS 29 [.pointer (some ⟨b, 0, none⟩)] H' fun s H' => cI 28 [.pointer (some st), .string {
 data := #[(119 : UInt8), (97 : UInt8), (108 : UInt8)] }, .string s] H' fun n H' => R (.int .i64 n) H')) : CallH Tryz.prog 8 (List.toArray [.pointer (some st), .slice l_a l_n l_c]) H R := vc_call
 (annOf [([0, 1, 0, 1, 1], .cut [(12, .one (.int .i64))])]) followsAll Tryz.func8 rfl Tryz.ntmps8 rfl rfl (Eq.mpr (by kernel_rfl) h)
abbrev fn_ref11_Append : Nat := 9
theorem vc_ref11_Append (st : Addr) (l_a : Option Addr) (l_n : Nat) (l_c : Nat) (H : Heap) (R : Value → Heap → Prop) (h : ∃ (I : IV) (μ : MU), I [.string { data := #[] }, .int .i64 0] H ∧ ∀ (J : F)
 (s : ByteArray) (n : Int) (H' : Heap), I [.string s, .int .i64 n] H' → brB (decide (n < (↑l_n : Int))) (ix l_a n l_n fun ad => (∃ n_1 a n_2 c a_1 n_3 c_1 a_2 n_4 c_2 n_5, lD 77 H' (Addr.add ad
 (Int.toNat n * 5)) (.agg ⟨[.int .i64 n_1, .slice a n_2 c, .slice a_1 n_3 c_1, .slice a_2 n_4 c_2, .int .i64 n_5]⟩) ∧ cH 30 ⟨[.agg ⟨[.int .i64 n_1, .slice a n_2 c, .slice a_1 n_3 c_1, .slice a_2 n_4
 c_2, .int .i64 n_5]⟩]⟩ H' fun v H'_1 => ∃ s_1 n_6, v = .tuple ⟨[.string s_1, .int .i64 n_6]⟩ ∧ brB (n_6 != 0) (R (.int .i64 n_6) H'_1) (cS 31 [.string s_1] H'_1 fun s_2 H'_2 => chk (decide
 (ByteArray.size s + ByteArray.size s_2 ≤ 9223372036854775807)) (I [.string (s ++ s_2), .int .i64 (IntKind.wrap .i64 (n + 1))] H'_2 ∧ μ [.string (s ++ s_2), .int .i64 (IntKind.wrap .i64 (n + 1))]
 H'_2 < μ [.string s, .int .i64 n] H')))) (cI 32 [.pointer (some st), .string { data := #[(119 : UInt8), (97 : UInt8), (108 : UInt8)] }, .string s] H' fun n H' => R (.int .i64 n) H')) : CallH
 Tryz.prog 9 (List.toArray [.pointer (some st), .slice l_a l_n l_c]) H R := vc_call (annOf [([0, 1, 0, 1, 1], .cut [(5, .one .str), (6, .one (.int .i64))])]) followsAll Tryz.func9 rfl Tryz.ntmps9 rfl
 rfl (Eq.mpr (by kernel_rfl) h)
abbrev fn_law11_theirs : Nat := 10
theorem vc_law11_theirs (l_a : Option Addr) (l_n : Nat) (l_c : Nat) (H : Heap) (R : Value → Heap → Prop) (h : ∀ (b : Nat) (H' : Heap), New H b (.cells ⟨[]⟩ 77) H' → ∃ (I : IV) (μ : MU), I [.slice
 (some ⟨b, 0, none⟩) 0 0, .int .i64 0] H' ∧ ∀ (J : F) (a : Option Addr) (n c : Nat) (n_1 : Int) (H' : Heap), I [.slice a n c, .int .i64 n_1] H' → brB (decide (n_1 < (↑l_n : Int))) (ix l_a n_1 l_n fun
 ad => (∃ n_2 a_2 n_3 c_1 a_3 n_4 c_2 a_4 n_5 c_3 n_6, lD 39 H' (Addr.add ad (Int.toNat n_1 * 5)) (.agg ⟨[.int .i64 n_2, .slice a_2 n_3 c_1, .slice a_3 n_4 c_2, .slice a_4 n_5 c_3, .int .i64 n_6]⟩) ∧
 ∀ (b : Nat) (H'_1 : Heap), New H' b (.cells ⟨[.int .i64 0, .slice none 0 0, .slice none 0 0, .slice none 0 0, .int .i64 0]⟩ 39) H'_1 → ∃ H'_2, sT 39 H'_1 ⟨b, 0, none⟩ (.agg ⟨[.int .i64 n_2, .slice
 a_2 n_3 c_1, .slice a_3 n_4 c_2, .slice a_4 n_5 c_3, .int .i64 n_6]⟩) H'_2 ∧ ∃ n_7, lD 3 H'_2 ⟨b, 0, none⟩ (.int .i64 n_7) ∧ ∃ a_6 n_8 c_4, lD 35 H'_2 ⟨b, 1, none⟩ (.slice a_6 n_8 c_4) ∧ ∃ a_7 n_9
 c_5, lD 36 H'_2 ⟨b, 2, none⟩ (.slice a_7 n_9 c_5) ∧ ∃ a_8 n_10 c_6, lD 37 H'_2 ⟨b, 3, none⟩ (.slice a_8 n_10 c_6) ∧ ∃ n_11, lD 3 H'_2 ⟨b, 4, none⟩ (.int .i64 n_11) ∧ ∀ (b : Nat) (H'_3 : Heap), New
 H'_2 b (.cells ⟨[.int .i64 n_7, .slice a_6 n_8 c_4, .slice a_7 n_9 c_5, .slice a_8 n_10 c_6, .int .i64 n_11]⟩ 77) H'_3 → SemWp Tryz.prog (Builtin.append_ ⟨[31, 31]⟩ 31 ⟨[.slice a n c, .slice (some
 ⟨b, 0, none⟩) 1 1]⟩) H'_3 fun v H'_4 => ∃ a_10 n_12 c_7, v = .slice a_10 n_12 c_7 ∧ I [.slice a_10 n_12 c_7, .int .i64 (IntKind.wrap .i64 (n_1 + 1))] H'_4 ∧ μ [.slice a_10 n_12 c_7, .int .i64
 (IntKind.wrap .i64 (n_1 + 1))] H'_4 < μ [.slice a n c, .int .i64 n_1] H')) (R (.slice a n c) H')) : CallH Tryz.prog 10 (List.toArray [.slice l_a l_n l_c]) H R := vc_call (annOf [([0, 1, 0, 1, 1],
 .cut [(3, .one .slice), (4, .one (.int .i64))])]) followsAll Tryz.func10 rfl Tryz.ntmps10 rfl rfl (Eq.mpr (by kernel_rfl) h)
abbrev fn_files_Store_Read : Nat := 11
theorem vc_files_Store_Read (s : Addr) (name : ByteArray) (H : Heap) (R : Value → Heap → Prop) (h : ∃ r, lD 78 H (Addr.add s 1) (.map r) ∧ ∃ s b, Rd Tryz.prog (Instr.lookup 78 (.map r) (.string
 name) true) H (.tuple ⟨[.string s, .bool b]⟩) ∧ R (.tuple ⟨[.string s, .bool b]⟩) H) : CallH Tryz.prog 11 (List.toArray [.pointer (some s), .string name]) H R := vc_call (annOf []) followsAll
 Tryz.func11 rfl Tryz.ntmps11 rfl rfl (Eq.mpr (by kernel_rfl) h)
theorem vc_files_Store_Write (s : Addr) (name : ByteArray) (data : ByteArray) (H : Heap) (R : Value → Heap → Prop) (h : ∀ (b : Nat) (H' : Heap), New H b (.cells ⟨[.string name]⟩ 9) H' → ∀ (b_1 :
 Nat) (H'_1 : Heap), New H' b_1 (.cells ⟨[.string data]⟩ 9) H'_1 → ∃ s_1, lD 9 H'_1 ⟨b, 0, none⟩ (.string s_1) ∧ cB 33 [.string s_1] H'_1 fun b_2 H' => brB (!b_2) (R (.int .i64 100) H') (cI 34
 [.pointer (some s), .func (Fn.func 35) ⟨[]⟩ ⟨[.pointer (some ⟨b_1, 0, none⟩), .pointer (some ⟨b, 0, none⟩)]⟩] H' fun n H' => R (.int .i64 n) H')) : CallH Tryz.prog 12 (List.toArray [.pointer (some
 s), .string name, .string data]) H R := vc_call (annOf []) followsAll Tryz.func12 rfl Tryz.ntmps12 rfl rfl (Eq.mpr (by kernel_rfl) h)
abbrev fn_ref10_Store_Write : Nat := 13
theorem vc_ref10_Store_Write (s : Addr) (name : ByteArray) (data : ByteArray) (H : Heap) (R : Value → Heap → Prop) (h : cB 36 [.string name] H fun b H' => brB (!b) (R (.int .i64 100) H') (∃ a n c,
 lD 86 H' (Addr.add s 1) (.slice a n c) ∧ cL 38 [.slice a n c, .agg ⟨[.string name, .string data, .slice none 0 0]⟩] H' fun a n c H' => cI 37 [.pointer (some s), .slice a n c] H' fun n H' => R (.int
 .i64 n) H')) : CallH Tryz.prog 13 (List.toArray [.pointer (some s), .string name, .string data]) H R := vc_call (annOf []) followsAll Tryz.func13 rfl Tryz.ntmps13 rfl rfl (Eq.mpr (by kernel_rfl) h)
abbrev fn_wal_Replay : Nat := 14
theorem vc_wal_Replay (st : Addr) (H : Heap) (R : Value → Heap → Prop) (h : cH 11 ⟨[.pointer (some st), .string { data := #[(119 : UInt8), (97 : UInt8), (108 : UInt8)] }]⟩ H fun v H' => ∃ s b, v =
 .tuple ⟨[.string s, .bool b]⟩ ∧ cH 39 ⟨[.string s]⟩ H' fun v H' => ∃ a n c n_1, v = .tuple ⟨[.slice a n c, .int .i64 n_1]⟩ ∧ brB (decide (n_1 < (↑(ByteArray.size s) : Int))) (R (.tuple ⟨[.slice none
 0 0, .int .i64 11]⟩) H') (∃ (I : IV) (μ : MU), I [.slice none 0 0, .int .i64 0] H' ∧ ∀ (J : F) (a_1 : Option Addr) (n_2 c : Nat) (n_3 : Int) (H' : Heap), I [.slice a_1 n_2 c, .int .i64 n_3] H' → brB
 (decide (n_3 < (↑n : Int))) (ix a n_3 n fun ad => (∃ s, lD 9 H' (Addr.add ad (Int.toNat n_3 * 1)) (.string s) ∧ cH 16 ⟨[.string s]⟩ H' fun v H'_1 => ∃ n a n_4 c_1 a_3 n_5 c_2 a_4 n_6 c_3 n_7 n_8, v
 = .tuple ⟨[.agg ⟨[.int .i64 n, .slice a n_4 c_1, .slice a_3 n_5 c_2, .slice a_4 n_6 c_3, .int .i64 n_7]⟩, .int .i64 n_8]⟩ ∧ ∀ (b : Nat) (H'_2 : Heap), New H'_1 b (.cells ⟨[.int .i64 0, .slice none 0
 0, .slice none 0 0, .slice none 0 0, .int .i64 0]⟩ 39) H'_2 → ∃ H'_3, sT 39 H'_2 ⟨b, 0, none⟩ (.agg ⟨[.int .i64 n, .slice a n_4 c_1, .slice a_3 n_5 c_2, .slice a_4 n_6 c_3, .int .i64 n_7]⟩) H'_3 ∧
 brB (n_8 != 0) (R (.tuple ⟨[.slice none 0 0, .int .i64 n_8]⟩) H'_3) (∃ n a n_9 c_4 a_6 n_10 c_5 a_7 n_11 c_6 n_12, lD 39 H'_3 ⟨b, 0, none⟩ (.agg ⟨[.int .i64 n, .slice a n_9 c_4, .slice a_6 n_10 c_5,
 .slice a_7 n_11 c_6, .int .i64 n_12]⟩) ∧ ∀ (b : Nat) (H'_4 : Heap), New H'_3 b (.cells ⟨[.int .i64 n, .slice a n_9 c_4, .slice a_6 n_10 c_5, .slice a_7 n_11 c_6, .int .i64 n_12]⟩ 39) H'_4 → SemWp
 Tryz.prog (Builtin.append_ ⟨[22, 22]⟩ 22 ⟨[.slice a_1 n_2 c, .slice (some ⟨b, 0, none⟩) 1 1]⟩) H'_4 fun v H'_5 => ∃ a n c_7, v = .slice a n c_7 ∧ I [.slice a n c_7, .int .i64 (IntKind.wrap .i64 (n_3
 + 1))] H'_5 ∧ μ [.slice a n c_7, .int .i64 (IntKind.wrap .i64 (n_3 + 1))] H'_5 < μ [.slice a_1 n_2 c, .int .i64 n_3] H'))) (R (.tuple ⟨[.slice a_1 n_2 c, .int .i64 0]⟩) H'))) : CallH Tryz.prog 14
 (List.toArray [.pointer (some st)]) H R := vc_call (annOf [([0, 1, 0, 1, 1, 1, 1, 1], .cut [(8, .one .slice), (29, .one (.int .i64))])]) followsAll Tryz.func14 rfl Tryz.ntmps14 rfl rfl (Eq.mpr (by
 kernel_rfl) h)
abbrev fn_wal_Decode : Nat := 16
theorem vc_wal_Decode (s : ByteArray) (H : Heap) (R : Value → Heap → Prop) (h : ∀ (b : Nat) (H' : Heap), New H b (.cells ⟨[.int .i64 0, .slice none 0 0, .slice none 0 0, .slice none 0 0, .int .i64
 0]⟩ 39) H' → ∀ (b_1 : Nat) (H'_1 : Heap), New H' b_1 (.cells ⟨[.string s, .int .i64 0, .bool true]⟩ 99) H'_1 → cI 42 [.pointer (some ⟨b_1, 0, none⟩), .int .i64 3] H'_1 fun n H' => ∀ (b_2 : Nat)
 (H'_2 : Heap), New H' b_2 (.cells ⟨[.int .i64 0, .slice none 0 0, .slice none 0 0, .slice none 0 0, .int .i64 0]⟩ 39) H'_2 → ∃ H', sT 39 H'_2 ⟨b_2, 0, none⟩ (.agg ⟨[.int .i64 n, .slice none 0 0,
 .slice none 0 0, .slice none 0 0, .int .i64 0]⟩) H' ∧ ∃ b_3, lD 4 H' ⟨b_1, 2, none⟩ (.bool b_3) ∧ brB b_3 (∃ n, lD 3 H' ⟨b_2, 0, none⟩ (.int .i64 n) ∧ cH 43 ⟨[]⟩ H' fun v H' => ∃ v_1 v_2 v_3 v_4 v_5
 v_6 v_7 v_8, v = .agg ⟨[v_1, v_2, v_3, v_4, v_5, v_6, v_7, v_8]⟩ ∧ lD 3 H' ⟨b_2, 0, none⟩ (.int .i64 n) ∧ chk (decide (0 ≤ n ∧ n < (↑4 : Int))) (∃ v v_9, Pt Tryz.prog 104 [v_1, v_2, v_3, v_4, v_5,
 v_6, v_7, v_8] (Int.toNat n * 2) (.agg ⟨[v, v_9]⟩) ∧ CallV Tryz.prog v_9 [.pointer (some ⟨b_2, 0, none⟩), .pointer (some ⟨b_1, 0, none⟩)] H' fun v H' => v = .tuple ⟨[]⟩ ∧ ∃ (M : IV), (∃ (M_1 : IV),
 (∃ b, lD 4 H' ⟨b_1, 2, none⟩ (.bool b) ∧ brB (!b) (M_1 [.bool true] H') (∃ n, lD 3 H' ⟨b_1, 1, none⟩ (.int .i64 n) ∧ brB (n != (↑(ByteArray.size s) : Int)) (M_1 [.bool true] H') (∃ n a n_1 c a_1 n_2
 c_1 a_2 n_3 c_2 n_4, lD 39 H' ⟨b_2, 0, none⟩ (.agg ⟨[.int .i64 n, .slice a n_1 c, .slice a_1 n_2 c_1, .slice a_2 n_3 c_2, .int .i64 n_4]⟩) ∧ cB 44 [.agg ⟨[.int .i64 n, .slice a n_1 c, .slice a_1 n_2
 c_1, .slice a_2 n_3 c_2, .int .i64 n_4]⟩] H' fun b H' => M_1 [.bool !b] H'))) ∧ ∀ (J : F) (b_4 : Bool) (H' : Heap), M_1 [.bool b_4] H' → brB b_4 (∃ H'_3, sT 39 H' ⟨b, 0, none⟩ (.agg ⟨[.int .i64 0,
 .slice none 0 0, .slice none 0 0, .slice none 0 0, .int .i64 0]⟩) H'_3 ∧ ∃ n a n_1 c a_1 n_2 c_1 a_2 n_3 c_2 n_4, lD 39 H'_3 ⟨b, 0, none⟩ (.agg ⟨[.int .i64 n, .slice a n_1 c, .slice a_1 n_2 c_1,
 .slice a_2 n_3 c_2, .int .i64 n_4]⟩) ∧ R (.tuple ⟨[.agg ⟨[.int .i64 n, .slice a n_1 c, .slice a_1 n_2 c_1, .slice a_2 n_3 c_2, .int .i64 n_4]⟩, .int .i64 11]⟩) H'_3) (M [] H')) ∧ ∀ (J : F) (H' :
 Heap), M [] H' → ∃ n a n_1 c a_1 n_2 c_1 a_2 n_3 c_2 n_4, lD 39 H' ⟨b_2, 0, none⟩ (.agg ⟨[.int .i64 n, .slice a n_1 c, .slice a_1 n_2 c_1, .slice a_2 n_3 c_2, .int .i64 n_4]⟩) ∧ ∃ H'_3, sT 39 H' ⟨b,
 0, none⟩ (.agg ⟨[.int .i64 n, .slice a n_1 c, .slice a_1 n_2 c_1, .slice a_2 n_3 c_2, .int .i64 n_4]⟩) H'_3 ∧ ∃ n a n_5 c a_3 n_6 c_3 a_4 n_7 c_4 n_8, lD 39 H'_3 ⟨b, 0, none⟩ (.agg ⟨[.int .i64 n,
 .slice a n_5 c, .slice a_3 n_6 c_3, .slice a_4 n_7 c_4, .int .i64 n_8]⟩) ∧ R (.tuple ⟨[.agg ⟨[.int .i64 n, .slice a n_5 c, .slice a_3 n_6 c_3, .slice a_4 n_7 c_4, .int .i64 n_8]⟩, .int .i64 0]⟩)
 H'_3)) (∃ (M : IV), (∃ (M_1 : IV), (∃ b, lD 4 H' ⟨b_1, 2, none⟩ (.bool b) ∧ brB (!b) (M_1 [.bool true] H') (∃ n, lD 3 H' ⟨b_1, 1, none⟩ (.int .i64 n) ∧ brB (n != (↑(ByteArray.size s) : Int)) (M_1
 [.bool true] H') (∃ n a n_1 c a_1 n_2 c_1 a_2 n_3 c_2 n_4, lD 39 H' ⟨b_2, 0, none⟩ (.agg ⟨[.int .i64 n, .slice a n_1 c, .slice a_1 n_2 c_1, .slice a_2 n_3 c_2, .int .i64 n_4]⟩) ∧ cB 44 [.agg ⟨[.int
 .i64 n, .slice a n_1 c, .slice a_1 n_2 c_1, .slice a_2 n_3 c_2, .int .i64 n_4]⟩] H' fun b H' => M_1 [.bool !b] H'))) ∧ ∀ (J : F) (b_4 : Bool) (H' : Heap), M_1 [.bool b_4] H' → brB b_4 (∃ H'_3, sT 39
 H' ⟨b, 0, none⟩ (.agg ⟨[.int .i64 0, .slice none 0 0, .slice none 0 0, .slice none 0 0, .int .i64 0]⟩) H'_3 ∧ ∃ n a n_1 c a_1 n_2 c_1 a_2 n_3 c_2 n_4, lD 39 H'_3 ⟨b, 0, none⟩ (.agg ⟨[.int .i64 n,
 .slice a n_1 c, .slice a_1 n_2 c_1, .slice a_2 n_3 c_2, .int .i64 n_4]⟩) ∧ R (.tuple ⟨[.agg ⟨[.int .i64 n, .slice a n_1 c, .slice a_1 n_2 c_1, .slice a_2 n_3 c_2, .int .i64 n_4]⟩, .int .i64 11]⟩)
 H'_3) (M [] H')) ∧ ∀ (J : F) (H' : Heap), M [] H' → ∃ n a n_1 c a_1 n_2 c_1 a_2 n_3 c_2 n_4, lD 39 H' ⟨b_2, 0, none⟩ (.agg ⟨[.int .i64 n, .slice a n_1 c, .slice a_1 n_2 c_1, .slice a_2 n_3 c_2, .int
 .i64 n_4]⟩) ∧ ∃ H'_3, sT 39 H' ⟨b, 0, none⟩ (.agg ⟨[.int .i64 n, .slice a n_1 c, .slice a_1 n_2 c_1, .slice a_2 n_3 c_2, .int .i64 n_4]⟩) H'_3 ∧ ∃ n a n_5 c a_3 n_6 c_3 a_4 n_7 c_4 n_8, lD 39 H'_3
 ⟨b, 0, none⟩ (.agg ⟨[.int .i64 n, .slice a n_5 c, .slice a_3 n_6 c_3, .slice a_4 n_7 c_4, .int .i64 n_8]⟩) ∧ R (.tuple ⟨[.agg ⟨[.int .i64 n, .slice a n_5 c, .slice a_3 n_6 c_3, .slice a_4 n_7 c_4,
 .int .i64 n_8]⟩, .int .i64 0]⟩) H'_3)) : CallH Tryz.prog 16 (List.toArray [.string s]) H R := vc_call (annOf [([0, 1, 0, 1, 1, 1], .reg [0, 0, 2, 7, 15, 0, 63] (.quiet 1 (.quiet 2 (.quiet 5 (.pick
 (.alt 0 (.quiet 3 (.quiet 4 (.pick (.alt 6 (.done) .stop)))) .stop)))))), ([1, 1, 1, 1], .cut []), ([0, 1, 1, 1, 1], .cut [(41, .one .bool)])]) followsAll Tryz.func16 rfl Tryz.ntmps16 rfl rfl
 (Eq.mpr (by kernel_rfl) h)
abbrev fn_ref11_Same : Nat := 17
theorem vc_ref11_Same (a_a : Option Addr) (a_n : Nat) (a_c : Nat) (b_a : Option Addr) (b_n : Nat) (b_c : Nat) (H : Heap) (R : Value → Heap → Prop) (h : brB ((↑a_n : Int) != (↑b_n : Int)) (R (.bool
 false) H) (∃ (I : IV) (μ : MU), I [.int .i64 0] H ∧ ∀ (J : F) (n : Int) (H' : Heap), I [.int .i64 n] H' → brB (decide (n < (↑a_n : Int))) (∃ (M : IV), (ix a_a n a_n fun ad => (∃ n_1 a n_2 c a_1 n_3
 c_1 a_2 n_4 c_2 n_5, lD 77 H' (Addr.add ad (Int.toNat n * 5)) (.agg ⟨[.int .i64 n_1, .slice a n_2 c, .slice a_1 n_3 c_1, .slice a_2 n_4 c_2, .int .i64 n_5]⟩) ∧ ∀ (b : Nat) (H'_1 : Heap), New H' b
 (.cells ⟨[.int .i64 0, .slice none 0 0, .slice none 0 0, .slice none 0 0, .int .i64 0]⟩ 77) H'_1 → ∃ H', sT 77 H'_1 ⟨b, 0, none⟩ (.agg ⟨[.int .i64 n_1, .slice a n_2 c, .slice a_1 n_3 c_1, .slice a_2
 n_4 c_2, .int .i64 n_5]⟩) H' ∧ ix b_a n b_n fun ad => (∃ n_6 a n_7 c a_4 n_8 c_3 a_5 n_9 c_4 n_10, lD 77 H' (Addr.add ad (Int.toNat n * 5)) (.agg ⟨[.int .i64 n_6, .slice a n_7 c, .slice a_4 n_8 c_3,
 .slice a_5 n_9 c_4, .int .i64 n_10]⟩) ∧ ∀ (b_1 : Nat) (H'_2 : Heap), New H' b_1 (.cells ⟨[.int .i64 0, .slice none 0 0, .slice none 0 0, .slice none 0 0, .int .i64 0]⟩ 77) H'_2 → ∃ H', sT 77 H'_2
 ⟨b_1, 0, none⟩ (.agg ⟨[.int .i64 n_6, .slice a n_7 c, .slice a_4 n_8 c_3, .slice a_5 n_9 c_4, .int .i64 n_10]⟩) H' ∧ ∃ (M_1 : IV), (∃ n, lD 3 H' ⟨b, 0, none⟩ (.int .i64 n) ∧ ∃ n_11, lD 3 H' ⟨b_1, 0,
 none⟩ (.int .i64 n_11) ∧ brB (n != n_11) (R (.bool false) H') (∃ n, lD 3 H' ⟨b, 4, none⟩ (.int .i64 n) ∧ ∃ n_12, lD 3 H' ⟨b_1, 4, none⟩ (.int .i64 n_12) ∧ brB (n != n_12) (R (.bool false) H') (∃ a n
 c, lD 35 H' ⟨b, 1, none⟩ (.slice a n c) ∧ ∃ a_7 n_13 c_5, lD 35 H' ⟨b_1, 1, none⟩ (.slice a_7 n_13 c_5) ∧ cB 45 [.slice a n c, .slice a_7 n_13 c_5] H' fun b_2 H' => brB (!b_2) (R (.bool false) H')
 (∃ a n c, lD 36 H' ⟨b, 2, none⟩ (.slice a n c) ∧ ∃ a n_14 c, lD 36 H' ⟨b_1, 2, none⟩ (.slice a n_14 c) ∧ brB ((↑n : Int) != (↑n_14 : Int)) (R (.bool false) H') (∃ a n c, lD 37 H' ⟨b, 3, none⟩
 (.slice a n c) ∧ ∃ a n_15 c, lD 37 H' ⟨b_1, 3, none⟩ (.slice a n_15 c) ∧ brB ((↑n : Int) != (↑n_15 : Int)) (R (.bool false) H') (M_1 [] H')))))) ∧ ∀ (J : F) (H' : Heap), M_1 [] H' → ∃ (I : IV) (μ :
 MU), I [.int .i64 0] H' ∧ ∀ (J : F) (n : Int) (H' : Heap), I [.int .i64 n] H' → ∃ a n_11 c, lD 36 H' ⟨b, 2, none⟩ (.slice a n_11 c) ∧ brB (decide (n < (↑n_11 : Int))) (∃ a n_12 c, lD 36 H' ⟨b, 2,
 none⟩ (.slice a n_12 c) ∧ ix a n n_12 fun ad => (∃ n_13 n_14 n_15, lD 111 H' (Addr.add ad (Int.toNat n * 3)) (.agg ⟨[.int .i64 n_13, .int .i64 n_14, .int .i64 n_15]⟩) ∧ ∃ a n_16 c, lD 36 H' ⟨b_1, 2,
 none⟩ (.slice a n_16 c) ∧ ix a n n_16 fun ad => (∃ n_17 n_18 n_19, lD 111 H' (Addr.add ad (Int.toNat n * 3)) (.agg ⟨[.int .i64 n_17, .int .i64 n_18, .int .i64 n_19]⟩) ∧ brB (!(n_13 == n_17 && (n_14
 == n_18 && (n_15 == n_19 && true)))) (R (.bool false) H') (I [.int .i64 (IntKind.wrap .i64 (n + 1))] H' ∧ μ [.int .i64 (IntKind.wrap .i64 (n + 1))] H' < μ [.int .i64 n] H')))) (∃ (I : IV) (μ : MU),
 I [.int .i64 0] H' ∧ ∀ (J : F) (n : Int) (H' : Heap), I [.int .i64 n] H' → ∃ a n_12 c, lD 37 H' ⟨b, 3, none⟩ (.slice a n_12 c) ∧ brB (decide (n < (↑n_12 : Int))) (∃ a n_13 c, lD 37 H' ⟨b, 3, none⟩
 (.slice a n_13 c) ∧ ix a n n_13 fun ad => (∃ n_14 n_15 n_16, lD 115 H' (Addr.add ad (Int.toNat n * 3)) (.agg ⟨[.int .i64 n_14, .int .i64 n_15, .int .i64 n_16]⟩) ∧ ∃ a n_17 c, lD 37 H' ⟨b_1, 3, none⟩
 (.slice a n_17 c) ∧ ix a n n_17 fun ad => (∃ n_18 n_19 n_20, lD 115 H' (Addr.add ad (Int.toNat n * 3)) (.agg ⟨[.int .i64 n_18, .int .i64 n_19, .int .i64 n_20]⟩) ∧ brB (!(n_14 == n_18 && (n_15 ==
 n_19 && (n_16 == n_20 && true) && true))) (R (.bool false) H') (I [.int .i64 (IntKind.wrap .i64 (n + 1))] H' ∧ μ [.int .i64 (IntKind.wrap .i64 (n + 1))] H' < μ [.int .i64 n] H')))) (M [] H'))))) ∧ ∀
 (J : F) (H'_1 : Heap), M [] H'_1 → I [.int .i64 (IntKind.wrap .i64 (n + 1))] H'_1 ∧ μ [.int .i64 (IntKind.wrap .i64 (n + 1))] H'_1 < μ [.int .i64 n] H') (R (.bool true) H'))) : CallH Tryz.prog 17
 (List.toArray [.slice a_a a_n a_c, .slice b_a b_n b_c]) H R := vc_call (annOf [([0, 1, 0, 1, 1], .cut [(5, .one (.int .i64))]), ([1, 0, 0, 1, 0, 1, 1], .cut []), ([1, 1, 0, 0, 1, 0, 0, 1, 0, 1, 1],
 .cut []), ([0, 1, 0, 1, 1, 1, 0, 0, 1, 0, 0, 1, 0, 1, 1], .cut [(8, .one (.int .i64))]), ([0, 1, 1, 1, 1, 1, 0, 0, 1, 0, 0, 1, 0, 1, 1], .cut [(9, .one (.int .i64))])]) followsAll Tryz.func17 rfl
 Tryz.ntmps17 rfl rfl (Eq.mpr (by kernel_rfl) h)
abbrev fn_wal_Reset : Nat := 18
theorem vc_wal_Reset (st : Addr) (H : Heap) (R : Value → Heap → Prop) (h : cI 46 [.pointer (some st), .string { data := #[(119 : UInt8), (97 : UInt8), (108 : UInt8)] }] H fun n H' => brB (n != 3) (R
 (.int .i64 n) H') (R (.int .i64 0) H')) : CallH Tryz.prog 18 (List.toArray [.pointer (some st)]) H R := vc_call (annOf []) followsAll Tryz.func18 rfl Tryz.ntmps18 rfl rfl (Eq.mpr (by kernel_rfl) h)
abbrev fn_ref11_Reset : Nat := 19
theorem vc_ref11_Reset (st : Addr) (H : Heap) (R : Value → Heap → Prop) (h : cH 20 ⟨[.pointer (some st), .string { data := #[(119 : UInt8), (97 : UInt8), (108 : UInt8)] }]⟩ H fun v H' => ∃ s b, v =
 .tuple ⟨[.string s, .bool b]⟩ ∧ brB (!b) (R (.int .i64 0) H') (cI 47 [.pointer (some st), .string { data := #[(119 : UInt8), (97 : UInt8), (108 : UInt8)] }] H' fun n H' => R (.int .i64 n) H')) :
 CallH Tryz.prog 19 (List.toArray [.pointer (some st)]) H R := vc_call (annOf []) followsAll Tryz.func19 rfl Tryz.ntmps19 rfl rfl (Eq.mpr (by kernel_rfl) h)
abbrev fn_ref10_Store_Read : Nat := 20
theorem vc_ref10_Store_Read (s : Addr) (name : ByteArray) (H : Heap) (R : Value → Heap → Prop) (h : ∃ a n c, lD 86 H (Addr.add s 1) (.slice a n c) ∧ cI 48 [.slice a n c, .string name] H fun n H' =>
 brB (decide (n < 0)) (R (.tuple ⟨[.string { data := #[] }, .bool false]⟩) H') (∃ a n_1 c, lD 86 H' (Addr.add s 1) (.slice a n_1 c) ∧ ix a n n_1 fun ad => (∃ s, lD 9 H' (Addr.add (Addr.add ad
 (Int.toNat n * 3)) 1) (.string s) ∧ R (.tuple ⟨[.string s, .bool true]⟩) H'))) : CallH Tryz.prog 20 (List.toArray [.pointer (some s), .string name]) H R := vc_call (annOf []) followsAll Tryz.func20
 rfl Tryz.ntmps20 rfl rfl (Eq.mpr (by kernel_rfl) h)
abbrev fn_files_Open : Nat := 21
theorem vc_files_Open (d : Addr) (H : Heap) (R : Value → Heap → Prop) (h : cB 49 [.pointer (some d)] H fun b H' => brB b (R (.tuple ⟨[.pointer none, .int .i64 90]⟩) H') (∀ (b : Nat) (H'_1 : Heap),
 New H' b (.map ⟨[]⟩ 0) H'_1 → ∀ (b_1 : Nat) (H' : Heap), New H'_1 b_1 (.map ⟨[]⟩ 0) H' → ∀ (b_2 : Nat) (H'_2 : Heap), New H' b_2 (.cells ⟨[.pointer (some d), .map (some b), .map (some b_1), .slice
 none 0 0, .int .i64 0, .bool false]⟩ 82) H'_2 → ∃ (I : IV) (μ : MU), I [.int .i64 0] H'_2 ∧ ∀ (J : F) (n : Int) (H' : Heap), I [.int .i64 n] H' → brB (decide (n < 2)) (cH 50 ⟨[.pointer (some d),
 .int .i64 n]⟩ H' fun v H'_3 => ∃ n_1 r a n_2 c, v = .tuple ⟨[.int .i64 n_1, .map r, .slice a n_2 c]⟩ ∧ ∃ n_3, lD 3 H'_3 ⟨b_2, 4, none⟩ (.int .i64 n_3) ∧ brB (decide (n_1 > n_3)) (∃ H'_4, sT 3 H'_3
 ⟨b_2, 4, none⟩ (.int .i64 n_1) H'_4 ∧ ∃ H'_5, sT 79 H'_4 ⟨b_2, 2, none⟩ (.map r) H'_5 ∧ ∃ H'_6, sT 80 H'_5 ⟨b_2, 3, none⟩ (.slice a n_2 c) H'_6 ∧ I [.int .i64 (IntKind.wrap .i64 (n + 1))] H'_6 ∧ μ
 [.int .i64 (IntKind.wrap .i64 (n + 1))] H'_6 < μ [.int .i64 n] H') (I [.int .i64 (IntKind.wrap .i64 (n + 1))] H'_3 ∧ μ [.int .i64 (IntKind.wrap .i64 (n + 1))] H'_3 < μ [.int .i64 n] H')) (∃ r, lD 79
 H' ⟨b_2, 2, none⟩ (.map r) ∧ SemWp Tryz.prog (Instr.range 79 (.map r)) H' fun v H' => ∃ a, v = .pointer a ∧ ∃ (I : IV) (μ : MU), I [] H' ∧ ∀ (J : F) (H' : Heap), I [] H' → SemWp Tryz.prog
 (Instr.next (.pointer a) false 0) H' fun v H'_3 => v = .tuple ⟨[.bool false]⟩ ∧ R (.tuple ⟨[.pointer (some ⟨b_2, 0, none⟩), .int .i64 0]⟩) H'_3 ∨ ∃ k x, v = .tuple ⟨[.bool true, k, x]⟩ ∧ SemWp
 Tryz.prog (Instr.entry (.pointer a)) H'_3 fun v H'_4 => ∃ k x, v = .tuple ⟨[k, x]⟩ ∧ ∃ s, k = .string s ∧ ∃ s_1 a n c, x = .agg ⟨[.string s_1, .slice a n c]⟩ ∧ ∀ (b : Nat) (H'_5 : Heap), New H'_4 b
 (.cells ⟨[.string { data := #[] }, .slice none 0 0]⟩ 122) H'_5 → ∃ H'_6, sT 122 H'_5 ⟨b, 0, none⟩ (.agg ⟨[.string s_1, .slice a n c]⟩) H'_6 ∧ ∃ r, lD 78 H'_6 ⟨b_2, 1, none⟩ (.map r) ∧ ∃ s_2, lD 9
 H'_6 ⟨b, 0, none⟩ (.string s_2) ∧ SemU Tryz.prog (Instr.mapUpdate 78 (.map r) (.string s) (.string s_2)) H'_6 fun H'_7 => I [] H'_7 ∧ μ [] H'_7 < μ [] H'))) : CallH Tryz.prog 21 (List.toArray
 [.pointer (some d)]) H R := vc_call (annOf [([0, 1, 0, 1, 1, 1], .cut [(18, .one (.int .i64))]), ([0, 1, 0, 1, 1, 1, 1], .cut []), ([0, 0, 1, 1, 0, 0, 1, 0, 1, 1, 1, 1], .ext), ([1, 0, 1, 1, 0, 0,
 1, 0, 1, 1, 1, 1], .tail 7)]) followsAll Tryz.func21 rfl Tryz.ntmps21 rfl rfl (Eq.mpr (by kernel_rfl) h)
abbrev fn_block_New : Nat := 22
theorem vc_block_New (n : Int) (H : Heap) (R : Value → Heap → Prop) (h : ∀ (b : Nat) (H' : Heap), New H b (.map ⟨[]⟩ 0) H' → ∀ (b_1 : Nat) (H'_1 : Heap), New H' b_1 (.cells ⟨[.int .i64 (if (if 512 <
 n then 512 else n) > 8 then if 512 < n then 512 else n else 8), .string { data := #[] }, .string { data := #[] }, .string { data := #[] }, .string { data := #[] }, .string { data := #[] }, .string {
 data := #[] }, .string { data := #[] }, .string { data := #[] }, .string { data := #[] }, .string { data := #[] }, .string { data := #[] }, .string { data := #[] }, .string { data := #[] }, .string
 { data := #[] }, .string { data := #[] }, .string { data := #[] }, .string { data := #[] }, .string { data := #[] }, .string { data := #[] }, .string { data := #[] }, .string { data := #[] },
 .string { data := #[] }, .string { data := #[] }, .string { data := #[] }, .string { data := #[] }, .string { data := #[] }, .string { data := #[] }, .string { data := #[] }, .string { data := #[]
 }, .string { data := #[] }, .string { data := #[] }, .string { data := #[] }, .string { data := #[] }, .string { data := #[] }, .string { data := #[] }, .string { data := #[] }, .string { data :=
 #[] }, .string { data := #[] }, .string { data := #[] }, .string { data := #[] }, .string { data := #[] }, .string { data := #[] }, .string { data := #[] }, .string { data := #[] }, .string { data
 := #[] }, .string { data := #[] }, .string { data := #[] }, .string { data := #[] }, .string { data := #[] }, .string { data := #[] }, .string { data := #[] }, .string { data := #[] }, .string {
 data := #[] }, .string { data := #[] }, .string { data := #[] }, .string { data := #[] }, .string { data := #[] }, .string { data := #[] }, .string { data := #[] }, .string { data := #[] }, .string
 { data := #[] }, .string { data := #[] }, .string { data := #[] }, .string { data := #[] }, .string { data := #[] }, .string { data := #[] }, .string { data := #[] }, .string { data := #[] },
 .string { data := #[] }, .string { data := #[] }, .string { data := #[] }, .string { data := #[] }, .string { data := #[] }, .string { data := #[] }, .string { data := #[] }, .string { data := #[]
 }, .string { data := #[] }, .string { data := #[] }, .string { data := #[] }, .string { data := #[] }, .string { data := #[] }, .string { data := #[] }, .string { data := #[] }, .string { data :=
 #[] }, .string { data := #[] }, .string { data := #[] }, .string { data := #[] }, .string { data := #[] }, .string { data := #[] }, .string { data := #[] }, .string { data := #[] }, .string { data
 := #[] }, .string { data := #[] }, .string { data := #[] }, .string { data := #[] }, .string { data := #[] }, .string { data := #[] }, .string { data := #[] }, .string { data := #[] }, .string {
 data := #[] }, .string { data := #[] }, .string { data := #[] }, .string { data := #[] }, .string { data := #[] }, .string { data := #[] }, .string { data := #[] }, .string { data := #[] }, .string
 { data := #[] }, .string { data := #[] }, .string { data := #[] }, .string { data := #[] }, .string { data := #[] }, .string { data := #[] }, .string { data := #[] }, .string { data := #[] },
 .string { data := #[] }, .string { data := #[] }, .string { data := #[] }, .string { data := #[] }, .string { data := #[] }, .string { data := #[] }, .string { data := #[] }, .string { data := #[]
 }, .string { data := #[] }, .string { data := #[] }, .string { data := #[] }, .string { data := #[] }, .string { data := #[] }, .string { data := #[] }, .string { data := #[] }, .string { data :=
 #[] }, .string { data := #[] }, .string { data := #[] }, .string { data := #[] }, .string { data := #[] }, .string { data := #[] }, .string { data := #[] }, .string { data := #[] }, .string { data
 := #[] }, .string { data := #[] }, .string { data := #[] }, .string { data := #[] }, .string { data := #[] }, .string { data := #[] }, .string { data := #[] }, .string { data := #[] }, .string {
 data := #[] }, .string { data := #[] }, .string { data := #[] }, .string { data := #[] }, .string { data := #[] }, .string { data := #[] }, .string { data := #[] }, .string { data := #[] }, .string
 { data := #[] }, .string { data := #[] }, .string { data := #[] }, .string { data := #[] }, .string { data := #[] }, .string { data := #[] }, .string { data := #[] }, .string { data := #[] },
 .string { data := #[] }, .string { data := #[] }, .string { data := #[] }, .string { data := #[] }, .string { data := #[] }, .string { data := #[] }, .string { data := #[] }, .string { data := #[]
 }, .string { data := #[] }, .string { data := #[] }, .string { data := #[] }, .string { data := #[] }, .string { data := #[] }, .string { data := #[] }, .string { data := #[] }, .string { data :=
 #[] }, .string { data := #[] }, .string { data := #[] }, .string { data := #[] }, .string { data := #[] }, .string { data := #[] }, .string { data := #[] }, .string { data := #[] }, .string { data
 := #[] }, .string { data := #[] }, .string { data := #[] }, .string { data := #[] }, .string { data := #[] }, .string { data := #[] }, .string { data := #[] }, .string { data := #[] }, .string {
 data := #[] }, .string { data := #[] }, .string { data := #[] }, .string { data := #[] }, .string { data := #[] }, .string { data := #[] }, .string { data := #[] }, .string { data := #[] }, .string
 { data := #[] }, .string { data := #[] }, .string { data := #[] }, .string { data := #[] }, .string { data := #[] }, .string { data := #[] }, .string { data := #[] }, .string { data := #[] },
 .string { data := #[] }, .string { data := #[] }, .string { data := #[] }, .string { data := #[] }, .string { data := #[] }, .string { data := #[] }, .string { data := #[] }, .string { data := #[]
 }, .string { data := #[] }, .string { data := #[] }, .string { data := #[] }, .string { data := #[] }, .string { data := #[] }, .string { data := #[] }, .string { data := #[] }, .string { data :=
 #[] }, .string { data := #[] }, .string { data := #[] }, .string { data := #[] }, .string { data := #[] }, .string { data := #[] }, .string { data := #[] }, .string { data := #[] }, .string { data
 := #[] }, .string { data := #[] }, .string { data := #[] }, .string { data := #[] }, .string { data := #[] }, .string { data := #[] }, .string { data := #[] }, .string { data := #[] }, .string {
 data := #[] }, .string { data := #[] }, .string { data := #[] }, .string { data := #[] }, .string { data := #[] }, .string { data := #[] }, .string { data := #[] }, .string { data := #[] }, .string
 { data := #[] }, .string { data := #[] }, .string { data := #[] }, .string { data := #[] }, .string { data := #[] }, .string { data := #[] }, .string { data := #[] }, .string { data := #[] },
 .string { data := #[] }, .string { data := #[] }, .string { data := #[] }, .string { data := #[] }, .string { data := #[] }, .string { data := #[] }, .string { data := #[] }, .string { data := #[]
 }, .string { data := #[] }, .string { data := #[] }, .string { data := #[] }, .string { data := #[] }, .string { data := #[] }, .string { data := #[] }, .string { data := #[] }, .string { data :=
 #[] }, .string { data := #[] }, .string { data := #[] }, .string { data := #[] }, .string { data := #[] }, .string { data := #[] }, .string { data := #[] }, .string { data := #[] }, .string { data
 := #[] }, .string { data := #[] }, .string { data := #[] }, .string { data := #[] }, .string { data := #[] }, .string { data := #[] }, .string { data := #[] }, .string { data := #[] }, .string {
 data := #[] }, .string { data := #[] }, .string { data := #[] }, .string { data := #[] }, .string { data := #[] }, .string { data := #[] }, .string { data := #[] }, .string { data := #[] }, .string
 { data := #[] }, .string { data := #[] }, .string { data := #[] }, .string { data := #[] }, .string { data := #[] }, .string { data := #[] }, .string { data := #[] }, .string { data := #[] },
 .string { data := #[] }, .string { data := #[] }, .string { data := #[] }, .string { data := #[] }, .string { data := #[] }, .string { data := #[] }, .string { data := #[] }, .string { data := #[]
 }, .string { data := #[] }, .string { data := #[] }, .string { data := #[] }, .string { data := #[] }, .string { data := #[] }, .string { data := #[] }, .string { data := #[] }, .string { data :=
 #[] }, .string { data := #[] }, .string { data := #[] }, .string { data := #[] }, .string { data := #[] }, .string { data := #[] }, .string { data := #[] }, .string { data := #[] }, .string { data
 := #[] }, .string { data := #[] }, .string { data := #[] }, .string { data := #[] }, .string { data := #[] }, .string { data := #[] }, .string { data := #[] }, .string { data := #[] }, .string {
 data := #[] }, .string { data := #[] }, .string { data := #[] }, .string { data := #[] }, .string { data := #[] }, .string { data := #[] }, .string { data := #[] }, .string { data := #[] }, .string
 { data := #[] }, .string { data := #[] }, .string { data := #[] }, .string { data := #[] }, .string { data := #[] }, .string { data := #[] }, .string { data := #[] }, .string { data := #[] },
 .string { data := #[] }, .string { data := #[] }, .string { data := #[] }, .string { data := #[] }, .string { data := #[] }, .string { data := #[] }, .string { data := #[] }, .string { data := #[]
 }, .string { data := #[] }, .string { data := #[] }, .string { data := #[] }, .string { data := #[] }, .string { data := #[] }, .string { data := #[] }, .string { data := #[] }, .string { data :=
 #[] }, .string { data := #[] }, .string { data := #[] }, .string { data := #[] }, .string { data := #[] }, .string { data := #[] }, .string { data := #[] }, .string { data := #[] }, .string { data
 := #[] }, .string { data := #[] }, .string { data := #[] }, .string { data := #[] }, .string { data := #[] }, .string { data := #[] }, .string { data := #[] }, .string { data := #[] }, .string {
 data := #[] }, .string { data := #[] }, .string { data := #[] }, .string { data := #[] }, .string { data := #[] }, .string { data := #[] }, .string { data := #[] }, .string { data := #[] }, .string
 { data := #[] }, .string { data := #[] }, .string { data := #[] }, .string { data := #[] }, .string { data := #[] }, .string { data := #[] }, .string { data := #[] }, .string { data := #[] },
 .string { data := #[] }, .string { data := #[] }, .string { data := #[] }, .string { data := #[] }, .string { data := #[] }, .string { data := #[] }, .string { data := #[] }, .string { data := #[]
 }, .string { data := #[] }, .string { data := #[] }, .string { data := #[] }, .string { data := #[] }, .string { data := #[] }, .string { data := #[] }, .string { data := #[] }, .string { data :=
 #[] }, .string { data := #[] }, .string { data := #[] }, .string { data := #[] }, .string { data := #[] }, .string { data := #[] }, .string { data := #[] }, .string { data := #[] }, .string { data
 := #[] }, .string { data := #[] }, .string { data := #[] }, .string { data := #[] }, .string { data := #[] }, .string { data := #[] }, .string { data := #[] }, .string { data := #[] }, .string {
 data := #[] }, .string { data := #[] }, .string { data := #[] }, .string { data := #[] }, .string { data := #[] }, .string { data := #[] }, .string { data := #[] }, .string { data := #[] }, .string
 { data := #[] }, .string { data := #[] }, .string { data := #[] }, .string { data := #[] }, .string { data := #[] }, .string { data := #[] }, .string { data := #[] }, .string { data := #[] },
 .string { data := #[] }, .string { data := #[] }, .string { data := #[] }, .string { data := #[] }, .string { data := #[] }, .string { data := #[] }, .string { data := #[] }, .string { data := #[]
 }, .string { data := #[] }, .string { data := #[] }, .string { data := #[] }, .string { data := #[] }, .string { data := #[] }, .string { data := #[] }, .string { data := #[] }, .string { data :=
 #[] }, .string { data := #[] }, .string { data := #[] }, .string { data := #[] }, .string { data := #[] }, .string { data := #[] }, .string { data := #[] }, .string { data := #[] }, .string { data
 := #[] }, .string { data := #[] }, .string { data := #[] }, .string { data := #[] }, .string { data := #[] }, .string { data := #[] }, .string { data := #[] }, .string { data := #[] }, .string {
 data := #[] }, .string { data := #[] }, .string { data := #[] }, .string { data := #[] }, .string { data := #[] }, .string { data := #[] }, .string { data := #[] }, .string { data := #[] }, .string
 { data := #[] }, .string { data := #[] }, .string { data := #[] }, .string { data := #[] }, .string { data := #[] }, .string { data := #[] }, .string { data := #[] }, .string { data := #[] },
 .string { data := #[] }, .string { data := #[] }, .string { data := #[] }, .string { data := #[] }, .string { data := #[] }, .string { data := #[] }, .string { data := #[] }, .string { data := #[]
 }, .string { data := #[] }, .string { data := #[] }, .string { data := #[] }, .string { data := #[] }, .string { data := #[] }, .string { data := #[] }, .string { data := #[] }, .string { data :=
 #[] }, .string { data := #[] }, .string { data := #[] }, .string { data := #[] }, .string { data := #[] }, .string { data := #[] }, .map (some b), .bool false, .int .i64 0, .int .u64 0, .int .i64
 0]⟩ 127) H'_1 → R (.pointer (some ⟨b_1, 0, none⟩)) H'_1) : CallH Tryz.prog 22 (List.toArray [.int .i64 n]) H R := vc_call (annOf []) followsAll Tryz.func22 rfl Tryz.ntmps22 rfl rfl (Eq.mpr (by
 kernel_rfl) h)
abbrev fn_ref10_Open : Nat := 23
theorem vc_ref10_Open (d : Addr) (H : Heap) (R : Value → Heap → Prop) (h : ∃ b, lD 4 H (Addr.add d 2) (.bool b) ∧ brB b (R (.tuple ⟨[.pointer none, .int .i64 90]⟩) H) (∀ (b : Nat) (H' : Heap), New H
 b (.cells ⟨[.pointer (some d), .slice none 0 0, .slice none 0 0, .slice none 0 0, .int .i64 0, .bool false]⟩ 89) H' → ∃ (I : IV) (μ : MU), I [.int .i64 0] H' ∧ ∀ (J : F) (n : Int) (H' : Heap), I
 [.int .i64 n] H' → brB (decide (n < 2)) (cH 51 ⟨[.pointer (some d), .int .i64 n]⟩ H' fun v H'_1 => ∃ n_1 a n_2 c a_1 n_3 c_1, v = .tuple ⟨[.int .i64 n_1, .slice a n_2 c, .slice a_1 n_3 c_1]⟩ ∧ ∃
 n_4, lD 3 H'_1 ⟨b, 4, none⟩ (.int .i64 n_4) ∧ brB (decide (n_1 > n_4)) (∃ H'_2, sT 3 H'_1 ⟨b, 4, none⟩ (.int .i64 n_1) H'_2 ∧ ∃ H'_3, sT 86 H'_2 ⟨b, 2, none⟩ (.slice a n_2 c) H'_3 ∧ ∃ H'_4, sT 80
 H'_3 ⟨b, 3, none⟩ (.slice a_1 n_3 c_1) H'_4 ∧ I [.int .i64 (IntKind.wrap .i64 (n + 1))] H'_4 ∧ μ [.int .i64 (IntKind.wrap .i64 (n + 1))] H'_4 < μ [.int .i64 n] H') (I [.int .i64 (IntKind.wrap .i64
 (n + 1))] H'_1 ∧ μ [.int .i64 (IntKind.wrap .i64 (n + 1))] H'_1 < μ [.int .i64 n] H')) (∃ (I : IV) (μ : MU), I [.int .i64 0] H' ∧ ∀ (J : F) (n : Int) (H' : Heap), I [.int .i64 n] H' → ∃ a n_1 c, lD
 86 H' ⟨b, 2, none⟩ (.slice a n_1 c) ∧ brB (decide (n < (↑n_1 : Int))) (∃ a n_2 c, lD 86 H' ⟨b, 1, none⟩ (.slice a n_2 c) ∧ ∃ a_1 n_3 c_1, lD 86 H' ⟨b, 2, none⟩ (.slice a_1 n_3 c_1) ∧ ix a_1 n n_3
 fun ad => (∃ s, lD 9 H' (Addr.add ad (Int.toNat n * 3)) (.string s) ∧ ∃ a_2 n_4 c_2, lD 86 H' ⟨b, 2, none⟩ (.slice a_2 n_4 c_2) ∧ ix a_2 n n_4 fun ad => (∃ s_1, lD 9 H' (Addr.add (Addr.add ad
 (Int.toNat n * 3)) 1) (.string s_1) ∧ ∀ (b_1 : Nat) (H'_1 : Heap), New H' b_1 (.cells ⟨[.string s, .string s_1, .slice none 0 0]⟩ 91) H'_1 → lD 86 H'_1 ⟨b, 1, none⟩ (.slice a n_2 c) ∧ SemWp
 Tryz.prog (Builtin.append_ ⟨[86, 86]⟩ 86 ⟨[.slice a n_2 c, .slice (some ⟨b_1, 0, none⟩) 1 1]⟩) H'_1 fun v H'_2 => ∃ a n_5 c, v = .slice a n_5 c ∧ ∃ H'_3, sT 86 H'_2 ⟨b, 1, none⟩ (.slice a n_5 c)
 H'_3 ∧ I [.int .i64 (IntKind.wrap .i64 (n + 1))] H'_3 ∧ μ [.int .i64 (IntKind.wrap .i64 (n + 1))] H'_3 < μ [.int .i64 n] H'))) (R (.tuple ⟨[.pointer (some ⟨b, 0, none⟩), .int .i64 0]⟩) H')))) :
 CallH Tryz.prog 23 (List.toArray [.pointer (some d)]) H R := vc_call (annOf [([0, 1, 0, 1, 1, 1], .cut [(5, .one (.int .i64))]), ([0, 1, 0, 1, 1, 1, 1], .cut [(9, .one (.int .i64))]), ([0, 0, 1, 0,
 0, 1, 0, 1, 1, 1, 1], .reg [0, 0, 2, 6, 14, 0, 32, 96, 224, 0, 992, 2016, 4064, 0, 8192, 24576, 57344, 0, 253952, 516096, 1040384, 2097120, 4194272, 8388606, 16777215, 33554431, 67108863] (.quiet 0
 (.quiet 1 (.quiet 2 (.quiet 3 (.quiet 4 (.quiet 5 (.quiet 6 (.quiet 7 (.quiet 8 (.quiet 9 (.quiet 10 (.quiet 11 (.quiet 12 (.quiet 13 (.quiet 14 (.quiet 15 (.quiet 16 (.quiet 17 (.quiet 18 (.quiet
 19 (.quiet 20 (.quiet 21 (.pick (.alt 22 (.pick (.alt 23 (.quiet 24 (.quiet 25 (.pick (.alt 26 (.done) .stop)))) .stop)) .stop)))))))))))))))))))))))))]) followsAll Tryz.func23 rfl Tryz.ntmps23 rfl
 rfl (Eq.mpr (by kernel_rfl) h)
abbrev fn_ref09_New : Nat := 24
theorem vc_ref09_New (n : Int) (H : Heap) (R : Value → Heap → Prop) (h : (SemWp Tryz.prog (Instr.makeSlice 92 (.int .i64 (if (if 512 < n then 512 else n) > 8 then if 512 < n then 512 else n else 8))
 (.int .i64 (if (if 512 < n then 512 else n) > 8 then if 512 < n then 512 else n else 8))) H fun v H' => ∃ a n_1 c, v = .slice a n_1 c ∧ SemWp Tryz.prog (Instr.makeSlice 128 (.int .i64 (if (if 512 <
 n then 512 else n) > 8 then if 512 < n then 512 else n else 8)) (.int .i64 (if (if 512 < n then 512 else n) > 8 then if 512 < n then 512 else n else 8))) H' fun v H' => ∃ a_1 n c_1, v = .slice a_1 n
 c_1 ∧ ∀ (b : Nat) (H'_1 : Heap), New H' b (.cells ⟨[.slice a n_1 c, .slice a_1 n c_1, .bool false, .int .i64 0, .int .u64 0, .int .i64 0]⟩ 130) H'_1 → R (.pointer (some ⟨b, 0, none⟩)) H'_1) ∧ SemWp
 Tryz.prog (Instr.makeSlice 128 (.int .i64 (if (if 512 < n then 512 else n) > 8 then if 512 < n then 512 else n else 8)) (.int .i64 (if (if 512 < n then 512 else n) > 8 then if 512 < n then 512 else
 n else 8))) H fun v H' => ∃ a n_1 c, v = .slice a n_1 c ∧ SemWp Tryz.prog (Instr.makeSlice 92 (.int .i64 (if (if 512 < n then 512 else n) > 8 then if 512 < n then 512 else n else 8)) (.int .i64 (if
 (if 512 < n then 512 else n) > 8 then if 512 < n then 512 else n else 8))) H' fun v H' => ∃ a_1 n c_1, v = .slice a_1 n c_1 ∧ ∀ (b : Nat) (H'_1 : Heap), New H' b (.cells ⟨[.slice a_1 n c_1, .slice a
 n_1 c, .bool false, .int .i64 0, .int .u64 0, .int .i64 0]⟩ 130) H'_1 → R (.pointer (some ⟨b, 0, none⟩)) H'_1) : CallH Tryz.prog 24 (List.toArray [.int .i64 n]) H R := vc_call (annOf [([0, 1, 1],
 .reg [0, 1, 0, 4, 15, 31, 63] (.quiet 0 (.quiet 2 (.pick (.alt 1 (.pick (.alt 3 (.quiet 4 (.pick (.alt 5 (.quiet 6 .done) .stop))) .stop)) (.alt 3 (.pick (.alt 1 (.quiet 4 (.pick (.alt 5 (.quiet 6
 .done) .stop))) .stop)) .stop))))))]) followsAll Tryz.func24 rfl Tryz.ntmps24 rfl rfl (Eq.mpr (by kernel_rfl) h)
abbrev fn_wal_Encode : Nat := 25
theorem vc_wal_Encode (r_0 : Int) (r_1_a : Option Addr) (r_1_n : Nat) (r_1_c : Nat) (r_2_a : Option Addr) (r_2_n : Nat) (r_2_c : Nat) (r_3_a : Option Addr) (r_3_n : Nat) (r_3_c : Nat) (r_4 : Int) (H
 : Heap) (R : Value → Heap → Prop) (h : ∀ (b : Nat) (H' : Heap), New H b (.cells ⟨[.int .i64 r_0, .slice r_1_a r_1_n r_1_c, .slice r_2_a r_2_n r_2_c, .slice r_3_a r_3_n r_3_c, .int .i64 r_4]⟩ 39) H'
 → ∀ (b_1 : Nat) (H'_1 : Heap), New H' b_1 (.cells ⟨[.string { data := #[] }]⟩ 9) H'_1 → ∀ (b_2 : Nat) (H' : Heap), New H'_1 b_2 (.cells ⟨[.int .i64 0]⟩ 28) H' → ∃ n a n_1 c a_1 n_2 c_1 a_2 n_3 c_2
 n_4, lD 39 H' ⟨b, 0, none⟩ (.agg ⟨[.int .i64 n, .slice a n_1 c, .slice a_1 n_2 c_1, .slice a_2 n_3 c_2, .int .i64 n_4]⟩) ∧ cB 44 [.agg ⟨[.int .i64 n, .slice a n_1 c, .slice a_1 n_2 c_1, .slice a_2
 n_3 c_2, .int .i64 n_4]⟩] H' fun b_3 H' => brB (!b_3) (∃ H'_2, sT 9 H' ⟨b_1, 0, none⟩ (.string { data := #[] }) H'_2 ∧ ∃ H', sT 28 H'_2 ⟨b_2, 0, none⟩ (.int .i64 1) H' ∧ CallDH Tryz.prog 52
 ⟨[.pointer (some ⟨b_2, 0, none⟩), .pointer (some ⟨b_1, 0, none⟩)]⟩ H' fun x H'' => ∃ s, lD 9 H'' ⟨b_1, 0, none⟩ (.string s) ∧ ∃ n, lD 28 H'' ⟨b_2, 0, none⟩ (.int .i64 n) ∧ R (.tuple ⟨[.string s,
 .int .i64 n]⟩) H'') (∃ n, lD 3 H' ⟨b, 0, none⟩ (.int .i64 n) ∧ cH 43 ⟨[]⟩ H' fun v H' => ∃ v_1 v_2 v_3 v_4 v_5 v_6 v_7 v_8, v = .agg ⟨[v_1, v_2, v_3, v_4, v_5, v_6, v_7, v_8]⟩ ∧ lD 3 H' ⟨b, 0, none⟩
 (.int .i64 n) ∧ chk (decide (0 ≤ n ∧ n < (↑4 : Int))) (∃ v v_9, Pt Tryz.prog 104 [v_1, v_2, v_3, v_4, v_5, v_6, v_7, v_8] (Int.toNat n * 2) (.agg ⟨[v, v_9]⟩) ∧ CallV Tryz.prog v [.pointer (some ⟨b,
 0, none⟩)] H' fun v H' => ∃ s n, v = .tuple ⟨[.string s, .int .i64 n]⟩ ∧ ∃ H'_2, sT 28 H' ⟨b_2, 0, none⟩ (.int .i64 n) H'_2 ∧ ∃ n, lD 3 H'_2 ⟨b, 0, none⟩ (.int .i64 n) ∧ ∃ n_5, lD 28 H'_2 ⟨b_2, 0,
 none⟩ (.int .i64 n_5) ∧ ∀ (b : Nat) (H' : Heap), New H'_2 b (.cells ⟨[.int .i64 n]⟩ 3) H' → lD 28 H' ⟨b_2, 0, none⟩ (.int .i64 n_5) ∧ cS 53 [.slice (some ⟨b, 0, none⟩) 1 1] H' fun s_1 H' => lD 28 H'
 ⟨b_2, 0, none⟩ (.int .i64 n_5) ∧ chk (decide (ByteArray.size s_1 + ByteArray.size s ≤ 9223372036854775807)) (∃ H'_3, sT 9 H' ⟨b_1, 0, none⟩ (.string (s_1 ++ s)) H'_3 ∧ lD 28 H'_3 ⟨b_2, 0, none⟩
 (.int .i64 n_5) ∧ ∃ H', sT 28 H'_3 ⟨b_2, 0, none⟩ (.int .i64 n_5) H' ∧ CallDH Tryz.prog 52 ⟨[.pointer (some ⟨b_2, 0, none⟩), .pointer (some ⟨b_1, 0, none⟩)]⟩ H' fun x H'' => ∃ s, lD 9 H'' ⟨b_1, 0,
 none⟩ (.string s) ∧ ∃ n, lD 28 H'' ⟨b_2, 0, none⟩ (.int .i64 n) ∧ R (.tuple ⟨[.string s, .int .i64 n]⟩) H'')))) : CallH Tryz.prog 25 (List.toArray [.agg #[.int .i64 r_0, .slice r_1_a r_1_n r_1_c,
 .slice r_2_a r_2_n r_2_c, .slice r_3_a r_3_n r_3_c, .int .i64 r_4]]) H R := vc_callDef (annOf [([0, 1, 1, 1], .reg [0, 0, 2, 7, 15, 31, 63, 127, 127, 255, 1023] (.quiet 1 (.quiet 2 (.pick (.alt 0
 (.quiet 3 (.quiet 4 (.pick (.alt 5 (.quiet 6 (.quiet 7 (.quiet 8 (.quiet 9 (.pick (.alt 10 (.done) .stop)))))) .stop)))) .stop))))), ([0, 1, 1, 1, 1], .reg [0, 1, 3, 7, 0, 31, 0, 63, 255] (.quiet 0
 (.quiet 1 (.quiet 4 (.quiet 6 (.pick (.alt 2 (.pick (.alt 3 (.quiet 5 (.pick (.alt 7 (.pick (.alt 8 (.done) .stop)) .stop))) .stop)) .stop)))))))]) followsAll Tryz.func25 rfl Tryz.ntmps25 rfl rfl
 (Eq.mpr (by kernel_rfl) h)
abbrev fn_strings_Builder_WriteString : Nat := 26
theorem vc_strings_Builder_WriteString (b : Addr) (s : ByteArray) (H : Heap) (R : Value → Heap → Prop) (h : cU 54 [.pointer (some b)] H fun H' => ∃ a n c, lD 65 H' (Addr.add b 1) (.slice a n c) ∧
 SemWp Tryz.prog (Builtin.append_ ⟨[65, 9]⟩ 65 ⟨[.slice a n c, .string s]⟩) H' fun v H' => ∃ a n c, v = .slice a n c ∧ ∃ H'_1, sT 65 H' (Addr.add b 1) (.slice a n c) H'_1 ∧ R (.tuple ⟨[.int .i64
 (↑(ByteArray.size s) : Int), .nilIface]⟩) H'_1) : CallH Tryz.prog 26 (List.toArray [.pointer (some b), .string s]) H R := vc_call (annOf []) followsAll Tryz.func26 rfl Tryz.ntmps26 rfl rfl (Eq.mpr
 (by kernel_rfl) h)
abbrev fn_frame_Frame : Nat := 27
theorem vc_frame_Frame (s : ByteArray) (H : Heap) (R : Value → Heap → Prop) (h : cI 55 [.string s] H fun n H' => (cS 56 [.string s] H' fun s H' => ∀ (b : Nat) (H'_1 : Heap), New H' b (.cells ⟨[.int
 .u8 (IntKind.wrap .u8 (Int.fdiv n (2 ^ 8))), .int .u8 (IntKind.wrap .u8 n)]⟩ 5) H'_1 → SemWp Tryz.prog (convert 65 9 (.slice (some ⟨b, 0, none⟩) 2 2)) H'_1 fun v H' => ∃ s_1, v = .string s_1 ∧ chk
 (decide (ByteArray.size s + ByteArray.size s_1 ≤ 9223372036854775807)) (R (.string (s ++ s_1)) H')) ∧ ∀ (b : Nat) (H'_1 : Heap), New H' b (.cells ⟨[.int .u8 (IntKind.wrap .u8 (Int.fdiv n (2 ^ 8))),
 .int .u8 (IntKind.wrap .u8 n)]⟩ 5) H'_1 → (cS 56 [.string s] H'_1 fun s H' => SemWp Tryz.prog (convert 65 9 (.slice (some ⟨b, 0, none⟩) 2 2)) H' fun v H' => ∃ s_1, v = .string s_1 ∧ chk (decide
 (ByteArray.size s + ByteArray.size s_1 ≤ 9223372036854775807)) (R (.string (s ++ s_1)) H')) ∧ SemWp Tryz.prog (convert 65 9 (.slice (some ⟨b, 0, none⟩) 2 2)) H'_1 fun v H' => ∃ s_1, v = .string s_1
 ∧ cS 56 [.string s] H' fun s H' => chk (decide (ByteArray.size s + ByteArray.size s_1 ≤ 9223372036854775807)) (R (.string (s ++ s_1)) H')) : CallH Tryz.prog 27 (List.toArray [.string s]) H R :=
 vc_call (annOf [([0, 1, 1], .reg [0, 1, 0, 4, 12, 0, 32, 124, 252, 511, 1023] (.quiet 0 (.quiet 2 (.quiet 3 (.quiet 4 (.quiet 5 (.quiet 6 (.pick (.alt 1 (.pick (.alt 7 (.pick (.alt 8 (.quiet 9
 (.quiet 10 .done)) .stop)) .stop)) (.alt 7 (.pick (.alt 1 (.pick (.alt 8 (.quiet 9 (.quiet 10 .done)) .stop)) (.alt 8 (.pick (.alt 1 (.quiet 9 (.quiet 10 .done)) .stop)) .stop))) .stop))))))))))])
 followsAll Tryz.func27 rfl Tryz.ntmps27 rfl rfl (Eq.mpr (by kernel_rfl) h)
abbrev fn_files_Store_Append : Nat := 28
theorem vc_files_Store_Append (s : Addr) (name : ByteArray) (data : ByteArray) (H : Heap) (R : Value → Heap → Prop) (h : ∃ r, lD 78 H (Addr.add s 1) (.map r) ∧ ∃ s_1, Rd Tryz.prog (Instr.lookup 78
 (.map r) (.string name) false) H (.string s_1) ∧ chk (decide (ByteArray.size s_1 + ByteArray.size data ≤ 9223372036854775807)) (cI 12 [.pointer (some s), .string name, .string (s_1 ++ data)] H fun n
 H' => R (.int .i64 n) H')) : CallH Tryz.prog 28 (List.toArray [.pointer (some s), .string name, .string data]) H R := vc_call (annOf []) followsAll Tryz.func28 rfl Tryz.ntmps28 rfl rfl (Eq.mpr (by
 kernel_rfl) h)
abbrev fn_strings_Builder_String : Nat := 29
theorem vc_strings_Builder_String (b : Addr) (H : Heap) (R : Value → Heap → Prop) (h : ∃ a n c, lD 65 H (Addr.add b 1) (.slice a n c) ∧ ∃ a_1 n_1 c_1, lD 65 H (Addr.add b 1) (.slice a_1 n_1 c_1) ∧
 SemWp Tryz.prog (Builtin.unsafeSliceData_ ⟨[65]⟩ 136 ⟨[.slice a n c]⟩) H fun v H' => ∃ a, v = .pointer a ∧ lD 65 H' (Addr.add b 1) (.slice a_1 n_1 c_1) ∧ SemWp Tryz.prog (Builtin.unsafeString_
 ⟨[136, 3]⟩ 9 ⟨[.pointer a, .int .i64 (↑n_1 : Int)]⟩) H' fun v H' => ∃ s, v = .string s ∧ R (.string s) H') : CallH Tryz.prog 29 (List.toArray [.pointer (some b)]) H R := vc_call (annOf [([0, 1],
 .reg [0, 1, 3, 7, 15, 0, 32, 96, 224, 480, 1023, 2047] (.quiet 0 (.quiet 1 (.quiet 2 (.quiet 3 (.quiet 5 (.quiet 6 (.quiet 7 (.quiet 8 (.quiet 9 (.pick (.alt 4 (.pick (.alt 10 (.quiet 11 .done)
 .stop)) .stop))))))))))))]) followsAll Tryz.func29 rfl Tryz.ntmps29 rfl rfl (Eq.mpr (by kernel_rfl) h)
abbrev fn_ref11_Encode : Nat := 30
theorem vc_ref11_Encode (r_0 : Int) (r_1_a : Option Addr) (r_1_n : Nat) (r_1_c : Nat) (r_2_a : Option Addr) (r_2_n : Nat) (r_2_c : Nat) (r_3_a : Option Addr) (r_3_n : Nat) (r_3_c : Nat) (r_4 : Int)
 (H : Heap) (R : Value → Heap → Prop) (h : ∀ (b : Nat) (H' : Heap), New H b (.cells ⟨[.int .i64 r_0, .slice r_1_a r_1_n r_1_c, .slice r_2_a r_2_n r_2_c, .slice r_3_a r_3_n r_3_c, .int .i64 r_4]⟩ 77)
 H' → ∃ n a n_1 c a_1 n_2 c_1 a_2 n_3 c_2 n_4, lD 77 H' ⟨b, 0, none⟩ (.agg ⟨[.int .i64 n, .slice a n_1 c, .slice a_1 n_2 c_1, .slice a_2 n_3 c_2, .int .i64 n_4]⟩) ∧ cB 57 [.agg ⟨[.int .i64 n, .slice
 a n_1 c, .slice a_1 n_2 c_1, .slice a_2 n_3 c_2, .int .i64 n_4]⟩] H' fun b_1 H' => brB (!b_1) (R (.tuple ⟨[.string { data := #[] }, .int .i64 1]⟩) H') (∃ n, lD 3 H' ⟨b, 0, none⟩ (.int .i64 n) ∧ cS
 58 [.int .i64 n] H' fun s H' => ∃ n, lD 3 H' ⟨b, 0, none⟩ (.int .i64 n) ∧ brB (n == 0) (∃ a n c, lD 35 H' ⟨b, 1, none⟩ (.slice a n c) ∧ cH 59 ⟨[.slice a n c]⟩ H' fun v H' => ∃ s_1 n, v = .tuple
 ⟨[.string s_1, .int .i64 n]⟩ ∧ brB (n != 0) (R (.tuple ⟨[.string { data := #[] }, .int .i64 n]⟩) H') (cS 60 [.string s_1] H' fun s_2 H' => chk (decide (ByteArray.size s + ByteArray.size s_2 ≤
 9223372036854775807)) (R (.tuple ⟨[.string (s ++ s_2), .int .i64 0]⟩) H'))) (brB (n == 1) (∃ a n c, lD 36 H' ⟨b, 2, none⟩ (.slice a n c) ∧ cS 58 [.int .i64 (↑n : Int)] H' fun s_1 H' => chk (decide
 (ByteArray.size s + ByteArray.size s_1 ≤ 9223372036854775807)) (∃ (I : IV) (μ : MU), I [.string (s ++ s_1), .int .i64 0] H' ∧ ∀ (J : F) (s : ByteArray) (n : Int) (H' : Heap), I [.string s, .int .i64
 n] H' → ∃ a n_5 c, lD 36 H' ⟨b, 2, none⟩ (.slice a n_5 c) ∧ brB (decide (n < (↑n_5 : Int))) (∃ a n_6 c, lD 36 H' ⟨b, 2, none⟩ (.slice a n_6 c) ∧ ix a n n_6 fun ad => (∃ n_7, lD 3 H' (Addr.add ad
 (Int.toNat n * 3)) (.int .i64 n_7) ∧ ∃ a n_8 c, lD 36 H' ⟨b, 2, none⟩ (.slice a n_8 c) ∧ ix a n n_8 fun ad => (∃ n_9, lD 3 H' (Addr.add (Addr.add ad (Int.toNat n * 3)) 1) (.int .i64 n_9) ∧ ∃ a_3
 n_10 c_3, lD 36 H' ⟨b, 2, none⟩ (.slice a_3 n_10 c_3) ∧ exSome a_3 fun ad_1 => chk (decide (0 ≤ n ∧ n < (↑n_10 : Int))) (∃ n_11, lD 3 H' (Addr.add (Addr.add ad_1 (Int.toNat n * 3)) 2) (.int .i64
 n_11) ∧ cS 58 [.int .i64 n_7] H' fun s_2 H'_1 => lD 3 H'_1 (Addr.add (Addr.add ad_1 (Int.toNat n * 3)) 2) (.int .i64 n_11) ∧ lD 36 H'_1 ⟨b, 2, none⟩ (.slice a_3 n_10 c_3) ∧ lD 3 H'_1 (Addr.add
 (Addr.add ad (Int.toNat n * 3)) 1) (.int .i64 n_9) ∧ lD 36 H'_1 ⟨b, 2, none⟩ (.slice a n_8 c) ∧ chk (decide (ByteArray.size s + ByteArray.size s_2 ≤ 9223372036854775807)) (cS 58 [.int .i64 n_9] H'_1
 fun s_3 H'_2 => lD 3 H'_2 (Addr.add (Addr.add ad_1 (Int.toNat n * 3)) 2) (.int .i64 n_11) ∧ lD 36 H'_2 ⟨b, 2, none⟩ (.slice a_3 n_10 c_3) ∧ chk (decide (ByteArray.size (s ++ s_2) + ByteArray.size
 s_3 ≤ 9223372036854775807)) (cS 61 [.int .i64 n_11] H'_2 fun s_4 H'_3 => chk (decide (ByteArray.size (s ++ s_2 ++ s_3) + ByteArray.size s_4 ≤ 9223372036854775807)) (I [.string (s ++ s_2 ++ s_3 ++
 s_4), .int .i64 (IntKind.wrap .i64 (n + 1))] H'_3 ∧ μ [.string (s ++ s_2 ++ s_3 ++ s_4), .int .i64 (IntKind.wrap .i64 (n + 1))] H'_3 < μ [.string s, .int .i64 n] H'))))))) (R (.tuple ⟨[.string s,
 .int .i64 0]⟩) H'))) (brB (n == 2) (∃ a n c, lD 37 H' ⟨b, 3, none⟩ (.slice a n c) ∧ cS 58 [.int .i64 (↑n : Int)] H' fun s_1 H' => chk (decide (ByteArray.size s + ByteArray.size s_1 ≤
 9223372036854775807)) (∃ (I : IV) (μ : MU), I [.string (s ++ s_1), .int .i64 0] H' ∧ ∀ (J : F) (s : ByteArray) (n : Int) (H' : Heap), I [.string s, .int .i64 n] H' → ∃ a n_5 c, lD 37 H' ⟨b, 3, none⟩
 (.slice a n_5 c) ∧ brB (decide (n < (↑n_5 : Int))) (∃ a n_6 c, lD 37 H' ⟨b, 3, none⟩ (.slice a n_6 c) ∧ ix a n n_6 fun ad => (∃ n_7, lD 3 H' (Addr.add ad (Int.toNat n * 3)) (.int .i64 n_7) ∧ ∃ a n_8
 c, lD 37 H' ⟨b, 3, none⟩ (.slice a n_8 c) ∧ ix a n n_8 fun ad => (∃ n_9, lD 3 H' (Addr.add (Addr.add ad (Int.toNat n * 3)) 1) (.int .i64 n_9) ∧ ∃ a_3 n_10 c_3, lD 37 H' ⟨b, 3, none⟩ (.slice a_3 n_10
 c_3) ∧ exSome a_3 fun ad_1 => chk (decide (0 ≤ n ∧ n < (↑n_10 : Int))) (∃ n_11, lD 3 H' (Addr.add (Addr.add (Addr.add ad_1 (Int.toNat n * 3)) 1) 1) (.int .i64 n_11) ∧ cS 58 [.int .i64 n_7] H' fun
 s_2 H'_1 => lD 3 H'_1 (Addr.add (Addr.add (Addr.add ad_1 (Int.toNat n * 3)) 1) 1) (.int .i64 n_11) ∧ lD 37 H'_1 ⟨b, 3, none⟩ (.slice a_3 n_10 c_3) ∧ lD 3 H'_1 (Addr.add (Addr.add ad (Int.toNat n *
 3)) 1) (.int .i64 n_9) ∧ lD 37 H'_1 ⟨b, 3, none⟩ (.slice a n_8 c) ∧ chk (decide (ByteArray.size s + ByteArray.size s_2 ≤ 9223372036854775807)) (cS 58 [.int .i64 n_9] H'_1 fun s_3 H'_2 => lD 3 H'_2
 (Addr.add (Addr.add (Addr.add ad_1 (Int.toNat n * 3)) 1) 1) (.int .i64 n_11) ∧ lD 37 H'_2 ⟨b, 3, none⟩ (.slice a_3 n_10 c_3) ∧ chk (decide (ByteArray.size (s ++ s_2) + ByteArray.size s_3 ≤
 9223372036854775807)) (cS 58 [.int .i64 n_11] H'_2 fun s_4 H'_3 => chk (decide (ByteArray.size (s ++ s_2 ++ s_3) + ByteArray.size s_4 ≤ 9223372036854775807)) (I [.string (s ++ s_2 ++ s_3 ++ s_4),
 .int .i64 (IntKind.wrap .i64 (n + 1))] H'_3 ∧ μ [.string (s ++ s_2 ++ s_3 ++ s_4), .int .i64 (IntKind.wrap .i64 (n + 1))] H'_3 < μ [.string s, .int .i64 n] H'))))))) (R (.tuple ⟨[.string s, .int
 .i64 0]⟩) H'))) (brB (n == 3) (∃ n, lD 3 H' ⟨b, 4, none⟩ (.int .i64 n) ∧ cS 58 [.int .i64 n] H' fun s_1 H' => chk (decide (ByteArray.size s + ByteArray.size s_1 ≤ 9223372036854775807)) (R (.tuple
 ⟨[.string (s ++ s_1), .int .i64 0]⟩) H')) (R (.tuple ⟨[.string s, .int .i64 0]⟩) H')))))) : CallH Tryz.prog 30 (List.toArray [.agg #[.int .i64 r_0, .slice r_1_a r_1_n r_1_c, .slice r_2_a r_2_n
 r_2_c, .slice r_3_a r_3_n r_3_c, .int .i64 r_4]]) H R := vc_call (annOf [([0, 1, 1, 0, 1, 1, 1, 0, 1, 0, 1, 1, 1], .cut [(4, .one .str), (7, .one (.int .i64))]), ([0, 0, 1, 0, 0, 1, 1, 0, 1, 1, 1,
 0, 1, 0, 1, 1, 1], .reg [0, 0, 2, 0, 14, 30, 62, 126, 255, 0, 512, 0, 3584, 7680, 15872, 32510, 65535, 0, 131072, 0, 917504, 1966080, 4063232, 8322814, 16777215, 33554431] (.quiet 0 (.quiet 1
 (.quiet 2 (.quiet 3 (.quiet 4 (.quiet 5 (.quiet 6 (.quiet 9 (.quiet 10 (.quiet 11 (.quiet 12 (.quiet 13 (.quiet 14 (.quiet 17 (.quiet 18 (.quiet 19 (.quiet 20 (.quiet 21 (.quiet 22 (.pick (.alt 7
 (.quiet 8 (.pick (.alt 15 (.quiet 16 (.pick (.alt 23 (.quiet 24 (.quiet 25 .done)) .stop))) .stop))) .stop)))))))))))))))))))))), ([0, 1, 1, 0, 1, 1, 1, 1, 1, 0, 1, 0, 1, 1, 1], .cut [(4, .one
 .str), (8, .one (.int .i64))]), ([0, 0, 1, 0, 0, 1, 1, 0, 1, 1, 1, 1, 1, 0, 1, 0, 1, 1, 1], .reg [0, 0, 2, 0, 14, 30, 62, 126, 255, 0, 512, 0, 3584, 7680, 15872, 32256, 65278, 131071, 0, 262144, 0,
 1835008, 3932160, 8126464, 16515072, 33423102, 67108863, 134217727] (.quiet 0 (.quiet 1 (.quiet 2 (.quiet 3 (.quiet 4 (.quiet 5 (.quiet 6 (.quiet 9 (.quiet 10 (.quiet 11 (.quiet 12 (.quiet 13
 (.quiet 14 (.quiet 15 (.quiet 18 (.quiet 19 (.quiet 20 (.quiet 21 (.quiet 22 (.quiet 23 (.quiet 24 (.pick (.alt 7 (.quiet 8 (.pick (.alt 16 (.quiet 17 (.pick (.alt 25 (.quiet 26 (.quiet 27 .done))
 .stop))) .stop))) .stop))))))))))))))))))))))))]) followsAll Tryz.func30 rfl Tryz.ntmps30 rfl rfl (Eq.mpr (by kernel_rfl) h)
abbrev fn_ref08_Frame : Nat := 31
theorem vc_ref08_Frame (s : ByteArray) (H : Heap) (R : Value → Heap → Prop) (h : cI 62 [.string s] H fun n H' => (cS 60 [.string s] H' fun s H' => ∀ (b : Nat) (H'_1 : Heap), New H' b (.cells ⟨[.int
 .u8 (IntKind.wrap .u8 (IntKind.wrap .i64 (Int.tdiv n 256))), .int .u8 (IntKind.wrap .u8 (Int.tmod n 256))]⟩ 5) H'_1 → SemWp Tryz.prog (convert 65 9 (.slice (some ⟨b, 0, none⟩) 2 2)) H'_1 fun v H' =>
 ∃ s_1, v = .string s_1 ∧ chk (decide (ByteArray.size s + ByteArray.size s_1 ≤ 9223372036854775807)) (R (.string (s ++ s_1)) H')) ∧ ∀ (b : Nat) (H'_1 : Heap), New H' b (.cells ⟨[.int .u8
 (IntKind.wrap .u8 (IntKind.wrap .i64 (Int.tdiv n 256))), .int .u8 (IntKind.wrap .u8 (Int.tmod n 256))]⟩ 5) H'_1 → (cS 60 [.string s] H'_1 fun s H' => SemWp Tryz.prog (convert 65 9 (.slice (some ⟨b,
 0, none⟩) 2 2)) H' fun v H' => ∃ s_1, v = .string s_1 ∧ chk (decide (ByteArray.size s + ByteArray.size s_1 ≤ 9223372036854775807)) (R (.string (s ++ s_1)) H')) ∧ SemWp Tryz.prog (convert 65 9
 (.slice (some ⟨b, 0, none⟩) 2 2)) H'_1 fun v H' => ∃ s_1, v = .string s_1 ∧ cS 60 [.string s] H' fun s H' => chk (decide (ByteArray.size s + ByteArray.size s_1 ≤ 9223372036854775807)) (R (.string (s
 ++ s_1)) H')) : CallH Tryz.prog 31 (List.toArray [.string s]) H R := vc_call (annOf [([0, 1, 1], .reg [0, 1, 0, 4, 12, 0, 32, 96, 252, 508, 1023, 2047] (.quiet 0 (.quiet 2 (.quiet 3 (.quiet 4
 (.quiet 5 (.quiet 6 (.quiet 7 (.pick (.alt 1 (.pick (.alt 8 (.pick (.alt 9 (.quiet 10 (.quiet 11 .done)) .stop)) .stop)) (.alt 8 (.pick (.alt 1 (.pick (.alt 9 (.quiet 10 (.quiet 11 .done)) .stop))
 (.alt 9 (.pick (.alt 1 (.quiet 10 (.quiet 11 .done)) .stop)) .stop))) .stop)))))))))))]) followsAll Tryz.func31 rfl Tryz.ntmps31 rfl rfl (Eq.mpr (by kernel_rfl) h)
abbrev fn_ref10_Store_Append : Nat := 32
theorem vc_ref10_Store_Append (s : Addr) (name : ByteArray) (data : ByteArray) (H : Heap) (R : Value → Heap → Prop) (h : cH 20 ⟨[.pointer (some s), .string name]⟩ H fun v H' => ∃ s_1 b, v = .tuple
 ⟨[.string s_1, .bool b]⟩ ∧ chk (decide (ByteArray.size s_1 + ByteArray.size data ≤ 9223372036854775807)) (cI 13 [.pointer (some s), .string name, .string (s_1 ++ data)] H' fun n H' => R (.int .i64
 n) H')) : CallH Tryz.prog 32 (List.toArray [.pointer (some s), .string name, .string data]) H R := vc_call (annOf []) followsAll Tryz.func32 rfl Tryz.ntmps32 rfl rfl (Eq.mpr (by kernel_rfl) h)
abbrev fn_files_right : Nat := 33
theorem vc_files_right (name : ByteArray) (H : Heap) (R : Value → Heap → Prop) (h : SemWp Tryz.prog (convert 9 65 (.string name)) H fun v H' => ∃ a n c, v = .slice a n c ∧ ∃ (I : IV) (μ : MU), I
 [.int .i64 0] H' ∧ ∀ (J : F) (n_1 : Int) (H' : Heap), I [.int .i64 n_1] H' → brB (decide (n_1 < (↑n : Int))) (ix a n_1 n fun ad => (∃ n, lD 5 H' (Addr.add ad (Int.toNat n_1 * 1)) (.int .u8 n) ∧ brB
 (decide (n < 97)) (brB (decide (n < 48)) (brB (n != 46) (brB (n != 45) (R (.bool false) H') (I [.int .i64 (IntKind.wrap .i64 (n_1 + 1))] H' ∧ μ [.int .i64 (IntKind.wrap .i64 (n_1 + 1))] H' < μ [.int
 .i64 n_1] H')) (I [.int .i64 (IntKind.wrap .i64 (n_1 + 1))] H' ∧ μ [.int .i64 (IntKind.wrap .i64 (n_1 + 1))] H' < μ [.int .i64 n_1] H')) (brB (decide (n > 57)) (brB (n != 46) (brB (n != 45) (R
 (.bool false) H') (I [.int .i64 (IntKind.wrap .i64 (n_1 + 1))] H' ∧ μ [.int .i64 (IntKind.wrap .i64 (n_1 + 1))] H' < μ [.int .i64 n_1] H')) (I [.int .i64 (IntKind.wrap .i64 (n_1 + 1))] H' ∧ μ [.int
 .i64 (IntKind.wrap .i64 (n_1 + 1))] H' < μ [.int .i64 n_1] H')) (I [.int .i64 (IntKind.wrap .i64 (n_1 + 1))] H' ∧ μ [.int .i64 (IntKind.wrap .i64 (n_1 + 1))] H' < μ [.int .i64 n_1] H'))) (brB
 (decide (n > 122)) (brB (decide (n < 48)) (brB (n != 46) (brB (n != 45) (R (.bool false) H') (I [.int .i64 (IntKind.wrap .i64 (n_1 + 1))] H' ∧ μ [.int .i64 (IntKind.wrap .i64 (n_1 + 1))] H' < μ
 [.int .i64 n_1] H')) (I [.int .i64 (IntKind.wrap .i64 (n_1 + 1))] H' ∧ μ [.int .i64 (IntKind.wrap .i64 (n_1 + 1))] H' < μ [.int .i64 n_1] H')) (brB (decide (n > 57)) (brB (n != 46) (brB (n != 45) (R
 (.bool false) H') (I [.int .i64 (IntKind.wrap .i64 (n_1 + 1))] H' ∧ μ [.int .i64 (IntKind.wrap .i64 (n_1 + 1))] H' < μ [.int .i64 n_1] H')) (I [.int .i64 (IntKind.wrap .i64 (n_1 + 1))] H' ∧ μ [.int
 .i64 (IntKind.wrap .i64 (n_1 + 1))] H' < μ [.int .i64 n_1] H')) (I [.int .i64 (IntKind.wrap .i64 (n_1 + 1))] H' ∧ μ [.int .i64 (IntKind.wrap .i64 (n_1 + 1))] H' < μ [.int .i64 n_1] H'))) (I [.int
 .i64 (IntKind.wrap .i64 (n_1 + 1))] H' ∧ μ [.int .i64 (IntKind.wrap .i64 (n_1 + 1))] H' < μ [.int .i64 n_1] H')))) (brB (!ByteArray.toList name == ByteArray.toList { data := #[] }) (R (.bool (decide
 ((↑(ByteArray.size name) : Int) ≤ 16))) H') (R (.bool false) H'))) : CallH Tryz.prog 33 (List.toArray [.string name]) H R := vc_call (annOf [([0, 1, 0, 1], .cut [(8, .one (.int .i64))])]) followsAll
 Tryz.func33 rfl Tryz.ntmps33 rfl rfl (Eq.mpr (by kernel_rfl) h)
theorem vc_files_Store_change (s : Addr) (by' : Value) (H : Heap) (R : Value → Heap → Prop) (h : ∃ r, lD 78 H (Addr.add s 1) (.map r) ∧ cM 63 [.map r] H fun r H' => CallV Tryz.prog by' [.map r] H'
 fun v H' => v = .tuple ⟨[]⟩ ∧ cH 64 ⟨[.pointer (some s), .map r]⟩ H' fun v H' => ∃ a n c r_1 s_1 a_1 n_1 c_1 n_2 n_3 b, v = .agg ⟨[.slice a n c, .map r_1, .string s_1, .slice a_1 n_1 c_1, .int .i64
 n_2, .int .i64 n_3, .bool b]⟩ ∧ brB (!b) (R (.int .i64 2) H') (∃ H'_1, sT 78 H' (Addr.add s 1) (.map r) H'_1 ∧ R (.int .i64 0) H'_1)) : CallH Tryz.prog 34 (List.toArray [.pointer (some s), by']) H R
 := vc_call (annOf []) followsAll Tryz.func34 rfl Tryz.ntmps34 rfl rfl (Eq.mpr (by kernel_rfl) h)
theorem vc_files_Store_Write_1 (now : Option Nat) (a1 : Addr) (a2 : Addr) (H : Heap) (R : Value → Heap → Prop) (h : ∃ s, lD 9 H a2 (.string s) ∧ ∃ s_1, lD 9 H a1 (.string s_1) ∧ SemU Tryz.prog
 (Instr.mapUpdate 78 (.map now) (.string s) (.string s_1)) H fun H' => R (.tuple ⟨[]⟩) H') : CallH Tryz.prog 35 (List.toArray [.map now, .pointer (some a1), .pointer (some a2)]) H R := vc_call (annOf
 []) followsAll Tryz.func35 rfl Tryz.ntmps35 rfl rfl (Eq.mpr (by kernel_rfl) h)
abbrev fn_ref10_good : Nat := 36
theorem vc_ref10_good (name : ByteArray) (H : Heap) (R : Value → Heap → Prop) (h : ∃ (M : IV), brB (decide ((↑(ByteArray.size name) : Int) < 1)) (R (.bool false) H) (brB (decide ((↑(ByteArray.size
 name) : Int) > 16)) (R (.bool false) H) (M [] H)) ∧ ∀ (J : F) (H' : Heap), M [] H' → ∃ (I : IV) (μ : MU), I [.int .i64 0] H' ∧ ∀ (J : F) (n : Int) (H' : Heap), I [.int .i64 n] H' → brB (decide (n <
 (↑(ByteArray.size name) : Int))) (∃ (M : IV), chk (decide (0 ≤ n ∧ n < (↑(ByteArray.size name) : Int))) (brB (decide ((↑(atB name (Int.toNat n)) : Int) < 97)) (brB (decide ((↑(atB name (Int.toNat
 n)) : Int) < 48)) (brB ((↑(atB name (Int.toNat n)) : Int) != 46) (brB ((↑(atB name (Int.toNat n)) : Int) != 45) (R (.bool false) H') (M [] H')) (M [] H')) (brB (decide ((↑(atB name (Int.toNat n)) :
 Int) > 57)) (brB ((↑(atB name (Int.toNat n)) : Int) != 46) (brB ((↑(atB name (Int.toNat n)) : Int) != 45) (R (.bool false) H') (M [] H')) (M [] H')) (M [] H'))) (brB (decide ((↑(atB name (Int.toNat
 n)) : Int) > 122)) (brB (decide ((↑(atB name (Int.toNat n)) : Int) < 48)) (brB ((↑(atB name (Int.toNat n)) : Int) != 46) (brB ((↑(atB name (Int.toNat n)) : Int) != 45) (R (.bool false) H') (M []
 H')) (M [] H')) (brB (decide ((↑(atB name (Int.toNat n)) : Int) > 57)) (brB ((↑(atB name (Int.toNat n)) : Int) != 46) (brB ((↑(atB name (Int.toNat n)) : Int) != 45) (R (.bool false) H') (M [] H'))
 (M [] H')) (M [] H'))) (M [] H'))) ∧ ∀ (J : F) (H'_1 : Heap), M [] H'_1 → I [.int .i64 (IntKind.wrap .i64 (n + 1))] H'_1 ∧ μ [.int .i64 (IntKind.wrap .i64 (n + 1))] H'_1 < μ [.int .i64 n] H') (R
 (.bool true) H')) : CallH Tryz.prog 36 (List.toArray [.string name]) H R := vc_call (annOf [([1], .cut []), ([0, 1, 0, 1, 1], .cut [(3, .one (.int .i64))]), ([1, 0, 0, 1, 0, 1, 1], .cut [])])
 followsAll Tryz.func36 rfl Tryz.ntmps36 rfl rfl (Eq.mpr (by kernel_rfl) h)
abbrev fn_ref10_Store_change : Nat := 37
theorem vc_ref10_Store_change (s : Addr) (l_a : Option Addr) (l_n : Nat) (l_c : Nat) (H : Heap) (R : Value → Heap → Prop) (h : cH 65 ⟨[.pointer (some s), .slice l_a l_n l_c]⟩ H fun v H' => ∃ n b, v
 = .tuple ⟨[.int .i64 n, .bool b]⟩ ∧ brB (!b) (R (.int .i64 2) H') (∃ H'_1, sT 86 H' (Addr.add s 1) (.slice l_a l_n l_c) H'_1 ∧ R (.int .i64 0) H'_1)) : CallH Tryz.prog 37 (List.toArray [.pointer
 (some s), .slice l_a l_n l_c]) H R := vc_call (annOf []) followsAll Tryz.func37 rfl Tryz.ntmps37 rfl rfl (Eq.mpr (by kernel_rfl) h)
abbrev fn_ref10_Put : Nat := 38
theorem vc_ref10_Put (l_a : Option Addr) (l_n : Nat) (l_c : Nat) (f_0 : ByteArray) (f_1 : ByteArray) (f_2_a : Option Addr) (f_2_n : Nat) (f_2_c : Nat) (H : Heap) (R : Value → Heap → Prop) (h : ∀ (b
 : Nat) (H' : Heap), New H b (.cells ⟨[.string f_0, .string f_1, .slice f_2_a f_2_n f_2_c]⟩ 91) H' → ∀ (b_1 : Nat) (H'_1 : Heap), New H' b_1 (.cells ⟨[]⟩ 91) H'_1 → ∃ (I : IV) (μ : MU), I [.slice
 (some ⟨b_1, 0, none⟩) 0 0, .bool false, .int .i64 0] H'_1 ∧ ∀ (J : F) (a : Option Addr) (n c : Nat) (b_2 : Bool) (n_1 : Int) (H' : Heap), I [.slice a n c, .bool b_2, .int .i64 n_1] H' → brB (decide
 (n_1 < (↑l_n : Int))) (∃ (M : IV), (∃ (M_1 : IV), (∃ (M : IV), brB (!b_2) (ix l_a n_1 l_n fun ad => (∃ s, lD 9 H' (Addr.add ad (Int.toNat n_1 * 3)) (.string s) ∧ ∃ s_1, lD 9 H' ⟨b, 0, none⟩ (.string
 s_1) ∧ M [.bool !Op.bytesLess (ByteArray.toList s) (ByteArray.toList s_1)] H')) (M [.bool false] H') ∧ ∀ (J : F) (b_3 : Bool) (H' : Heap), M [.bool b_3] H' → brB b_3 (∃ s s_1 a_3 n_2 c_1, lD 91 H'
 ⟨b, 0, none⟩ (.agg ⟨[.string s, .string s_1, .slice a_3 n_2 c_1]⟩) ∧ ∀ (b : Nat) (H'_2 : Heap), New H' b (.cells ⟨[.string s, .string s_1, .slice a_3 n_2 c_1]⟩ 91) H'_2 → SemWp Tryz.prog
 (Builtin.append_ ⟨[86, 86]⟩ 86 ⟨[.slice a n c, .slice (some ⟨b, 0, none⟩) 1 1]⟩) H'_2 fun v H' => ∃ a n c, v = .slice a n c ∧ M_1 [.slice a n c, .bool true] H') (M_1 [.slice a n c, .bool b_2] H')) ∧
 ∀ (J : F) (a : Option Addr) (n c : Nat) (b_3 : Bool) (H' : Heap), M_1 [.slice a n c, .bool b_3] H' → ix l_a n_1 l_n fun ad => (∃ s, lD 9 H' (Addr.add ad (Int.toNat n_1 * 3)) (.string s) ∧ ∃ s_1, lD
 9 H' ⟨b, 0, none⟩ (.string s_1) ∧ brB (!ByteArray.toList s == ByteArray.toList s_1) (ix l_a n_1 l_n fun ad => (∃ s s_2 a_3 n_2 c_1, lD 91 H' (Addr.add ad (Int.toNat n_1 * 3)) (.agg ⟨[.string s,
 .string s_2, .slice a_3 n_2 c_1]⟩) ∧ ∀ (b : Nat) (H'_2 : Heap), New H' b (.cells ⟨[.string s, .string s_2, .slice a_3 n_2 c_1]⟩ 91) H'_2 → SemWp Tryz.prog (Builtin.append_ ⟨[86, 86]⟩ 86 ⟨[.slice a n
 c, .slice (some ⟨b, 0, none⟩) 1 1]⟩) H'_2 fun v H' => ∃ a n c, v = .slice a n c ∧ M [.slice a n c, .bool b_3] H')) (M [.slice a n c, .bool b_3] H'))) ∧ ∀ (J : F) (a_2 : Option Addr) (n_2 c_1 : Nat)
 (b : Bool) (H'_2 : Heap), M [.slice a_2 n_2 c_1, .bool b] H'_2 → I [.slice a_2 n_2 c_1, .bool b, .int .i64 (IntKind.wrap .i64 (n_1 + 1))] H'_2 ∧ μ [.slice a_2 n_2 c_1, .bool b, .int .i64
 (IntKind.wrap .i64 (n_1 + 1))] H'_2 < μ [.slice a n c, .bool b_2, .int .i64 n_1] H') (brB (!b_2) (∃ s s_1 a_2 n_2 c_1, lD 91 H' ⟨b, 0, none⟩ (.agg ⟨[.string s, .string s_1, .slice a_2 n_2 c_1]⟩) ∧ ∀
 (b : Nat) (H'_2 : Heap), New H' b (.cells ⟨[.string s, .string s_1, .slice a_2 n_2 c_1]⟩ 91) H'_2 → SemWp Tryz.prog (Builtin.append_ ⟨[86, 86]⟩ 86 ⟨[.slice a n c, .slice (some ⟨b, 0, none⟩) 1 1]⟩)
 H'_2 fun v H' => ∃ a n c, v = .slice a n c ∧ R (.slice a n c) H') (R (.slice a n c) H'))) : CallH Tryz.prog 38 (List.toArray [.slice l_a l_n l_c, .agg #[.string f_0, .string f_1, .slice f_2_a f_2_n
 f_2_c]]) H R := vc_call (annOf [([0, 1, 0, 1, 1, 1], .cut [(5, .one .slice), (6, .one .bool), (7, .one (.int .i64))]), ([1, 0, 0, 1, 0, 1, 1, 1], .cut [(5, .one .slice), (6, .one .bool)]), ([0, 0,
 1, 0, 0, 1, 0, 1, 1, 1], .cut [(5, .one .slice), (6, .one .bool)]), ([0, 0, 0, 1, 0, 0, 1, 0, 1, 1, 1], .cut [(26, .one .bool)])]) followsAll Tryz.func38 rfl Tryz.ntmps38 rfl rfl (Eq.mpr (by
 kernel_rfl) h)
abbrev fn_frame_Scan : Nat := 39
theorem vc_frame_Scan (s : ByteArray) (H : Heap) (R : Value → Heap → Prop) (h : ∃ (I : IV) (μ : MU), I [.slice none 0 0, .int .i64 0] H ∧ ∀ (J : F) (a : Option Addr) (n c : Nat) (n_1 : Int) (H' :
 Heap), I [.slice a n c, .int .i64 n_1] H' → cH 66 ⟨[.string s, .int .i64 n_1]⟩ H' fun v H'_1 => ∃ s_1 n_2 n_3, v = .tuple ⟨[.string s_1, .int .i64 n_2, .int .i64 n_3]⟩ ∧ ∃ (M : IV), (∃ (M_1 : IV),
 brB (n_3 != 0) (M_1 [.bool true] H'_1) (brB (decide (IntKind.wrap .i64 ((↑(ByteArray.size s) : Int) - n_2) < 2)) (M_1 [.bool true] H'_1) (chk (decide (0 ≤ n_2 ∧ n_2 < (↑(ByteArray.size s) : Int)))
 (chk (decide (0 ≤ IntKind.wrap .i64 (n_2 + 1) ∧ IntKind.wrap .i64 (n_2 + 1) < (↑(ByteArray.size s) : Int))) (cI 55 [.string s_1] H'_1 fun n H' => M_1 [.bool (IntKind.wrap .i64 (↑(BitVec.toNat
 (BitVec.ofInt 64 (IntKind.wrap .i64 (IntKind.wrap .i64 (↑(atB s (Int.toNat n_2)) : Int) * 2 ^ 8)) ||| BitVec.ofInt 64 (IntKind.wrap .i64 (↑(atB s (Int.toNat (IntKind.wrap .i64 (n_2 + 1)))) : Int))))
 : Int) != n)] H')))) ∧ ∀ (J : F) (b : Bool) (H' : Heap), M_1 [.bool b] H' → brB b (R (.tuple ⟨[.slice a n c, .int .i64 n_1]⟩) H') (M [] H')) ∧ ∀ (J : F) (H'_2 : Heap), M [] H'_2 → ∀ (b : Nat) (H'_3
 : Heap), New H'_2 b (.cells ⟨[.string s_1]⟩ 9) H'_3 → SemWp Tryz.prog (Builtin.append_ ⟨[92, 92]⟩ 92 ⟨[.slice a n c, .slice (some ⟨b, 0, none⟩) 1 1]⟩) H'_3 fun v H'_4 => ∃ a_4 n_4 c_1, v = .slice
 a_4 n_4 c_1 ∧ I [.slice a_4 n_4 c_1, .int .i64 (IntKind.wrap .i64 (n_2 + 2))] H'_4 ∧ μ [.slice a_4 n_4 c_1, .int .i64 (IntKind.wrap .i64 (n_2 + 2))] H'_4 < μ [.slice a n c, .int .i64 n_1] H') :
 CallH Tryz.prog 39 (List.toArray [.string s]) H R := vc_call (annOf [([0, 1, 1, 1], .cut [(4, .one .slice), (5, .one (.int .i64))]), ([1, 0, 0, 0, 1, 1, 1], .cut []), ([0, 1, 0, 0, 0, 1, 1, 1], .cut
 [(40, .one .bool)]), ([0, 0, 1, 0, 0, 0, 1, 1, 1], .reg [0, 1, 3, 7, 15, 7, 63, 127, 255, 511, 1023, 1023, 4095, 8191, 16383, 1023, 1023, 66559, 230399, 492543, 1048575, 1023, 2098175, 8388607,
 16777215] (.quiet 0 (.quiet 1 (.quiet 2 (.quiet 3 (.quiet 4 (.quiet 5 (.quiet 6 (.quiet 7 (.quiet 8 (.quiet 9 (.quiet 10 (.quiet 11 (.quiet 12 (.quiet 13 (.quiet 14 (.quiet 15 (.quiet 16 (.quiet 17
 (.quiet 18 (.quiet 19 (.quiet 20 (.quiet 21 (.pick (.alt 22 (.quiet 23 (.quiet 24 .done)) .stop)))))))))))))))))))))))))]) followsAll Tryz.func39 rfl Tryz.ntmps39 rfl rfl (Eq.mpr (by kernel_rfl) h)
abbrev fn_wal_reader_number : Nat := 42
theorem vc_wal_reader_number (x : Addr) (most : Int) (H : Heap) (R : Value → Heap → Prop) (h : ∃ s, lD 9 H x (.string s) ∧ ∃ n, lD 3 H (Addr.add x 1) (.int .i64 n) ∧ cH 69 ⟨[.string s, .int .i64 n]⟩
 H fun v H' => ∃ n n_1 n_2, v = .tuple ⟨[.int .u64 n, .int .i64 n_1, .int .i64 n_2]⟩ ∧ ∃ (M : IV), (∃ (M_1 : IV), (∃ b, lD 4 H' (Addr.add x 2) (.bool b) ∧ brB (!b) (M_1 [.bool true] H') (brB (n_2 !=
 0) (M_1 [.bool true] H') (M_1 [.bool (decide (n > IntKind.wrap .u64 most))] H'))) ∧ ∀ (J : F) (b : Bool) (H' : Heap), M_1 [.bool b] H' → brB b (∃ H'_1, sT 4 H' (Addr.add x 2) (.bool false) H'_1 ∧ R
 (.int .i64 0) H'_1) (M [] H')) ∧ ∀ (J : F) (H' : Heap), M [] H' → ∃ H'_1, sT 3 H' (Addr.add x 1) (.int .i64 n_1) H'_1 ∧ R (.int .i64 (IntKind.wrap .i64 n)) H'_1) : CallH Tryz.prog 42 (List.toArray
 [.pointer (some x), .int .i64 most]) H R := vc_call (annOf [([0, 1], .reg [0, 1, 3, 7, 0, 16, 48, 112, 255, 511, 1023, 1023, 1023, 2047, 12287, 32767] (.quiet 0 (.quiet 1 (.quiet 2 (.quiet 3 (.quiet
 4 (.quiet 5 (.quiet 6 (.quiet 7 (.pick (.alt 8 (.quiet 9 (.quiet 10 (.quiet 11 (.quiet 12 (.quiet 13 (.quiet 14 (.quiet 15 .done))))))) .stop))))))))))), ([1, 1], .cut []), ([0, 1, 1], .cut [(35,
 .one .bool)])]) followsAll Tryz.func42 rfl Tryz.ntmps42 rfl rfl (Eq.mpr (by kernel_rfl) h)
abbrev fn_wal_forms : Nat := 43
theorem vc_wal_forms (H : Heap) (R : Value → Heap → Prop) (h : ∀ (b : Nat) (H' : Heap), New H b (.cells ⟨[.nilFunc, .nilFunc, .nilFunc, .nilFunc, .nilFunc, .nilFunc, .nilFunc, .nilFunc]⟩ 105) H' → ∃
 H'_1, sT 105 H' ⟨b, 0, none⟩ (.agg ⟨[.func (Fn.func 70) ⟨[]⟩ ⟨[]⟩, .func (Fn.func 72) ⟨[]⟩ ⟨[]⟩, .func (Fn.func 74) ⟨[]⟩ ⟨[]⟩, .func (Fn.func 76) ⟨[]⟩ ⟨[]⟩, .func (Fn.func 78) ⟨[]⟩ ⟨[]⟩, .func
 (Fn.func 79) ⟨[]⟩ ⟨[]⟩, .func (Fn.func 80) ⟨[]⟩ ⟨[]⟩, .func (Fn.func 81) ⟨[]⟩ ⟨[]⟩]⟩) H'_1 ∧ ∃ v v_1 v_2 v_3 v_4 v_5 v_6 v_7, lD 105 H'_1 ⟨b, 0, none⟩ (.agg ⟨[v, v_1, v_2, v_3, v_4, v_5, v_6, v_7]⟩)
 ∧ R (.agg ⟨[v, v_1, v_2, v_3, v_4, v_5, v_6, v_7]⟩) H'_1) : CallH Tryz.prog 43 (List.toArray []) H R := vc_call (annOf []) followsAll Tryz.func43 rfl Tryz.ntmps43 rfl rfl (Eq.mpr (by kernel_rfl) h)
abbrev fn_wal_check : Nat := 44
theorem vc_wal_check (r_0 : Int) (r_1_a : Option Addr) (r_1_n : Nat) (r_1_c : Nat) (r_2_a : Option Addr) (r_2_n : Nat) (r_2_c : Nat) (r_3_a : Option Addr) (r_3_n : Nat) (r_3_c : Nat) (r_4 : Int) (H
 : Heap) (R : Value → Heap → Prop) (h : ∀ (b : Nat) (H' : Heap), New H b (.cells ⟨[.int .i64 r_0, .slice r_1_a r_1_n r_1_c, .slice r_2_a r_2_n r_2_c, .slice r_3_a r_3_n r_3_c, .int .i64 r_4]⟩ 39) H'
 → ∃ a n c, lD 35 H' ⟨b, 1, none⟩ (.slice a n c) ∧ ∃ a n_1 c, lD 36 H' ⟨b, 2, none⟩ (.slice a n_1 c) ∧ ∃ a n_2 c, lD 37 H' ⟨b, 3, none⟩ (.slice a n_2 c) ∧ ∃ n_3, lD 3 H' ⟨b, 4, none⟩ (.int .i64 n_3)
 ∧ ∀ (b_1 : Nat) (H'_1 : Heap), New H' b_1 (.cells ⟨[.bool false, .bool false, .bool false, .bool false]⟩ 156) H'_1 → ∃ H', sT 156 H'_1 ⟨b_1, 0, none⟩ (.agg ⟨[.bool (decide ((↑n : Int) > 0)), .bool
 (decide ((↑n_1 : Int) > 0)), .bool (decide ((↑n_2 : Int) > 0)), .bool (n_3 != 0)]⟩) H' ∧ ∃ b_2 b_3 b_4 b_5, lD 156 H' ⟨b_1, 0, none⟩ (.agg ⟨[.bool b_2, .bool b_3, .bool b_4, .bool b_5]⟩) ∧ ∃ (I :
 IV) (μ : MU), I [.int .i64 0] H' ∧ ∀ (J : F) (n : Int) (H' : Heap), I [.int .i64 n] H' → brB (decide (n < 4)) (chk (decide (0 ≤ n ∧ n < (↑4 : Int))) (∃ b_6, Pt Tryz.prog 4 [.bool b_2, .bool b_3,
 .bool b_4, .bool b_5] (Int.toNat n * 1) (.bool b_6) ∧ brB b_6 (∃ n_4, lD 3 H' ⟨b, 0, none⟩ (.int .i64 n_4) ∧ brB (n != n_4) (R (.bool false) H') (I [.int .i64 (IntKind.wrap .i64 (n + 1))] H' ∧ μ
 [.int .i64 (IntKind.wrap .i64 (n + 1))] H' < μ [.int .i64 n] H')) (I [.int .i64 (IntKind.wrap .i64 (n + 1))] H' ∧ μ [.int .i64 (IntKind.wrap .i64 (n + 1))] H' < μ [.int .i64 n] H'))) (∃ a n c, lD 36
 H' ⟨b, 2, none⟩ (.slice a n c) ∧ ∃ (I : IV) (μ : MU), I [.int .i64 0] H' ∧ ∀ (J : F) (n_4 : Int) (H' : Heap), I [.int .i64 n_4] H' → brB (decide (n_4 < (↑n : Int))) (ix a n_4 n fun ad => (∃ n n_5
 n_6, lD 111 H' (Addr.add ad (Int.toNat n_4 * 3)) (.agg ⟨[.int .i64 n, .int .i64 n_5, .int .i64 n_6]⟩) ∧ ∀ (b : Nat) (H'_2 : Heap), New H' b (.cells ⟨[.int .i64 0, .int .i64 0, .int .i64 0]⟩ 111)
 H'_2 → ∃ H'_3, sT 111 H'_2 ⟨b, 0, none⟩ (.agg ⟨[.int .i64 n, .int .i64 n_5, .int .i64 n_6]⟩) H'_3 ∧ ∃ n, lD 3 H'_3 ⟨b, 0, none⟩ (.int .i64 n) ∧ cB 82 [.int .i64 n, .int .i64 1099511627776] H'_3 fun
 b_6 H'_4 => brB (!b_6) (R (.bool false) H'_4) (∃ n, lD 3 H'_4 ⟨b, 1, none⟩ (.int .i64 n) ∧ cB 82 [.int .i64 n, .int .i64 199] H'_4 fun b H'_5 => brB (!b) (R (.bool false) H'_5) (I [.int .i64
 (IntKind.wrap .i64 (n_4 + 1))] H'_5 ∧ μ [.int .i64 (IntKind.wrap .i64 (n_4 + 1))] H'_5 < μ [.int .i64 n_4] H')))) (∃ a n c, lD 37 H' ⟨b, 3, none⟩ (.slice a n c) ∧ ∃ (I : IV) (μ : MU), I [.int .i64
 0] H' ∧ ∀ (J : F) (n_5 : Int) (H' : Heap), I [.int .i64 n_5] H' → brB (decide (n_5 < (↑n : Int))) (∃ (M : IV), (ix a n_5 n fun ad => (∃ n n_6 n_7, lD 115 H' (Addr.add ad (Int.toNat n_5 * 3)) (.agg
 ⟨[.int .i64 n, .int .i64 n_6, .int .i64 n_7]⟩) ∧ ∀ (b : Nat) (H'_2 : Heap), New H' b (.cells ⟨[.int .i64 0, .int .i64 0, .int .i64 0]⟩ 115) H'_2 → ∃ H', sT 115 H'_2 ⟨b, 0, none⟩ (.agg ⟨[.int .i64 n,
 .int .i64 n_6, .int .i64 n_7]⟩) H' ∧ ∃ n, lD 3 H' ⟨b, 0, none⟩ (.int .i64 n) ∧ cB 82 [.int .i64 n, .int .i64 199] H' fun b_6 H' => brB (!b_6) (R (.bool false) H') (∃ n, lD 3 H' ⟨b, 1, none⟩ (.int
 .i64 n) ∧ brB (decide (n < 0)) (R (.bool false) H') (∃ n, lD 3 H' ⟨b, 2, none⟩ (.int .i64 n) ∧ ∃ n_8, lD 3 H' ⟨b, 1, none⟩ (.int .i64 n_8) ∧ brB (decide (n ≤ n_8)) (R (.bool false) H') (∃ n, lD 3 H'
 ⟨b, 2, none⟩ (.int .i64 n) ∧ brB (decide (n > 1099511627776)) (R (.bool false) H') (M [] H')))))) ∧ ∀ (J : F) (H'_2 : Heap), M [] H'_2 → I [.int .i64 (IntKind.wrap .i64 (n_5 + 1))] H'_2 ∧ μ [.int
 .i64 (IntKind.wrap .i64 (n_5 + 1))] H'_2 < μ [.int .i64 n_5] H') (∃ n, lD 3 H' ⟨b, 0, none⟩ (.int .i64 n) ∧ cB 82 [.int .i64 n, .int .i64 3] H' fun b_6 H' => brB b_6 (∃ n, lD 3 H' ⟨b, 4, none⟩ (.int
 .i64 n) ∧ cB 82 [.int .i64 n, .int .i64 1099511627776] H' fun b_7 H' => brB b_7 (∃ a n c, lD 36 H' ⟨b, 2, none⟩ (.slice a n c) ∧ brB (decide ((↑n : Int) ≤ 5000)) (∃ a n c, lD 37 H' ⟨b, 3, none⟩
 (.slice a n c) ∧ R (.bool (decide ((↑n : Int) ≤ 5000))) H') (R (.bool false) H')) (R (.bool false) H')) (R (.bool false) H'))))) : CallH Tryz.prog 44 (List.toArray [.agg #[.int .i64 r_0, .slice
 r_1_a r_1_n r_1_c, .slice r_2_a r_2_n r_2_c, .slice r_3_a r_3_n r_3_c, .int .i64 r_4]]) H R := vc_call (annOf [([0, 1, 0, 1, 1], .cut [(27, .one (.int .i64))]), ([0, 1, 0, 1, 1, 1], .cut [(42, .one
 (.int .i64))]), ([0, 1, 0, 1, 1, 1, 1], .cut [(60, .one (.int .i64))]), ([1, 1, 0, 0, 1, 0, 1, 1, 1, 1], .cut [])]) followsAll Tryz.func44 rfl Tryz.ntmps44 rfl rfl (Eq.mpr (by kernel_rfl) h)
abbrev fn_ref04_Same : Nat := 45
theorem vc_ref04_Same (a_a : Option Addr) (a_n : Nat) (a_c : Nat) (b_a : Option Addr) (b_n : Nat) (b_c : Nat) (H : Heap) (R : Value → Heap → Prop) (h : brB ((↑a_n : Int) != (↑b_n : Int)) (R (.bool
 false) H) (∃ (I : IV) (μ : MU), I [.int .i64 0] H ∧ ∀ (J : F) (n : Int) (H' : Heap), I [.int .i64 n] H' → brB (decide (n < (↑a_n : Int))) (ix a_a n a_n fun ad => (∃ s s_1, lD 55 H' (Addr.add ad
 (Int.toNat n * 2)) (.agg ⟨[.string s, .string s_1]⟩) ∧ ix b_a n b_n fun ad => (∃ s_2 s_3, lD 55 H' (Addr.add ad (Int.toNat n * 2)) (.agg ⟨[.string s_2, .string s_3]⟩) ∧ brB (!(s == s_2 && (s_1 ==
 s_3 && true))) (R (.bool false) H') (I [.int .i64 (IntKind.wrap .i64 (n + 1))] H' ∧ μ [.int .i64 (IntKind.wrap .i64 (n + 1))] H' < μ [.int .i64 n] H')))) (R (.bool true) H'))) : CallH Tryz.prog 45
 (List.toArray [.slice a_a a_n a_c, .slice b_a b_n b_c]) H R := vc_call (annOf [([0, 1, 0, 1, 1], .cut [(5, .one (.int .i64))])]) followsAll Tryz.func45 rfl Tryz.ntmps45 rfl rfl (Eq.mpr (by
 kernel_rfl) h)
abbrev fn_files_Store_Delete : Nat := 46
theorem vc_files_Store_Delete (s : Addr) (name : ByteArray) (H : Heap) (R : Value → Heap → Prop) (h : ∀ (b : Nat) (H' : Heap), New H b (.cells ⟨[.string name]⟩ 9) H' → ∃ s_1, lD 9 H' ⟨b, 0, none⟩
 (.string s_1) ∧ cB 33 [.string s_1] H' fun b_1 H' => brB (!b_1) (R (.int .i64 100) H') (∃ r, lD 78 H' (Addr.add s 1) (.map r) ∧ ∃ s_2, lD 9 H' ⟨b, 0, none⟩ (.string s_2) ∧ ∃ s_3 b_2, Rd Tryz.prog
 (Instr.lookup 78 (.map r) (.string s_2) true) H' (.tuple ⟨[.string s_3, .bool b_2]⟩) ∧ brB (!b_2) (R (.int .i64 3) H') (cI 34 [.pointer (some s), .func (Fn.func 83) ⟨[]⟩ ⟨[.pointer (some ⟨b, 0,
 none⟩)]⟩] H' fun n H' => R (.int .i64 n) H'))) : CallH Tryz.prog 46 (List.toArray [.pointer (some s), .string name]) H R := vc_call (annOf []) followsAll Tryz.func46 rfl Tryz.ntmps46 rfl rfl (Eq.mpr
 (by kernel_rfl) h)
abbrev fn_ref10_Store_Delete : Nat := 47
theorem vc_ref10_Store_Delete (s : Addr) (name : ByteArray) (H : Heap) (R : Value → Heap → Prop) (h : cB 36 [.string name] H fun b H' => brB (!b) (R (.int .i64 100) H') (∃ a n c, lD 86 H' (Addr.add
 s 1) (.slice a n c) ∧ cI 48 [.slice a n c, .string name] H' fun n H' => brB (decide (n < 0)) (R (.int .i64 3) H') (∃ a n c, lD 86 H' (Addr.add s 1) (.slice a n c) ∧ cL 84 [.slice a n c, .string
 name] H' fun a n c H' => cI 37 [.pointer (some s), .slice a n c] H' fun n H' => R (.int .i64 n) H'))) : CallH Tryz.prog 47 (List.toArray [.pointer (some s), .string name]) H R := vc_call (annOf [])
 followsAll Tryz.func47 rfl Tryz.ntmps47 rfl rfl (Eq.mpr (by kernel_rfl) h)
abbrev fn_ref10_Find : Nat := 48
theorem vc_ref10_Find (l_a : Option Addr) (l_n : Nat) (l_c : Nat) (name : ByteArray) (H : Heap) (R : Value → Heap → Prop) (h : ∃ (I : IV) (μ : MU), I [.int .i64 0] H ∧ ∀ (J : F) (n : Int) (H' :
 Heap), I [.int .i64 n] H' → brB (decide (n < (↑l_n : Int))) (ix l_a n l_n fun ad => (∃ s, lD 9 H' (Addr.add ad (Int.toNat n * 3)) (.string s) ∧ brB (ByteArray.toList s == ByteArray.toList name) (R
 (.int .i64 n) H') (I [.int .i64 (IntKind.wrap .i64 (n + 1))] H' ∧ μ [.int .i64 (IntKind.wrap .i64 (n + 1))] H' < μ [.int .i64 n] H'))) (R (.int .i64 (-1 : Int)) H')) : CallH Tryz.prog 48
 (List.toArray [.slice l_a l_n l_c, .string name]) H R := vc_call (annOf [([0, 1, 0, 1], .cut [(5, .one (.int .i64))])]) followsAll Tryz.func48 rfl Tryz.ntmps48 rfl rfl (Eq.mpr (by kernel_rfl) h)
abbrev fn_block_Disk_Dead : Nat := 49
theorem vc_block_Disk_Dead (d : Addr) (H : Heap) (R : Value → Heap → Prop) (h : ∃ b, lD 4 H (Addr.add d 514) (.bool b) ∧ R (.bool b) H) : CallH Tryz.prog 49 (List.toArray [.pointer (some d)]) H R :=
 vc_call (annOf []) followsAll Tryz.func49 rfl Tryz.ntmps49 rfl rfl (Eq.mpr (by kernel_rfl) h)
abbrev fn_files_root : Nat := 50
theorem vc_files_root (d : Addr) (slot : Int) (H : Heap) (R : Value → Heap → Prop) (h : cH 85 ⟨[.pointer (some d), .int .i64 slot]⟩ H fun v H' => ∃ s n, v = .tuple ⟨[.string s, .int .i64 n]⟩ ∧ ∀ (b
 : Nat) (H'_1 : Heap), New H' b (.map ⟨[]⟩ 0) H'_1 → ∀ (b_1 : Nat) (H' : Heap), New H'_1 b_1 (.cells ⟨[.pointer (some d), .string s, .int .i64 0, .bool true, .map (some b)]⟩ 163) H' → cI 86 [.pointer
 (some ⟨b_1, 0, none⟩)] H' fun n H' => cI 86 [.pointer (some ⟨b_1, 0, none⟩)] H' fun n_1 H' => ∃ (M : IV), (∃ (M_1 : IV), (∃ b, lD 4 H' ⟨b_1, 3, none⟩ (.bool b) ∧ brB (!b) (M_1 [.bool true] H') (brB
 (decide (n < 1)) (M_1 [.bool true] H') (brB (Int.tmod n 2 != slot) (M_1 [.bool true] H') (brB (decide (n_1 < 1)) (M_1 [.bool true] H') (M_1 [.bool (decide (n_1 > 1280))] H'))))) ∧ ∀ (J : F) (b :
 Bool) (H' : Heap), M_1 [.bool b] H' → brB b (R (.tuple ⟨[.int .i64 0, .map none, .slice none 0 0]⟩) H') (M [] H')) ∧ ∀ (J : F) (H' : Heap), M [] H' → cH 87 ⟨[.pointer (some ⟨b_1, 0, none⟩), .int
 .i64 n_1, .func (Fn.func 86) ⟨[.pointer (some ⟨b_1, 0, none⟩)]⟩ ⟨[]⟩]⟩ H' fun v H' => ∃ s_1 a n_2 c, v = .agg ⟨[.string s_1, .slice a n_2 c]⟩ ∧ ∀ (b : Nat) (H'_2 : Heap), New H' b (.cells ⟨[.string
 { data := #[] }, .slice none 0 0]⟩ 122) H'_2 → ∃ H', sT 122 H'_2 ⟨b, 0, none⟩ (.agg ⟨[.string s_1, .slice a n_2 c]⟩) H' ∧ ∃ (M : IV), (∃ b, lD 4 H' ⟨b_1, 3, none⟩ (.bool b) ∧ brB (!b) (R (.tuple
 ⟨[.int .i64 0, .map none, .slice none 0 0]⟩) H') (∃ n, lD 3 H' ⟨b_1, 2, none⟩ (.int .i64 n) ∧ brB (n != (↑(ByteArray.size s) : Int)) (R (.tuple ⟨[.int .i64 0, .map none, .slice none 0 0]⟩) H') (M []
 H'))) ∧ ∀ (J : F) (H' : Heap), M [] H' → ∃ s, lD 9 H' ⟨b, 0, none⟩ (.string s) ∧ ∃ r, lD 161 H' ⟨b_1, 4, none⟩ (.map r) ∧ ∀ (b_2 : Nat) (H'_3 : Heap), New H' b_2 (.cells ⟨[.pointer (some d), .string
 s, .int .i64 0, .bool true, .map r]⟩ 163) H'_3 → ∀ (b_3 : Nat) (H' : Heap), New H'_3 b_3 (.map ⟨[]⟩ 0) H' → cI 86 [.pointer (some ⟨b_2, 0, none⟩)] H' fun n_3 H' => ∃ (I : IV) (μ : MU), I [.string {
 data := #[] }] H' ∧ ∀ (J : F) (s : ByteArray) (H' : Heap), I [.string s] H' → ∃ (M : IV), (∃ b_4, lD 4 H' ⟨b_2, 3, none⟩ (.bool b_4) ∧ brB b_4 (∃ n_4, Rd Tryz.prog (Builtin.len_ ⟨[79]⟩ 3 ⟨[.map
 (some b_3)]⟩) H' (.int .i64 n_4) ∧ brB (decide (n_4 < n_3)) (M [] H') (∃ (M : IV), (∃ (M_1 : IV), (∃ b, lD 4 H' ⟨b_2, 3, none⟩ (.bool b) ∧ brB (!b) (M_1 [.bool true] H') (∃ n, lD 3 H' ⟨b_2, 2, none⟩
 (.int .i64 n) ∧ ∃ s, lD 9 H' ⟨b_2, 1, none⟩ (.string s) ∧ M_1 [.bool (n != (↑(ByteArray.size s) : Int))] H')) ∧ ∀ (J : F) (b : Bool) (H' : Heap), M_1 [.bool b] H' → brB b (R (.tuple ⟨[.int .i64 0,
 .map none, .slice none 0 0]⟩) H') (M [] H')) ∧ ∀ (J : F) (H' : Heap), M [] H' → ∃ a n_5 c, lD 80 H' ⟨b, 1, none⟩ (.slice a n_5 c) ∧ R (.tuple ⟨[.int .i64 n, .map (some b_3), .slice a n_5 c]⟩) H'))
 (∃ (M : IV), (∃ (M_1 : IV), (∃ b, lD 4 H' ⟨b_2, 3, none⟩ (.bool b) ∧ brB (!b) (M_1 [.bool true] H') (∃ n, lD 3 H' ⟨b_2, 2, none⟩ (.int .i64 n) ∧ ∃ s, lD 9 H' ⟨b_2, 1, none⟩ (.string s) ∧ M_1 [.bool
 (n != (↑(ByteArray.size s) : Int))] H')) ∧ ∀ (J : F) (b : Bool) (H' : Heap), M_1 [.bool b] H' → brB b (R (.tuple ⟨[.int .i64 0, .map none, .slice none 0 0]⟩) H') (M [] H')) ∧ ∀ (J : F) (H' : Heap),
 M [] H' → ∃ a n_4 c, lD 80 H' ⟨b, 1, none⟩ (.slice a n_4 c) ∧ R (.tuple ⟨[.int .i64 n, .map (some b_3), .slice a n_4 c]⟩) H')) ∧ ∀ (J : F) (H'_4 : Heap), M [] H'_4 → cS 88 [.pointer (some ⟨b_2, 0,
 none⟩)] H'_4 fun s_2 H'_5 => cI 86 [.pointer (some ⟨b_2, 0, none⟩)] H'_5 fun n H'_6 => ∃ (M : IV), (∃ b, lD 4 H'_6 ⟨b_2, 3, none⟩ (.bool b) ∧ brB b (∃ H', sT 4 H'_6 ⟨b_2, 3, none⟩ (.bool
 !(Op.bytesLess (ByteArray.toList s_2) (ByteArray.toList s) || ByteArray.toList s_2 == ByteArray.toList s)) H' ∧ M [] H') (∃ H', sT 4 H'_6 ⟨b_2, 3, none⟩ (.bool false) H' ∧ M [] H')) ∧ ∀ (J : F)
 (H'_7 : Heap), M [] H'_7 → cH 87 ⟨[.pointer (some ⟨b_2, 0, none⟩), .int .i64 n, .func (Fn.func 86) ⟨[.pointer (some ⟨b_2, 0, none⟩)]⟩ ⟨[]⟩]⟩ H'_7 fun v H'_8 => ∃ s_3 a n c, v = .agg ⟨[.string s_3,
 .slice a n c]⟩ ∧ SemU Tryz.prog (Instr.mapUpdate 79 (.map (some b_3)) (.string s_2) (.agg ⟨[.string s_3, .slice a n c]⟩)) H'_8 fun H'_9 => I [.string s_2] H'_9 ∧ μ [.string s_2] H'_9 < μ [.string s]
 H') : CallH Tryz.prog 50 (List.toArray [.pointer (some d), .int .i64 slot]) H R := vc_call (annOf [([1, 1, 1, 1], .cut []), ([0, 1, 1, 1, 1], .cut [(56, .one .bool)]), ([1, 1, 1, 1, 1, 1], .cut []),
 ([0, 1, 1, 1, 1, 1, 1, 1], .tail 7), ([0, 1, 0, 1, 1, 1, 1, 1, 1, 1, 1, 1, 1], .cut [(15, .one .str)]), ([0, 0, 1, 0, 1, 1, 1, 1, 1, 1, 1, 1, 1, 1], .cut []), ([1, 1, 0, 1, 0, 0, 1, 0, 1, 1, 1, 1,
 1, 1, 1, 1, 1, 1], .cut []), ([1, 1, 1, 1, 1, 1, 1, 1, 1, 1, 1], .cut []), ([0, 1, 1, 1, 1, 1, 1, 1, 1, 1, 1, 1], .cut [(138, .one .bool)])]) followsAll Tryz.func50 rfl Tryz.ntmps50 rfl rfl (Eq.mpr
 (by kernel_rfl) h)
abbrev fn_ref10_root : Nat := 51
theorem vc_ref10_root (d : Addr) (g : Int) (H : Heap) (R : Value → Heap → Prop) (h : cH 89 ⟨[.pointer (some d), .int .i64 g]⟩ H fun v H' => ∃ s n, v = .tuple ⟨[.string s, .int .i64 n]⟩ ∧ cH 90
 ⟨[.string s, .int .i64 0]⟩ H' fun v H' => ∃ n n_1 n_2, v = .tuple ⟨[.int .u64 n, .int .i64 n_1, .int .i64 n_2]⟩ ∧ cH 90 ⟨[.string s, .int .i64 n_1]⟩ H' fun v H' => ∃ n_3 n_4 n_5, v = .tuple ⟨[.int
 .u64 n_3, .int .i64 n_4, .int .i64 n_5]⟩ ∧ ∃ (M : IV), (∃ (M_1 : IV), brB (n_2 != 0) (M_1 [.bool true] H') (brB (n_5 != 0) (M_1 [.bool true] H') (brB (decide (n < 1)) (M_1 [.bool true] H') (brB
 (decide (n > 1152921504606846976)) (M_1 [.bool true] H') (brB (IntKind.wrap .i64 (Int.tmod n 2) != g) (M_1 [.bool true] H') (brB (decide (n_3 < 1)) (M_1 [.bool true] H') (M_1 [.bool (decide (n_3 >
 1280))] H')))))) ∧ ∀ (J : F) (b : Bool) (H' : Heap), M_1 [.bool b] H' → brB b (R (.tuple ⟨[.int .i64 0, .slice none 0 0, .slice none 0 0]⟩) H') (M [] H')) ∧ ∀ (J : F) (H' : Heap), M [] H' → ∀ (b :
 Nat) (H'_1 : Heap), New H' b (.cells ⟨[.pointer (some d), .slice none 0 0]⟩ 167) H'_1 → cH 91 ⟨[.pointer (some ⟨b, 0, none⟩), .string s, .int .i64 n_4, .int .u64 n_3]⟩ H'_1 fun v H' => ∃ s_1 a n_6 c
 n_7 b_1, v = .tuple ⟨[.string s_1, .slice a n_6 c, .int .i64 n_7, .bool b_1]⟩ ∧ ∃ (M : IV), brB (!b_1) (R (.tuple ⟨[.int .i64 0, .slice none 0 0, .slice none 0 0]⟩) H') (brB (n_7 !=
 (↑(ByteArray.size s) : Int)) (R (.tuple ⟨[.int .i64 0, .slice none 0 0, .slice none 0 0]⟩) H') (M [] H')) ∧ ∀ (J : F) (H' : Heap), M [] H' → cH 90 ⟨[.string s_1, .int .i64 0]⟩ H' fun v H' => ∃ n_8
 n_9 n_10, v = .tuple ⟨[.int .u64 n_8, .int .i64 n_9, .int .i64 n_10]⟩ ∧ brB (n_10 != 0) (R (.tuple ⟨[.int .i64 0, .slice none 0 0, .slice none 0 0]⟩) H') (∀ (b_2 : Nat) (H'_2 : Heap), New H' b_2
 (.cells ⟨[]⟩ 91) H'_2 → ∃ (I : IV) (μ : MU), I [.int .i64 n_9, .slice (some ⟨b_2, 0, none⟩) 0 0, .int .u64 0] H'_2 ∧ ∀ (J : F) (n_11 : Int) (a_3 : Option Addr) (n_12 c_1 : Nat) (n_13 : Int) (H' :
 Heap), I [.int .i64 n_11, .slice a_3 n_12 c_1, .int .u64 n_13] H' → brB (decide (n_13 < n_8)) (∃ (M : IV), (cH 67 ⟨[.string s_1, .int .i64 n_11]⟩ H' fun v H' => ∃ s n n_14, v = .tuple ⟨[.string s,
 .int .i64 n, .int .i64 n_14]⟩ ∧ cH 90 ⟨[.string s_1, .int .i64 n]⟩ H' fun v H' => ∃ n n_15 n_16, v = .tuple ⟨[.int .u64 n, .int .i64 n_15, .int .i64 n_16]⟩ ∧ ∃ (M_1 : IV), (∃ (M : IV), brB (n_14 !=
 0) (M [.bool true] H') (brB (n_16 != 0) (M [.bool true] H') (cB 36 [.string s] H' fun b H' => brB (!b) (M [.bool true] H') (brB (decide ((↑n_12 : Int) > 0)) (ix a_3 (IntKind.wrap .i64 ((↑n_12 : Int)
 - 1)) n_12 fun ad => (∃ s_2, lD 9 H' (Addr.add ad (Int.toNat (IntKind.wrap .i64 ((↑n_12 : Int) - 1)) * 3)) (.string s_2) ∧ M [.bool (Op.bytesLess (ByteArray.toList s) (ByteArray.toList s_2) ||
 ByteArray.toList s == ByteArray.toList s_2)] H')) (M [.bool false] H')))) ∧ ∀ (J : F) (b : Bool) (H' : Heap), M [.bool b] H' → brB b (R (.tuple ⟨[.int .i64 0, .slice none 0 0, .slice none 0 0]⟩) H')
 (M_1 [] H')) ∧ ∀ (J : F) (H' : Heap), M_1 [] H' → cH 91 ⟨[.pointer (some ⟨b, 0, none⟩), .string s_1, .int .i64 n_15, .int .u64 n]⟩ H' fun v H' => ∃ s_2 a n c n_17 b, v = .tuple ⟨[.string s_2, .slice
 a n c, .int .i64 n_17, .bool b]⟩ ∧ brB (!b) (R (.tuple ⟨[.int .i64 0, .slice none 0 0, .slice none 0 0]⟩) H') (∀ (b : Nat) (H'_3 : Heap), New H' b (.cells ⟨[.string s, .string s_2, .slice a n c]⟩
 91) H'_3 → SemWp Tryz.prog (Builtin.append_ ⟨[86, 86]⟩ 86 ⟨[.slice a_3 n_12 c_1, .slice (some ⟨b, 0, none⟩) 1 1]⟩) H'_3 fun v H' => ∃ a n c, v = .slice a n c ∧ M [.int .i64 n_17, .slice a n c] H'))
 ∧ ∀ (J : F) (n : Int) (a : Option Addr) (n_14 c : Nat) (H'_3 : Heap), M [.int .i64 n, .slice a n_14 c] H'_3 → I [.int .i64 n, .slice a n_14 c, .int .u64 (IntKind.wrap .u64 (n_13 + 1))] H'_3 ∧ μ
 [.int .i64 n, .slice a n_14 c, .int .u64 (IntKind.wrap .u64 (n_13 + 1))] H'_3 < μ [.int .i64 n_11, .slice a_3 n_12 c_1, .int .u64 n_13] H') (brB (n_11 != (↑(ByteArray.size s_1) : Int)) (R (.tuple
 ⟨[.int .i64 0, .slice none 0 0, .slice none 0 0]⟩) H') (R (.tuple ⟨[.int .i64 (IntKind.wrap .i64 n), .slice a_3 n_12 c_1, .slice a n_6 c]⟩) H')))) : CallH Tryz.prog 51 (List.toArray [.pointer (some
 d), .int .i64 g]) H R := vc_call (annOf [([1, 1, 1, 1], .cut []), ([0, 1, 1, 1, 1], .cut [(80, .one .bool)]), ([1, 1, 1, 1, 1, 1, 1], .cut []), ([0, 1, 0, 1, 1, 1, 1, 1, 1, 1, 1, 1, 1, 1], .cut
 [(10, .one (.int .i64)), (21, .one .slice), (22, .one (.int .u64))]), ([1, 0, 0, 1, 0, 1, 1, 1, 1, 1, 1, 1, 1, 1, 1, 1], .cut [(10, .one (.int .i64)), (21, .one .slice)]), ([1, 1, 0, 0, 1, 0, 0, 1,
 0, 1, 1, 1, 1, 1, 1, 1, 1, 1, 1, 1], .cut []), ([0, 1, 1, 0, 0, 1, 0, 0, 1, 0, 1, 1, 1, 1, 1, 1, 1, 1, 1, 1, 1], .cut [(156, .one .bool)])]) followsAll Tryz.func51 rfl Tryz.ntmps51 rfl rfl (Eq.mpr
 (by kernel_rfl) h)
theorem vcD_wal_Encode_1 (a0 : Addr) (a1 : Addr) (H : Heap) (R : Value → Heap → Prop) (h : ∃ n, lD 28 H a0 (.int .i64 n) ∧ brB (n != 0) (∃ H', sT 9 H a1 (.string { data := #[] }) H' ∧ R (.tuple
 ⟨[]⟩) H') (R (.tuple ⟨[]⟩) H)) : CallDH Tryz.prog 52 (List.toArray [.pointer (some a0), .pointer (some a1)]) H R := vc_callD (annOf []) followsAll Tryz.func52 rfl Tryz.ntmps52 rfl rfl (Eq.mpr (by
 kernel_rfl) h)
abbrev fn_wal_numbers : Nat := 53
theorem vc_wal_numbers (l_a : Option Addr) (l_n : Nat) (l_c : Nat) (H : Heap) (R : Value → Heap → Prop) (h : ∀ (b : Nat) (H' : Heap), New H b (.cells ⟨[.pointer none, .slice none 0 0]⟩ 67) H' → ∃ (I
 : IV) (μ : MU), I [.int .i64 0] H' ∧ ∀ (J : F) (n : Int) (H' : Heap), I [.int .i64 n] H' → brB (decide (n < (↑l_n : Int))) (ix l_a n l_n fun ad => (∃ n_1, lD 3 H' (Addr.add ad (Int.toNat n * 1))
 (.int .i64 n_1) ∧ cS 92 [.int .u64 (IntKind.wrap .u64 n_1)] H' fun s H'_1 => cH 26 ⟨[.pointer (some ⟨b, 0, none⟩), .string s]⟩ H'_1 fun v H'_2 => ∃ n_2 v_1, v = .tuple ⟨[.int .i64 n_2, v_1]⟩ ∧ I
 [.int .i64 (IntKind.wrap .i64 (n + 1))] H'_2 ∧ μ [.int .i64 (IntKind.wrap .i64 (n + 1))] H'_2 < μ [.int .i64 n] H')) (cS 29 [.pointer (some ⟨b, 0, none⟩)] H' fun s H' => R (.string s) H')) : CallH
 Tryz.prog 53 (List.toArray [.slice l_a l_n l_c]) H R := vc_call (annOf [([0, 1, 0, 1, 1], .cut [(8, .one (.int .i64))])]) followsAll Tryz.func53 rfl Tryz.ntmps53 rfl rfl (Eq.mpr (by kernel_rfl) h)
abbrev fn_strings_Builder_copyCheck : Nat := 54
theorem vc_strings_Builder_copyCheck (b : Addr) (H : Heap) (R : Value → Heap → Prop) (h : ∃ a, lD 64 H b (.pointer a) ∧ brB (Option.isNone a) (SemWp Tryz.prog (convert 64 171 (.pointer (some b))) H
 fun v H' => ∃ v_1, v = v_1 ∧ ExtH Tryz.prog 93 ⟨[v_1]⟩ H' fun v H' => ∃ v_2, v = v_2 ∧ SemWp Tryz.prog (convert 171 64 v_2) H' fun v H' => ∃ a, v = .pointer a ∧ ∃ H'_1, sT 64 H' b (.pointer a) H'_1
 ∧ R (.tuple ⟨[]⟩) H'_1) (∃ a, lD 64 H b (.pointer a) ∧ ∃ r, RdA Tryz.prog (eqSem BinOp.neq 64 (Operand.tmp 17) (Operand.tmp 18) (.pointer a) (.pointer (some b))) (.bool r) ∧ brB r False (R (.tuple
 ⟨[]⟩) H))) : CallH Tryz.prog 54 (List.toArray [.pointer (some b)]) H R := vc_call (annOf []) followsAll Tryz.func54 rfl Tryz.ntmps54 rfl rfl (Eq.mpr (by kernel_rfl) h)
abbrev fn_frame_Crc : Nat := 55
theorem vc_frame_Crc (s : ByteArray) (H : Heap) (R : Value → Heap → Prop) (h : SemWp Tryz.prog (convert 9 65 (.string s)) H fun v H' => ∃ a n c, v = .slice a n c ∧ ∃ (I : IV) (μ : MU), I [.int .u16
 65535, .int .i64 0] H' ∧ ∀ (J : F) (n_1 n_2 : Int) (H' : Heap), I [.int .u16 n_1, .int .i64 n_2] H' → brB (decide (n_2 < (↑n : Int))) (ix a n_2 n fun ad => (∃ n, lD 5 H' (Addr.add ad (Int.toNat n_2
 * 1)) (.int .u8 n) ∧ chk (decide (0 ≤ IntKind.wrap .u16 (↑(BitVec.toNat (BitVec.ofInt 16 (Int.fdiv n_1 (2 ^ 12)) ^^^ BitVec.ofInt 16 (IntKind.wrap .u16 (Int.fdiv n (2 ^ 4))))) : Int) ∧ IntKind.wrap
 .u16 (↑(BitVec.toNat (BitVec.ofInt 16 (Int.fdiv n_1 (2 ^ 12)) ^^^ BitVec.ofInt 16 (IntKind.wrap .u16 (Int.fdiv n (2 ^ 4))))) : Int) < (↑16 : Int))) (∃ n_3, lD 173 H' (Addr.add ⟨0, 0, none⟩
 (Int.toNat (IntKind.wrap .u16 (↑(BitVec.toNat (BitVec.ofInt 16 (Int.fdiv n_1 (2 ^ 12)) ^^^ BitVec.ofInt 16 (IntKind.wrap .u16 (Int.fdiv n (2 ^ 4))))) : Int)) * 1)) (.int .u16 n_3) ∧ chk (decide (0 ≤
 IntKind.wrap .u16 (↑(BitVec.toNat (BitVec.ofInt 16 (Int.fdiv (IntKind.wrap .u16 (↑(BitVec.toNat (BitVec.ofInt 16 (IntKind.wrap .u16 (n_1 * 2 ^ 4)) ^^^ BitVec.ofInt 16 n_3)) : Int)) (2 ^ 12)) ^^^
 BitVec.ofInt 16 (IntKind.wrap .u16 (IntKind.wrap .u8 (↑(BitVec.toNat (BitVec.ofInt 8 n &&& BitVec.ofInt 8 15)) : Int))))) : Int) ∧ IntKind.wrap .u16 (↑(BitVec.toNat (BitVec.ofInt 16 (Int.fdiv
 (IntKind.wrap .u16 (↑(BitVec.toNat (BitVec.ofInt 16 (IntKind.wrap .u16 (n_1 * 2 ^ 4)) ^^^ BitVec.ofInt 16 n_3)) : Int)) (2 ^ 12)) ^^^ BitVec.ofInt 16 (IntKind.wrap .u16 (IntKind.wrap .u8
 (↑(BitVec.toNat (BitVec.ofInt 8 n &&& BitVec.ofInt 8 15)) : Int))))) : Int) < (↑16 : Int))) (∃ n_4, lD 173 H' (Addr.add ⟨0, 0, none⟩ (Int.toNat (IntKind.wrap .u16 (↑(BitVec.toNat (BitVec.ofInt 16
 (Int.fdiv (IntKind.wrap .u16 (↑(BitVec.toNat (BitVec.ofInt 16 (IntKind.wrap .u16 (n_1 * 2 ^ 4)) ^^^ BitVec.ofInt 16 n_3)) : Int)) (2 ^ 12)) ^^^ BitVec.ofInt 16 (IntKind.wrap .u16 (IntKind.wrap .u8
 (↑(BitVec.toNat (BitVec.ofInt 8 n &&& BitVec.ofInt 8 15)) : Int))))) : Int)) * 1)) (.int .u16 n_4) ∧ I [.int .u16 (IntKind.wrap .u16 (↑(BitVec.toNat (BitVec.ofInt 16 (IntKind.wrap .u16 (IntKind.wrap
 .u16 (↑(BitVec.toNat (BitVec.ofInt 16 (IntKind.wrap .u16 (n_1 * 2 ^ 4)) ^^^ BitVec.ofInt 16 n_3)) : Int) * 2 ^ 4)) ^^^ BitVec.ofInt 16 n_4)) : Int)), .int .i64 (IntKind.wrap .i64 (n_2 + 1))] H' ∧ μ
 [.int .u16 (IntKind.wrap .u16 (↑(BitVec.toNat (BitVec.ofInt 16 (IntKind.wrap .u16 (IntKind.wrap .u16 (↑(BitVec.toNat (BitVec.ofInt 16 (IntKind.wrap .u16 (n_1 * 2 ^ 4)) ^^^ BitVec.ofInt 16 n_3)) :
 Int) * 2 ^ 4)) ^^^ BitVec.ofInt 16 n_4)) : Int)), .int .i64 (IntKind.wrap .i64 (n_2 + 1))] H' < μ [.int .u16 n_1, .int .i64 n_2] H')))) (R (.int .i64 (IntKind.wrap .i64 n_1)) H')) : CallH Tryz.prog
 55 (List.toArray [.string s]) H R := vc_call (annOf [([0, 1, 0, 1, 1], .cut [(3, .one (.int .u16)), (9, .one (.int .i64))])]) followsAll Tryz.func55 rfl Tryz.ntmps55 rfl rfl (Eq.mpr (by kernel_rfl)
 h)
abbrev fn_zig_Text : Nat := 56
theorem vc_zig_Text (s : ByteArray) (H : Heap) (R : Value → Heap → Prop) (h : cS 92 [.int .u64 (IntKind.wrap .u64 (↑(ByteArray.size s) : Int))] H fun s_1 H' => chk (decide (ByteArray.size s_1 +
 ByteArray.size s ≤ 9223372036854775807)) (R (.string (s_1 ++ s)) H')) : CallH Tryz.prog 56 (List.toArray [.string s]) H R := vc_call (annOf []) followsAll Tryz.func56 rfl Tryz.ntmps56 rfl rfl
 (Eq.mpr (by kernel_rfl) h)
abbrev fn_ref11_fine : Nat := 57
theorem vc_ref11_fine (r_0 : Int) (r_1_a : Option Addr) (r_1_n : Nat) (r_1_c : Nat) (r_2_a : Option Addr) (r_2_n : Nat) (r_2_c : Nat) (r_3_a : Option Addr) (r_3_n : Nat) (r_3_c : Nat) (r_4 : Int) (H
 : Heap) (R : Value → Heap → Prop) (h : ∀ (b : Nat) (H' : Heap), New H b (.cells ⟨[.int .i64 r_0, .slice r_1_a r_1_n r_1_c, .slice r_2_a r_2_n r_2_c, .slice r_3_a r_3_n r_3_c, .int .i64 r_4]⟩ 77) H'
 → ∃ (M : IV), (∃ (M_1 : IV), (∃ n, lD 3 H' ⟨b, 0, none⟩ (.int .i64 n) ∧ brB (decide (n < 0)) (M_1 [.bool true] H') (∃ n, lD 3 H' ⟨b, 0, none⟩ (.int .i64 n) ∧ brB (decide (n > 3)) (M_1 [.bool true]
 H') (∃ n, lD 3 H' ⟨b, 0, none⟩ (.int .i64 n) ∧ brB (n != 0) (∃ a n c, lD 35 H' ⟨b, 1, none⟩ (.slice a n c) ∧ brB (decide ((↑n : Int) > 0)) (M_1 [.bool true] H') (∃ n, lD 3 H' ⟨b, 0, none⟩ (.int .i64
 n) ∧ brB (n != 1) (∃ a n c, lD 36 H' ⟨b, 2, none⟩ (.slice a n c) ∧ brB (decide ((↑n : Int) > 0)) (M_1 [.bool true] H') (∃ n, lD 3 H' ⟨b, 0, none⟩ (.int .i64 n) ∧ brB (n != 2) (∃ a n c, lD 37 H' ⟨b,
 3, none⟩ (.slice a n c) ∧ brB (decide ((↑n : Int) > 0)) (M_1 [.bool true] H') (∃ n, lD 3 H' ⟨b, 0, none⟩ (.int .i64 n) ∧ brB (n != 3) (∃ n, lD 3 H' ⟨b, 4, none⟩ (.int .i64 n) ∧ brB (n != 0) (M_1
 [.bool true] H') (∃ n, lD 3 H' ⟨b, 4, none⟩ (.int .i64 n) ∧ cB 94 [.int .i64 n] H' fun b_1 H' => brB (!b_1) (M_1 [.bool true] H') (∃ a n c, lD 36 H' ⟨b, 2, none⟩ (.slice a n c) ∧ brB (decide ((↑n :
 Int) > 5000)) (M_1 [.bool true] H') (∃ a n c, lD 37 H' ⟨b, 3, none⟩ (.slice a n c) ∧ M_1 [.bool (decide ((↑n : Int) > 5000))] H')))) (∃ n, lD 3 H' ⟨b, 4, none⟩ (.int .i64 n) ∧ cB 94 [.int .i64 n] H'
 fun b_1 H' => brB (!b_1) (M_1 [.bool true] H') (∃ a n c, lD 36 H' ⟨b, 2, none⟩ (.slice a n c) ∧ brB (decide ((↑n : Int) > 5000)) (M_1 [.bool true] H') (∃ a n c, lD 37 H' ⟨b, 3, none⟩ (.slice a n c)
 ∧ M_1 [.bool (decide ((↑n : Int) > 5000))] H'))))) (∃ n, lD 3 H' ⟨b, 0, none⟩ (.int .i64 n) ∧ brB (n != 3) (∃ n, lD 3 H' ⟨b, 4, none⟩ (.int .i64 n) ∧ brB (n != 0) (M_1 [.bool true] H') (∃ n, lD 3 H'
 ⟨b, 4, none⟩ (.int .i64 n) ∧ cB 94 [.int .i64 n] H' fun b_1 H' => brB (!b_1) (M_1 [.bool true] H') (∃ a n c, lD 36 H' ⟨b, 2, none⟩ (.slice a n c) ∧ brB (decide ((↑n : Int) > 5000)) (M_1 [.bool true]
 H') (∃ a n c, lD 37 H' ⟨b, 3, none⟩ (.slice a n c) ∧ M_1 [.bool (decide ((↑n : Int) > 5000))] H')))) (∃ n, lD 3 H' ⟨b, 4, none⟩ (.int .i64 n) ∧ cB 94 [.int .i64 n] H' fun b_1 H' => brB (!b_1) (M_1
 [.bool true] H') (∃ a n c, lD 36 H' ⟨b, 2, none⟩ (.slice a n c) ∧ brB (decide ((↑n : Int) > 5000)) (M_1 [.bool true] H') (∃ a n c, lD 37 H' ⟨b, 3, none⟩ (.slice a n c) ∧ M_1 [.bool (decide ((↑n :
 Int) > 5000))] H')))))) (∃ n, lD 3 H' ⟨b, 0, none⟩ (.int .i64 n) ∧ brB (n != 2) (∃ a n c, lD 37 H' ⟨b, 3, none⟩ (.slice a n c) ∧ brB (decide ((↑n : Int) > 0)) (M_1 [.bool true] H') (∃ n, lD 3 H' ⟨b,
 0, none⟩ (.int .i64 n) ∧ brB (n != 3) (∃ n, lD 3 H' ⟨b, 4, none⟩ (.int .i64 n) ∧ brB (n != 0) (M_1 [.bool true] H') (∃ n, lD 3 H' ⟨b, 4, none⟩ (.int .i64 n) ∧ cB 94 [.int .i64 n] H' fun b_1 H' =>
 brB (!b_1) (M_1 [.bool true] H') (∃ a n c, lD 36 H' ⟨b, 2, none⟩ (.slice a n c) ∧ brB (decide ((↑n : Int) > 5000)) (M_1 [.bool true] H') (∃ a n c, lD 37 H' ⟨b, 3, none⟩ (.slice a n c) ∧ M_1 [.bool
 (decide ((↑n : Int) > 5000))] H')))) (∃ n, lD 3 H' ⟨b, 4, none⟩ (.int .i64 n) ∧ cB 94 [.int .i64 n] H' fun b_1 H' => brB (!b_1) (M_1 [.bool true] H') (∃ a n c, lD 36 H' ⟨b, 2, none⟩ (.slice a n c) ∧
 brB (decide ((↑n : Int) > 5000)) (M_1 [.bool true] H') (∃ a n c, lD 37 H' ⟨b, 3, none⟩ (.slice a n c) ∧ M_1 [.bool (decide ((↑n : Int) > 5000))] H'))))) (∃ n, lD 3 H' ⟨b, 0, none⟩ (.int .i64 n) ∧
 brB (n != 3) (∃ n, lD 3 H' ⟨b, 4, none⟩ (.int .i64 n) ∧ brB (n != 0) (M_1 [.bool true] H') (∃ n, lD 3 H' ⟨b, 4, none⟩ (.int .i64 n) ∧ cB 94 [.int .i64 n] H' fun b_1 H' => brB (!b_1) (M_1 [.bool
 true] H') (∃ a n c, lD 36 H' ⟨b, 2, none⟩ (.slice a n c) ∧ brB (decide ((↑n : Int) > 5000)) (M_1 [.bool true] H') (∃ a n c, lD 37 H' ⟨b, 3, none⟩ (.slice a n c) ∧ M_1 [.bool (decide ((↑n : Int) >
 5000))] H')))) (∃ n, lD 3 H' ⟨b, 4, none⟩ (.int .i64 n) ∧ cB 94 [.int .i64 n] H' fun b_1 H' => brB (!b_1) (M_1 [.bool true] H') (∃ a n c, lD 36 H' ⟨b, 2, none⟩ (.slice a n c) ∧ brB (decide ((↑n :
 Int) > 5000)) (M_1 [.bool true] H') (∃ a n c, lD 37 H' ⟨b, 3, none⟩ (.slice a n c) ∧ M_1 [.bool (decide ((↑n : Int) > 5000))] H'))))))) (∃ n, lD 3 H' ⟨b, 0, none⟩ (.int .i64 n) ∧ brB (n != 1) (∃ a n
 c, lD 36 H' ⟨b, 2, none⟩ (.slice a n c) ∧ brB (decide ((↑n : Int) > 0)) (M_1 [.bool true] H') (∃ n, lD 3 H' ⟨b, 0, none⟩ (.int .i64 n) ∧ brB (n != 2) (∃ a n c, lD 37 H' ⟨b, 3, none⟩ (.slice a n c) ∧
 brB (decide ((↑n : Int) > 0)) (M_1 [.bool true] H') (∃ n, lD 3 H' ⟨b, 0, none⟩ (.int .i64 n) ∧ brB (n != 3) (∃ n, lD 3 H' ⟨b, 4, none⟩ (.int .i64 n) ∧ brB (n != 0) (M_1 [.bool true] H') (∃ n, lD 3
 H' ⟨b, 4, none⟩ (.int .i64 n) ∧ cB 94 [.int .i64 n] H' fun b_1 H' => brB (!b_1) (M_1 [.bool true] H') (∃ a n c, lD 36 H' ⟨b, 2, none⟩ (.slice a n c) ∧ brB (decide ((↑n : Int) > 5000)) (M_1 [.bool
 true] H') (∃ a n c, lD 37 H' ⟨b, 3, none⟩ (.slice a n c) ∧ M_1 [.bool (decide ((↑n : Int) > 5000))] H')))) (∃ n, lD 3 H' ⟨b, 4, none⟩ (.int .i64 n) ∧ cB 94 [.int .i64 n] H' fun b_1 H' => brB (!b_1)
 (M_1 [.bool true] H') (∃ a n c, lD 36 H' ⟨b, 2, none⟩ (.slice a n c) ∧ brB (decide ((↑n : Int) > 5000)) (M_1 [.bool true] H') (∃ a n c, lD 37 H' ⟨b, 3, none⟩ (.slice a n c) ∧ M_1 [.bool (decide ((↑n
 : Int) > 5000))] H'))))) (∃ n, lD 3 H' ⟨b, 0, none⟩ (.int .i64 n) ∧ brB (n != 3) (∃ n, lD 3 H' ⟨b, 4, none⟩ (.int .i64 n) ∧ brB (n != 0) (M_1 [.bool true] H') (∃ n, lD 3 H' ⟨b, 4, none⟩ (.int .i64
 n) ∧ cB 94 [.int .i64 n] H' fun b_1 H' => brB (!b_1) (M_1 [.bool true] H') (∃ a n c, lD 36 H' ⟨b, 2, none⟩ (.slice a n c) ∧ brB (decide ((↑n : Int) > 5000)) (M_1 [.bool true] H') (∃ a n c, lD 37 H'
 ⟨b, 3, none⟩ (.slice a n c) ∧ M_1 [.bool (decide ((↑n : Int) > 5000))] H')))) (∃ n, lD 3 H' ⟨b, 4, none⟩ (.int .i64 n) ∧ cB 94 [.int .i64 n] H' fun b_1 H' => brB (!b_1) (M_1 [.bool true] H') (∃ a n
 c, lD 36 H' ⟨b, 2, none⟩ (.slice a n c) ∧ brB (decide ((↑n : Int) > 5000)) (M_1 [.bool true] H') (∃ a n c, lD 37 H' ⟨b, 3, none⟩ (.slice a n c) ∧ M_1 [.bool (decide ((↑n : Int) > 5000))] H')))))) (∃
 n, lD 3 H' ⟨b, 0, none⟩ (.int .i64 n) ∧ brB (n != 2) (∃ a n c, lD 37 H' ⟨b, 3, none⟩ (.slice a n c) ∧ brB (decide ((↑n : Int) > 0)) (M_1 [.bool true] H') (∃ n, lD 3 H' ⟨b, 0, none⟩ (.int .i64 n) ∧
 brB (n != 3) (∃ n, lD 3 H' ⟨b, 4, none⟩ (.int .i64 n) ∧ brB (n != 0) (M_1 [.bool true] H') (∃ n, lD 3 H' ⟨b, 4, none⟩ (.int .i64 n) ∧ cB 94 [.int .i64 n] H' fun b_1 H' => brB (!b_1) (M_1 [.bool
 true] H') (∃ a n c, lD 36 H' ⟨b, 2, none⟩ (.slice a n c) ∧ brB (decide ((↑n : Int) > 5000)) (M_1 [.bool true] H') (∃ a n c, lD 37 H' ⟨b, 3, none⟩ (.slice a n c) ∧ M_1 [.bool (decide ((↑n : Int) >
 5000))] H')))) (∃ n, lD 3 H' ⟨b, 4, none⟩ (.int .i64 n) ∧ cB 94 [.int .i64 n] H' fun b_1 H' => brB (!b_1) (M_1 [.bool true] H') (∃ a n c, lD 36 H' ⟨b, 2, none⟩ (.slice a n c) ∧ brB (decide ((↑n :
 Int) > 5000)) (M_1 [.bool true] H') (∃ a n c, lD 37 H' ⟨b, 3, none⟩ (.slice a n c) ∧ M_1 [.bool (decide ((↑n : Int) > 5000))] H'))))) (∃ n, lD 3 H' ⟨b, 0, none⟩ (.int .i64 n) ∧ brB (n != 3) (∃ n, lD
 3 H' ⟨b, 4, none⟩ (.int .i64 n) ∧ brB (n != 0) (M_1 [.bool true] H') (∃ n, lD 3 H' ⟨b, 4, none⟩ (.int .i64 n) ∧ cB 94 [.int .i64 n] H' fun b_1 H' => brB (!b_1) (M_1 [.bool true] H') (∃ a n c, lD 36
 H' ⟨b, 2, none⟩ (.slice a n c) ∧ brB (decide ((↑n : Int) > 5000)) (M_1 [.bool true] H') (∃ a n c, lD 37 H' ⟨b, 3, none⟩ (.slice a n c) ∧ M_1 [.bool (decide ((↑n : Int) > 5000))] H')))) (∃ n, lD 3 H'
 ⟨b, 4, none⟩ (.int .i64 n) ∧ cB 94 [.int .i64 n] H' fun b_1 H' => brB (!b_1) (M_1 [.bool true] H') (∃ a n c, lD 36 H' ⟨b, 2, none⟩ (.slice a n c) ∧ brB (decide ((↑n : Int) > 5000)) (M_1 [.bool true]
 H') (∃ a n c, lD 37 H' ⟨b, 3, none⟩ (.slice a n c) ∧ M_1 [.bool (decide ((↑n : Int) > 5000))] H'))))))))) ∧ ∀ (J : F) (b : Bool) (H' : Heap), M_1 [.bool b] H' → brB b (R (.bool false) H') (M [] H'))
 ∧ ∀ (J : F) (H' : Heap), M [] H' → ∃ (I : IV) (μ : MU), I [.int .i64 0] H' ∧ ∀ (J : F) (n : Int) (H' : Heap), I [.int .i64 n] H' → ∃ a n_1 c, lD 36 H' ⟨b, 2, none⟩ (.slice a n_1 c) ∧ brB (decide (n
 < (↑n_1 : Int))) (∃ a n_2 c, lD 36 H' ⟨b, 2, none⟩ (.slice a n_2 c) ∧ ix a n n_2 fun ad => (∃ n_3, lD 3 H' (Addr.add ad (Int.toNat n * 3)) (.int .i64 n_3) ∧ cB 94 [.int .i64 n_3] H' fun b_1 H'_1 =>
 brB (!b_1) (R (.bool false) H'_1) (∃ a n_4 c, lD 36 H'_1 ⟨b, 2, none⟩ (.slice a n_4 c) ∧ ix a n n_4 fun ad => (∃ n_5, lD 3 H'_1 (Addr.add (Addr.add ad (Int.toNat n * 3)) 1) (.int .i64 n_5) ∧ cB 95
 [.int .i64 n_5] H'_1 fun b H'_2 => brB (!b) (R (.bool false) H'_2) (I [.int .i64 (IntKind.wrap .i64 (n + 1))] H'_2 ∧ μ [.int .i64 (IntKind.wrap .i64 (n + 1))] H'_2 < μ [.int .i64 n] H'))))) (∃ (I :
 IV) (μ : MU), I [.int .i64 0] H' ∧ ∀ (J : F) (n : Int) (H' : Heap), I [.int .i64 n] H' → ∃ a n_2 c, lD 37 H' ⟨b, 3, none⟩ (.slice a n_2 c) ∧ brB (decide (n < (↑n_2 : Int))) (∃ (M : IV), (∃ a n_3 c,
 lD 37 H' ⟨b, 3, none⟩ (.slice a n_3 c) ∧ ix a n n_3 fun ad => (∃ n_4 n_5 n_6, lD 115 H' (Addr.add ad (Int.toNat n * 3)) (.agg ⟨[.int .i64 n_4, .int .i64 n_5, .int .i64 n_6]⟩) ∧ ∀ (b : Nat) (H'_1 :
 Heap), New H' b (.cells ⟨[.int .i64 0, .int .i64 0, .int .i64 0]⟩ 115) H'_1 → ∃ H', sT 115 H'_1 ⟨b, 0, none⟩ (.agg ⟨[.int .i64 n_4, .int .i64 n_5, .int .i64 n_6]⟩) H' ∧ ∃ n, lD 3 H' ⟨b, 0, none⟩
 (.int .i64 n) ∧ cB 95 [.int .i64 n] H' fun b_1 H' => brB (!b_1) (R (.bool false) H') (∃ n, lD 3 H' ⟨b, 1, none⟩ (.int .i64 n) ∧ cB 94 [.int .i64 n] H' fun b_2 H' => brB (!b_2) (R (.bool false) H')
 (∃ n, lD 3 H' ⟨b, 2, none⟩ (.int .i64 n) ∧ cB 94 [.int .i64 n] H' fun b_3 H' => brB (!b_3) (R (.bool false) H') (∃ n, lD 3 H' ⟨b, 1, none⟩ (.int .i64 n) ∧ ∃ n_7, lD 3 H' ⟨b, 2, none⟩ (.int .i64 n_7)
 ∧ brB (decide (n ≥ n_7)) (R (.bool false) H') (M [] H')))))) ∧ ∀ (J : F) (H'_1 : Heap), M [] H'_1 → I [.int .i64 (IntKind.wrap .i64 (n + 1))] H'_1 ∧ μ [.int .i64 (IntKind.wrap .i64 (n + 1))] H'_1 <
 μ [.int .i64 n] H') (R (.bool true) H'))) : CallH Tryz.prog 57 (List.toArray [.agg #[.int .i64 r_0, .slice r_1_a r_1_n r_1_c, .slice r_2_a r_2_n r_2_c, .slice r_3_a r_3_n r_3_c, .int .i64 r_4]]) H R
 := vc_call (annOf [([1], .cut []), ([0, 1], .cut [(74, .one .bool)]), ([0, 1, 0, 1, 1], .cut [(3, .one (.int .i64))]), ([0, 1, 0, 1, 1, 1], .cut [(4, .one (.int .i64))]), ([1, 0, 0, 1, 0, 1, 1, 1],
 .cut [])]) followsAll Tryz.func57 rfl Tryz.ntmps57 rfl rfl (Eq.mpr (by kernel_rfl) h)
abbrev fn_ref11_u : Nat := 58
theorem vc_ref11_u (n : Int) (H : Heap) (R : Value → Heap → Prop) (h : cS 96 [.int .u64 (IntKind.wrap .u64 n)] H fun s H' => R (.string s) H') : CallH Tryz.prog 58 (List.toArray [.int .i64 n]) H R
 := vc_call (annOf []) followsAll Tryz.func58 rfl Tryz.ntmps58 rfl rfl (Eq.mpr (by kernel_rfl) h)
abbrev fn_ref04_Print : Nat := 59
theorem vc_ref04_Print (l_a : Option Addr) (l_n : Nat) (l_c : Nat) (H : Heap) (R : Value → Heap → Prop) (h : cI 97 [.slice l_a l_n l_c] H fun n H' => brB (n != 0) (R (.tuple ⟨[.string { data := #[]
 }, .int .i64 n]⟩) H') (∃ (I : IV) (μ : MU), I [.string { data := #[(123 : UInt8)] }, .int .i64 0] H' ∧ ∀ (J : F) (s : ByteArray) (n : Int) (H' : Heap), I [.string s, .int .i64 n] H' → brB (decide (n
 < (↑l_n : Int))) (brB (decide (n > 0)) (chk (decide (ByteArray.size s + 1 ≤ 9223372036854775807)) (ix l_a n l_n fun ad => (∃ s_1, lD 9 H' (Addr.add ad (Int.toNat n * 2)) (.string s_1) ∧ chk (decide
 (ByteArray.size (s ++ { data := #[(44 : UInt8)] }) + ByteArray.size s_1 ≤ 9223372036854775807)) (chk (decide (ByteArray.size (s ++ { data := #[(44 : UInt8)] } ++ s_1) + 1 ≤ 9223372036854775807))
 (exSome l_a fun ad_1 => chk (decide (0 ≤ n ∧ n < (↑l_n : Int))) (∃ s_2, lD 9 H' (Addr.add (Addr.add ad_1 (Int.toNat n * 2)) 1) (.string s_2) ∧ cS 98 [.string s_2] H' fun s_3 H'_1 => lD 9 H'_1
 (Addr.add ad (Int.toNat n * 2)) (.string s_1) ∧ chk (decide (ByteArray.size (s ++ { data := #[(44 : UInt8)] } ++ s_1 ++ { data := #[(61 : UInt8)] }) + ByteArray.size s_3 ≤ 9223372036854775807)) (I
 [.string (s ++ { data := #[(44 : UInt8)] } ++ s_1 ++ { data := #[(61 : UInt8)] } ++ s_3), .int .i64 (IntKind.wrap .i64 (n + 1))] H'_1 ∧ μ [.string (s ++ { data := #[(44 : UInt8)] } ++ s_1 ++ { data
 := #[(61 : UInt8)] } ++ s_3), .int .i64 (IntKind.wrap .i64 (n + 1))] H'_1 < μ [.string s, .int .i64 n] H'))))))) (ix l_a n l_n fun ad => (∃ s_1, lD 9 H' (Addr.add ad (Int.toNat n * 2)) (.string s_1)
 ∧ chk (decide (ByteArray.size s + ByteArray.size s_1 ≤ 9223372036854775807)) (chk (decide (ByteArray.size (s ++ s_1) + 1 ≤ 9223372036854775807)) (exSome l_a fun ad_1 => chk (decide (0 ≤ n ∧ n <
 (↑l_n : Int))) (∃ s_2, lD 9 H' (Addr.add (Addr.add ad_1 (Int.toNat n * 2)) 1) (.string s_2) ∧ cS 98 [.string s_2] H' fun s_3 H'_1 => lD 9 H'_1 (Addr.add ad (Int.toNat n * 2)) (.string s_1) ∧ chk
 (decide (ByteArray.size (s ++ s_1 ++ { data := #[(61 : UInt8)] }) + ByteArray.size s_3 ≤ 9223372036854775807)) (I [.string (s ++ s_1 ++ { data := #[(61 : UInt8)] } ++ s_3), .int .i64 (IntKind.wrap
 .i64 (n + 1))] H'_1 ∧ μ [.string (s ++ s_1 ++ { data := #[(61 : UInt8)] } ++ s_3), .int .i64 (IntKind.wrap .i64 (n + 1))] H'_1 < μ [.string s, .int .i64 n] H'))))))) (chk (decide (ByteArray.size s +
 1 ≤ 9223372036854775807)) (R (.tuple ⟨[.string (s ++ { data := #[(125 : UInt8)] }), .int .i64 0]⟩) H')))) : CallH Tryz.prog 59 (List.toArray [.slice l_a l_n l_c]) H R := vc_call (annOf [([0, 1, 0,
 1, 1, 1, 1], .cut [(5, .one .str), (6, .one (.int .i64))]), ([1, 0, 0, 1, 0, 0, 1, 0, 1, 1, 1, 1], .reg [0, 0, 0, 6, 14, 30, 63, 127, 0, 0, 768, 1792, 3840, 7936, 16383, 32767] (.quiet 0 (.quiet 1
 (.quiet 2 (.quiet 3 (.quiet 4 (.quiet 5 (.quiet 6 (.quiet 7 (.quiet 8 (.quiet 9 (.quiet 10 (.quiet 11 (.quiet 12 (.pick (.alt 13 (.quiet 14 (.quiet 15 .done)) .stop))))))))))))))))]) followsAll
 Tryz.func59 rfl Tryz.ntmps59 rfl rfl (Eq.mpr (by kernel_rfl) h)
abbrev fn_ref01_Text : Nat := 60
theorem vc_ref01_Text (s : ByteArray) (H : Heap) (R : Value → Heap → Prop) (h : cS 96 [.int .u64 (IntKind.wrap .u64 (↑(ByteArray.size s) : Int))] H fun s_1 H' => chk (decide (ByteArray.size s_1 +
 ByteArray.size s ≤ 9223372036854775807)) (R (.string (s_1 ++ s)) H')) : CallH Tryz.prog 60 (List.toArray [.string s]) H R := vc_call (annOf []) followsAll Tryz.func60 rfl Tryz.ntmps60 rfl rfl
 (Eq.mpr (by kernel_rfl) h)
abbrev fn_ref01_Int : Nat := 61
theorem vc_ref01_Int (n : Int) (H : Heap) (R : Value → Heap → Prop) (h : cH 99 ⟨[.int .i64 n]⟩ H fun v H' => ∃ n, v = .int .u64 n ∧ cS 96 [.int .u64 n] H' fun s H' => R (.string s) H') : CallH
 Tryz.prog 61 (List.toArray [.int .i64 n]) H R := vc_call (annOf []) followsAll Tryz.func61 rfl Tryz.ntmps61 rfl rfl (Eq.mpr (by kernel_rfl) h)
abbrev fn_ref08_Crc : Nat := 62
theorem vc_ref08_Crc (s : ByteArray) (H : Heap) (R : Value → Heap → Prop) (h : ∃ (I : IV) (μ : MU), I [.int .i64 65535, .int .i64 0] H ∧ ∀ (J : F) (n n_1 : Int) (H' : Heap), I [.int .i64 n, .int
 .i64 n_1] H' → brB (decide (n_1 < (↑(ByteArray.size s) : Int))) (chk (decide (0 ≤ n_1 ∧ n_1 < (↑(ByteArray.size s) : Int))) (∃ (I_1 : IV) (μ_1 : MU), I_1 [.int .i64 (IntKind.wrap .i64
 (↑(BitVec.toNat (BitVec.ofInt 64 n ^^^ BitVec.ofInt 64 (IntKind.wrap .i64 (IntKind.wrap .i64 (↑(atB s (Int.toNat n_1)) : Int) * 256)))) : Int)), .int .i64 0] H' ∧ ∀ (J : F) (n_2 n_3 : Int) (H'_1 :
 Heap), I_1 [.int .i64 n_2, .int .i64 n_3] H'_1 → brB (decide (n_3 < 8)) (brB (decide (IntKind.wrap .i64 (n_2 * 2) ≥ 65536)) (I_1 [.int .i64 (IntKind.wrap .i64 (↑(BitVec.toNat (BitVec.ofInt 64
 (IntKind.wrap .i64 (IntKind.wrap .i64 (n_2 * 2) - 65536)) ^^^ BitVec.ofInt 64 4129)) : Int)), .int .i64 (IntKind.wrap .i64 (n_3 + 1))] H'_1 ∧ μ_1 [.int .i64 (IntKind.wrap .i64 (↑(BitVec.toNat
 (BitVec.ofInt 64 (IntKind.wrap .i64 (IntKind.wrap .i64 (n_2 * 2) - 65536)) ^^^ BitVec.ofInt 64 4129)) : Int)), .int .i64 (IntKind.wrap .i64 (n_3 + 1))] H'_1 < μ_1 [.int .i64 n_2, .int .i64 n_3]
 H'_1) (I_1 [.int .i64 (IntKind.wrap .i64 (n_2 * 2)), .int .i64 (IntKind.wrap .i64 (n_3 + 1))] H'_1 ∧ μ_1 [.int .i64 (IntKind.wrap .i64 (n_2 * 2)), .int .i64 (IntKind.wrap .i64 (n_3 + 1))] H'_1 < μ_1
 [.int .i64 n_2, .int .i64 n_3] H'_1)) (I [.int .i64 n_2, .int .i64 (IntKind.wrap .i64 (n_1 + 1))] H'_1 ∧ μ [.int .i64 n_2, .int .i64 (IntKind.wrap .i64 (n_1 + 1))] H'_1 < μ [.int .i64 n, .int .i64
 n_1] H'))) (R (.int .i64 n) H')) : CallH Tryz.prog 62 (List.toArray [.string s]) H R := vc_call (annOf [([0, 1, 0, 1, 1], .cut [(3, .one (.int .i64)), (4, .one (.int .i64))]), ([0, 1, 1, 0, 0, 1, 0,
 0, 1, 0, 1, 1], .cut [(3, .one (.int .i64)), (5, .one (.int .i64))])]) followsAll Tryz.func62 rfl Tryz.ntmps62 rfl rfl (Eq.mpr (by kernel_rfl) h)
theorem vc_maps_Clone_map_string_string_string_string_ (m : Option Nat) (H : Heap) (R : Value → Heap → Prop) (h : brB (Option.isNone m) (R (.map none) H) (ExtH Tryz.prog 100 ⟨[.iface 78 (.map m)]⟩ H
 fun v H' => ∃ v_1, v = v_1 ∧ ∃ r, Rd Tryz.prog (Instr.typeAssert v_1 20 78 false) H' (.map r) ∧ R (.map r) H')) : CallH Tryz.prog 63 (List.toArray [.map m]) H R := vc_call (annOf []) followsAll
 Tryz.func63 rfl Tryz.ntmps63 rfl rfl (Eq.mpr (by kernel_rfl) h)
theorem vc_files_Store_planned (s : Addr) (now : Option Nat) (H : Heap) (R : Value → Heap → Prop) (h : ∀ (b : Nat) (H' : Heap), New H b (.cells ⟨[.slice none 0 0, .map none, .string { data := #[] },
 .slice none 0 0, .int .i64 0, .int .i64 0, .bool false]⟩ 143) H' → cV 102 [.pointer (some s)] H' fun v_1 H' => cL 101 [v_1] H' fun a n c H' => ∀ (b_1 : Nat) (H'_1 : Heap), New H' b_1 (.cells
 ⟨[.slice none 0 0]⟩ 80) H'_1 → ∃ H', sT 80 H'_1 ⟨b_1, 0, none⟩ (.slice a n c) H' ∧ ∀ (b_2 : Nat) (H'_2 : Heap), New H' b_2 (.map ⟨[]⟩ 0) H'_2 → ∀ (b_3 : Nat) (H' : Heap), New H'_2 b_3 (.cells
 ⟨[.slice none 0 0, .map none, .string { data := #[] }, .slice none 0 0, .int .i64 0, .int .i64 0, .bool false]⟩ 143) H' → ∃ H'_3, sT 143 H' ⟨b_3, 0, none⟩ (.agg ⟨[.slice none 0 0, .map (some b_2),
 .string { data := #[] }, .slice none 0 0, .int .i64 0, .int .i64 0, .bool true]⟩) H'_3 ∧ ∃ n, Rd Tryz.prog (Builtin.len_ ⟨[78]⟩ 3 ⟨[.map now]⟩) H'_3 (.int .i64 n) ∧ cS 92 [.int .u64 (IntKind.wrap
 .u64 n)] H'_3 fun s_1 H' => cV 105 [.map now] H' fun v_2 H' => cL 104 [v_2] H' fun a n c H' => ∃ (I : IV) (μ : MU), I [.string s_1, .int .i64 0] H' ∧ ∀ (J : F) (s_2 : ByteArray) (n_1 : Int) (H' :
 Heap), I [.string s_2, .int .i64 n_1] H' → brB (decide (n_1 < (↑n : Int))) (ix a n_1 n fun ad => (∃ s_3, lD 9 H' (Addr.add ad (Int.toNat n_1 * 1)) (.string s_3) ∧ ∃ s_4, Rd Tryz.prog (Instr.lookup
 78 (.map now) (.string s_3) false) H' (.string s_4) ∧ ∀ (b : Nat) (H'_4 : Heap), New H' b (.cells ⟨[.string { data := #[] }, .slice none 0 0]⟩ 122) H'_4 → ∃ H'_5, sT 122 H'_4 ⟨b, 0, none⟩ (.agg
 ⟨[.string s_4, .slice none 0 0]⟩) H'_5 ∧ ∃ r, lD 79 H'_5 (Addr.add s 2) (.map r) ∧ ∃ s a n c, Rd Tryz.prog (Instr.lookup 79 (.map r) (.string s_3) false) H'_5 (.agg ⟨[.string s, .slice a n c]⟩) ∧ ∀
 (b_4 : Nat) (H'_6 : Heap), New H'_5 b_4 (.cells ⟨[.string { data := #[] }, .slice none 0 0]⟩ 122) H'_6 → ∃ H'_7, sT 122 H'_6 ⟨b_4, 0, none⟩ (.agg ⟨[.string s, .slice a n c]⟩) H'_7 ∧ ∃ s, lD 9 H'_7
 ⟨b_4, 0, none⟩ (.string s) ∧ cL 106 [.string s] H'_7 fun a n c H'_8 => ∃ s, lD 9 H'_8 ⟨b, 0, none⟩ (.string s) ∧ cS 56 [.string s_3] H'_8 fun s_5 H'_9 => lD 9 H'_9 ⟨b, 0, none⟩ (.string s) ∧ cS 92
 [.int .u64 (IntKind.wrap .u64 (↑(ByteArray.size s) : Int))] H'_9 fun s H'_10 => chk (decide (ByteArray.size s_5 + ByteArray.size s ≤ 9223372036854775807)) (chk (decide (ByteArray.size s_2 +
 ByteArray.size (s_5 ++ s) ≤ 9223372036854775807)) (∃ s_6, lD 9 H'_10 ⟨b, 0, none⟩ (.string s_6) ∧ cL 106 [.string s_6] H'_10 fun a_4 n_2 c H'_11 => ∃ (I_1 : IV) (μ_1 : MU), I_1 [.string (s_2 ++ (s_5
 ++ s)), .int .i64 0] H'_11 ∧ ∀ (J : F) (s : ByteArray) (n_3 : Int) (H'_12 : Heap), I_1 [.string s, .int .i64 n_3] H'_12 → brB (decide (n_3 < (↑n_2 : Int))) (ix a_4 n_3 n_2 fun ad => (∃ s_7, lD 9
 H'_12 (Addr.add ad (Int.toNat n_3 * 1)) (.string s_7) ∧ ∃ (M : IV), (∃ (M_1 : IV), brB (decide (n_3 < (↑n : Int))) (ix a n_3 n fun ad => (∃ s, lD 9 H'_12 (Addr.add ad (Int.toNat n_3 * 1)) (.string
 s) ∧ M_1 [.bool (ByteArray.toList s == ByteArray.toList s_7)] H'_12)) (M_1 [.bool false] H'_12) ∧ ∀ (J : F) (b : Bool) (H' : Heap), M_1 [.bool b] H' → brB b (∃ a n c, lD 80 H' ⟨b_4, 1, none⟩ (.slice
 a n c) ∧ ix a n_3 n fun ad => (∃ n, lD 3 H' (Addr.add ad (Int.toNat n_3 * 1)) (.int .i64 n) ∧ M [.int .i64 n] H')) (CallV Tryz.prog (.func (Fn.func 103) ⟨[]⟩ ⟨[.pointer (some ⟨b_3, 0, none⟩),
 .pointer (some ⟨b_1, 0, none⟩)]⟩) [.string s_7] H' fun v H' => ∃ n, v = .int .i64 n ∧ M [.int .i64 n] H')) ∧ ∀ (J : F) (n : Int) (H' : Heap), M [.int .i64 n] H' → ∃ a n_4 c, lD 80 H' ⟨b, 1, none⟩
 (.slice a n_4 c) ∧ ∀ (b_5 : Nat) (H'_13 : Heap), New H' b_5 (.cells ⟨[.int .i64 n]⟩ 3) H'_13 → SemWp Tryz.prog (Builtin.append_ ⟨[80, 80]⟩ 80 ⟨[.slice a n_4 c, .slice (some ⟨b_5, 0, none⟩) 1 1]⟩)
 H'_13 fun v H' => ∃ a n_5 c, v = .slice a n_5 c ∧ ∃ H'_14, sT 80 H' ⟨b, 1, none⟩ (.slice a n_5 c) H'_14 ∧ cS 92 [.int .u64 (IntKind.wrap .u64 n)] H'_14 fun s_8 H' => chk (decide (ByteArray.size s +
 ByteArray.size s_8 ≤ 9223372036854775807)) (I_1 [.string (s ++ s_8), .int .i64 (IntKind.wrap .i64 (n_3 + 1))] H' ∧ μ_1 [.string (s ++ s_8), .int .i64 (IntKind.wrap .i64 (n_3 + 1))] H' < μ_1 [.string
 s, .int .i64 n_3] H'_12))) (∃ r, lD 79 H'_12 ⟨b_3, 1, none⟩ (.map r) ∧ ∃ s_7 a n c, lD 122 H'_12 ⟨b, 0, none⟩ (.agg ⟨[.string s_7, .slice a n c]⟩) ∧ SemU Tryz.prog (Instr.mapUpdate 79 (.map r)
 (.string s_3) (.agg ⟨[.string s_7, .slice a n c]⟩)) H'_12 fun H'_13 => ∃ n, lD 3 H'_13 ⟨b_3, 4, none⟩ (.int .i64 n) ∧ ∃ a n_4 c, lD 80 H'_13 ⟨b, 1, none⟩ (.slice a n_4 c) ∧ ∃ H'_14, sT 3 H'_13 ⟨b_3,
 4, none⟩ (.int .i64 (IntKind.wrap .i64 (n + (↑n_4 : Int)))) H'_14 ∧ I [.string s, .int .i64 (IntKind.wrap .i64 (n_1 + 1))] H'_14 ∧ μ [.string s, .int .i64 (IntKind.wrap .i64 (n_1 + 1))] H'_14 < μ
 [.string s_2, .int .i64 n_1] H'))))) (∃ H'_4, sT 9 H' ⟨b_3, 2, none⟩ (.string s_2) H'_4 ∧ cL 106 [.string s_2] H'_4 fun a n c H' => ∃ (I : IV) (μ : MU), I [.int .i64 0] H' ∧ ∀ (J : F) (n_2 : Int)
 (H' : Heap), I [.int .i64 n_2] H' → brB (decide (n_2 < (↑n : Int))) (ix a n_2 n fun ad => (∃ s, lD 9 H' (Addr.add ad (Int.toNat n_2 * 1)) (.string s) ∧ ∃ a n c, lD 80 H' ⟨b_3, 3, none⟩ (.slice a n
 c) ∧ CallV Tryz.prog (.func (Fn.func 103) ⟨[]⟩ ⟨[.pointer (some ⟨b_3, 0, none⟩), .pointer (some ⟨b_1, 0, none⟩)]⟩) [.string s] H' fun v H'_5 => ∃ n_3, v = .int .i64 n_3 ∧ lD 80 H'_5 ⟨b_3, 3, none⟩
 (.slice a n c) ∧ ∀ (b : Nat) (H'_6 : Heap), New H'_5 b (.cells ⟨[.int .i64 n_3]⟩ 3) H'_6 → lD 80 H'_6 ⟨b_3, 3, none⟩ (.slice a n c) ∧ SemWp Tryz.prog (Builtin.append_ ⟨[80, 80]⟩ 80 ⟨[.slice a n c,
 .slice (some ⟨b, 0, none⟩) 1 1]⟩) H'_6 fun v H'_7 => ∃ a n c, v = .slice a n c ∧ ∃ H'_8, sT 80 H'_7 ⟨b_3, 3, none⟩ (.slice a n c) H'_8 ∧ I [.int .i64 (IntKind.wrap .i64 (n_2 + 1))] H'_8 ∧ μ [.int
 .i64 (IntKind.wrap .i64 (n_2 + 1))] H'_8 < μ [.int .i64 n_2] H')) (∃ a n c, lD 80 H' ⟨b_3, 3, none⟩ (.slice a n c) ∧ ∃ b_4, lD 4 H' ⟨b_3, 6, none⟩ (.bool b_4) ∧ brB b_4 (brB (decide ((↑n : Int) ≤
 20)) (∃ n_3, lD 3 H' ⟨b_3, 4, none⟩ (.int .i64 n_3) ∧ ∃ a, lD 58 H' s (.pointer a) ∧ cI 107 [.pointer a] H' fun n_4 H' => lD 3 H' ⟨b_3, 4, none⟩ (.int .i64 n_3) ∧ ∃ H'_5, sT 4 H' ⟨b_3, 6, none⟩
 (.bool (decide (IntKind.wrap .i64 (n_3 + IntKind.wrap .i64 (2 * (↑n : Int))) ≤ IntKind.wrap .i64 (n_4 - 2)))) H'_5 ∧ ∃ a n c r s a_4 n_5 c_1 n_6 n_7 b_5, lD 143 H'_5 ⟨b_3, 0, none⟩ (.agg ⟨[.slice a
 n c, .map r, .string s, .slice a_4 n_5 c_1, .int .i64 n_6, .int .i64 n_7, .bool b_5]⟩) ∧ ∃ H', sT 143 H'_5 ⟨b, 0, none⟩ (.agg ⟨[.slice a n c, .map r, .string s, .slice a_4 n_5 c_1, .int .i64 n_6,
 .int .i64 n_7, .bool b_5]⟩) H' ∧ ∃ a n c r s a_5 n_8 c_2 n_9 n_10 b_6, lD 143 H' ⟨b, 0, none⟩ (.agg ⟨[.slice a n c, .map r, .string s, .slice a_5 n_8 c_2, .int .i64 n_9, .int .i64 n_10, .bool b_6]⟩)
 ∧ R (.agg ⟨[.slice a n c, .map r, .string s, .slice a_5 n_8 c_2, .int .i64 n_9, .int .i64 n_10, .bool b_6]⟩) H') (∃ H'_5, sT 4 H' ⟨b_3, 6, none⟩ (.bool false) H'_5 ∧ ∃ a n c r s a_4 n_3 c_1 n_4 n_5
 b_5, lD 143 H'_5 ⟨b_3, 0, none⟩ (.agg ⟨[.slice a n c, .map r, .string s, .slice a_4 n_3 c_1, .int .i64 n_4, .int .i64 n_5, .bool b_5]⟩) ∧ ∃ H', sT 143 H'_5 ⟨b, 0, none⟩ (.agg ⟨[.slice a n c, .map r,
 .string s, .slice a_4 n_3 c_1, .int .i64 n_4, .int .i64 n_5, .bool b_5]⟩) H' ∧ ∃ a n c r s a_5 n_6 c_2 n_7 n_8 b_6, lD 143 H' ⟨b, 0, none⟩ (.agg ⟨[.slice a n c, .map r, .string s, .slice a_5 n_6
 c_2, .int .i64 n_7, .int .i64 n_8, .bool b_6]⟩) ∧ R (.agg ⟨[.slice a n c, .map r, .string s, .slice a_5 n_6 c_2, .int .i64 n_7, .int .i64 n_8, .bool b_6]⟩) H')) (∃ H'_5, sT 4 H' ⟨b_3, 6, none⟩
 (.bool false) H'_5 ∧ ∃ a n c r s a_4 n_3 c_1 n_4 n_5 b_5, lD 143 H'_5 ⟨b_3, 0, none⟩ (.agg ⟨[.slice a n c, .map r, .string s, .slice a_4 n_3 c_1, .int .i64 n_4, .int .i64 n_5, .bool b_5]⟩) ∧ ∃ H',
 sT 143 H'_5 ⟨b, 0, none⟩ (.agg ⟨[.slice a n c, .map r, .string s, .slice a_4 n_3 c_1, .int .i64 n_4, .int .i64 n_5, .bool b_5]⟩) H' ∧ ∃ a n c r s a_5 n_6 c_2 n_7 n_8 b_6, lD 143 H' ⟨b, 0, none⟩
 (.agg ⟨[.slice a n c, .map r, .string s, .slice a_5 n_6 c_2, .int .i64 n_7, .int .i64 n_8, .bool b_6]⟩) ∧ R (.agg ⟨[.slice a n c, .map r, .string s, .slice a_5 n_6 c_2, .int .i64 n_7, .int .i64 n_8,
 .bool b_6]⟩) H')))) : CallH Tryz.prog 64 (List.toArray [.pointer (some s), .map now]) H R := vc_call (annOf [([0, 1, 0, 1, 1, 1, 1, 1], .cut [(8, .one .str), (34, .one (.int .i64))]), ([0, 1, 1, 1,
 1, 0, 0, 1, 1, 0, 0, 1, 0, 1, 1, 1, 1, 1], .reg [0, 0, 2, 0, 8, 24, 56, 126, 254, 511, 1023] (.quiet 0 (.quiet 1 (.quiet 3 (.quiet 4 (.quiet 5 (.quiet 6 (.pick (.alt 2 (.pick (.alt 7 (.quiet 8
 (.quiet 9 (.quiet 10 .done))) .stop)) .stop))))))))), ([0, 1, 0, 1, 1, 1, 1, 1, 0, 0, 1, 1, 0, 0, 1, 0, 1, 1, 1, 1, 1], .cut [(8, .one .str), (65, .one (.int .i64))]), ([1, 1, 0, 0, 1, 1, 0, 0, 1,
 0, 1, 1, 1, 1, 1, 0, 0, 1, 1, 0, 0, 1, 0, 1, 1, 1, 1, 1], .cut [(16, .one (.int .i64))]), ([0, 1, 1, 0, 0, 1, 1, 0, 0, 1, 0, 1, 1, 1, 1, 1, 0, 0, 1, 1, 0, 0, 1, 0, 1, 1, 1, 1, 1], .cut [(81, .one
 .bool)]), ([0, 1, 0, 1, 1, 1, 1, 1, 1, 1], .cut [(120, .one (.int .i64))]), ([1, 0, 0, 1, 1, 0, 0, 1, 0, 1, 1, 1, 1, 1, 1, 1], .reg [0, 1, 3, 0, 0, 24, 56, 127, 255, 511, 1023] (.quiet 0 (.quiet 1
 (.quiet 2 (.quiet 3 (.quiet 4 (.pick (.alt 5 (.pick (.alt 6 (.pick (.alt 7 (.quiet 8 (.quiet 9 (.pick (.alt 10 (.done) .stop)))) .stop)) .stop)) .stop)))))))), ([0, 1, 1, 1, 1, 1, 1, 1, 1, 1], .reg
 [0, 1, 3, 7, 15, 31, 63, 127, 255, 127, 639, 2047, 127, 4223, 12415, 28799, 61567, 127103, 262143, 524287, 1048575, 2097151] (.quiet 0 (.quiet 1 (.quiet 2 (.quiet 3 (.quiet 4 (.quiet 5 (.quiet 6
 (.quiet 7 (.quiet 8 (.quiet 9 (.quiet 10 (.quiet 11 (.quiet 12 (.quiet 13 (.quiet 14 (.quiet 15 (.pick (.alt 16 (.quiet 17 (.quiet 18 (.quiet 19 (.quiet 20 (.pick (.alt 21 (.done) .stop))))))
 .stop)))))))))))))))))))]) followsAll Tryz.func64 rfl Tryz.ntmps64 rfl rfl (Eq.mpr (by kernel_rfl) h)
abbrev fn_ref10_Store_need : Nat := 65
theorem vc_ref10_Store_need (s : Addr) (l_a : Option Addr) (l_n : Nat) (l_c : Nat) (H : Heap) (R : Value → Heap → Prop) (h : cH 108 ⟨[.pointer (some s), .slice l_a l_n l_c]⟩ H fun v H' => ∃ a n c
 a_1 n_1 c_1 a_2 n_2 c_2 s_1 a_3 n_3 c_3 b, v = .tuple ⟨[.slice a n c, .slice a_1 n_1 c_1, .slice a_2 n_2 c_2, .string s_1, .slice a_3 n_3 c_3, .bool b]⟩ ∧ ∃ (I : IV) (μ : MU), I [.int .i64 0, .int
 .i64 0] H' ∧ ∀ (J : F) (n_4 n_5 : Int) (H' : Heap), I [.int .i64 n_4, .int .i64 n_5] H' → brB (decide (n_5 < (↑n : Int))) (ix a n_5 n fun ad => (∃ a n c, lD 80 H' (Addr.add (Addr.add ad (Int.toNat
 n_5 * 3)) 2) (.slice a n c) ∧ I [.int .i64 (IntKind.wrap .i64 (n_4 + (↑n : Int))), .int .i64 (IntKind.wrap .i64 (n_5 + 1))] H' ∧ μ [.int .i64 (IntKind.wrap .i64 (n_4 + (↑n : Int))), .int .i64
 (IntKind.wrap .i64 (n_5 + 1))] H' < μ [.int .i64 n_4, .int .i64 n_5] H')) (cL 109 [.string s_1] H' fun a n c H' => brB b (brB (decide ((↑n : Int) ≤ 20)) (∃ a, lD 62 H' s (.pointer a) ∧ exSome a fun
 a => ∃ a_5 n_6 c, lD 92 H' a (.slice a_5 n_6 c) ∧ R (.tuple ⟨[.int .i64 (IntKind.wrap .i64 ((↑n_1 : Int) + (↑n : Int))), .bool (decide (IntKind.wrap .i64 (n_4 + IntKind.wrap .i64 (2 * (↑n : Int))) ≤
 IntKind.wrap .i64 ((↑n_6 : Int) - 2)))]⟩) H') (R (.tuple ⟨[.int .i64 (IntKind.wrap .i64 ((↑n_1 : Int) + (↑n : Int))), .bool false]⟩) H')) (R (.tuple ⟨[.int .i64 (IntKind.wrap .i64 ((↑n_1 : Int) +
 (↑n : Int))), .bool false]⟩) H'))) : CallH Tryz.prog 65 (List.toArray [.pointer (some s), .slice l_a l_n l_c]) H R := vc_call (annOf [([0, 1, 0, 1, 1, 1], .cut [(12, .one (.int .i64)), (13, .one
 (.int .i64))])]) followsAll Tryz.func65 rfl Tryz.ntmps65 rfl rfl (Eq.mpr (by kernel_rfl) h)
abbrev fn_zig_GetText : Nat := 66
theorem vc_zig_GetText (s : ByteArray) (at' : Int) (H : Heap) (R : Value → Heap → Prop) (h : cH 69 ⟨[.string s, .int .i64 at']⟩ H fun v H' => ∃ n n_1 n_2, v = .tuple ⟨[.int .u64 n, .int .i64 n_1,
 .int .i64 n_2]⟩ ∧ brB (n_2 != 0) (R (.tuple ⟨[.string { data := #[] }, .int .i64 0, .int .i64 n_2]⟩) H') (brB (decide (n > IntKind.wrap .u64 (IntKind.wrap .i64 ((↑(ByteArray.size s) : Int) - n_1))))
 (R (.tuple ⟨[.string { data := #[] }, .int .i64 0, .int .i64 10]⟩) H') (chk (decide (0 ≤ n_1 ∧ n_1 ≤ IntKind.wrap .i64 (n_1 + IntKind.wrap .i64 n) ∧ IntKind.wrap .i64 (n_1 + IntKind.wrap .i64 n) ≤
 (↑(ByteArray.size s) : Int))) (R (.tuple ⟨[.string (ByteArray.extract s (Int.toNat n_1) (Int.toNat (IntKind.wrap .i64 (n_1 + IntKind.wrap .i64 n)))), .int .i64 (IntKind.wrap .i64 (n_1 + IntKind.wrap
 .i64 n)), .int .i64 0]⟩) H')))) : CallH Tryz.prog 66 (List.toArray [.string s, .int .i64 at']) H R := vc_call (annOf []) followsAll Tryz.func66 rfl Tryz.ntmps66 rfl rfl (Eq.mpr (by kernel_rfl) h)
abbrev fn_zig_GetUint : Nat := 69
theorem vc_zig_GetUint (s : ByteArray) (at' : Int) (H : Heap) (R : Value → Heap → Prop) (h : ∃ (M : IV), brB (decide (at' < 0)) (R (.tuple ⟨[.int .u64 0, .int .i64 0, .int .i64 1]⟩) H) (brB (decide
 (at' > (↑(ByteArray.size s) : Int))) (R (.tuple ⟨[.int .u64 0, .int .i64 0, .int .i64 1]⟩) H) (M [.int .u64 0] H)) ∧ ∀ (J : F) (n : Int) (H' : Heap), M [.int .u64 n] H' → ∃ (I : IV) (μ : MU), I
 [.int .u64 n, .int .i64 0] H' ∧ ∀ (J : F) (n n_1 : Int) (H' : Heap), I [.int .u64 n, .int .i64 n_1] H' → brB (decide (n_1 < 10)) (brB (IntKind.wrap .i64 (at' + n_1) == (↑(ByteArray.size s) : Int))
 (R (.tuple ⟨[.int .u64 0, .int .i64 0, .int .i64 10]⟩) H') (chk (decide (0 ≤ IntKind.wrap .i64 (at' + n_1) ∧ IntKind.wrap .i64 (at' + n_1) < (↑(ByteArray.size s) : Int))) (∃ (M : IV), brB (n_1 == 9)
 (brB (decide ((↑(atB s (Int.toNat (IntKind.wrap .i64 (at' + n_1)))) : Int) > 1)) (R (.tuple ⟨[.int .u64 0, .int .i64 0, .int .i64 11]⟩) H') (brB ((↑(atB s (Int.toNat (IntKind.wrap .i64 (at' +
 n_1)))) : Int) == 0) (brB (decide (n_1 > 0)) (R (.tuple ⟨[.int .u64 0, .int .i64 0, .int .i64 11]⟩) H') (M [.int .u64 n] H')) (M [.int .u64 n] H'))) (brB ((↑(atB s (Int.toNat (IntKind.wrap .i64 (at'
 + n_1)))) : Int) == 0) (brB (decide (n_1 > 0)) (R (.tuple ⟨[.int .u64 0, .int .i64 0, .int .i64 11]⟩) H') (M [.int .u64 n] H')) (M [.int .u64 n] H')) ∧ ∀ (J : F) (n_2 : Int) (H'_1 : Heap), M [.int
 .u64 n_2] H'_1 → chk (decide (0 ≤ IntKind.wrap .u64 (IntKind.wrap .i64 (7 * n_1)))) (brB (decide ((↑(atB s (Int.toNat (IntKind.wrap .i64 (at' + n_1)))) : Int) < 128)) (R (.tuple ⟨[.int .u64
 (IntKind.wrap .u64 (↑(BitVec.toNat (BitVec.ofInt 64 n_2 ||| BitVec.ofInt 64 (IntKind.wrap .u64 (IntKind.wrap .u64 (IntKind.wrap .u8 (↑(BitVec.toNat (BitVec.ofInt 8 (↑(atB s (Int.toNat (IntKind.wrap
 .i64 (at' + n_1)))) : Int) &&& BitVec.ofInt 8 127)) : Int)) * 2 ^ min (Int.toNat (IntKind.wrap .u64 (IntKind.wrap .i64 (7 * n_1)))) 64)))) : Int)), .int .i64 (IntKind.wrap .i64 (IntKind.wrap .i64
 (at' + n_1) + 1)), .int .i64 0]⟩) H'_1) (I [.int .u64 (IntKind.wrap .u64 (↑(BitVec.toNat (BitVec.ofInt 64 n_2 ||| BitVec.ofInt 64 (IntKind.wrap .u64 (IntKind.wrap .u64 (IntKind.wrap .u8
 (↑(BitVec.toNat (BitVec.ofInt 8 (↑(atB s (Int.toNat (IntKind.wrap .i64 (at' + n_1)))) : Int) &&& BitVec.ofInt 8 127)) : Int)) * 2 ^ min (Int.toNat (IntKind.wrap .u64 (IntKind.wrap .i64 (7 * n_1))))
 64)))) : Int)), .int .i64 (IntKind.wrap .i64 (n_1 + 1))] H'_1 ∧ μ [.int .u64 (IntKind.wrap .u64 (↑(BitVec.toNat (BitVec.ofInt 64 n_2 ||| BitVec.ofInt 64 (IntKind.wrap .u64 (IntKind.wrap .u64
 (IntKind.wrap .u8 (↑(BitVec.toNat (BitVec.ofInt 8 (↑(atB s (Int.toNat (IntKind.wrap .i64 (at' + n_1)))) : Int) &&& BitVec.ofInt 8 127)) : Int)) * 2 ^ min (Int.toNat (IntKind.wrap .u64 (IntKind.wrap
 .i64 (7 * n_1)))) 64)))) : Int)), .int .i64 (IntKind.wrap .i64 (n_1 + 1))] H'_1 < μ [.int .u64 n, .int .i64 n_1] H'))))) (R (.tuple ⟨[.int .u64 0, .int .i64 0, .int .i64 11]⟩) H')) : CallH Tryz.prog
 69 (List.toArray [.string s, .int .i64 at']) H R := vc_call (annOf [([1], .cut [(4, .one (.int .u64))]), ([0, 1, 0, 1, 1], .cut [(4, .one (.int .u64)), (17, .one (.int .i64))]), ([1, 1, 1, 0, 0, 1,
 1, 0, 0, 1, 0, 1, 1], .cut [(4, .one (.int .u64))])]) followsAll Tryz.func69 rfl Tryz.ntmps69 rfl rfl (Eq.mpr (by kernel_rfl) h)
abbrev fn_wal_forms_1 : Nat := 70
theorem vc_wal_forms_1 (r : Addr) (H : Heap) (R : Value → Heap → Prop) (h : ∃ a n c, lD 35 H (Addr.add r 1) (.slice a n c) ∧ cH 71 ⟨[.slice a n c]⟩ H fun v H' => ∃ s n, v = .tuple ⟨[.string s, .int
 .i64 n]⟩ ∧ cS 56 [.string s] H' fun s H' => R (.tuple ⟨[.string s, .int .i64 n]⟩) H') : CallH Tryz.prog 70 (List.toArray [.pointer (some r)]) H R := vc_call (annOf []) followsAll Tryz.func70 rfl
 Tryz.ntmps70 rfl rfl (Eq.mpr (by kernel_rfl) h)
abbrev fn_label_Print : Nat := 71
theorem vc_label_Print (l_a : Option Addr) (l_n : Nat) (l_c : Nat) (H : Heap) (R : Value → Heap → Prop) (h : cI 113 [.slice l_a l_n l_c] H fun n H' => brB (n != 0) (R (.tuple ⟨[.string { data := #[]
 }, .int .i64 n]⟩) H') (∃ (I : IV) (μ : MU), I [.slice none 0 0, .int .i64 0] H' ∧ ∀ (J : F) (a : Option Addr) (n c : Nat) (n_1 : Int) (H' : Heap), I [.slice a n c, .int .i64 n_1] H' → brB (decide
 (n_1 < (↑l_n : Int))) (ix l_a n_1 l_n fun ad => (∃ s s_1, lD 55 H' (Addr.add ad (Int.toNat n_1 * 2)) (.agg ⟨[.string s, .string s_1]⟩) ∧ ∀ (b : Nat) (H'_1 : Heap), New H' b (.cells ⟨[.string { data
 := #[] }, .string { data := #[] }]⟩ 55) H'_1 → ∃ H'_2, sT 55 H'_1 ⟨b, 0, none⟩ (.agg ⟨[.string s, .string s_1]⟩) H'_2 ∧ ∃ s, lD 9 H'_2 ⟨b, 0, none⟩ (.string s) ∧ chk (decide (ByteArray.size s + 1 ≤
 9223372036854775807)) (∃ s_2, lD 9 H'_2 ⟨b, 1, none⟩ (.string s_2) ∧ cS 114 [.string s_2] H'_2 fun s_3 H'_3 => lD 9 H'_3 ⟨b, 0, none⟩ (.string s) ∧ chk (decide (ByteArray.size (s ++ { data := #[(61
 : UInt8)] }) + ByteArray.size s_3 ≤ 9223372036854775807)) (∀ (b : Nat) (H'_4 : Heap), New H'_3 b (.cells ⟨[.string (s ++ { data := #[(61 : UInt8)] } ++ s_3)]⟩ 9) H'_4 → SemWp Tryz.prog
 (Builtin.append_ ⟨[92, 92]⟩ 92 ⟨[.slice a n c, .slice (some ⟨b, 0, none⟩) 1 1]⟩) H'_4 fun v H'_5 => ∃ a_4 n_2 c_1, v = .slice a_4 n_2 c_1 ∧ I [.slice a_4 n_2 c_1, .int .i64 (IntKind.wrap .i64 (n_1 +
 1))] H'_5 ∧ μ [.slice a_4 n_2 c_1, .int .i64 (IntKind.wrap .i64 (n_1 + 1))] H'_5 < μ [.slice a n c, .int .i64 n_1] H')))) (cS 115 [.slice a n c, .string { data := #[(44 : UInt8)] }] H' fun s H' =>
 chk (decide (1 + ByteArray.size s ≤ 9223372036854775807)) (chk (decide (ByteArray.size ({ data := #[(123 : UInt8)] } ++ s) + 1 ≤ 9223372036854775807)) (R (.tuple ⟨[.string ({ data := #[(123 :
 UInt8)] } ++ s ++ { data := #[(125 : UInt8)] }), .int .i64 0]⟩) H'))))) : CallH Tryz.prog 71 (List.toArray [.slice l_a l_n l_c]) H R := vc_call (annOf [([0, 1, 0, 1, 1, 1], .cut [(5, .one .slice),
 (15, .one (.int .i64))]), ([1, 0, 0, 1, 1, 0, 0, 1, 0, 1, 1, 1], .reg [0, 0, 2, 6, 0, 16, 48, 126, 254, 511, 1023] (.quiet 0 (.quiet 1 (.quiet 2 (.quiet 3 (.quiet 4 (.quiet 5 (.pick (.alt 6 (.quiet
 7 (.pick (.alt 8 (.pick (.alt 9 (.quiet 10 .done) .stop)) .stop))) .stop)))))))))]) followsAll Tryz.func71 rfl Tryz.ntmps71 rfl rfl (Eq.mpr (by kernel_rfl) h)
abbrev fn_wal_forms_2 : Nat := 72
theorem vc_wal_forms_2 (r : Addr) (x : Addr) (H : Heap) (R : Value → Heap → Prop) (h : ∃ s, lD 9 H x (.string s) ∧ ∃ n, lD 3 H (Addr.add x 1) (.int .i64 n) ∧ cH 66 ⟨[.string s, .int .i64 n]⟩ H fun v
 H' => ∃ s n n_1, v = .tuple ⟨[.string s, .int .i64 n, .int .i64 n_1]⟩ ∧ cH 73 ⟨[.string s]⟩ H' fun v H' => ∃ a n_2 c n_3, v = .tuple ⟨[.slice a n_2 c, .int .i64 n_3]⟩ ∧ ∃ b, lD 4 H' (Addr.add x 2)
 (.bool b) ∧ brB b (brB (n_1 == 0) (∃ H'_1, sT 35 H' (Addr.add r 1) (.slice a n_2 c) H'_1 ∧ ∃ H', sT 3 H'_1 (Addr.add x 1) (.int .i64 n) H' ∧ ∃ H'_2, sT 4 H' (Addr.add x 2) (.bool (n_3 == 0)) H'_2 ∧
 R (.tuple ⟨[]⟩) H'_2) (∃ H'_1, sT 35 H' (Addr.add r 1) (.slice a n_2 c) H'_1 ∧ ∃ H', sT 3 H'_1 (Addr.add x 1) (.int .i64 n) H' ∧ ∃ H'_2, sT 4 H' (Addr.add x 2) (.bool false) H'_2 ∧ R (.tuple ⟨[]⟩)
 H'_2)) (∃ H'_1, sT 35 H' (Addr.add r 1) (.slice a n_2 c) H'_1 ∧ ∃ H', sT 3 H'_1 (Addr.add x 1) (.int .i64 n) H' ∧ ∃ H'_2, sT 4 H' (Addr.add x 2) (.bool false) H'_2 ∧ R (.tuple ⟨[]⟩) H'_2)) : CallH
 Tryz.prog 72 (List.toArray [.pointer (some r), .pointer (some x)]) H R := vc_call (annOf [([0], .reg [0, 1, 3, 7, 0, 16, 48, 112, 255, 511, 1023, 1023, 1023, 2047, 12287, 32767] (.quiet 0 (.quiet 1
 (.quiet 2 (.quiet 3 (.quiet 4 (.quiet 5 (.quiet 6 (.quiet 7 (.pick (.alt 8 (.quiet 9 (.quiet 10 (.quiet 11 (.quiet 12 (.quiet 13 (.quiet 14 (.quiet 15 .done))))))) .stop)))))))))))]) followsAll
 Tryz.func72 rfl Tryz.ntmps72 rfl rfl (Eq.mpr (by kernel_rfl) h)
abbrev fn_label_Parse : Nat := 73
theorem vc_label_Parse (s : ByteArray) (H : Heap) (R : Value → Heap → Prop) (h : ∀ (b : Nat) (H' : Heap), New H b (.cells ⟨[.string s]⟩ 199) H' → cB 116 [.pointer (some ⟨b, 0, none⟩), .string { data
 := #[(123 : UInt8)] }] H' fun b_1 H' => brB (!b_1) (R (.tuple ⟨[.slice none 0 0, .int .i64 11]⟩) H') (∃ s, lD 9 H' ⟨b, 0, none⟩ (.string s) ∧ brB (ByteArray.toList s == ByteArray.toList { data :=
 #[(125 : UInt8)] }) (R (.tuple ⟨[.slice none 0 0, .int .i64 0]⟩) H') (∃ (I : IV) (μ : MU), I [.slice none 0 0, .bool true] H' ∧ ∀ (J : F) (a : Option Addr) (n c : Nat) (b_2 : Bool) (H' : Heap), I
 [.slice a n c, .bool b_2] H' → brB b_2 (∃ s, lD 9 H' ⟨b, 0, none⟩ (.string s) ∧ cH 117 ⟨[.string s, .string { data := #[(61 : UInt8)] }]⟩ H' fun v H'_1 => ∃ s s_1 b_3, v = .tuple ⟨[.string s,
 .string s_1, .bool b_3]⟩ ∧ ∃ H'_2, sT 9 H'_1 ⟨b, 0, none⟩ (.string s_1) H'_2 ∧ cH 118 ⟨[.pointer (some ⟨b, 0, none⟩)]⟩ H'_2 fun v H'_3 => ∃ s_2 b_4, v = .tuple ⟨[.string s_2, .bool b_4]⟩ ∧ brB
 (!b_4) (R (.tuple ⟨[.slice none 0 0, .int .i64 11]⟩) H'_3) (∀ (b_5 : Nat) (H'_4 : Heap), New H'_3 b_5 (.cells ⟨[.string s, .string s_2]⟩ 55) H'_4 → SemWp Tryz.prog (Builtin.append_ ⟨[35, 35]⟩ 35
 ⟨[.slice a n c, .slice (some ⟨b_5, 0, none⟩) 1 1]⟩) H'_4 fun v H'_5 => ∃ a_3 n_1 c_1, v = .slice a_3 n_1 c_1 ∧ cB 116 [.pointer (some ⟨b, 0, none⟩), .string { data := #[(44 : UInt8)] }] H'_5 fun b
 H'_6 => I [.slice a_3 n_1 c_1, .bool b] H'_6 ∧ μ [.slice a_3 n_1 c_1, .bool b] H'_6 < μ [.slice a n c, .bool b_2] H')) (∃ s, lD 9 H' ⟨b, 0, none⟩ (.string s) ∧ brB (!ByteArray.toList s ==
 ByteArray.toList { data := #[(125 : UInt8)] }) (R (.tuple ⟨[.slice none 0 0, .int .i64 11]⟩) H') (cI 113 [.slice a n c] H' fun n_1 H' => brB (n_1 != 0) (R (.tuple ⟨[.slice none 0 0, .int .i64 11]⟩)
 H') (R (.tuple ⟨[.slice a n c, .int .i64 0]⟩) H')))))) : CallH Tryz.prog 73 (List.toArray [.string s]) H R := vc_call (annOf [([0, 1, 0, 1, 1, 1, 1, 1], .cut [(5, .one .slice), (6, .one .bool)])])
 followsAll Tryz.func73 rfl Tryz.ntmps73 rfl rfl (Eq.mpr (by kernel_rfl) h)
abbrev fn_wal_forms_3 : Nat := 74
theorem vc_wal_forms_3 (r : Addr) (H : Heap) (R : Value → Heap → Prop) (h : ∃ a n c, lD 36 H (Addr.add r 2) (.slice a n c) ∧ ∀ (b : Nat) (H' : Heap), New H b (.cells ⟨[.int .i64 (↑n : Int)]⟩ 3) H' →
 cS 53 [.slice (some ⟨b, 0, none⟩) 1 1] H' fun s H' => ∃ a n c, lD 36 H' (Addr.add r 2) (.slice a n c) ∧ ∃ (I : IV) (μ : MU), I [.string s, .int .i64 0] H' ∧ ∀ (J : F) (s : ByteArray) (n_1 : Int) (H'
 : Heap), I [.string s, .int .i64 n_1] H' → brB (decide (n_1 < (↑n : Int))) (ix a n_1 n fun ad => (∃ n n_2 n_3, lD 111 H' (Addr.add ad (Int.toNat n_1 * 3)) (.agg ⟨[.int .i64 n, .int .i64 n_2, .int
 .i64 n_3]⟩) ∧ ∀ (b : Nat) (H'_1 : Heap), New H' b (.cells ⟨[.int .i64 0, .int .i64 0, .int .i64 0]⟩ 111) H'_1 → ∃ H'_2, sT 111 H'_1 ⟨b, 0, none⟩ (.agg ⟨[.int .i64 n, .int .i64 n_2, .int .i64 n_3]⟩)
 H'_2 ∧ ∃ n, lD 3 H'_2 ⟨b, 0, none⟩ (.int .i64 n) ∧ ∃ n_4, lD 3 H'_2 ⟨b, 1, none⟩ (.int .i64 n_4) ∧ ∃ n_5, lD 3 H'_2 ⟨b, 2, none⟩ (.int .i64 n_5) ∧ ∀ (b_1 : Nat) (H'_3 : Heap), New H'_2 b_1 (.cells
 ⟨[.int .i64 n, .int .i64 n_4]⟩ 3) H'_3 → lD 3 H'_3 ⟨b, 2, none⟩ (.int .i64 n_5) ∧ cS 53 [.slice (some ⟨b_1, 0, none⟩) 2 2] H'_3 fun s_1 H'_4 => lD 3 H'_4 ⟨b, 2, none⟩ (.int .i64 n_5) ∧ cS 75 [.int
 .i64 n_5] H'_4 fun s_2 H'_5 => chk (decide (ByteArray.size s_1 + ByteArray.size s_2 ≤ 9223372036854775807)) (chk (decide (ByteArray.size s + ByteArray.size (s_1 ++ s_2) ≤ 9223372036854775807)) (I
 [.string (s ++ (s_1 ++ s_2)), .int .i64 (IntKind.wrap .i64 (n_1 + 1))] H'_5 ∧ μ [.string (s ++ (s_1 ++ s_2)), .int .i64 (IntKind.wrap .i64 (n_1 + 1))] H'_5 < μ [.string s, .int .i64 n_1] H')))) (R
 (.tuple ⟨[.string s, .int .i64 0]⟩) H')) : CallH Tryz.prog 74 (List.toArray [.pointer (some r)]) H R := vc_call (annOf [([0, 1, 0, 1, 1], .cut [(4, .one .str), (19, .one (.int .i64))]), ([1, 0, 0,
 1, 1, 0, 0, 1, 0, 1, 1], .reg [0, 0, 2, 0, 8, 30, 62, 0, 128, 510, 1022, 2047, 4095] (.quiet 0 (.quiet 1 (.quiet 2 (.quiet 3 (.quiet 4 (.quiet 7 (.quiet 8 (.pick (.alt 5 (.pick (.alt 6 (.pick (.alt
 9 (.quiet 10 (.quiet 11 (.quiet 12 .done))) .stop)) .stop)) .stop))))))))))]) followsAll Tryz.func74 rfl Tryz.ntmps74 rfl rfl (Eq.mpr (by kernel_rfl) h)
abbrev fn_zig_Int : Nat := 75
theorem vc_zig_Int (n : Int) (H : Heap) (R : Value → Heap → Prop) (h : cH 119 ⟨[.int .i64 n]⟩ H fun v H' => ∃ n, v = .int .u64 n ∧ cS 92 [.int .u64 n] H' fun s H' => R (.string s) H') : CallH
 Tryz.prog 75 (List.toArray [.int .i64 n]) H R := vc_call (annOf []) followsAll Tryz.func75 rfl Tryz.ntmps75 rfl rfl (Eq.mpr (by kernel_rfl) h)
abbrev fn_wal_forms_4 : Nat := 76
theorem vc_wal_forms_4 (r : Addr) (x : Addr) (H : Heap) (R : Value → Heap → Prop) (h : cI 42 [.pointer (some x), .int .i64 5000] H fun n H' => ∃ (I : IV) (μ : MU), I [] H' ∧ ∀ (J : F) (H' : Heap), I
 [] H' → ∃ (M : IV), (∃ b, lD 4 H' (Addr.add x 2) (.bool b) ∧ brB b (∃ a n_1 c, lD 36 H' (Addr.add r 2) (.slice a n_1 c) ∧ brB (decide ((↑n_1 : Int) < n)) (M [] H') (R (.tuple ⟨[]⟩) H')) (R (.tuple
 ⟨[]⟩) H')) ∧ ∀ (J : F) (H'_1 : Heap), M [] H'_1 → cI 42 [.pointer (some x), .int .i64 1099511627776] H'_1 fun n H'_2 => cI 42 [.pointer (some x), .int .i64 200] H'_2 fun n_1 H'_3 => ∃ a n_2 c, lD 36
 H'_3 (Addr.add r 2) (.slice a n_2 c) ∧ cI 77 [.pointer (some x)] H'_3 fun n_3 H'_4 => lD 36 H'_4 (Addr.add r 2) (.slice a n_2 c) ∧ ∀ (b : Nat) (H'_5 : Heap), New H'_4 b (.cells ⟨[.int .i64 n, .int
 .i64 n_1, .int .i64 n_3]⟩ 111) H'_5 → lD 36 H'_5 (Addr.add r 2) (.slice a n_2 c) ∧ SemWp Tryz.prog (Builtin.append_ ⟨[36, 36]⟩ 36 ⟨[.slice a n_2 c, .slice (some ⟨b, 0, none⟩) 1 1]⟩) H'_5 fun v H'_6
 => ∃ a n c, v = .slice a n c ∧ ∃ H'_7, sT 36 H'_6 (Addr.add r 2) (.slice a n c) H'_7 ∧ I [] H'_7 ∧ μ [] H'_7 < μ [] H') : CallH Tryz.prog 76 (List.toArray [.pointer (some r), .pointer (some x)]) H R
 := vc_call (annOf [([0, 1], .cut []), ([0, 0, 1], .cut []), ([1, 0, 1, 0, 0, 1], .reg [0, 0, 2, 6, 14, 0, 0, 0, 128, 480, 992, 2046, 4095, 8191, 16383] (.quiet 0 (.quiet 1 (.quiet 2 (.quiet 3
 (.quiet 4 (.quiet 5 (.quiet 6 (.quiet 7 (.pick (.alt 8 (.quiet 9 (.pick (.alt 10 (.pick (.alt 11 (.quiet 12 (.quiet 13 (.pick (.alt 14 (.done) .stop)))) .stop)) .stop))) .stop)))))))))))])
 followsAll Tryz.func76 rfl Tryz.ntmps76 rfl rfl (Eq.mpr (by kernel_rfl) h)
abbrev fn_wal_reader_value : Nat := 77
theorem vc_wal_reader_value (x : Addr) (H : Heap) (R : Value → Heap → Prop) (h : ∃ s, lD 9 H x (.string s) ∧ ∃ n, lD 3 H (Addr.add x 1) (.int .i64 n) ∧ cH 120 ⟨[.string s, .int .i64 n]⟩ H fun v H'
 => ∃ n n_1 n_2, v = .tuple ⟨[.int .i64 n, .int .i64 n_1, .int .i64 n_2]⟩ ∧ ∃ b, lD 4 H' (Addr.add x 2) (.bool b) ∧ brB (!b) (∃ H'_1, sT 4 H' (Addr.add x 2) (.bool false) H'_1 ∧ R (.int .i64 0) H'_1)
 (brB (n_2 != 0) (∃ H'_1, sT 4 H' (Addr.add x 2) (.bool false) H'_1 ∧ R (.int .i64 0) H'_1) (∃ H'_1, sT 3 H' (Addr.add x 1) (.int .i64 n_1) H'_1 ∧ R (.int .i64 n) H'_1))) : CallH Tryz.prog 77
 (List.toArray [.pointer (some x)]) H R := vc_call (annOf [([0, 1], .reg [0, 1, 3, 7, 0, 16, 48, 112, 255, 511, 1023, 1023, 1023, 2047, 12287, 32767] (.quiet 0 (.quiet 1 (.quiet 2 (.quiet 3 (.quiet 4
 (.quiet 5 (.quiet 6 (.quiet 7 (.pick (.alt 8 (.quiet 9 (.quiet 10 (.quiet 11 (.quiet 12 (.quiet 13 (.quiet 14 (.quiet 15 .done))))))) .stop)))))))))))]) followsAll Tryz.func77 rfl Tryz.ntmps77 rfl
 rfl (Eq.mpr (by kernel_rfl) h)
abbrev fn_wal_forms_5 : Nat := 78
theorem vc_wal_forms_5 (r : Addr) (H : Heap) (R : Value → Heap → Prop) (h : ∃ a n c, lD 37 H (Addr.add r 3) (.slice a n c) ∧ ∀ (b : Nat) (H' : Heap), New H b (.cells ⟨[.int .i64 (↑n : Int)]⟩ 3) H' →
 cS 53 [.slice (some ⟨b, 0, none⟩) 1 1] H' fun s H' => ∃ a n c, lD 37 H' (Addr.add r 3) (.slice a n c) ∧ ∃ (I : IV) (μ : MU), I [.string s, .int .i64 0] H' ∧ ∀ (J : F) (s : ByteArray) (n_1 : Int) (H'
 : Heap), I [.string s, .int .i64 n_1] H' → brB (decide (n_1 < (↑n : Int))) (ix a n_1 n fun ad => (∃ n n_2 n_3, lD 115 H' (Addr.add ad (Int.toNat n_1 * 3)) (.agg ⟨[.int .i64 n, .int .i64 n_2, .int
 .i64 n_3]⟩) ∧ ∀ (b : Nat) (H'_1 : Heap), New H' b (.cells ⟨[.int .i64 0, .int .i64 0, .int .i64 0]⟩ 115) H'_1 → ∃ H'_2, sT 115 H'_1 ⟨b, 0, none⟩ (.agg ⟨[.int .i64 n, .int .i64 n_2, .int .i64 n_3]⟩)
 H'_2 ∧ ∃ n, lD 3 H'_2 ⟨b, 0, none⟩ (.int .i64 n) ∧ ∃ n_4, lD 3 H'_2 ⟨b, 1, none⟩ (.int .i64 n_4) ∧ ∃ n_5, lD 3 H'_2 ⟨b, 2, none⟩ (.int .i64 n_5) ∧ ∀ (b : Nat) (H'_3 : Heap), New H'_2 b (.cells
 ⟨[.int .i64 n, .int .i64 n_4, .int .i64 n_5]⟩ 3) H'_3 → cS 53 [.slice (some ⟨b, 0, none⟩) 3 3] H'_3 fun s_1 H'_4 => chk (decide (ByteArray.size s + ByteArray.size s_1 ≤ 9223372036854775807)) (I
 [.string (s ++ s_1), .int .i64 (IntKind.wrap .i64 (n_1 + 1))] H'_4 ∧ μ [.string (s ++ s_1), .int .i64 (IntKind.wrap .i64 (n_1 + 1))] H'_4 < μ [.string s, .int .i64 n_1] H'))) (R (.tuple ⟨[.string s,
 .int .i64 0]⟩) H')) : CallH Tryz.prog 78 (List.toArray [.pointer (some r)]) H R := vc_call (annOf [([0, 1, 0, 1, 1], .cut [(4, .one .str), (19, .one (.int .i64))])]) followsAll Tryz.func78 rfl
 Tryz.ntmps78 rfl rfl (Eq.mpr (by kernel_rfl) h)
abbrev fn_wal_forms_6 : Nat := 79
theorem vc_wal_forms_6 (r : Addr) (x : Addr) (H : Heap) (R : Value → Heap → Prop) (h : cI 42 [.pointer (some x), .int .i64 5000] H fun n H' => ∃ (I : IV) (μ : MU), I [] H' ∧ ∀ (J : F) (H' : Heap), I
 [] H' → ∃ (M : IV), (∃ b, lD 4 H' (Addr.add x 2) (.bool b) ∧ brB b (∃ a n_1 c, lD 37 H' (Addr.add r 3) (.slice a n_1 c) ∧ brB (decide ((↑n_1 : Int) < n)) (M [] H') (R (.tuple ⟨[]⟩) H')) (R (.tuple
 ⟨[]⟩) H')) ∧ ∀ (J : F) (H'_1 : Heap), M [] H'_1 → cI 42 [.pointer (some x), .int .i64 200] H'_1 fun n H'_2 => cI 42 [.pointer (some x), .int .i64 1099511627776] H'_2 fun n_1 H'_3 => cI 42 [.pointer
 (some x), .int .i64 1099511627776] H'_3 fun n_2 H'_4 => ∃ a n_3 c, lD 37 H'_4 (Addr.add r 3) (.slice a n_3 c) ∧ ∀ (b : Nat) (H'_5 : Heap), New H'_4 b (.cells ⟨[.int .i64 n, .int .i64 n_1, .int .i64
 n_2]⟩ 115) H'_5 → SemWp Tryz.prog (Builtin.append_ ⟨[37, 37]⟩ 37 ⟨[.slice a n_3 c, .slice (some ⟨b, 0, none⟩) 1 1]⟩) H'_5 fun v H'_6 => ∃ a n c, v = .slice a n c ∧ ∃ H'_7, sT 37 H'_6 (Addr.add r 3)
 (.slice a n c) H'_7 ∧ I [] H'_7 ∧ μ [] H'_7 < μ [] H') : CallH Tryz.prog 79 (List.toArray [.pointer (some r), .pointer (some x)]) H R := vc_call (annOf [([0, 1], .cut []), ([0, 0, 1], .cut [])])
 followsAll Tryz.func79 rfl Tryz.ntmps79 rfl rfl (Eq.mpr (by kernel_rfl) h)
abbrev fn_wal_forms_7 : Nat := 80
theorem vc_wal_forms_7 (r : Addr) (H : Heap) (R : Value → Heap → Prop) (h : ∃ n, lD 3 H (Addr.add r 4) (.int .i64 n) ∧ ∀ (b : Nat) (H' : Heap), New H b (.cells ⟨[.int .i64 n]⟩ 3) H' → cS 53 [.slice
 (some ⟨b, 0, none⟩) 1 1] H' fun s H' => R (.tuple ⟨[.string s, .int .i64 0]⟩) H') : CallH Tryz.prog 80 (List.toArray [.pointer (some r)]) H R := vc_call (annOf []) followsAll Tryz.func80 rfl
 Tryz.ntmps80 rfl rfl (Eq.mpr (by kernel_rfl) h)
abbrev fn_wal_forms_8 : Nat := 81
theorem vc_wal_forms_8 (r : Addr) (x : Addr) (H : Heap) (R : Value → Heap → Prop) (h : cI 42 [.pointer (some x), .int .i64 1099511627776] H fun n H' => ∃ H'_1, sT 3 H' (Addr.add r 4) (.int .i64 n)
 H'_1 ∧ R (.tuple ⟨[]⟩) H'_1) : CallH Tryz.prog 81 (List.toArray [.pointer (some r), .pointer (some x)]) H R := vc_call (annOf []) followsAll Tryz.func81 rfl Tryz.ntmps81 rfl rfl (Eq.mpr (by
 kernel_rfl) h)
abbrev fn_wal_within : Nat := 82
theorem vc_wal_within (n : Int) (most : Int) (H : Heap) (R : Value → Heap → Prop) (h : brB (decide (n ≥ 0)) (R (.bool (decide (n ≤ most))) H) (R (.bool false) H)) : CallH Tryz.prog 82 (List.toArray
 [.int .i64 n, .int .i64 most]) H R := vc_call (annOf []) followsAll Tryz.func82 rfl Tryz.ntmps82 rfl rfl (Eq.mpr (by kernel_rfl) h)
theorem vc_files_Store_Delete_1 (now : Option Nat) (a1 : Addr) (H : Heap) (R : Value → Heap → Prop) (h : ∃ s, lD 9 H a1 (.string s) ∧ SemWp Tryz.prog (Builtin.delete_ ⟨[78, 9]⟩ 0 ⟨[.map now, .string
 s]⟩) H fun v H' => v = .tuple ⟨[]⟩ ∧ R (.tuple ⟨[]⟩) H') : CallH Tryz.prog 83 (List.toArray [.map now, .pointer (some a1)]) H R := vc_call (annOf []) followsAll Tryz.func83 rfl Tryz.ntmps83 rfl rfl
 (Eq.mpr (by kernel_rfl) h)
abbrev fn_ref10_Without : Nat := 84
theorem vc_ref10_Without (l_a : Option Addr) (l_n : Nat) (l_c : Nat) (name : ByteArray) (H : Heap) (R : Value → Heap → Prop) (h : ∀ (b : Nat) (H' : Heap), New H b (.cells ⟨[]⟩ 91) H' → ∃ (I : IV) (μ
 : MU), I [.slice (some ⟨b, 0, none⟩) 0 0, .int .i64 0] H' ∧ ∀ (J : F) (a : Option Addr) (n c : Nat) (n_1 : Int) (H' : Heap), I [.slice a n c, .int .i64 n_1] H' → brB (decide (n_1 < (↑l_n : Int)))
 (ix l_a n_1 l_n fun ad => (∃ s, lD 9 H' (Addr.add ad (Int.toNat n_1 * 3)) (.string s) ∧ brB (!ByteArray.toList s == ByteArray.toList name) (ix l_a n_1 l_n fun ad => (∃ s s_1 a_2 n_2 c_1, lD 91 H'
 (Addr.add ad (Int.toNat n_1 * 3)) (.agg ⟨[.string s, .string s_1, .slice a_2 n_2 c_1]⟩) ∧ ∀ (b : Nat) (H'_1 : Heap), New H' b (.cells ⟨[.string s, .string s_1, .slice a_2 n_2 c_1]⟩ 91) H'_1 → SemWp
 Tryz.prog (Builtin.append_ ⟨[86, 86]⟩ 86 ⟨[.slice a n c, .slice (some ⟨b, 0, none⟩) 1 1]⟩) H'_1 fun v H'_2 => ∃ a_4 n_3 c_2, v = .slice a_4 n_3 c_2 ∧ I [.slice a_4 n_3 c_2, .int .i64 (IntKind.wrap
 .i64 (n_1 + 1))] H'_2 ∧ μ [.slice a_4 n_3 c_2, .int .i64 (IntKind.wrap .i64 (n_1 + 1))] H'_2 < μ [.slice a n c, .int .i64 n_1] H')) (I [.slice a n c, .int .i64 (IntKind.wrap .i64 (n_1 + 1))] H' ∧ μ
 [.slice a n c, .int .i64 (IntKind.wrap .i64 (n_1 + 1))] H' < μ [.slice a n c, .int .i64 n_1] H'))) (R (.slice a n c) H')) : CallH Tryz.prog 84 (List.toArray [.slice l_a l_n l_c, .string name]) H R
 := vc_call (annOf [([0, 1, 0, 1, 1], .cut [(5, .one .slice), (6, .one (.int .i64))])]) followsAll Tryz.func84 rfl Tryz.ntmps84 rfl rfl (Eq.mpr (by kernel_rfl) h)
abbrev fn_block_Disk_Read : Nat := 85
theorem vc_block_Disk_Read (d : Addr) (i : Int) (H : Heap) (R : Value → Heap → Prop) (h : ∃ (M : IV), (∃ b, lD 4 H (Addr.add d 514) (.bool b) ∧ brB b (R (.tuple ⟨[.string { data := #[] }, .int .i64
 90]⟩) H) (brB (decide (i < 0)) (R (.tuple ⟨[.string { data := #[] }, .int .i64 91]⟩) H) (∃ n, lD 3 H d (.int .i64 n) ∧ brB (decide (i ≥ n)) (R (.tuple ⟨[.string { data := #[] }, .int .i64 91]⟩) H)
 (M [] H)))) ∧ ∀ (J : F) (H' : Heap), M [] H' → ∃ r, lD 123 H' (Addr.add d 513) (.map r) ∧ ∃ a n c, Rd Tryz.prog (Instr.lookup 123 (.map r) (.int .i64 i) false) H' (.slice a n c) ∧ brB (decide ((↑n :
 Int) > 0)) (ix a (IntKind.wrap .i64 ((↑n : Int) - 1)) n fun ad => (∃ s, lD 9 H' (Addr.add ad (Int.toNat (IntKind.wrap .i64 ((↑n : Int) - 1)) * 1)) (.string s) ∧ R (.tuple ⟨[.string s, .int .i64 0]⟩)
 H')) (chk (decide (0 ≤ i ∧ i < (↑512 : Int))) (∃ s, lD 9 H' (Addr.add (Addr.add d 1) (Int.toNat i * 1)) (.string s) ∧ R (.tuple ⟨[.string s, .int .i64 0]⟩) H'))) : CallH Tryz.prog 85 (List.toArray
 [.pointer (some d), .int .i64 i]) H R := vc_call (annOf [([1], .cut [])]) followsAll Tryz.func85 rfl Tryz.ntmps85 rfl rfl (Eq.mpr (by kernel_rfl) h)
abbrev fn_files_scan_number : Nat := 86
theorem vc_files_scan_number (x : Addr) (H : Heap) (R : Value → Heap → Prop) (h : ∃ s, lD 9 H (Addr.add x 1) (.string s) ∧ ∃ n, lD 3 H (Addr.add x 2) (.int .i64 n) ∧ cH 69 ⟨[.string s, .int .i64 n]⟩
 H fun v H' => ∃ n n_1 n_2, v = .tuple ⟨[.int .u64 n, .int .i64 n_1, .int .i64 n_2]⟩ ∧ ∃ (M : IV), (∃ (M_1 : IV), brB (n_2 != 0) (M_1 [.bool true] H') (brB (decide (n > 1152921504606846976)) (M_1
 [.bool true] H') (∃ b, lD 4 H' (Addr.add x 3) (.bool b) ∧ M_1 [.bool !b] H')) ∧ ∀ (J : F) (b : Bool) (H' : Heap), M_1 [.bool b] H' → brB b (∃ H'_1, sT 4 H' (Addr.add x 3) (.bool false) H'_1 ∧ R
 (.int .i64 0) H'_1) (M [] H')) ∧ ∀ (J : F) (H' : Heap), M [] H' → ∃ H'_1, sT 3 H' (Addr.add x 2) (.int .i64 n_1) H'_1 ∧ R (.int .i64 (IntKind.wrap .i64 n)) H'_1) : CallH Tryz.prog 86 (List.toArray
 [.pointer (some x)]) H R := vc_call (annOf [([0, 1], .reg [0, 1, 3, 7, 0, 16, 48, 112, 255, 511, 1023, 1023, 1023, 2047, 12287, 32767] (.quiet 0 (.quiet 1 (.quiet 2 (.quiet 3 (.quiet 4 (.quiet 5
 (.quiet 6 (.quiet 7 (.pick (.alt 8 (.quiet 9 (.quiet 10 (.quiet 11 (.quiet 12 (.quiet 13 (.quiet 14 (.quiet 15 .done))))))) .stop))))))))))), ([1, 1], .cut []), ([0, 1, 1], .cut [(31, .one
 .bool)])]) followsAll Tryz.func86 rfl Tryz.ntmps86 rfl rfl (Eq.mpr (by kernel_rfl) h)
abbrev fn_ref09_Disk_Read : Nat := 89
theorem vc_ref09_Disk_Read (d : Addr) (i : Int) (H : Heap) (R : Value → Heap → Prop) (h : ∃ b, lD 4 H (Addr.add d 2) (.bool b) ∧ brB b (R (.tuple ⟨[.string { data := #[] }, .int .i64 90]⟩) H) (∃ (M
 : IV), brB (decide (i < 0)) (R (.tuple ⟨[.string { data := #[] }, .int .i64 91]⟩) H) (∃ a n c, lD 92 H d (.slice a n c) ∧ brB (decide (i ≥ (↑n : Int))) (R (.tuple ⟨[.string { data := #[] }, .int
 .i64 91]⟩) H) (M [] H)) ∧ ∀ (J : F) (H' : Heap), M [] H' → ∃ a n c, lD 128 H' (Addr.add d 1) (.slice a n c) ∧ ix a i n fun ad => (∃ a n c, lD 92 H' (Addr.add ad (Int.toNat i * 1)) (.slice a n c) ∧
 brB (decide ((↑n : Int) > 0)) (ix a (IntKind.wrap .i64 ((↑n : Int) - 1)) n fun ad => (∃ s, lD 9 H' (Addr.add ad (Int.toNat (IntKind.wrap .i64 ((↑n : Int) - 1)) * 1)) (.string s) ∧ R (.tuple
 ⟨[.string s, .int .i64 0]⟩) H')) (∃ a n c, lD 92 H' d (.slice a n c) ∧ ix a i n fun ad => (∃ s, lD 9 H' (Addr.add ad (Int.toNat i * 1)) (.string s) ∧ R (.tuple ⟨[.string s, .int .i64 0]⟩) H'))))) :
 CallH Tryz.prog 89 (List.toArray [.pointer (some d), .int .i64 i]) H R := vc_call (annOf [([1, 1], .cut [])]) followsAll Tryz.func89 rfl Tryz.ntmps89 rfl rfl (Eq.mpr (by kernel_rfl) h)
abbrev fn_ref01_GetUint : Nat := 90
theorem vc_ref01_GetUint (s : ByteArray) (at' : Int) (H : Heap) (R : Value → Heap → Prop) (h : ∃ (M : IV), brB (decide (at' < 0)) (R (.tuple ⟨[.int .u64 0, .int .i64 0, .int .i64 1]⟩) H) (brB
 (decide (at' > (↑(ByteArray.size s) : Int))) (R (.tuple ⟨[.int .u64 0, .int .i64 0, .int .i64 1]⟩) H) (M [] H)) ∧ ∀ (J : F) (H' : Heap), M [] H' → ∃ (I : IV) (μ : MU), I [.int .i64 0] H' ∧ ∀ (J : F)
 (n : Int) (H' : Heap), I [.int .i64 n] H' → ∃ (M : IV), brB (decide (n < 10)) (brB (decide (IntKind.wrap .i64 (at' + n) < (↑(ByteArray.size s) : Int))) (chk (decide (0 ≤ IntKind.wrap .i64 (at' + n)
 ∧ IntKind.wrap .i64 (at' + n) < (↑(ByteArray.size s) : Int))) (brB (decide ((↑(atB s (Int.toNat (IntKind.wrap .i64 (at' + n)))) : Int) > 127)) (M [] H') (brB (n == 10) (R (.tuple ⟨[.int .u64 0, .int
 .i64 0, .int .i64 11]⟩) H') (brB (IntKind.wrap .i64 (at' + n) == (↑(ByteArray.size s) : Int)) (R (.tuple ⟨[.int .u64 0, .int .i64 0, .int .i64 10]⟩) H') (∃ (I : IV) (μ : MU), I [.int .u64 0, .int
 .i64 n] H' ∧ ∀ (J : F) (n_1 n_2 : Int) (H' : Heap), I [.int .u64 n_1, .int .i64 n_2] H' → brB (decide (n_2 ≥ 0)) (brB (decide (n_1 > 144115188075855871)) (R (.tuple ⟨[.int .u64 0, .int .i64 0, .int
 .i64 11]⟩) H') (chk (decide (0 ≤ IntKind.wrap .i64 (at' + n_2) ∧ IntKind.wrap .i64 (at' + n_2) < (↑(ByteArray.size s) : Int))) (I [.int .u64 (IntKind.wrap .u64 (IntKind.wrap .u64 (n_1 * 128) +
 IntKind.wrap .u64 (Int.tmod (↑(atB s (Int.toNat (IntKind.wrap .i64 (at' + n_2)))) : Int) 128))), .int .i64 (IntKind.wrap .i64 (n_2 - 1))] H' ∧ μ [.int .u64 (IntKind.wrap .u64 (IntKind.wrap .u64 (n_1
 * 128) + IntKind.wrap .u64 (Int.tmod (↑(atB s (Int.toNat (IntKind.wrap .i64 (at' + n_2)))) : Int) 128))), .int .i64 (IntKind.wrap .i64 (n_2 - 1))] H' < μ [.int .u64 n_1, .int .i64 n_2] H'))) (chk
 (decide (0 ≤ at' ∧ at' ≤ IntKind.wrap .i64 (IntKind.wrap .i64 (at' + n) + 1) ∧ IntKind.wrap .i64 (IntKind.wrap .i64 (at' + n) + 1) ≤ (↑(ByteArray.size s) : Int))) (cS 96 [.int .u64 n_1] H' fun s_1
 H' => brB (!ByteArray.toList s_1 == ByteArray.toList (ByteArray.extract s (Int.toNat at') (Int.toNat (IntKind.wrap .i64 (IntKind.wrap .i64 (at' + n) + 1))))) (R (.tuple ⟨[.int .u64 0, .int .i64 0,
 .int .i64 11]⟩) H') (R (.tuple ⟨[.int .u64 n_1, .int .i64 (IntKind.wrap .i64 (IntKind.wrap .i64 (at' + n) + 1)), .int .i64 0]⟩) H')))))))) (brB (n == 10) (R (.tuple ⟨[.int .u64 0, .int .i64 0, .int
 .i64 11]⟩) H') (brB (IntKind.wrap .i64 (at' + n) == (↑(ByteArray.size s) : Int)) (R (.tuple ⟨[.int .u64 0, .int .i64 0, .int .i64 10]⟩) H') (∃ (I : IV) (μ : MU), I [.int .u64 0, .int .i64 n] H' ∧ ∀
 (J : F) (n_1 n_2 : Int) (H' : Heap), I [.int .u64 n_1, .int .i64 n_2] H' → brB (decide (n_2 ≥ 0)) (brB (decide (n_1 > 144115188075855871)) (R (.tuple ⟨[.int .u64 0, .int .i64 0, .int .i64 11]⟩) H')
 (chk (decide (0 ≤ IntKind.wrap .i64 (at' + n_2) ∧ IntKind.wrap .i64 (at' + n_2) < (↑(ByteArray.size s) : Int))) (I [.int .u64 (IntKind.wrap .u64 (IntKind.wrap .u64 (n_1 * 128) + IntKind.wrap .u64
 (Int.tmod (↑(atB s (Int.toNat (IntKind.wrap .i64 (at' + n_2)))) : Int) 128))), .int .i64 (IntKind.wrap .i64 (n_2 - 1))] H' ∧ μ [.int .u64 (IntKind.wrap .u64 (IntKind.wrap .u64 (n_1 * 128) +
 IntKind.wrap .u64 (Int.tmod (↑(atB s (Int.toNat (IntKind.wrap .i64 (at' + n_2)))) : Int) 128))), .int .i64 (IntKind.wrap .i64 (n_2 - 1))] H' < μ [.int .u64 n_1, .int .i64 n_2] H'))) (chk (decide (0
 ≤ at' ∧ at' ≤ IntKind.wrap .i64 (IntKind.wrap .i64 (at' + n) + 1) ∧ IntKind.wrap .i64 (IntKind.wrap .i64 (at' + n) + 1) ≤ (↑(ByteArray.size s) : Int))) (cS 96 [.int .u64 n_1] H' fun s_1 H' => brB
 (!ByteArray.toList s_1 == ByteArray.toList (ByteArray.extract s (Int.toNat at') (Int.toNat (IntKind.wrap .i64 (IntKind.wrap .i64 (at' + n) + 1))))) (R (.tuple ⟨[.int .u64 0, .int .i64 0, .int .i64
 11]⟩) H') (R (.tuple ⟨[.int .u64 n_1, .int .i64 (IntKind.wrap .i64 (IntKind.wrap .i64 (at' + n) + 1)), .int .i64 0]⟩) H'))))))) (brB (n == 10) (R (.tuple ⟨[.int .u64 0, .int .i64 0, .int .i64 11]⟩)
 H') (brB (IntKind.wrap .i64 (at' + n) == (↑(ByteArray.size s) : Int)) (R (.tuple ⟨[.int .u64 0, .int .i64 0, .int .i64 10]⟩) H') (∃ (I : IV) (μ : MU), I [.int .u64 0, .int .i64 n] H' ∧ ∀ (J : F)
 (n_1 n_2 : Int) (H' : Heap), I [.int .u64 n_1, .int .i64 n_2] H' → brB (decide (n_2 ≥ 0)) (brB (decide (n_1 > 144115188075855871)) (R (.tuple ⟨[.int .u64 0, .int .i64 0, .int .i64 11]⟩) H') (chk
 (decide (0 ≤ IntKind.wrap .i64 (at' + n_2) ∧ IntKind.wrap .i64 (at' + n_2) < (↑(ByteArray.size s) : Int))) (I [.int .u64 (IntKind.wrap .u64 (IntKind.wrap .u64 (n_1 * 128) + IntKind.wrap .u64
 (Int.tmod (↑(atB s (Int.toNat (IntKind.wrap .i64 (at' + n_2)))) : Int) 128))), .int .i64 (IntKind.wrap .i64 (n_2 - 1))] H' ∧ μ [.int .u64 (IntKind.wrap .u64 (IntKind.wrap .u64 (n_1 * 128) +
 IntKind.wrap .u64 (Int.tmod (↑(atB s (Int.toNat (IntKind.wrap .i64 (at' + n_2)))) : Int) 128))), .int .i64 (IntKind.wrap .i64 (n_2 - 1))] H' < μ [.int .u64 n_1, .int .i64 n_2] H'))) (chk (decide (0
 ≤ at' ∧ at' ≤ IntKind.wrap .i64 (IntKind.wrap .i64 (at' + n) + 1) ∧ IntKind.wrap .i64 (IntKind.wrap .i64 (at' + n) + 1) ≤ (↑(ByteArray.size s) : Int))) (cS 96 [.int .u64 n_1] H' fun s_1 H' => brB
 (!ByteArray.toList s_1 == ByteArray.toList (ByteArray.extract s (Int.toNat at') (Int.toNat (IntKind.wrap .i64 (IntKind.wrap .i64 (at' + n) + 1))))) (R (.tuple ⟨[.int .u64 0, .int .i64 0, .int .i64
 11]⟩) H') (R (.tuple ⟨[.int .u64 n_1, .int .i64 (IntKind.wrap .i64 (IntKind.wrap .i64 (at' + n) + 1)), .int .i64 0]⟩) H')))))) ∧ ∀ (J : F) (H'_1 : Heap), M [] H'_1 → I [.int .i64 (IntKind.wrap .i64
 (n + 1))] H'_1 ∧ μ [.int .i64 (IntKind.wrap .i64 (n + 1))] H'_1 < μ [.int .i64 n] H') : CallH Tryz.prog 90 (List.toArray [.string s, .int .i64 at']) H R := vc_call (annOf [([1], .cut []), ([0, 0, 1,
 1, 1], .cut [(7, .one (.int .i64))]), ([0, 0, 0, 1, 1, 1], .cut []), ([0, 1, 0, 1, 1, 1, 1, 1, 1, 1], .cut [(8, .one (.int .u64)), (9, .one (.int .i64))]), ([0, 0, 1, 1, 1, 1, 1, 1, 1, 1], .reg [0,
 1, 0, 0, 0, 0, 48, 112, 252, 511] (.quiet 0 (.quiet 2 (.quiet 3 (.quiet 4 (.quiet 5 (.quiet 6 (.quiet 7 (.quiet 8 (.pick (.alt 1 (.quiet 9 .done) .stop)))))))))))]) followsAll Tryz.func90 rfl
 Tryz.ntmps90 rfl rfl (Eq.mpr (by kernel_rfl) h)
abbrev fn_zig_Uint : Nat := 92
theorem vc_zig_Uint (n : Int) (H : Heap) (R : Value → Heap → Prop) (h : SemWp Tryz.prog (Instr.makeSlice 65 (.int .i64 0) (.int .i64 10)) H fun v H' => ∃ a n_1 c, v = .slice a n_1 c ∧ ∃ (I : IV) (μ
 : MU), I [.int .u64 n, .slice a n_1 c] H' ∧ ∀ (J : F) (n : Int) (a : Option Addr) (n_2 c : Nat) (H' : Heap), I [.int .u64 n, .slice a n_2 c] H' → brB (decide (n ≥ 128)) (∀ (b : Nat) (H'_1 : Heap),
 New H' b (.cells ⟨[.int .u8 (IntKind.wrap .u8 (↑(BitVec.toNat (BitVec.ofInt 8 (IntKind.wrap .u8 n) ||| BitVec.ofInt 8 128)) : Int))]⟩ 5) H'_1 → SemWp Tryz.prog (Builtin.append_ ⟨[65, 65]⟩ 65
 ⟨[.slice a n_2 c, .slice (some ⟨b, 0, none⟩) 1 1]⟩) H'_1 fun v H'_2 => ∃ a_3 n_3 c_1, v = .slice a_3 n_3 c_1 ∧ I [.int .u64 (Int.fdiv n (2 ^ 7)), .slice a_3 n_3 c_1] H'_2 ∧ μ [.int .u64 (Int.fdiv n
 (2 ^ 7)), .slice a_3 n_3 c_1] H'_2 < μ [.int .u64 n, .slice a n_2 c] H') (∀ (b : Nat) (H'_1 : Heap), New H' b (.cells ⟨[.int .u8 (IntKind.wrap .u8 n)]⟩ 5) H'_1 → SemWp Tryz.prog (Builtin.append_
 ⟨[65, 65]⟩ 65 ⟨[.slice a n_2 c, .slice (some ⟨b, 0, none⟩) 1 1]⟩) H'_1 fun v H' => ∃ a n c, v = .slice a n c ∧ SemWp Tryz.prog (convert 65 9 (.slice a n c)) H' fun v H' => ∃ s, v = .string s ∧ R
 (.string s) H')) : CallH Tryz.prog 92 (List.toArray [.int .u64 n]) H R := vc_call (annOf [([0, 0, 1, 1], .cut [(0, .one (.int .u64)), (3, .one .slice)])]) followsAll Tryz.func92 rfl Tryz.ntmps92 rfl
 rfl (Eq.mpr (by kernel_rfl) h)
abbrev fn_ref11_time : Nat := 94
theorem vc_ref11_time (t : Int) (H : Heap) (R : Value → Heap → Prop) (h : brB (decide (t ≥ 0)) (R (.bool (decide (t ≤ 1099511627776))) H) (R (.bool false) H)) : CallH Tryz.prog 94 (List.toArray
 [.int .i64 t]) H R := vc_call (annOf []) followsAll Tryz.func94 rfl Tryz.ntmps94 rfl rfl (Eq.mpr (by kernel_rfl) h)
abbrev fn_ref11_id : Nat := 95
theorem vc_ref11_id (n : Int) (H : Heap) (R : Value → Heap → Prop) (h : brB (decide (n ≥ 0)) (R (.bool (decide (n < 200))) H) (R (.bool false) H)) : CallH Tryz.prog 95 (List.toArray [.int .i64 n]) H
 R := vc_call (annOf []) followsAll Tryz.func95 rfl Tryz.ntmps95 rfl rfl (Eq.mpr (by kernel_rfl) h)
abbrev fn_ref01_Uint : Nat := 96
theorem vc_ref01_Uint (n : Int) (H : Heap) (R : Value → Heap → Prop) (h : ∃ (I : IV) (μ : MU), I [.int .u64 n, .string { data := #[] }] H ∧ ∀ (J : F) (n : Int) (s : ByteArray) (H' : Heap), I [.int
 .u64 n, .string s] H' → brB (decide (n > 127)) (∀ (b : Nat) (H'_1 : Heap), New H' b (.cells ⟨[.int .u8 (IntKind.wrap .u8 (IntKind.wrap .u64 (Int.tmod n 128 + 128)))]⟩ 5) H'_1 → SemWp Tryz.prog
 (convert 65 9 (.slice (some ⟨b, 0, none⟩) 1 1)) H'_1 fun v H'_2 => ∃ s_1, v = .string s_1 ∧ chk (decide (ByteArray.size s + ByteArray.size s_1 ≤ 9223372036854775807)) (I [.int .u64 (IntKind.wrap
 .u64 (Int.tdiv n 128)), .string (s ++ s_1)] H'_2 ∧ μ [.int .u64 (IntKind.wrap .u64 (Int.tdiv n 128)), .string (s ++ s_1)] H'_2 < μ [.int .u64 n, .string s] H')) (∀ (b : Nat) (H'_1 : Heap), New H' b
 (.cells ⟨[.int .u8 (IntKind.wrap .u8 n)]⟩ 5) H'_1 → SemWp Tryz.prog (convert 65 9 (.slice (some ⟨b, 0, none⟩) 1 1)) H'_1 fun v H' => ∃ s_1, v = .string s_1 ∧ chk (decide (ByteArray.size s +
 ByteArray.size s_1 ≤ 9223372036854775807)) (R (.string (s ++ s_1)) H'))) : CallH Tryz.prog 96 (List.toArray [.int .u64 n]) H R := vc_call (annOf [([0, 0, 1, 1], .cut [(0, .one (.int .u64)), (3, .one
 .str)])]) followsAll Tryz.func96 rfl Tryz.ntmps96 rfl rfl (Eq.mpr (by kernel_rfl) h)
abbrev fn_ref04_Check : Nat := 97
theorem vc_ref04_Check (l_a : Option Addr) (l_n : Nat) (l_c : Nat) (H : Heap) (R : Value → Heap → Prop) (h : brB (decide ((↑l_n : Int) > 8)) (R (.int .i64 40) H) (∃ (I : IV) (μ : MU), I [.int .i64
 0] H ∧ ∀ (J : F) (n : Int) (H' : Heap), I [.int .i64 n] H' → brB (decide (n < (↑l_n : Int))) (∃ (M : IV), (ix l_a n l_n fun ad => (∃ s, lD 9 H' (Addr.add ad (Int.toNat n * 2)) (.string s) ∧ cB 122
 [.string s] H' fun b H' => brB (!b) (R (.int .i64 40) H') (ix l_a n l_n fun ad => (∃ s, lD 9 H' (Addr.add (Addr.add ad (Int.toNat n * 2)) 1) (.string s) ∧ cB 123 [.string s] H' fun b H' => brB (!b)
 (R (.int .i64 40) H') (ix l_a n l_n fun ad => (∃ s, lD 9 H' (Addr.add (Addr.add ad (Int.toNat n * 2)) 1) (.string s) ∧ brB (ByteArray.toList s == ByteArray.toList { data := #[] }) (R (.int .i64 40)
 H') (brB (decide (n > 0)) (ix l_a n l_n fun ad => (∃ s, lD 9 H' (Addr.add ad (Int.toNat n * 2)) (.string s) ∧ ix l_a (IntKind.wrap .i64 (n - 1)) l_n fun ad => (∃ s_1, lD 9 H' (Addr.add ad (Int.toNat
 (IntKind.wrap .i64 (n - 1)) * 2)) (.string s_1) ∧ brB (Op.bytesLess (ByteArray.toList s) (ByteArray.toList s_1) || ByteArray.toList s == ByteArray.toList s_1) (R (.int .i64 40) H') (M [] H')))) (M
 [] H')))))))) ∧ ∀ (J : F) (H'_1 : Heap), M [] H'_1 → I [.int .i64 (IntKind.wrap .i64 (n + 1))] H'_1 ∧ μ [.int .i64 (IntKind.wrap .i64 (n + 1))] H'_1 < μ [.int .i64 n] H') (R (.int .i64 0) H'))) :
 CallH Tryz.prog 97 (List.toArray [.slice l_a l_n l_c]) H R := vc_call (annOf [([0, 1, 0, 1, 1], .cut [(3, .one (.int .i64))]), ([1, 0, 0, 1, 0, 1, 1], .cut []), ([0, 0, 0, 1, 0, 0, 1, 0, 1, 1], .reg
 [0, 0, 3, 7, 15, 31, 63, 127, 255, 255, 1023, 2047, 4095, 8191, 16383, 32767, 65535, 131071, 131071, 524287, 1048575, 2097151, 4194303, 8388607, 16777215, 33554431, 67108863, 134217727, 268435455,
 268435455, 1073741823, 2147483647, 4294967295, 268435455, 268435455, 17448304639, 60397977599, 129117454335, 266556407807, 549755813887, 1099511627775, 2199023255551] (.quiet 0 (.quiet 1 (.quiet 2
 (.quiet 3 (.quiet 4 (.pick (.alt 5 (.quiet 6 (.quiet 7 (.quiet 8 (.quiet 9 (.quiet 10 (.quiet 11 (.quiet 12 (.pick (.alt 13 (.quiet 14 (.quiet 15 (.quiet 16 (.quiet 17 (.quiet 18 (.quiet 19 (.quiet
 20 (.quiet 21 (.quiet 22 (.quiet 23 (.quiet 24 (.quiet 25 (.quiet 26 (.quiet 27 (.quiet 28 (.quiet 29 (.quiet 30 (.quiet 31 (.quiet 32 (.quiet 33 (.quiet 34 (.quiet 35 (.quiet 36 (.quiet 37 (.quiet
 38 (.quiet 39 (.quiet 40 (.quiet 41 .done)))))))))))))))))))))))))))) .stop))))))))) .stop))))))))]) followsAll Tryz.func97 rfl Tryz.ntmps97 rfl rfl (Eq.mpr (by kernel_rfl) h)
abbrev fn_ref04_Quote : Nat := 98
theorem vc_ref04_Quote (s : ByteArray) (H : Heap) (R : Value → Heap → Prop) (h : ∃ (I : IV) (μ : MU), I [.string { data := #[] }, .int .i64 0] H ∧ ∀ (J : F) (s_1 : ByteArray) (n : Int) (H' : Heap),
 I [.string s_1, .int .i64 n] H' → brB (decide (n < (↑(ByteArray.size s) : Int))) (chk (decide (0 ≤ n ∧ n < (↑(ByteArray.size s) : Int))) (brB ((↑(atB s (Int.toNat n)) : Int) == 34) (chk (decide
 (ByteArray.size s_1 + 2 ≤ 9223372036854775807)) (I [.string (s_1 ++ { data := #[(92 : UInt8), (34 : UInt8)] }), .int .i64 (IntKind.wrap .i64 (n + 1))] H' ∧ μ [.string (s_1 ++ { data := #[(92 :
 UInt8), (34 : UInt8)] }), .int .i64 (IntKind.wrap .i64 (n + 1))] H' < μ [.string s_1, .int .i64 n] H')) (brB ((↑(atB s (Int.toNat n)) : Int) == 92) (chk (decide (ByteArray.size s_1 + 2 ≤
 9223372036854775807)) (I [.string (s_1 ++ { data := #[(92 : UInt8), (92 : UInt8)] }), .int .i64 (IntKind.wrap .i64 (n + 1))] H' ∧ μ [.string (s_1 ++ { data := #[(92 : UInt8), (92 : UInt8)] }), .int
 .i64 (IntKind.wrap .i64 (n + 1))] H' < μ [.string s_1, .int .i64 n] H')) (brB ((↑(atB s (Int.toNat n)) : Int) == 10) (chk (decide (ByteArray.size s_1 + 2 ≤ 9223372036854775807)) (I [.string (s_1 ++
 { data := #[(92 : UInt8), (110 : UInt8)] }), .int .i64 (IntKind.wrap .i64 (n + 1))] H' ∧ μ [.string (s_1 ++ { data := #[(92 : UInt8), (110 : UInt8)] }), .int .i64 (IntKind.wrap .i64 (n + 1))] H' < μ
 [.string s_1, .int .i64 n] H')) (chk (decide (0 ≤ n ∧ n ≤ IntKind.wrap .i64 (n + 1) ∧ IntKind.wrap .i64 (n + 1) ≤ (↑(ByteArray.size s) : Int))) (chk (decide (ByteArray.size s_1 + ByteArray.size
 (ByteArray.extract s (Int.toNat n) (Int.toNat (IntKind.wrap .i64 (n + 1)))) ≤ 9223372036854775807)) (I [.string (s_1 ++ ByteArray.extract s (Int.toNat n) (Int.toNat (IntKind.wrap .i64 (n + 1)))),
 .int .i64 (IntKind.wrap .i64 (n + 1))] H' ∧ μ [.string (s_1 ++ ByteArray.extract s (Int.toNat n) (Int.toNat (IntKind.wrap .i64 (n + 1)))), .int .i64 (IntKind.wrap .i64 (n + 1))] H' < μ [.string s_1,
 .int .i64 n] H'))))))) (chk (decide (1 + ByteArray.size s_1 ≤ 9223372036854775807)) (chk (decide (ByteArray.size ({ data := #[(34 : UInt8)] } ++ s_1) + 1 ≤ 9223372036854775807)) (R (.string ({ data
 := #[(34 : UInt8)] } ++ s_1 ++ { data := #[(34 : UInt8)] })) H')))) : CallH Tryz.prog 98 (List.toArray [.string s]) H R := vc_call (annOf [([0, 1, 0, 1, 1], .cut [(3, .one .str), (4, .one (.int
 .i64))])]) followsAll Tryz.func98 rfl Tryz.ntmps98 rfl rfl (Eq.mpr (by kernel_rfl) h)
abbrev fn_ref01_Fold : Nat := 99
theorem vc_ref01_Fold (n : Int) (H : Heap) (R : Value → Heap → Prop) (h : brB (decide (n ≥ 0)) (R (.int .u64 (IntKind.wrap .u64 (2 * IntKind.wrap .u64 n))) H) (R (.int .u64 (IntKind.wrap .u64
 (IntKind.wrap .u64 (2 * IntKind.wrap .u64 (IntKind.wrap .i64 (0 - IntKind.wrap .i64 (n + 1)))) + 1))) H)) : CallH Tryz.prog 99 (List.toArray [.int .i64 n]) H R := vc_call (annOf []) followsAll
 Tryz.func99 rfl Tryz.ntmps99 rfl rfl (Eq.mpr (by kernel_rfl) h)
theorem vc_slices_Collect_int_ (seq : Value) (H : Heap) (R : Value → Heap → Prop) (h : cL 124 [.slice none 0 0, seq] H fun a n c H' => R (.slice a n c) H') : CallH Tryz.prog 101 (List.toArray [seq])
 H R := vc_call (annOf []) followsAll Tryz.func101 rfl Tryz.ntmps101 rfl rfl (Eq.mpr (by kernel_rfl) h)
theorem vc_files_Store_free (s : Addr) (H : Heap) (R : Value → Heap → Prop) (h : ∀ (b : Nat) (H' : Heap), New H b (.cells ⟨[.pointer (some s)]⟩ 24) H' → ∃ a, lD 24 H' ⟨b, 0, none⟩ (.pointer a) ∧ cM
 125 [.pointer a] H' fun r H' => ∀ (b_1 : Nat) (H'_1 : Heap), New H' b_1 (.cells ⟨[.map none]⟩ 161) H'_1 → ∃ H', sT 161 H'_1 ⟨b_1, 0, none⟩ (.map r) H' ∧ R (.func (Fn.func 126) ⟨[]⟩ ⟨[.pointer (some
 ⟨b, 0, none⟩), .pointer (some ⟨b_1, 0, none⟩)]⟩) H') : CallH Tryz.prog 102 (List.toArray [.pointer (some s)]) H R := vc_call (annOf []) followsAll Tryz.func102 rfl Tryz.ntmps102 rfl rfl (Eq.mpr (by
 kernel_rfl) h)
theorem vc_files_Store_planned_1 (c : ByteArray) (a1 : Addr) (a2 : Addr) (H : Heap) (R : Value → Heap → Prop) (h : ∃ n, lD 3 H (Addr.add a1 5) (.int .i64 n) ∧ ∃ H', sT 3 H (Addr.add a1 5) (.int .i64
 (IntKind.wrap .i64 (n + 1))) H' ∧ ∃ a n c_1, lD 80 H' a2 (.slice a n c_1) ∧ brB ((↑n : Int) == 0) (∃ H'_1, sT 4 H' (Addr.add a1 6) (.bool false) H'_1 ∧ R (.int .i64 500) H'_1) (∃ a n c_2, lD 80 H'
 a2 (.slice a n c_2) ∧ ix a (0) n fun ad => (∃ n, lD 3 H' ad (.int .i64 n) ∧ ∃ a n_1 c_3, lD 80 H' a2 (.slice a n_1 c_3) ∧ chk (decide ((0 : Int) ≤ (1 : Int) ∧ 1 ≤ (↑n_1 : Int) ∧ (↑n_1 : Int) ≤ (↑c_3
 : Int))) (∃ H'_1, sT 80 H' a2 (.slice (slA c_3 1 1 a) (Int.toNat (↑n_1 : Int) - 1) (c_3 - 1)) H'_1 ∧ ∃ a n_2 c_4, lD 141 H'_1 a1 (.slice a n_2 c_4) ∧ ∀ (b : Nat) (H' : Heap), New H'_1 b (.cells
 ⟨[.int .i64 n, .string c]⟩ 184) H' → SemWp Tryz.prog (Builtin.append_ ⟨[141, 141]⟩ 141 ⟨[.slice a n_2 c_4, .slice (some ⟨b, 0, none⟩) 1 1]⟩) H' fun v H' => ∃ a n_3 c, v = .slice a n_3 c ∧ ∃ H'_2, sT
 141 H' a1 (.slice a n_3 c) H'_2 ∧ R (.int .i64 n) H'_2)))) : CallH Tryz.prog 103 (List.toArray [.string c, .pointer (some a1), .pointer (some a2)]) H R := vc_call (annOf []) followsAll Tryz.func103
 rfl Tryz.ntmps103 rfl rfl (Eq.mpr (by kernel_rfl) h)
theorem vc_slices_Sorted_string_ (seq : Value) (H : Heap) (R : Value → Heap → Prop) (h : cL 127 [seq] H fun a n c H' => cU 128 [.slice a n c] H' fun H' => R (.slice a n c) H') : CallH Tryz.prog 104
 (List.toArray [seq]) H R := vc_call (annOf []) followsAll Tryz.func104 rfl Tryz.ntmps104 rfl rfl (Eq.mpr (by kernel_rfl) h)
theorem vc_maps_Keys_map_string_string_string_string_ (m : Option Nat) (H : Heap) (R : Value → Heap → Prop) (h : ∀ (b : Nat) (H' : Heap), New H b (.cells ⟨[.map m]⟩ 78) H' → R (.func (Fn.func 129)
 ⟨[]⟩ ⟨[.pointer (some ⟨b, 0, none⟩)]⟩) H') : CallH Tryz.prog 105 (List.toArray [.map m]) H R := vc_call (annOf []) followsAll Tryz.func105 rfl Tryz.ntmps105 rfl rfl (Eq.mpr (by kernel_rfl) h)
abbrev fn_files_chunks : Nat := 106
theorem vc_files_chunks (s : ByteArray) (H : Heap) (R : Value → Heap → Prop) (h : ∀ (b : Nat) (H' : Heap), New H b (.cells ⟨[.slice none 0 0]⟩ 92) H' → SemWp Tryz.prog (convert 9 65 (.string s)) H'
 fun v H' => ∃ a n c, v = .slice a n c ∧ cV 130 [.slice a n c, .int .i64 64] H' fun v_1 H' => ∀ (D l : Nat) (R0 : Loop) (H1 : Heap), NewL H' D l R0 H1 → (∀ (a : Option Addr) (n c : Nat) (H2 : Heap)
 (K2 : Value → Heap → Prop), Lp H2 l R0 LoopState.ready none → (Lp H2 l R0 LoopState.ready none ∧ ∃ a_2 n_1 c_1, lD 92 (setLp H2 l R0 LoopState.busy none) ⟨b, 0, none⟩ (.slice a_2 n_1 c_1) ∧ SemWp
 Tryz.prog (convert 65 9 (.slice a n c)) (setLp H2 l R0 LoopState.busy none) fun v H' => ∃ s, v = .string s ∧ ∀ (b_1 : Nat) (H'_1 : Heap), New H' b_1 (.cells ⟨[.string s]⟩ 9) H'_1 → SemWp Tryz.prog
 (Builtin.append_ ⟨[92, 92]⟩ 92 ⟨[.slice a_2 n_1 c_1, .slice (some ⟨b_1, 0, none⟩) 1 1]⟩) H'_1 fun v H' => ∃ a n c, v = .slice a n c ∧ ∃ H'_2, sT 92 H' ⟨b, 0, none⟩ (.slice a n c) H'_2 ∧ Lp H'_2 l R0
 LoopState.busy none ∧ K2 (.bool true) (setLp H'_2 l R0 LoopState.ready none)) → YieldH Tryz.prog l [.slice a n c] H2 fun a a_3 => K2 a a_3) → CallV Tryz.prog v_1 [.func (Fn.yield l) ⟨[]⟩ ⟨[]⟩] H1
 fun x H4 => (Lp H4 l R0 LoopState.ready none ∧ ∃ a n c, lD 92 (setLp H4 l R0 LoopState.exhausted none) ⟨b, 0, none⟩ (.slice a n c) ∧ Dq (setLp H4 l R0 LoopState.exhausted none) D ∧ R (.slice a n c)
 (shutD (setLp H4 l R0 LoopState.exhausted none) D)) ∨ Lp H4 l R0 LoopState.done (some Code.ret) ∧ Dq (setLp H4 l R0 LoopState.exhausted (some Code.ret)) D ∧ R (.slice none 0 0) (shutD (setLp H4 l R0
 LoopState.exhausted (some Code.ret)) D)) : CallH Tryz.prog 106 (List.toArray [.string s]) H R := vcS_call (annOf [([0, 1, 0, 1, 1], .cut [(8, .one .slice)])]) followsAll Tryz.func106 rfl
 Tryz.ntmps106 rfl rfl (Eq.mpr (by kernel_rfl) h)
abbrev fn_block_Disk_Size : Nat := 107
theorem vc_block_Disk_Size (d : Addr) (H : Heap) (R : Value → Heap → Prop) (h : ∃ n, lD 3 H d (.int .i64 n) ∧ R (.int .i64 n) H) : CallH Tryz.prog 107 (List.toArray [.pointer (some d)]) H R :=
 vc_call (annOf []) followsAll Tryz.func107 rfl Tryz.ntmps107 rfl rfl (Eq.mpr (by kernel_rfl) h)
abbrev fn_ref10_Store_laid : Nat := 108
theorem vc_ref10_Store_laid (s : Addr) (l_a : Option Addr) (l_n : Nat) (l_c : Nat) (H : Heap) (R : Value → Heap → Prop) (h : ∀ (b : Nat) (H' : Heap), New H b (.cells ⟨[]⟩ 3) H' → ∃ a n c, lD 80 H'
 (Addr.add s 3) (.slice a n c) ∧ SemWp Tryz.prog (Builtin.append_ ⟨[80, 80]⟩ 80 ⟨[.slice (some ⟨b, 0, none⟩) 0 0, .slice a n c]⟩) H' fun v H' => ∃ a n c, v = .slice a n c ∧ ∃ (I : IV) (μ : MU), I
 [.slice a n c, .int .i64 0] H' ∧ ∀ (J : F) (a : Option Addr) (n c : Nat) (n_1 : Int) (H' : Heap), I [.slice a n c, .int .i64 n_1] H' → ∃ a_2 n_2 c_1, lD 86 H' (Addr.add s 2) (.slice a_2 n_2 c_1) ∧
 brB (decide (n_1 < (↑n_2 : Int))) (∃ a_3 n_3 c_2, lD 86 H' (Addr.add s 2) (.slice a_3 n_3 c_2) ∧ ix a_3 n_1 n_3 fun ad => (∃ a_4 n_4 c_3, lD 80 H' (Addr.add (Addr.add ad (Int.toNat n_1 * 3)) 2)
 (.slice a_4 n_4 c_3) ∧ SemWp Tryz.prog (Builtin.append_ ⟨[80, 80]⟩ 80 ⟨[.slice a n c, .slice a_4 n_4 c_3]⟩) H' fun v H'_1 => ∃ a_5 n_5 c_4, v = .slice a_5 n_5 c_4 ∧ I [.slice a_5 n_5 c_4, .int .i64
 (IntKind.wrap .i64 (n_1 + 1))] H'_1 ∧ μ [.slice a_5 n_5 c_4, .int .i64 (IntKind.wrap .i64 (n_1 + 1))] H'_1 < μ [.slice a n c, .int .i64 n_1] H')) (∀ (b : Nat) (H'_1 : Heap), New H' b (.cells ⟨[]⟩ 3)
 H'_1 → ∃ (I : IV) (μ : MU), I [.slice (some ⟨b, 0, none⟩) 0 0, .int .i64 2] H'_1 ∧ ∀ (J : F) (a_4 : Option Addr) (n_3 c_2 : Nat) (n_4 : Int) (H' : Heap), I [.slice a_4 n_3 c_2, .int .i64 n_4] H' → ∃
 a_6, lD 62 H' s (.pointer a_6) ∧ exSome a_6 fun a_7 => ∃ a_8 n_5 c_3, lD 92 H' a_7 (.slice a_8 n_5 c_3) ∧ brB (decide (n_4 < (↑n_5 : Int))) (cB 121 [.slice a n c, .int .i64 n_4] H' fun b H'_2 => brB
 (!b) (∀ (b : Nat) (H'_3 : Heap), New H'_2 b (.cells ⟨[.int .i64 n_4]⟩ 3) H'_3 → SemWp Tryz.prog (Builtin.append_ ⟨[80, 80]⟩ 80 ⟨[.slice a_4 n_3 c_2, .slice (some ⟨b, 0, none⟩) 1 1]⟩) H'_3 fun v H'_4
 => ∃ a n c, v = .slice a n c ∧ I [.slice a n c, .int .i64 (IntKind.wrap .i64 (n_4 + 1))] H'_4 ∧ μ [.slice a n c, .int .i64 (IntKind.wrap .i64 (n_4 + 1))] H'_4 < μ [.slice a_4 n_3 c_2, .int .i64 n_4]
 H') (I [.slice a_4 n_3 c_2, .int .i64 (IntKind.wrap .i64 (n_4 + 1))] H'_2 ∧ μ [.slice a_4 n_3 c_2, .int .i64 (IntKind.wrap .i64 (n_4 + 1))] H'_2 < μ [.slice a_4 n_3 c_2, .int .i64 n_4] H')) (∀ (b :
 Nat) (H'_2 : Heap), New H' b (.cells ⟨[]⟩ 91) H'_2 → ∀ (b_1 : Nat) (H' : Heap), New H'_2 b_1 (.cells ⟨[]⟩ 9) H' → ∀ (b_2 : Nat) (H'_3 : Heap), New H' b_2 (.cells ⟨[]⟩ 3) H'_3 → ∃ (I : IV) (μ : MU),
 I [.slice (some ⟨b, 0, none⟩) 0 0, .slice (some ⟨b_1, 0, none⟩) 0 0, .slice (some ⟨b_2, 0, none⟩) 0 0, .bool true, .int .i64 0] H'_3 ∧ ∀ (J : F) (a : Option Addr) (n c : Nat) (a_9 : Option Addr)
 (n_6 c_4 : Nat) (a_10 : Option Addr) (n_7 c_5 : Nat) (b : Bool) (n_8 : Int) (H' : Heap), I [.slice a n c, .slice a_9 n_6 c_4, .slice a_10 n_7 c_5, .bool b, .int .i64 n_8] H' → brB (decide (n_8 <
 (↑l_n : Int))) (ix l_a n_8 l_n fun ad => (∃ s_1, lD 9 H' (Addr.add ad (Int.toNat n_8 * 3)) (.string s_1) ∧ exSome l_a fun ad_1 => chk (decide (0 ≤ n_8 ∧ n_8 < (↑l_n : Int))) (∃ s_2, lD 9 H'
 (Addr.add (Addr.add ad_1 (Int.toNat n_8 * 3)) 1) (.string s_2) ∧ ∀ (b_3 : Nat) (H'_4 : Heap), New H' b_3 (.cells ⟨[.string { data := #[] }, .string { data := #[] }, .slice none 0 0]⟩ 91) H'_4 → lD 9
 H'_4 (Addr.add (Addr.add ad_1 (Int.toNat n_8 * 3)) 1) (.string s_2) ∧ lD 9 H'_4 (Addr.add ad (Int.toNat n_8 * 3)) (.string s_1) ∧ ∃ H'_5, sT 91 H'_4 ⟨b_3, 0, none⟩ (.agg ⟨[.string s_1, .string s_2,
 .slice none 0 0]⟩) H'_5 ∧ ∀ (b_4 : Nat) (H'_6 : Heap), New H'_5 b_4 (.cells ⟨[]⟩ 9) H'_6 → ∃ a_14 n_9 c_6, lD 86 H'_6 (Addr.add s 2) (.slice a_14 n_9 c_6) ∧ ∃ s_3, lD 9 H'_6 ⟨b_3, 0, none⟩ (.string
 s_3) ∧ cI 48 [.slice a_14 n_9 c_6, .string s_3] H'_6 fun n_10 H'_7 => ∃ (M : IV), brB (decide (n_10 ≥ 0)) (∃ a n c, lD 86 H'_7 (Addr.add s 2) (.slice a n c) ∧ ix a n_10 n fun ad => (∃ s, lD 9 H'_7
 (Addr.add (Addr.add ad (Int.toNat n_10 * 3)) 1) (.string s) ∧ cL 109 [.string s] H'_7 fun a n c H' => M [.slice a n c] H')) (M [.slice (some ⟨b_4, 0, none⟩) 0 0] H'_7) ∧ ∀ (J : F) (a_15 : Option
 Addr) (n_11 c_7 : Nat) (H'_8 : Heap), M [.slice a_15 n_11 c_7] H'_8 → ∃ s_4, lD 9 H'_8 ⟨b_3, 1, none⟩ (.string s_4) ∧ cL 109 [.string s_4] H'_8 fun a_17 n_12 c_8 H'_9 => ∃ (I_1 : IV) (μ_1 : MU), I_1
 [.slice a_9 n_6 c_4, .slice a_10 n_7 c_5, .bool b, .int .i64 0] H'_9 ∧ ∀ (J : F) (a_18 : Option Addr) (n_13 c_9 : Nat) (a_19 : Option Addr) (n_14 c_10 : Nat) (b_5 : Bool) (n_15 : Int) (H'_10 :
 Heap), I_1 [.slice a_18 n_13 c_9, .slice a_19 n_14 c_10, .bool b_5, .int .i64 n_15] H'_10 → brB (decide (n_15 < (↑n_12 : Int))) (∃ (M : IV), (∃ (M_1 : IV), (∃ (M_2 : IV), brB (decide (n_15 < (↑n_11
 : Int))) (ix a_15 n_15 n_11 fun ad => (∃ s, lD 9 H'_10 (Addr.add ad (Int.toNat n_15 * 1)) (.string s) ∧ ix a_17 n_15 n_12 fun ad => (∃ s_5, lD 9 H'_10 (Addr.add ad (Int.toNat n_15 * 1)) (.string
 s_5) ∧ M_2 [.bool (ByteArray.toList s == ByteArray.toList s_5)] H'_10))) (M_2 [.bool false] H'_10) ∧ ∀ (J : F) (b : Bool) (H' : Heap), M_2 [.bool b] H' → brB b (∃ a n c, lD 80 H' ⟨b_3, 2, none⟩
 (.slice a n c) ∧ ∃ a_21 n_16 c_11, lD 86 H' (Addr.add s 2) (.slice a_21 n_16 c_11) ∧ ix a_21 n_10 n_16 fun ad => (∃ a_22 n_17 c_12, lD 80 H' (Addr.add (Addr.add ad (Int.toNat n_10 * 3)) 2) (.slice
 a_22 n_17 c_12) ∧ ix a_22 n_15 n_17 fun ad => (∃ n_18, lD 3 H' (Addr.add ad (Int.toNat n_15 * 1)) (.int .i64 n_18) ∧ ∀ (b : Nat) (H'_11 : Heap), New H' b (.cells ⟨[.int .i64 n_18]⟩ 3) H'_11 → lD 80
 H'_11 ⟨b_3, 2, none⟩ (.slice a n c) ∧ SemWp Tryz.prog (Builtin.append_ ⟨[80, 80]⟩ 80 ⟨[.slice a n c, .slice (some ⟨b, 0, none⟩) 1 1]⟩) H'_11 fun v H' => ∃ a n c, v = .slice a n c ∧ ∃ H'_12, sT 80 H'
 ⟨b_3, 2, none⟩ (.slice a n c) H'_12 ∧ M [.slice a_18 n_13 c_9, .slice a_19 n_14 c_10, .bool b_5] H'_12))) (M_1 [] H')) ∧ ∀ (J : F) (H' : Heap), M_1 [] H' → brB (decide ((↑n_13 : Int) < (↑n_3 :
 Int))) (ix a_4 ((↑n_13 : Int)) n_3 fun ad => (∃ n, lD 3 H' (Addr.add ad (Int.toNat (↑n_13 : Int) * 1)) (.int .i64 n) ∧ ∃ a n_16 c, lD 80 H' ⟨b_3, 2, none⟩ (.slice a n_16 c) ∧ ∀ (b : Nat) (H'_11 :
 Heap), New H' b (.cells ⟨[.int .i64 n]⟩ 3) H'_11 → SemWp Tryz.prog (Builtin.append_ ⟨[80, 80]⟩ 80 ⟨[.slice a n_16 c, .slice (some ⟨b, 0, none⟩) 1 1]⟩) H'_11 fun v H' => ∃ a n_17 c, v = .slice a n_17
 c ∧ ∃ H'_12, sT 80 H' ⟨b_3, 2, none⟩ (.slice a n_17 c) H'_12 ∧ ix a_17 n_15 n_12 fun ad => (∃ s, lD 9 H'_12 (Addr.add ad (Int.toNat n_15 * 1)) (.string s) ∧ ∀ (b : Nat) (H' : Heap), New H'_12 b
 (.cells ⟨[.string s]⟩ 9) H' → SemWp Tryz.prog (Builtin.append_ ⟨[92, 92]⟩ 92 ⟨[.slice a_18 n_13 c_9, .slice (some ⟨b, 0, none⟩) 1 1]⟩) H' fun v H' => ∃ a n_18 c, v = .slice a n_18 c ∧ ∀ (b : Nat)
 (H'_13 : Heap), New H' b (.cells ⟨[.int .i64 n]⟩ 3) H'_13 → SemWp Tryz.prog (Builtin.append_ ⟨[80, 80]⟩ 80 ⟨[.slice a_19 n_14 c_10, .slice (some ⟨b, 0, none⟩) 1 1]⟩) H'_13 fun v H' => ∃ a_23 n c_11,
 v = .slice a_23 n c_11 ∧ M [.slice a n_18 c, .slice a_23 n c_11, .bool b_5] H'))) (∃ a n c, lD 80 H' ⟨b_3, 2, none⟩ (.slice a n c) ∧ ∀ (b : Nat) (H'_11 : Heap), New H' b (.cells ⟨[.int .i64 500]⟩ 3)
 H'_11 → SemWp Tryz.prog (Builtin.append_ ⟨[80, 80]⟩ 80 ⟨[.slice a n c, .slice (some ⟨b, 0, none⟩) 1 1]⟩) H'_11 fun v H' => ∃ a n c, v = .slice a n c ∧ ∃ H'_12, sT 80 H' ⟨b_3, 2, none⟩ (.slice a n c)
 H'_12 ∧ ix a_17 n_15 n_12 fun ad => (∃ s, lD 9 H'_12 (Addr.add ad (Int.toNat n_15 * 1)) (.string s) ∧ ∀ (b : Nat) (H' : Heap), New H'_12 b (.cells ⟨[.string s]⟩ 9) H' → SemWp Tryz.prog
 (Builtin.append_ ⟨[92, 92]⟩ 92 ⟨[.slice a_18 n_13 c_9, .slice (some ⟨b, 0, none⟩) 1 1]⟩) H' fun v H' => ∃ a n c, v = .slice a n c ∧ ∀ (b : Nat) (H'_13 : Heap), New H' b (.cells ⟨[.int .i64 500]⟩ 3)
 H'_13 → SemWp Tryz.prog (Builtin.append_ ⟨[80, 80]⟩ 80 ⟨[.slice a_19 n_14 c_10, .slice (some ⟨b, 0, none⟩) 1 1]⟩) H'_13 fun v H' => ∃ a_23 n_16 c_11, v = .slice a_23 n_16 c_11 ∧ M [.slice a n c,
 .slice a_23 n_16 c_11, .bool false] H'))) ∧ ∀ (J : F) (a : Option Addr) (n c : Nat) (a_21 : Option Addr) (n_16 c_11 : Nat) (b : Bool) (H' : Heap), M [.slice a n c, .slice a_21 n_16 c_11, .bool b] H'
 → I_1 [.slice a n c, .slice a_21 n_16 c_11, .bool b, .int .i64 (IntKind.wrap .i64 (n_15 + 1))] H' ∧ μ_1 [.slice a n c, .slice a_21 n_16 c_11, .bool b, .int .i64 (IntKind.wrap .i64 (n_15 + 1))] H' <
 μ_1 [.slice a_18 n_13 c_9, .slice a_19 n_14 c_10, .bool b_5, .int .i64 n_15] H'_10) (∃ s s_5 a_21 n_16 c_11, lD 91 H'_10 ⟨b_3, 0, none⟩ (.agg ⟨[.string s, .string s_5, .slice a_21 n_16 c_11]⟩) ∧ ∀
 (b_6 : Nat) (H'_11 : Heap), New H'_10 b_6 (.cells ⟨[.string s, .string s_5, .slice a_21 n_16 c_11]⟩ 91) H'_11 → SemWp Tryz.prog (Builtin.append_ ⟨[86, 86]⟩ 86 ⟨[.slice a n c, .slice (some ⟨b_6, 0,
 none⟩) 1 1]⟩) H'_11 fun v H'_12 => ∃ a_23 n_17 c_12, v = .slice a_23 n_17 c_12 ∧ I [.slice a_23 n_17 c_12, .slice a_18 n_13 c_9, .slice a_19 n_14 c_10, .bool b_5, .int .i64 (IntKind.wrap .i64 (n_8 +
 1))] H'_12 ∧ μ [.slice a_23 n_17 c_12, .slice a_18 n_13 c_9, .slice a_19 n_14 c_10, .bool b_5, .int .i64 (IntKind.wrap .i64 (n_8 + 1))] H'_12 < μ [.slice a n c, .slice a_9 n_6 c_4, .slice a_10 n_7
 c_5, .bool b, .int .i64 n_8] H')))) (cS 131 [.slice a n c] H' fun s H' => ∀ (b_3 : Nat) (H'_4 : Heap), New H' b_3 (.cells ⟨[]⟩ 3) H'_4 → cL 109 [.string s] H'_4 fun a_13 n_9 c_6 H' => ∃ (I : IV) (μ
 : MU), I [.bool b, .slice (some ⟨b_3, 0, none⟩) 0 0, .int .i64 0] H' ∧ ∀ (J : F) (b : Bool) (a_14 : Option Addr) (n_10 c_7 : Nat) (n_11 : Int) (H' : Heap), I [.bool b, .slice a_14 n_10 c_7, .int
 .i64 n_11] H' → brB (decide (n_11 < (↑n_9 : Int))) (brB (decide (IntKind.wrap .i64 ((↑n_6 : Int) + n_11) < (↑n_3 : Int))) (ix a_4 (IntKind.wrap .i64 ((↑n_6 : Int) + n_11)) n_3 fun ad => (∃ n, lD 3
 H' (Addr.add ad (Int.toNat (IntKind.wrap .i64 ((↑n_6 : Int) + n_11)) * 1)) (.int .i64 n) ∧ ∀ (b_4 : Nat) (H'_5 : Heap), New H' b_4 (.cells ⟨[.int .i64 n]⟩ 3) H'_5 → SemWp Tryz.prog (Builtin.append_
 ⟨[80, 80]⟩ 80 ⟨[.slice a_14 n_10 c_7, .slice (some ⟨b_4, 0, none⟩) 1 1]⟩) H'_5 fun v H'_6 => ∃ a n c, v = .slice a n c ∧ I [.bool b, .slice a n c, .int .i64 (IntKind.wrap .i64 (n_11 + 1))] H'_6 ∧ μ
 [.bool b, .slice a n c, .int .i64 (IntKind.wrap .i64 (n_11 + 1))] H'_6 < μ [.bool b, .slice a_14 n_10 c_7, .int .i64 n_11] H')) (I [.bool false, .slice a_14 n_10 c_7, .int .i64 (IntKind.wrap .i64
 (n_11 + 1))] H' ∧ μ [.bool false, .slice a_14 n_10 c_7, .int .i64 (IntKind.wrap .i64 (n_11 + 1))] H' < μ [.bool b, .slice a_14 n_10 c_7, .int .i64 n_11] H')) (R (.tuple ⟨[.slice a n c, .slice a_9
 n_6 c_4, .slice a_10 n_7 c_5, .string s, .slice a_14 n_10 c_7, .bool b]⟩) H'))))) : CallH Tryz.prog 108 (List.toArray [.pointer (some s), .slice l_a l_n l_c]) H R := vc_call (annOf [([0, 1, 0, 1, 1,
 1], .cut [(10, .one .slice), (11, .one (.int .i64))]), ([0, 1, 0, 1, 1, 1, 1, 1], .cut [(12, .one .slice), (13, .one (.int .i64))]), ([0, 1, 0, 1, 1, 1, 1, 1, 1, 1, 1, 1, 1], .cut [(14, .one
 .slice), (15, .one .slice), (16, .one .slice), (17, .one .bool), (18, .one (.int .i64))]), ([0, 0, 0, 1, 0, 0, 1, 0, 1, 1, 1, 1, 1, 1, 1, 1, 1, 1], .reg [0, 0, 3, 7, 15, 0, 0, 96, 224, 480, 1023, 0,
 4095] (.quiet 0 (.quiet 1 (.quiet 2 (.quiet 3 (.quiet 4 (.quiet 5 (.quiet 6 (.quiet 7 (.quiet 8 (.quiet 9 (.quiet 10 (.pick (.alt 11 (.pick (.alt 12 (.done) .stop)) .stop)))))))))))))), ([0, 1, 1,
 0, 0, 1, 0, 0, 1, 0, 1, 1, 1, 1, 1, 1, 1, 1, 1, 1], .tail 6), ([1, 1, 1, 0, 0, 1, 0, 0, 1, 0, 1, 1, 1, 1, 1, 1, 1, 1, 1, 1], .cut [(20, .one .slice)]), ([0, 1, 0, 1, 1, 1, 1, 1, 0, 0, 1, 0, 0, 1, 0,
 1, 1, 1, 1, 1, 1, 1, 1, 1, 1], .cut [(15, .one .slice), (16, .one .slice), (17, .one .bool), (23, .one (.int .i64))]), ([1, 0, 0, 1, 0, 1, 1, 1, 1, 1, 0, 0, 1, 0, 0, 1, 0, 1, 1, 1, 1, 1, 1, 1, 1, 1,
 1], .cut [(15, .one .slice), (16, .one .slice), (17, .one .bool)]), ([0, 0, 1, 0, 0, 1, 0, 1, 1, 1, 1, 1, 0, 0, 1, 0, 0, 1, 0, 1, 1, 1, 1, 1, 1, 1, 1, 1, 1], .cut []), ([0, 0, 0, 1, 0, 0, 1, 0, 1,
 1, 1, 1, 1, 0, 0, 1, 0, 0, 1, 0, 1, 1, 1, 1, 1, 1, 1, 1, 1, 1], .cut [(138, .one .bool)]), ([0, 0, 1, 0, 0, 0, 1, 0, 0, 1, 0, 1, 1, 1, 1, 1, 0, 0, 1, 0, 0, 1, 0, 1, 1, 1, 1, 1, 1, 1, 1, 1, 1], .reg
 [0, 1, 0, 4, 12, 28, 0, 124, 252, 508, 0, 2044, 4092, 8188, 16383, 32767, 65535] (.quiet 0 (.quiet 1 (.quiet 2 (.quiet 3 (.quiet 4 (.quiet 5 (.quiet 6 (.quiet 7 (.quiet 8 (.quiet 9 (.quiet 10
 (.quiet 11 (.quiet 12 (.pick (.alt 13 (.pick (.alt 14 (.quiet 15 (.pick (.alt 16 (.done) .stop))) .stop)) .stop)))))))))))))))), ([0, 1, 0, 1, 1, 1, 1, 1, 1, 1, 1, 1, 1, 1, 1, 1, 1], .cut [(17, .one
 .bool), (26, .one .slice), (28, .one (.int .i64))])]) followsAll Tryz.func108 rfl Tryz.ntmps108 rfl rfl (Eq.mpr (by kernel_rfl) h)
abbrev fn_ref10_chunks : Nat := 109
theorem vc_ref10_chunks (s : ByteArray) (H : Heap) (R : Value → Heap → Prop) (h : ∀ (b : Nat) (H' : Heap), New H b (.cells ⟨[]⟩ 9) H' → ∃ (I : IV) (μ : MU), I [.string s, .slice (some ⟨b, 0, none⟩)
 0 0] H' ∧ ∀ (J : F) (s : ByteArray) (a : Option Addr) (n c : Nat) (H' : Heap), I [.string s, .slice a n c] H' → brB (decide ((↑(ByteArray.size s) : Int) > 64)) (chk (decide ((0 : Int) ≤ (0 : Int) ∧
 (0 : Int) ≤ (64 : Int) ∧ 64 ≤ (↑(ByteArray.size s) : Int))) (∀ (b : Nat) (H'_1 : Heap), New H' b (.cells ⟨[.string (ByteArray.extract s 0 64)]⟩ 9) H'_1 → SemWp Tryz.prog (Builtin.append_ ⟨[92, 92]⟩
 92 ⟨[.slice a n c, .slice (some ⟨b, 0, none⟩) 1 1]⟩) H'_1 fun v H'_2 => ∃ a_3 n_1 c_1, v = .slice a_3 n_1 c_1 ∧ chk (decide ((0 : Int) ≤ (64 : Int) ∧ 64 ≤ (↑(ByteArray.size s) : Int) ∧
 (↑(ByteArray.size s) : Int) ≤ (↑(ByteArray.size s) : Int))) (I [.string (ByteArray.extract s 64 (Int.toNat (↑(ByteArray.size s) : Int))), .slice a_3 n_1 c_1] H'_2 ∧ μ [.string (ByteArray.extract s
 64 (Int.toNat (↑(ByteArray.size s) : Int))), .slice a_3 n_1 c_1] H'_2 < μ [.string s, .slice a n c] H'))) (brB (decide ((↑(ByteArray.size s) : Int) > 0)) (∀ (b : Nat) (H'_1 : Heap), New H' b (.cells
 ⟨[.string s]⟩ 9) H'_1 → SemWp Tryz.prog (Builtin.append_ ⟨[92, 92]⟩ 92 ⟨[.slice a n c, .slice (some ⟨b, 0, none⟩) 1 1]⟩) H'_1 fun v H' => ∃ a n c, v = .slice a n c ∧ R (.slice a n c) H') (R (.slice
 a n c) H'))) : CallH Tryz.prog 109 (List.toArray [.string s]) H R := vc_call (annOf [([0, 0, 1, 1], .cut [(0, .one .str), (3, .one .slice)])]) followsAll Tryz.func109 rfl Tryz.ntmps109 rfl rfl
 (Eq.mpr (by kernel_rfl) h)
abbrev fn_label_Check : Nat := 113
theorem vc_label_Check (l_a : Option Addr) (l_n : Nat) (l_c : Nat) (H : Heap) (R : Value → Heap → Prop) (h : ∃ (I : IV) (μ : MU), I [.string { data := #[] }, .int .i64 0] H ∧ ∀ (J : F) (s :
 ByteArray) (n : Int) (H' : Heap), I [.string s, .int .i64 n] H' → brB (decide (n < (↑l_n : Int))) (ix l_a n l_n fun ad => (∃ s_1 s_2, lD 55 H' (Addr.add ad (Int.toNat n * 2)) (.agg ⟨[.string s_1,
 .string s_2]⟩) ∧ ∀ (b : Nat) (H'_1 : Heap), New H' b (.cells ⟨[.string { data := #[] }, .string { data := #[] }]⟩ 55) H'_1 → ∃ H'_2, sT 55 H'_1 ⟨b, 0, none⟩ (.agg ⟨[.string s_1, .string s_2]⟩) H'_2
 ∧ ∃ (M : IV), (∃ s_3, lD 9 H'_2 ⟨b, 0, none⟩ (.string s_3) ∧ cB 134 [.string s_3] H'_2 fun b_1 H' => brB (!b_1) (R (.int .i64 40) H') (∃ s_4, lD 9 H' ⟨b, 0, none⟩ (.string s_4) ∧ brB (Op.bytesLess
 (ByteArray.toList s_4) (ByteArray.toList s) || ByteArray.toList s_4 == ByteArray.toList s) (R (.int .i64 40) H') (∃ s, lD 9 H' ⟨b, 1, none⟩ (.string s) ∧ brB (ByteArray.toList s == ByteArray.toList
 { data := #[] }) (R (.int .i64 40) H') (∃ s, lD 9 H' ⟨b, 1, none⟩ (.string s) ∧ cB 135 [.string s] H' fun b H' => brB (!b) (R (.int .i64 40) H') (M [] H'))))) ∧ ∀ (J : F) (H'_3 : Heap), M [] H'_3 →
 ∃ s_3, lD 9 H'_3 ⟨b, 0, none⟩ (.string s_3) ∧ I [.string s_3, .int .i64 (IntKind.wrap .i64 (n + 1))] H'_3 ∧ μ [.string s_3, .int .i64 (IntKind.wrap .i64 (n + 1))] H'_3 < μ [.string s, .int .i64 n]
 H')) (brB (decide ((↑l_n : Int) > 8)) (R (.int .i64 40) H') (R (.int .i64 0) H'))) : CallH Tryz.prog 113 (List.toArray [.slice l_a l_n l_c]) H R := vc_call (annOf [([0, 1, 0, 1, 1], .cut [(3, .one
 .str), (8, .one (.int .i64))]), ([1, 0, 0, 1, 1, 0, 0, 1, 0, 1, 1], .cut [])]) followsAll Tryz.func113 rfl Tryz.ntmps113 rfl rfl (Eq.mpr (by kernel_rfl) h)
abbrev fn_label_Quote : Nat := 114
theorem vc_label_Quote (s : ByteArray) (H : Heap) (R : Value → Heap → Prop) (h : ∀ (b : Nat) (H' : Heap), New H b (.cells ⟨[.pointer none, .slice none 0 0]⟩ 67) H' → cV 136 [.pointer (some ⟨b, 0,
 none⟩), .int .u8 34] H' fun v_1 H' => SemWp Tryz.prog (convert 9 65 (.string s)) H' fun v H' => ∃ a n c, v = .slice a n c ∧ ∃ (I : IV) (μ : MU), I [.int .i64 0] H' ∧ ∀ (J : F) (n_1 : Int) (H' :
 Heap), I [.int .i64 n_1] H' → brB (decide (n_1 < (↑n : Int))) (ix a n_1 n fun ad => (∃ n, lD 5 H' (Addr.add ad (Int.toNat n_1 * 1)) (.int .u8 n) ∧ brB (n == 10) (cH 26 ⟨[.pointer (some ⟨b, 0,
 none⟩), .string { data := #[(92 : UInt8), (110 : UInt8)] }]⟩ H' fun v H'_1 => ∃ n v_2, v = .tuple ⟨[.int .i64 n, v_2]⟩ ∧ I [.int .i64 (IntKind.wrap .i64 (n_1 + 1))] H'_1 ∧ μ [.int .i64 (IntKind.wrap
 .i64 (n_1 + 1))] H'_1 < μ [.int .i64 n_1] H') (brB (n == 34) (brB (n == 34) (cV 136 [.pointer (some ⟨b, 0, none⟩), .int .u8 92] H' fun v_2 H'_1 => cV 136 [.pointer (some ⟨b, 0, none⟩), .int .u8 n]
 H'_1 fun v_3 H'_2 => I [.int .i64 (IntKind.wrap .i64 (n_1 + 1))] H'_2 ∧ μ [.int .i64 (IntKind.wrap .i64 (n_1 + 1))] H'_2 < μ [.int .i64 n_1] H') (cV 136 [.pointer (some ⟨b, 0, none⟩), .int .u8 n] H'
 fun v_2 H'_1 => I [.int .i64 (IntKind.wrap .i64 (n_1 + 1))] H'_1 ∧ μ [.int .i64 (IntKind.wrap .i64 (n_1 + 1))] H'_1 < μ [.int .i64 n_1] H')) (brB (n == 92) (cV 136 [.pointer (some ⟨b, 0, none⟩),
 .int .u8 92] H' fun v_2 H'_1 => cV 136 [.pointer (some ⟨b, 0, none⟩), .int .u8 n] H'_1 fun v_3 H'_2 => I [.int .i64 (IntKind.wrap .i64 (n_1 + 1))] H'_2 ∧ μ [.int .i64 (IntKind.wrap .i64 (n_1 + 1))]
 H'_2 < μ [.int .i64 n_1] H') (cV 136 [.pointer (some ⟨b, 0, none⟩), .int .u8 n] H' fun v_2 H'_1 => I [.int .i64 (IntKind.wrap .i64 (n_1 + 1))] H'_1 ∧ μ [.int .i64 (IntKind.wrap .i64 (n_1 + 1))] H'_1
 < μ [.int .i64 n_1] H'))))) (cV 136 [.pointer (some ⟨b, 0, none⟩), .int .u8 34] H' fun v_2 H' => cS 29 [.pointer (some ⟨b, 0, none⟩)] H' fun s H' => R (.string s) H')) : CallH Tryz.prog 114
 (List.toArray [.string s]) H R := vc_call (annOf [([0, 1, 0, 1, 1, 1], .cut [(10, .one (.int .i64))])]) followsAll Tryz.func114 rfl Tryz.ntmps114 rfl rfl (Eq.mpr (by kernel_rfl) h)
abbrev fn_strings_Join : Nat := 115
theorem vc_strings_Join (elems_a : Option Addr) (elems_n : Nat) (elems_c : Nat) (sep : ByteArray) (H : Heap) (R : Value → Heap → Prop) (h : brB ((↑elems_n : Int) == 0) (R (.string { data := #[] })
 H) (brB ((↑elems_n : Int) == 1) (ix elems_a (0) elems_n fun ad => (∃ s, lD 9 H ad (.string s) ∧ R (.string s) H)) (∃ (M : IV), brB (decide ((↑(ByteArray.size sep) : Int) > 0)) (chk (decide
 (IntKind.wrap .i64 ((↑elems_n : Int) - 1) ≠ 0)) (brB (decide ((↑(ByteArray.size sep) : Int) ≥ IntKind.wrap .i64 (Int.tdiv 9223372036854775807 (IntKind.wrap .i64 ((↑elems_n : Int) - 1))))) False (M
 [.int .i64 (IntKind.wrap .i64 (0 + IntKind.wrap .i64 ((↑(ByteArray.size sep) : Int) * IntKind.wrap .i64 ((↑elems_n : Int) - 1))))] H))) (M [.int .i64 0] H) ∧ ∀ (J : F) (n : Int) (H' : Heap), M [.int
 .i64 n] H' → ∃ (I : IV) (μ : MU), I [.int .i64 n, .int .i64 0] H' ∧ ∀ (J : F) (n n_1 : Int) (H' : Heap), I [.int .i64 n, .int .i64 n_1] H' → brB (decide (n_1 < (↑elems_n : Int))) (ix elems_a n_1
 elems_n fun ad => (∃ s, lD 9 H' (Addr.add ad (Int.toNat n_1 * 1)) (.string s) ∧ brB (decide ((↑(ByteArray.size s) : Int) > IntKind.wrap .i64 (9223372036854775807 - n))) False (I [.int .i64
 (IntKind.wrap .i64 (n + (↑(ByteArray.size s) : Int))), .int .i64 (IntKind.wrap .i64 (n_1 + 1))] H' ∧ μ [.int .i64 (IntKind.wrap .i64 (n + (↑(ByteArray.size s) : Int))), .int .i64 (IntKind.wrap .i64
 (n_1 + 1))] H' < μ [.int .i64 n, .int .i64 n_1] H'))) (∀ (b : Nat) (H'_1 : Heap), New H' b (.cells ⟨[.pointer none, .slice none 0 0]⟩ 67) H'_1 → cU 137 [.pointer (some ⟨b, 0, none⟩), .int .i64 n]
 H'_1 fun H' => ix elems_a (0) elems_n fun ad => (∃ s, lD 9 H' ad (.string s) ∧ cH 26 ⟨[.pointer (some ⟨b, 0, none⟩), .string s]⟩ H' fun v H' => ∃ n v_1, v = .tuple ⟨[.int .i64 n, v_1]⟩ ∧ chk (decide
 ((0 : Int) ≤ (1 : Int) ∧ 1 ≤ (↑elems_n : Int) ∧ (↑elems_n : Int) ≤ (↑elems_c : Int))) (∃ (I : IV) (μ : MU), I [.int .i64 0] H' ∧ ∀ (J : F) (n : Int) (H' : Heap), I [.int .i64 n] H' → brB (decide (n
 < (↑(Int.toNat (↑elems_n : Int) - Int.toNat 1) : Int))) (exSome (slA elems_c 1 1 elems_a) fun ad => chk (decide (0 ≤ n ∧ n < (↑(Int.toNat (↑elems_n : Int) - 1) : Int))) (∃ s, lD 9 H' (Addr.add ad
 (Int.toNat n * 1)) (.string s) ∧ cH 26 ⟨[.pointer (some ⟨b, 0, none⟩), .string sep]⟩ H' fun v H'_2 => ∃ n_2 v_2, v = .tuple ⟨[.int .i64 n_2, v_2]⟩ ∧ cH 26 ⟨[.pointer (some ⟨b, 0, none⟩), .string s]⟩
 H'_2 fun v H'_3 => ∃ n_3 v_3, v = .tuple ⟨[.int .i64 n_3, v_3]⟩ ∧ I [.int .i64 (IntKind.wrap .i64 (n + 1))] H'_3 ∧ μ [.int .i64 (IntKind.wrap .i64 (n + 1))] H'_3 < μ [.int .i64 n] H')) (cS 29
 [.pointer (some ⟨b, 0, none⟩)] H' fun s H' => R (.string s) H'))))))) : CallH Tryz.prog 115 (List.toArray [.slice elems_a elems_n elems_c, .string sep]) H R := vc_call (annOf [([1, 1, 1], .cut [(5,
 .one (.int .i64))]), ([0, 1, 0, 1, 1, 1, 1], .cut [(5, .one (.int .i64)), (41, .one (.int .i64))]), ([0, 1, 0, 1, 1, 1, 1, 1, 1, 1, 1], .cut [(65, .one (.int .i64))])]) followsAll Tryz.func115 rfl
 Tryz.ntmps115 rfl rfl (Eq.mpr (by kernel_rfl) h)
abbrev fn_label_parser_take : Nat := 116
theorem vc_label_parser_take (p : Addr) (t : ByteArray) (H : Heap) (R : Value → Heap → Prop) (h : ∃ s, lD 9 H p (.string s) ∧ cH 138 ⟨[.string s, .string t]⟩ H fun v H' => ∃ s b, v = .tuple
 ⟨[.string s, .bool b]⟩ ∧ brB b (∃ H'_1, sT 9 H' p (.string s) H'_1 ∧ R (.bool b) H'_1) (R (.bool b) H')) : CallH Tryz.prog 116 (List.toArray [.pointer (some p), .string t]) H R := vc_call (annOf [])
 followsAll Tryz.func116 rfl Tryz.ntmps116 rfl rfl (Eq.mpr (by kernel_rfl) h)
abbrev fn_strings_Cut : Nat := 117
theorem vc_strings_Cut (s : ByteArray) (sep : ByteArray) (H : Heap) (R : Value → Heap → Prop) (h : cH 139 ⟨[.string s, .string sep]⟩ H fun v H' => ∃ s s_1 b, v = .tuple ⟨[.string s, .string s_1,
 .bool b]⟩ ∧ R (.tuple ⟨[.string s, .string s_1, .bool b]⟩) H') : CallH Tryz.prog 117 (List.toArray [.string s, .string sep]) H R := vc_call (annOf []) followsAll Tryz.func117 rfl Tryz.ntmps117 rfl
 rfl (Eq.mpr (by kernel_rfl) h)
abbrev fn_label_parser_value : Nat := 118
theorem vc_label_parser_value (p : Addr) (H : Heap) (R : Value → Heap → Prop) (h : cB 116 [.pointer (some p), .string { data := #[(34 : UInt8)] }] H fun b H' => brB (!b) (R (.tuple ⟨[.string { data
 := #[] }, .bool false]⟩) H') (∀ (b : Nat) (H'_1 : Heap), New H' b (.cells ⟨[.pointer none, .slice none 0 0]⟩ 67) H'_1 → ∃ s, lD 9 H'_1 p (.string s) ∧ SemWp Tryz.prog (convert 9 65 (.string s)) H'_1
 fun v H' => ∃ a n c, v = .slice a n c ∧ ∃ (I : IV) (μ : MU), I [.bool false, .int .i64 0] H' ∧ ∀ (J : F) (b_1 : Bool) (n_1 : Int) (H' : Heap), I [.bool b_1, .int .i64 n_1] H' → brB (decide (n_1 <
 (↑n : Int))) (∃ (M : IV), (ix a n_1 n fun ad => (∃ n, lD 5 H' (Addr.add ad (Int.toNat n_1 * 1)) (.int .u8 n) ∧ ∃ (M_1 : IV), brB b_1 (M_1 [.bool (n == 110)] H') (M_1 [.bool false] H') ∧ ∀ (J : F)
 (b_2 : Bool) (H' : Heap), M_1 [.bool b_2] H' → brB b_2 (cV 136 [.pointer (some ⟨b, 0, none⟩), .int .u8 10] H' fun v_1 H' => M [.bool false] H') (brB b_1 (brB (n != 34) (brB (n != 92) (R (.tuple
 ⟨[.string { data := #[] }, .bool false]⟩) H') (cV 136 [.pointer (some ⟨b, 0, none⟩), .int .u8 n] H' fun v_1 H' => M [.bool false] H')) (cV 136 [.pointer (some ⟨b, 0, none⟩), .int .u8 n] H' fun v_1
 H' => M [.bool false] H')) (brB (n == 92) (M [.bool true] H') (brB (n == 34) (∃ s, lD 9 H' p (.string s) ∧ chk (decide (0 ≤ IntKind.wrap .i64 (n_1 + 1) ∧ IntKind.wrap .i64 (n_1 + 1) ≤
 (↑(ByteArray.size s) : Int) ∧ (↑(ByteArray.size s) : Int) ≤ (↑(ByteArray.size s) : Int))) (∃ H'_2, sT 9 H' p (.string (ByteArray.extract s (Int.toNat (IntKind.wrap .i64 (n_1 + 1))) (Int.toNat
 (↑(ByteArray.size s) : Int)))) H'_2 ∧ cS 29 [.pointer (some ⟨b, 0, none⟩)] H'_2 fun s H' => R (.tuple ⟨[.string s, .bool true]⟩) H')) (brB (n == 10) (R (.tuple ⟨[.string { data := #[] }, .bool
 false]⟩) H') (cV 136 [.pointer (some ⟨b, 0, none⟩), .int .u8 n] H' fun v_1 H' => M [.bool b_1] H'))))))) ∧ ∀ (J : F) (b : Bool) (H'_2 : Heap), M [.bool b] H'_2 → I [.bool b, .int .i64 (IntKind.wrap
 .i64 (n_1 + 1))] H'_2 ∧ μ [.bool b, .int .i64 (IntKind.wrap .i64 (n_1 + 1))] H'_2 < μ [.bool b_1, .int .i64 n_1] H') (R (.tuple ⟨[.string { data := #[] }, .bool false]⟩) H'))) : CallH Tryz.prog 118
 (List.toArray [.pointer (some p)]) H R := vc_call (annOf [([0, 1, 0, 1, 1, 1, 1], .cut [(5, .one .bool), (17, .one (.int .i64))]), ([1, 1, 0, 0, 1, 0, 1, 1, 1, 1], .cut [(5, .one .bool)]), ([0, 1,
 0, 0, 1, 1, 0, 0, 1, 0, 1, 1, 1, 1], .cut [(24, .one .bool)])]) followsAll Tryz.func118 rfl Tryz.ntmps118 rfl rfl (Eq.mpr (by kernel_rfl) h)
abbrev fn_zig_Fold : Nat := 119
theorem vc_zig_Fold (n : Int) (H : Heap) (R : Value → Heap → Prop) (h : R (.int .u64 (IntKind.wrap .u64 (↑(BitVec.toNat (BitVec.ofInt 64 (IntKind.wrap .u64 (IntKind.wrap .i64 (n * 2 ^ 1))) ^^^
 BitVec.ofInt 64 (IntKind.wrap .u64 (Int.fdiv n (2 ^ 63))))) : Int))) H) : CallH Tryz.prog 119 (List.toArray [.int .i64 n]) H R := vc_call (annOf []) followsAll Tryz.func119 rfl Tryz.ntmps119 rfl rfl
 (Eq.mpr (by kernel_rfl) h)
abbrev fn_zig_GetInt : Nat := 120
theorem vc_zig_GetInt (s : ByteArray) (at' : Int) (H : Heap) (R : Value → Heap → Prop) (h : cH 69 ⟨[.string s, .int .i64 at']⟩ H fun v H' => ∃ n n_1 n_2, v = .tuple ⟨[.int .u64 n, .int .i64 n_1,
 .int .i64 n_2]⟩ ∧ cI 140 [.int .u64 n] H' fun n H' => R (.tuple ⟨[.int .i64 n, .int .i64 n_1, .int .i64 n_2]⟩) H') : CallH Tryz.prog 120 (List.toArray [.string s, .int .i64 at']) H R := vc_call
 (annOf []) followsAll Tryz.func120 rfl Tryz.ntmps120 rfl rfl (Eq.mpr (by kernel_rfl) h)
abbrev fn_ref10_used : Nat := 121
theorem vc_ref10_used (l_a : Option Addr) (l_n : Nat) (l_c : Nat) (n : Int) (H : Heap) (R : Value → Heap → Prop) (h : ∃ (I : IV) (μ : MU), I [.int .i64 0] H ∧ ∀ (J : F) (n_1 : Int) (H' : Heap), I
 [.int .i64 n_1] H' → brB (decide (n_1 < (↑l_n : Int))) (ix l_a n_1 l_n fun ad => (∃ n_2, lD 3 H' (Addr.add ad (Int.toNat n_1 * 1)) (.int .i64 n_2) ∧ brB (n_2 == n) (R (.bool true) H') (I [.int .i64
 (IntKind.wrap .i64 (n_1 + 1))] H' ∧ μ [.int .i64 (IntKind.wrap .i64 (n_1 + 1))] H' < μ [.int .i64 n_1] H'))) (R (.bool false) H')) : CallH Tryz.prog 121 (List.toArray [.slice l_a l_n l_c, .int .i64
 n]) H R := vc_call (annOf [([0, 1, 0, 1], .cut [(5, .one (.int .i64))])]) followsAll Tryz.func121 rfl Tryz.ntmps121 rfl rfl (Eq.mpr (by kernel_rfl) h)
abbrev fn_ref04_Name : Nat := 122
theorem vc_ref04_Name (s : ByteArray) (H : Heap) (R : Value → Heap → Prop) (h : ∃ (M : IV), brB (decide ((↑(ByteArray.size s) : Int) < 1)) (R (.bool false) H) (brB (decide ((↑(ByteArray.size s) :
 Int) > 16)) (R (.bool false) H) (chk (decide ((0 : Int) ≤ (0 : Int) ∧ 0 < (↑(ByteArray.size s) : Int))) (brB (decide ((↑(atB s (Int.toNat 0)) : Int) < 97)) (R (.bool false) H) (chk (decide ((0 :
 Int) ≤ (0 : Int) ∧ 0 < (↑(ByteArray.size s) : Int))) (brB (decide ((↑(atB s (Int.toNat 0)) : Int) > 122)) (R (.bool false) H) (M [] H)))))) ∧ ∀ (J : F) (H' : Heap), M [] H' → ∃ (I : IV) (μ : MU), I
 [.int .i64 0] H' ∧ ∀ (J : F) (n : Int) (H' : Heap), I [.int .i64 n] H' → brB (decide (n < (↑(ByteArray.size s) : Int))) (∃ (M : IV), chk (decide (0 ≤ n ∧ n < (↑(ByteArray.size s) : Int))) (brB
 (decide ((↑(atB s (Int.toNat n)) : Int) < 97)) (brB (decide ((↑(atB s (Int.toNat n)) : Int) < 48)) (brB ((↑(atB s (Int.toNat n)) : Int) != 95) (R (.bool false) H') (M [] H')) (brB (decide ((↑(atB s
 (Int.toNat n)) : Int) > 57)) (brB ((↑(atB s (Int.toNat n)) : Int) != 95) (R (.bool false) H') (M [] H')) (M [] H'))) (brB (decide ((↑(atB s (Int.toNat n)) : Int) > 122)) (brB (decide ((↑(atB s
 (Int.toNat n)) : Int) < 48)) (brB ((↑(atB s (Int.toNat n)) : Int) != 95) (R (.bool false) H') (M [] H')) (brB (decide ((↑(atB s (Int.toNat n)) : Int) > 57)) (brB ((↑(atB s (Int.toNat n)) : Int) !=
 95) (R (.bool false) H') (M [] H')) (M [] H'))) (M [] H'))) ∧ ∀ (J : F) (H'_1 : Heap), M [] H'_1 → I [.int .i64 (IntKind.wrap .i64 (n + 1))] H'_1 ∧ μ [.int .i64 (IntKind.wrap .i64 (n + 1))] H'_1 < μ
 [.int .i64 n] H') (R (.bool true) H')) : CallH Tryz.prog 122 (List.toArray [.string s]) H R := vc_call (annOf [([1], .cut []), ([0, 1, 0, 1, 1], .cut [(3, .one (.int .i64))]), ([1, 0, 0, 1, 0, 1,
 1], .cut [])]) followsAll Tryz.func122 rfl Tryz.ntmps122 rfl rfl (Eq.mpr (by kernel_rfl) h)
abbrev fn_ref04_Value : Nat := 123
theorem vc_ref04_Value (s : ByteArray) (H : Heap) (R : Value → Heap → Prop) (h : brB (decide ((↑(ByteArray.size s) : Int) > 32)) (R (.bool false) H) (∃ (I : IV) (μ : MU), I [.string s] H ∧ ∀ (J : F)
 (s : ByteArray) (H' : Heap), I [.string s] H' → brB (decide ((↑(ByteArray.size s) : Int) > 0)) (cI 141 [.string s] H' fun n H'_1 => brB (n == 0) (R (.bool false) H'_1) (chk (decide (0 ≤ n ∧ n ≤
 (↑(ByteArray.size s) : Int) ∧ (↑(ByteArray.size s) : Int) ≤ (↑(ByteArray.size s) : Int))) (I [.string (ByteArray.extract s (Int.toNat n) (Int.toNat (↑(ByteArray.size s) : Int)))] H'_1 ∧ μ [.string
 (ByteArray.extract s (Int.toNat n) (Int.toNat (↑(ByteArray.size s) : Int)))] H'_1 < μ [.string s] H'))) (R (.bool true) H'))) : CallH Tryz.prog 123 (List.toArray [.string s]) H R := vc_call (annOf
 [([0, 0, 1, 1], .cut [(0, .one .str)])]) followsAll Tryz.func123 rfl Tryz.ntmps123 rfl rfl (Eq.mpr (by kernel_rfl) h)
theorem vc_slices_AppendSeq___int_int_ (s_a : Option Addr) (s_n : Nat) (s_c : Nat) (seq : Value) (H : Heap) (R : Value → Heap → Prop) (h : ∀ (b : Nat) (H' : Heap), New H b (.cells ⟨[.slice s_a s_n
 s_c]⟩ 80) H' → ∀ (D l : Nat) (R0 : Loop) (H1 : Heap), NewL H' D l R0 H1 → (∀ (n : Int) (H2 : Heap) (K2 : Value → Heap → Prop), Lp H2 l R0 LoopState.ready none → (Lp H2 l R0 LoopState.ready none ∧ ∃
 a n_1 c, lD 80 (setLp H2 l R0 LoopState.busy none) ⟨b, 0, none⟩ (.slice a n_1 c) ∧ ∀ (b_1 : Nat) (H' : Heap), New (setLp H2 l R0 LoopState.busy none) b_1 (.cells ⟨[.int .i64 n]⟩ 3) H' → SemWp
 Tryz.prog (Builtin.append_ ⟨[80, 80]⟩ 80 ⟨[.slice a n_1 c, .slice (some ⟨b_1, 0, none⟩) 1 1]⟩) H' fun v H' => ∃ a n c, v = .slice a n c ∧ ∃ H'_1, sT 80 H' ⟨b, 0, none⟩ (.slice a n c) H'_1 ∧ Lp H'_1
 l R0 LoopState.busy none ∧ K2 (.bool true) (setLp H'_1 l R0 LoopState.ready none)) → YieldH Tryz.prog l [.int .i64 n] H2 fun a a_1 => K2 a a_1) → CallV Tryz.prog seq [.func (Fn.yield l) ⟨[]⟩ ⟨[]⟩]
 H1 fun x H4 => (Lp H4 l R0 LoopState.ready none ∧ ∃ a n c, lD 80 (setLp H4 l R0 LoopState.exhausted none) ⟨b, 0, none⟩ (.slice a n c) ∧ Dq (setLp H4 l R0 LoopState.exhausted none) D ∧ R (.slice a n
 c) (shutD (setLp H4 l R0 LoopState.exhausted none) D)) ∨ Lp H4 l R0 LoopState.done (some Code.ret) ∧ Dq (setLp H4 l R0 LoopState.exhausted (some Code.ret)) D ∧ R (.slice none 0 0) (shutD (setLp H4 l
 R0 LoopState.exhausted (some Code.ret)) D)) : CallH Tryz.prog 124 (List.toArray [.slice s_a s_n s_c, seq]) H R := vcS_call (annOf [([0, 1, 0, 1], .cut [(7, .one (.int .i64))])]) followsAll
 Tryz.func124 rfl Tryz.ntmps124 rfl rfl (Eq.mpr (by kernel_rfl) h)
abbrev fn_files_Store_lasting : Nat := 125
theorem vc_files_Store_lasting (s : Addr) (H : Heap) (R : Value → Heap → Prop) (h : ∀ (b : Nat) (H' : Heap), New H b (.map ⟨[]⟩ 0) H' → ∃ a n c, lD 80 H' (Addr.add s 3) (.slice a n c) ∧ ∃ (I : IV)
 (μ : MU), I [.int .i64 0] H' ∧ ∀ (J : F) (n_1 : Int) (H' : Heap), I [.int .i64 n_1] H' → brB (decide (n_1 < (↑n : Int))) (ix a n_1 n fun ad => (∃ n, lD 3 H' (Addr.add ad (Int.toNat n_1 * 1)) (.int
 .i64 n) ∧ SemU Tryz.prog (Instr.mapUpdate 161 (.map (some b)) (.int .i64 n) (.bool true)) H' fun H'_1 => I [.int .i64 (IntKind.wrap .i64 (n_1 + 1))] H'_1 ∧ μ [.int .i64 (IntKind.wrap .i64 (n_1 +
 1))] H'_1 < μ [.int .i64 n_1] H')) (∃ r, lD 79 H' (Addr.add s 2) (.map r) ∧ SemWp Tryz.prog (Instr.range 79 (.map r)) H' fun v H' => ∃ a, v = .pointer a ∧ ∃ (I : IV) (μ : MU), I [] H' ∧ ∀ (J : F)
 (H' : Heap), I [] H' → SemWp Tryz.prog (Instr.next (.pointer a) false 0) H' fun v H'_1 => v = .tuple ⟨[.bool false]⟩ ∧ R (.map (some b)) H'_1 ∨ ∃ k x, v = .tuple ⟨[.bool true, k, x]⟩ ∧ SemWp
 Tryz.prog (Instr.entry (.pointer a)) H'_1 fun v H'_2 => ∃ k x, v = .tuple ⟨[k, x]⟩ ∧ ∃ s a n c, x = .agg ⟨[.string s, .slice a n c]⟩ ∧ ∀ (b_1 : Nat) (H'_3 : Heap), New H'_2 b_1 (.cells ⟨[.string {
 data := #[] }, .slice none 0 0]⟩ 122) H'_3 → ∃ H'_4, sT 122 H'_3 ⟨b_1, 0, none⟩ (.agg ⟨[.string s, .slice a n c]⟩) H'_4 ∧ ∃ a n c, lD 80 H'_4 ⟨b_1, 1, none⟩ (.slice a n c) ∧ ∃ (I_1 : IV) (μ_1 : MU),
 I_1 [.int .i64 0] H'_4 ∧ ∀ (J : F) (n_2 : Int) (H'_5 : Heap), I_1 [.int .i64 n_2] H'_5 → brB (decide (n_2 < (↑n : Int))) (ix a n_2 n fun ad => (∃ n, lD 3 H'_5 (Addr.add ad (Int.toNat n_2 * 1)) (.int
 .i64 n) ∧ SemU Tryz.prog (Instr.mapUpdate 161 (.map (some b)) (.int .i64 n) (.bool true)) H'_5 fun H' => I_1 [.int .i64 (IntKind.wrap .i64 (n_2 + 1))] H' ∧ μ_1 [.int .i64 (IntKind.wrap .i64 (n_2 +
 1))] H' < μ_1 [.int .i64 n_2] H'_5)) (I [] H'_5 ∧ μ [] H'_5 < μ [] H'))) : CallH Tryz.prog 125 (List.toArray [.pointer (some s)]) H R := vc_call (annOf [([0, 1, 0, 1, 1], .cut [(16, .one (.int
 .i64))]), ([0, 1, 0, 1, 1, 1], .cut []), ([0, 0, 1, 1, 0, 0, 1, 0, 1, 1, 1], .ext), ([0, 1, 1, 0, 1, 1, 0, 0, 1, 0, 1, 1, 1], .cut [(35, .one (.int .i64))])]) followsAll Tryz.func125 rfl
 Tryz.ntmps125 rfl rfl (Eq.mpr (by kernel_rfl) h)
theorem vc_files_Store_free_1 (yield : Value) (a1 : Addr) (a2 : Addr) (H : Heap) (R : Value → Heap → Prop) (h : ∃ (I : IV) (μ : MU), I [.int .i64 2] H ∧ ∀ (J : F) (n : Int) (H' : Heap), I [.int .i64
 n] H' → ∃ a, lD 24 H' a1 (.pointer a) ∧ exSome a fun a => ∃ a_1, lD 58 H' a (.pointer a_1) ∧ cI 107 [.pointer a_1] H' fun n_1 H'_1 => brB (decide (n < n_1)) (∃ r, lD 161 H'_1 a2 (.map r) ∧ ∃ b, Rd
 Tryz.prog (Instr.lookup 161 (.map r) (.int .i64 n) false) H'_1 (.bool b) ∧ brB (!b) (CallY Tryz.prog yield [.int .i64 n] H'_1 fun v H'_2 => ∃ b, v = .bool b ∧ brB (!b) (R (.tuple ⟨[]⟩) H'_2) (I
 [.int .i64 (IntKind.wrap .i64 (n + 1))] H'_2 ∧ μ [.int .i64 (IntKind.wrap .i64 (n + 1))] H'_2 < μ [.int .i64 n] H')) (I [.int .i64 (IntKind.wrap .i64 (n + 1))] H'_1 ∧ μ [.int .i64 (IntKind.wrap .i64
 (n + 1))] H'_1 < μ [.int .i64 n] H')) (R (.tuple ⟨[]⟩) H'_1)) : CallH Tryz.prog 126 (List.toArray [yield, .pointer (some a1), .pointer (some a2)]) H R := vcY_call (annOf [([0, 1], .cut [(4, .one
 (.int .i64))])]) followsAll Tryz.func126 rfl Tryz.ntmps126 rfl rfl (Eq.mpr (by kernel_rfl) h)
theorem vc_slices_Collect_string_ (seq : Value) (H : Heap) (R : Value → Heap → Prop) (h : cL 142 [.slice none 0 0, seq] H fun a n c H' => R (.slice a n c) H') : CallH Tryz.prog 127 (List.toArray
 [seq]) H R := vc_call (annOf []) followsAll Tryz.func127 rfl Tryz.ntmps127 rfl rfl (Eq.mpr (by kernel_rfl) h)
theorem vc_maps_Keys_map_string_string_string_string__1 (yield : Value) (a1 : Addr) (H : Heap) (R : Value → Heap → Prop) (h : ∃ r, lD 78 H a1 (.map r) ∧ SemWp Tryz.prog (Instr.range 78 (.map r)) H
 fun v H' => ∃ a, v = .pointer a ∧ ∃ (I : IV) (μ : MU), I [] H' ∧ ∀ (J : F) (H' : Heap), I [] H' → SemWp Tryz.prog (Instr.next (.pointer a) false 0) H' fun v H'_1 => v = .tuple ⟨[.bool false]⟩ ∧ R
 (.tuple ⟨[]⟩) H'_1 ∨ ∃ k x, v = .tuple ⟨[.bool true, k, x]⟩ ∧ SemWp Tryz.prog (Instr.entry (.pointer a)) H'_1 fun v H'_2 => ∃ k x, v = .tuple ⟨[k, x]⟩ ∧ ∃ s, k = .string s ∧ CallY Tryz.prog yield
 [.string s] H'_2 fun v H'_3 => ∃ b, v = .bool b ∧ brB (!b) (R (.tuple ⟨[]⟩) H'_3) (I [] H'_3 ∧ μ [] H'_3 < μ [] H')) : CallH Tryz.prog 129 (List.toArray [yield, .pointer (some a1)]) H R := vcY_call
 (annOf [([0, 1], .cut []), ([0, 0, 1, 1, 0, 0, 1], .ext)]) followsAll Tryz.func129 rfl Tryz.ntmps129 rfl rfl (Eq.mpr (by kernel_rfl) h)
theorem vc_slices_Chunk___byte_byte_ (s_a : Option Addr) (s_n : Nat) (s_c : Nat) (n : Int) (H : Heap) (R : Value → Heap → Prop) (h : ∀ (b : Nat) (H' : Heap), New H b (.cells ⟨[.slice s_a s_n s_c]⟩
 65) H' → ∀ (b_1 : Nat) (H'_1 : Heap), New H' b_1 (.cells ⟨[.int .i64 n]⟩ 3) H'_1 → ∃ n, lD 3 H'_1 ⟨b_1, 0, none⟩ (.int .i64 n) ∧ brB (decide (n < 1)) False (R (.func (Fn.func 145) ⟨[]⟩ ⟨[.pointer
 (some ⟨b, 0, none⟩), .pointer (some ⟨b_1, 0, none⟩)]⟩) H'_1)) : CallH Tryz.prog 130 (List.toArray [.slice s_a s_n s_c, .int .i64 n]) H R := vc_call (annOf []) followsAll Tryz.func130 rfl
 Tryz.ntmps130 rfl rfl (Eq.mpr (by kernel_rfl) h)
abbrev fn_ref10_directory : Nat := 131
theorem vc_ref10_directory (l_a : Option Addr) (l_n : Nat) (l_c : Nat) (H : Heap) (R : Value → Heap → Prop) (h : cS 96 [.int .u64 (IntKind.wrap .u64 (↑l_n : Int))] H fun s H' => ∃ (I : IV) (μ : MU),
 I [.string s, .int .i64 0] H' ∧ ∀ (J : F) (s : ByteArray) (n : Int) (H' : Heap), I [.string s, .int .i64 n] H' → brB (decide (n < (↑l_n : Int))) (ix l_a n l_n fun ad => (∃ s_1, lD 9 H' (Addr.add ad
 (Int.toNat n * 3)) (.string s_1) ∧ ix l_a n l_n fun ad => (∃ s_2, lD 9 H' (Addr.add (Addr.add ad (Int.toNat n * 3)) 1) (.string s_2) ∧ cS 60 [.string s_1] H' fun s_3 H'_1 => lD 9 H'_1 (Addr.add
 (Addr.add ad (Int.toNat n * 3)) 1) (.string s_2) ∧ chk (decide (ByteArray.size s + ByteArray.size s_3 ≤ 9223372036854775807)) (cS 96 [.int .u64 (IntKind.wrap .u64 (↑(ByteArray.size s_2) : Int))]
 H'_1 fun s_4 H'_2 => chk (decide (ByteArray.size (s ++ s_3) + ByteArray.size s_4 ≤ 9223372036854775807)) (∃ (I_1 : IV) (μ_1 : MU), I_1 [.string (s ++ s_3 ++ s_4), .int .i64 0] H'_2 ∧ ∀ (J : F) (s_5
 : ByteArray) (n_1 : Int) (H'_3 : Heap), I_1 [.string s_5, .int .i64 n_1] H'_3 → ix l_a n l_n fun ad => (∃ a n_2 c, lD 80 H'_3 (Addr.add (Addr.add ad (Int.toNat n * 3)) 2) (.slice a n_2 c) ∧ brB
 (decide (n_1 < (↑n_2 : Int))) (ix l_a n l_n fun ad => (∃ a n_3 c, lD 80 H'_3 (Addr.add (Addr.add ad (Int.toNat n * 3)) 2) (.slice a n_3 c) ∧ ix a n_1 n_3 fun ad => (∃ n, lD 3 H'_3 (Addr.add ad
 (Int.toNat n_1 * 1)) (.int .i64 n) ∧ cS 96 [.int .u64 (IntKind.wrap .u64 n)] H'_3 fun s H' => chk (decide (ByteArray.size s_5 + ByteArray.size s ≤ 9223372036854775807)) (I_1 [.string (s_5 ++ s),
 .int .i64 (IntKind.wrap .i64 (n_1 + 1))] H' ∧ μ_1 [.string (s_5 ++ s), .int .i64 (IntKind.wrap .i64 (n_1 + 1))] H' < μ_1 [.string s_5, .int .i64 n_1] H'_3)))) (I [.string s_5, .int .i64
 (IntKind.wrap .i64 (n + 1))] H'_3 ∧ μ [.string s_5, .int .i64 (IntKind.wrap .i64 (n + 1))] H'_3 < μ [.string s, .int .i64 n] H'))))))) (R (.string s) H')) : CallH Tryz.prog 131 (List.toArray [.slice
 l_a l_n l_c]) H R := vc_call (annOf [([0, 1, 0, 1, 1], .cut [(3, .one .str), (4, .one (.int .i64))]), ([0, 0, 0, 1, 0, 0, 1, 0, 1, 1], .reg [0, 0, 0, 6, 14, 30, 62, 127, 0, 0, 768, 1792, 3840, 7936,
 16128, 32638, 65535, 131071] (.quiet 0 (.quiet 1 (.quiet 2 (.quiet 3 (.quiet 4 (.quiet 5 (.quiet 8 (.quiet 9 (.quiet 10 (.quiet 11 (.quiet 12 (.quiet 13 (.quiet 14 (.pick (.alt 6 (.quiet 7 (.pick
 (.alt 15 (.quiet 16 (.quiet 17 .done)) .stop))) .stop)))))))))))))))), ([0, 1, 1, 0, 0, 1, 0, 0, 1, 0, 1, 1], .cut [(3, .one .str), (5, .one (.int .i64))])]) followsAll Tryz.func131 rfl
 Tryz.ntmps131 rfl rfl (Eq.mpr (by kernel_rfl) h)
abbrev fn_label_Name : Nat := 134
theorem vc_label_Name (s : ByteArray) (H : Heap) (R : Value → Heap → Prop) (h : ∃ (M : IV), brB (ByteArray.toList s == ByteArray.toList { data := #[] }) (R (.bool false) H) (brB (decide
 ((↑(ByteArray.size s) : Int) > 16)) (R (.bool false) H) (M [] H)) ∧ ∀ (J : F) (H' : Heap), M [] H' → SemWp Tryz.prog (Instr.range 9 (.string s)) H' fun v H' => ∃ a, v = .pointer a ∧ ∃ (I : IV) (μ :
 MU), I [] H' ∧ ∀ (J : F) (H' : Heap), I [] H' → SemWp Tryz.prog (Instr.next (.pointer a) true 0) H' fun v H'_1 => v = .tuple ⟨[.bool false]⟩ ∧ R (.bool true) H'_1 ∨ ∃ k x, v = .tuple ⟨[.bool true,
 k, x]⟩ ∧ ∃ n, k = .int .i64 n ∧ ∃ n_1, x = .int .i32 n_1 ∧ ∃ (M : IV), brB (decide (97 ≤ n_1)) (M [.bool (decide (n_1 ≤ 122))] H'_1) (M [.bool false] H'_1) ∧ ∀ (J : F) (b : Bool) (H'_2 : Heap), M
 [.bool b] H'_2 → brB (!b) (brB (n == 0) (R (.bool false) H'_2) (brB (n_1 != 95) (brB (decide (n_1 < 48)) (R (.bool false) H'_2) (brB (decide (57 < n_1)) (R (.bool false) H'_2) (I [] H'_2 ∧ μ [] H'_2
 < μ [] H'))) (I [] H'_2 ∧ μ [] H'_2 < μ [] H'))) (I [] H'_2 ∧ μ [] H'_2 < μ [] H')) : CallH Tryz.prog 134 (List.toArray [.string s]) H R := vc_call (annOf [([1], .cut []), ([0, 1, 0, 1, 1], .cut
 []), ([0, 0, 1, 1, 0, 0, 1, 0, 1, 1], .ext), ([1, 0, 1, 1, 0, 0, 1, 0, 1, 1], .cut [(5, .one .bool)])]) followsAll Tryz.func134 rfl Tryz.ntmps134 rfl rfl (Eq.mpr (by kernel_rfl) h)
abbrev fn_label_Value : Nat := 135
theorem vc_label_Value (s : ByteArray) (H : Heap) (R : Value → Heap → Prop) (h : brB (decide ((↑(ByteArray.size s) : Int) > 32)) (R (.bool false) H) (SemWp Tryz.prog (Instr.range 9 (.string s)) H
 fun v H' => ∃ a, v = .pointer a ∧ ∃ (I : IV) (μ : MU), I [.int .i64 0] H' ∧ ∀ (J : F) (n : Int) (H' : Heap), I [.int .i64 n] H' → SemWp Tryz.prog (Instr.next (.pointer a) true 0) H' fun v H'_1 => v
 = .tuple ⟨[.bool false]⟩ ∧ R (.bool (n == (↑(ByteArray.size s) : Int))) H'_1 ∨ ∃ k x, v = .tuple ⟨[.bool true, k, x]⟩ ∧ ∃ n_1, x = .int .i32 n_1 ∧ cI 146 [.int .i32 n_1] H'_1 fun n_2 H'_2 => I [.int
 .i64 (IntKind.wrap .i64 (n + n_2))] H'_2 ∧ μ [.int .i64 (IntKind.wrap .i64 (n + n_2))] H'_2 < μ [.int .i64 n] H')) : CallH Tryz.prog 135 (List.toArray [.string s]) H R := vc_call (annOf [([0, 1, 0,
 1, 1, 1], .cut [(3, .one (.int .i64))]), ([0, 0, 1, 1, 0, 0, 1, 0, 1, 1, 1], .ext)]) followsAll Tryz.func135 rfl Tryz.ntmps135 rfl rfl (Eq.mpr (by kernel_rfl) h)
abbrev fn_strings_Builder_WriteByte : Nat := 136
theorem vc_strings_Builder_WriteByte (b : Addr) (c : Int) (H : Heap) (R : Value → Heap → Prop) (h : cU 54 [.pointer (some b)] H fun H' => ∃ a n c_1, lD 65 H' (Addr.add b 1) (.slice a n c_1) ∧ ∀ (b_1
 : Nat) (H'_1 : Heap), New H' b_1 (.cells ⟨[.int .u8 c]⟩ 5) H'_1 → SemWp Tryz.prog (Builtin.append_ ⟨[65, 65]⟩ 65 ⟨[.slice a n c_1, .slice (some ⟨b_1, 0, none⟩) 1 1]⟩) H'_1 fun v H' => ∃ a n c, v =
 .slice a n c ∧ ∃ H'_2, sT 65 H' (Addr.add b 1) (.slice a n c) H'_2 ∧ R .nilIface H'_2) : CallH Tryz.prog 136 (List.toArray [.pointer (some b), .int .u8 c]) H R := vc_call (annOf []) followsAll
 Tryz.func136 rfl Tryz.ntmps136 rfl rfl (Eq.mpr (by kernel_rfl) h)
abbrev fn_strings_Builder_Grow : Nat := 137
theorem vc_strings_Builder_Grow (b : Addr) (n : Int) (H : Heap) (R : Value → Heap → Prop) (h : cU 54 [.pointer (some b)] H fun H' => brB (decide (n < 0)) False (∃ a n_1 c, lD 65 H' (Addr.add b 1)
 (.slice a n_1 c) ∧ ∃ a n_2 c_1, lD 65 H' (Addr.add b 1) (.slice a n_2 c_1) ∧ brB (decide (IntKind.wrap .i64 ((↑c : Int) - (↑n_2 : Int)) < n)) (cU 147 [.pointer (some b), .int .i64 n] H' fun H' => R
 (.tuple ⟨[]⟩) H') (R (.tuple ⟨[]⟩) H'))) : CallH Tryz.prog 137 (List.toArray [.pointer (some b), .int .i64 n]) H R := vc_call (annOf []) followsAll Tryz.func137 rfl Tryz.ntmps137 rfl rfl (Eq.mpr (by
 kernel_rfl) h)
abbrev fn_strings_CutPrefix : Nat := 138
theorem vc_strings_CutPrefix (s : ByteArray) (prefix_ : ByteArray) (H : Heap) (R : Value → Heap → Prop) (h : cH 148 ⟨[.string s, .string «prefix_»]⟩ H fun v H' => ∃ s b, v = .tuple ⟨[.string s,
 .bool b]⟩ ∧ R (.tuple ⟨[.string s, .bool b]⟩) H') : CallH Tryz.prog 138 (List.toArray [.string s, .string «prefix_»]) H R := vc_call (annOf []) followsAll Tryz.func138 rfl Tryz.ntmps138 rfl rfl
 (Eq.mpr (by kernel_rfl) h)
theorem vc_internal_stringslite_Cut (s : ByteArray) (sep : ByteArray) (H : Heap) (R : Value → Heap → Prop) (h : cI 149 [.string s, .string sep] H fun n H' => brB (decide (n ≥ 0)) (chk (decide ((0 :
 Int) ≤ (0 : Int) ∧ 0 ≤ n ∧ n ≤ (↑(ByteArray.size s) : Int))) (chk (decide (0 ≤ IntKind.wrap .i64 (n + (↑(ByteArray.size sep) : Int)) ∧ IntKind.wrap .i64 (n + (↑(ByteArray.size sep) : Int)) ≤
 (↑(ByteArray.size s) : Int) ∧ (↑(ByteArray.size s) : Int) ≤ (↑(ByteArray.size s) : Int))) (R (.tuple ⟨[.string (ByteArray.extract s 0 (Int.toNat n)), .string (ByteArray.extract s (Int.toNat
 (IntKind.wrap .i64 (n + (↑(ByteArray.size sep) : Int)))) (Int.toNat (↑(ByteArray.size s) : Int))), .bool true]⟩) H'))) (R (.tuple ⟨[.string s, .string { data := #[] }, .bool false]⟩) H')) : CallH
 Tryz.prog 139 (List.toArray [.string s, .string sep]) H R := vc_call (annOf []) followsAll Tryz.func139 rfl Tryz.ntmps139 rfl rfl (Eq.mpr (by kernel_rfl) h)
abbrev fn_zig_Unfold : Nat := 140
theorem vc_zig_Unfold (n : Int) (H : Heap) (R : Value → Heap → Prop) (h : R (.int .i64 (IntKind.wrap .i64 (↑(BitVec.toNat (BitVec.ofInt 64 (IntKind.wrap .i64 (Int.fdiv n (2 ^ 1))) ^^^ BitVec.ofInt
 64 (IntKind.wrap .i64 (0 - IntKind.wrap .i64 (IntKind.wrap .u64 (↑(BitVec.toNat (BitVec.ofInt 64 n &&& BitVec.ofInt 64 1)) : Int)))))) : Int))) H) : CallH Tryz.prog 140 (List.toArray [.int .u64 n])
 H R := vc_call (annOf []) followsAll Tryz.func140 rfl Tryz.ntmps140 rfl rfl (Eq.mpr (by kernel_rfl) h)
abbrev fn_ref04_wide : Nat := 141
theorem vc_ref04_wide (s : ByteArray) (H : Heap) (R : Value → Heap → Prop) (h : chk (decide ((0 : Int) ≤ (0 : Int) ∧ 0 < (↑(ByteArray.size s) : Int))) (∃ (M : IV), brB (decide (IntKind.wrap .i64
 (↑(atB s (Int.toNat 0)) : Int) < 128)) (R (.int .i64 1) H) (∃ (M_1 : IV), brB (decide (IntKind.wrap .i64 (↑(atB s (Int.toNat 0)) : Int) ≥ 192)) (M_1 [.bool (decide (IntKind.wrap .i64 (↑(atB s 0) :
 Int) < 224))] H) (M_1 [.bool false] H) ∧ ∀ (J : F) (b : Bool) (H' : Heap), M_1 [.bool b] H' → brB b (M [.int .i64 2, .int .i64 (IntKind.wrap .i64 (IntKind.wrap .i64 (↑(atB s 0) : Int) - 192))] H')
 (∃ (M_2 : IV), brB (decide (IntKind.wrap .i64 (↑(atB s (Int.toNat 0)) : Int) ≥ 224)) (M_2 [.bool (decide (IntKind.wrap .i64 (↑(atB s 0) : Int) < 240))] H') (M_2 [.bool false] H') ∧ ∀ (J : F) (b :
 Bool) (H' : Heap), M_2 [.bool b] H' → brB b (M [.int .i64 3, .int .i64 (IntKind.wrap .i64 (IntKind.wrap .i64 (↑(atB s 0) : Int) - 224))] H') (brB (decide (IntKind.wrap .i64 (↑(atB s (Int.toNat 0)) :
 Int) ≥ 240)) (brB (decide (IntKind.wrap .i64 (↑(atB s (Int.toNat 0)) : Int) < 248)) (M [.int .i64 4, .int .i64 (IntKind.wrap .i64 (IntKind.wrap .i64 (↑(atB s 0) : Int) - 240))] H') (M [.int .i64 0,
 .int .i64 0] H')) (M [.int .i64 0, .int .i64 0] H')))) ∧ ∀ (J : F) (n n_1 : Int) (H' : Heap), M [.int .i64 n, .int .i64 n_1] H' → ∃ (M : IV), brB (n == 0) (R (.int .i64 0) H') (brB (decide
 ((↑(ByteArray.size s) : Int) < n)) (R (.int .i64 0) H') (M [] H')) ∧ ∀ (J : F) (H' : Heap), M [] H' → ∃ (I : IV) (μ : MU), I [.int .i64 n_1, .int .i64 1] H' ∧ ∀ (J : F) (n_2 n_3 : Int) (H' : Heap),
 I [.int .i64 n_2, .int .i64 n_3] H' → brB (decide (n_3 < n)) (∃ (M : IV), chk (decide (0 ≤ n_3 ∧ n_3 < (↑(ByteArray.size s) : Int))) (brB (decide ((↑(atB s (Int.toNat n_3)) : Int) < 128)) (R (.int
 .i64 0) H') (chk (decide (0 ≤ n_3 ∧ n_3 < (↑(ByteArray.size s) : Int))) (brB (decide ((↑(atB s (Int.toNat n_3)) : Int) ≥ 192)) (R (.int .i64 0) H') (M [] H')))) ∧ ∀ (J : F) (H'_1 : Heap), M [] H'_1
 → chk (decide (0 ≤ n_3 ∧ n_3 < (↑(ByteArray.size s) : Int))) (I [.int .i64 (IntKind.wrap .i64 (IntKind.wrap .i64 (IntKind.wrap .i64 (n_2 * 64) + IntKind.wrap .i64 (↑(atB s (Int.toNat n_3)) : Int)) -
 128)), .int .i64 (IntKind.wrap .i64 (n_3 + 1))] H'_1 ∧ μ [.int .i64 (IntKind.wrap .i64 (IntKind.wrap .i64 (IntKind.wrap .i64 (n_2 * 64) + IntKind.wrap .i64 (↑(atB s (Int.toNat n_3)) : Int)) - 128)),
 .int .i64 (IntKind.wrap .i64 (n_3 + 1))] H'_1 < μ [.int .i64 n_2, .int .i64 n_3] H')) (∃ (M : IV), brB (n == 2) (brB (decide (n_2 < 128)) (R (.int .i64 0) H') (brB (n == 3) (brB (decide (n_2 <
 2048)) (R (.int .i64 0) H') (brB (n == 4) (brB (decide (n_2 < 65536)) (R (.int .i64 0) H') (brB (decide (n_2 > 1114111)) (R (.int .i64 0) H') (brB (decide (n_2 ≥ 55296)) (brB (decide (n_2 < 57344))
 (R (.int .i64 0) H') (M [] H')) (M [] H')))) (brB (decide (n_2 > 1114111)) (R (.int .i64 0) H') (brB (decide (n_2 ≥ 55296)) (brB (decide (n_2 < 57344)) (R (.int .i64 0) H') (M [] H')) (M [] H')))))
 (brB (n == 4) (brB (decide (n_2 < 65536)) (R (.int .i64 0) H') (brB (decide (n_2 > 1114111)) (R (.int .i64 0) H') (brB (decide (n_2 ≥ 55296)) (brB (decide (n_2 < 57344)) (R (.int .i64 0) H') (M []
 H')) (M [] H')))) (brB (decide (n_2 > 1114111)) (R (.int .i64 0) H') (brB (decide (n_2 ≥ 55296)) (brB (decide (n_2 < 57344)) (R (.int .i64 0) H') (M [] H')) (M [] H')))))) (brB (n == 3) (brB (decide
 (n_2 < 2048)) (R (.int .i64 0) H') (brB (n == 4) (brB (decide (n_2 < 65536)) (R (.int .i64 0) H') (brB (decide (n_2 > 1114111)) (R (.int .i64 0) H') (brB (decide (n_2 ≥ 55296)) (brB (decide (n_2 <
 57344)) (R (.int .i64 0) H') (M [] H')) (M [] H')))) (brB (decide (n_2 > 1114111)) (R (.int .i64 0) H') (brB (decide (n_2 ≥ 55296)) (brB (decide (n_2 < 57344)) (R (.int .i64 0) H') (M [] H')) (M []
 H'))))) (brB (n == 4) (brB (decide (n_2 < 65536)) (R (.int .i64 0) H') (brB (decide (n_2 > 1114111)) (R (.int .i64 0) H') (brB (decide (n_2 ≥ 55296)) (brB (decide (n_2 < 57344)) (R (.int .i64 0) H')
 (M [] H')) (M [] H')))) (brB (decide (n_2 > 1114111)) (R (.int .i64 0) H') (brB (decide (n_2 ≥ 55296)) (brB (decide (n_2 < 57344)) (R (.int .i64 0) H') (M [] H')) (M [] H'))))) ∧ ∀ (J : F) (H' :
 Heap), M [] H' → R (.int .i64 n) H'))) : CallH Tryz.prog 141 (List.toArray [.string s]) H R := vc_call (annOf [([1, 1, 1, 1], .cut [(4, .one (.int .i64)), (5, .one (.int .i64))]), ([1, 1, 0, 0, 1,
 1, 1, 1], .cut [(13, .one .bool)]), ([1, 1, 1, 1, 0, 0, 1, 1, 1, 1], .cut [(22, .one .bool)]), ([1, 1, 1, 1, 1], .cut []), ([0, 1, 0, 1, 1, 1, 1, 1, 1], .cut [(5, .one (.int .i64)), (6, .one (.int
 .i64))]), ([0, 0, 1, 0, 0, 1, 0, 1, 1, 1, 1, 1, 1], .cut []), ([1, 1, 1, 1, 1, 1, 1], .cut [])]) followsAll Tryz.func141 rfl Tryz.ntmps141 rfl rfl (Eq.mpr (by kernel_rfl) h)
theorem vc_slices_AppendSeq___string_string_ (s_a : Option Addr) (s_n : Nat) (s_c : Nat) (seq : Value) (H : Heap) (R : Value → Heap → Prop) (h : ∀ (b : Nat) (H' : Heap), New H b (.cells ⟨[.slice s_a
 s_n s_c]⟩ 92) H' → ∀ (D l : Nat) (R0 : Loop) (H1 : Heap), NewL H' D l R0 H1 → (∀ (s : ByteArray) (H2 : Heap) (K2 : Value → Heap → Prop), Lp H2 l R0 LoopState.ready none → (Lp H2 l R0 LoopState.ready
 none ∧ ∃ a n c, lD 92 (setLp H2 l R0 LoopState.busy none) ⟨b, 0, none⟩ (.slice a n c) ∧ ∀ (b_1 : Nat) (H' : Heap), New (setLp H2 l R0 LoopState.busy none) b_1 (.cells ⟨[.string s]⟩ 9) H' → SemWp
 Tryz.prog (Builtin.append_ ⟨[92, 92]⟩ 92 ⟨[.slice a n c, .slice (some ⟨b_1, 0, none⟩) 1 1]⟩) H' fun v H' => ∃ a n c, v = .slice a n c ∧ ∃ H'_1, sT 92 H' ⟨b, 0, none⟩ (.slice a n c) H'_1 ∧ Lp H'_1 l
 R0 LoopState.busy none ∧ K2 (.bool true) (setLp H'_1 l R0 LoopState.ready none)) → YieldH Tryz.prog l [.string s] H2 fun a a_1 => K2 a a_1) → CallV Tryz.prog seq [.func (Fn.yield l) ⟨[]⟩ ⟨[]⟩] H1
 fun x H4 => (Lp H4 l R0 LoopState.ready none ∧ ∃ a n c, lD 92 (setLp H4 l R0 LoopState.exhausted none) ⟨b, 0, none⟩ (.slice a n c) ∧ Dq (setLp H4 l R0 LoopState.exhausted none) D ∧ R (.slice a n c)
 (shutD (setLp H4 l R0 LoopState.exhausted none) D)) ∨ Lp H4 l R0 LoopState.done (some Code.ret) ∧ Dq (setLp H4 l R0 LoopState.exhausted (some Code.ret)) D ∧ R (.slice none 0 0) (shutD (setLp H4 l R0
 LoopState.exhausted (some Code.ret)) D)) : CallH Tryz.prog 142 (List.toArray [.slice s_a s_n s_c, seq]) H R := vcS_call (annOf [([0, 1, 0, 1], .cut [(7, .one .str)])]) followsAll Tryz.func142 rfl
 Tryz.ntmps142 rfl rfl (Eq.mpr (by kernel_rfl) h)
theorem vc_slices_Chunk___byte_byte__1 (yield : Value) (a1 : Addr) (a2 : Addr) (H : Heap) (R : Value → Heap → Prop) (h : ∃ (I : IV) (μ : MU), I [.int .i64 0] H ∧ ∀ (J : F) (n : Int) (H' : Heap), I
 [.int .i64 n] H' → ∃ a n_1 c, lD 65 H' a1 (.slice a n_1 c) ∧ brB (decide (n < (↑n_1 : Int))) (∃ n_2, lD 3 H' a2 (.int .i64 n_2) ∧ ∃ a n_3 c, lD 65 H' a1 (.slice a n_3 c) ∧ chk (decide (0 ≤ n ∧ n ≤
 (↑n_3 : Int) ∧ (↑n_3 : Int) ≤ (↑c : Int))) (∃ a n_4 c, lD 65 H' a1 (.slice a n_4 c) ∧ chk (decide (0 ≤ n ∧ n ≤ IntKind.wrap .i64 (n + if (↑(Int.toNat (↑n_3 : Int) - Int.toNat n) : Int) < n_2 then
 (↑(Int.toNat (↑n_3 : Int) - Int.toNat n) : Int) else n_2) ∧ IntKind.wrap .i64 (n + if (↑(Int.toNat (↑n_3 : Int) - Int.toNat n) : Int) < n_2 then (↑(Int.toNat (↑n_3 : Int) - Int.toNat n) : Int) else
 n_2) ≤ IntKind.wrap .i64 (n + if (↑(Int.toNat (↑n_3 : Int) - Int.toNat n) : Int) < n_2 then (↑(Int.toNat (↑n_3 : Int) - Int.toNat n) : Int) else n_2) ∧ IntKind.wrap .i64 (n + if (↑(Int.toNat (↑n_3 :
 Int) - Int.toNat n) : Int) < n_2 then (↑(Int.toNat (↑n_3 : Int) - Int.toNat n) : Int) else n_2) ≤ (↑c : Int))) (CallY Tryz.prog yield [.slice (slA (Int.toNat (IntKind.wrap .i64 (n + if (↑(Int.toNat
 (↑n_3 : Int) - Int.toNat n) : Int) < n_2 then (↑(Int.toNat (↑n_3 : Int) - Int.toNat n) : Int) else n_2))) (Int.toNat n) 1 a) (Int.toNat (IntKind.wrap .i64 (n + if (↑(Int.toNat (↑n_3 : Int) -
 Int.toNat n) : Int) < n_2 then (↑(Int.toNat (↑n_3 : Int) - Int.toNat n) : Int) else n_2)) - Int.toNat n) (Int.toNat (IntKind.wrap .i64 (n + if (↑(Int.toNat (↑n_3 : Int) - Int.toNat n) : Int) < n_2
 then (↑(Int.toNat (↑n_3 : Int) - Int.toNat n) : Int) else n_2)) - Int.toNat n)] H' fun v H'_1 => ∃ b, v = .bool b ∧ brB (!b) (R (.tuple ⟨[]⟩) H'_1) (∃ n_5, lD 3 H'_1 a2 (.int .i64 n_5) ∧ I [.int
 .i64 (IntKind.wrap .i64 (n + n_5))] H'_1 ∧ μ [.int .i64 (IntKind.wrap .i64 (n + n_5))] H'_1 < μ [.int .i64 n] H')))) (R (.tuple ⟨[]⟩) H')) : CallH Tryz.prog 145 (List.toArray [yield, .pointer (some
 a1), .pointer (some a2)]) H R := vcY_call (annOf [([0, 1], .cut [(4, .one (.int .i64))]), ([0, 0, 0, 1, 0, 0, 1], .reg [0, 0, 0, 6, 14, 31, 63] (.quiet 0 (.quiet 1 (.quiet 2 (.quiet 3 (.quiet 4
 (.quiet 5 (.quiet 6 .done))))))))]) followsAll Tryz.func145 rfl Tryz.ntmps145 rfl rfl (Eq.mpr (by kernel_rfl) h)
abbrev fn_unicode_utf8_RuneLen : Nat := 146
theorem vc_unicode_utf8_RuneLen (r : Int) (H : Heap) (R : Value → Heap → Prop) (h : brB (decide (r < 0)) (R (.int .i64 (-1 : Int)) H) (brB (decide (r ≤ 127)) (R (.int .i64 1) H) (brB (decide (r ≤
 2047)) (R (.int .i64 2) H) (brB (decide (55296 ≤ r)) (brB (decide (r ≤ 57343)) (R (.int .i64 (-1 : Int)) H) (brB (decide (r ≤ 65535)) (R (.int .i64 3) H) (brB (decide (r ≤ 1114111)) (R (.int .i64 4)
 H) (R (.int .i64 (-1 : Int)) H)))) (brB (decide (r ≤ 65535)) (R (.int .i64 3) H) (brB (decide (r ≤ 1114111)) (R (.int .i64 4) H) (R (.int .i64 (-1 : Int)) H))))))) : CallH Tryz.prog 146
 (List.toArray [.int .i32 r]) H R := vc_call (annOf []) followsAll Tryz.func146 rfl Tryz.ntmps146 rfl rfl (Eq.mpr (by kernel_rfl) h)
theorem vc_strings_Builder_grow (b : Addr) (n : Int) (H : Heap) (R : Value → Heap → Prop) (h : ∃ a n_1 c, lD 65 H (Addr.add b 1) (.slice a n_1 c) ∧ ∃ a n_2 c_1, lD 65 H (Addr.add b 1) (.slice a n_2
 c_1) ∧ ExtH Tryz.prog 161 ⟨[.int .i64 (IntKind.wrap .i64 (IntKind.wrap .i64 (2 * (↑c : Int)) + n))]⟩ H fun v H' => ∃ a_1 n c, v = .slice a_1 n c ∧ lD 65 H' (Addr.add b 1) (.slice a n_2 c_1) ∧ chk
 (decide ((0 : Int) ≤ (0 : Int) ∧ 0 ≤ (↑n_2 : Int) ∧ (↑n_2 : Int) ≤ (↑c : Int))) (∃ a n c_2, lD 65 H' (Addr.add b 1) (.slice a n c_2) ∧ SemWp Tryz.prog (Builtin.copy_ ⟨[65, 65]⟩ 3 ⟨[.slice a_1
 (Int.toNat (↑n_2 : Int) - 0) (c - 0), .slice a n c_2]⟩) H' fun v H' => ∃ n, v = .int .i64 n ∧ ∃ H'_1, sT 65 H' (Addr.add b 1) (.slice a_1 (Int.toNat (↑n_2 : Int) - 0) (c - 0)) H'_1 ∧ R (.tuple ⟨[]⟩)
 H'_1)) : CallH Tryz.prog 147 (List.toArray [.pointer (some b), .int .i64 n]) H R := vc_call (annOf [([0], .reg [0, 1, 3, 7, 15, 31, 0, 127, 255, 0, 512, 1536, 3584, 7680, 16383, 32767] (.quiet 0
 (.quiet 1 (.quiet 2 (.quiet 3 (.quiet 4 (.quiet 5 (.quiet 6 (.quiet 7 (.quiet 9 (.quiet 10 (.quiet 11 (.quiet 12 (.quiet 13 (.pick (.alt 8 (.quiet 14 (.quiet 15 .done)) .stop))))))))))))))))])
 followsAll Tryz.func147 rfl Tryz.ntmps147 rfl rfl (Eq.mpr (by kernel_rfl) h)
theorem vc_internal_stringslite_CutPrefix (s : ByteArray) (prefix_ : ByteArray) (H : Heap) (R : Value → Heap → Prop) (h : cB 162 [.string s, .string «prefix_»] H fun b H' => brB (!b) (R (.tuple
 ⟨[.string s, .bool false]⟩) H') (chk (decide (0 ≤ (↑(ByteArray.size «prefix_») : Int) ∧ (↑(ByteArray.size «prefix_») : Int) ≤ (↑(ByteArray.size s) : Int) ∧ (↑(ByteArray.size s) : Int) ≤
 (↑(ByteArray.size s) : Int))) (R (.tuple ⟨[.string (ByteArray.extract s (Int.toNat (↑(ByteArray.size «prefix_») : Int)) (Int.toNat (↑(ByteArray.size s) : Int))), .bool true]⟩) H'))) : CallH
 Tryz.prog 148 (List.toArray [.string s, .string «prefix_»]) H R := vc_call (annOf []) followsAll Tryz.func148 rfl Tryz.ntmps148 rfl rfl (Eq.mpr (by kernel_rfl) h)
theorem vc_internal_stringslite_Index (s : ByteArray) (substr : ByteArray) (H : Heap) (R : Value → Heap → Prop) (h : ∃ (M : IV), (∃ (M_1 : IV), brB ((↑(ByteArray.size substr) : Int) == 0) (M_1
 [.bool true] H) (M_1 [.bool (ByteArray.toList substr == ByteArray.toList s)] H) ∧ ∀ (J : F) (b : Bool) (H' : Heap), M_1 [.bool b] H' → brB b (R (.int .i64 0) H') (brB ((↑(ByteArray.size substr) :
 Int) == 1) (chk (decide ((0 : Int) ≤ (0 : Int) ∧ 0 < (↑(ByteArray.size substr) : Int))) (cI 163 [.string s, .int .u8 (↑(atB substr 0) : Int)] H' fun n H' => R (.int .i64 n) H')) (brB (decide
 ((↑(ByteArray.size substr) : Int) ≥ (↑(ByteArray.size s) : Int))) (R (.int .i64 (-1 : Int)) H') (∃ n, lD 3 H' ⟨1, 0, none⟩ (.int .i64 n) ∧ brB (decide ((↑(ByteArray.size substr) : Int) ≤ n)) (brB
 (decide ((↑(ByteArray.size s) : Int) ≤ 64)) (ExtH Tryz.prog 164 ⟨[.string s, .string substr]⟩ H' fun v H' => ∃ n, v = .int .i64 n ∧ R (.int .i64 n) H') (M [] H')) (M [] H'))))) ∧ ∀ (J : F) (H' :
 Heap), M [] H' → chk (decide ((0 : Int) ≤ (0 : Int) ∧ 0 < (↑(ByteArray.size substr) : Int))) (chk (decide ((0 : Int) ≤ (1 : Int) ∧ 1 < (↑(ByteArray.size substr) : Int))) (∃ (I : IV) (μ : MU), I
 [.int .i64 0, .int .i64 0] H' ∧ ∀ (J : F) (n n_1 : Int) (H' : Heap), I [.int .i64 n, .int .i64 n_1] H' → brB (decide (n < IntKind.wrap .i64 (IntKind.wrap .i64 ((↑(ByteArray.size s) : Int) -
 (↑(ByteArray.size substr) : Int)) + 1))) (∃ (M : IV), chk (decide (0 ≤ n ∧ n < (↑(ByteArray.size s) : Int))) (brB ((↑(atB s (Int.toNat n)) : Int) != (↑(atB substr (Int.toNat 0)) : Int)) (chk (decide
 (0 ≤ IntKind.wrap .i64 (n + 1) ∧ IntKind.wrap .i64 (n + 1) ≤ IntKind.wrap .i64 (IntKind.wrap .i64 ((↑(ByteArray.size s) : Int) - (↑(ByteArray.size substr) : Int)) + 1) ∧ IntKind.wrap .i64
 (IntKind.wrap .i64 ((↑(ByteArray.size s) : Int) - (↑(ByteArray.size substr) : Int)) + 1) ≤ (↑(ByteArray.size s) : Int))) (cI 163 [.string (ByteArray.extract s (Int.toNat (IntKind.wrap .i64 (n + 1)))
 (Int.toNat (IntKind.wrap .i64 (IntKind.wrap .i64 ((↑(ByteArray.size s) : Int) - (↑(ByteArray.size substr) : Int)) + 1)))), .int .u8 (↑(atB substr 0) : Int)] H' fun n_2 H' => brB (decide (n_2 < 0))
 (R (.int .i64 (-1 : Int)) H') (M [.int .i64 (IntKind.wrap .i64 (n + IntKind.wrap .i64 (n_2 + 1)))] H'))) (M [.int .i64 n] H')) ∧ ∀ (J : F) (n_2 : Int) (H'_1 : Heap), M [.int .i64 n_2] H'_1 → ∃ (M :
 IV), chk (decide (0 ≤ IntKind.wrap .i64 (n_2 + 1) ∧ IntKind.wrap .i64 (n_2 + 1) < (↑(ByteArray.size s) : Int))) (brB ((↑(atB s (Int.toNat (IntKind.wrap .i64 (n_2 + 1)))) : Int) == (↑(atB substr
 (Int.toNat 1)) : Int)) (chk (decide (0 ≤ n_2 ∧ n_2 ≤ IntKind.wrap .i64 (n_2 + (↑(ByteArray.size substr) : Int)) ∧ IntKind.wrap .i64 (n_2 + (↑(ByteArray.size substr) : Int)) ≤ (↑(ByteArray.size s) :
 Int))) (brB (ByteArray.toList (ByteArray.extract s (Int.toNat n_2) (Int.toNat (IntKind.wrap .i64 (n_2 + (↑(ByteArray.size substr) : Int))))) == ByteArray.toList substr) (R (.int .i64 n_2) H'_1) (M
 [] H'_1))) (M [] H'_1)) ∧ ∀ (J : F) (H'_2 : Heap), M [] H'_2 → ∃ (M : IV), (∃ n, lD 3 H'_2 ⟨1, 0, none⟩ (.int .i64 n) ∧ brB (decide ((↑(ByteArray.size substr) : Int) ≤ n)) (cI 165 [.int .i64
 (IntKind.wrap .i64 (n_2 + 1))] H'_2 fun n H' => M [.bool (decide (IntKind.wrap .i64 (n_1 + 1) > n))] H') (M [.bool false] H'_2)) ∧ ∀ (J : F) (b : Bool) (H'_3 : Heap), M [.bool b] H'_3 → brB b (chk
 (decide (0 ≤ IntKind.wrap .i64 (n_2 + 1) ∧ IntKind.wrap .i64 (n_2 + 1) ≤ (↑(ByteArray.size s) : Int) ∧ (↑(ByteArray.size s) : Int) ≤ (↑(ByteArray.size s) : Int))) (ExtH Tryz.prog 164 ⟨[.string
 (ByteArray.extract s (Int.toNat (IntKind.wrap .i64 (n_2 + 1))) (Int.toNat (↑(ByteArray.size s) : Int))), .string substr]⟩ H'_3 fun v H' => ∃ n, v = .int .i64 n ∧ brB (decide (n ≥ 0)) (R (.int .i64
 (IntKind.wrap .i64 (n + IntKind.wrap .i64 (n_2 + 1)))) H') (R (.int .i64 (-1 : Int)) H'))) (∃ (M : IV), (∃ n, lD 3 H'_3 ⟨1, 0, none⟩ (.int .i64 n) ∧ brB (decide ((↑(ByteArray.size substr) : Int) >
 n)) (brB (decide (IntKind.wrap .i64 (n_1 + 1) ≥ IntKind.wrap .i64 (4 + Int.fdiv (IntKind.wrap .i64 (n_2 + 1)) (2 ^ min (Int.toNat 4) (IntKind.bits .i64))))) (M [.bool (decide (IntKind.wrap .i64 (n_2
 + 1) < IntKind.wrap .i64 (IntKind.wrap .i64 ((↑(ByteArray.size s) : Int) - (↑(ByteArray.size substr) : Int)) + 1)))] H'_3) (M [.bool false] H'_3)) (M [.bool false] H'_3)) ∧ ∀ (J : F) (b : Bool)
 (H'_4 : Heap), M [.bool b] H'_4 → brB b (chk (decide (0 ≤ IntKind.wrap .i64 (n_2 + 1) ∧ IntKind.wrap .i64 (n_2 + 1) ≤ (↑(ByteArray.size s) : Int) ∧ (↑(ByteArray.size s) : Int) ≤ (↑(ByteArray.size s)
 : Int))) (cI 166 [.string (ByteArray.extract s (Int.toNat (IntKind.wrap .i64 (n_2 + 1))) (Int.toNat (↑(ByteArray.size s) : Int))), .string substr] H'_4 fun n H' => brB (decide (n < 0)) (R (.int .i64
 (-1 : Int)) H') (R (.int .i64 (IntKind.wrap .i64 (IntKind.wrap .i64 (n_2 + 1) + n))) H'))) (I [.int .i64 (IntKind.wrap .i64 (n_2 + 1)), .int .i64 (IntKind.wrap .i64 (n_1 + 1))] H'_4 ∧ μ [.int .i64
 (IntKind.wrap .i64 (n_2 + 1)), .int .i64 (IntKind.wrap .i64 (n_1 + 1))] H'_4 < μ [.int .i64 n, .int .i64 n_1] H'))) (R (.int .i64 (-1 : Int)) H')))) : CallH Tryz.prog 149 (List.toArray [.string s,
 .string substr]) H R := vc_call (annOf [([1, 1], .cut []), ([0, 0, 1, 1], .cut [(16, .one .bool)]), ([0, 0, 1, 1, 1, 1, 1, 1, 1, 1], .cut [(8, .one (.int .i64)), (10, .one (.int .i64))]), ([0, 1, 0,
 0, 0, 1, 1, 1, 1, 1, 1, 1, 1], .cut [(8, .one (.int .i64))]), ([1, 0, 1, 0, 0, 0, 1, 1, 1, 1, 1, 1, 1, 1], .cut []), ([1, 1, 1, 1, 0, 1, 0, 0, 0, 1, 1, 1, 1, 1, 1, 1, 1], .cut [(107, .one .bool)]),
 ([1, 1, 1, 1, 1, 1, 0, 1, 0, 0, 0, 1, 1, 1, 1, 1, 1, 1, 1], .cut [(132, .one .bool)])]) followsAll Tryz.func149 rfl Tryz.ntmps149 rfl rfl (Eq.mpr (by kernel_rfl) h)
theorem vc_internal_stringslite_HasPrefix (s : ByteArray) (prefix_ : ByteArray) (H : Heap) (R : Value → Heap → Prop) (h : brB (decide ((↑(ByteArray.size s) : Int) ≥ (↑(ByteArray.size «prefix_») :
 Int))) (chk (decide ((0 : Int) ≤ (0 : Int) ∧ 0 ≤ (↑(ByteArray.size «prefix_») : Int) ∧ (↑(ByteArray.size «prefix_») : Int) ≤ (↑(ByteArray.size s) : Int))) (R (.bool (ByteArray.toList
 (ByteArray.extract s 0 (Int.toNat (↑(ByteArray.size «prefix_») : Int))) == ByteArray.toList «prefix_»)) H)) (R (.bool false) H)) : CallH Tryz.prog 162 (List.toArray [.string s, .string «prefix_»]) H
 R := vc_call (annOf []) followsAll Tryz.func162 rfl Tryz.ntmps162 rfl rfl (Eq.mpr (by kernel_rfl) h)
theorem vc_internal_stringslite_IndexByte (s : ByteArray) (c : Int) (H : Heap) (R : Value → Heap → Prop) (h : ExtH Tryz.prog 173 ⟨[.string s, .int .u8 c]⟩ H fun v H' => ∃ n, v = .int .i64 n ∧ R
 (.int .i64 n) H') : CallH Tryz.prog 163 (List.toArray [.string s, .int .u8 c]) H R := vc_call (annOf []) followsAll Tryz.func163 rfl Tryz.ntmps163 rfl rfl (Eq.mpr (by kernel_rfl) h)
end Go.Proofs
