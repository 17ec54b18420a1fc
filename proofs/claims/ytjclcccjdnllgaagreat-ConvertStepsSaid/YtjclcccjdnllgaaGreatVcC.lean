/- A part of a proof: see the last text of this claim. -/
import Derived.Test.YtjclcccjdnllgaaGreatGvCore
import Derived.Test.YtjclcccjdnllgaaGreatRange
import Derived.Test.YtjclcccjdnllgaaGreatRows
set_option linter.unusedVariables false
set_option maxRecDepth 100000
open Go Go.GV
namespace Go.Proofs
open Go.IntKind (wrap)
variable {H : Heap} {R : Value → Heap → Prop}
theorem followsAll : Tryz.prog.follows .mixedOrders = true := by kernel_rfl
abbrev IV := List Value → Heap → Prop
abbrev MU := List Value → Heap → Nat
abbrev lD := Ld Tryz.prog
abbrev sT := St Tryz.prog
abbrev cH := CallH Tryz.prog
abbrev cB (k : FuncId) (l : List Value) (H : Heap) (K : Bool → Heap → Prop) : Prop := CallH Tryz.prog k ⟨l⟩ H fun v G => ∃ b, v = .bool b ∧ K b G
abbrev cI (k : FuncId) (l : List Value) (H : Heap) (K : Int → Heap → Prop) : Prop := CallH Tryz.prog k ⟨l⟩ H fun v G => ∃ n, v = .int .i64 n ∧ K n G
abbrev cS (k : FuncId) (l : List Value) (H : Heap) (K : ByteArray → Heap → Prop) : Prop := CallH Tryz.prog k ⟨l⟩ H fun v G => ∃ s, v = .string s ∧ K s G
abbrev cP (k : FuncId) (l : List Value) (H : Heap) (K : Option Addr → Heap → Prop) : Prop := CallH Tryz.prog k ⟨l⟩ H fun v G => ∃ a, v = .pointer a ∧ K a G
abbrev cL (k : FuncId) (l : List Value) (H : Heap) (K : Option Addr → Nat → Nat → Heap → Prop) : Prop := CallH Tryz.prog k ⟨l⟩ H fun v G => ∃ a n c, v = .slice a n c ∧ K a n c G
abbrev cV (k : FuncId) (l : List Value) (H : Heap) (K : Value → Heap → Prop) : Prop := CallH Tryz.prog k ⟨l⟩ H fun v G => ∃ x, v = x ∧ K x G
abbrev cU (k : FuncId) (l : List Value) (H : Heap) (K : Heap → Prop) : Prop := CallH Tryz.prog k ⟨l⟩ H fun v G => v = .tuple ⟨[]⟩ ∧ K G
abbrev ix (a : Option Addr) (i : Int) (n : Nat) (K : Addr → Prop) : Prop := exSome a fun ad => chk (decide (0 ≤ i ∧ i < (n : Int))) (K ad)
abbrev fn_law19_ConvertReads : Nat := 4
theorem vc_law19_ConvertReads (layout : Int) (s : ByteArray) (rows_a : Option Addr) (rows_n : Nat) (rows_c : Nat) (h : ∃ (M : IV), brB (decide ((↑(ByteArray.size
 s) : Int) > 1024)) (R (.bool true) H) (brB (decide ((↑rows_n : Int) > 100)) (R (.bool true) H) (M [] H)) ∧ ∀ (J : F) (G : Heap), M [] G → cH 10 ⟨[.int .i64 layout, .string s]⟩ G fun v G => ∃ a n
 c n1, v = .tuple ⟨[.slice a n c, .int .i64 n1]⟩ ∧ cH 11 ⟨[.int .i64 layout, .string s]⟩ G fun v G => ∃ a_1 n2 c_1 n3, v = .tuple ⟨[.slice a_1 n2 c_1, .int .i64 n3]⟩ ∧ cH 9 ⟨[.int .i64
 layout, .string s]⟩ G fun v G => ∃ n4 n5, v = .tuple ⟨[.int .i64 n4, .int .i64 n5]⟩ ∧ cH 12 ⟨[.int .i64 layout, .string s]⟩ G fun v G => ∃ n6 n7, v = .tuple ⟨[.int .i64 n6, .int .i64
 n7]⟩ ∧ cH 8 ⟨[.int .i64 layout, .slice rows_a rows_n rows_c]⟩ G fun v G => ∃ s n8, v = .tuple ⟨[.string s, .int .i64 n8]⟩ ∧ cH 13 ⟨[.int .i64 layout, .slice rows_a rows_n rows_c]⟩ G fun v G
 => ∃ s_1 n9, v = .tuple ⟨[.string s_1, .int .i64 n9]⟩ ∧ cH 10 ⟨[.int .i64 2, .string { data := #[] }]⟩ G fun v G => ∃ a_2 n10 c_2 n11, v = .tuple ⟨[.slice a_2 n10 c_2, .int .i64 n11]⟩ ∧ brB
 (n1 == n3) (cB 14 [.slice a n c, .slice a_1 n2 c_1] G fun b G => brB b (brB (n4 == n6) (brB (n5 == n7) (brB (ByteArray.toList s == ByteArray.toList s_1) (brB (n8 == n9) (R (.bool (n11 ==
 1)) G) (R (.bool false) G)) (R (.bool false) G)) (R (.bool false) G)) (R (.bool false) G)) (R (.bool false) G)) (R (.bool false) G)) : cH 4 ⟨[.int .i64 layout,
 .string s, .slice rows_a rows_n rows_c]⟩ H R := vc_call (annOf [([1], .cut [])]) followsAll Tryz.func4 rfl Tryz.ntmps4 rfl rfl (Eq.mpr (by kernel_rfl) h)
abbrev fn_law19_ConvertSteps : Nat := 5
theorem vc_law19_ConvertSteps (layout : Int) (s : ByteArray) (steps : Int) (h : brB (decide ((↑(s.size) : Int) > 256)) (R (.bool true) H) (cH 15 ⟨[.int
 .i64 layout, .string s]⟩ H fun v G => ∃ a n, v = .tuple ⟨[.pointer a, .int .i64 n]⟩ ∧ cH 16 ⟨[.int .i64 layout, .string s]⟩ G fun v G => ∃ a_1 n1, v = .tuple ⟨[.pointer a_1, .int .i64 n1]⟩ ∧ cH
 15 ⟨[.int .i64 2, .string { data := #[] }]⟩ G fun v G => ∃ a_2 n2, v = .tuple ⟨[.pointer a_2, .int .i64 n2]⟩ ∧ ∃ (M : IV), brB (n != n1) (R (.bool false) G) (brB (!Option.isNone a ==
 Option.isNone a_1) (R (.bool false) G) (brB (n2 != 1) (R (.bool false) G) (M [] G))) ∧ ∀ (J : F) (G : Heap), M [] G → ∃ (I : IV) (μ : MU), I [.int .i64 0] G ∧ ∀ (J : F) (n : Int) (G : Heap),
 I [.int .i64 n] G → ∃ (M : IV), brB (!Option.isNone a_1) (brB (decide (n < Int.tmod (wrap .i64 steps) 40)) (M [] G) (R (.bool true) G)) (R (.bool true) G) ∧ ∀ (J : F) (G1 : Heap), M []
 G1 → ∃ (M : IV), (cH 17 ⟨[.pointer a]⟩ G1 fun v G => ∃ s n, v = .tuple ⟨[.string s, .int .i64 n]⟩ ∧ cH 18 ⟨[.pointer a_1]⟩ G fun v G => ∃ s_1 n3, v = .tuple ⟨[.string s_1, .int .i64 n3]⟩ ∧
 cI 19 [.pointer a] G fun n4 G => cI 20 [.pointer a_1] G fun n5 G => brB (n4 != n5) (R (.bool false) G) (brB (!ByteArray.toList s == ByteArray.toList s_1) (R (.bool false) G) (brB (n !=
 n3) (R (.bool false) G) (cB 21 [.pointer a] G fun b G => cB 22 [.pointer a_1] G fun b_1 G => brB (!b == b_1) (R (.bool false) G) (M [] G))))) ∧ ∀ (J : F) (G2 : Heap), M [] G2 → I [.int
 .i64 (wrap .i64 (n + 1))] G2 ∧ μ [.int .i64 (wrap .i64 (n + 1))] G2 < μ [.int .i64 n] G)) : cH 5 ⟨[.int .i64 layout, .string s, .int .u8 steps]⟩ H R :=
 vc_call (annOf [([1, 1, 1, 1, 1], .cut []), ([0, 1, 0, 1, 1, 1, 1, 1, 1], .cut [(13, .one (.int .i64))]), ([0, 0, 1, 0, 1, 1, 1, 1, 1, 1], .cut []), ([1, 0, 0, 1, 0, 1, 1, 1, 1, 1, 1], .cut [])])
 followsAll Tryz.func5 rfl Tryz.ntmps5 rfl rfl (Eq.mpr (by kernel_rfl) h)
abbrev fn_convert_Write : Nat := 8
theorem vc_convert_Write (layout : Int) (rows_a : Option Addr) (rows_n : Nat) (rows_c : Nat) (h : ∃ (M : IV), brB (layout == 0) (cB 25 [.slice rows_a rows_n
 rows_c] H fun b G => M [.bool !b] G) (M [.bool false] H) ∧ ∀ (J : F) (b : Bool) (G : Heap), M [.bool b] G → brB b (R (.tuple ⟨[.string { data := #[] }, .int .i64 30]⟩) G) (brB (layout == 0) (cL
 27 [.slice rows_a rows_n rows_c] G fun a n c G => cH 26 ⟨[.slice a n c]⟩ G fun v G => ∃ s n, v = .tuple ⟨[.string s, .int .i64 n]⟩ ∧ R (.tuple ⟨[.string s, .int .i64 n]⟩) G) (brB (layout == 1)
 (cH 28 ⟨[.slice rows_a rows_n rows_c]⟩ G fun v G => ∃ s n, v = .tuple ⟨[.string s, .int .i64 n]⟩ ∧ R (.tuple ⟨[.string s, .int .i64 n]⟩) G) (R (.tuple ⟨[.string { data := #[] }, .int .i64 1]⟩)
 G)))) : cH 8 ⟨[.int .i64 layout, .slice rows_a rows_n rows_c]⟩ H R := vc_call (annOf [([0, 0, 1], .cut [(6, .one .bool)])]) followsAll Tryz.func8 rfl Tryz.ntmps8 rfl rfl
 (Eq.mpr (by kernel_rfl) h)
abbrev fn_convert_Units : Nat := 9
theorem vc_convert_Units (layout : Int) (data : ByteArray) (h : cH 29 ⟨[.int .i64 layout, .string data]⟩ H fun v G => ∃ n v_1 n1, v = .tuple ⟨[.int .i64 n,
 v_1, .int .i64 n1]⟩ ∧ R (.tuple ⟨[.int .i64 n, .int .i64 n1]⟩) G) : cH 9 ⟨[.int .i64 layout, .string data]⟩ H R := vc_call (annOf []) followsAll Tryz.func9 rfl
 Tryz.ntmps9 rfl rfl (Eq.mpr (by kernel_rfl) h)
abbrev fn_convert_Read : Nat := 10
theorem vc_convert_Read (layout : Int) (data : ByteArray) (h : brB (layout == 0) (cH 30 ⟨[.string data]⟩ H fun v G => ∃ a n c n1, v = .tuple ⟨[.slice a n c,
 .int .i64 n1]⟩ ∧ cL 31 [.slice a n c] G fun a n c G => R (.tuple ⟨[.slice a n c, .int .i64 n1]⟩) G) (brB (layout == 1) (cH 32 ⟨[.string data]⟩ H fun v G => ∃ a n c n1, v = .tuple ⟨[.slice a n
 c, .int .i64 n1]⟩ ∧ R (.tuple ⟨[.slice a n c, .int .i64 n1]⟩) G) (R (.tuple ⟨[.slice none 0 0, .int .i64 1]⟩) H))) : cH 10 ⟨[.int .i64 layout, .string data]⟩ H R :=
 vc_call (annOf []) followsAll Tryz.func10 rfl Tryz.ntmps10 rfl rfl (Eq.mpr (by kernel_rfl) h)
abbrev fn_ref19_Read : Nat := 11
theorem vc_ref19_Read (layout : Int) (data : ByteArray) (h : brB (layout == 0) (cH 33 ⟨[.string data]⟩ H fun v G => ∃ a n c n1, v = .tuple ⟨[.slice a n c, .int
 .i64 n1]⟩ ∧ brB (n1 != 0) (R (.tuple ⟨[.slice none 0 0, .int .i64 n1]⟩) G) (cL 34 [.slice a n c] G fun a n c G => R (.tuple ⟨[.slice a n c, .int .i64 0]⟩) G)) (brB (layout == 1) (cH 35
 ⟨[.string data]⟩ H fun v G => ∃ a n c n1, v = .tuple ⟨[.slice a n c, .int .i64 n1]⟩ ∧ R (.tuple ⟨[.slice a n c, .int .i64 n1]⟩) G) (R (.tuple ⟨[.slice none 0 0, .int .i64 1]⟩) H))) : cH 11 ⟨[.int .i64 layout, .string data]⟩ H R := vc_call (annOf []) followsAll Tryz.func11 rfl Tryz.ntmps11 rfl rfl (Eq.mpr (by kernel_rfl) h)
abbrev fn_ref19_Units : Nat := 12
theorem vc_ref19_Units (layout : Int) (data : ByteArray) (h : cH 11 ⟨[.int .i64 layout, .string data]⟩ H fun v G => ∃ a n c n1, v = .tuple ⟨[.slice a n c, .int
 .i64 n1]⟩ ∧ brB (n1 != 0) (R (.tuple ⟨[.int .i64 0, .int .i64 n1]⟩) G) (brB (layout == 0) (cH 36 ⟨[.string data]⟩ G fun v G => ∃ a n c n2, v = .tuple ⟨[.slice a n c, .int .i64 n2]⟩ ∧ R
 (.tuple ⟨[.int .i64 (↑n : Int), .int .i64 n2]⟩) G) (cH 37 ⟨[.string data]⟩ G fun v G => ∃ a n c n2, v = .tuple ⟨[.slice a n c, .int .i64 n2]⟩ ∧ R (.tuple ⟨[.int .i64 (↑n : Int), .int .i64
 n2]⟩) G))) : cH 12 ⟨[.int .i64 layout, .string data]⟩ H R := vc_call (annOf []) followsAll Tryz.func12 rfl Tryz.ntmps12 rfl rfl (Eq.mpr (by kernel_rfl) h)
abbrev fn_ref19_Write : Nat := 13
theorem vc_ref19_Write (layout : Int) (rows_a : Option Addr) (rows_n : Nat) (rows_c : Nat) (h : brB (layout == 0) (cB 38 [.slice rows_a rows_n rows_c] H fun b G
 => brB (!b) (R (.tuple ⟨[.string { data := #[] }, .int .i64 30]⟩) G) (cL 40 [.slice rows_a rows_n rows_c] G fun a n c G => cH 39 ⟨[.slice a n c]⟩ G fun v G => ∃ s n, v = .tuple ⟨[.string s,
 .int .i64 n]⟩ ∧ R (.tuple ⟨[.string s, .int .i64 n]⟩) G)) (brB (layout == 1) (cH 41 ⟨[.slice rows_a rows_n rows_c]⟩ H fun v G => ∃ s n, v = .tuple ⟨[.string s, .int .i64 n]⟩ ∧ R (.tuple ⟨[.string
 s, .int .i64 n]⟩) G) (R (.tuple ⟨[.string { data := #[] }, .int .i64 1]⟩) H))) : cH 13 ⟨[.int .i64 layout, .slice rows_a rows_n rows_c]⟩ H R := vc_call (annOf [])
 followsAll Tryz.func13 rfl Tryz.ntmps13 rfl rfl (Eq.mpr (by kernel_rfl) h)
abbrev fn_ref13_Equal : Nat := 14
theorem vc_ref13_Equal (a_a : Option Addr) (a_n : Nat) (a_c : Nat) (b_a : Option Addr) (b_n : Nat) (b_c : Nat) (h : brB ((↑a_n : Int) != (↑b_n : Int)) (R (.bool
 false) H) (∃ (I : IV) (μ : MU), I [.int .i64 0] H ∧ ∀ (J : F) (n : Int) (G : Heap), I [.int .i64 n] G → brB (decide (n < (↑a_n : Int))) (ix a_a n a_n fun ad => (∃ n1 n2 n3, lD 26 G (Addr.add
 ad (Int.toNat n * 3)) (.agg ⟨[.int .i64 n1, .int .i64 n2, .int .i64 n3]⟩) ∧ ix b_a n b_n fun ad => (∃ n4 n5 n6, lD 26 G (Addr.add ad (Int.toNat n * 3)) (.agg ⟨[.int .i64 n4, .int .i64 n5,
 .int .i64 n6]⟩) ∧ brB (!(n1 == n4 && (n2 == n5 && (n3 == n6 && true)))) (R (.bool false) G) (I [.int .i64 (wrap .i64 (n + 1))] G ∧ μ [.int .i64 (wrap .i64 (n + 1))] G < μ
 [.int .i64 n] G)))) (R (.bool true) G))) : cH 14 ⟨[.slice a_a a_n a_c, .slice b_a b_n b_c]⟩ H R := vc_call (annOf [([0, 1, 0, 1, 1], .cut [(5, .one (.int .i64))])])
 followsAll Tryz.func14 rfl Tryz.ntmps14 rfl rfl (Eq.mpr (by kernel_rfl) h)
abbrev fn_convert_Begin : Nat := 15
theorem vc_convert_Begin (layout : Int) (data : ByteArray) (h : cH 29 ⟨[.int .i64 layout, .string data]⟩ H fun v G => ∃ n v_1 n1, v = .tuple ⟨[.int .i64 n,
 v_1, .int .i64 n1]⟩ ∧ brB (n1 != 0) (R (.tuple ⟨[.pointer none, .int .i64 n1]⟩) G) (∀ (b : Nat) (G1 : Heap), New G b (.cells ⟨[.slice none 0 0]⟩ 73) G1 → ∀ (D l : Nat) (R0 : Loop) (H1 :
 Heap), NewL G1 D l R0 H1 → (∀ (a : Option Addr) (n c : Nat) (H2 : Heap) (K2 : Value → Heap → Prop), Lp H2 l R0 LoopState.ready none → (Lp H2 l R0 LoopState.ready none ∧ ∃ a_2 n2 c_1, lD 73 (setLp
 H2 l R0 LoopState.busy none) ⟨b, 0, none⟩ (.slice a_2 n2 c_1) ∧ ∀ (b_1 : Nat) (G : Heap), New (setLp H2 l R0 LoopState.busy none) b_1 (.cells ⟨[.slice a n c]⟩ 22) G → SemWp Tryz.prog
 (Builtin.append_ ⟨[73, 73]⟩ 73 ⟨[.slice a_2 n2 c_1, .slice (some ⟨b_1, 0, none⟩) 1 1]⟩) G fun v G => ∃ a n c, v = .slice a n c ∧ ∃ G2, sT 73 G ⟨b, 0, none⟩ (.slice a n c) G2 ∧ Lp G2 l R0
 LoopState.busy none ∧ K2 (.bool true) (setLp G2 l R0 LoopState.ready none)) → YieldH Tryz.prog l [.slice a n c] H2 fun a a_3 => K2 a a_3) → CallV Tryz.prog v_1 [.func (Fn.yield l) ⟨[]⟩ ⟨[]⟩] H1
 fun x H4 => (Lp H4 l R0 LoopState.ready none ∧ ∀ (b_1 : Nat) (G : Heap), New (setLp H4 l R0 LoopState.exhausted none) b_1 (.cells ⟨[.int .i64 layout, .int .i64 n, .nilFunc, .slice none 0 0]⟩ 76) G
 → ∃ G2, sT 74 G ⟨b_1, 2, none⟩ (.func (Fn.func 42) ⟨[]⟩ ⟨[.pointer (some ⟨b, 0, none⟩)]⟩) G2 ∧ Dq G2 D ∧ R (.tuple ⟨[.pointer (some ⟨b_1, 0, none⟩), .int .i64 0]⟩) (shutD G2 D)) ∨ Lp H4 l
 R0 LoopState.done (some Code.ret) ∧ Dq (setLp H4 l R0 LoopState.exhausted (some Code.ret)) D ∧ R (.tuple ⟨[.pointer none, .int .i64 0]⟩) (shutD (setLp H4 l R0 LoopState.exhausted (some Code.ret))
 D))) : cH 15 ⟨[.int .i64 layout, .string data]⟩ H R := vcS_call (annOf [([0, 1, 0, 1, 1, 1, 1], .cut [(23, .one .slice)])]) followsAll Tryz.func15 rfl Tryz.ntmps15 rfl rfl
 (Eq.mpr (by kernel_rfl) h)
abbrev fn_ref19_Begin : Nat := 16
theorem vc_ref19_Begin (layout : Int) (data : ByteArray) (h : cH 12 ⟨[.int .i64 layout, .string data]⟩ H fun v G => ∃ n n1, v = .tuple ⟨[.int .i64 n, .int .i64
 n1]⟩ ∧ brB (n1 != 0) (R (.tuple ⟨[.pointer none, .int .i64 n1]⟩) G) (∀ (b : Nat) (G1 : Heap), New G b (.cells ⟨[.int .i64 layout, .string data, .int .i64 n]⟩ 78) G1 → R (.tuple ⟨[.pointer
 (some ⟨b, 0, none⟩), .int .i64 0]⟩) G1)) : cH 16 ⟨[.int .i64 layout, .string data]⟩ H R := vc_call (annOf []) followsAll Tryz.func16 rfl Tryz.ntmps16 rfl rfl (Eq.mpr (by
 kernel_rfl) h)
abbrev fn_convert_Work_Data : Nat := 17
theorem vc_convert_Work_Data (w : Addr) (h : ∃ n, lD 3 H (Addr.add w 1) (.int .i64 n) ∧ brB (decide (n > 0)) (R (.tuple ⟨[.string { data := #[] }, .int .i64
 212]⟩) H) (∃ n, lD 3 H w (.int .i64 n) ∧ ∃ a n1 c, lD 52 H (Addr.add w 3) (.slice a n1 c) ∧ cL 31 [.slice a n1 c] H fun a n2 c G => lD 3 G w (.int .i64 n) ∧ cH 8 ⟨[.int .i64 (wrap .i64
 (1 - n)), .slice a n2 c]⟩ G fun v G => ∃ s n, v = .tuple ⟨[.string s, .int .i64 n]⟩ ∧ R (.tuple ⟨[.string s, .int .i64 n]⟩) G)) : cH 17 ⟨[.pointer (some w)]⟩ H R :=
 vc_call (annOf [([0, 1, 1], .reg [0, 1, 3, 7, 15, 0, 32, 96, 224, 480, 1023, 2047, 2047, 8191, 16383] (.quiet 0 (.quiet 1 (.quiet 2 (.quiet 3 (.quiet 4 (.quiet 5 (.quiet 6 (.quiet 7 (.quiet 8 (.pick
 (.alt 9 (.pick (.alt 10 (.quiet 11 (.quiet 12 (.quiet 13 (.quiet 14 .done)))) .stop)) .stop))))))))))))]) followsAll Tryz.func17 rfl Tryz.ntmps17 rfl rfl (Eq.mpr (by kernel_rfl) h)
abbrev fn_ref19_Work_Data : Nat := 18
theorem vc_ref19_Work_Data (w : Addr) (h : ∃ n, lD 3 H (Addr.add w 2) (.int .i64 n) ∧ brB (decide (n > 0)) (R (.tuple ⟨[.string { data := #[] }, .int .i64 212]⟩)
 H) (∃ n, lD 3 H w (.int .i64 n) ∧ ∃ s, lD 9 H (Addr.add w 1) (.string s) ∧ cH 11 ⟨[.int .i64 n, .string s]⟩ H fun v G => ∃ a n c n1, v = .tuple ⟨[.slice a n c, .int .i64 n1]⟩ ∧ brB (n1 != 0) (R
 (.tuple ⟨[.string { data := #[] }, .int .i64 n1]⟩) G) (∃ n2, lD 3 G w (.int .i64 n2) ∧ cH 13 ⟨[.int .i64 (wrap .i64 (1 - n2)), .slice a n c]⟩ G fun v G => ∃ s n, v = .tuple ⟨[.string
 s, .int .i64 n]⟩ ∧ R (.tuple ⟨[.string s, .int .i64 n]⟩) G))) : cH 18 ⟨[.pointer (some w)]⟩ H R := vc_call (annOf [([0, 1, 1], .reg [0, 1, 3, 7, 0, 16, 48, 112, 255, 511,
 1023, 1023, 2047, 8191] (.quiet 0 (.quiet 1 (.quiet 2 (.quiet 3 (.quiet 4 (.quiet 5 (.quiet 6 (.quiet 7 (.pick (.alt 8 (.quiet 9 (.quiet 10 (.quiet 11 (.quiet 12 (.quiet 13 .done)))))
 .stop)))))))))))]) followsAll Tryz.func18 rfl Tryz.ntmps18 rfl rfl (Eq.mpr (by kernel_rfl) h)
abbrev fn_convert_Work_Left : Nat := 19
theorem vc_convert_Work_Left (w : Addr) (h : ∃ n, lD 3 H (Addr.add w 1) (.int .i64 n) ∧ R (.int .i64 n) H) : cH 19 ⟨[.pointer (some
 w)]⟩ H R := vc_call (annOf []) followsAll Tryz.func19 rfl Tryz.ntmps19 rfl rfl (Eq.mpr (by kernel_rfl) h)
abbrev fn_ref19_Work_Left : Nat := 20
theorem vc_ref19_Work_Left (w : Addr) (h : ∃ n, lD 3 H (Addr.add w 2) (.int .i64 n) ∧ R (.int .i64 n) H) : cH 20 ⟨[.pointer (some w)]⟩ H R := vc_call (annOf []) followsAll Tryz.func20 rfl Tryz.ntmps20 rfl rfl (Eq.mpr (by kernel_rfl) h)
abbrev fn_convert_Work_Step : Nat := 21
theorem vc_convert_Work_Step (w : Addr) (h : ∃ n, lD 3 H (Addr.add w 1) (.int .i64 n) ∧ brB (n == 0) (R (.bool false) H) (∃ a n c, lD 52 H (Addr.add w 3) (.slice
 a n c) ∧ ∃ v, lD 74 H (Addr.add w 2) v ∧ CallV Tryz.prog v [] H fun v G => ∃ a_1 n1 c_1, v = .slice a_1 n1 c_1 ∧ lD 52 G (Addr.add w 3) (.slice a n c) ∧ cL 43 [.slice a n c, .slice a_1 n1 c_1]
 G fun a n c G => ∃ G1, sT 52 G (Addr.add w 3) (.slice a n c) G1 ∧ ∃ n, lD 3 G1 (Addr.add w 1) (.int .i64 n) ∧ ∃ G, sT 3 G1 (Addr.add w 1) (.int .i64 (wrap .i64 (n - 1))) G ∧ R
 (.bool true) G)) : cH 21 ⟨[.pointer (some w)]⟩ H R := vc_call (annOf [([0, 1, 1], .reg [0, 0, 2, 6, 14, 0, 32, 96, 224, 480, 1022, 2047, 4095, 8191] (.quiet 0 (.quiet 1
 (.quiet 2 (.quiet 3 (.quiet 4 (.quiet 5 (.quiet 6 (.quiet 7 (.quiet 8 (.pick (.alt 9 (.pick (.alt 10 (.quiet 11 (.quiet 12 (.pick (.alt 13 (.done) .stop)))) .stop)) .stop))))))))))))]) followsAll
 Tryz.func21 rfl Tryz.ntmps21 rfl rfl (Eq.mpr (by kernel_rfl) h)
abbrev fn_ref19_Work_Step : Nat := 22
theorem vc_ref19_Work_Step (w : Addr) (h : ∃ n, lD 3 H (Addr.add w 2) (.int .i64 n) ∧ brB (n == 0) (R (.bool false) H) (∃ n, lD 3 H (Addr.add w 2) (.int .i64 n)
 ∧ ∃ G, sT 3 H (Addr.add w 2) (.int .i64 (wrap .i64 (n - 1))) G ∧ R (.bool true) G)) : cH 22 ⟨[.pointer (some w)]⟩ H R := vc_call (annOf []) followsAll
 Tryz.func22 rfl Tryz.ntmps22 rfl rfl (Eq.mpr (by kernel_rfl) h)
abbrev fn_ref13_Behind : Nat := 24
theorem vc_ref13_Behind (a_0 : Int) (a_1 : Int) (a_2 : Int) (b_0 : Int) (b_1 : Int) (b_2 : Int) (h : ∀ (b : Nat) (G : Heap), New H b (.cells ⟨[.int .i64 a_0,
 .int .i64 a_1, .int .i64 a_2]⟩ 26) G → ∀ (b_3 : Nat) (G1 : Heap), New G b_3 (.cells ⟨[.int .i64 b_0, .int .i64 b_1, .int .i64 b_2]⟩ 26) G1 → ∃ n, lD 3 G1 ⟨b, 0, none⟩ (.int .i64 n) ∧ ∃ n1,
 lD 3 G1 ⟨b_3, 0, none⟩ (.int .i64 n1) ∧ brB (decide (n > n1)) (R (.bool true) G1) (∃ n, lD 3 G1 ⟨b, 0, none⟩ (.int .i64 n) ∧ ∃ n2, lD 3 G1 ⟨b_3, 0, none⟩ (.int .i64 n2) ∧ brB (n == n2)
 (∃ n, lD 3 G1 ⟨b, 1, none⟩ (.int .i64 n) ∧ ∃ n3, lD 3 G1 ⟨b_3, 1, none⟩ (.int .i64 n3) ∧ R (.bool (decide (n > n3))) G1) (R (.bool false) G1))) : CallH Tryz.prog 24 (List.toArray [.agg
 #[.int .i64 a_0, .int .i64 a_1, .int .i64 a_2], .agg #[.int .i64 b_0, .int .i64 b_1, .int .i64 b_2]]) H R := vc_call (annOf []) followsAll Tryz.func24 rfl Tryz.ntmps24 rfl rfl (Eq.mpr (by
 kernel_rfl) h)
abbrev fn_convert_right : Nat := 25
theorem vc_convert_right (rows_a : Option Addr) (rows_n : Nat) (rows_c : Nat) (h : ∃ (I : IV) (μ : MU), I [.int .i64 0] H ∧ ∀ (J : F) (n : Int) (G : Heap), I
 [.int .i64 n] G → brB (decide (n < (↑rows_n : Int))) (ix rows_a n rows_n fun ad => (∃ n1 n2 n3, lD 26 G (Addr.add ad (Int.toNat n * 3)) (.agg ⟨[.int .i64 n1, .int .i64 n2, .int .i64 n3]⟩) ∧
 ∀ (b : Nat) (G1 : Heap), New G b (.cells ⟨[.int .i64 0, .int .i64 0, .int .i64 0]⟩ 26) G1 → ∃ G2, sT 26 G1 ⟨b, 0, none⟩ (.agg ⟨[.int .i64 n1, .int .i64 n2, .int .i64 n3]⟩) G2 ∧ brB
 (decide (n > 0)) (ix rows_a (wrap .i64 (n - 1)) rows_n fun ad => (∃ n4 n5 n6, lD 26 G2 (Addr.add ad (Int.toNat (wrap .i64 (n - 1)) * 3)) (.agg ⟨[.int .i64 n4, .int .i64 n5,
 .int .i64 n6]⟩) ∧ ∀ (b_1 : Nat) (G3 : Heap), New G2 b_1 (.cells ⟨[.int .i64 0, .int .i64 0, .int .i64 0]⟩ 26) G3 → ∃ G4, sT 26 G3 ⟨b_1, 0, none⟩ (.agg ⟨[.int .i64 n4, .int .i64 n5, .int
 .i64 n6]⟩) G4 ∧ ∃ n7, lD 3 G4 ⟨b, 0, none⟩ (.int .i64 n7) ∧ ∃ n8, lD 3 G4 ⟨b_1, 0, none⟩ (.int .i64 n8) ∧ brB (decide (n7 < n8)) (R (.bool false) G4) (∃ n9, lD 3 G4 ⟨b, 0, none⟩
 (.int .i64 n9) ∧ ∃ n10, lD 3 G4 ⟨b_1, 0, none⟩ (.int .i64 n10) ∧ brB (n9 == n10) (∃ n11, lD 3 G4 ⟨b, 1, none⟩ (.int .i64 n11) ∧ ∃ n12, lD 3 G4 ⟨b_1, 1, none⟩ (.int .i64 n12) ∧ brB
 (decide (n11 ≤ n12)) (R (.bool false) G4) (I [.int .i64 (wrap .i64 (n + 1))] G4 ∧ μ [.int .i64 (wrap .i64 (n + 1))] G4 < μ [.int .i64 n] G)) (I [.int .i64 (wrap .i64
 (n + 1))] G4 ∧ μ [.int .i64 (wrap .i64 (n + 1))] G4 < μ [.int .i64 n] G)))) (I [.int .i64 (wrap .i64 (n + 1))] G2 ∧ μ [.int .i64 (wrap .i64 (n + 1))] G2 < μ [.int
 .i64 n] G))) (R (.bool true) G)) : cH 25 ⟨[.slice rows_a rows_n rows_c]⟩ H R := vc_call (annOf [([0, 1, 0, 1], .cut [(8, .one (.int .i64))])]) followsAll Tryz.func25 rfl
 Tryz.ntmps25 rfl rfl (Eq.mpr (by kernel_rfl) h)
abbrev fn_major_Encode : Nat := 26
theorem vc_major_Encode (l_a : Option Addr) (l_n : Nat) (l_c : Nat) (h : ∀ (b : Nat) (G : Heap), New H b (.cells ⟨[.pointer none, .slice none 0 0]⟩ 83) G → ∀
 (b_1 : Nat) (G1 : Heap), New G b_1 (.cells ⟨[.pointer none, .slice none 0 0]⟩ 83) G1 → cS 45 [.int .u64 (wrap .u64 (↑l_n : Int))] G1 fun s G => cH 44 ⟨[.pointer (some ⟨b, 0, none⟩),
 .string s]⟩ G fun v G => ∃ n v_1, v = .tuple ⟨[.int .i64 n, v_1]⟩ ∧ ∃ (I : IV) (μ : MU), I [.int .i64 (-1 : Int), .int .i64 0] G ∧ ∀ (J : F) (n n1 : Int) (G : Heap), I [.int .i64 n, .int .i64
 n1] G → brB (decide (n1 < (↑l_n : Int))) (ix l_a n1 l_n fun ad => (∃ n2 a n3 c, lD 92 G (Addr.add ad (Int.toNat n1 * 2)) (.agg ⟨[.int .i64 n2, .slice a n3 c]⟩) ∧ ∀ (b_2 : Nat) (G2 :
 Heap), New G b_2 (.cells ⟨[.int .i64 0, .slice none 0 0]⟩ 92) G2 → ∃ G3, sT 92 G2 ⟨b_2, 0, none⟩ (.agg ⟨[.int .i64 n2, .slice a n3 c]⟩) G3 ∧ ∃ a n4 c, lD 90 G3 ⟨b_2, 1, none⟩ (.slice a
 n4 c) ∧ cH 46 ⟨[.slice a n4 c]⟩ G3 fun v G4 => ∃ s n5, v = .tuple ⟨[.string s, .int .i64 n5]⟩ ∧ ∃ (M : IV), brB (n5 != 0) (R (.tuple ⟨[.string { data := #[] }, .int .i64 30]⟩) G4) (∃ a
 n6 c, lD 90 G4 ⟨b_2, 1, none⟩ (.slice a n6 c) ∧ brB ((↑n6 : Int) == 0) (R (.tuple ⟨[.string { data := #[] }, .int .i64 30]⟩) G4) (∃ n7, lD 3 G4 ⟨b_2, 0, none⟩ (.int .i64 n7) ∧ brB (decide
 (n7 ≤ n)) (R (.tuple ⟨[.string { data := #[] }, .int .i64 30]⟩) G4) (∃ n, lD 3 G4 ⟨b_2, 0, none⟩ (.int .i64 n) ∧ brB (decide (n ≥ 200)) (R (.tuple ⟨[.string { data := #[] }, .int .i64 30]⟩)
 G4) (M [] G4)))) ∧ ∀ (J : F) (G5 : Heap), M [] G5 → ∃ n6, lD 3 G5 ⟨b_2, 0, none⟩ (.int .i64 n6) ∧ ∃ n7, lD 3 G5 ⟨b_2, 0, none⟩ (.int .i64 n7) ∧ cS 45 [.int .u64 (wrap .u64
 n7)] G5 fun s_1 G6 => cS 45 [.int .u64 (wrap .u64 (↑(s.size) : Int))] G6 fun s_2 G7 => chk (decide (s_1.size + s_2.size ≤ 9223372036854775807)) (cH 44
 ⟨[.pointer (some ⟨b, 0, none⟩), .string (s_1 ++ s_2)]⟩ G7 fun v G8 => ∃ n8 v_2, v = .tuple ⟨[.int .i64 n8, v_2]⟩ ∧ cH 44 ⟨[.pointer (some ⟨b_1, 0, none⟩), .string s]⟩ G8 fun v G9 => ∃ n9
 v_3, v = .tuple ⟨[.int .i64 n9, v_3]⟩ ∧ I [.int .i64 n6, .int .i64 (wrap .i64 (n1 + 1))] G9 ∧ μ [.int .i64 n6, .int .i64 (wrap .i64 (n1 + 1))] G9 < μ [.int .i64 n, .int .i64
 n1] G))) (cS 47 [.pointer (some ⟨b, 0, none⟩)] G fun s G => cS 47 [.pointer (some ⟨b_1, 0, none⟩)] G fun s_1 G => chk (decide (s.size + s_1.size ≤ 9223372036854775807)) (R
 (.tuple ⟨[.string (s ++ s_1), .int .i64 0]⟩) G))) : cH 26 ⟨[.slice l_a l_n l_c]⟩ H R := vc_call (annOf [([0, 1, 0, 1, 1, 1, 1], .cut [(6, .one (.int .i64)), (18, .one
 (.int .i64))]), ([1, 1, 0, 0, 1, 1, 0, 0, 1, 0, 1, 1, 1, 1], .cut [])]) followsAll Tryz.func26 rfl Tryz.ntmps26 rfl rfl (Eq.mpr (by kernel_rfl) h)
abbrev fn_series_Split : Nat := 27
theorem vc_series_Split (rows_a : Option Addr) (rows_n : Nat) (rows_c : Nat) (h : cL 43 [.slice none 0 0, .slice rows_a rows_n rows_c] H fun a n c G => R
 (.slice a n c) G) : cH 27 ⟨[.slice rows_a rows_n rows_c]⟩ H R := vc_call (annOf []) followsAll Tryz.func27 rfl Tryz.ntmps27 rfl rfl (Eq.mpr (by kernel_rfl) h)
abbrev fn_runs_Encode : Nat := 28
theorem vc_runs_Encode (rows_a : Option Addr) (rows_n : Nat) (rows_c : Nat) (h : ∃ (I : IV) (μ : MU), I [.int .i64 0] H ∧ ∀ (J : F) (n : Int) (G : Heap), I
 [.int .i64 n] G → brB (decide (n < (↑rows_n : Int))) (∃ (M : IV), (ix rows_a n rows_n fun ad => (∃ n1 n2 n3, lD 26 G (Addr.add ad (Int.toNat n * 3)) (.agg ⟨[.int .i64 n1, .int .i64 n2, .int
 .i64 n3]⟩) ∧ ∀ (b : Nat) (G1 : Heap), New G b (.cells ⟨[.int .i64 0, .int .i64 0, .int .i64 0]⟩ 26) G1 → ∃ G, sT 26 G1 ⟨b, 0, none⟩ (.agg ⟨[.int .i64 n1, .int .i64 n2, .int .i64 n3]⟩) G
 ∧ ∃ (M_1 : IV), (∃ n4, lD 3 G ⟨b, 0, none⟩ (.int .i64 n4) ∧ brB (decide (n4 < 0)) (M_1 [.bool true] G) (∃ n5, lD 3 G ⟨b, 0, none⟩ (.int .i64 n5) ∧ brB (decide (n5 ≥ 1099511627776)) (M_1
 [.bool true] G) (∃ n6, lD 3 G ⟨b, 1, none⟩ (.int .i64 n6) ∧ brB (decide (n6 < 0)) (M_1 [.bool true] G) (∃ n7, lD 3 G ⟨b, 1, none⟩ (.int .i64 n7) ∧ brB (decide (n7 ≥ 200)) (M_1 [.bool true]
 G) (brB (decide (n > 0)) (∃ n8 n9 n10, lD 26 G ⟨b, 0, none⟩ (.agg ⟨[.int .i64 n8, .int .i64 n9, .int .i64 n10]⟩) ∧ ix rows_a (wrap .i64 (n - 1)) rows_n fun ad => (∃ n11 n12 n13,
 lD 26 G (Addr.add ad (Int.toNat (wrap .i64 (n - 1)) * 3)) (.agg ⟨[.int .i64 n11, .int .i64 n12, .int .i64 n13]⟩) ∧ cB 48 [.agg ⟨[.int .i64 n8, .int .i64 n9, .int .i64 n10]⟩, .agg
 ⟨[.int .i64 n11, .int .i64 n12, .int .i64 n13]⟩] G fun b G => M_1 [.bool !b] G)) (M_1 [.bool false] G)))))) ∧ ∀ (J : F) (b : Bool) (G : Heap), M_1 [.bool b] G → brB b (R (.tuple ⟨[.string {
 data := #[] }, .int .i64 30]⟩) G) (M [] G))) ∧ ∀ (J : F) (G1 : Heap), M [] G1 → I [.int .i64 (wrap .i64 (n + 1))] G1 ∧ μ [.int .i64 (wrap .i64 (n + 1))] G1 < μ [.int .i64
 n] G) (brB (decide ((↑rows_n : Int) > 5000)) (R (.tuple ⟨[.string { data := #[] }, .int .i64 30]⟩) G) (∀ (b : Nat) (G1 : Heap), New G b (.cells ⟨[.pointer none, .slice none 0 0]⟩ 83) G1 → ∀
 (b_1 : Nat) (G : Heap), New G1 b_1 (.cells ⟨[.pointer none, .slice none 0 0]⟩ 83) G → cS 45 [.int .u64 (wrap .u64 (↑rows_n : Int))] G fun s G => cH 44 ⟨[.pointer (some ⟨b, 0, none⟩),
 .string s]⟩ G fun v G => ∃ n v_1, v = .tuple ⟨[.int .i64 n, v_1]⟩ ∧ cV 49 [.slice rows_a rows_n rows_c, .int .i64 16] G fun v_2 G => ∀ (D l : Nat) (R0 : Loop) (H1 : Heap), NewL G D l R0 H1 → (∀
 (a : Option Addr) (n c : Nat) (H2 : Heap) (K2 : Value → Heap → Prop), Lp H2 l R0 LoopState.ready none → (Lp H2 l R0 LoopState.ready none ∧ CallH Tryz.prog 50 ⟨[.pointer (some ⟨b_1, 0, none⟩)]⟩
 (setLp H2 l R0 LoopState.busy none) fun v G => ∃ n1, v = .int .i64 n1 ∧ ix a (0) n fun ad => (∃ n2, lD 3 G ad (.int .i64 n2) ∧ ∃ (I : IV) (μ : MU), I [.int .i64 n2, .int .i64 0] G ∧ ∀ (J :
 F) (n3 n4 : Int) (G : Heap), I [.int .i64 n3, .int .i64 n4] G → brB (decide (n4 < (↑n : Int))) (ix a n4 n fun ad => (∃ n n5 n6, lD 26 G (Addr.add ad (Int.toNat n4 * 3)) (.agg ⟨[.int .i64
 n, .int .i64 n5, .int .i64 n6]⟩) ∧ ∀ (b : Nat) (G2 : Heap), New G b (.cells ⟨[.int .i64 0, .int .i64 0, .int .i64 0]⟩ 26) G2 → ∃ G3, sT 26 G2 ⟨b, 0, none⟩ (.agg ⟨[.int .i64 n, .int .i64
 n5, .int .i64 n6]⟩) G3 ∧ ∃ n, lD 3 G3 ⟨b, 0, none⟩ (.int .i64 n) ∧ ∃ n7, lD 3 G3 ⟨b, 1, none⟩ (.int .i64 n7) ∧ ∃ n8, lD 3 G3 ⟨b, 2, none⟩ (.int .i64 n8) ∧ cS 45 [.int .u64
 (wrap .u64 (wrap .i64 (n - n3)))] G3 fun s G4 => lD 3 G4 ⟨b, 2, none⟩ (.int .i64 n8) ∧ lD 3 G4 ⟨b, 1, none⟩ (.int .i64 n7) ∧ cS 45 [.int .u64 (wrap .u64 n7)] G4
 fun s_1 G5 => lD 3 G5 ⟨b, 2, none⟩ (.int .i64 n8) ∧ chk (decide (s.size + s_1.size ≤ 9223372036854775807)) (cS 51 [.int .i64 n8] G5 fun s_2 G6 => chk (decide
 (ByteArray.size (s ++ s_1) + s_2.size ≤ 9223372036854775807)) (cH 44 ⟨[.pointer (some ⟨b_1, 0, none⟩), .string (s ++ s_1 ++ s_2)]⟩ G6 fun v G7 => ∃ n v_3, v = .tuple ⟨[.int .i64 n,
 v_3]⟩ ∧ ∃ n, lD 3 G7 ⟨b, 0, none⟩ (.int .i64 n) ∧ I [.int .i64 n, .int .i64 (wrap .i64 (n4 + 1))] G7 ∧ μ [.int .i64 n, .int .i64 (wrap .i64 (n4 + 1))] G7 < μ [.int .i64 n3,
 .int .i64 n4] G)))) (cS 45 [.int .u64 (wrap .u64 n2)] G fun s G => cS 45 [.int .u64 (wrap .u64 (wrap .i64 (n3 - n2)))] G fun s_1 G => chk (decide (s.size +
 s_1.size ≤ 9223372036854775807)) (cI 50 [.pointer (some ⟨b_1, 0, none⟩)] G fun n G => cS 45 [.int .u64 (wrap .u64 (wrap .i64 (n - n1)))] G fun s_2 G => chk (decide
 (ByteArray.size (s ++ s_1) + s_2.size ≤ 9223372036854775807)) (cH 44 ⟨[.pointer (some ⟨b, 0, none⟩), .string (s ++ s_1 ++ s_2)]⟩ G fun v G => ∃ n v_3, v = .tuple ⟨[.int .i64 n, v_3]⟩ ∧
 Lp G l R0 LoopState.busy none ∧ K2 (.bool true) (setLp G l R0 LoopState.ready none)))))) → YieldH Tryz.prog l [.slice a n c] H2 fun a a_3 => K2 a a_3) → CallV Tryz.prog v_2 [.func (Fn.yield l)
 ⟨[]⟩ ⟨[]⟩] H1 fun x H4 => (Lp H4 l R0 LoopState.ready none ∧ CallH Tryz.prog 47 ⟨[.pointer (some ⟨b, 0, none⟩)]⟩ (setLp H4 l R0 LoopState.exhausted none) fun v G => ∃ s, v = .string s ∧ cS 47
 [.pointer (some ⟨b_1, 0, none⟩)] G fun s_1 G => chk (decide (s.size + s_1.size ≤ 9223372036854775807)) (Dq G D ∧ R (.tuple ⟨[.string (s ++ s_1), .int .i64 0]⟩) (shutD G D)))
 ∨ Lp H4 l R0 LoopState.done (some Code.ret) ∧ Dq (setLp H4 l R0 LoopState.exhausted (some Code.ret)) D ∧ R (.tuple ⟨[J 2, J 3]⟩) (shutD (setLp H4 l R0 LoopState.exhausted (some Code.ret)) D)))) :
 cH 28 ⟨[.slice rows_a rows_n rows_c]⟩ H R := vcS_call (annOf [([0, 1, 0, 1], .cut [(16, .one (.int .i64))]), ([1, 1, 0, 0, 1, 0, 1], .cut []), ([1, 0, 0, 1, 1, 0, 0, 1, 0,
 1], .cut [(52, .one .bool)]), ([0, 1, 0, 0, 1, 1, 0, 0, 1, 0, 1], .tail 28), ([0, 1, 0, 1, 1, 1, 1, 1], .cut [(64, .one .slice)]), ([0, 1, 0, 1, 1, 1, 0, 1, 0, 1, 0, 1, 1, 1, 1, 1], .cut [(11, .one
 (.int .i64)), (73, .one (.int .i64))]), ([0, 1, 0, 0, 1, 1, 0, 0, 1, 0, 1, 1, 1, 0, 1, 0, 1, 0, 1, 1, 1, 1, 1], .reg [0, 1, 0, 7, 15, 31, 0, 64, 192, 511, 1023, 0, 2048, 7167, 16383, 32767] (.quiet
 0 (.quiet 1 (.quiet 2 (.quiet 3 (.quiet 4 (.quiet 6 (.quiet 7 (.quiet 8 (.quiet 11 (.quiet 12 (.pick (.alt 5 (.pick (.alt 9 (.quiet 10 (.pick (.alt 13 (.quiet 14 (.pick (.alt 15 (.done) .stop)))
 .stop))) .stop)) .stop)))))))))))))]) followsAll Tryz.func28 rfl Tryz.ntmps28 rfl rfl (Eq.mpr (by kernel_rfl) h)
abbrev fn_convert_units : Nat := 29
theorem vc_convert_units (layout : Int) (data : ByteArray) (h : brB (layout == 0) (cH 30 ⟨[.string data]⟩ H fun v G => ∃ a n c n1, v = .tuple ⟨[.slice a n c,
 .int .i64 n1]⟩ ∧ ∀ (b : Nat) (G1 : Heap), New G b (.cells ⟨[.slice none 0 0]⟩ 52) G1 → ∃ G, sT 52 G1 ⟨b, 0, none⟩ (.slice a n c) G ∧ ∃ a n c, lD 52 G ⟨b, 0, none⟩ (.slice a n c) ∧ R
 (.tuple ⟨[.int .i64 (↑n : Int), .func (Fn.func 52) ⟨[]⟩ ⟨[.pointer (some ⟨b, 0, none⟩)]⟩, .int .i64 n1]⟩) G) (brB (layout == 1) (cH 32 ⟨[.string data]⟩ H fun v G => ∃ a n c n1, v = .tuple
 ⟨[.slice a n c, .int .i64 n1]⟩ ∧ ∀ (b : Nat) (G1 : Heap), New G b (.cells ⟨[.slice none 0 0]⟩ 22) G1 → ∃ G, sT 22 G1 ⟨b, 0, none⟩ (.slice a n c) G ∧ ∃ a n c, lD 22 G ⟨b, 0, none⟩ (.slice
 a n c) ∧ ∀ (b_1 : Nat) (G2 : Heap), New G b_1 (.cells ⟨[.int .i64 0]⟩ 3) G2 → ∃ G, sT 3 G2 ⟨b_1, 0, none⟩ (.int .i64 (wrap .i64 (Int.tdiv (wrap .i64 ((↑n : Int) + 15)) 16)))
 G ∧ ∃ n, lD 3 G ⟨b_1, 0, none⟩ (.int .i64 n) ∧ R (.tuple ⟨[.int .i64 n, .func (Fn.func 53) ⟨[]⟩ ⟨[.pointer (some ⟨b_1, 0, none⟩), .pointer (some ⟨b, 0, none⟩)]⟩, .int .i64 n1]⟩) G) (R (.tuple
 ⟨[.int .i64 0, .nilFunc, .int .i64 1]⟩) H))) : cH 29 ⟨[.int .i64 layout, .string data]⟩ H R := vc_call (annOf []) followsAll Tryz.func29 rfl Tryz.ntmps29 rfl rfl (Eq.mpr
 (by kernel_rfl) h)
abbrev fn_major_Decode : Nat := 30
theorem vc_major_Decode (s : ByteArray) (h : ∀ (b : Nat) (G : Heap), New H b (.cells ⟨[.slice none 0 0]⟩ 52) G → ∀ (b_1 : Nat) (G1 : Heap), New G b_1
 (.cells ⟨[.int .i64 0]⟩ 27) G1 → cH 54 ⟨[.string s]⟩ G1 fun v G => ∃ a n c b_2, v = .tuple ⟨[.slice a n c, .bool b_2]⟩ ∧ brB (!b_2) (∃ G2, sT 52 G ⟨b, 0, none⟩ (.slice none 0 0) G2 ∧ ∃ G,
 sT 27 G2 ⟨b_1, 0, none⟩ (.int .i64 11) G ∧ ∃ a n c, lD 52 G ⟨b, 0, none⟩ (.slice a n c) ∧ ∃ n1, lD 27 G ⟨b_1, 0, none⟩ (.int .i64 n1) ∧ R (.tuple ⟨[.slice a n c, .int .i64 n1]⟩) G) (∀ (b_3
 : Nat) (G2 : Heap), New G b_3 (.cells ⟨[.slice none 0 0]⟩ 52) G2 → cV 55 [.string s, .slice a n c] G2 fun v_1 G => ∀ (D l : Nat) (R0 : Loop) (H1 : Heap), NewL G D l R0 H1 → (∀ (n : Int) (s
 : ByteArray) (H2 : Heap) (K2 : Value → Heap → Prop), Lp H2 l R0 LoopState.ready none → (Lp H2 l R0 LoopState.ready none ∧ CallH Tryz.prog 56 ⟨[.string s]⟩ (setLp H2 l R0 LoopState.busy none) fun v
 G => ∃ a n1 c n2, v = .tuple ⟨[.slice a n1 c, .int .i64 n2]⟩ ∧ brB (n2 != 0) (∃ G3, sT 52 G ⟨b, 0, none⟩ (.slice none 0 0) G3 ∧ ∃ G, sT 27 G3 ⟨b_1, 0, none⟩ (.int .i64 n2) G ∧ Lp G
 l R0 LoopState.busy none ∧ K2 (.bool false) (setLp G l R0 LoopState.done (some Code.ret))) (∃ a_2 n3 c_1, lD 52 G ⟨b_3, 0, none⟩ (.slice a_2 n3 c_1) ∧ ∀ (b : Nat) (G3 : Heap), New G b (.cells
 ⟨[.int .i64 n, .slice a n1 c]⟩ 92) G3 → SemWp Tryz.prog (Builtin.append_ ⟨[52, 52]⟩ 52 ⟨[.slice a_2 n3 c_1, .slice (some ⟨b, 0, none⟩) 1 1]⟩) G3 fun v G => ∃ a n c, v = .slice a n c ∧ ∃ G4,
 sT 52 G ⟨b_3, 0, none⟩ (.slice a n c) G4 ∧ Lp G4 l R0 LoopState.busy none ∧ K2 (.bool true) (setLp G4 l R0 LoopState.ready none))) → YieldH Tryz.prog l [.int .i64 n, .string s] H2 fun a a_2
 => K2 a a_2) → CallV Tryz.prog v_1 [.func (Fn.yield l) ⟨[]⟩ ⟨[]⟩] H1 fun x H4 => (Lp H4 l R0 LoopState.ready none ∧ ∃ a n c, lD 52 (setLp H4 l R0 LoopState.exhausted none) ⟨b_3, 0, none⟩ (.slice a n
 c) ∧ ∃ G, sT 52 (setLp H4 l R0 LoopState.exhausted none) ⟨b, 0, none⟩ (.slice a n c) G ∧ ∃ G3, sT 27 G ⟨b_1, 0, none⟩ (.int .i64 0) G3 ∧ Dq G3 D ∧ ∃ a n c, lD 52 (shutD G3 D) ⟨b, 0, none⟩
 (.slice a n c) ∧ ∃ n1, lD 27 (shutD G3 D) ⟨b_1, 0, none⟩ (.int .i64 n1) ∧ R (.tuple ⟨[.slice a n c, .int .i64 n1]⟩) (shutD G3 D)) ∨ Lp H4 l R0 LoopState.done (some Code.ret) ∧ Dq (setLp H4 l
 R0 LoopState.exhausted (some Code.ret)) D ∧ ∃ a n c, lD 52 (shutD (setLp H4 l R0 LoopState.exhausted (some Code.ret)) D) ⟨b, 0, none⟩ (.slice a n c) ∧ ∃ n1, lD 27 (shutD (setLp H4 l R0
 LoopState.exhausted (some Code.ret)) D) ⟨b_1, 0, none⟩ (.int .i64 n1) ∧ R (.tuple ⟨[.slice a n c, .int .i64 n1]⟩) (shutD (setLp H4 l R0 LoopState.exhausted (some Code.ret)) D))) : cH 30 ⟨[.string s]⟩ H R := vcS_call (annOf [([0, 1, 0, 1, 1, 1, 1], .cut [(21, .one (.int .i64)), (22, .one .str)])]) followsAll Tryz.func30 rfl Tryz.ntmps30 rfl rfl (Eq.mpr (by
 kernel_rfl) h)
abbrev fn_series_Rows : Nat := 31
theorem vc_series_Rows (l_a : Option Addr) (l_n : Nat) (l_c : Nat) (h : ∃ (I : IV) (μ : MU), I [.slice none 0 0, .int .i64 0] H ∧ ∀ (J : F) (a : Option Addr) (n
 c : Nat) (n1 : Int) (G : Heap), I [.slice a n c, .int .i64 n1] G → brB (decide (n1 < (↑l_n : Int))) (ix l_a n1 l_n fun ad => (∃ n2 a_2 n3 c_1, lD 92 G (Addr.add ad (Int.toNat n1 * 2))
 (.agg ⟨[.int .i64 n2, .slice a_2 n3 c_1]⟩) ∧ ∀ (b : Nat) (G1 : Heap), New G b (.cells ⟨[.int .i64 0, .slice none 0 0]⟩ 92) G1 → ∃ G2, sT 92 G1 ⟨b, 0, none⟩ (.agg ⟨[.int .i64 n2, .slice
 a_2 n3 c_1]⟩) G2 ∧ ∃ a_4 n4 c_2, lD 90 G2 ⟨b, 1, none⟩ (.slice a_4 n4 c_2) ∧ ∃ (I_1 : IV) (μ_1 : MU), I_1 [.slice none 0 0, .int .i64 0] G2 ∧ ∀ (J : F) (a_5 : Option Addr) (n5 c_3 : Nat)
 (n6 : Int) (G3 : Heap), I_1 [.slice a_5 n5 c_3, .int .i64 n6] G3 → brB (decide (n6 < (↑n4 : Int))) (ix a_4 n6 n4 fun ad => (∃ n n7, lD 107 G3 (Addr.add ad (Int.toNat n6 * 2)) (.agg
 ⟨[.int .i64 n, .int .i64 n7]⟩) ∧ ∀ (b_1 : Nat) (G : Heap), New G3 b_1 (.cells ⟨[.int .i64 0, .int .i64 0]⟩ 107) G → ∃ G4, sT 107 G ⟨b_1, 0, none⟩ (.agg ⟨[.int .i64 n, .int .i64 n7]⟩) G4 ∧
 ∃ n, lD 3 G4 ⟨b_1, 0, none⟩ (.int .i64 n) ∧ ∃ n8, lD 3 G4 ⟨b, 0, none⟩ (.int .i64 n8) ∧ ∃ n9, lD 3 G4 ⟨b_1, 1, none⟩ (.int .i64 n9) ∧ ∀ (b : Nat) (G : Heap), New G4 b (.cells ⟨[.int
 .i64 n, .int .i64 n8, .int .i64 n9]⟩ 26) G → SemWp Tryz.prog (Builtin.append_ ⟨[22, 22]⟩ 22 ⟨[.slice a_5 n5 c_3, .slice (some ⟨b, 0, none⟩) 1 1]⟩) G fun v G => ∃ a n c, v = .slice a n c ∧ I_1
 [.slice a n c, .int .i64 (wrap .i64 (n6 + 1))] G ∧ μ_1 [.slice a n c, .int .i64 (wrap .i64 (n6 + 1))] G < μ_1 [.slice a_5 n5 c_3, .int .i64 n6] G3)) (cL 57 [.slice a n c,
 .slice a_5 n5 c_3, .func (Fn.func 58) ⟨[]⟩ ⟨[]⟩] G3 fun a_7 n7 c_4 G4 => I [.slice a_7 n7 c_4, .int .i64 (wrap .i64 (n1 + 1))] G4 ∧ μ [.slice a_7 n7 c_4, .int .i64 (wrap
 .i64 (n1 + 1))] G4 < μ [.slice a n c, .int .i64 n1] G))) (R (.slice a n c) G)) : cH 31 ⟨[.slice l_a l_n l_c]⟩ H R := vc_call (annOf [([0, 1, 0, 1, 1], .cut [(3, .one
 .slice), (11, .one (.int .i64))]), ([0, 1, 0, 1, 1, 0, 0, 1, 1, 0, 0, 1, 0, 1, 1], .cut [(6, .one .slice), (18, .one (.int .i64))])]) followsAll Tryz.func31 rfl Tryz.ntmps31 rfl rfl (Eq.mpr (by
 kernel_rfl) h)
abbrev fn_runs_Decode : Nat := 32
theorem vc_runs_Decode (s : ByteArray) (h : cH 59 ⟨[.string s, .agg ⟨[.int .i64 0, .int .i64 1099511627776]⟩]⟩ H fun v G => ∃ a n c n1, v = .tuple ⟨[.slice a n
 c, .int .i64 n1]⟩ ∧ brB (n1 != 0) (R (.tuple ⟨[.slice none 0 0, .int .i64 n1]⟩) G) (cH 28 ⟨[.slice a n c]⟩ G fun v G => ∃ s_1 n2, v = .tuple ⟨[.string s_1, .int .i64 n2]⟩ ∧ brB (n2 != 0) (R
 (.tuple ⟨[.slice none 0 0, .int .i64 11]⟩) G) (brB (!ByteArray.toList s_1 == ByteArray.toList s) (R (.tuple ⟨[.slice none 0 0, .int .i64 11]⟩) G) (R (.tuple ⟨[.slice a n c, .int .i64 0]⟩) G)))) :
 cH 32 ⟨[.string s]⟩ H R := vc_call (annOf []) followsAll Tryz.func32 rfl Tryz.ntmps32 rfl rfl (Eq.mpr (by kernel_rfl) h)
abbrev fn_ref15_Decode : Nat := 33
theorem vc_ref15_Decode (s : ByteArray) (h : cH 60 ⟨[.string s]⟩ H fun v G => ∃ a n c a_1 n1 c_1 b, v = .tuple ⟨[.slice a n c, .slice a_1 n1 c_1, .bool b]⟩ ∧
 brB (!b) (R (.tuple ⟨[.slice none 0 0, .int .i64 11]⟩) G) (∀ (b : Nat) (G1 : Heap), New G b (.cells ⟨[]⟩ 117) G1 → ∃ (I : IV) (μ : MU), I [.slice (some ⟨b, 0, none⟩) 0 0, .int .i64 0] G1 ∧ ∀
 (J : F) (a_3 : Option Addr) (n2 c : Nat) (n3 : Int) (G : Heap), I [.slice a_3 n2 c, .int .i64 n3] G → brB (decide (n3 < (↑n : Int))) (ix a n3 n fun ad => (∃ n4, lD 3 G (Addr.add ad
 (Int.toNat n3 * 1)) (.int .i64 n4) ∧ cH 61 ⟨[.string s, .int .i64 n4]⟩ G fun v G2 => ∃ a_5 n5 c_2 n6, v = .tuple ⟨[.slice a_5 n5 c_2, .int .i64 n6]⟩ ∧ brB (n6 != 0) (R (.tuple ⟨[.slice
 none 0 0, .int .i64 11]⟩) G2) (ix a n3 n fun ad => (∃ n, lD 3 G2 (Addr.add ad (Int.toNat n3 * 1)) (.int .i64 n) ∧ ∀ (b : Nat) (G3 : Heap), New G2 b (.cells ⟨[.int .i64 n, .slice a_5 n5
 c_2]⟩ 117) G3 → SemWp Tryz.prog (Builtin.append_ ⟨[62, 62]⟩ 62 ⟨[.slice a_3 n2 c, .slice (some ⟨b, 0, none⟩) 1 1]⟩) G3 fun v G4 => ∃ a n c_3, v = .slice a n c_3 ∧ I [.slice a n c_3, .int .i64
 (wrap .i64 (n3 + 1))] G4 ∧ μ [.slice a n c_3, .int .i64 (wrap .i64 (n3 + 1))] G4 < μ [.slice a_3 n2 c, .int .i64 n3] G)))) (cH 39 ⟨[.slice a_3 n2 c]⟩ G fun v G => ∃ s_1
 n, v = .tuple ⟨[.string s_1, .int .i64 n]⟩ ∧ brB (n != 0) (R (.tuple ⟨[.slice none 0 0, .int .i64 11]⟩) G) (brB (!ByteArray.toList s_1 == ByteArray.toList s) (R (.tuple ⟨[.slice none 0 0, .int .i64
 11]⟩) G) (R (.tuple ⟨[.slice a_3 n2 c, .int .i64 0]⟩) G))))) : cH 33 ⟨[.string s]⟩ H R := vc_call (annOf [([0, 1, 0, 1, 1, 1, 1], .cut [(7, .one .slice), (8, .one (.int
 .i64))])]) followsAll Tryz.func33 rfl Tryz.ntmps33 rfl rfl (Eq.mpr (by kernel_rfl) h)
abbrev fn_ref13_Rows : Nat := 34
theorem vc_ref13_Rows (l_a : Option Addr) (l_n : Nat) (l_c : Nat) (h : ∀ (b : Nat) (G : Heap), New H b (.cells ⟨[]⟩ 26) G → ∃ (I : IV) (μ : MU), I [.slice
 (some ⟨b, 0, none⟩) 0 0, .int .i64 0] G ∧ ∀ (J : F) (a : Option Addr) (n c : Nat) (n1 : Int) (G : Heap), I [.slice a n c, .int .i64 n1] G → brB (decide (n1 < (↑l_n : Int))) (∃ (I_1 : IV) (μ_1
 : MU), I_1 [.slice a n c, .int .i64 0] G ∧ ∀ (J : F) (a_2 : Option Addr) (n2 c_1 : Nat) (n3 : Int) (G1 : Heap), I_1 [.slice a_2 n2 c_1, .int .i64 n3] G1 → ix l_a n1 l_n fun ad => (∃ a_4
 n4 c_2, lD 90 G1 (Addr.add (Addr.add ad (Int.toNat n1 * 2)) 1) (.slice a_4 n4 c_2) ∧ brB (decide (n3 < (↑n4 : Int))) (ix l_a n1 l_n fun ad => (∃ a n c, lD 90 G1 (Addr.add (Addr.add ad
 (Int.toNat n1 * 2)) 1) (.slice a n c) ∧ exSome a fun ad_1 => chk (decide (0 ≤ n3 ∧ n3 < (↑n : Int))) (∃ n5, lD 3 G1 (Addr.add ad_1 (Int.toNat n3 * 2)) (.int .i64 n5) ∧ exSome l_a fun ad_2 =>
 chk (decide (0 ≤ n1 ∧ n1 < (↑l_n : Int))) (∃ n6, lD 3 G1 (Addr.add ad_2 (Int.toNat n1 * 2)) (.int .i64 n6) ∧ exSome l_a fun ad_3 => chk (decide (0 ≤ n1 ∧ n1 < (↑l_n : Int))) (∃ a_5 n7 c_3,
 lD 90 G1 (Addr.add (Addr.add ad_3 (Int.toNat n1 * 2)) 1) (.slice a_5 n7 c_3) ∧ exSome a_5 fun ad_4 => chk (decide (0 ≤ n3 ∧ n3 < (↑n7 : Int))) (∃ n8, lD 3 G1 (Addr.add (Addr.add ad_4
 (Int.toNat n3 * 2)) 1) (.int .i64 n8) ∧ ∀ (b : Nat) (G : Heap), New G1 b (.cells ⟨[.int .i64 0, .int .i64 0, .int .i64 0]⟩ 26) G → lD 3 G (Addr.add (Addr.add ad_4 (Int.toNat n3 * 2)) 1)
 (.int .i64 n8) ∧ lD 90 G (Addr.add (Addr.add ad_3 (Int.toNat n1 * 2)) 1) (.slice a_5 n7 c_3) ∧ lD 3 G (Addr.add ad_2 (Int.toNat n1 * 2)) (.int .i64 n6) ∧ lD 3 G (Addr.add ad_1 (Int.toNat n3
 * 2)) (.int .i64 n5) ∧ lD 90 G (Addr.add (Addr.add ad (Int.toNat n1 * 2)) 1) (.slice a n c) ∧ ∃ G2, sT 26 G ⟨b, 0, none⟩ (.agg ⟨[.int .i64 n5, .int .i64 n6, .int .i64 n8]⟩) G2 ∧ ∀ (b_1 :
 Nat) (G : Heap), New G2 b_1 (.cells ⟨[]⟩ 26) G → ∃ (I : IV) (μ : MU), I [.slice (some ⟨b_1, 0, none⟩) 0 0, .bool false, .int .i64 0] G ∧ ∀ (J : F) (a : Option Addr) (n c : Nat) (b_2 : Bool)
 (n9 : Int) (G : Heap), I [.slice a n c, .bool b_2, .int .i64 n9] G → brB (decide (n9 < (↑n2 : Int))) (∃ (M : IV), (∃ (M_1 : IV), (∃ (M : IV), brB (!b_2) (ix a_2 n9 n2 fun ad => (∃ n n10
 n11, lD 26 G (Addr.add ad (Int.toNat n9 * 3)) (.agg ⟨[.int .i64 n, .int .i64 n10, .int .i64 n11]⟩) ∧ ∃ n12 n13 n14, lD 26 G ⟨b, 0, none⟩ (.agg ⟨[.int .i64 n12, .int .i64 n13, .int .i64
 n14]⟩) ∧ cB 24 [.agg ⟨[.int .i64 n, .int .i64 n10, .int .i64 n11]⟩, .agg ⟨[.int .i64 n12, .int .i64 n13, .int .i64 n14]⟩] G fun b G => M [.bool b] G)) (M [.bool false] G) ∧ ∀ (J : F) (b_3
 : Bool) (G : Heap), M [.bool b_3] G → brB b_3 (∃ n10 n11 n12, lD 26 G ⟨b, 0, none⟩ (.agg ⟨[.int .i64 n10, .int .i64 n11, .int .i64 n12]⟩) ∧ ∀ (b : Nat) (G3 : Heap), New G b (.cells
 ⟨[.int .i64 n10, .int .i64 n11, .int .i64 n12]⟩ 26) G3 → SemWp Tryz.prog (Builtin.append_ ⟨[22, 22]⟩ 22 ⟨[.slice a n c, .slice (some ⟨b, 0, none⟩) 1 1]⟩) G3 fun v G => ∃ a n c, v = .slice a
 n c ∧ M_1 [.slice a n c, .bool true] G) (M_1 [.slice a n c, .bool b_2] G)) ∧ ∀ (J : F) (a : Option Addr) (n c : Nat) (b : Bool) (G : Heap), M_1 [.slice a n c, .bool b] G → ix a_2 n9 n2 fun ad
 => (∃ n10 n11 n12, lD 26 G (Addr.add ad (Int.toNat n9 * 3)) (.agg ⟨[.int .i64 n10, .int .i64 n11, .int .i64 n12]⟩) ∧ ∀ (b_3 : Nat) (G3 : Heap), New G b_3 (.cells ⟨[.int .i64 n10, .int
 .i64 n11, .int .i64 n12]⟩ 26) G3 → SemWp Tryz.prog (Builtin.append_ ⟨[22, 22]⟩ 22 ⟨[.slice a n c, .slice (some ⟨b_3, 0, none⟩) 1 1]⟩) G3 fun v G => ∃ a n c, v = .slice a n c ∧ M [.slice a n
 c, .bool b] G)) ∧ ∀ (J : F) (a_8 : Option Addr) (n10 c_4 : Nat) (b : Bool) (G3 : Heap), M [.slice a_8 n10 c_4, .bool b] G3 → I [.slice a_8 n10 c_4, .bool b, .int .i64 (wrap .i64 (n9
 + 1))] G3 ∧ μ [.slice a_8 n10 c_4, .bool b, .int .i64 (wrap .i64 (n9 + 1))] G3 < μ [.slice a n c, .bool b_2, .int .i64 n9] G) (brB (!b_2) (∃ n10 n11 n12, lD 26 G ⟨b, 0, none⟩
 (.agg ⟨[.int .i64 n10, .int .i64 n11, .int .i64 n12]⟩) ∧ ∀ (b : Nat) (G3 : Heap), New G b (.cells ⟨[.int .i64 n10, .int .i64 n11, .int .i64 n12]⟩ 26) G3 → SemWp Tryz.prog (Builtin.append_
 ⟨[22, 22]⟩ 22 ⟨[.slice a n c, .slice (some ⟨b, 0, none⟩) 1 1]⟩) G3 fun v G => ∃ a n c, v = .slice a n c ∧ I_1 [.slice a n c, .int .i64 (wrap .i64 (n3 + 1))] G ∧ μ_1 [.slice a n c, .int
 .i64 (wrap .i64 (n3 + 1))] G < μ_1 [.slice a_2 n2 c_1, .int .i64 n3] G1) (I_1 [.slice a n c, .int .i64 (wrap .i64 (n3 + 1))] G ∧ μ_1 [.slice a n c, .int .i64 (wrap
 .i64 (n3 + 1))] G < μ_1 [.slice a_2 n2 c_1, .int .i64 n3] G1)))))))) (I [.slice a_2 n2 c_1, .int .i64 (wrap .i64 (n1 + 1))] G1 ∧ μ [.slice a_2 n2 c_1, .int .i64 (wrap .i64
 (n1 + 1))] G1 < μ [.slice a n c, .int .i64 n1] G))) (R (.slice a n c) G)) : cH 34 ⟨[.slice l_a l_n l_c]⟩ H R := vc_call (annOf [([0, 1, 0, 1, 1], .cut [(3, .one
 .slice), (4, .one (.int .i64))]), ([0, 1, 0, 0, 1, 0, 0, 1, 0, 1, 1], .cut [(3, .one .slice), (5, .one (.int .i64))]), ([0, 0, 0, 1, 0, 0, 1, 0, 0, 1, 0, 0, 1, 0, 1, 1], .reg [0, 0, 3, 7, 15, 0, 63,
 127, 255, 0, 0, 1536, 3584, 7680, 0, 0, 49152, 114688, 245760, 0, 1032192, 2080768, 4177920, 8388607, 0, 33554431] (.quiet 0 (.quiet 1 (.quiet 2 (.quiet 3 (.quiet 4 (.quiet 5 (.quiet 6 (.quiet 7
 (.quiet 8 (.quiet 9 (.quiet 10 (.quiet 11 (.quiet 12 (.quiet 13 (.quiet 14 (.quiet 15 (.quiet 16 (.quiet 17 (.quiet 18 (.quiet 19 (.quiet 20 (.quiet 21 (.quiet 22 (.quiet 23 (.pick (.alt 24 (.pick
 (.alt 25 (.done) .stop)) .stop))))))))))))))))))))))))))), ([0, 1, 0, 1, 1, 1, 0, 0, 1, 0, 0, 1, 0, 0, 1, 0, 0, 1, 0, 1, 1], .cut [(7, .one .slice), (8, .one .bool), (9, .one (.int .i64))]), ([1, 0,
 0, 1, 0, 1, 1, 1, 0, 0, 1, 0, 0, 1, 0, 0, 1, 0, 0, 1, 0, 1, 1], .cut [(7, .one .slice), (8, .one .bool)]), ([0, 0, 1, 0, 0, 1, 0, 1, 1, 1, 0, 0, 1, 0, 0, 1, 0, 0, 1, 0, 0, 1, 0, 1, 1], .cut [(7,
 .one .slice), (8, .one .bool)]), ([0, 0, 0, 1, 0, 0, 1, 0, 1, 1, 1, 0, 0, 1, 0, 0, 1, 0, 0, 1, 0, 0, 1, 0, 1, 1], .cut [(67, .one .bool)]), ([0, 0, 0, 0, 1, 0, 0, 1, 0, 1, 1, 1, 0, 0, 1, 0, 0, 1, 0,
 0, 1, 0, 0, 1, 0, 1, 1], .tail 8)]) followsAll Tryz.func34 rfl Tryz.ntmps34 rfl rfl (Eq.mpr (by kernel_rfl) h)
abbrev fn_ref16_Decode : Nat := 35
theorem vc_ref16_Decode (s : ByteArray) (h : cH 62 ⟨[.string s, .agg ⟨[.int .i64 0, .int .i64 1099511627776]⟩]⟩ H fun v G => ∃ a n c n1, v = .tuple ⟨[.slice a
 n c, .int .i64 n1]⟩ ∧ brB (n1 != 0) (R (.tuple ⟨[.slice none 0 0, .int .i64 n1]⟩) G) (cH 41 ⟨[.slice a n c]⟩ G fun v G => ∃ s_1 n2, v = .tuple ⟨[.string s_1, .int .i64 n2]⟩ ∧ brB (n2 != 0)
 (R (.tuple ⟨[.slice none 0 0, .int .i64 11]⟩) G) (brB (!ByteArray.toList s_1 == ByteArray.toList s) (R (.tuple ⟨[.slice none 0 0, .int .i64 11]⟩) G) (R (.tuple ⟨[.slice a n c, .int .i64 0]⟩)
 G)))) : cH 35 ⟨[.string s]⟩ H R := vc_call (annOf []) followsAll Tryz.func35 rfl Tryz.ntmps35 rfl rfl (Eq.mpr (by kernel_rfl) h)
abbrev fn_ref15_IDs : Nat := 36
theorem vc_ref15_IDs (s : ByteArray) (h : cH 60 ⟨[.string s]⟩ H fun v G => ∃ a n c a_1 n1 c_1 b, v = .tuple ⟨[.slice a n c, .slice a_1 n1 c_1, .bool b]⟩ ∧ brB
 (!b) (R (.tuple ⟨[.slice none 0 0, .int .i64 11]⟩) G) (R (.tuple ⟨[.slice a n c, .int .i64 0]⟩) G)) : cH 36 ⟨[.string s]⟩ H R := vc_call (annOf []) followsAll Tryz.func36
 rfl Tryz.ntmps36 rfl rfl (Eq.mpr (by kernel_rfl) h)
abbrev fn_ref16_Blocks : Nat := 37
theorem vc_ref16_Blocks (s : ByteArray) (h : cH 63 ⟨[.string s]⟩ H fun v G => ∃ a n c a_1 n1 c_1 a_2 n2 c_2 b, v = .tuple ⟨[.slice a n c, .slice a_1 n1 c_1,
 .slice a_2 n2 c_2, .bool b]⟩ ∧ brB (!b) (R (.tuple ⟨[.slice none 0 0, .int .i64 11]⟩) G) (R (.tuple ⟨[.slice a n c, .int .i64 0]⟩) G)) : cH 37 ⟨[.string s]⟩ H R :=
 vc_call (annOf []) followsAll Tryz.func37 rfl Tryz.ntmps37 rfl rfl (Eq.mpr (by kernel_rfl) h)
abbrev fn_ref13_Fine : Nat := 38
theorem vc_ref13_Fine (rows_a : Option Addr) (rows_n : Nat) (rows_c : Nat) (h : ∃ (I : IV) (μ : MU), I [.int .i64 1] H ∧ ∀ (J : F) (n : Int) (G : Heap), I [.int
 .i64 n] G → brB (decide (n < (↑rows_n : Int))) (ix rows_a n rows_n fun ad => (∃ n1 n2 n3, lD 26 G (Addr.add ad (Int.toNat n * 3)) (.agg ⟨[.int .i64 n1, .int .i64 n2, .int .i64 n3]⟩) ∧ ix
 rows_a (wrap .i64 (n - 1)) rows_n fun ad => (∃ n4 n5 n6, lD 26 G (Addr.add ad (Int.toNat (wrap .i64 (n - 1)) * 3)) (.agg ⟨[.int .i64 n4, .int .i64 n5, .int .i64 n6]⟩) ∧ cB 24
 [.agg ⟨[.int .i64 n1, .int .i64 n2, .int .i64 n3]⟩, .agg ⟨[.int .i64 n4, .int .i64 n5, .int .i64 n6]⟩] G fun b G1 => brB (!b) (R (.bool false) G1) (I [.int .i64 (wrap .i64 (n +
 1))] G1 ∧ μ [.int .i64 (wrap .i64 (n + 1))] G1 < μ [.int .i64 n] G)))) (R (.bool true) G)) : cH 38 ⟨[.slice rows_a rows_n rows_c]⟩ H R := vc_call (annOf [([0,
 1, 0, 1], .cut [(3, .one (.int .i64))]), ([0, 0, 0, 1, 0, 0, 1, 0, 1], .tail 9)]) followsAll Tryz.func38 rfl Tryz.ntmps38 rfl rfl (Eq.mpr (by kernel_rfl) h)
abbrev fn_ref15_Encode : Nat := 39
theorem vc_ref15_Encode (l_a : Option Addr) (l_n : Nat) (l_c : Nat) (h : cB 64 [.slice l_a l_n l_c] H fun b G => brB (!b) (R (.tuple ⟨[.string { data := #[] },
 .int .i64 30]⟩) G) (cS 65 [.int .u64 (wrap .u64 (↑l_n : Int))] G fun s G => ∃ (I : IV) (μ : MU), I [.string s, .string { data := #[] }, .int .i64 0] G ∧ ∀ (J : F) (s s_1 : ByteArray) (n
 : Int) (G : Heap), I [.string s, .string s_1, .int .i64 n] G → brB (decide (n < (↑l_n : Int))) (∃ (M : IV), (ix l_a n l_n fun ad => (∃ a n1 c, lD 90 G (Addr.add (Addr.add ad (Int.toNat n * 2))
 1) (.slice a n1 c) ∧ cH 66 ⟨[.slice a n1 c]⟩ G fun v G => ∃ s_2 n2, v = .tuple ⟨[.string s_2, .int .i64 n2]⟩ ∧ ∃ (M_1 : IV), brB (n2 != 0) (R (.tuple ⟨[.string { data := #[] }, .int .i64
 30]⟩) G) (ix l_a n l_n fun ad => (∃ n3, lD 3 G (Addr.add ad (Int.toNat n * 2)) (.int .i64 n3) ∧ brB (decide (n3 < 0)) (R (.tuple ⟨[.string { data := #[] }, .int .i64 30]⟩) G) (ix l_a n l_n fun
 ad => (∃ n4, lD 3 G (Addr.add ad (Int.toNat n * 2)) (.int .i64 n4) ∧ brB (decide (n4 ≥ 200)) (R (.tuple ⟨[.string { data := #[] }, .int .i64 30]⟩) G) (M_1 [] G))))) ∧ ∀ (J : F) (G : Heap),
 M_1 [] G → ix l_a n l_n fun ad => (∃ n3, lD 3 G (Addr.add ad (Int.toNat n * 2)) (.int .i64 n3) ∧ cS 65 [.int .u64 (wrap .u64 n3)] G fun s_3 G => chk (decide (s.size +
 s_3.size ≤ 9223372036854775807)) (cS 65 [.int .u64 (wrap .u64 (↑(s_2.size) : Int))] G fun s_4 G => chk (decide (ByteArray.size (s ++ s_3) + s_4.size ≤
 9223372036854775807)) (chk (decide (s_1.size + s_2.size ≤ 9223372036854775807)) (M [.string (s ++ s_3 ++ s_4), .string (s_1 ++ s_2)] G)))))) ∧ ∀ (J : F) (s_2 s_3 : ByteArray)
 (G1 : Heap), M [.string s_2, .string s_3] G1 → I [.string s_2, .string s_3, .int .i64 (wrap .i64 (n + 1))] G1 ∧ μ [.string s_2, .string s_3, .int .i64 (wrap .i64 (n + 1))] G1
 < μ [.string s, .string s_1, .int .i64 n] G) (chk (decide (s.size + s_1.size ≤ 9223372036854775807)) (R (.tuple ⟨[.string (s ++ s_1), .int .i64 0]⟩) G)))) : cH 39 ⟨[.slice l_a l_n l_c]⟩ H R := vc_call (annOf [([0, 1, 0, 1, 1, 1, 1], .cut [(4, .one .str), (5, .one .str), (6, .one (.int .i64))]), ([1, 0, 0, 1, 0, 1, 1, 1, 1], .cut [(4, .one .str),
 (5, .one .str)]), ([1, 0, 0, 1, 0, 0, 1, 0, 1, 1, 1, 1], .cut [])]) followsAll Tryz.func39 rfl Tryz.ntmps39 rfl rfl (Eq.mpr (by kernel_rfl) h)
abbrev fn_ref13_Split : Nat := 40
theorem vc_ref13_Split (rows_a : Option Addr) (rows_n : Nat) (rows_c : Nat) (h : cL 67 [.slice none 0 0, .slice rows_a rows_n rows_c] H fun a n c G => R (.slice
 a n c) G) : cH 40 ⟨[.slice rows_a rows_n rows_c]⟩ H R := vc_call (annOf []) followsAll Tryz.func40 rfl Tryz.ntmps40 rfl rfl (Eq.mpr (by kernel_rfl) h)
abbrev fn_ref16_Encode : Nat := 41
theorem vc_ref16_Encode (rows_a : Option Addr) (rows_n : Nat) (rows_c : Nat) (h : ∃ (M : IV), (cB 38 [.slice rows_a rows_n rows_c] H fun b G => brB (!b) (R
 (.tuple ⟨[.string { data := #[] }, .int .i64 30]⟩) G) (brB (decide ((↑rows_n : Int) > 5000)) (R (.tuple ⟨[.string { data := #[] }, .int .i64 30]⟩) G) (M [] G))) ∧ ∀ (J : F) (G : Heap), M [] G →
 ∃ (I : IV) (μ : MU), I [.int .i64 0] G ∧ ∀ (J : F) (n : Int) (G : Heap), I [.int .i64 n] G → brB (decide (n < (↑rows_n : Int))) (∃ (M : IV), (∃ (M_1 : IV), (ix rows_a n rows_n fun ad => (∃ n1,
 lD 3 G (Addr.add ad (Int.toNat n * 3)) (.int .i64 n1) ∧ brB (decide (n1 < 0)) (M_1 [.bool true] G) (ix rows_a n rows_n fun ad => (∃ n2, lD 3 G (Addr.add ad (Int.toNat n * 3)) (.int .i64 n2) ∧
 brB (decide (n2 ≥ 1099511627776)) (M_1 [.bool true] G) (ix rows_a n rows_n fun ad => (∃ n3, lD 3 G (Addr.add (Addr.add ad (Int.toNat n * 3)) 1) (.int .i64 n3) ∧ brB (decide (n3 < 0)) (M_1
 [.bool true] G) (ix rows_a n rows_n fun ad => (∃ n4, lD 3 G (Addr.add (Addr.add ad (Int.toNat n * 3)) 1) (.int .i64 n4) ∧ M_1 [.bool (decide (n4 ≥ 200))] G)))))))) ∧ ∀ (J : F) (b : Bool) (G :
 Heap), M_1 [.bool b] G → brB b (R (.tuple ⟨[.string { data := #[] }, .int .i64 30]⟩) G) (M [] G)) ∧ ∀ (J : F) (G1 : Heap), M [] G1 → I [.int .i64 (wrap .i64 (n + 1))] G1 ∧ μ [.int
 .i64 (wrap .i64 (n + 1))] G1 < μ [.int .i64 n] G) (cS 68 [.int .i64 (↑rows_n : Int)] G fun s G => ∃ (I : IV) (μ : MU), I [.string s, .string { data := #[] }, .int .i64 0] G ∧ ∀ (J : F)
 (s s_1 : ByteArray) (n : Int) (G : Heap), I [.string s, .string s_1, .int .i64 n] G → brB (decide (n < (↑rows_n : Int))) (chk (decide (0 ≤ n ∧ (n ≤ if (↑rows_n : Int) < wrap .i64 (n + 16)
 then (↑rows_n : Int) else wrap .i64 (n + 16)) ∧ (if (↑rows_n : Int) < wrap .i64 (n + 16) then (↑rows_n : Int) else wrap .i64 (n + 16)) ≤ (↑rows_c : Int))) (cS 69 [.slice (slA
 rows_c (Int.toNat n) 3 rows_a) (Int.toNat (if (↑rows_n : Int) < wrap .i64 (n + 16) then (↑rows_n : Int) else wrap .i64 (n + 16)) - Int.toNat n) (rows_c - Int.toNat n)] G fun s_2
 G1 => exSome (slA rows_c (Int.toNat n) 3 rows_a) fun ad => chk (decide ((0 : Int) ≤ (0 : Int) ∧ 0 < (↑(Int.toNat (if (↑rows_n : Int) < wrap .i64 (n + 16) then (↑rows_n : Int) else
 wrap .i64 (n + 16)) - Int.toNat n) : Int))) (∃ n1, lD 3 G1 ad (.int .i64 n1) ∧ exSome (slA rows_c (Int.toNat n) 3 rows_a) fun ad => chk (decide (0 ≤ wrap .i64 ((↑(Int.toNat (if
 (↑rows_n : Int) < wrap .i64 (n + 16) then (↑rows_n : Int) else wrap .i64 (n + 16)) - Int.toNat n) : Int) - 1) ∧ wrap .i64 ((↑(Int.toNat (if (↑rows_n : Int) < wrap
 .i64 (n + 16) then (↑rows_n : Int) else wrap .i64 (n + 16)) - Int.toNat n) : Int) - 1) < (↑(Int.toNat (if (↑rows_n : Int) < wrap .i64 (n + 16) then (↑rows_n : Int) else wrap
 .i64 (n + 16)) - Int.toNat n) : Int))) (∃ n2, lD 3 G1 (Addr.add ad (Int.toNat (wrap .i64 ((↑(Int.toNat (if (↑rows_n : Int) < wrap .i64 (n + 16) then (↑rows_n : Int) else
 wrap .i64 (n + 16)) - Int.toNat n) : Int) - 1)) * 3)) (.int .i64 n2) ∧ exSome (slA rows_c (Int.toNat n) 3 rows_a) fun ad_1 => chk (decide ((0 : Int) ≤ (0 : Int) ∧ 0 < (↑(Int.toNat (if
 (↑rows_n : Int) < wrap .i64 (n + 16) then (↑rows_n : Int) else wrap .i64 (n + 16)) - Int.toNat n) : Int))) (∃ n3, lD 3 G1 ad_1 (.int .i64 n3) ∧ cS 68 [.int .i64 n1] G1 fun s_3
 G2 => lD 3 G2 ad_1 (.int .i64 n3) ∧ lD 3 G2 (Addr.add ad (Int.toNat (wrap .i64 ((↑(Int.toNat (if (↑rows_n : Int) < wrap .i64 (n + 16) then (↑rows_n : Int) else wrap
 .i64 (n + 16)) - Int.toNat n) : Int) - 1)) * 3)) (.int .i64 n2) ∧ chk (decide (s.size + s_3.size ≤ 9223372036854775807)) (cS 68 [.int .i64 (wrap .i64 (n2 - n3))] G2
 fun s_4 G3 => chk (decide (ByteArray.size (s ++ s_3) + s_4.size ≤ 9223372036854775807)) (cS 68 [.int .i64 (↑(s_2.size) : Int)] G3 fun s_5 G4 => chk (decide (ByteArray.size
 (s ++ s_3 ++ s_4) + s_5.size ≤ 9223372036854775807)) (chk (decide (s_1.size + s_2.size ≤ 9223372036854775807)) (I [.string (s ++ s_3 ++ s_4 ++ s_5), .string (s_1 ++
 s_2), .int .i64 (wrap .i64 (n + 16))] G4 ∧ μ [.string (s ++ s_3 ++ s_4 ++ s_5), .string (s_1 ++ s_2), .int .i64 (wrap .i64 (n + 16))] G4 < μ [.string s, .string s_1, .int .i64 n]
 G))))))))) (chk (decide (s.size + s_1.size ≤ 9223372036854775807)) (R (.tuple ⟨[.string (s ++ s_1), .int .i64 0]⟩) G)))) : cH 41 ⟨[.slice rows_a
 rows_n rows_c]⟩ H R := vc_call (annOf [([1], .cut []), ([0, 1, 0, 1, 1], .cut [(4, .one (.int .i64))]), ([1, 0, 0, 1, 0, 1, 1], .cut []), ([0, 0, 1, 0, 0, 1, 0, 1, 1], .cut [(53, .one .bool)]), ([0,
 1, 0, 1, 1, 1, 1, 1], .cut [(5, .one .str), (6, .one .str), (7, .one (.int .i64))]), ([0, 1, 1, 0, 0, 1, 0, 0, 1, 0, 1, 1, 1, 1, 1], .reg [0, 0, 2, 6, 14, 30, 63, 0, 0, 256, 768, 1920, 3968, 8064,
 0, 16384, 49152, 114688, 262016, 524222, 1048575, 0, 2097152, 7339966, 16777215, 33554431] (.quiet 0 (.quiet 1 (.quiet 2 (.quiet 3 (.quiet 4 (.quiet 7 (.quiet 8 (.quiet 9 (.quiet 10 (.quiet 11
 (.quiet 12 (.quiet 13 (.quiet 14 (.quiet 15 (.quiet 16 (.quiet 17 (.quiet 18 (.quiet 21 (.quiet 22 (.pick (.alt 5 (.quiet 6 (.pick (.alt 19 (.quiet 20 (.pick (.alt 23 (.quiet 24 (.quiet 25 .done))
 .stop))) .stop))) .stop))))))))))))))))))))))]) followsAll Tryz.func41 rfl Tryz.ntmps41 rfl rfl (Eq.mpr (by kernel_rfl) h)
theorem vc_convert_Begin_1 (a0 : Addr) (h : ∃ a n c, lD 73 H a0 (.slice a n c) ∧ ix a (0) n fun ad => (∃ a n c, lD 22 H ad (.slice a n c) ∧ ∃ a_1 n1 c_1, lD 73
 H a0 (.slice a_1 n1 c_1) ∧ chk (decide ((0 : Int) ≤ (1 : Int) ∧ 1 ≤ (↑n1 : Int) ∧ (↑n1 : Int) ≤ (↑c_1 : Int))) (∃ G, sT 73 H a0 (.slice (slA c_1 1 1 a_1) (Int.toNat (↑n1 : Int) - 1) (c_1 - 1))
 G ∧ R (.slice a n c) G))) : cH 42 ⟨[.pointer (some a0)]⟩ H R := vc_call (annOf []) followsAll Tryz.func42 rfl Tryz.ntmps42 rfl rfl (Eq.mpr (by kernel_rfl) h)
abbrev fn_series_Put : Nat := 43
theorem vc_series_Put (l_a : Option Addr) (l_n : Nat) (l_c : Nat) (rows_a : Option Addr) (rows_n : Nat) (rows_c : Nat) (h : ∀ (b : Nat) (G : Heap), New H b
 (.map ⟨[]⟩ 0) G → ∃ (I : IV) (μ : MU), I [.int .i64 0] G ∧ ∀ (J : F) (n : Int) (G : Heap), I [.int .i64 n] G → brB (decide (n < (↑rows_n : Int))) (ix rows_a n rows_n fun ad => (∃ n1 n2 n3, lD
 26 G (Addr.add ad (Int.toNat n * 3)) (.agg ⟨[.int .i64 n1, .int .i64 n2, .int .i64 n3]⟩) ∧ ∀ (b_1 : Nat) (G1 : Heap), New G b_1 (.cells ⟨[.int .i64 0, .int .i64 0, .int .i64 0]⟩ 26) G1 → ∃
 G2, sT 26 G1 ⟨b_1, 0, none⟩ (.agg ⟨[.int .i64 n1, .int .i64 n2, .int .i64 n3]⟩) G2 ∧ ∃ n4, lD 3 G2 ⟨b_1, 1, none⟩ (.int .i64 n4) ∧ ∃ n5, lD 3 G2 ⟨b_1, 1, none⟩ (.int .i64 n5) ∧ ∃ a
 n6 c, Rd Tryz.prog (Instr.lookup 123 (.map (some b)) (.int .i64 n5) false) G2 (.slice a n6 c) ∧ ∃ n7, lD 3 G2 ⟨b_1, 0, none⟩ (.int .i64 n7) ∧ ∃ n8, lD 3 G2 ⟨b_1, 2, none⟩ (.int .i64 n8)
 ∧ ∀ (b_2 : Nat) (G3 : Heap), New G2 b_2 (.cells ⟨[.int .i64 n7, .int .i64 n8]⟩ 107) G3 → Rd Tryz.prog (Instr.lookup 123 (.map (some b)) (.int .i64 n5) false) G3 (.slice a n6 c) ∧ lD 3
 G3 ⟨b_1, 1, none⟩ (.int .i64 n5) ∧ lD 3 G3 ⟨b_1, 1, none⟩ (.int .i64 n4) ∧ SemWp Tryz.prog (Builtin.append_ ⟨[90, 90]⟩ 90 ⟨[.slice a n6 c, .slice (some ⟨b_2, 0, none⟩) 1 1]⟩) G3 fun v G4
 => ∃ a n9 c, v = .slice a n9 c ∧ lD 3 G4 ⟨b_1, 1, none⟩ (.int .i64 n4) ∧ SemU Tryz.prog (Instr.mapUpdate 123 (.map (some b)) (.int .i64 n4) (.slice a n9 c)) G4 fun G5 => I [.int .i64
 (wrap .i64 (n + 1))] G5 ∧ μ [.int .i64 (wrap .i64 (n + 1))] G5 < μ [.int .i64 n] G)) (SemWp Tryz.prog (Instr.range 123 (.map (some b))) G fun v G => ∃ a, v = .pointer a ∧ ∃ (I
 : IV) (μ : MU), I [.slice none 0 0] G ∧ ∀ (J : F) (a_1 : Option Addr) (n c : Nat) (G : Heap), I [.slice a_1 n c] G → SemWp Tryz.prog (Instr.next (.pointer a) false 0) G fun v G1 => (v = .tuple
 ⟨[.bool false]⟩ ∧ cU 77 [.slice a_1 n c, .func (Fn.func 75) ⟨[]⟩ ⟨[]⟩] G1 fun G => ∃ (I : IV) (μ : MU), I [.int .i64 0] G ∧ ∀ (J : F) (n1 : Int) (G : Heap), I [.int .i64 n1] G → brB (decide
 (n1 < (↑n : Int))) (ix a_1 n1 n fun ad => (∃ n2 a n3 c, lD 92 G (Addr.add ad (Int.toNat n1 * 2)) (.agg ⟨[.int .i64 n2, .slice a n3 c]⟩) ∧ cH 78 ⟨[.slice l_a l_n l_c, .agg ⟨[.int .i64 n2,
 .slice a n3 c]⟩, .func (Fn.func 75) ⟨[]⟩ ⟨[]⟩]⟩ G fun v G2 => ∃ n4 b, v = .tuple ⟨[.int .i64 n4, .bool b]⟩ ∧ brB b (ix l_a n4 l_n fun ad => (∃ a n5 c, lD 90 G2 (Addr.add (Addr.add ad
 (Int.toNat n4 * 2)) 1) (.slice a n5 c) ∧ ix a_1 n1 n fun ad => (∃ a_3 n6 c_1, lD 90 G2 (Addr.add (Addr.add ad (Int.toNat n1 * 2)) 1) (.slice a_3 n6 c_1) ∧ cL 79 [.slice a n5 c, .slice a_3
 n6 c_1] G2 fun a n7 c G3 => ix a_1 n1 n fun ad => (∃ G4, sT 90 G3 (Addr.add (Addr.add ad (Int.toNat n1 * 2)) 1) (.slice a n7 c) G4 ∧ I [.int .i64 (wrap .i64 (n1 + 1))] G4 ∧
 μ [.int .i64 (wrap .i64 (n1 + 1))] G4 < μ [.int .i64 n1] G)))) (I [.int .i64 (wrap .i64 (n1 + 1))] G2 ∧ μ [.int .i64 (wrap .i64 (n1 + 1))] G2 < μ [.int .i64 n1]
 G))) (cL 80 [.slice l_a l_n l_c, .slice a_1 n c, .func (Fn.func 75) ⟨[]⟩ ⟨[]⟩] G fun a n c G => ∃ (I : IV) (μ : MU), I [.int .i64 0] G ∧ ∀ (J : F) (n2 : Int) (G : Heap), I [.int .i64 n2] G →
 brB (decide (n2 < (↑n : Int))) (ix a n2 n fun ad => (∃ a_4 n3 c, lD 90 G (Addr.add (Addr.add ad (Int.toNat n2 * 2)) 1) (.slice a_4 n3 c) ∧ cL 81 [.slice a_4 n3 c] G fun a_5 n4 c G2 => ix
 a n2 n fun ad => (∃ G3, sT 90 G2 (Addr.add (Addr.add ad (Int.toNat n2 * 2)) 1) (.slice a_5 n4 c) G3 ∧ I [.int .i64 (wrap .i64 (n2 + 1))] G3 ∧ μ [.int .i64 (wrap .i64 (n2
 + 1))] G3 < μ [.int .i64 n2] G))) (R (.slice a n c) G))) ∨ ∃ k x, v = .tuple ⟨[.bool true, k, x]⟩ ∧ SemWp Tryz.prog (Instr.entry (.pointer a)) G1 fun v G2 => ∃ k x, v = .tuple ⟨[k, x]⟩ ∧ ∃
 n1, k = .int .i64 n1 ∧ ∃ a n2 c_1, x = .slice a n2 c_1 ∧ cU 70 [.slice a n2 c_1] G2 fun G3 => cU 71 [.slice a n2 c_1, .func (Fn.func 72) ⟨[]⟩ ⟨[]⟩] G3 fun G4 => cL 73 [.slice a n2
 c_1, .func (Fn.func 74) ⟨[]⟩ ⟨[]⟩] G4 fun a n3 c_2 G5 => ∀ (b : Nat) (G6 : Heap), New G5 b (.cells ⟨[.int .i64 n1, .slice a n3 c_2]⟩ 92) G6 → SemWp Tryz.prog (Builtin.append_ ⟨[52, 52]⟩
 52 ⟨[.slice a_1 n c, .slice (some ⟨b, 0, none⟩) 1 1]⟩) G6 fun v G7 => ∃ a n4 c_3, v = .slice a n4 c_3 ∧ I [.slice a n4 c_3] G7 ∧ μ [.slice a n4 c_3] G7 < μ [.slice a_1 n c] G)) : cH 43 ⟨[.slice l_a l_n l_c, .slice rows_a rows_n rows_c]⟩ H R := vc_call (annOf [([0, 1, 0, 1, 1], .cut [(20, .one (.int .i64))]), ([1, 0, 0, 1, 1, 0, 0, 1, 0, 1, 1], .reg [0, 0,
 2, 0, 0, 16, 56, 0, 128, 0, 512, 1920, 3968, 8184, 16383] (.quiet 0 (.quiet 1 (.quiet 2 (.quiet 3 (.quiet 4 (.quiet 5 (.quiet 6 (.quiet 7 (.quiet 8 (.quiet 9 (.quiet 10 (.quiet 11 (.pick (.alt 12
 (.pick (.alt 13 (.pick (.alt 14 (.done) .stop)) .stop)) .stop))))))))))))))), ([0, 1, 0, 1, 1, 1, 1], .cut [(8, .one .slice)]), ([0, 0, 1, 1, 0, 0, 1, 0, 1, 1, 1, 1], .ext), ([0, 1, 0, 1, 1, 1, 1,
 1, 1, 1], .cut [(63, .one (.int .i64))]), ([0, 1, 1, 1, 0, 0, 1, 1, 0, 0, 1, 0, 1, 1, 1, 1, 1, 1, 1], .reg [0, 0, 0, 0, 12, 28, 60, 0, 0, 384, 896, 1920, 4092, 8191, 16383, 32767] (.quiet 0 (.quiet
 1 (.quiet 2 (.quiet 3 (.quiet 4 (.quiet 5 (.quiet 6 (.quiet 7 (.quiet 8 (.quiet 9 (.quiet 10 (.quiet 11 (.pick (.alt 12 (.quiet 13 (.quiet 14 (.pick (.alt 15 (.done) .stop)))) .stop))))))))))))))),
 ([0, 1, 0, 1, 1, 1, 1, 1, 1, 1, 1, 1], .cut [(99, .one (.int .i64))])]) followsAll Tryz.func43 rfl Tryz.ntmps43 rfl rfl (Eq.mpr (by kernel_rfl) h)
abbrev fn_strings_Builder_WriteString : Nat := 44
theorem vc_strings_Builder_WriteString (b : Addr) (s : ByteArray) (h : cU 82 [.pointer (some b)] H fun G => ∃ a n c, lD 81 G (Addr.add b 1) (.slice a n c) ∧
 SemWp Tryz.prog (Builtin.append_ ⟨[81, 9]⟩ 81 ⟨[.slice a n c, .string s]⟩) G fun v G => ∃ a n c, v = .slice a n c ∧ ∃ G1, sT 81 G (Addr.add b 1) (.slice a n c) G1 ∧ R (.tuple ⟨[.int .i64
 (↑(s.size) : Int), .nilIface]⟩) G1) : cH 44 ⟨[.pointer (some b), .string s]⟩ H R := vc_call (annOf []) followsAll Tryz.func44 rfl Tryz.ntmps44 rfl rfl (Eq.mpr
 (by kernel_rfl) h)
abbrev fn_zig_Uint : Nat := 45
theorem vc_zig_Uint (n : Int) (h : SemWp Tryz.prog (Instr.makeSlice 81 (.int .i64 0) (.int .i64 10)) H fun v G => ∃ a n1 c, v = .slice a n1 c ∧ ∃ (I : IV) (μ
 : MU), I [.int .u64 n, .slice a n1 c] G ∧ ∀ (J : F) (n : Int) (a : Option Addr) (n2 c : Nat) (G : Heap), I [.int .u64 n, .slice a n2 c] G → brB (decide (n ≥ 128)) (∀ (b : Nat) (G1 : Heap),
 New G b (.cells ⟨[.int .u8 (wrap .u8 (↑(BitVec.toNat (BitVec.ofInt 8 (wrap .u8 n) ||| BitVec.ofInt 8 128)) : Int))]⟩ 5) G1 → SemWp Tryz.prog (Builtin.append_ ⟨[81, 81]⟩ 81
 ⟨[.slice a n2 c, .slice (some ⟨b, 0, none⟩) 1 1]⟩) G1 fun v G2 => ∃ a_3 n3 c_1, v = .slice a_3 n3 c_1 ∧ I [.int .u64 (Int.fdiv n (2 ^ 7)), .slice a_3 n3 c_1] G2 ∧ μ [.int .u64 (Int.fdiv n
 (2 ^ 7)), .slice a_3 n3 c_1] G2 < μ [.int .u64 n, .slice a n2 c] G) (∀ (b : Nat) (G1 : Heap), New G b (.cells ⟨[.int .u8 (wrap .u8 n)]⟩ 5) G1 → SemWp Tryz.prog (Builtin.append_
 ⟨[81, 81]⟩ 81 ⟨[.slice a n2 c, .slice (some ⟨b, 0, none⟩) 1 1]⟩) G1 fun v G => ∃ a n c, v = .slice a n c ∧ SemWp Tryz.prog (convert 81 9 (.slice a n c)) G fun v G => ∃ s, v = .string s ∧ R
 (.string s) G)) : cH 45 ⟨[.int .u64 n]⟩ H R := vc_call (annOf [([0, 0, 1, 1], .cut [(0, .one (.int .u64)), (3, .one .slice)])]) followsAll Tryz.func45 rfl Tryz.ntmps45 rfl
 rfl (Eq.mpr (by kernel_rfl) h)
abbrev fn_delta_Encode : Nat := 46
theorem vc_delta_Encode (l_a : Option Addr) (l_n : Nat) (l_c : Nat) (h : brB (decide ((↑l_n : Int) > 5000)) (R (.tuple ⟨[.string { data := #[] }, .int .i64 1]⟩)
 H) (∃ (I : IV) (μ : MU), I [.int .i64 (-1 : Int), .int .i64 0] H ∧ ∀ (J : F) (n n1 : Int) (G : Heap), I [.int .i64 n, .int .i64 n1] G → brB (decide (n1 < (↑l_n : Int))) (ix l_a n1 l_n fun ad
 => (∃ n2 n3, lD 107 G (Addr.add ad (Int.toNat n1 * 2)) (.agg ⟨[.int .i64 n2, .int .i64 n3]⟩) ∧ ∀ (b : Nat) (G1 : Heap), New G b (.cells ⟨[.int .i64 0, .int .i64 0]⟩ 107) G1 → ∃ G2, sT
 107 G1 ⟨b, 0, none⟩ (.agg ⟨[.int .i64 n2, .int .i64 n3]⟩) G2 ∧ ∃ n4, lD 3 G2 ⟨b, 0, none⟩ (.int .i64 n4) ∧ brB (decide (n4 ≤ n)) (R (.tuple ⟨[.string { data := #[] }, .int .i64 30]⟩)
 G2) (∃ n5, lD 3 G2 ⟨b, 0, none⟩ (.int .i64 n5) ∧ brB (decide (n5 ≥ 1099511627776)) (R (.tuple ⟨[.string { data := #[] }, .int .i64 30]⟩) G2) (∃ n6, lD 3 G2 ⟨b, 0, none⟩ (.int .i64 n6) ∧
 I [.int .i64 n6, .int .i64 (wrap .i64 (n1 + 1))] G2 ∧ μ [.int .i64 n6, .int .i64 (wrap .i64 (n1 + 1))] G2 < μ [.int .i64 n, .int .i64 n1] G)))) (cS 45 [.int .u64
 (wrap .u64 (↑l_n : Int))] G fun s G => brB (decide ((↑l_n : Int) > 0)) (ix l_a (0) l_n fun ad => (∃ n, lD 3 G ad (.int .i64 n) ∧ ix l_a (0) l_n fun ad => (∃ n2, lD 3 G (Addr.add ad 1)
 (.int .i64 n2) ∧ cS 45 [.int .u64 (wrap .u64 n)] G fun s_1 G => lD 3 G (Addr.add ad 1) (.int .i64 n2) ∧ cS 51 [.int .i64 n2] G fun s_2 G => chk (decide (s_1.size +
 s_2.size ≤ 9223372036854775807)) (chk (decide (s.size + ByteArray.size (s_1 ++ s_2) ≤ 9223372036854775807)) (brB (decide ((↑l_n : Int) < 2)) (R (.tuple ⟨[.string (s ++ (s_1 ++
 s_2)), .int .i64 0]⟩) G) (∀ (b : Nat) (G1 : Heap), New G b (.cells ⟨[.slice none 0 0]⟩ 138) G1 → ∀ (b_1 : Nat) (G : Heap), New G1 b_1 (.cells ⟨[.slice none 0 0]⟩ 138) G → cV 83 [.slice l_a
 l_n l_c] G fun v_1 G => ∀ (D l : Nat) (R0 : Loop) (H1 : Heap), NewL G D l R0 H1 → (∀ (n n3 : Int) (H2 : Heap) (K2 : Value → Heap → Prop), Lp H2 l R0 LoopState.ready none → (Lp H2 l R0
 LoopState.ready none ∧ ∃ a n4 c, lD 138 (setLp H2 l R0 LoopState.busy none) ⟨b, 0, none⟩ (.slice a n4 c) ∧ ∃ a_1 n5 c_1, lD 138 (setLp H2 l R0 LoopState.busy none) ⟨b_1, 0, none⟩ (.slice a_1 n5
 c_1) ∧ (∀ (b_2 : Nat) (G : Heap), New (setLp H2 l R0 LoopState.busy none) b_2 (.cells ⟨[.int .u64 n]⟩ 89) G → lD 138 G ⟨b_1, 0, none⟩ (.slice a_1 n5 c_1) ∧ lD 138 G ⟨b, 0, none⟩ (.slice a n4
 c) ∧ (SemWp Tryz.prog (Builtin.append_ ⟨[138, 138]⟩ 138 ⟨[.slice a n4 c, .slice (some ⟨b_2, 0, none⟩) 1 1]⟩) G fun v G => ∃ a n c, v = .slice a n c ∧ lD 138 G ⟨b_1, 0, none⟩ (.slice a_1 n5 c_1)
 ∧ ∀ (b_3 : Nat) (G2 : Heap), New G b_3 (.cells ⟨[.int .u64 n3]⟩ 89) G2 → lD 138 G2 ⟨b_1, 0, none⟩ (.slice a_1 n5 c_1) ∧ SemWp Tryz.prog (Builtin.append_ ⟨[138, 138]⟩ 138 ⟨[.slice a_1 n5
 c_1, .slice (some ⟨b_3, 0, none⟩) 1 1]⟩) G2 fun v G => ∃ a_4 n6 c_2, v = .slice a_4 n6 c_2 ∧ ∃ G3, sT 138 G ⟨b, 0, none⟩ (.slice a n c) G3 ∧ ∃ G, sT 138 G3 ⟨b_1, 0, none⟩ (.slice a_4
 n6 c_2) G ∧ Lp G l R0 LoopState.busy none ∧ K2 (.bool true) (setLp G l R0 LoopState.ready none)) ∧ ∀ (b_3 : Nat) (G2 : Heap), New G b_3 (.cells ⟨[.int .u64 n3]⟩ 89) G2 → lD 138 G2 ⟨b_1,
 0, none⟩ (.slice a_1 n5 c_1) ∧ lD 138 G2 ⟨b, 0, none⟩ (.slice a n4 c) ∧ SemWp Tryz.prog (Builtin.append_ ⟨[138, 138]⟩ 138 ⟨[.slice a n4 c, .slice (some ⟨b_2, 0, none⟩) 1 1]⟩) G2 fun v G => ∃
 a n c, v = .slice a n c ∧ lD 138 G ⟨b_1, 0, none⟩ (.slice a_1 n5 c_1) ∧ SemWp Tryz.prog (Builtin.append_ ⟨[138, 138]⟩ 138 ⟨[.slice a_1 n5 c_1, .slice (some ⟨b_3, 0, none⟩) 1 1]⟩) G fun v G => ∃
 a_4 n6 c_2, v = .slice a_4 n6 c_2 ∧ ∃ G3, sT 138 G ⟨b, 0, none⟩ (.slice a n c) G3 ∧ ∃ G, sT 138 G3 ⟨b_1, 0, none⟩ (.slice a_4 n6 c_2) G ∧ Lp G l R0 LoopState.busy none ∧ K2 (.bool true)
 (setLp G l R0 LoopState.ready none)) ∧ ∀ (b_2 : Nat) (G : Heap), New (setLp H2 l R0 LoopState.busy none) b_2 (.cells ⟨[.int .u64 n3]⟩ 89) G → lD 138 G ⟨b_1, 0, none⟩ (.slice a_1 n5 c_1) ∧ lD
 138 G ⟨b, 0, none⟩ (.slice a n4 c) ∧ ∀ (b_3 : Nat) (G2 : Heap), New G b_3 (.cells ⟨[.int .u64 n]⟩ 89) G2 → lD 138 G2 ⟨b_1, 0, none⟩ (.slice a_1 n5 c_1) ∧ lD 138 G2 ⟨b, 0, none⟩ (.slice a
 n4 c) ∧ SemWp Tryz.prog (Builtin.append_ ⟨[138, 138]⟩ 138 ⟨[.slice a n4 c, .slice (some ⟨b_3, 0, none⟩) 1 1]⟩) G2 fun v G => ∃ a n c, v = .slice a n c ∧ lD 138 G ⟨b_1, 0, none⟩ (.slice a_1 n5
 c_1) ∧ SemWp Tryz.prog (Builtin.append_ ⟨[138, 138]⟩ 138 ⟨[.slice a_1 n5 c_1, .slice (some ⟨b_2, 0, none⟩) 1 1]⟩) G fun v G => ∃ a_4 n6 c_2, v = .slice a_4 n6 c_2 ∧ ∃ G3, sT 138 G ⟨b, 0,
 none⟩ (.slice a n c) G3 ∧ ∃ G, sT 138 G3 ⟨b_1, 0, none⟩ (.slice a_4 n6 c_2) G ∧ Lp G l R0 LoopState.busy none ∧ K2 (.bool true) (setLp G l R0 LoopState.ready none)) → YieldH Tryz.prog l
 [.int .u64 n, .int .u64 n3] H2 fun a a_1 => K2 a a_1) → CallV Tryz.prog v_1 [.func (Fn.yield l) ⟨[]⟩ ⟨[]⟩] H1 fun x H4 => (Lp H4 l R0 LoopState.ready none ∧ ∃ a n c, lD 138 (setLp H4 l R0
 LoopState.exhausted none) ⟨b, 0, none⟩ (.slice a n c) ∧ ∃ a_1 n3 c_1, lD 138 (setLp H4 l R0 LoopState.exhausted none) ⟨b_1, 0, none⟩ (.slice a_1 n3 c_1) ∧ CallH Tryz.prog 84 ⟨[.slice a n c]⟩
 (setLp H4 l R0 LoopState.exhausted none) fun v G => ∃ n, v = .int .i64 n ∧ lD 138 G ⟨b_1, 0, none⟩ (.slice a_1 n3 c_1) ∧ cI 84 [.slice a_1 n3 c_1] G fun n4 G => cP 85 [] G fun a G => ∃ a_2
 n5 c, lD 138 G ⟨b, 0, none⟩ (.slice a_2 n5 c) ∧ ∃ (I : IV) (μ : MU), I [.int .i64 0] G ∧ ∀ (J : F) (n6 : Int) (G : Heap), I [.int .i64 n6] G → brB (decide (n6 < (↑n5 : Int))) (ix a_2 n6
 n5 fun ad => (∃ n7, lD 89 G (Addr.add ad (Int.toNat n6 * 1)) (.int .u64 n7) ∧ cI 86 [.pointer a, .int .u64 n7, .int .i64 n] G fun n G2 => ∃ a_4 n c, lD 138 G2 ⟨b_1, 0, none⟩ (.slice a_4 n
 c) ∧ ix a_4 n6 n fun ad => (∃ n, lD 89 G2 (Addr.add ad (Int.toNat n6 * 1)) (.int .u64 n) ∧ cI 86 [.pointer a, .int .u64 n, .int .i64 n4] G2 fun n G3 => I [.int .i64 (wrap .i64 (n6
 + 1))] G3 ∧ μ [.int .i64 (wrap .i64 (n6 + 1))] G3 < μ [.int .i64 n6] G))) ((∀ (b : Nat) (G2 : Heap), New G b (.cells ⟨[.int .u8 (wrap .u8 n), .int .u8 (wrap .u8
 n4)]⟩ 5) G2 → (SemWp Tryz.prog (convert 81 9 (.slice (some ⟨b, 0, none⟩) 2 2)) G2 fun v G => ∃ s_3, v = .string s_3 ∧ chk (decide (ByteArray.size (s ++ (s_1 ++ s_2)) + s_3.size ≤
 9223372036854775807)) (cS 87 [.pointer a] G fun s_4 G => chk (decide (ByteArray.size (s ++ (s_1 ++ s_2) ++ s_3) + s_4.size ≤ 9223372036854775807)) (Dq G D ∧ R (.tuple ⟨[.string (s ++
 (s_1 ++ s_2) ++ s_3 ++ s_4), .int .i64 0]⟩) (shutD G D)))) ∧ cS 87 [.pointer a] G2 fun s_3 G => SemWp Tryz.prog (convert 81 9 (.slice (some ⟨b, 0, none⟩) 2 2)) G fun v G => ∃ s_4, v = .string
 s_4 ∧ chk (decide (ByteArray.size (s ++ (s_1 ++ s_2)) + s_4.size ≤ 9223372036854775807)) (chk (decide (ByteArray.size (s ++ (s_1 ++ s_2) ++ s_4) + s_3.size ≤
 9223372036854775807)) (Dq G D ∧ R (.tuple ⟨[.string (s ++ (s_1 ++ s_2) ++ s_4 ++ s_3), .int .i64 0]⟩) (shutD G D)))) ∧ cS 87 [.pointer a] G fun s_3 G => ∀ (b : Nat) (G2 : Heap), New G b
 (.cells ⟨[.int .u8 (wrap .u8 n), .int .u8 (wrap .u8 n4)]⟩ 5) G2 → SemWp Tryz.prog (convert 81 9 (.slice (some ⟨b, 0, none⟩) 2 2)) G2 fun v G => ∃ s_4, v = .string s_4 ∧ chk
 (decide (ByteArray.size (s ++ (s_1 ++ s_2)) + s_4.size ≤ 9223372036854775807)) (chk (decide (ByteArray.size (s ++ (s_1 ++ s_2) ++ s_4) + s_3.size ≤ 9223372036854775807)) (Dq G D
 ∧ R (.tuple ⟨[.string (s ++ (s_1 ++ s_2) ++ s_4 ++ s_3), .int .i64 0]⟩) (shutD G D))))) ∨ Lp H4 l R0 LoopState.done (some Code.ret) ∧ Dq (setLp H4 l R0 LoopState.exhausted (some Code.ret)) D ∧ R
 (.tuple ⟨[J 2, J 3]⟩) (shutD (setLp H4 l R0 LoopState.exhausted (some Code.ret)) D))))))) (brB (decide ((↑l_n : Int) < 2)) (R (.tuple ⟨[.string s, .int .i64 0]⟩) G) (∀ (b : Nat) (G1 : Heap), New
 G b (.cells ⟨[.slice none 0 0]⟩ 138) G1 → ∀ (b_1 : Nat) (G : Heap), New G1 b_1 (.cells ⟨[.slice none 0 0]⟩ 138) G → cV 83 [.slice l_a l_n l_c] G fun v_1 G => ∀ (D l : Nat) (R0 : Loop) (H1 :
 Heap), NewL G D l R0 H1 → (∀ (n n2 : Int) (H2 : Heap) (K2 : Value → Heap → Prop), Lp H2 l R0 LoopState.ready none → (Lp H2 l R0 LoopState.ready none ∧ ∃ a n3 c, lD 138 (setLp H2 l R0
 LoopState.busy none) ⟨b, 0, none⟩ (.slice a n3 c) ∧ ∃ a_1 n4 c_1, lD 138 (setLp H2 l R0 LoopState.busy none) ⟨b_1, 0, none⟩ (.slice a_1 n4 c_1) ∧ (∀ (b_2 : Nat) (G : Heap), New (setLp H2 l R0
 LoopState.busy none) b_2 (.cells ⟨[.int .u64 n]⟩ 89) G → lD 138 G ⟨b_1, 0, none⟩ (.slice a_1 n4 c_1) ∧ lD 138 G ⟨b, 0, none⟩ (.slice a n3 c) ∧ (SemWp Tryz.prog (Builtin.append_ ⟨[138, 138]⟩ 138
 ⟨[.slice a n3 c, .slice (some ⟨b_2, 0, none⟩) 1 1]⟩) G fun v G => ∃ a n c, v = .slice a n c ∧ lD 138 G ⟨b_1, 0, none⟩ (.slice a_1 n4 c_1) ∧ ∀ (b_3 : Nat) (G2 : Heap), New G b_3 (.cells
 ⟨[.int .u64 n2]⟩ 89) G2 → lD 138 G2 ⟨b_1, 0, none⟩ (.slice a_1 n4 c_1) ∧ SemWp Tryz.prog (Builtin.append_ ⟨[138, 138]⟩ 138 ⟨[.slice a_1 n4 c_1, .slice (some ⟨b_3, 0, none⟩) 1 1]⟩) G2 fun v
 G => ∃ a_4 n5 c_2, v = .slice a_4 n5 c_2 ∧ ∃ G3, sT 138 G ⟨b, 0, none⟩ (.slice a n c) G3 ∧ ∃ G, sT 138 G3 ⟨b_1, 0, none⟩ (.slice a_4 n5 c_2) G ∧ Lp G l R0 LoopState.busy none ∧ K2
 (.bool true) (setLp G l R0 LoopState.ready none)) ∧ ∀ (b_3 : Nat) (G2 : Heap), New G b_3 (.cells ⟨[.int .u64 n2]⟩ 89) G2 → lD 138 G2 ⟨b_1, 0, none⟩ (.slice a_1 n4 c_1) ∧ lD 138 G2 ⟨b, 0,
 none⟩ (.slice a n3 c) ∧ SemWp Tryz.prog (Builtin.append_ ⟨[138, 138]⟩ 138 ⟨[.slice a n3 c, .slice (some ⟨b_2, 0, none⟩) 1 1]⟩) G2 fun v G => ∃ a n c, v = .slice a n c ∧ lD 138 G ⟨b_1, 0, none⟩
 (.slice a_1 n4 c_1) ∧ SemWp Tryz.prog (Builtin.append_ ⟨[138, 138]⟩ 138 ⟨[.slice a_1 n4 c_1, .slice (some ⟨b_3, 0, none⟩) 1 1]⟩) G fun v G => ∃ a_4 n5 c_2, v = .slice a_4 n5 c_2 ∧ ∃ G3, sT
 138 G ⟨b, 0, none⟩ (.slice a n c) G3 ∧ ∃ G, sT 138 G3 ⟨b_1, 0, none⟩ (.slice a_4 n5 c_2) G ∧ Lp G l R0 LoopState.busy none ∧ K2 (.bool true) (setLp G l R0 LoopState.ready none)) ∧ ∀ (b_2 :
 Nat) (G : Heap), New (setLp H2 l R0 LoopState.busy none) b_2 (.cells ⟨[.int .u64 n2]⟩ 89) G → lD 138 G ⟨b_1, 0, none⟩ (.slice a_1 n4 c_1) ∧ lD 138 G ⟨b, 0, none⟩ (.slice a n3 c) ∧ ∀ (b_3 :
 Nat) (G2 : Heap), New G b_3 (.cells ⟨[.int .u64 n]⟩ 89) G2 → lD 138 G2 ⟨b_1, 0, none⟩ (.slice a_1 n4 c_1) ∧ lD 138 G2 ⟨b, 0, none⟩ (.slice a n3 c) ∧ SemWp Tryz.prog (Builtin.append_
 ⟨[138, 138]⟩ 138 ⟨[.slice a n3 c, .slice (some ⟨b_3, 0, none⟩) 1 1]⟩) G2 fun v G => ∃ a n c, v = .slice a n c ∧ lD 138 G ⟨b_1, 0, none⟩ (.slice a_1 n4 c_1) ∧ SemWp Tryz.prog (Builtin.append_
 ⟨[138, 138]⟩ 138 ⟨[.slice a_1 n4 c_1, .slice (some ⟨b_2, 0, none⟩) 1 1]⟩) G fun v G => ∃ a_4 n5 c_2, v = .slice a_4 n5 c_2 ∧ ∃ G3, sT 138 G ⟨b, 0, none⟩ (.slice a n c) G3 ∧ ∃ G, sT 138
 G3 ⟨b_1, 0, none⟩ (.slice a_4 n5 c_2) G ∧ Lp G l R0 LoopState.busy none ∧ K2 (.bool true) (setLp G l R0 LoopState.ready none)) → YieldH Tryz.prog l [.int .u64 n, .int .u64 n2] H2 fun a a_1 =>
 K2 a a_1) → CallV Tryz.prog v_1 [.func (Fn.yield l) ⟨[]⟩ ⟨[]⟩] H1 fun x H4 => (Lp H4 l R0 LoopState.ready none ∧ ∃ a n c, lD 138 (setLp H4 l R0 LoopState.exhausted none) ⟨b, 0, none⟩ (.slice a n c)
 ∧ ∃ a_1 n2 c_1, lD 138 (setLp H4 l R0 LoopState.exhausted none) ⟨b_1, 0, none⟩ (.slice a_1 n2 c_1) ∧ CallH Tryz.prog 84 ⟨[.slice a n c]⟩ (setLp H4 l R0 LoopState.exhausted none) fun v G => ∃ n, v
 = .int .i64 n ∧ lD 138 G ⟨b_1, 0, none⟩ (.slice a_1 n2 c_1) ∧ cI 84 [.slice a_1 n2 c_1] G fun n3 G => cP 85 [] G fun a G => ∃ a_2 n4 c, lD 138 G ⟨b, 0, none⟩ (.slice a_2 n4 c) ∧ ∃ (I :
 IV) (μ : MU), I [.int .i64 0] G ∧ ∀ (J : F) (n5 : Int) (G : Heap), I [.int .i64 n5] G → brB (decide (n5 < (↑n4 : Int))) (ix a_2 n5 n4 fun ad => (∃ n6, lD 89 G (Addr.add ad (Int.toNat n5
 * 1)) (.int .u64 n6) ∧ cI 86 [.pointer a, .int .u64 n6, .int .i64 n] G fun n G2 => ∃ a_4 n c, lD 138 G2 ⟨b_1, 0, none⟩ (.slice a_4 n c) ∧ ix a_4 n5 n fun ad => (∃ n, lD 89 G2 (Addr.add ad
 (Int.toNat n5 * 1)) (.int .u64 n) ∧ cI 86 [.pointer a, .int .u64 n, .int .i64 n3] G2 fun n G3 => I [.int .i64 (wrap .i64 (n5 + 1))] G3 ∧ μ [.int .i64 (wrap .i64 (n5 + 1))]
 G3 < μ [.int .i64 n5] G))) ((∀ (b : Nat) (G2 : Heap), New G b (.cells ⟨[.int .u8 (wrap .u8 n), .int .u8 (wrap .u8 n3)]⟩ 5) G2 → (SemWp Tryz.prog (convert 81 9 (.slice (some
 ⟨b, 0, none⟩) 2 2)) G2 fun v G => ∃ s_1, v = .string s_1 ∧ chk (decide (s.size + s_1.size ≤ 9223372036854775807)) (cS 87 [.pointer a] G fun s_2 G => chk (decide
 (ByteArray.size (s ++ s_1) + s_2.size ≤ 9223372036854775807)) (Dq G D ∧ R (.tuple ⟨[.string (s ++ s_1 ++ s_2), .int .i64 0]⟩) (shutD G D)))) ∧ cS 87 [.pointer a] G2 fun s_1 G => SemWp
 Tryz.prog (convert 81 9 (.slice (some ⟨b, 0, none⟩) 2 2)) G fun v G => ∃ s_2, v = .string s_2 ∧ chk (decide (s.size + s_2.size ≤ 9223372036854775807)) (chk (decide
 (ByteArray.size (s ++ s_2) + s_1.size ≤ 9223372036854775807)) (Dq G D ∧ R (.tuple ⟨[.string (s ++ s_2 ++ s_1), .int .i64 0]⟩) (shutD G D)))) ∧ cS 87 [.pointer a] G fun s_1 G => ∀ (b :
 Nat) (G2 : Heap), New G b (.cells ⟨[.int .u8 (wrap .u8 n), .int .u8 (wrap .u8 n3)]⟩ 5) G2 → SemWp Tryz.prog (convert 81 9 (.slice (some ⟨b, 0, none⟩) 2 2)) G2 fun v G => ∃
 s_2, v = .string s_2 ∧ chk (decide (s.size + s_2.size ≤ 9223372036854775807)) (chk (decide (ByteArray.size (s ++ s_2) + s_1.size ≤ 9223372036854775807)) (Dq G D ∧ R
 (.tuple ⟨[.string (s ++ s_2 ++ s_1), .int .i64 0]⟩) (shutD G D))))) ∨ Lp H4 l R0 LoopState.done (some Code.ret) ∧ Dq (setLp H4 l R0 LoopState.exhausted (some Code.ret)) D ∧ R (.tuple ⟨[J 2, J 3]⟩)
 (shutD (setLp H4 l R0 LoopState.exhausted (some Code.ret)) D)))))) : cH 46 ⟨[.slice l_a l_n l_c]⟩ H R := vcS_call (annOf [([0, 1, 0, 1, 1, 1], .cut [(4, .one (.int .i64)),
 (22, .one (.int .i64))]), ([1, 1, 1, 1, 1], .cut [(7, .one .str)]), ([0, 1, 0, 1, 1, 1, 1, 1], .reg [0, 0, 2, 6, 14, 30, 62, 0, 128, 384, 896, 2046, 4094, 8191, 16383] (.quiet 0 (.quiet 1 (.quiet 2
 (.quiet 3 (.quiet 4 (.quiet 5 (.quiet 7 (.quiet 8 (.quiet 9 (.quiet 10 (.pick (.alt 6 (.pick (.alt 11 (.quiet 12 (.quiet 13 (.quiet 14 .done))) .stop)) .stop))))))))))))), ([0, 1, 0, 1, 1, 1, 1, 1,
 1, 1, 1], .cut [(65, .one (.int .u64)), (66, .one (.int .u64))]), ([0, 1, 0, 1, 0, 1, 1, 1, 1, 1, 1, 1, 1], .reg [0, 0, 2, 7, 0, 0, 32, 127, 255, 511] (.quiet 0 (.quiet 1 (.quiet 4 (.quiet 5 (.pick
 (.alt 2 (.pick (.alt 3 (.pick (.alt 6 (.pick (.alt 7 (.pick (.alt 8 (.pick (.alt 9 (.done) .stop)) .stop)) .stop)) .stop)) (.alt 6 (.pick (.alt 3 (.pick (.alt 7 (.pick (.alt 8 (.pick (.alt 9 (.done)
 .stop)) .stop)) .stop)) .stop)) .stop))) (.alt 6 (.pick (.alt 2 (.pick (.alt 3 (.pick (.alt 7 (.pick (.alt 8 (.pick (.alt 9 (.done) .stop)) .stop)) .stop)) .stop)) .stop)) .stop)))))))), ([0, 1, 1,
 1, 1, 1, 1, 1, 1, 1], .reg [0, 1, 0, 7, 15, 31] (.quiet 0 (.quiet 2 (.pick (.alt 1 (.pick (.alt 3 (.quiet 4 (.quiet 5 .done)) .stop)) .stop))))), ([0, 1, 0, 1, 1, 1, 1, 1, 1, 1, 1, 1, 1, 1], .cut
 [(82, .one (.int .i64))]), ([0, 1, 1, 1, 1, 1, 1, 1, 1, 1, 1, 1, 1], .reg [0, 0, 2, 0, 8, 30, 62, 127, 0, 256, 1023, 2047, 4095] (.quiet 0 (.quiet 1 (.quiet 2 (.quiet 3 (.quiet 4 (.quiet 8 (.pick
 (.alt 5 (.pick (.alt 6 (.quiet 7 (.pick (.alt 9 (.quiet 10 (.quiet 11 (.quiet 12 .done))) .stop))) (.alt 9 (.pick (.alt 6 (.quiet 7 (.quiet 10 (.quiet 11 (.quiet 12 .done)))) .stop)) .stop))) (.alt
 9 (.pick (.alt 5 (.pick (.alt 6 (.quiet 7 (.quiet 10 (.quiet 11 (.quiet 12 .done)))) .stop)) .stop)) .stop))))))))))]) followsAll Tryz.func46 rfl Tryz.ntmps46 rfl rfl (Eq.mpr (by kernel_rfl) h)
abbrev fn_strings_Builder_String : Nat := 47
theorem vc_strings_Builder_String (b : Addr) (h : ∃ a n c, lD 81 H (Addr.add b 1) (.slice a n c) ∧ ∃ a_1 n1 c_1, lD 81 H (Addr.add b 1) (.slice a_1 n1 c_1) ∧
 SemWp Tryz.prog (Builtin.unsafeSliceData_ ⟨[81]⟩ 146 ⟨[.slice a n c]⟩) H fun v G => ∃ a, v = .pointer a ∧ lD 81 G (Addr.add b 1) (.slice a_1 n1 c_1) ∧ SemWp Tryz.prog (Builtin.unsafeString_
 ⟨[146, 3]⟩ 9 ⟨[.pointer a, .int .i64 (↑n1 : Int)]⟩) G fun v G => ∃ s, v = .string s ∧ R (.string s) G) : cH 47 ⟨[.pointer (some b)]⟩ H R := vc_call (annOf [([0, 1],
 .reg [0, 1, 3, 7, 15, 0, 32, 96, 224, 480, 1023, 2047] (.quiet 0 (.quiet 1 (.quiet 2 (.quiet 3 (.quiet 5 (.quiet 6 (.quiet 7 (.quiet 8 (.quiet 9 (.pick (.alt 4 (.pick (.alt 10 (.quiet 11 .done)
 .stop)) .stop))))))))))))]) followsAll Tryz.func47 rfl Tryz.ntmps47 rfl rfl (Eq.mpr (by kernel_rfl) h)
abbrev fn_runs_behind : Nat := 48
theorem vc_runs_behind (a_0 : Int) (a_1 : Int) (a_2 : Int) (b_0 : Int) (b_1 : Int) (b_2 : Int) (h : ∀ (b : Nat) (G : Heap), New H b (.cells ⟨[.int .i64 a_0,
 .int .i64 a_1, .int .i64 a_2]⟩ 26) G → ∀ (b_3 : Nat) (G1 : Heap), New G b_3 (.cells ⟨[.int .i64 b_0, .int .i64 b_1, .int .i64 b_2]⟩ 26) G1 → ∃ n, lD 3 G1 ⟨b_3, 0, none⟩ (.int .i64 n) ∧ ∃
 n1, lD 3 G1 ⟨b, 0, none⟩ (.int .i64 n1) ∧ brB (decide (n < n1)) (R (.bool true) G1) (∃ n, lD 3 G1 ⟨b_3, 0, none⟩ (.int .i64 n) ∧ ∃ n2, lD 3 G1 ⟨b, 0, none⟩ (.int .i64 n2) ∧ brB (n ==
 n2) (∃ n, lD 3 G1 ⟨b_3, 1, none⟩ (.int .i64 n) ∧ ∃ n3, lD 3 G1 ⟨b, 1, none⟩ (.int .i64 n3) ∧ R (.bool (decide (n < n3))) G1) (R (.bool false) G1))) : CallH Tryz.prog 48 (List.toArray
 [.agg #[.int .i64 a_0, .int .i64 a_1, .int .i64 a_2], .agg #[.int .i64 b_0, .int .i64 b_1, .int .i64 b_2]]) H R := vc_call (annOf []) followsAll Tryz.func48 rfl Tryz.ntmps48 rfl rfl (Eq.mpr (by
 kernel_rfl) h)
theorem vc_slices_Chunk___api_Row_api_Row_ (s_a : Option Addr) (s_n : Nat) (s_c : Nat) (n : Int) (h : ∀ (b : Nat) (G : Heap), New H b (.cells ⟨[.slice s_a s_n
 s_c]⟩ 22) G → ∀ (b_1 : Nat) (G1 : Heap), New G b_1 (.cells ⟨[.int .i64 n]⟩ 3) G1 → ∃ n, lD 3 G1 ⟨b_1, 0, none⟩ (.int .i64 n) ∧ brB (decide (n < 1)) False (R (.func (Fn.func 88) ⟨[]⟩
 ⟨[.pointer (some ⟨b, 0, none⟩), .pointer (some ⟨b_1, 0, none⟩)]⟩) G1)) : cH 49 ⟨[.slice s_a s_n s_c, .int .i64 n]⟩ H R := vc_call (annOf []) followsAll Tryz.func49 rfl
 Tryz.ntmps49 rfl rfl (Eq.mpr (by kernel_rfl) h)
abbrev fn_strings_Builder_Len : Nat := 50
theorem vc_strings_Builder_Len (b : Addr) (h : ∃ a n c, lD 81 H (Addr.add b 1) (.slice a n c) ∧ R (.int .i64 (↑n : Int)) H) : cH 50 ⟨[.pointer (some b)]⟩ H R := vc_call (annOf []) followsAll Tryz.func50 rfl Tryz.ntmps50 rfl rfl (Eq.mpr (by kernel_rfl) h)
abbrev fn_zig_Int : Nat := 51
theorem vc_zig_Int (n : Int) (h : cH 89 ⟨[.int .i64 n]⟩ H fun v G => ∃ n, v = .int .u64 n ∧ cS 45 [.int .u64 n] G fun s G => R (.string s) G) : cH 51 ⟨[.int .i64 n]⟩ H R := vc_call (annOf []) followsAll Tryz.func51 rfl Tryz.ntmps51 rfl rfl (Eq.mpr (by kernel_rfl) h)
theorem vc_convert_units_1 (yield : Value) (a1 : Addr) (h : ∃ a n c, lD 52 H a1 (.slice a n c) ∧ ∃ (I : IV) (μ : MU), I [.int .i64 0] H ∧ ∀ (J : F) (n1 : Int)
 (G : Heap), I [.int .i64 n1] G → brB (decide (n1 < (↑n : Int))) (ix a n1 n fun ad => (∃ n a n2 c, lD 92 G (Addr.add ad (Int.toNat n1 * 2)) (.agg ⟨[.int .i64 n, .slice a n2 c]⟩) ∧ ∀ (b :
 Nat) (G1 : Heap), New G b (.cells ⟨[.int .i64 0, .slice none 0 0]⟩ 92) G1 → ∃ G2, sT 92 G1 ⟨b, 0, none⟩ (.agg ⟨[.int .i64 n, .slice a n2 c]⟩) G2 ∧ ∃ n a n3 c, lD 92 G2 ⟨b, 0, none⟩
 (.agg ⟨[.int .i64 n, .slice a n3 c]⟩) ∧ ∀ (b : Nat) (G3 : Heap), New G2 b (.cells ⟨[.int .i64 n, .slice a n3 c]⟩ 92) G3 → cL 31 [.slice (some ⟨b, 0, none⟩) 1 1] G3 fun a n c G4 => CallY
 Tryz.prog yield [.slice a n c] G4 fun v G5 => ∃ b, v = .bool b ∧ brB (!b) (R (.tuple ⟨[]⟩) G5) (I [.int .i64 (wrap .i64 (n1 + 1))] G5 ∧ μ [.int .i64 (wrap .i64 (n1 + 1))]
 G5 < μ [.int .i64 n1] G))) (R (.tuple ⟨[]⟩) G)) : cH 52 ⟨[yield, .pointer (some a1)]⟩ H R := vcY_call (annOf [([0, 1], .cut [(7, .one (.int .i64))])]) followsAll
 Tryz.func52 rfl Tryz.ntmps52 rfl rfl (Eq.mpr (by kernel_rfl) h)
theorem vc_convert_units_2 (yield : Value) (a1 : Addr) (a2 : Addr) (h : ∃ n, lD 3 H a1 (.int .i64 n) ∧ ∃ (I : IV) (μ : MU), I [.int .i64 0] H ∧ ∀ (J : F) (n1 :
 Int) (G : Heap), I [.int .i64 n1] G → brB (decide (n1 < n)) (∃ a n c, lD 22 G a2 (.slice a n c) ∧ ∃ a_1 n c_1, lD 22 G a2 (.slice a_1 n c_1) ∧ chk (decide (0 ≤ wrap .i64 (16 * n1) ∧
 (wrap .i64 (16 * n1) ≤ if (↑n : Int) < wrap .i64 (wrap .i64 (16 * n1) + 16) then (↑n : Int) else wrap .i64 (wrap .i64 (16 * n1) + 16)) ∧ (if (↑n : Int) <
 wrap .i64 (wrap .i64 (16 * n1) + 16) then (↑n : Int) else wrap .i64 (wrap .i64 (16 * n1) + 16)) ≤ (↑c : Int))) (CallY Tryz.prog yield [.slice (slA c (Int.toNat
 (wrap .i64 (16 * n1))) 3 a) (Int.toNat (if (↑n : Int) < wrap .i64 (wrap .i64 (16 * n1) + 16) then (↑n : Int) else wrap .i64 (wrap .i64 (16 * n1) + 16)) -
 Int.toNat (wrap .i64 (16 * n1))) (c - Int.toNat (wrap .i64 (16 * n1)))] G fun v G1 => ∃ b, v = .bool b ∧ brB (!b) (R (.tuple ⟨[]⟩) G1) (I [.int .i64 (wrap .i64 (n1 +
 1))] G1 ∧ μ [.int .i64 (wrap .i64 (n1 + 1))] G1 < μ [.int .i64 n1] G))) (R (.tuple ⟨[]⟩) G)) : cH 53 ⟨[yield, .pointer (some a1), .pointer (some a2)]⟩ H R := vcY_call (annOf [([0, 1], .cut [(6, .one (.int .i64))])]) followsAll Tryz.func53 rfl Tryz.ntmps53 rfl rfl (Eq.mpr (by kernel_rfl) h)
abbrev fn_major_table : Nat := 54
theorem vc_major_table (s : ByteArray) (h : cH 90 ⟨[.string s, .int .i64 0]⟩ H fun v G => ∃ n n1 n2, v = .tuple ⟨[.int .u64 n, .int .i64 n1, .int .i64 n2]⟩
 ∧ ∃ (M : IV), brB (n2 != 0) (R (.tuple ⟨[.slice none 0 0, .bool false]⟩) G) (brB (decide (n > 200)) (R (.tuple ⟨[.slice none 0 0, .bool false]⟩) G) (M [] G)) ∧ ∀ (J : F) (G : Heap), M [] G → ∃
 (I : IV) (μ : MU), I [.int .i64 n1, .slice none 0 0, .int .i64 (-1 : Int), .int .i64 0, .int .u64 0] G ∧ ∀ (J : F) (n3 : Int) (a : Option Addr) (n4 c : Nat) (n5 n6 n7 : Int) (G : Heap), I
 [.int .i64 n3, .slice a n4 c, .int .i64 n5, .int .i64 n6, .int .u64 n7] G → brB (decide (n7 < n)) (cH 90 ⟨[.string s, .int .i64 n3]⟩ G fun v G1 => ∃ n n8 n9, v = .tuple ⟨[.int .u64 n,
 .int .i64 n8, .int .i64 n9]⟩ ∧ cH 90 ⟨[.string s, .int .i64 n8]⟩ G1 fun v G2 => ∃ n10 n11 n12, v = .tuple ⟨[.int .u64 n10, .int .i64 n11, .int .i64 n12]⟩ ∧ ∃ (M : IV), brB (n9 != 0) (R
 (.tuple ⟨[.slice none 0 0, .bool false]⟩) G2) (brB (n12 != 0) (R (.tuple ⟨[.slice none 0 0, .bool false]⟩) G2) (brB (decide (n ≥ 200)) (R (.tuple ⟨[.slice none 0 0, .bool false]⟩) G2) (brB
 (decide (wrap .i64 n ≤ n5)) (R (.tuple ⟨[.slice none 0 0, .bool false]⟩) G2) (brB (decide (n10 > wrap .u64 (↑(s.size) : Int))) (R (.tuple ⟨[.slice none 0 0, .bool
 false]⟩) G2) (M [] G2))))) ∧ ∀ (J : F) (G3 : Heap), M [] G3 → ∀ (b : Nat) (G4 : Heap), New G3 b (.cells ⟨[.int .i64 (wrap .i64 n), .int .i64 n6, .int .i64 (wrap .i64
 (n6 + wrap .i64 n10))]⟩ 151) G4 → SemWp Tryz.prog (Builtin.append_ ⟨[98, 98]⟩ 98 ⟨[.slice a n4 c, .slice (some ⟨b, 0, none⟩) 1 1]⟩) G4 fun v G5 => ∃ a_4 n13 c_1, v = .slice a_4
 n13 c_1 ∧ I [.int .i64 n11, .slice a_4 n13 c_1, .int .i64 (wrap .i64 n), .int .i64 (wrap .i64 (n6 + wrap .i64 n10)), .int .u64 (wrap .u64 (n7 + 1))] G5 ∧ μ
 [.int .i64 n11, .slice a_4 n13 c_1, .int .i64 (wrap .i64 n), .int .i64 (wrap .i64 (n6 + wrap .i64 n10)), .int .u64 (wrap .u64 (n7 + 1))] G5 < μ [.int .i64 n3,
 .slice a n4 c, .int .i64 n5, .int .i64 n6, .int .u64 n7] G) (∃ (I : IV) (μ : MU), I [.int .i64 0] G ∧ ∀ (J : F) (n : Int) (G : Heap), I [.int .i64 n] G → brB (decide (n < (↑n4 : Int))) (ix
 a n n4 fun ad => (∃ n8, lD 3 G (Addr.add (Addr.add ad (Int.toNat n * 3)) 1) (.int .i64 n8) ∧ ix a n n4 fun ad => (∃ G1, sT 3 G (Addr.add (Addr.add ad (Int.toNat n * 3)) 1) (.int .i64
 (wrap .i64 (n8 + n3))) G1 ∧ ix a n n4 fun ad => (∃ n9, lD 3 G1 (Addr.add (Addr.add ad (Int.toNat n * 3)) 2) (.int .i64 n9) ∧ ix a n n4 fun ad => (∃ G2, sT 3 G1 (Addr.add
 (Addr.add ad (Int.toNat n * 3)) 2) (.int .i64 (wrap .i64 (n9 + n3))) G2 ∧ I [.int .i64 (wrap .i64 (n + 1))] G2 ∧ μ [.int .i64 (wrap .i64 (n + 1))] G2 < μ [.int .i64
 n] G))))) (R (.tuple ⟨[.slice a n4 c, .bool (n6 == wrap .i64 ((↑(s.size) : Int) - n3))]⟩) G))) : cH 54 ⟨[.string s]⟩ H R := vc_call (annOf [([1, 1],
 .cut []), ([0, 1, 0, 1, 1, 1, 1, 1], .cut [(5, .one (.int .i64)), (7, .one .slice), (8, .one (.int .i64)), (9, .one (.int .i64)), (29, .one (.int .u64))]), ([1, 1, 0, 0, 1, 1, 0, 0, 1, 0, 1, 1, 1,
 1, 1], .cut []), ([0, 1, 0, 1, 1, 1, 1, 1, 1], .cut [(89, .one (.int .i64))])]) followsAll Tryz.func54 rfl Tryz.ntmps54 rfl rfl (Eq.mpr (by kernel_rfl) h)
theorem vc_major_parts (s : ByteArray) (l_a : Option Addr) (l_n : Nat) (l_c : Nat) (h : ∀ (b : Nat) (G : Heap), New H b (.cells ⟨[.string s]⟩ 9) G → ∀ (b_1 :
 Nat) (G1 : Heap), New G b_1 (.cells ⟨[.slice l_a l_n l_c]⟩ 98) G1 → R (.func (Fn.func 91) ⟨[]⟩ ⟨[.pointer (some ⟨b_1, 0, none⟩), .pointer (some ⟨b, 0, none⟩)]⟩) G1) : cH 55 ⟨[.string s, .slice l_a l_n l_c]⟩ H R := vc_call (annOf []) followsAll Tryz.func55 rfl Tryz.ntmps55 rfl rfl (Eq.mpr (by kernel_rfl) h)
abbrev fn_major_read : Nat := 56
theorem vc_major_read (c : ByteArray) (h : cH 92 ⟨[.string c]⟩ H fun v G => ∃ a n c n1, v = .tuple ⟨[.slice a n c, .int .i64 n1]⟩ ∧ brB (n1 != 0) (R (.tuple
 ⟨[.slice none 0 0, .int .i64 11]⟩) G) (brB ((↑n : Int) == 0) (R (.tuple ⟨[.slice none 0 0, .int .i64 11]⟩) G) (R (.tuple ⟨[.slice a n c, .int .i64 0]⟩) G))) : cH 56 ⟨[.string c]⟩ H R := vc_call (annOf []) followsAll Tryz.func56 rfl Tryz.ntmps56 rfl rfl (Eq.mpr (by kernel_rfl) h)
abbrev fn_series_merge_api_Row_ : Nat := 57
theorem vc_series_merge_api_Row_ (a_a : Option Addr) (a_n : Nat) (a_c : Nat) (b_a : Option Addr) (b_n : Nat) (b_c : Nat) (order : Value) (h : SemWp Tryz.prog
 (Instr.makeSlice 22 (.int .i64 0) (.int .i64 (wrap .i64 ((↑a_n : Int) + (↑b_n : Int))))) H fun v G => ∃ a n c, v = .slice a n c ∧ ∃ (I : IV) (μ : MU), I [.slice a_a a_n a_c, .slice b_a b_n
 b_c, .slice a n c] G ∧ ∀ (J : F) (a : Option Addr) (n c : Nat) (a_1 : Option Addr) (n1 c_1 : Nat) (a_2 : Option Addr) (n2 c_2 : Nat) (G : Heap), I [.slice a n c, .slice a_1 n1 c_1, .slice a_2
 n2 c_2] G → ∃ (M : IV), brB (decide ((↑n : Int) > 0)) (brB (decide ((↑n1 : Int) > 0)) (M [] G) (SemWp Tryz.prog (Builtin.append_ ⟨[22, 22]⟩ 22 ⟨[.slice a_2 n2 c_2, .slice a n c]⟩) G fun v G
 => ∃ a n c, v = .slice a n c ∧ SemWp Tryz.prog (Builtin.append_ ⟨[22, 22]⟩ 22 ⟨[.slice a n c, .slice a_1 n1 c_1]⟩) G fun v G => ∃ a n c, v = .slice a n c ∧ R (.slice a n c) G)) (SemWp Tryz.prog
 (Builtin.append_ ⟨[22, 22]⟩ 22 ⟨[.slice a_2 n2 c_2, .slice a n c]⟩) G fun v G => ∃ a n c, v = .slice a n c ∧ SemWp Tryz.prog (Builtin.append_ ⟨[22, 22]⟩ 22 ⟨[.slice a n c, .slice a_1 n1 c_1]⟩)
 G fun v G => ∃ a n c, v = .slice a n c ∧ R (.slice a n c) G) ∧ ∀ (J : F) (G1 : Heap), M [] G1 → ix a (0) n fun ad => (∃ n3 n4 n5, lD 26 G1 ad (.agg ⟨[.int .i64 n3, .int .i64 n4, .int
 .i64 n5]⟩) ∧ ix a_1 (0) n1 fun ad => (∃ n6 n7 n8, lD 26 G1 ad (.agg ⟨[.int .i64 n6, .int .i64 n7, .int .i64 n8]⟩) ∧ CallV Tryz.prog order [.agg ⟨[.int .i64 n3, .int .i64 n4, .int .i64
 n5]⟩, .agg ⟨[.int .i64 n6, .int .i64 n7, .int .i64 n8]⟩] G1 fun v G2 => ∃ n9, v = .int .i64 n9 ∧ brB (decide (n9 < 0)) (ix a (0) n fun ad => (∃ n10 n11 n12, lD 26 G2 ad (.agg ⟨[.int
 .i64 n10, .int .i64 n11, .int .i64 n12]⟩) ∧ chk (decide ((0 : Int) ≤ (1 : Int) ∧ 1 ≤ (↑n : Int) ∧ (↑n : Int) ≤ (↑c : Int))) (∀ (b : Nat) (G3 : Heap), New G2 b (.cells ⟨[.int .i64 n10, .int
 .i64 n11, .int .i64 n12]⟩ 26) G3 → SemWp Tryz.prog (Builtin.append_ ⟨[22, 22]⟩ 22 ⟨[.slice a_2 n2 c_2, .slice (some ⟨b, 0, none⟩) 1 1]⟩) G3 fun v G4 => ∃ a_6 n13 c_3, v = .slice a_6 n13
 c_3 ∧ I [.slice (slA c 1 3 a) (Int.toNat (↑n : Int) - 1) (c - 1), .slice a_1 n1 c_1, .slice a_6 n13 c_3] G4 ∧ μ [.slice (slA c 1 3 a) (Int.toNat (↑n : Int) - 1) (c - 1), .slice a_1 n1 c_1,
 .slice a_6 n13 c_3] G4 < μ [.slice a n c, .slice a_1 n1 c_1, .slice a_2 n2 c_2] G))) (brB (n9 == 0) (chk (decide ((0 : Int) ≤ (1 : Int) ∧ 1 ≤ (↑n : Int) ∧ (↑n : Int) ≤ (↑c : Int))) (ix a_1
 (0) n1 fun ad => (∃ n10 n11 n12, lD 26 G2 ad (.agg ⟨[.int .i64 n10, .int .i64 n11, .int .i64 n12]⟩) ∧ chk (decide ((0 : Int) ≤ (1 : Int) ∧ 1 ≤ (↑n1 : Int) ∧ (↑n1 : Int) ≤ (↑c_1 : Int)))
 (∀ (b : Nat) (G3 : Heap), New G2 b (.cells ⟨[.int .i64 n10, .int .i64 n11, .int .i64 n12]⟩ 26) G3 → SemWp Tryz.prog (Builtin.append_ ⟨[22, 22]⟩ 22 ⟨[.slice a_2 n2 c_2, .slice (some ⟨b, 0,
 none⟩) 1 1]⟩) G3 fun v G4 => ∃ a_6 n13 c_3, v = .slice a_6 n13 c_3 ∧ I [.slice (slA c 1 3 a) (Int.toNat (↑n : Int) - 1) (c - 1), .slice (slA c_1 1 3 a_1) (Int.toNat (↑n1 : Int) - 1) (c_1 -
 1), .slice a_6 n13 c_3] G4 ∧ μ [.slice (slA c 1 3 a) (Int.toNat (↑n : Int) - 1) (c - 1), .slice (slA c_1 1 3 a_1) (Int.toNat (↑n1 : Int) - 1) (c_1 - 1), .slice a_6 n13 c_3] G4 < μ [.slice a n
 c, .slice a_1 n1 c_1, .slice a_2 n2 c_2] G)))) (ix a_1 (0) n1 fun ad => (∃ n10 n11 n12, lD 26 G2 ad (.agg ⟨[.int .i64 n10, .int .i64 n11, .int .i64 n12]⟩) ∧ chk (decide ((0 : Int) ≤ (1 :
 Int) ∧ 1 ≤ (↑n1 : Int) ∧ (↑n1 : Int) ≤ (↑c_1 : Int))) (∀ (b : Nat) (G3 : Heap), New G2 b (.cells ⟨[.int .i64 n10, .int .i64 n11, .int .i64 n12]⟩ 26) G3 → SemWp Tryz.prog (Builtin.append_
 ⟨[22, 22]⟩ 22 ⟨[.slice a_2 n2 c_2, .slice (some ⟨b, 0, none⟩) 1 1]⟩) G3 fun v G4 => ∃ a_6 n13 c_3, v = .slice a_6 n13 c_3 ∧ I [.slice a n c, .slice (slA c_1 1 3 a_1) (Int.toNat (↑n1 : Int) -
 1) (c_1 - 1), .slice a_6 n13 c_3] G4 ∧ μ [.slice a n c, .slice (slA c_1 1 3 a_1) (Int.toNat (↑n1 : Int) - 1) (c_1 - 1), .slice a_6 n13 c_3] G4 < μ [.slice a n c, .slice a_1 n1 c_1, .slice
 a_2 n2 c_2] G))))))) : cH 57 ⟨[.slice a_a a_n a_c, .slice b_a b_n b_c, order]⟩ H R := vc_call (annOf [([0, 0, 1, 1], .cut [(0, .one .slice), (1, .one .slice), (7, .one
 .slice)]), ([0, 0, 0, 1, 1], .cut []), ([0, 0, 1, 0, 0, 0, 1, 1], .tail 7), ([0, 0, 1, 0, 1, 0, 1, 0, 0, 0, 1, 1], .reg [0, 0, 2, 6, 14, 31, 0, 64, 63, 511] (.quiet 0 (.quiet 1 (.quiet 2 (.quiet 3
 (.quiet 6 (.quiet 7 (.pick (.alt 4 (.pick (.alt 5 (.quiet 8 (.quiet 9 .done)) .stop)) .stop))))))))), ([1, 1, 1, 0, 1, 0, 0, 0, 1, 1], .reg [0, 0, 2, 6, 14, 31, 0, 64, 63, 511] (.quiet 0 (.quiet 1
 (.quiet 2 (.quiet 3 (.quiet 6 (.quiet 7 (.pick (.alt 4 (.pick (.alt 5 (.quiet 8 (.quiet 9 .done)) .stop)) .stop)))))))))]) followsAll Tryz.func57 rfl Tryz.ntmps57 rfl rfl (Eq.mpr (by kernel_rfl) h)
abbrev fn_series_byRow : Nat := 58
theorem vc_series_byRow (x_0 : Int) (x_1 : Int) (x_2 : Int) (y_0 : Int) (y_1 : Int) (y_2 : Int) (h : ∀ (b : Nat) (G : Heap), New H b (.cells ⟨[.int .i64 x_0,
 .int .i64 x_1, .int .i64 x_2]⟩ 26) G → ∀ (b_1 : Nat) (G1 : Heap), New G b_1 (.cells ⟨[.int .i64 y_0, .int .i64 y_1, .int .i64 y_2]⟩ 26) G1 → ∃ n, lD 3 G1 ⟨b, 0, none⟩ (.int .i64 n) ∧ ∃ n1,
 lD 3 G1 ⟨b_1, 0, none⟩ (.int .i64 n1) ∧ ∃ n2, lD 3 G1 ⟨b, 1, none⟩ (.int .i64 n2) ∧ ∃ n3, lD 3 G1 ⟨b_1, 1, none⟩ (.int .i64 n3) ∧ cI 76 [.int .i64 n, .int .i64 n1] G1 fun n G => lD 3
 G ⟨b_1, 1, none⟩ (.int .i64 n3) ∧ lD 3 G ⟨b, 1, none⟩ (.int .i64 n2) ∧ cI 76 [.int .i64 n2, .int .i64 n3] G fun n4 G => ∀ (b : Nat) (G2 : Heap), New G b (.cells ⟨[.int .i64 n, .int .i64
 n4]⟩ 3) G2 → cI 93 [.slice (some ⟨b, 0, none⟩) 2 2] G2 fun n G => R (.int .i64 n) G) : CallH Tryz.prog 58 (List.toArray [.agg #[.int .i64 x_0, .int .i64 x_1, .int .i64 x_2], .agg #[.int .i64
 y_0, .int .i64 y_1, .int .i64 y_2]]) H R := vc_call (annOf [([0, 1], .reg [0, 1, 0, 4, 15, 0, 32, 0, 128, 511, 1023, 2047, 4095] (.quiet 0 (.quiet 1 (.quiet 2 (.quiet 3 (.quiet 5 (.quiet 6 (.quiet 7
 (.quiet 8 (.pick (.alt 4 (.pick (.alt 9 (.pick (.alt 10 (.pick (.alt 11 (.quiet 12 .done) .stop)) .stop)) .stop)) .stop)))))))))))]) followsAll Tryz.func58 rfl Tryz.ntmps58 rfl rfl (Eq.mpr (by
 kernel_rfl) h)
abbrev fn_runs_Between : Nat := 59
theorem vc_runs_Between (s : ByteArray) (r_0 : Int) (r_1 : Int) (h : ∀ (b : Nat) (G : Heap), New H b (.cells ⟨[.int .i64 r_0, .int .i64 r_1]⟩ 112) G → cH 94
 ⟨[.string s]⟩ G fun v G => ∃ a n c b_1, v = .tuple ⟨[.slice a n c, .bool b_1]⟩ ∧ brB (!b_1) (R (.tuple ⟨[.slice none 0 0, .int .i64 11]⟩) G) (∃ (I : IV) (μ : MU), I [.slice none 0 0, .int .i64 0]
 G ∧ ∀ (J : F) (a_1 : Option Addr) (n1 c : Nat) (n2 : Int) (G : Heap), I [.slice a_1 n1 c, .int .i64 n2] G → brB (decide (n2 < (↑n : Int))) (ix a n2 n fun ad => (∃ n n3 n4 s, lD 158 G
 (Addr.add ad (Int.toNat n2 * 4)) (.agg ⟨[.int .i64 n, .int .i64 n3, .int .i64 n4, .string s]⟩) ∧ ∀ (b_2 : Nat) (G1 : Heap), New G b_2 (.cells ⟨[.int .i64 0, .int .i64 0, .int .i64 0, .string {
 data := #[] }]⟩ 158) G1 → ∃ G2, sT 158 G1 ⟨b_2, 0, none⟩ (.agg ⟨[.int .i64 n, .int .i64 n3, .int .i64 n4, .string s]⟩) G2 ∧ ∃ n n5 n6 s, lD 158 G2 ⟨b_2, 0, none⟩ (.agg ⟨[.int .i64 n,
 .int .i64 n5, .int .i64 n6, .string s]⟩) ∧ ∃ n7 n8, lD 112 G2 ⟨b, 0, none⟩ (.agg ⟨[.int .i64 n7, .int .i64 n8]⟩) ∧ cB 95 [.agg ⟨[.int .i64 n, .int .i64 n5, .int .i64 n6, .string s]⟩, .agg
 ⟨[.int .i64 n7, .int .i64 n8]⟩] G2 fun b_3 G3 => brB (!b_3) (I [.slice a_1 n1 c, .int .i64 (wrap .i64 (n2 + 1))] G3 ∧ μ [.slice a_1 n1 c, .int .i64 (wrap .i64 (n2 + 1))]
 G3 < μ [.slice a_1 n1 c, .int .i64 n2] G) (∃ n n9 n10 s, lD 158 G3 ⟨b_2, 0, none⟩ (.agg ⟨[.int .i64 n, .int .i64 n9, .int .i64 n10, .string s]⟩) ∧ cH 96 ⟨[.agg ⟨[.int .i64 n, .int .i64
 n9, .int .i64 n10, .string s]⟩]⟩ G3 fun v G4 => ∃ a n c_1 b_4, v = .tuple ⟨[.slice a n c_1, .bool b_4]⟩ ∧ brB (!b_4) (R (.tuple ⟨[.slice none 0 0, .int .i64 11]⟩) G4) (cL 97 [.slice a n c_1,
 .func (Fn.func 98) ⟨[]⟩ ⟨[.pointer (some ⟨b, 0, none⟩)]⟩] G4 fun a n c_2 G5 => SemWp Tryz.prog (Builtin.append_ ⟨[22, 22]⟩ 22 ⟨[.slice a_1 n1 c, .slice a n c_2]⟩) G5 fun v G6 => ∃ a n c_3,
 v = .slice a n c_3 ∧ I [.slice a n c_3, .int .i64 (wrap .i64 (n2 + 1))] G6 ∧ μ [.slice a n c_3, .int .i64 (wrap .i64 (n2 + 1))] G6 < μ [.slice a_1 n1 c, .int .i64 n2] G))))
 (R (.tuple ⟨[.slice a_1 n1 c, .int .i64 0]⟩) G))) : CallH Tryz.prog 59 (List.toArray [.string s, .agg #[.int .i64 r_0, .int .i64 r_1]]) H R := vc_call (annOf [([0, 1, 0, 1, 1, 1, 1], .cut [(8,
 .one .slice), (22, .one (.int .i64))])]) followsAll Tryz.func59 rfl Tryz.ntmps59 rfl rfl (Eq.mpr (by kernel_rfl) h)
abbrev fn_ref15_table : Nat := 60
theorem vc_ref15_table (s : ByteArray) (h : cH 99 ⟨[.string s, .int .i64 0]⟩ H fun v G => ∃ n n1 n2, v = .tuple ⟨[.int .u64 n, .int .i64 n1, .int .i64 n2]⟩
 ∧ ∃ (M : IV), brB (n2 != 0) (R (.tuple ⟨[.slice none 0 0, .slice none 0 0, .bool false]⟩) G) (brB (decide (n > 200)) (R (.tuple ⟨[.slice none 0 0, .slice none 0 0, .bool false]⟩) G) (M [] G)) ∧
 ∀ (J : F) (G : Heap), M [] G → ∀ (b : Nat) (G1 : Heap), New G b (.cells ⟨[]⟩ 3) G1 → ∀ (b_1 : Nat) (G : Heap), New G1 b_1 (.cells ⟨[]⟩ 3) G → ∃ (I : IV) (μ : MU), I [.int .i64 n1, .slice
 (some ⟨b, 0, none⟩) 0 0, .slice (some ⟨b_1, 0, none⟩) 0 0, .int .i64 0, .int .u64 0] G ∧ ∀ (J : F) (n3 : Int) (a : Option Addr) (n4 c : Nat) (a_1 : Option Addr) (n5 c_1 : Nat) (n6 n7 : Int)
 (G : Heap), I [.int .i64 n3, .slice a n4 c, .slice a_1 n5 c_1, .int .i64 n6, .int .u64 n7] G → brB (decide (n7 < n)) (∃ (M : IV), (cH 99 ⟨[.string s, .int .i64 n3]⟩ G fun v G => ∃ n n8
 n9, v = .tuple ⟨[.int .u64 n, .int .i64 n8, .int .i64 n9]⟩ ∧ cH 99 ⟨[.string s, .int .i64 n8]⟩ G fun v G => ∃ n10 n11 n12, v = .tuple ⟨[.int .u64 n10, .int .i64 n11, .int .i64 n12]⟩ ∧ ∃
 (M_1 : IV), (∃ (M : IV), brB (n9 != 0) (M [.bool true] G) (brB (n12 != 0) (M [.bool true] G) (brB (decide (n ≥ 200)) (M [.bool true] G) (brB (decide ((↑n4 : Int) > 0)) (ix a (wrap .i64
 ((↑n4 : Int) - 1)) n4 fun ad => (∃ n13, lD 3 G (Addr.add ad (Int.toNat (wrap .i64 ((↑n4 : Int) - 1)) * 1)) (.int .i64 n13) ∧ brB (decide (wrap .i64 n ≤ n13)) (M [.bool true]
 G) (M [.bool (decide (n10 > wrap .u64 (↑(s.size) : Int)))] G))) (M [.bool (decide (n10 > wrap .u64 (↑(s.size) : Int)))] G)))) ∧ ∀ (J : F) (b : Bool) (G :
 Heap), M [.bool b] G → brB b (R (.tuple ⟨[.slice none 0 0, .slice none 0 0, .bool false]⟩) G) (M_1 [] G)) ∧ ∀ (J : F) (G : Heap), M_1 [] G → ∀ (b : Nat) (G2 : Heap), New G b (.cells ⟨[.int
 .i64 (wrap .i64 n)]⟩ 3) G2 → SemWp Tryz.prog (Builtin.append_ ⟨[24, 24]⟩ 24 ⟨[.slice a n4 c, .slice (some ⟨b, 0, none⟩) 1 1]⟩) G2 fun v G => ∃ a n c, v = .slice a n c ∧ ∀ (b : Nat)
 (G3 : Heap), New G b (.cells ⟨[.int .i64 (wrap .i64 n10)]⟩ 3) G3 → SemWp Tryz.prog (Builtin.append_ ⟨[24, 24]⟩ 24 ⟨[.slice a_1 n5 c_1, .slice (some ⟨b, 0, none⟩) 1 1]⟩) G3 fun v G
 => ∃ a_6 n13 c_2, v = .slice a_6 n13 c_2 ∧ M [.int .i64 n11, .slice a n c, .slice a_6 n13 c_2, .int .i64 (wrap .i64 (n6 + wrap .i64 n10))] G) ∧ ∀ (J : F) (n : Int) (a_3 :
 Option Addr) (n8 c_2 : Nat) (a_4 : Option Addr) (n9 c_3 : Nat) (n10 : Int) (G2 : Heap), M [.int .i64 n, .slice a_3 n8 c_2, .slice a_4 n9 c_3, .int .i64 n10] G2 → I [.int .i64 n, .slice a_3
 n8 c_2, .slice a_4 n9 c_3, .int .i64 n10, .int .u64 (wrap .u64 (n7 + 1))] G2 ∧ μ [.int .i64 n, .slice a_3 n8 c_2, .slice a_4 n9 c_3, .int .i64 n10, .int .u64 (wrap .u64 (n7
 + 1))] G2 < μ [.int .i64 n3, .slice a n4 c, .slice a_1 n5 c_1, .int .i64 n6, .int .u64 n7] G) (brB (n6 != wrap .i64 ((↑(s.size) : Int) - n3)) (R (.tuple ⟨[.slice none 0
 0, .slice none 0 0, .bool false]⟩) G) (∀ (b : Nat) (G2 : Heap), New G b (.cells ⟨[]⟩ 9) G2 → ∃ (I : IV) (μ : MU), I [.int .i64 n3, .slice (some ⟨b, 0, none⟩) 0 0, .int .i64 0] G2 ∧ ∀ (J :
 F) (n : Int) (a_4 : Option Addr) (n8 c_2 : Nat) (n9 : Int) (G : Heap), I [.int .i64 n, .slice a_4 n8 c_2, .int .i64 n9] G → brB (decide (n9 < (↑n5 : Int))) (ix a_1 n9 n5 fun ad => (∃ n10,
 lD 3 G (Addr.add ad (Int.toNat n9 * 1)) (.int .i64 n10) ∧ chk (decide (0 ≤ n ∧ n ≤ wrap .i64 (n + n10) ∧ wrap .i64 (n + n10) ≤ (↑(s.size) : Int))) (∀ (b : Nat) (G3 :
 Heap), New G b (.cells ⟨[.string (ByteArray.extract s (Int.toNat n) (Int.toNat (wrap .i64 (n + n10))))]⟩ 9) G3 → SemWp Tryz.prog (Builtin.append_ ⟨[113, 113]⟩ 113 ⟨[.slice a_4 n8 c_2,
 .slice (some ⟨b, 0, none⟩) 1 1]⟩) G3 fun v G4 => ∃ a n11 c, v = .slice a n11 c ∧ ix a_1 n9 n5 fun ad => (∃ n12, lD 3 G4 (Addr.add ad (Int.toNat n9 * 1)) (.int .i64 n12) ∧ I [.int .i64
 (wrap .i64 (n + n12)), .slice a n11 c, .int .i64 (wrap .i64 (n9 + 1))] G4 ∧ μ [.int .i64 (wrap .i64 (n + n12)), .slice a n11 c, .int .i64 (wrap .i64 (n9 +
 1))] G4 < μ [.int .i64 n, .slice a_4 n8 c_2, .int .i64 n9] G)))) (R (.tuple ⟨[.slice a n4 c, .slice a_4 n8 c_2, .bool true]⟩) G)))) : cH 60 ⟨[.string s]⟩ H R :=
 vc_call (annOf [([1, 1], .cut []), ([0, 1, 0, 1, 1, 1, 1, 1, 1], .cut [(6, .one (.int .i64)), (8, .one .slice), (9, .one .slice), (10, .one (.int .i64)), (11, .one (.int .u64))]), ([1, 0, 0, 1, 0,
 1, 1, 1, 1, 1, 1], .cut [(6, .one (.int .i64)), (8, .one .slice), (9, .one .slice), (10, .one (.int .i64))]), ([1, 1, 0, 0, 1, 0, 0, 1, 0, 1, 1, 1, 1, 1, 1], .cut []), ([0, 1, 1, 0, 0, 1, 0, 0, 1,
 0, 1, 1, 1, 1, 1, 1], .cut [(85, .one .bool)]), ([0, 1, 0, 1, 1, 1, 1, 1, 1, 1, 1, 1], .cut [(6, .one (.int .i64)), (18, .one .slice), (19, .one (.int .i64))])]) followsAll Tryz.func60 rfl
 Tryz.ntmps60 rfl rfl (Eq.mpr (by kernel_rfl) h)
abbrev fn_ref15_Find : Nat := 61
theorem vc_ref15_Find (s : ByteArray) (id : Int) (h : cH 60 ⟨[.string s]⟩ H fun v G => ∃ a n c a_1 n1 c_1 b, v = .tuple ⟨[.slice a n c, .slice a_1 n1 c_1,
 .bool b]⟩ ∧ brB (!b) (R (.tuple ⟨[.slice none 0 0, .int .i64 11]⟩) G) (∃ (I : IV) (μ : MU), I [.int .i64 0] G ∧ ∀ (J : F) (n2 : Int) (G : Heap), I [.int .i64 n2] G → brB (decide (n2 < (↑n :
 Int))) (ix a n2 n fun ad => (∃ n, lD 3 G (Addr.add ad (Int.toNat n2 * 1)) (.int .i64 n) ∧ brB (n == id) (ix a_1 n2 n1 fun ad => (∃ s, lD 9 G (Addr.add ad (Int.toNat n2 * 1)) (.string s) ∧ cH
 100 ⟨[.string s]⟩ G fun v G => ∃ a n c n3, v = .tuple ⟨[.slice a n c, .int .i64 n3]⟩ ∧ brB (n3 != 0) (R (.tuple ⟨[.slice none 0 0, .int .i64 11]⟩) G) (brB ((↑n : Int) == 0) (R (.tuple ⟨[.slice
 none 0 0, .int .i64 11]⟩) G) (R (.tuple ⟨[.slice a n c, .int .i64 0]⟩) G)))) (I [.int .i64 (wrap .i64 (n2 + 1))] G ∧ μ [.int .i64 (wrap .i64 (n2 + 1))] G < μ [.int .i64 n2]
 G))) (R (.tuple ⟨[.slice none 0 0, .int .i64 3]⟩) G))) : cH 61 ⟨[.string s, .int .i64 id]⟩ H R := vc_call (annOf [([0, 1, 0, 1, 1, 1], .cut [(9, .one (.int .i64))])])
 followsAll Tryz.func61 rfl Tryz.ntmps61 rfl rfl (Eq.mpr (by kernel_rfl) h)
abbrev fn_ref16_Between : Nat := 62
theorem vc_ref16_Between (s : ByteArray) (r_0 : Int) (r_1 : Int) (h : ∀ (b : Nat) (G : Heap), New H b (.cells ⟨[.int .i64 r_0, .int .i64 r_1]⟩ 112) G → cH 63
 ⟨[.string s]⟩ G fun v G => ∃ a n c a_1 n1 c_1 a_2 n2 c_2 b_1, v = .tuple ⟨[.slice a n c, .slice a_1 n1 c_1, .slice a_2 n2 c_2, .bool b_1]⟩ ∧ brB (!b_1) (R (.tuple ⟨[.slice none 0 0, .int .i64
 11]⟩) G) (∀ (b_2 : Nat) (G1 : Heap), New G b_2 (.cells ⟨[]⟩ 26) G1 → ∃ (I : IV) (μ : MU), I [.slice (some ⟨b_2, 0, none⟩) 0 0, .int .i64 0] G1 ∧ ∀ (J : F) (a_4 : Option Addr) (n3 c : Nat)
 (n4 : Int) (G : Heap), I [.slice a_4 n3 c, .int .i64 n4] G → brB (decide (n4 < (↑n : Int))) (ix a n4 n fun ad => (∃ n5, lD 3 G (Addr.add ad (Int.toNat n4 * 2)) (.int .i64 n5) ∧ ∃ n6, lD
 3 G ⟨b, 0, none⟩ (.int .i64 n6) ∧ ix a n4 n fun ad => (∃ n7, lD 3 G (Addr.add (Addr.add ad (Int.toNat n4 * 2)) 1) (.int .i64 n7) ∧ ∃ n8, lD 3 G ⟨b, 1, none⟩ (.int .i64 n8) ∧ brB (decide
 ((if n6 > n5 then n6 else n5) ≥ if n8 < n7 then n8 else n7)) (I [.slice a_4 n3 c, .int .i64 (wrap .i64 (n4 + 1))] G ∧ μ [.slice a_4 n3 c, .int .i64 (wrap .i64 (n4 + 1))]
 G < μ [.slice a_4 n3 c, .int .i64 n4] G) (ix a_1 n4 n1 fun ad => (∃ s, lD 9 G (Addr.add ad (Int.toNat n4 * 1)) (.string s) ∧ ix a n4 n fun ad => (∃ n n9, lD 112 G (Addr.add ad (Int.toNat
 n4 * 2)) (.agg ⟨[.int .i64 n, .int .i64 n9]⟩) ∧ ix a_2 n4 n2 fun ad => (∃ n10, lD 3 G (Addr.add ad (Int.toNat n4 * 1)) (.int .i64 n10) ∧ cH 101 ⟨[.string s, .agg ⟨[.int .i64 n, .int .i64
 n9]⟩, .int .i64 n10]⟩ G fun v G2 => ∃ a n c_3 b_3, v = .tuple ⟨[.slice a n c_3, .bool b_3]⟩ ∧ brB (!b_3) (R (.tuple ⟨[.slice none 0 0, .int .i64 11]⟩) G2) (∃ (I_1 : IV) (μ_1 : MU), I_1
 [.slice a_4 n3 c, .int .i64 0] G2 ∧ ∀ (J : F) (a_6 : Option Addr) (n11 c_4 : Nat) (n12 : Int) (G3 : Heap), I_1 [.slice a_6 n11 c_4, .int .i64 n12] G3 → brB (decide (n12 < (↑n : Int))) (∃
 (M : IV), (∃ (M_1 : IV), (∃ n13, lD 3 G3 ⟨b, 0, none⟩ (.int .i64 n13) ∧ ix a n12 n fun ad => (∃ n14, lD 3 G3 (Addr.add ad (Int.toNat n12 * 3)) (.int .i64 n14) ∧ brB (decide (n13 ≤ n14))
 (ix a n12 n fun ad => (∃ n, lD 3 G3 (Addr.add ad (Int.toNat n12 * 3)) (.int .i64 n) ∧ ∃ n15, lD 3 G3 ⟨b, 1, none⟩ (.int .i64 n15) ∧ M_1 [.bool (decide (n < n15))] G3)) (M_1 [.bool false]
 G3))) ∧ ∀ (J : F) (b : Bool) (G : Heap), M_1 [.bool b] G → brB b (ix a n12 n fun ad => (∃ n n13 n14, lD 26 G (Addr.add ad (Int.toNat n12 * 3)) (.agg ⟨[.int .i64 n, .int .i64 n13, .int .i64
 n14]⟩) ∧ ∀ (b : Nat) (G4 : Heap), New G b (.cells ⟨[.int .i64 n, .int .i64 n13, .int .i64 n14]⟩ 26) G4 → SemWp Tryz.prog (Builtin.append_ ⟨[22, 22]⟩ 22 ⟨[.slice a_6 n11 c_4, .slice (some
 ⟨b, 0, none⟩) 1 1]⟩) G4 fun v G => ∃ a n c, v = .slice a n c ∧ M [.slice a n c] G)) (M [.slice a_6 n11 c_4] G)) ∧ ∀ (J : F) (a : Option Addr) (n c : Nat) (G : Heap), M [.slice a n c] G → I_1
 [.slice a n c, .int .i64 (wrap .i64 (n12 + 1))] G ∧ μ_1 [.slice a n c, .int .i64 (wrap .i64 (n12 + 1))] G < μ_1 [.slice a_6 n11 c_4, .int .i64 n12] G3) (I [.slice a_6 n11
 c_4, .int .i64 (wrap .i64 (n4 + 1))] G3 ∧ μ [.slice a_6 n11 c_4, .int .i64 (wrap .i64 (n4 + 1))] G3 < μ [.slice a_4 n3 c, .int .i64 n4] G))))))))) (R (.tuple ⟨[.slice a_4
 n3 c, .int .i64 0]⟩) G))) : CallH Tryz.prog 62 (List.toArray [.string s, .agg #[.int .i64 r_0, .int .i64 r_1]]) H R := vc_call (annOf [([0, 1, 0, 1, 1, 1, 1], .cut [(10, .one .slice), (11, .one
 (.int .i64))]), ([0, 1, 0, 0, 1, 0, 0, 1, 0, 1, 1, 1, 1], .reg [0, 0, 3, 7, 0, 0, 48, 112, 0, 0, 768, 1792, 4095, 8191, 16383, 16383, 32767, 131071] (.quiet 0 (.quiet 1 (.quiet 2 (.quiet 3 (.quiet 4
 (.quiet 5 (.quiet 6 (.quiet 7 (.quiet 8 (.quiet 9 (.quiet 10 (.quiet 11 (.pick (.alt 12 (.quiet 13 (.quiet 14 (.quiet 15 (.quiet 16 (.quiet 17 .done))))) .stop))))))))))))))), ([0, 1, 1, 1, 1, 0, 0,
 1, 0, 0, 1, 0, 1, 1, 1, 1], .cut [(10, .one .slice), (14, .one (.int .i64))]), ([1, 0, 0, 1, 1, 1, 1, 0, 0, 1, 0, 0, 1, 0, 1, 1, 1, 1], .cut [(10, .one .slice)]), ([0, 0, 1, 0, 0, 1, 1, 1, 1, 0, 0,
 1, 0, 0, 1, 0, 1, 1, 1, 1], .cut [(89, .one .bool)])]) followsAll Tryz.func62 rfl Tryz.ntmps62 rfl rfl (Eq.mpr (by kernel_rfl) h)
abbrev fn_ref16_fences : Nat := 63
theorem vc_ref16_fences (s : ByteArray) (h : cH 99 ⟨[.string s, .int .i64 0]⟩ H fun v G => ∃ n n1 n2, v = .tuple ⟨[.int .u64 n, .int .i64 n1, .int .i64 n2]⟩
 ∧ ∃ (M : IV), brB (n2 != 0) (R (.tuple ⟨[.slice none 0 0, .slice none 0 0, .slice none 0 0, .bool false]⟩) G) (brB (decide (n > 5000)) (R (.tuple ⟨[.slice none 0 0, .slice none 0 0, .slice none 0
 0, .bool false]⟩) G) (M [] G)) ∧ ∀ (J : F) (G : Heap), M [] G → ∀ (b : Nat) (G1 : Heap), New G b (.cells ⟨[]⟩ 112) G1 → ∀ (b_1 : Nat) (G : Heap), New G1 b_1 (.cells ⟨[]⟩ 3) G → ∀ (b_2 :
 Nat) (G2 : Heap), New G b_2 (.cells ⟨[]⟩ 3) G2 → ∃ (I : IV) (μ : MU), I [.int .i64 n1, .slice (some ⟨b, 0, none⟩) 0 0, .slice (some ⟨b_1, 0, none⟩) 0 0, .slice (some ⟨b_2, 0, none⟩) 0 0, .int
 .i64 0, .int .i64 (wrap .i64 n)] G2 ∧ ∀ (J : F) (n : Int) (a : Option Addr) (n3 c : Nat) (a_1 : Option Addr) (n4 c_1 : Nat) (a_2 : Option Addr) (n5 c_2 : Nat) (n6 n7 : Int) (G :
 Heap), I [.int .i64 n, .slice a n3 c, .slice a_1 n4 c_1, .slice a_2 n5 c_2, .int .i64 n6, .int .i64 n7] G → brB (decide (n7 > 0)) (∃ (M : IV), (cH 99 ⟨[.string s, .int .i64 n]⟩ G fun v G =>
 ∃ n n8 n9, v = .tuple ⟨[.int .u64 n, .int .i64 n8, .int .i64 n9]⟩ ∧ cH 99 ⟨[.string s, .int .i64 n8]⟩ G fun v G => ∃ n10 n11 n12, v = .tuple ⟨[.int .u64 n10, .int .i64 n11, .int .i64
 n12]⟩ ∧ cH 99 ⟨[.string s, .int .i64 n11]⟩ G fun v G => ∃ n13 n14 n15, v = .tuple ⟨[.int .u64 n13, .int .i64 n14, .int .i64 n15]⟩ ∧ ∃ (M_1 : IV), (∃ (M : IV), brB (n9 != 0) (M [.bool
 true] G) (brB (n12 != 0) (M [.bool true] G) (brB (n15 != 0) (M [.bool true] G) (brB (decide (n ≥ 1099511627776)) (M [.bool true] G) (brB (decide (n10 ≥ 1099511627776)) (M [.bool true] G)
 (brB (decide (wrap .u64 (n + n10) ≥ 1099511627776)) (M [.bool true] G) (M [.bool (decide (n13 > wrap .u64 (↑(s.size) : Int)))] G)))))) ∧ ∀ (J : F) (b : Bool) (G :
 Heap), M [.bool b] G → brB b (R (.tuple ⟨[.slice none 0 0, .slice none 0 0, .slice none 0 0, .bool false]⟩) G) (M_1 [] G)) ∧ ∀ (J : F) (G : Heap), M_1 [] G → ∃ (M_2 : IV), (∃ (M : IV), brB
 (decide ((↑n3 : Int) > 0)) (ix a (wrap .i64 ((↑n3 : Int) - 1)) n3 fun ad => (∃ n16, lD 3 G (Addr.add (Addr.add ad (Int.toNat (wrap .i64 ((↑n3 : Int) - 1)) * 2)) 1) (.int .i64
 n16) ∧ M [.bool (decide (wrap .i64 n < wrap .i64 (n16 - 1)))] G)) (M [.bool false] G) ∧ ∀ (J : F) (b : Bool) (G : Heap), M [.bool b] G → brB b (R (.tuple ⟨[.slice none 0 0,
 .slice none 0 0, .slice none 0 0, .bool false]⟩) G) (M_2 [] G)) ∧ ∀ (J : F) (G : Heap), M_2 [] G → ∀ (b : Nat) (G3 : Heap), New G b (.cells ⟨[.int .i64 (wrap .i64 n), .int .i64
 (wrap .i64 (wrap .i64 (wrap .u64 (n + n10)) + 1))]⟩ 112) G3 → SemWp Tryz.prog (Builtin.append_ ⟨[68, 68]⟩ 68 ⟨[.slice a n3 c, .slice (some ⟨b, 0, none⟩) 1 1]⟩) G3 fun v
 G => ∃ a n c, v = .slice a n c ∧ ∀ (b : Nat) (G4 : Heap), New G b (.cells ⟨[.int .i64 (wrap .i64 n13)]⟩ 3) G4 → SemWp Tryz.prog (Builtin.append_ ⟨[24, 24]⟩ 24 ⟨[.slice a_1 n4 c_1,
 .slice (some ⟨b, 0, none⟩) 1 1]⟩) G4 fun v G => ∃ a_8 n16 c_3, v = .slice a_8 n16 c_3 ∧ ∀ (b : Nat) (G5 : Heap), New G b (.cells ⟨[.int .i64 (if 16 < n7 then 16 else n7)]⟩ 3) G5 → SemWp
 Tryz.prog (Builtin.append_ ⟨[24, 24]⟩ 24 ⟨[.slice a_2 n5 c_2, .slice (some ⟨b, 0, none⟩) 1 1]⟩) G5 fun v G => ∃ a_10 n17 c_4, v = .slice a_10 n17 c_4 ∧ M [.int .i64 n14, .slice a n c, .slice
 a_8 n16 c_3, .slice a_10 n17 c_4, .int .i64 (wrap .i64 (n6 + wrap .i64 n13))] G) ∧ ∀ (J : F) (n8 : Int) (a_4 : Option Addr) (n9 c_3 : Nat) (a_5 : Option Addr) (n10 c_4 : Nat)
 (a_6 : Option Addr) (n11 c_5 : Nat) (n12 : Int) (G3 : Heap), M [.int .i64 n8, .slice a_4 n9 c_3, .slice a_5 n10 c_4, .slice a_6 n11 c_5, .int .i64 n12] G3 → I [.int .i64 n8, .slice a_4
 n9 c_3, .slice a_5 n10 c_4, .slice a_6 n11 c_5, .int .i64 n12, .int .i64 (wrap .i64 (n7 - 16))] G3 ∧ μ [.int .i64 n8, .slice a_4 n9 c_3, .slice a_5 n10 c_4, .slice a_6 n11 c_5,
 .int .i64 n12, .int .i64 (wrap .i64 (n7 - 16))] G3 < μ [.int .i64 n, .slice a n3 c, .slice a_1 n4 c_1, .slice a_2 n5 c_2, .int .i64 n6, .int .i64 n7] G) (brB (n6 != wrap
 .i64 ((↑(s.size) : Int) - n)) (R (.tuple ⟨[.slice none 0 0, .slice none 0 0, .slice none 0 0, .bool false]⟩) G) (∀ (b : Nat) (G3 : Heap), New G b (.cells ⟨[]⟩ 9) G3 → ∃ (I : IV) (μ :
 MU), I [.int .i64 n, .slice (some ⟨b, 0, none⟩) 0 0, .int .i64 0] G3 ∧ ∀ (J : F) (n : Int) (a_5 : Option Addr) (n8 c_3 : Nat) (n9 : Int) (G : Heap), I [.int .i64 n, .slice a_5 n8 c_3, .int
 .i64 n9] G → brB (decide (n9 < (↑n4 : Int))) (ix a_1 n9 n4 fun ad => (∃ n10, lD 3 G (Addr.add ad (Int.toNat n9 * 1)) (.int .i64 n10) ∧ chk (decide (0 ≤ n ∧ n ≤ wrap .i64 (n + n10)
 ∧ wrap .i64 (n + n10) ≤ (↑(s.size) : Int))) (∀ (b : Nat) (G4 : Heap), New G b (.cells ⟨[.string (ByteArray.extract s (Int.toNat n) (Int.toNat (wrap .i64 (n + n10))))]⟩
 9) G4 → SemWp Tryz.prog (Builtin.append_ ⟨[113, 113]⟩ 113 ⟨[.slice a_5 n8 c_3, .slice (some ⟨b, 0, none⟩) 1 1]⟩) G4 fun v G5 => ∃ a n11 c, v = .slice a n11 c ∧ ix a_1 n9 n4 fun ad => (∃
 n12, lD 3 G5 (Addr.add ad (Int.toNat n9 * 1)) (.int .i64 n12) ∧ I [.int .i64 (wrap .i64 (n + n12)), .slice a n11 c, .int .i64 (wrap .i64 (n9 + 1))] G5 ∧ μ [.int .i64
 (wrap .i64 (n + n12)), .slice a n11 c, .int .i64 (wrap .i64 (n9 + 1))] G5 < μ [.int .i64 n, .slice a_5 n8 c_3, .int .i64 n9] G)))) (R (.tuple ⟨[.slice a n3 c, .slice a_5 n8
 c_3, .slice a_2 n5 c_2, .bool true]⟩) G)))) : cH 63 ⟨[.string s]⟩ H R := vc_call (annOf [([1, 1], .cut []), ([0, 1, 0, 1, 1, 1, 1, 1, 1, 1], .cut [(7, .one (.int .i64)),
 (9, .one .slice), (10, .one .slice), (11, .one .slice), (12, .one (.int .i64)), (13, .one (.int .i64))]), ([1, 0, 0, 1, 0, 1, 1, 1, 1, 1, 1, 1], .cut [(7, .one (.int .i64)), (9, .one .slice), (10,
 .one .slice), (11, .one .slice), (12, .one (.int .i64))]), ([1, 1, 1, 0, 0, 1, 0, 0, 1, 0, 1, 1, 1, 1, 1, 1, 1], .cut []), ([0, 1, 1, 1, 0, 0, 1, 0, 0, 1, 0, 1, 1, 1, 1, 1, 1, 1], .cut [(97, .one
 .bool)]), ([1, 1, 1, 1, 0, 0, 1, 0, 0, 1, 0, 1, 1, 1, 1, 1, 1, 1], .cut []), ([0, 1, 1, 1, 1, 0, 0, 1, 0, 0, 1, 0, 1, 1, 1, 1, 1, 1, 1], .cut [(113, .one .bool)]), ([0, 1, 0, 1, 1, 1, 1, 1, 1, 1, 1,
 1, 1], .cut [(7, .one (.int .i64)), (23, .one .slice), (24, .one (.int .i64))])]) followsAll Tryz.func63 rfl Tryz.ntmps63 rfl rfl (Eq.mpr (by kernel_rfl) h)
abbrev fn_ref13_Right : Nat := 64
theorem vc_ref13_Right (l_a : Option Addr) (l_n : Nat) (l_c : Nat) (h : ∃ (I : IV) (μ : MU), I [.int .i64 0] H ∧ ∀ (J : F) (n : Int) (G : Heap), I [.int .i64 n]
 G → brB (decide (n < (↑l_n : Int))) (∃ (M : IV), (ix l_a n l_n fun ad => (∃ a n1 c, lD 90 G (Addr.add (Addr.add ad (Int.toNat n * 2)) 1) (.slice a n1 c) ∧ brB ((↑n1 : Int) == 0) (R (.bool
 false) G) (ix l_a n l_n fun ad => (∃ a n2 c, lD 90 G (Addr.add (Addr.add ad (Int.toNat n * 2)) 1) (.slice a n2 c) ∧ cB 102 [.slice a n2 c] G fun b G => brB (!b) (R (.bool false) G) (brB
 (decide (n > 0)) (ix l_a n l_n fun ad => (∃ n3, lD 3 G (Addr.add ad (Int.toNat n * 2)) (.int .i64 n3) ∧ ix l_a (wrap .i64 (n - 1)) l_n fun ad => (∃ n4, lD 3 G (Addr.add ad (Int.toNat
 (wrap .i64 (n - 1)) * 2)) (.int .i64 n4) ∧ brB (decide (n3 ≤ n4)) (R (.bool false) G) (M [] G)))) (M [] G)))))) ∧ ∀ (J : F) (G1 : Heap), M [] G1 → I [.int .i64 (wrap .i64
 (n + 1))] G1 ∧ μ [.int .i64 (wrap .i64 (n + 1))] G1 < μ [.int .i64 n] G) (R (.bool true) G)) : cH 64 ⟨[.slice l_a l_n l_c]⟩ H R := vc_call (annOf [([0, 1, 0,
 1], .cut [(3, .one (.int .i64))]), ([1, 0, 0, 1, 0, 1], .cut []), ([0, 0, 0, 1, 0, 0, 1, 0, 1], .reg [0, 0, 3, 7, 15, 31, 63, 127, 255, 255, 1023, 2047, 4095, 8191, 16383, 32767, 65535, 131071,
 262143, 524287, 1048575, 1048575, 4194303, 8388607, 16777215, 1048575, 1048575, 68157439, 235929599, 504365055, 1041235967, 2147483647, 4294967295, 8589934591] (.quiet 0 (.quiet 1 (.quiet 2 (.quiet
 3 (.quiet 4 (.quiet 5 (.quiet 6 (.quiet 7 (.quiet 8 (.quiet 9 (.quiet 10 (.quiet 11 (.quiet 12 (.pick (.alt 13 (.quiet 14 (.quiet 15 (.quiet 16 (.quiet 17 (.quiet 18 (.quiet 19 (.quiet 20 (.quiet 21
 (.quiet 22 (.quiet 23 (.quiet 24 (.quiet 25 (.quiet 26 (.quiet 27 (.quiet 28 (.quiet 29 (.quiet 30 (.quiet 31 (.quiet 32 (.quiet 33 .done)))))))))))))))))))) .stop))))))))))))))))]) followsAll
 Tryz.func64 rfl Tryz.ntmps64 rfl rfl (Eq.mpr (by kernel_rfl) h)
abbrev fn_ref01_Uint : Nat := 65
theorem vc_ref01_Uint (n : Int) (h : ∃ (I : IV) (μ : MU), I [.int .u64 n, .string { data := #[] }] H ∧ ∀ (J : F) (n : Int) (s : ByteArray) (G : Heap), I [.int
 .u64 n, .string s] G → brB (decide (n > 127)) (∀ (b : Nat) (G1 : Heap), New G b (.cells ⟨[.int .u8 (wrap .u8 (wrap .u64 (Int.tmod n 128 + 128)))]⟩ 5) G1 → SemWp Tryz.prog
 (convert 81 9 (.slice (some ⟨b, 0, none⟩) 1 1)) G1 fun v G2 => ∃ s_1, v = .string s_1 ∧ chk (decide (s.size + s_1.size ≤ 9223372036854775807)) (I [.int .u64 (wrap
 .u64 (Int.tdiv n 128)), .string (s ++ s_1)] G2 ∧ μ [.int .u64 (wrap .u64 (Int.tdiv n 128)), .string (s ++ s_1)] G2 < μ [.int .u64 n, .string s] G)) (∀ (b : Nat) (G1 : Heap), New G b
 (.cells ⟨[.int .u8 (wrap .u8 n)]⟩ 5) G1 → SemWp Tryz.prog (convert 81 9 (.slice (some ⟨b, 0, none⟩) 1 1)) G1 fun v G => ∃ s_1, v = .string s_1 ∧ chk (decide (s.size +
 s_1.size ≤ 9223372036854775807)) (R (.string (s ++ s_1)) G))) : cH 65 ⟨[.int .u64 n]⟩ H R := vc_call (annOf [([0, 0, 1, 1], .cut [(0, .one (.int .u64)), (3, .one
 .str)])]) followsAll Tryz.func65 rfl Tryz.ntmps65 rfl rfl (Eq.mpr (by kernel_rfl) h)
abbrev fn_ref03_Encode : Nat := 66
theorem vc_ref03_Encode (l_a : Option Addr) (l_n : Nat) (l_c : Nat) (h : brB (decide ((↑l_n : Int) > 5000)) (R (.tuple ⟨[.string { data := #[] }, .int .i64 1]⟩)
 H) (∃ (I : IV) (μ : MU), I [.int .i64 0] H ∧ ∀ (J : F) (n : Int) (G : Heap), I [.int .i64 n] G → brB (decide (n < (↑l_n : Int))) (∃ (M : IV), (∃ (M_1 : IV), (ix l_a n l_n fun ad => (∃ n1, lD 3 G
 (Addr.add ad (Int.toNat n * 2)) (.int .i64 n1) ∧ brB (decide (n1 < 0)) (M_1 [.bool true] G) (ix l_a n l_n fun ad => (∃ n2, lD 3 G (Addr.add ad (Int.toNat n * 2)) (.int .i64 n2) ∧ brB (decide
 (n2 ≥ 1099511627776)) (M_1 [.bool true] G) (brB (decide (n > 0)) (ix l_a n l_n fun ad => (∃ n3, lD 3 G (Addr.add ad (Int.toNat n * 2)) (.int .i64 n3) ∧ ix l_a (wrap .i64 (n - 1)) l_n
 fun ad => (∃ n4, lD 3 G (Addr.add ad (Int.toNat (wrap .i64 (n - 1)) * 2)) (.int .i64 n4) ∧ M_1 [.bool (decide (n3 ≤ n4))] G))) (M_1 [.bool false] G)))))) ∧ ∀ (J : F) (b : Bool) (G :
 Heap), M_1 [.bool b] G → brB b (R (.tuple ⟨[.string { data := #[] }, .int .i64 30]⟩) G) (M [] G)) ∧ ∀ (J : F) (G1 : Heap), M [] G1 → I [.int .i64 (wrap .i64 (n + 1))] G1 ∧ μ [.int
 .i64 (wrap .i64 (n + 1))] G1 < μ [.int .i64 n] G) (cS 65 [.int .u64 (wrap .u64 (↑l_n : Int))] G fun s G => brB ((↑l_n : Int) == 0) (R (.tuple ⟨[.string s, .int .i64 0]⟩) G) (ix
 l_a (0) l_n fun ad => (∃ n, lD 3 G ad (.int .i64 n) ∧ ix l_a (0) l_n fun ad => (∃ n1, lD 3 G (Addr.add ad 1) (.int .i64 n1) ∧ cS 65 [.int .u64 (wrap .u64 n)] G fun s_1 G => lD 3 G
 (Addr.add ad 1) (.int .i64 n1) ∧ chk (decide (s.size + s_1.size ≤ 9223372036854775807)) (cS 103 [.int .i64 n1] G fun s_2 G => chk (decide (ByteArray.size (s ++ s_1) +
 s_2.size ≤ 9223372036854775807)) (brB ((↑l_n : Int) == 1) (R (.tuple ⟨[.string (s ++ s_1 ++ s_2), .int .i64 0]⟩) G) (∀ (b : Nat) (G1 : Heap), New G b (.cells ⟨[]⟩ 89) G1 → ∀ (b_1 :
 Nat) (G : Heap), New G1 b_1 (.cells ⟨[]⟩ 89) G → ∃ (I : IV) (μ : MU), I [.slice (some ⟨b, 0, none⟩) 0 0, .slice (some ⟨b_1, 0, none⟩) 0 0, .int .i64 0, .int .i64 1] G ∧ ∀ (J : F) (a : Option
 Addr) (n c : Nat) (a_1 : Option Addr) (n2 c_1 : Nat) (n3 n4 : Int) (G : Heap), I [.slice a n c, .slice a_1 n2 c_1, .int .i64 n3, .int .i64 n4] G → brB (decide (n4 < (↑l_n : Int))) (ix l_a
 n4 l_n fun ad => (∃ n5, lD 3 G (Addr.add ad (Int.toNat n4 * 2)) (.int .i64 n5) ∧ ix l_a (wrap .i64 (n4 - 1)) l_n fun ad => (∃ n6, lD 3 G (Addr.add ad (Int.toNat (wrap .i64
 (n4 - 1)) * 2)) (.int .i64 n6) ∧ cH 104 ⟨[.int .i64 (wrap .i64 (wrap .i64 (n5 - n6) - n3))]⟩ G fun v G2 => ∃ n7, v = .int .u64 n7 ∧ ∀ (b : Nat) (G3 : Heap), New G2 b
 (.cells ⟨[.int .u64 n7]⟩ 89) G3 → SemWp Tryz.prog (Builtin.append_ ⟨[138, 138]⟩ 138 ⟨[.slice a n c, .slice (some ⟨b, 0, none⟩) 1 1]⟩) G3 fun v G4 => ∃ a_4 n8 c_2, v = .slice a_4 n8 c_2 ∧ ix
 l_a n4 l_n fun ad => (∃ n9, lD 3 G4 (Addr.add (Addr.add ad (Int.toNat n4 * 2)) 1) (.int .i64 n9) ∧ ix l_a (wrap .i64 (n4 - 1)) l_n fun ad => (∃ n10, lD 3 G4 (Addr.add (Addr.add ad
 (Int.toNat (wrap .i64 (n4 - 1)) * 2)) 1) (.int .i64 n10) ∧ cH 104 ⟨[.int .i64 (wrap .i64 (n9 - n10))]⟩ G4 fun v G5 => ∃ n11, v = .int .u64 n11 ∧ ∀ (b : Nat) (G6 : Heap),
 New G5 b (.cells ⟨[.int .u64 n11]⟩ 89) G6 → SemWp Tryz.prog (Builtin.append_ ⟨[138, 138]⟩ 138 ⟨[.slice a_1 n2 c_1, .slice (some ⟨b, 0, none⟩) 1 1]⟩) G6 fun v G7 => ∃ a_6 n12 c_3, v =
 .slice a_6 n12 c_3 ∧ I [.slice a_4 n8 c_2, .slice a_6 n12 c_3, .int .i64 (wrap .i64 (n5 - n6)), .int .i64 (wrap .i64 (n4 + 1))] G7 ∧ μ [.slice a_4 n8 c_2, .slice a_6 n12
 c_3, .int .i64 (wrap .i64 (n5 - n6)), .int .i64 (wrap .i64 (n4 + 1))] G7 < μ [.slice a n c, .slice a_1 n2 c_1, .int .i64 n3, .int .i64 n4] G))))) (cI 105 [.slice a n c] G
 fun n5 G => cI 105 [.slice a_1 n2 c_1] G fun n6 G => cP 106 [] G fun a_3 G => ∃ (I : IV) (μ : MU), I [.int .i64 0] G ∧ ∀ (J : F) (n7 : Int) (G : Heap), I [.int .i64 n7] G → brB (decide
 (n7 < (↑n : Int))) (ix a n7 n fun ad => (∃ n, lD 89 G (Addr.add ad (Int.toNat n7 * 1)) (.int .u64 n) ∧ cI 107 [.pointer a_3, .int .u64 n, .int .i64 n5] G fun n G2 => ix a_1 n7 n2 fun ad =>
 (∃ n, lD 89 G2 (Addr.add ad (Int.toNat n7 * 1)) (.int .u64 n) ∧ cI 107 [.pointer a_3, .int .u64 n, .int .i64 n6] G2 fun n G3 => I [.int .i64 (wrap .i64 (n7 + 1))] G3 ∧ μ [.int
 .i64 (wrap .i64 (n7 + 1))] G3 < μ [.int .i64 n7] G))) ((∀ (b : Nat) (G2 : Heap), New G b (.cells ⟨[.int .u8 (wrap .u8 n5), .int .u8 (wrap .u8 n6)]⟩ 5) G2 → (SemWp
 Tryz.prog (convert 81 9 (.slice (some ⟨b, 0, none⟩) 2 2)) G2 fun v G => ∃ s_3, v = .string s_3 ∧ chk (decide (ByteArray.size (s ++ s_1 ++ s_2) + s_3.size ≤ 9223372036854775807)) (cS 108
 [.pointer a_3] G fun s_4 G => chk (decide (ByteArray.size (s ++ s_1 ++ s_2 ++ s_3) + s_4.size ≤ 9223372036854775807)) (R (.tuple ⟨[.string (s ++ s_1 ++ s_2 ++ s_3 ++ s_4), .int .i64 0]⟩)
 G))) ∧ cS 108 [.pointer a_3] G2 fun s_3 G => SemWp Tryz.prog (convert 81 9 (.slice (some ⟨b, 0, none⟩) 2 2)) G fun v G => ∃ s_4, v = .string s_4 ∧ chk (decide (ByteArray.size (s ++ s_1 ++ s_2)
 + s_4.size ≤ 9223372036854775807)) (chk (decide (ByteArray.size (s ++ s_1 ++ s_2 ++ s_4) + s_3.size ≤ 9223372036854775807)) (R (.tuple ⟨[.string (s ++ s_1 ++ s_2 ++ s_4 ++ s_3),
 .int .i64 0]⟩) G))) ∧ cS 108 [.pointer a_3] G fun s_3 G => ∀ (b : Nat) (G2 : Heap), New G b (.cells ⟨[.int .u8 (wrap .u8 n5), .int .u8 (wrap .u8 n6)]⟩ 5) G2 → SemWp
 Tryz.prog (convert 81 9 (.slice (some ⟨b, 0, none⟩) 2 2)) G2 fun v G => ∃ s_4, v = .string s_4 ∧ chk (decide (ByteArray.size (s ++ s_1 ++ s_2) + s_4.size ≤ 9223372036854775807)) (chk
 (decide (ByteArray.size (s ++ s_1 ++ s_2 ++ s_4) + s_3.size ≤ 9223372036854775807)) (R (.tuple ⟨[.string (s ++ s_1 ++ s_2 ++ s_4 ++ s_3), .int .i64 0]⟩) G))))))))))))) : cH 66 ⟨[.slice l_a l_n l_c]⟩ H R := vc_call (annOf [([0, 1, 0, 1, 1], .cut [(4, .one (.int .i64))]), ([1, 0, 0, 1, 0, 1, 1], .cut []), ([0, 0, 1, 0, 0, 1, 0, 1, 1], .cut [(55, .one
 .bool)]), ([0, 1, 1, 1, 1, 1], .reg [0, 0, 2, 6, 14, 30, 62, 127, 0, 256, 768, 1792, 3966, 8191, 16383] (.quiet 0 (.quiet 1 (.quiet 2 (.quiet 3 (.quiet 4 (.quiet 5 (.quiet 8 (.quiet 9 (.quiet 10
 (.quiet 11 (.pick (.alt 6 (.quiet 7 (.pick (.alt 12 (.quiet 13 (.quiet 14 .done)) .stop))) .stop))))))))))))), ([0, 1, 0, 1, 1, 1, 1, 1, 1, 1, 1, 1, 1], .cut [(6, .one .slice), (7, .one .slice), (8,
 .one (.int .i64)), (9, .one (.int .i64))]), ([0, 1, 1, 0, 0, 1, 0, 0, 1, 0, 1, 1, 1, 1, 1, 1, 1, 1, 1, 1], .reg [0, 0, 0, 6, 14, 30, 0, 0, 128, 448, 960, 1984, 4094, 8190, 16382, 32767, 65535]
 (.quiet 0 (.quiet 1 (.quiet 2 (.quiet 3 (.quiet 4 (.quiet 5 (.quiet 6 (.quiet 7 (.quiet 8 (.quiet 9 (.quiet 10 (.quiet 11 (.quiet 12 (.pick (.alt 13 (.pick (.alt 14 (.pick (.alt 15 (.quiet 16 .done)
 .stop)) .stop)) .stop)))))))))))))))), ([0, 1, 0, 1, 1, 1, 1, 1, 1, 1, 1, 1, 1, 1, 1, 1, 1], .cut [(14, .one (.int .i64))]), ([0, 1, 1, 1, 1, 1, 1, 1, 1, 1, 1, 1, 1, 1, 1, 1], .reg [0, 0, 2, 0, 8,
 30, 62, 127, 0, 256, 1023, 2047, 4095] (.quiet 0 (.quiet 1 (.quiet 2 (.quiet 3 (.quiet 4 (.quiet 8 (.pick (.alt 5 (.pick (.alt 6 (.quiet 7 (.pick (.alt 9 (.quiet 10 (.quiet 11 (.quiet 12 .done)))
 .stop))) (.alt 9 (.pick (.alt 6 (.quiet 7 (.quiet 10 (.quiet 11 (.quiet 12 .done)))) .stop)) .stop))) (.alt 9 (.pick (.alt 5 (.pick (.alt 6 (.quiet 7 (.quiet 10 (.quiet 11 (.quiet 12 .done))))
 .stop)) .stop)) .stop))))))))))]) followsAll Tryz.func66 rfl Tryz.ntmps66 rfl rfl (Eq.mpr (by kernel_rfl) h)
abbrev fn_ref13_Put : Nat := 67
theorem vc_ref13_Put (l_a : Option Addr) (l_n : Nat) (l_c : Nat) (rows_a : Option Addr) (rows_n : Nat) (rows_c : Nat) (h : ∃ (I : IV) (μ : MU), I [.slice l_a l_n
 l_c, .int .i64 0] H ∧ ∀ (J : F) (a : Option Addr) (n c : Nat) (n1 : Int) (G : Heap), I [.slice a n c, .int .i64 n1] G → brB (decide (n1 < (↑rows_n : Int))) (ix rows_a n1 rows_n fun ad => (∃
 n2 n3 n4, lD 26 G (Addr.add ad (Int.toNat n1 * 3)) (.agg ⟨[.int .i64 n2, .int .i64 n3, .int .i64 n4]⟩) ∧ ∀ (b : Nat) (G1 : Heap), New G b (.cells ⟨[.int .i64 0, .int .i64 0, .int .i64 0]⟩
 26) G1 → ∃ G2, sT 26 G1 ⟨b, 0, none⟩ (.agg ⟨[.int .i64 n2, .int .i64 n3, .int .i64 n4]⟩) G2 ∧ ∃ n5, lD 3 G2 ⟨b, 0, none⟩ (.int .i64 n5) ∧ ∃ n6, lD 3 G2 ⟨b, 2, none⟩ (.int .i64 n6)
 ∧ ∀ (b_1 : Nat) (G3 : Heap), New G2 b_1 (.cells ⟨[.int .i64 n5, .int .i64 n6]⟩ 107) G3 → ∀ (b_2 : Nat) (G4 : Heap), New G3 b_2 (.cells ⟨[]⟩ 117) G4 → ∃ (I_1 : IV) (μ_1 : MU), I_1
 [.slice (some ⟨b_2, 0, none⟩) 0 0, .bool false, .int .i64 0] G4 ∧ ∀ (J : F) (a_5 : Option Addr) (n7 c_1 : Nat) (b_3 : Bool) (n8 : Int) (G5 : Heap), I_1 [.slice a_5 n7 c_1, .bool b_3, .int
 .i64 n8] G5 → brB (decide (n8 < (↑n : Int))) (∃ (M : IV), (∃ (M_1 : IV), (∃ (M : IV), brB (!b_3) (ix a n8 n fun ad => (∃ n, lD 3 G5 (Addr.add ad (Int.toNat n8 * 2)) (.int .i64 n) ∧ ∃ n9, lD
 3 G5 ⟨b, 1, none⟩ (.int .i64 n9) ∧ M [.bool (decide (n > n9))] G5)) (M [.bool false] G5) ∧ ∀ (J : F) (b_4 : Bool) (G : Heap), M [.bool b_4] G → brB b_4 (∃ n, lD 3 G ⟨b, 1, none⟩ (.int
 .i64 n) ∧ ∀ (b : Nat) (G6 : Heap), New G b (.cells ⟨[.int .i64 n, .slice (some ⟨b_1, 0, none⟩) 1 1]⟩ 117) G6 → SemWp Tryz.prog (Builtin.append_ ⟨[62, 62]⟩ 62 ⟨[.slice a_5 n7 c_1, .slice (some
 ⟨b, 0, none⟩) 1 1]⟩) G6 fun v G => ∃ a n c, v = .slice a n c ∧ M_1 [.slice a n c, .bool true] G) (M_1 [.slice a_5 n7 c_1, .bool b_3] G)) ∧ ∀ (J : F) (a_7 : Option Addr) (n9 c : Nat) (b_4 :
 Bool) (G : Heap), M_1 [.slice a_7 n9 c, .bool b_4] G → ix a n8 n fun ad => (∃ n10, lD 3 G (Addr.add ad (Int.toNat n8 * 2)) (.int .i64 n10) ∧ ∃ n11, lD 3 G ⟨b, 1, none⟩ (.int .i64 n11) ∧
 brB (n10 == n11) (∃ n12, lD 3 G ⟨b, 1, none⟩ (.int .i64 n12) ∧ ix a n8 n fun ad => (∃ a n c_2, lD 90 G (Addr.add (Addr.add ad (Int.toNat n8 * 2)) 1) (.slice a n c_2) ∧ cL 109 [.slice a n
 c_2, .slice (some ⟨b_1, 0, none⟩) 1 1] G fun a n c_3 G => lD 3 G ⟨b, 1, none⟩ (.int .i64 n12) ∧ ∀ (b : Nat) (G6 : Heap), New G b (.cells ⟨[.int .i64 n12, .slice a n c_3]⟩ 117) G6 → SemWp
 Tryz.prog (Builtin.append_ ⟨[62, 62]⟩ 62 ⟨[.slice a_7 n9 c, .slice (some ⟨b, 0, none⟩) 1 1]⟩) G6 fun v G => ∃ a n c, v = .slice a n c ∧ M [.slice a n c, .bool true] G)) (ix a n8 n fun ad => (∃
 n a n12 c_2, lD 117 G (Addr.add ad (Int.toNat n8 * 2)) (.agg ⟨[.int .i64 n, .slice a n12 c_2]⟩) ∧ ∀ (b : Nat) (G6 : Heap), New G b (.cells ⟨[.int .i64 n, .slice a n12 c_2]⟩ 117) G6 → SemWp
 Tryz.prog (Builtin.append_ ⟨[62, 62]⟩ 62 ⟨[.slice a_7 n9 c, .slice (some ⟨b, 0, none⟩) 1 1]⟩) G6 fun v G => ∃ a n c, v = .slice a n c ∧ M [.slice a n c, .bool b_4] G)))) ∧ ∀ (J : F) (a : Option
 Addr) (n c : Nat) (b : Bool) (G : Heap), M [.slice a n c, .bool b] G → I_1 [.slice a n c, .bool b, .int .i64 (wrap .i64 (n8 + 1))] G ∧ μ_1 [.slice a n c, .bool b, .int .i64 (wrap
 .i64 (n8 + 1))] G < μ_1 [.slice a_5 n7 c_1, .bool b_3, .int .i64 n8] G5) (brB (!b_3) (∃ n9, lD 3 G5 ⟨b, 1, none⟩ (.int .i64 n9) ∧ ∀ (b : Nat) (G6 : Heap), New G5 b (.cells ⟨[.int .i64
 n9, .slice (some ⟨b_1, 0, none⟩) 1 1]⟩ 117) G6 → SemWp Tryz.prog (Builtin.append_ ⟨[62, 62]⟩ 62 ⟨[.slice a_5 n7 c_1, .slice (some ⟨b, 0, none⟩) 1 1]⟩) G6 fun v G7 => ∃ a_8 n10 c_2, v =
 .slice a_8 n10 c_2 ∧ I [.slice a_8 n10 c_2, .int .i64 (wrap .i64 (n1 + 1))] G7 ∧ μ [.slice a_8 n10 c_2, .int .i64 (wrap .i64 (n1 + 1))] G7 < μ [.slice a n c, .int .i64 n1]
 G) (I [.slice a_5 n7 c_1, .int .i64 (wrap .i64 (n1 + 1))] G5 ∧ μ [.slice a_5 n7 c_1, .int .i64 (wrap .i64 (n1 + 1))] G5 < μ [.slice a n c, .int .i64 n1] G)))) (R (.slice a
 n c) G)) : cH 67 ⟨[.slice l_a l_n l_c, .slice rows_a rows_n rows_c]⟩ H R := vc_call (annOf [([0, 1, 0, 1], .cut [(0, .one .slice), (5, .one (.int .i64))]), ([0, 1, 0, 1,
 1, 1, 1, 0, 0, 1, 0, 0, 1, 0, 1], .cut [(8, .one .slice), (9, .one .bool), (10, .one (.int .i64))]), ([1, 0, 0, 1, 0, 1, 1, 1, 1, 0, 0, 1, 0, 0, 1, 0, 1], .cut [(8, .one .slice), (9, .one .bool)]),
 ([0, 0, 1, 0, 0, 1, 0, 1, 1, 1, 1, 0, 0, 1, 0, 0, 1, 0, 1], .cut [(8, .one .slice), (9, .one .bool)]), ([0, 0, 0, 1, 0, 0, 1, 0, 1, 1, 1, 1, 0, 0, 1, 0, 0, 1, 0, 1], .cut [(45, .one .bool)]), ([0,
 0, 1, 1, 0, 0, 1, 0, 0, 1, 0, 1, 1, 1, 1, 0, 0, 1, 0, 0, 1, 0, 1], .reg [0, 0, 2, 0, 0, 24, 56, 120, 0, 504, 1022, 2046, 4095, 8191] (.quiet 0 (.quiet 1 (.quiet 2 (.quiet 3 (.quiet 4 (.quiet 5
 (.quiet 6 (.quiet 7 (.quiet 8 (.pick (.alt 9 (.quiet 10 (.pick (.alt 11 (.pick (.alt 12 (.quiet 13 .done) .stop)) .stop))) .stop))))))))))))]) followsAll Tryz.func67 rfl Tryz.ntmps67 rfl rfl (Eq.mpr
 (by kernel_rfl) h)
abbrev fn_ref16_u : Nat := 68
theorem vc_ref16_u (n : Int) (h : cS 65 [.int .u64 (wrap .u64 n)] H fun s G => R (.string s) G) : cH 68 ⟨[.int .i64 n]⟩ H R := vc_call (annOf []) followsAll Tryz.func68 rfl Tryz.ntmps68 rfl rfl (Eq.mpr (by kernel_rfl) h)
abbrev fn_ref16_block : Nat := 69
theorem vc_ref16_block (rows_a : Option Addr) (rows_n : Nat) (rows_c : Nat) (h : ix rows_a (0) rows_n fun ad => (∃ n, lD 3 H ad (.int .i64 n) ∧ ∃ (I : IV) (μ :
 MU), I [.string { data := #[] }, .int .i64 n, .int .i64 0] H ∧ ∀ (J : F) (s : ByteArray) (n n1 : Int) (G : Heap), I [.string s, .int .i64 n, .int .i64 n1] G → brB (decide (n1 < (↑rows_n :
 Int))) (ix rows_a n1 rows_n fun ad => (∃ n2, lD 3 G (Addr.add ad (Int.toNat n1 * 3)) (.int .i64 n2) ∧ ix rows_a n1 rows_n fun ad => (∃ n3, lD 3 G (Addr.add (Addr.add ad (Int.toNat n1 * 3))
 1) (.int .i64 n3) ∧ exSome rows_a fun ad_1 => chk (decide (0 ≤ n1 ∧ n1 < (↑rows_n : Int))) (∃ n4, lD 3 G (Addr.add (Addr.add ad_1 (Int.toNat n1 * 3)) 2) (.int .i64 n4) ∧ cS 68 [.int .i64
 (wrap .i64 (n2 - n))] G fun s_1 G1 => lD 3 G1 (Addr.add (Addr.add ad_1 (Int.toNat n1 * 3)) 2) (.int .i64 n4) ∧ lD 3 G1 (Addr.add (Addr.add ad (Int.toNat n1 * 3)) 1) (.int .i64
 n3) ∧ chk (decide (s.size + s_1.size ≤ 9223372036854775807)) (cS 68 [.int .i64 n3] G1 fun s_2 G2 => lD 3 G2 (Addr.add (Addr.add ad_1 (Int.toNat n1 * 3)) 2) (.int .i64
 n4) ∧ chk (decide (ByteArray.size (s ++ s_1) + s_2.size ≤ 9223372036854775807)) (cS 103 [.int .i64 n4] G2 fun s_3 G3 => chk (decide (ByteArray.size (s ++ s_1 ++ s_2) + ByteArray.size
 s_3 ≤ 9223372036854775807)) (ix rows_a n1 rows_n fun ad => (∃ n5, lD 3 G3 (Addr.add ad (Int.toNat n1 * 3)) (.int .i64 n5) ∧ I [.string (s ++ s_1 ++ s_2 ++ s_3), .int .i64 n5, .int .i64
 (wrap .i64 (n1 + 1))] G3 ∧ μ [.string (s ++ s_1 ++ s_2 ++ s_3), .int .i64 n5, .int .i64 (wrap .i64 (n1 + 1))] G3 < μ [.string s, .int .i64 n, .int .i64 n1] G)))))))) (R
 (.string s) G))) : cH 69 ⟨[.slice rows_a rows_n rows_c]⟩ H R := vc_call (annOf [([0, 1, 0, 1, 1, 1], .cut [(3, .one .str), (4, .one (.int .i64)), (5, .one (.int .i64))]),
 ([0, 0, 0, 1, 0, 0, 1, 0, 1, 1, 1], .reg [0, 0, 0, 6, 14, 30, 0, 126, 254, 511, 0, 0, 3072, 7168, 15360, 32254, 65535, 0, 0, 393216, 917504, 1966080, 4128254, 8388607, 16777215] (.quiet 0 (.quiet 1
 (.quiet 2 (.quiet 3 (.quiet 4 (.quiet 5 (.quiet 6 (.quiet 7 (.quiet 10 (.quiet 11 (.quiet 12 (.quiet 13 (.quiet 14 (.quiet 17 (.quiet 18 (.quiet 19 (.quiet 20 (.quiet 21 (.pick (.alt 8 (.quiet 9
 (.pick (.alt 15 (.quiet 16 (.pick (.alt 22 (.quiet 23 (.quiet 24 .done)) .stop))) .stop))) .stop)))))))))))))))))))))]) followsAll Tryz.func69 rfl Tryz.ntmps69 rfl rfl (Eq.mpr (by kernel_rfl) h)
abbrev fn_slices_Reverse___api_Sample_api_Sample_ : Nat := 70
theorem vc_slices_Reverse___api_Sample_api_Sample_ (s_a : Option Addr) (s_n : Nat) (s_c : Nat) (h : ∃ (I : IV) (μ : MU), I [.int .i64 0, .int .i64 (wrap
 .i64 ((↑s_n : Int) - 1))] H ∧ ∀ (J : F) (n n1 : Int) (G : Heap), I [.int .i64 n, .int .i64 n1] G → brB (decide (n < n1)) (ix s_a n1 s_n fun ad => (∃ n2 n3, lD 107 G (Addr.add ad (Int.toNat
 n1 * 2)) (.agg ⟨[.int .i64 n2, .int .i64 n3]⟩) ∧ ix s_a n s_n fun ad => (∃ n4 n5, lD 107 G (Addr.add ad (Int.toNat n * 2)) (.agg ⟨[.int .i64 n4, .int .i64 n5]⟩) ∧ ix s_a n s_n fun ad => (∃
 G1, sT 107 G (Addr.add ad (Int.toNat n * 2)) (.agg ⟨[.int .i64 n2, .int .i64 n3]⟩) G1 ∧ ix s_a n1 s_n fun ad => (∃ G2, sT 107 G1 (Addr.add ad (Int.toNat n1 * 2)) (.agg ⟨[.int .i64 n4,
 .int .i64 n5]⟩) G2 ∧ I [.int .i64 (wrap .i64 (n + 1)), .int .i64 (wrap .i64 (n1 - 1))] G2 ∧ μ [.int .i64 (wrap .i64 (n + 1)), .int .i64 (wrap .i64 (n1 - 1))]
 G2 < μ [.int .i64 n, .int .i64 n1] G))))) (R (.tuple ⟨[]⟩) G)) : cH 70 ⟨[.slice s_a s_n s_c]⟩ H R := vc_call (annOf [([0, 1], .cut [(2, .one (.int .i64)), (3, .one
 (.int .i64))]), ([0, 0, 1, 0, 0, 1], .reg [0, 0, 0, 0, 0, 0, 48, 112, 0, 0, 768, 1792, 4083, 8179, 16383, 32767] (.quiet 0 (.quiet 1 (.quiet 2 (.quiet 3 (.quiet 4 (.quiet 5 (.quiet 6 (.quiet 7
 (.quiet 8 (.quiet 9 (.quiet 10 (.quiet 11 (.quiet 12 (.pick (.alt 13 (.quiet 14 (.pick (.alt 15 (.done) .stop))) .stop))))))))))))))))]) followsAll Tryz.func70 rfl Tryz.ntmps70 rfl rfl (Eq.mpr (by
 kernel_rfl) h)
abbrev fn_slices_SortStableFunc___api_Sample_api_Sample_ : Nat := 71
theorem vc_slices_SortStableFunc___api_Sample_api_Sample_ (x_a : Option Addr) (x_n : Nat) (x_c : Nat) (cmp : Value) (h : cU 110 [.slice x_a x_n x_c, .int .i64
 (↑x_n : Int), cmp] H fun G => R (.tuple ⟨[]⟩) G) : cH 71 ⟨[.slice x_a x_n x_c, cmp]⟩ H R := vc_call (annOf []) followsAll Tryz.func71 rfl Tryz.ntmps71 rfl rfl (Eq.mpr (by
 kernel_rfl) h)
abbrev fn_series_byTime : Nat := 72
theorem vc_series_byTime (x_0 : Int) (x_1 : Int) (y_0 : Int) (y_1 : Int) (h : ∀ (b : Nat) (G : Heap), New H b (.cells ⟨[.int .i64 x_0, .int .i64 x_1]⟩ 107) G →
 ∀ (b_1 : Nat) (G1 : Heap), New G b_1 (.cells ⟨[.int .i64 y_0, .int .i64 y_1]⟩ 107) G1 → ∃ n, lD 3 G1 ⟨b, 0, none⟩ (.int .i64 n) ∧ ∃ n1, lD 3 G1 ⟨b_1, 0, none⟩ (.int .i64 n1) ∧ cI 76 [.int
 .i64 n, .int .i64 n1] G1 fun n G => R (.int .i64 n) G) : CallH Tryz.prog 72 (List.toArray [.agg #[.int .i64 x_0, .int .i64 x_1], .agg #[.int .i64 y_0, .int .i64 y_1]]) H R := vc_call (annOf [])
 followsAll Tryz.func72 rfl Tryz.ntmps72 rfl rfl (Eq.mpr (by kernel_rfl) h)
abbrev fn_slices_CompactFunc___api_Sample_api_Sample_ : Nat := 73
theorem vc_slices_CompactFunc___api_Sample_api_Sample_ (s_a : Option Addr) (s_n : Nat) (s_c : Nat) (eq : Value) (h : brB (decide ((↑s_n : Int) < 2)) (R (.slice
 s_a s_n s_c) H) (∃ (I : IV) (μ : MU), I [.int .i64 1] H ∧ ∀ (J : F) (n : Int) (G : Heap), I [.int .i64 n] G → brB (decide (n < (↑s_n : Int))) (ix s_a n s_n fun ad => (∃ n1 n2, lD 107 G
 (Addr.add ad (Int.toNat n * 2)) (.agg ⟨[.int .i64 n1, .int .i64 n2]⟩) ∧ ix s_a (wrap .i64 (n - 1)) s_n fun ad => (∃ n3 n4, lD 107 G (Addr.add ad (Int.toNat (wrap .i64 (n - 1)) *
 2)) (.agg ⟨[.int .i64 n3, .int .i64 n4]⟩) ∧ CallV Tryz.prog eq [.agg ⟨[.int .i64 n1, .int .i64 n2]⟩, .agg ⟨[.int .i64 n3, .int .i64 n4]⟩] G fun v G1 => ∃ b, v = .bool b ∧ brB b (chk (decide
 (0 ≤ n ∧ n ≤ (↑s_n : Int) ∧ (↑s_n : Int) ≤ (↑s_c : Int))) (∃ (I : IV) (μ : MU), I [.int .i64 n, .int .i64 1] G1 ∧ ∀ (J : F) (n5 n6 : Int) (G : Heap), I [.int .i64 n5, .int .i64 n6] G → brB
 (decide (n6 < (↑(Int.toNat (↑s_n : Int) - Int.toNat n) : Int))) (exSome (slA s_c (Int.toNat n) 2 s_a) fun ad => chk (decide (0 ≤ n6 ∧ n6 < (↑(Int.toNat (↑s_n : Int) - Int.toNat n) : Int))) (∃ n7
 n8, lD 107 G (Addr.add ad (Int.toNat n6 * 2)) (.agg ⟨[.int .i64 n7, .int .i64 n8]⟩) ∧ exSome (slA s_c (Int.toNat n) 2 s_a) fun ad => chk (decide (0 ≤ wrap .i64 (n6 - 1) ∧ wrap
 .i64 (n6 - 1) < (↑(Int.toNat (↑s_n : Int) - Int.toNat n) : Int))) (∃ n9 n10, lD 107 G (Addr.add ad (Int.toNat (wrap .i64 (n6 - 1)) * 2)) (.agg ⟨[.int .i64 n9, .int .i64 n10]⟩) ∧ CallV
 Tryz.prog eq [.agg ⟨[.int .i64 n7, .int .i64 n8]⟩, .agg ⟨[.int .i64 n9, .int .i64 n10]⟩] G fun v G2 => ∃ b, v = .bool b ∧ brB (!b) (exSome (slA s_c (Int.toNat n) 2 s_a) fun ad => chk (decide
 (0 ≤ n6 ∧ n6 < (↑(Int.toNat (↑s_n : Int) - Int.toNat n) : Int))) (∃ n n11, lD 107 G2 (Addr.add ad (Int.toNat n6 * 2)) (.agg ⟨[.int .i64 n, .int .i64 n11]⟩) ∧ ix s_a n5 s_n fun ad => (∃ G3,
 sT 107 G2 (Addr.add ad (Int.toNat n5 * 2)) (.agg ⟨[.int .i64 n, .int .i64 n11]⟩) G3 ∧ I [.int .i64 (wrap .i64 (n5 + 1)), .int .i64 (wrap .i64 (n6 + 1))] G3 ∧ μ [.int .i64
 (wrap .i64 (n5 + 1)), .int .i64 (wrap .i64 (n6 + 1))] G3 < μ [.int .i64 n5, .int .i64 n6] G))) (I [.int .i64 n5, .int .i64 (wrap .i64 (n6 + 1))] G2 ∧ μ [.int .i64
 n5, .int .i64 (wrap .i64 (n6 + 1))] G2 < μ [.int .i64 n5, .int .i64 n6] G)))) (chk (decide (0 ≤ n5 ∧ n5 ≤ (↑s_n : Int) ∧ (↑s_n : Int) ≤ (↑s_c : Int))) (SemWp Tryz.prog
 (Builtin.clear_ ⟨[90]⟩ 0 ⟨[.slice (slA s_c (Int.toNat n5) 2 s_a) (Int.toNat (↑s_n : Int) - Int.toNat n5) (s_c - Int.toNat n5)]⟩) G fun v G => v = .tuple ⟨[]⟩ ∧ chk (decide ((0 : Int) ≤ (0 :
 Int) ∧ 0 ≤ n5 ∧ n5 ≤ (↑s_c : Int))) (R (.slice s_a (Int.toNat n5 - 0) (s_c - 0)) G))))) (I [.int .i64 (wrap .i64 (n + 1))] G1 ∧ μ [.int .i64 (wrap .i64 (n + 1))] G1 < μ [.int
 .i64 n] G)))) (R (.slice s_a s_n s_c) G))) : cH 73 ⟨[.slice s_a s_n s_c, eq]⟩ H R := vc_call (annOf [([0, 1, 0, 1, 1], .cut [(5, .one (.int .i64))]), ([0, 0, 0, 1, 0, 0,
 1, 0, 1, 1], .tail 10), ([0, 1, 0, 1, 0, 1, 0, 0, 1, 0, 0, 1, 0, 1, 1], .cut [(5, .one (.int .i64)), (7, .one (.int .i64))]), ([0, 0, 0, 1, 0, 0, 1, 0, 1, 0, 1, 0, 0, 1, 0, 0, 1, 0, 1, 1], .tail
 10)]) followsAll Tryz.func73 rfl Tryz.ntmps73 rfl rfl (Eq.mpr (by kernel_rfl) h)
theorem vc_series_Put_1 (x_0 : Int) (x_1 : Int) (y_0 : Int) (y_1 : Int) (h : ∀ (b : Nat) (G : Heap), New H b (.cells ⟨[.int .i64 x_0, .int .i64 x_1]⟩ 107) G →
 ∀ (b_1 : Nat) (G1 : Heap), New G b_1 (.cells ⟨[.int .i64 y_0, .int .i64 y_1]⟩ 107) G1 → ∃ n, lD 3 G1 ⟨b, 0, none⟩ (.int .i64 n) ∧ ∃ n1, lD 3 G1 ⟨b_1, 0, none⟩ (.int .i64 n1) ∧ R (.bool (n
 == n1)) G1) : CallH Tryz.prog 74 (List.toArray [.agg #[.int .i64 x_0, .int .i64 x_1], .agg #[.int .i64 y_0, .int .i64 y_1]]) H R := vc_call (annOf []) followsAll Tryz.func74 rfl Tryz.ntmps74 rfl
 rfl (Eq.mpr (by kernel_rfl) h)
abbrev fn_series_Put_2 : Nat := 75
theorem vc_series_Put_2 (x_0 : Int) (x_1_a : Option Addr) (x_1_n : Nat) (x_1_c : Nat) (y_0 : Int) (y_1_a : Option Addr) (y_1_n : Nat) (y_1_c : Nat) (h : ∀ (b :
 Nat) (G : Heap), New H b (.cells ⟨[.int .i64 x_0, .slice x_1_a x_1_n x_1_c]⟩ 92) G → ∀ (b_1 : Nat) (G1 : Heap), New G b_1 (.cells ⟨[.int .i64 y_0, .slice y_1_a y_1_n y_1_c]⟩ 92) G1 → ∃ n, lD
 3 G1 ⟨b, 0, none⟩ (.int .i64 n) ∧ ∃ n1, lD 3 G1 ⟨b_1, 0, none⟩ (.int .i64 n1) ∧ cI 76 [.int .i64 n, .int .i64 n1] G1 fun n G => R (.int .i64 n) G) : CallH Tryz.prog 75 (List.toArray [.agg
 #[.int .i64 x_0, .slice x_1_a x_1_n x_1_c], .agg #[.int .i64 y_0, .slice y_1_a y_1_n y_1_c]]) H R := vc_call (annOf []) followsAll Tryz.func75 rfl Tryz.ntmps75 rfl rfl (Eq.mpr (by kernel_rfl) h)
abbrev fn_cmp_Compare_int_ : Nat := 76
theorem vc_cmp_Compare_int_ (x : Int) (y : Int) (h : cB 111 [.int .i64 x] H fun b G => cB 111 [.int .i64 y] G fun b_1 G => brB b (brB b_1 (R (.int .i64 0) G)
 (R (.int .i64 (-1 : Int)) G)) (brB b_1 (R (.int .i64 1) G) (brB (decide (x < y)) (R (.int .i64 (-1 : Int)) G) (brB (decide (x > y)) (R (.int .i64 1) G) (R (.int .i64 0) G))))) : cH 76 ⟨[.int .i64 x, .int .i64 y]⟩ H R := vc_call (annOf []) followsAll Tryz.func76 rfl Tryz.ntmps76 rfl rfl (Eq.mpr (by kernel_rfl) h)
abbrev fn_slices_BinarySearchFunc___series_Series_series_Series_series_Series_ : Nat := 78
theorem vc_slices_BinarySearchFunc___series_Series_series_Series_series_Series_ (x_a : Option Addr) (x_n : Nat) (x_c : Nat) (target_0 : Int) (target_1_a : Option Addr) (target_1_n : Nat) (target_1_c
 : Nat) (cmp : Value) (h : ∀ (b : Nat) (G : Heap), New H b (.cells ⟨[.int .i64 target_0, .slice target_1_a target_1_n target_1_c]⟩ 92) G → ∃ (I : IV) (μ : MU),
 I [.int .i64 0, .int .i64 (↑x_n : Int)] G ∧ ∀ (J : F) (n n1 : Int) (G : Heap), I [.int .i64 n, .int .i64 n1] G → brB (decide (n < n1)) (ix x_a (wrap .i64 (Int.fdiv (wrap .u64
 (wrap .i64 (n + n1))) (2 ^ 1))) x_n fun ad => (∃ n2 a n3 c, lD 92 G (Addr.add ad (Int.toNat (wrap .i64 (Int.fdiv (wrap .u64 (wrap .i64 (n + n1))) (2 ^ 1))) * 2))
 (.agg ⟨[.int .i64 n2, .slice a n3 c]⟩) ∧ ∃ n4 a_1 n5 c_1, lD 92 G ⟨b, 0, none⟩ (.agg ⟨[.int .i64 n4, .slice a_1 n5 c_1]⟩) ∧ CallV Tryz.prog cmp [.agg ⟨[.int .i64 n2, .slice a n3 c]⟩, .agg
 ⟨[.int .i64 n4, .slice a_1 n5 c_1]⟩] G fun v G1 => ∃ n6, v = .int .i64 n6 ∧ brB (decide (n6 < 0)) (I [.int .i64 (wrap .i64 (wrap .i64 (Int.fdiv (wrap .u64
 (wrap .i64 (n + n1))) (2 ^ 1)) + 1)), .int .i64 n1] G1 ∧ μ [.int .i64 (wrap .i64 (wrap .i64 (Int.fdiv (wrap .u64 (wrap .i64 (n + n1))) (2 ^ 1)) + 1)),
 .int .i64 n1] G1 < μ [.int .i64 n, .int .i64 n1] G) (I [.int .i64 n, .int .i64 (wrap .i64 (Int.fdiv (wrap .u64 (wrap .i64 (n + n1))) (2 ^ 1)))] G1 ∧ μ [.int .i64 n,
 .int .i64 (wrap .i64 (Int.fdiv (wrap .u64 (wrap .i64 (n + n1))) (2 ^ 1)))] G1 < μ [.int .i64 n, .int .i64 n1] G))) (brB (decide (n < (↑x_n : Int))) (ix x_a n x_n fun ad
 => (∃ n2 a n3 c, lD 92 G (Addr.add ad (Int.toNat n * 2)) (.agg ⟨[.int .i64 n2, .slice a n3 c]⟩) ∧ ∃ n4 a_1 n5 c_1, lD 92 G ⟨b, 0, none⟩ (.agg ⟨[.int .i64 n4, .slice a_1 n5 c_1]⟩) ∧ CallV
 Tryz.prog cmp [.agg ⟨[.int .i64 n2, .slice a n3 c]⟩, .agg ⟨[.int .i64 n4, .slice a_1 n5 c_1]⟩] G fun v G => ∃ n6, v = .int .i64 n6 ∧ R (.tuple ⟨[.int .i64 n, .bool (n6 == 0)]⟩) G)) (R
 (.tuple ⟨[.int .i64 n, .bool false]⟩) G))) : CallH Tryz.prog 78 (List.toArray [.slice x_a x_n x_c, .agg #[.int .i64 target_0, .slice target_1_a target_1_n target_1_c], cmp]) H R := vc_call (annOf
 [([0, 0, 1, 1, 1], .cut [(9, .one (.int .i64)), (10, .one (.int .i64))]), ([0, 1, 0, 1, 0, 0, 0, 1, 1, 1], .tail 6), ([0, 1, 1, 1, 1], .reg [0, 0, 0, 6, 14, 30, 30, 30, 222, 478, 30, 2046, 4094,
 8190, 4095, 32767] (.quiet 0 (.quiet 1 (.quiet 2 (.quiet 3 (.quiet 4 (.quiet 5 (.quiet 6 (.quiet 7 (.quiet 8 (.quiet 9 (.quiet 10 (.pick (.alt 11 (.quiet 12 (.quiet 13 (.quiet 14 (.quiet 15
 .done)))) .stop))))))))))))))]) followsAll Tryz.func78 rfl Tryz.ntmps78 rfl rfl (Eq.mpr (by kernel_rfl) h)
abbrev fn_series_Merge : Nat := 79
theorem vc_series_Merge (a_a : Option Addr) (a_n : Nat) (a_c : Nat) (b_a : Option Addr) (b_n : Nat) (b_c : Nat) (h : cL 114 [.slice a_a a_n a_c, .slice b_a b_n
 b_c, .func (Fn.func 72) ⟨[]⟩ ⟨[]⟩] H fun a n c G => R (.slice a n c) G) : cH 79 ⟨[.slice a_a a_n a_c, .slice b_a b_n b_c]⟩ H R := vc_call (annOf []) followsAll
 Tryz.func79 rfl Tryz.ntmps79 rfl rfl (Eq.mpr (by kernel_rfl) h)
abbrev fn_series_merge_series_Series_ : Nat := 80
theorem vc_series_merge_series_Series_ (a_a : Option Addr) (a_n : Nat) (a_c : Nat) (b_a : Option Addr) (b_n : Nat) (b_c : Nat) (order : Value) (h : SemWp
 Tryz.prog (Instr.makeSlice 52 (.int .i64 0) (.int .i64 (wrap .i64 ((↑a_n : Int) + (↑b_n : Int))))) H fun v G => ∃ a n c, v = .slice a n c ∧ ∃ (I : IV) (μ : MU), I [.slice a_a a_n a_c,
 .slice b_a b_n b_c, .slice a n c] G ∧ ∀ (J : F) (a : Option Addr) (n c : Nat) (a_1 : Option Addr) (n1 c_1 : Nat) (a_2 : Option Addr) (n2 c_2 : Nat) (G : Heap), I [.slice a n c, .slice a_1 n1
 c_1, .slice a_2 n2 c_2] G → ∃ (M : IV), brB (decide ((↑n : Int) > 0)) (brB (decide ((↑n1 : Int) > 0)) (M [] G) (SemWp Tryz.prog (Builtin.append_ ⟨[52, 52]⟩ 52 ⟨[.slice a_2 n2 c_2, .slice a n
 c]⟩) G fun v G => ∃ a n c, v = .slice a n c ∧ SemWp Tryz.prog (Builtin.append_ ⟨[52, 52]⟩ 52 ⟨[.slice a n c, .slice a_1 n1 c_1]⟩) G fun v G => ∃ a n c, v = .slice a n c ∧ R (.slice a n c) G))
 (SemWp Tryz.prog (Builtin.append_ ⟨[52, 52]⟩ 52 ⟨[.slice a_2 n2 c_2, .slice a n c]⟩) G fun v G => ∃ a n c, v = .slice a n c ∧ SemWp Tryz.prog (Builtin.append_ ⟨[52, 52]⟩ 52 ⟨[.slice a n c, .slice
 a_1 n1 c_1]⟩) G fun v G => ∃ a n c, v = .slice a n c ∧ R (.slice a n c) G) ∧ ∀ (J : F) (G1 : Heap), M [] G1 → ix a (0) n fun ad => (∃ n3 a_5 n4 c_3, lD 92 G1 ad (.agg ⟨[.int .i64 n3,
 .slice a_5 n4 c_3]⟩) ∧ ix a_1 (0) n1 fun ad => (∃ n5 a_6 n6 c_4, lD 92 G1 ad (.agg ⟨[.int .i64 n5, .slice a_6 n6 c_4]⟩) ∧ CallV Tryz.prog order [.agg ⟨[.int .i64 n3, .slice a_5 n4 c_3]⟩,
 .agg ⟨[.int .i64 n5, .slice a_6 n6 c_4]⟩] G1 fun v G2 => ∃ n7, v = .int .i64 n7 ∧ brB (decide (n7 < 0)) (ix a (0) n fun ad => (∃ n8 a_7 n9 c_5, lD 92 G2 ad (.agg ⟨[.int .i64 n8, .slice
 a_7 n9 c_5]⟩) ∧ chk (decide ((0 : Int) ≤ (1 : Int) ∧ 1 ≤ (↑n : Int) ∧ (↑n : Int) ≤ (↑c : Int))) (∀ (b : Nat) (G3 : Heap), New G2 b (.cells ⟨[.int .i64 n8, .slice a_7 n9 c_5]⟩ 92) G3 → SemWp
 Tryz.prog (Builtin.append_ ⟨[52, 52]⟩ 52 ⟨[.slice a_2 n2 c_2, .slice (some ⟨b, 0, none⟩) 1 1]⟩) G3 fun v G4 => ∃ a_9 n10 c_6, v = .slice a_9 n10 c_6 ∧ I [.slice (slA c 1 2 a) (Int.toNat (↑n :
 Int) - 1) (c - 1), .slice a_1 n1 c_1, .slice a_9 n10 c_6] G4 ∧ μ [.slice (slA c 1 2 a) (Int.toNat (↑n : Int) - 1) (c - 1), .slice a_1 n1 c_1, .slice a_9 n10 c_6] G4 < μ [.slice a n c, .slice
 a_1 n1 c_1, .slice a_2 n2 c_2] G))) (brB (n7 == 0) (chk (decide ((0 : Int) ≤ (1 : Int) ∧ 1 ≤ (↑n : Int) ∧ (↑n : Int) ≤ (↑c : Int))) (ix a_1 (0) n1 fun ad => (∃ n8 a_7 n9 c_5, lD 92 G2 ad
 (.agg ⟨[.int .i64 n8, .slice a_7 n9 c_5]⟩) ∧ chk (decide ((0 : Int) ≤ (1 : Int) ∧ 1 ≤ (↑n1 : Int) ∧ (↑n1 : Int) ≤ (↑c_1 : Int))) (∀ (b : Nat) (G3 : Heap), New G2 b (.cells ⟨[.int .i64 n8,
 .slice a_7 n9 c_5]⟩ 92) G3 → SemWp Tryz.prog (Builtin.append_ ⟨[52, 52]⟩ 52 ⟨[.slice a_2 n2 c_2, .slice (some ⟨b, 0, none⟩) 1 1]⟩) G3 fun v G4 => ∃ a_9 n10 c_6, v = .slice a_9 n10 c_6 ∧ I
 [.slice (slA c 1 2 a) (Int.toNat (↑n : Int) - 1) (c - 1), .slice (slA c_1 1 2 a_1) (Int.toNat (↑n1 : Int) - 1) (c_1 - 1), .slice a_9 n10 c_6] G4 ∧ μ [.slice (slA c 1 2 a) (Int.toNat (↑n : Int) -
 1) (c - 1), .slice (slA c_1 1 2 a_1) (Int.toNat (↑n1 : Int) - 1) (c_1 - 1), .slice a_9 n10 c_6] G4 < μ [.slice a n c, .slice a_1 n1 c_1, .slice a_2 n2 c_2] G)))) (ix a_1 (0) n1 fun ad => (∃
 n8 a_7 n9 c_5, lD 92 G2 ad (.agg ⟨[.int .i64 n8, .slice a_7 n9 c_5]⟩) ∧ chk (decide ((0 : Int) ≤ (1 : Int) ∧ 1 ≤ (↑n1 : Int) ∧ (↑n1 : Int) ≤ (↑c_1 : Int))) (∀ (b : Nat) (G3 : Heap), New
 G2 b (.cells ⟨[.int .i64 n8, .slice a_7 n9 c_5]⟩ 92) G3 → SemWp Tryz.prog (Builtin.append_ ⟨[52, 52]⟩ 52 ⟨[.slice a_2 n2 c_2, .slice (some ⟨b, 0, none⟩) 1 1]⟩) G3 fun v G4 => ∃ a_9 n10
 c_6, v = .slice a_9 n10 c_6 ∧ I [.slice a n c, .slice (slA c_1 1 2 a_1) (Int.toNat (↑n1 : Int) - 1) (c_1 - 1), .slice a_9 n10 c_6] G4 ∧ μ [.slice a n c, .slice (slA c_1 1 2 a_1) (Int.toNat
 (↑n1 : Int) - 1) (c_1 - 1), .slice a_9 n10 c_6] G4 < μ [.slice a n c, .slice a_1 n1 c_1, .slice a_2 n2 c_2] G))))))) : cH 80 ⟨[.slice a_a a_n a_c, .slice b_a b_n
 b_c, order]⟩ H R := vc_call (annOf [([0, 0, 1, 1], .cut [(0, .one .slice), (1, .one .slice), (7, .one .slice)]), ([0, 0, 0, 1, 1], .cut []), ([0, 0, 1, 0, 0, 0, 1, 1], .tail 7), ([0, 0, 1, 0, 1, 0,
 1, 0, 0, 0, 1, 1], .reg [0, 0, 2, 6, 14, 31, 0, 64, 63, 511] (.quiet 0 (.quiet 1 (.quiet 2 (.quiet 3 (.quiet 6 (.quiet 7 (.pick (.alt 4 (.pick (.alt 5 (.quiet 8 (.quiet 9 .done)) .stop))
 .stop))))))))), ([1, 1, 1, 0, 1, 0, 0, 0, 1, 1], .reg [0, 0, 2, 6, 14, 31, 0, 64, 63, 511] (.quiet 0 (.quiet 1 (.quiet 2 (.quiet 3 (.quiet 6 (.quiet 7 (.pick (.alt 4 (.pick (.alt 5 (.quiet 8 (.quiet
 9 .done)) .stop)) .stop)))))))))]) followsAll Tryz.func80 rfl Tryz.ntmps80 rfl rfl (Eq.mpr (by kernel_rfl) h)
abbrev fn_slices_Clone___api_Sample_api_Sample_ : Nat := 81
theorem vc_slices_Clone___api_Sample_api_Sample_ (s_a : Option Addr) (s_n : Nat) (s_c : Nat) (h : brB (Option.isNone s_a) (R (.slice none 0 0) H) (∀ (b : Nat)
 (G : Heap), New H b (.cells ⟨[]⟩ 107) G → SemWp Tryz.prog (Builtin.append_ ⟨[90, 90]⟩ 90 ⟨[.slice (some ⟨b, 0, none⟩) 0 0, .slice s_a s_n s_c]⟩) G fun v G => ∃ a n c, v = .slice a n c ∧ R
 (.slice a n c) G)) : cH 81 ⟨[.slice s_a s_n s_c]⟩ H R := vc_call (annOf []) followsAll Tryz.func81 rfl Tryz.ntmps81 rfl rfl (Eq.mpr (by kernel_rfl) h)
abbrev fn_strings_Builder_copyCheck : Nat := 82
theorem vc_strings_Builder_copyCheck (b : Addr) (h : ∃ a, lD 80 H b (.pointer a) ∧ brB (Option.isNone a) (SemWp Tryz.prog (convert 80 173 (.pointer (some b))) H
 fun v G => ∃ v_1, v = v_1 ∧ ExtH Tryz.prog 115 ⟨[v_1]⟩ G fun v G => ∃ v_2, v = v_2 ∧ SemWp Tryz.prog (convert 173 80 v_2) G fun v G => ∃ a, v = .pointer a ∧ ∃ G1, sT 80 G b (.pointer a) G1
 ∧ R (.tuple ⟨[]⟩) G1) (∃ a, lD 80 H b (.pointer a) ∧ ∃ r, RdA Tryz.prog (eqSem BinOp.neq 80 (Operand.tmp 17) (Operand.tmp 18) (.pointer a) (.pointer (some b))) (.bool r) ∧ brB r False (R (.tuple
 ⟨[]⟩) H))) : cH 82 ⟨[.pointer (some b)]⟩ H R := vc_call (annOf []) followsAll Tryz.func82 rfl Tryz.ntmps82 rfl rfl (Eq.mpr (by kernel_rfl) h)
theorem vc_delta_numbers (l_a : Option Addr) (l_n : Nat) (l_c : Nat) (h : ∀ (b : Nat) (G : Heap), New H b (.cells ⟨[.slice l_a l_n l_c]⟩ 90) G → R (.func
 (Fn.func 116) ⟨[]⟩ ⟨[.pointer (some ⟨b, 0, none⟩)]⟩) G) : cH 83 ⟨[.slice l_a l_n l_c]⟩ H R := vc_call (annOf []) followsAll Tryz.func83 rfl Tryz.ntmps83 rfl rfl (Eq.mpr
 (by kernel_rfl) h)
abbrev fn_rice_Best : Nat := 84
theorem vc_rice_Best (l_a : Option Addr) (l_n : Nat) (l_c : Nat) (h : ∀ (b : Nat) (G : Heap), New H b (.cells ⟨[.slice l_a l_n l_c]⟩ 138) G → ∃ a n c, lD 138
 G ⟨b, 0, none⟩ (.slice a n c) ∧ cI 117 [.slice a n c, .int .i64 0] G fun n G => ∀ (b_1 : Nat) (G1 : Heap), New G b_1 (.cells ⟨[.int .i64 0]⟩ 3) G1 → ∀ (b_2 : Nat) (G : Heap), New G1 b_2
 (.cells ⟨[.int .i64 0]⟩ 3) G → ∃ G2, sT 3 G ⟨b_1, 0, none⟩ (.int .i64 0) G2 ∧ ∃ G, sT 3 G2 ⟨b_2, 0, none⟩ (.int .i64 n) G ∧ ∃ (I : IV) (μ : MU), I [.int .i64 1] G ∧ ∀ (J : F) (n : Int)
 (G : Heap), I [.int .i64 n] G → brB (decide (n ≤ 40)) (CallV Tryz.prog (.func (Fn.func 118) ⟨[]⟩ ⟨[.pointer (some ⟨b, 0, none⟩), .pointer (some ⟨b_2, 0, none⟩), .pointer (some ⟨b_1, 0, none⟩)]⟩)
 [.int .i64 n] G fun v G3 => v = .tuple ⟨[]⟩ ∧ I [.int .i64 (wrap .i64 (n + 1))] G3 ∧ μ [.int .i64 (wrap .i64 (n + 1))] G3 < μ [.int .i64 n] G) (∃ n, lD 3 G ⟨b_1, 0, none⟩
 (.int .i64 n) ∧ R (.int .i64 n) G)) : cH 84 ⟨[.slice l_a l_n l_c]⟩ H R := vc_call (annOf [([0, 1, 0, 1, 1, 1], .cut [(6, .one (.int .i64))])]) followsAll Tryz.func84 rfl
 Tryz.ntmps84 rfl rfl (Eq.mpr (by kernel_rfl) h)
abbrev fn_rice_New : Nat := 85
theorem vc_rice_New (h : ∀ (b : Nat) (G : Heap), New H b (.cells ⟨[.pointer none, .slice none 0 0, .int .u64 0, .int .i64 0]⟩ 179) G → R (.pointer (some ⟨b, 0,
 none⟩)) G) : cH 85 ⟨[]⟩ H R := vc_call (annOf []) followsAll Tryz.func85 rfl Tryz.ntmps85 rfl rfl (Eq.mpr (by kernel_rfl) h)
abbrev fn_rice_Writer_Rice : Nat := 86
theorem vc_rice_Writer_Rice (w : Addr) (n : Int) (k : Int) (h : ∃ (M : IV), brB (decide (k < 0)) (R (.int .i64 1) H) (brB (decide (k > 40)) (R (.int .i64 1) H)
 (M [] H)) ∧ ∀ (J : F) (G : Heap), M [] G → chk (decide (0 ≤ wrap .u64 k)) (brB (decide (Int.fdiv n (2 ^ min (Int.toNat (wrap .u64 k)) (IntKind.bits .u64)) ≥ 24)) (cU 119 [.pointer
 (some w), .int .u64 16777215, .int .i64 24] G fun G => cU 119 [.pointer (some w), .int .u64 n, .int .i64 64] G fun G => R (.int .i64 0) G) (chk (decide (0 ≤ Int.fdiv n (2 ^ min (Int.toNat
 (wrap .u64 k)) 64))) (cU 119 [.pointer (some w), .int .u64 (wrap .u64 (wrap .u64 (wrap .u64 (1 * 2 ^ min (Int.toNat (Int.fdiv n (2 ^ min (Int.toNat (wrap .u64
 k)) 64))) 64) - 1) * 2 ^ 1)), .int .i64 (wrap .i64 (wrap .i64 (Int.fdiv n (2 ^ min (Int.toNat (wrap .u64 k)) 64)) + 1))] G fun G => chk (decide (0 ≤ wrap .u64 k))
 (cU 119 [.pointer (some w), .int .u64 (wrap .u64 (↑(BitVec.toNat (BitVec.ofInt 64 n &&& BitVec.ofInt 64 (wrap .u64 (wrap .u64 (1 * 2 ^ min (Int.toNat (wrap .u64 k))
 64) - 1)))) : Int)), .int .i64 k] G fun G => R (.int .i64 0) G))))) : cH 86 ⟨[.pointer (some w), .int .u64 n, .int .i64 k]⟩ H R := vc_call (annOf [([1], .cut [])])
 followsAll Tryz.func86 rfl Tryz.ntmps86 rfl rfl (Eq.mpr (by kernel_rfl) h)
abbrev fn_rice_Writer_Bytes : Nat := 87
theorem vc_rice_Writer_Bytes (w : Addr) (h : ∃ n, lD 3 H (Addr.add w 3) (.int .i64 n) ∧ brB (n == 0) (cS 47 [.pointer (some w)] H fun s G => R (.string s) G)
 (∃ n, lD 89 H (Addr.add w 2) (.int .u64 n) ∧ ∃ n1, lD 3 H (Addr.add w 3) (.int .i64 n1) ∧ chk (decide (0 ≤ wrap .u64 (wrap .i64 (8 - n1)))) ((cS 47 [.pointer (some w)] H fun s G
 => lD 3 G (Addr.add w 3) (.int .i64 n1) ∧ lD 89 G (Addr.add w 2) (.int .u64 n) ∧ ∀ (b : Nat) (G1 : Heap), New G b (.cells ⟨[.int .u8 (wrap .u8 (wrap .u64 (n * 2 ^ min
 (Int.toNat (wrap .u64 (wrap .i64 (8 - n1)))) 64)))]⟩ 5) G1 → SemWp Tryz.prog (convert 81 9 (.slice (some ⟨b, 0, none⟩) 1 1)) G1 fun v G => ∃ s_1, v = .string s_1 ∧ chk (decide
 (s.size + s_1.size ≤ 9223372036854775807)) (R (.string (s ++ s_1)) G)) ∧ ∀ (b : Nat) (G : Heap), New H b (.cells ⟨[.int .u8 (wrap .u8 (wrap .u64 (n * 2 ^ min
 (Int.toNat (wrap .u64 (wrap .i64 (8 - n1)))) 64)))]⟩ 5) G → (cS 47 [.pointer (some w)] G fun s G => SemWp Tryz.prog (convert 81 9 (.slice (some ⟨b, 0, none⟩) 1 1)) G fun v G =>
 ∃ s_1, v = .string s_1 ∧ chk (decide (s.size + s_1.size ≤ 9223372036854775807)) (R (.string (s ++ s_1)) G)) ∧ SemWp Tryz.prog (convert 81 9 (.slice (some ⟨b, 0, none⟩) 1 1)) G
 fun v G => ∃ s, v = .string s ∧ cS 47 [.pointer (some w)] G fun s_1 G => chk (decide (s_1.size + s.size ≤ 9223372036854775807)) (R (.string (s_1 ++ s)) G)))) : cH 87 ⟨[.pointer (some w)]⟩ H R := vc_call (annOf [([0, 1, 1], .reg [0, 1, 3, 7, 0, 16, 48, 112, 0, 256, 768, 1792, 3840, 7936, 16368, 32752, 65520, 131056, 262143, 524287]
 (.quiet 0 (.quiet 1 (.quiet 2 (.quiet 4 (.quiet 5 (.quiet 6 (.quiet 7 (.quiet 8 (.quiet 9 (.quiet 10 (.quiet 11 (.quiet 12 (.quiet 13 (.quiet 14 (.quiet 15 (.pick (.alt 3 (.pick (.alt 16 (.pick
 (.alt 17 (.quiet 18 (.quiet 19 .done)) .stop)) .stop)) (.alt 16 (.pick (.alt 3 (.pick (.alt 17 (.quiet 18 (.quiet 19 .done)) .stop)) (.alt 17 (.pick (.alt 3 (.quiet 18 (.quiet 19 .done)) .stop))
 .stop))) .stop)))))))))))))))))))]) followsAll Tryz.func87 rfl Tryz.ntmps87 rfl rfl (Eq.mpr (by kernel_rfl) h)
theorem vc_slices_Chunk___api_Row_api_Row__1 (yield : Value) (a1 : Addr) (a2 : Addr) (h : ∃ (I : IV) (μ : MU), I [.int .i64 0] H ∧ ∀ (J : F) (n : Int) (G :
 Heap), I [.int .i64 n] G → ∃ a n1 c, lD 22 G a1 (.slice a n1 c) ∧ brB (decide (n < (↑n1 : Int))) (∃ n2, lD 3 G a2 (.int .i64 n2) ∧ ∃ a n3 c, lD 22 G a1 (.slice a n3 c) ∧ chk (decide (0 ≤
 n ∧ n ≤ (↑n3 : Int) ∧ (↑n3 : Int) ≤ (↑c : Int))) (∃ a n4 c, lD 22 G a1 (.slice a n4 c) ∧ chk (decide (0 ≤ n ∧ n ≤ wrap .i64 (n + if (↑(Int.toNat (↑n3 : Int) - Int.toNat n) : Int) < n2
 then (↑(Int.toNat (↑n3 : Int) - Int.toNat n) : Int) else n2) ∧ wrap .i64 (n + if (↑(Int.toNat (↑n3 : Int) - Int.toNat n) : Int) < n2 then (↑(Int.toNat (↑n3 : Int) - Int.toNat n) : Int)
 else n2) ≤ wrap .i64 (n + if (↑(Int.toNat (↑n3 : Int) - Int.toNat n) : Int) < n2 then (↑(Int.toNat (↑n3 : Int) - Int.toNat n) : Int) else n2) ∧ wrap .i64 (n + if (↑(Int.toNat
 (↑n3 : Int) - Int.toNat n) : Int) < n2 then (↑(Int.toNat (↑n3 : Int) - Int.toNat n) : Int) else n2) ≤ (↑c : Int))) (CallY Tryz.prog yield [.slice (slA (Int.toNat (wrap .i64 (n + if
 (↑(Int.toNat (↑n3 : Int) - Int.toNat n) : Int) < n2 then (↑(Int.toNat (↑n3 : Int) - Int.toNat n) : Int) else n2))) (Int.toNat n) 3 a) (Int.toNat (wrap .i64 (n + if (↑(Int.toNat (↑n3 :
 Int) - Int.toNat n) : Int) < n2 then (↑(Int.toNat (↑n3 : Int) - Int.toNat n) : Int) else n2)) - Int.toNat n) (Int.toNat (wrap .i64 (n + if (↑(Int.toNat (↑n3 : Int) - Int.toNat n) : Int)
 < n2 then (↑(Int.toNat (↑n3 : Int) - Int.toNat n) : Int) else n2)) - Int.toNat n)] G fun v G1 => ∃ b, v = .bool b ∧ brB (!b) (R (.tuple ⟨[]⟩) G1) (∃ n5, lD 3 G1 a2 (.int .i64 n5) ∧ I
 [.int .i64 (wrap .i64 (n + n5))] G1 ∧ μ [.int .i64 (wrap .i64 (n + n5))] G1 < μ [.int .i64 n] G)))) (R (.tuple ⟨[]⟩) G)) : cH 88 ⟨[yield, .pointer
 (some a1), .pointer (some a2)]⟩ H R := vcY_call (annOf [([0, 1], .cut [(4, .one (.int .i64))]), ([0, 0, 0, 1, 0, 0, 1], .reg [0, 0, 0, 6, 14, 31, 63] (.quiet 0 (.quiet 1 (.quiet 2 (.quiet 3 (.quiet
 4 (.quiet 5 (.quiet 6 .done))))))))]) followsAll Tryz.func88 rfl Tryz.ntmps88 rfl rfl (Eq.mpr (by kernel_rfl) h)
abbrev fn_zig_Fold : Nat := 89
theorem vc_zig_Fold (n : Int) (h : R (.int .u64 (wrap .u64 (↑(BitVec.toNat (BitVec.ofInt 64 (wrap .u64 (wrap .i64 (n * 2 ^ 1))) ^^^
 BitVec.ofInt 64 (wrap .u64 (Int.fdiv n (2 ^ 63))))) : Int))) H) : cH 89 ⟨[.int .i64 n]⟩ H R := vc_call (annOf []) followsAll Tryz.func89 rfl Tryz.ntmps89 rfl rfl
 (Eq.mpr (by kernel_rfl) h)
abbrev fn_zig_GetUint : Nat := 90
theorem vc_zig_GetUint (s : ByteArray) (at' : Int) (h : ∃ (M : IV), brB (decide (at' < 0)) (R (.tuple ⟨[.int .u64 0, .int .i64 0, .int .i64 1]⟩) H) (brB (decide
 (at' > (↑(s.size) : Int))) (R (.tuple ⟨[.int .u64 0, .int .i64 0, .int .i64 1]⟩) H) (M [.int .u64 0] H)) ∧ ∀ (J : F) (n : Int) (G : Heap), M [.int .u64 n] G → ∃ (I : IV) (μ : MU), I
 [.int .u64 n, .int .i64 0] G ∧ ∀ (J : F) (n n1 : Int) (G : Heap), I [.int .u64 n, .int .i64 n1] G → brB (decide (n1 < 10)) (brB (wrap .i64 (at' + n1) == (↑(s.size) : Int))
 (R (.tuple ⟨[.int .u64 0, .int .i64 0, .int .i64 10]⟩) G) (chk (decide (0 ≤ wrap .i64 (at' + n1) ∧ wrap .i64 (at' + n1) < (↑(s.size) : Int))) (∃ (M : IV), brB (n1 == 9)
 (brB (decide ((↑(atB s (Int.toNat (wrap .i64 (at' + n1)))) : Int) > 1)) (R (.tuple ⟨[.int .u64 0, .int .i64 0, .int .i64 11]⟩) G) (brB ((↑(atB s (Int.toNat (wrap .i64 (at' +
 n1)))) : Int) == 0) (brB (decide (n1 > 0)) (R (.tuple ⟨[.int .u64 0, .int .i64 0, .int .i64 11]⟩) G) (M [.int .u64 n] G)) (M [.int .u64 n] G))) (brB ((↑(atB s (Int.toNat (wrap .i64 (at'
 + n1)))) : Int) == 0) (brB (decide (n1 > 0)) (R (.tuple ⟨[.int .u64 0, .int .i64 0, .int .i64 11]⟩) G) (M [.int .u64 n] G)) (M [.int .u64 n] G)) ∧ ∀ (J : F) (n2 : Int) (G1 : Heap), M [.int
 .u64 n2] G1 → chk (decide (0 ≤ wrap .u64 (wrap .i64 (7 * n1)))) (brB (decide ((↑(atB s (Int.toNat (wrap .i64 (at' + n1)))) : Int) < 128)) (R (.tuple ⟨[.int .u64
 (wrap .u64 (↑(BitVec.toNat (BitVec.ofInt 64 n2 ||| BitVec.ofInt 64 (wrap .u64 (wrap .u64 (wrap .u8 (↑(BitVec.toNat (BitVec.ofInt 8 (↑(atB s (Int.toNat (wrap
 .i64 (at' + n1)))) : Int) &&& BitVec.ofInt 8 127)) : Int)) * 2 ^ min (Int.toNat (wrap .u64 (wrap .i64 (7 * n1)))) 64)))) : Int)), .int .i64 (wrap .i64 (wrap .i64
 (at' + n1) + 1)), .int .i64 0]⟩) G1) (I [.int .u64 (wrap .u64 (↑(BitVec.toNat (BitVec.ofInt 64 n2 ||| BitVec.ofInt 64 (wrap .u64 (wrap .u64 (wrap .u8
 (↑(BitVec.toNat (BitVec.ofInt 8 (↑(atB s (Int.toNat (wrap .i64 (at' + n1)))) : Int) &&& BitVec.ofInt 8 127)) : Int)) * 2 ^ min (Int.toNat (wrap .u64 (wrap .i64 (7 * n1))))
 64)))) : Int)), .int .i64 (wrap .i64 (n1 + 1))] G1 ∧ μ [.int .u64 (wrap .u64 (↑(BitVec.toNat (BitVec.ofInt 64 n2 ||| BitVec.ofInt 64 (wrap .u64 (wrap .u64
 (wrap .u8 (↑(BitVec.toNat (BitVec.ofInt 8 (↑(atB s (Int.toNat (wrap .i64 (at' + n1)))) : Int) &&& BitVec.ofInt 8 127)) : Int)) * 2 ^ min (Int.toNat (wrap .u64 (wrap
 .i64 (7 * n1)))) 64)))) : Int)), .int .i64 (wrap .i64 (n1 + 1))] G1 < μ [.int .u64 n, .int .i64 n1] G))))) (R (.tuple ⟨[.int .u64 0, .int .i64 0, .int .i64 11]⟩) G)) : cH 90 ⟨[.string s, .int .i64 at']⟩ H R := vc_call (annOf [([1], .cut [(4, .one (.int .u64))]), ([0, 1, 0, 1, 1], .cut [(4, .one (.int .u64)), (17, .one (.int .i64))]), ([1, 1, 1, 0, 0, 1,
 1, 0, 0, 1, 0, 1, 1], .cut [(4, .one (.int .u64))])]) followsAll Tryz.func90 rfl Tryz.ntmps90 rfl rfl (Eq.mpr (by kernel_rfl) h)
theorem vc_major_parts_1 (yield : Value) (a1 : Addr) (a2 : Addr) (h : ∃ a n c, lD 98 H a1 (.slice a n c) ∧ ∃ (I : IV) (μ : MU), I [.int .i64 0] H ∧ ∀ (J : F)
 (n1 : Int) (G : Heap), I [.int .i64 n1] G → brB (decide (n1 < (↑n : Int))) (ix a n1 n fun ad => (∃ n n2 n3, lD 151 G (Addr.add ad (Int.toNat n1 * 3)) (.agg ⟨[.int .i64 n, .int .i64 n2,
 .int .i64 n3]⟩) ∧ ∀ (b : Nat) (G1 : Heap), New G b (.cells ⟨[.int .i64 0, .int .i64 0, .int .i64 0]⟩ 151) G1 → ∃ G2, sT 151 G1 ⟨b, 0, none⟩ (.agg ⟨[.int .i64 n, .int .i64 n2, .int .i64
 n3]⟩) G2 ∧ ∃ n, lD 3 G2 ⟨b, 0, none⟩ (.int .i64 n) ∧ ∃ s, lD 9 G2 a2 (.string s) ∧ ∃ n4, lD 3 G2 ⟨b, 1, none⟩ (.int .i64 n4) ∧ ∃ n5, lD 3 G2 ⟨b, 2, none⟩ (.int .i64 n5) ∧ chk (decide
 (0 ≤ n4 ∧ n4 ≤ n5 ∧ n5 ≤ (↑(s.size) : Int))) (CallY Tryz.prog yield [.int .i64 n, .string (ByteArray.extract s (Int.toNat n4) (Int.toNat n5))] G2 fun v G3 => ∃ b, v = .bool b ∧
 brB (!b) (R (.tuple ⟨[]⟩) G3) (I [.int .i64 (wrap .i64 (n1 + 1))] G3 ∧ μ [.int .i64 (wrap .i64 (n1 + 1))] G3 < μ [.int .i64 n1] G)))) (R (.tuple ⟨[]⟩) G)) : cH 91 ⟨[yield, .pointer (some a1), .pointer (some a2)]⟩ H R := vcY_call (annOf [([0, 1], .cut [(8, .one (.int .i64))]), ([0, 1, 0, 0, 1, 1, 0, 0, 1], .reg [0, 0, 2, 0, 0, 16, 0,
 64, 248, 511, 1023] (.quiet 0 (.quiet 1 (.quiet 2 (.quiet 3 (.quiet 4 (.quiet 5 (.quiet 6 (.quiet 7 (.quiet 8 (.pick (.alt 9 (.quiet 10 .done) .stop))))))))))))]) followsAll Tryz.func91 rfl
 Tryz.ntmps91 rfl rfl (Eq.mpr (by kernel_rfl) h)
abbrev fn_delta_Decode : Nat := 92
theorem vc_delta_Decode (s : ByteArray) (h : cH 90 ⟨[.string s, .int .i64 0]⟩ H fun v G => ∃ n n1 n2, v = .tuple ⟨[.int .u64 n, .int .i64 n1, .int .i64 n2]⟩
 ∧ ∃ (M : IV), (∃ (M_1 : IV), brB (n2 != 0) (M_1 [.bool true] G) (brB (decide (n > 5000)) (M_1 [.bool true] G) (brB (n == 0) (M_1 [.bool (decide (n1 < (↑(s.size) : Int)))] G) (M_1
 [.bool false] G))) ∧ ∀ (J : F) (b : Bool) (G : Heap), M_1 [.bool b] G → brB b (R (.tuple ⟨[.slice none 0 0, .int .i64 11]⟩) G) (brB (n == 0) (R (.tuple ⟨[.slice none 0 0, .int .i64 0]⟩) G) (M
 [] G))) ∧ ∀ (J : F) (G : Heap), M [] G → cH 90 ⟨[.string s, .int .i64 n1]⟩ G fun v G => ∃ n3 n4 n5, v = .tuple ⟨[.int .u64 n3, .int .i64 n4, .int .i64 n5]⟩ ∧ ∃ (M : IV), brB (n5 != 0)
 (R (.tuple ⟨[.slice none 0 0, .int .i64 11]⟩) G) (brB (decide (n3 ≥ 1099511627776)) (R (.tuple ⟨[.slice none 0 0, .int .i64 11]⟩) G) (M [] G)) ∧ ∀ (J : F) (G : Heap), M [] G → cH 120 ⟨[.string
 s, .int .i64 n4]⟩ G fun v G => ∃ n6 n7 n8, v = .tuple ⟨[.int .i64 n6, .int .i64 n7, .int .i64 n8]⟩ ∧ brB (n8 != 0) (R (.tuple ⟨[.slice none 0 0, .int .i64 11]⟩) G) (∀ (b : Nat) (G1 :
 Heap), New G b (.cells ⟨[.int .i64 (wrap .i64 n3), .int .i64 n6]⟩ 107) G1 → brB (decide (n > 1)) (chk (decide (0 ≤ n7 ∧ n7 ≤ (↑(s.size) : Int) ∧ (↑(s.size) : Int)
 ≤ (↑(s.size) : Int))) (cH 121 ⟨[.slice (some ⟨b, 0, none⟩) 1 1, .int .i64 (wrap .i64 n), .string (ByteArray.extract s (Int.toNat n7) (Int.toNat (↑(s.size) : Int)))]⟩
 G1 fun v G => ∃ a n c b, v = .tuple ⟨[.slice a n c, .bool b]⟩ ∧ brB (!b) (R (.tuple ⟨[.slice none 0 0, .int .i64 11]⟩) G) (cH 46 ⟨[.slice a n c]⟩ G fun v G => ∃ s_1 n9, v = .tuple ⟨[.string
 s_1, .int .i64 n9]⟩ ∧ brB (!ByteArray.toList s_1 == ByteArray.toList s) (R (.tuple ⟨[.slice none 0 0, .int .i64 11]⟩) G) (R (.tuple ⟨[.slice a n c, .int .i64 0]⟩) G)))) (brB (!n7 ==
 (↑(s.size) : Int)) (R (.tuple ⟨[.slice none 0 0, .int .i64 11]⟩) G1) (cH 46 ⟨[.slice (some ⟨b, 0, none⟩) 1 1]⟩ G1 fun v G => ∃ s_1 n, v = .tuple ⟨[.string s_1, .int .i64 n]⟩ ∧ brB
 (!ByteArray.toList s_1 == ByteArray.toList s) (R (.tuple ⟨[.slice none 0 0, .int .i64 11]⟩) G) (R (.tuple ⟨[.slice (some ⟨b, 0, none⟩) 1 1, .int .i64 0]⟩) G))))) : cH 92 ⟨[.string s]⟩ H R := vc_call (annOf [([1, 1], .cut []), ([0, 0, 1, 1], .cut [(19, .one .bool)]), ([1, 1, 1, 1], .cut [])]) followsAll Tryz.func92 rfl Tryz.ntmps92 rfl rfl (Eq.mpr (by kernel_rfl) h)
abbrev fn_cmp_Or_int_ : Nat := 93
theorem vc_cmp_Or_int_ (vals_a : Option Addr) (vals_n : Nat) (vals_c : Nat) (h : ∃ (I : IV) (μ : MU), I [.int .i64 0] H ∧ ∀ (J : F) (n : Int) (G : Heap), I
 [.int .i64 n] G → brB (decide (n < (↑vals_n : Int))) (ix vals_a n vals_n fun ad => (∃ n1, lD 3 G (Addr.add ad (Int.toNat n * 1)) (.int .i64 n1) ∧ brB (n1 != 0) (R (.int .i64 n1) G) (I [.int
 .i64 (wrap .i64 (n + 1))] G ∧ μ [.int .i64 (wrap .i64 (n + 1))] G < μ [.int .i64 n] G))) (R (.int .i64 0) G)) : cH 93 ⟨[.slice vals_a vals_n vals_c]⟩ H R := vc_call (annOf [([0, 1, 0, 1, 1], .cut [(8, .one (.int .i64))])]) followsAll Tryz.func93 rfl Tryz.ntmps93 rfl rfl (Eq.mpr (by kernel_rfl) h)
abbrev fn_runs_fences : Nat := 94
theorem vc_runs_fences (s : ByteArray) (h : ∀ (b : Nat) (G : Heap), New H b (.cells ⟨[.string s, .int .i64 0, .bool true]⟩ 187) G → cI 122 [.pointer (some ⟨b,
 0, none⟩), .int .i64 5001] G fun n G => ∃ (I : IV) (μ : MU), I [.slice none 0 0, .slice none 0 0, .int .i64 0, .int .i64 0, .int .i64 n] G ∧ ∀ (J : F) (a : Option Addr) (n c : Nat) (a_1 : Option
 Addr) (n1 c_1 : Nat) (n2 n3 n4 : Int) (G : Heap), I [.slice a n c, .slice a_1 n1 c_1, .int .i64 n2, .int .i64 n3, .int .i64 n4] G → brB (decide (n4 > 0)) (cI 122 [.pointer (some ⟨b, 0,
 none⟩), .int .i64 1099511627776] G fun n5 G1 => cI 122 [.pointer (some ⟨b, 0, none⟩), .int .i64 1099511627776] G1 fun n6 G2 => cI 122 [.pointer (some ⟨b, 0, none⟩), .int .i64 (wrap
 .i64 ((↑(s.size) : Int) + 1))] G2 fun n7 G3 => ∃ (M : IV), (∃ b_1, lD 4 G3 ⟨b, 2, none⟩ (.bool b_1) ∧ brB (!b_1) (R (.tuple ⟨[.slice none 0 0, .bool false]⟩) G3) (brB (decide
 (wrap .i64 (n5 + n6) ≥ 1099511627776)) (R (.tuple ⟨[.slice none 0 0, .bool false]⟩) G3) (brB (decide (n5 < n3)) (R (.tuple ⟨[.slice none 0 0, .bool false]⟩) G3) (M [] G3)))) ∧ ∀ (J
 : F) (G4 : Heap), M [] G4 → ∀ (b : Nat) (G5 : Heap), New G4 b (.cells ⟨[.int .i64 n5, .int .i64 (wrap .i64 (wrap .i64 (n5 + n6) + 1)), .int .i64 (if 16 < n4 then 16 else
 n4), .string { data := #[] }]⟩ 158) G5 → SemWp Tryz.prog (Builtin.append_ ⟨[154, 154]⟩ 154 ⟨[.slice a n c, .slice (some ⟨b, 0, none⟩) 1 1]⟩) G5 fun v G6 => ∃ a_5 n8 c_2, v = .slice a_5 n8
 c_2 ∧ ∀ (b : Nat) (G7 : Heap), New G6 b (.cells ⟨[.int .i64 n7]⟩ 3) G7 → SemWp Tryz.prog (Builtin.append_ ⟨[24, 24]⟩ 24 ⟨[.slice a_1 n1 c_1, .slice (some ⟨b, 0, none⟩) 1 1]⟩) G7 fun v G8
 => ∃ a_7 n9 c_3, v = .slice a_7 n9 c_3 ∧ I [.slice a_5 n8 c_2, .slice a_7 n9 c_3, .int .i64 (wrap .i64 (n2 + n7)), .int .i64 (wrap .i64 (n5 + n6)), .int .i64 (wrap
 .i64 (n4 - 16))] G8 ∧ μ [.slice a_5 n8 c_2, .slice a_7 n9 c_3, .int .i64 (wrap .i64 (n2 + n7)), .int .i64 (wrap .i64 (n5 + n6)), .int .i64 (wrap .i64 (n4 - 16))]
 G8 < μ [.slice a n c, .slice a_1 n1 c_1, .int .i64 n2, .int .i64 n3, .int .i64 n4] G) (∃ (M : IV), (∃ b_1, lD 4 G ⟨b, 2, none⟩ (.bool b_1) ∧ brB (!b_1) (R (.tuple ⟨[.slice none 0 0, .bool
 false]⟩) G) (∃ n, lD 3 G ⟨b, 1, none⟩ (.int .i64 n) ∧ brB (n2 != wrap .i64 ((↑(s.size) : Int) - n)) (R (.tuple ⟨[.slice none 0 0, .bool false]⟩) G) (M [] G))) ∧ ∀ (J : F) (G
 : Heap), M [] G → ∃ n5, lD 3 G ⟨b, 1, none⟩ (.int .i64 n5) ∧ ∃ (I : IV) (μ : MU), I [.int .i64 n5, .int .i64 0] G ∧ ∀ (J : F) (n6 n7 : Int) (G : Heap), I [.int .i64 n6, .int .i64 n7] G →
 brB (decide (n7 < (↑n1 : Int))) (ix a_1 n7 n1 fun ad => (∃ n8, lD 3 G (Addr.add ad (Int.toNat n7 * 1)) (.int .i64 n8) ∧ chk (decide (0 ≤ n6 ∧ n6 ≤ wrap .i64 (n6 + n8) ∧
 wrap .i64 (n6 + n8) ≤ (↑(s.size) : Int))) (ix a n7 n fun ad => (∃ G1, sT 9 G (Addr.add (Addr.add ad (Int.toNat n7 * 4)) 3) (.string (ByteArray.extract s (Int.toNat n6)
 (Int.toNat (wrap .i64 (n6 + n8))))) G1 ∧ I [.int .i64 (wrap .i64 (n6 + n8)), .int .i64 (wrap .i64 (n7 + 1))] G1 ∧ μ [.int .i64 (wrap .i64 (n6 + n8)), .int
 .i64 (wrap .i64 (n7 + 1))] G1 < μ [.int .i64 n6, .int .i64 n7] G)))) (R (.tuple ⟨[.slice a n c, .bool true]⟩) G))) : cH 94 ⟨[.string s]⟩ H R := vc_call
 (annOf [([0, 1, 0, 1, 1, 1, 1, 1], .cut [(5, .one .slice), (6, .one .slice), (7, .one (.int .i64)), (8, .one (.int .i64)), (9, .one (.int .i64))]), ([1, 1, 0, 0, 1, 0, 0, 1, 0, 1, 1, 1, 1, 1], .cut
 []), ([1, 1, 1, 1, 1, 1], .cut []), ([0, 1, 0, 1, 1, 1, 1, 1, 1, 1, 1], .cut [(13, .one (.int .i64)), (92, .one (.int .i64))])]) followsAll Tryz.func94 rfl Tryz.ntmps94 rfl rfl (Eq.mpr (by
 kernel_rfl) h)
abbrev fn_runs_fence_has : Nat := 95
theorem vc_runs_fence_has (f_0 : Int) (f_1 : Int) (f_2 : Int) (f_3 : ByteArray) (r_0 : Int) (r_1 : Int) (h : ∀ (b : Nat) (G : Heap), New H b (.cells ⟨[.int .i64
 f_0, .int .i64 f_1, .int .i64 f_2, .string f_3]⟩ 158) G → ∀ (b_1 : Nat) (G1 : Heap), New G b_1 (.cells ⟨[.int .i64 r_0, .int .i64 r_1]⟩ 112) G1 → ∃ n, lD 3 G1 ⟨b, 0, none⟩ (.int .i64 n) ∧ ∃
 n1, lD 3 G1 ⟨b_1, 0, none⟩ (.int .i64 n1) ∧ ∃ n2, lD 3 G1 ⟨b, 1, none⟩ (.int .i64 n2) ∧ ∃ n3, lD 3 G1 ⟨b_1, 1, none⟩ (.int .i64 n3) ∧ R (.bool (decide ((if n1 > n then n1 else n) < if
 n3 < n2 then n3 else n2))) G1) : CallH Tryz.prog 95 (List.toArray [.agg #[.int .i64 f_0, .int .i64 f_1, .int .i64 f_2, .string f_3], .agg #[.int .i64 r_0, .int .i64 r_1]]) H R := vc_call
 (annOf []) followsAll Tryz.func95 rfl Tryz.ntmps95 rfl rfl (Eq.mpr (by kernel_rfl) h)
abbrev fn_runs_fence_read : Nat := 96
theorem vc_runs_fence_read (f_0 : Int) (f_1 : Int) (f_2 : Int) (f_3 : ByteArray) (h : ∀ (b : Nat) (G : Heap), New H b (.cells ⟨[.int .i64 f_0, .int .i64 f_1,
 .int .i64 f_2, .string f_3]⟩ 158) G → ∃ s, lD 9 G ⟨b, 3, none⟩ (.string s) ∧ ∀ (b_1 : Nat) (G1 : Heap), New G b_1 (.cells ⟨[.string s, .int .i64 0, .bool true]⟩ 187) G1 → ∃ n, lD 3 G1 ⟨b,
 0, none⟩ (.int .i64 n) ∧ ∃ n1, lD 3 G1 ⟨b, 2, none⟩ (.int .i64 n1) ∧ ∃ (I : IV) (μ : MU), I [.slice none 0 0, .int .i64 n, .int .i64 0] G1 ∧ ∀ (J : F) (a : Option Addr) (n c : Nat) (n2 n3 :
 Int) (G : Heap), I [.slice a n c, .int .i64 n2, .int .i64 n3] G → brB (decide (n3 < n1)) (∃ (M : IV), (cI 122 [.pointer (some ⟨b_1, 0, none⟩), .int .i64 1099511627776] G fun n4 G => cI 122
 [.pointer (some ⟨b_1, 0, none⟩), .int .i64 200] G fun n5 G => ∃ s, lD 9 G ⟨b_1, 0, none⟩ (.string s) ∧ ∃ n6, lD 3 G ⟨b_1, 1, none⟩ (.int .i64 n6) ∧ cH 120 ⟨[.string s, .int .i64 n6]⟩ G fun
 v G => ∃ n7 n8 n9, v = .tuple ⟨[.int .i64 n7, .int .i64 n8, .int .i64 n9]⟩ ∧ ∀ (b : Nat) (G2 : Heap), New G b (.cells ⟨[.int .i64 0, .int .i64 0, .int .i64 0]⟩ 26) G2 → ∃ G, sT 26 G2
 ⟨b, 0, none⟩ (.agg ⟨[.int .i64 (wrap .i64 (n2 + n4)), .int .i64 n5, .int .i64 n7]⟩) G ∧ ∃ (M_1 : IV), (∃ (M : IV), (∃ b_2, lD 4 G ⟨b_1, 2, none⟩ (.bool b_2) ∧ brB (!b_2) (M [.bool
 true] G) (brB (n9 != 0) (M [.bool true] G) (brB (decide ((↑n : Int) > 0)) (∃ n10 n11 n12, lD 26 G ⟨b, 0, none⟩ (.agg ⟨[.int .i64 n10, .int .i64 n11, .int .i64 n12]⟩) ∧ ix a (wrap
 .i64 ((↑n : Int) - 1)) n fun ad => (∃ n13 n14 n15, lD 26 G (Addr.add ad (Int.toNat (wrap .i64 ((↑n : Int) - 1)) * 3)) (.agg ⟨[.int .i64 n13, .int .i64 n14, .int .i64 n15]⟩) ∧ cB 48
 [.agg ⟨[.int .i64 n10, .int .i64 n11, .int .i64 n12]⟩, .agg ⟨[.int .i64 n13, .int .i64 n14, .int .i64 n15]⟩] G fun b G => M [.bool !b] G)) (M [.bool false] G)))) ∧ ∀ (J : F) (b : Bool) (G
 : Heap), M [.bool b] G → brB b (R (.tuple ⟨[.slice none 0 0, .bool false]⟩) G) (M_1 [] G)) ∧ ∀ (J : F) (G : Heap), M_1 [] G → ∃ G3, sT 3 G ⟨b_1, 1, none⟩ (.int .i64 n8) G3 ∧ ∃ n10 n11
 n12, lD 26 G3 ⟨b, 0, none⟩ (.agg ⟨[.int .i64 n10, .int .i64 n11, .int .i64 n12]⟩) ∧ ∀ (b : Nat) (G : Heap), New G3 b (.cells ⟨[.int .i64 n10, .int .i64 n11, .int .i64 n12]⟩ 26) G →
 SemWp Tryz.prog (Builtin.append_ ⟨[22, 22]⟩ 22 ⟨[.slice a n c, .slice (some ⟨b, 0, none⟩) 1 1]⟩) G fun v G => ∃ a n c, v = .slice a n c ∧ M [.slice a n c, .int .i64 (wrap .i64 (n2 +
 n4))] G) ∧ ∀ (J : F) (a_2 : Option Addr) (n4 c_1 : Nat) (n5 : Int) (G2 : Heap), M [.slice a_2 n4 c_1, .int .i64 n5] G2 → I [.slice a_2 n4 c_1, .int .i64 n5, .int .i64 (wrap .i64
 (n3 + 1))] G2 ∧ μ [.slice a_2 n4 c_1, .int .i64 n5, .int .i64 (wrap .i64 (n3 + 1))] G2 < μ [.slice a n c, .int .i64 n2, .int .i64 n3] G) (∃ n4, lD 3 G ⟨b_1, 1, none⟩ (.int .i64
 n4) ∧ ∃ s, lD 9 G ⟨b_1, 0, none⟩ (.string s) ∧ brB (n4 == (↑(s.size) : Int)) (ix a (0) n fun ad => (∃ n5, lD 3 G ad (.int .i64 n5) ∧ ∃ n6, lD 3 G ⟨b, 0, none⟩ (.int .i64 n6) ∧ brB
 (n5 == n6) (∃ n7, lD 3 G ⟨b, 1, none⟩ (.int .i64 n7) ∧ R (.tuple ⟨[.slice a n c, .bool (n2 == wrap .i64 (n7 - 1))]⟩) G) (R (.tuple ⟨[.slice a n c, .bool false]⟩) G))) (R (.tuple
 ⟨[.slice a n c, .bool false]⟩) G))) : CallH Tryz.prog 96 (List.toArray [.agg #[.int .i64 f_0, .int .i64 f_1, .int .i64 f_2, .string f_3]]) H R := vc_call (annOf [([0, 1, 0, 1, 1, 1, 1], .cut [(5,
 .one .slice), (6, .one (.int .i64)), (21, .one (.int .i64))]), ([1, 1, 0, 0, 1, 0, 1, 1, 1, 1], .cut [(5, .one .slice), (6, .one (.int .i64))]), ([0, 1, 1, 0, 0, 1, 1, 0, 0, 1, 0, 1, 1, 1, 1], .reg
 [0, 1, 3, 7, 0, 16, 48, 112, 255, 511, 1023, 1023, 1023, 2047, 12287, 32767] (.quiet 0 (.quiet 1 (.quiet 2 (.quiet 3 (.quiet 4 (.quiet 5 (.quiet 6 (.quiet 7 (.pick (.alt 8 (.quiet 9 (.quiet 10
 (.quiet 11 (.quiet 12 (.quiet 13 (.quiet 14 (.quiet 15 .done))))))) .stop))))))))))), ([1, 1, 1, 1, 0, 0, 1, 1, 0, 0, 1, 0, 1, 1, 1, 1], .cut []), ([0, 1, 1, 1, 1, 0, 0, 1, 1, 0, 0, 1, 0, 1, 1, 1,
 1], .cut [(70, .one .bool)]), ([0, 0, 1, 1, 1, 1, 0, 0, 1, 1, 0, 0, 1, 0, 1, 1, 1, 1], .tail 21)]) followsAll Tryz.func96 rfl Tryz.ntmps96 rfl rfl (Eq.mpr (by kernel_rfl) h)
abbrev fn_slices_DeleteFunc___api_Row_api_Row_ : Nat := 97
theorem vc_slices_DeleteFunc___api_Row_api_Row_ (s_a : Option Addr) (s_n : Nat) (s_c : Nat) (del : Value) (h : cI 123 [.slice s_a s_n s_c, del] H fun n G => brB
 (n == (-1 : Int)) (R (.slice s_a s_n s_c) G) (∃ (I : IV) (μ : MU), I [.int .i64 n, .int .i64 (wrap .i64 (n + 1))] G ∧ ∀ (J : F) (n n1 : Int) (G : Heap), I [.int .i64 n, .int .i64 n1] G
 → brB (decide (n1 < (↑s_n : Int))) (ix s_a n1 s_n fun ad => (∃ n2 n3 n4, lD 26 G (Addr.add ad (Int.toNat n1 * 3)) (.agg ⟨[.int .i64 n2, .int .i64 n3, .int .i64 n4]⟩) ∧ ∀ (b : Nat) (G1 :
 Heap), New G b (.cells ⟨[.int .i64 0, .int .i64 0, .int .i64 0]⟩ 26) G1 → ∃ G2, sT 26 G1 ⟨b, 0, none⟩ (.agg ⟨[.int .i64 n2, .int .i64 n3, .int .i64 n4]⟩) G2 ∧ ∃ n5 n6 n7, lD 26 G2
 ⟨b, 0, none⟩ (.agg ⟨[.int .i64 n5, .int .i64 n6, .int .i64 n7]⟩) ∧ CallV Tryz.prog del [.agg ⟨[.int .i64 n5, .int .i64 n6, .int .i64 n7]⟩] G2 fun v G3 => ∃ b_1, v = .bool b_1 ∧ brB (!b_1)
 (∃ n8 n9 n10, lD 26 G3 ⟨b, 0, none⟩ (.agg ⟨[.int .i64 n8, .int .i64 n9, .int .i64 n10]⟩) ∧ ix s_a n s_n fun ad => (∃ G4, sT 26 G3 (Addr.add ad (Int.toNat n * 3)) (.agg ⟨[.int .i64 n8,
 .int .i64 n9, .int .i64 n10]⟩) G4 ∧ I [.int .i64 (wrap .i64 (n + 1)), .int .i64 (wrap .i64 (n1 + 1))] G4 ∧ μ [.int .i64 (wrap .i64 (n + 1)), .int .i64 (wrap
 .i64 (n1 + 1))] G4 < μ [.int .i64 n, .int .i64 n1] G)) (I [.int .i64 n, .int .i64 (wrap .i64 (n1 + 1))] G3 ∧ μ [.int .i64 n, .int .i64 (wrap .i64 (n1 + 1))] G3 < μ [.int
 .i64 n, .int .i64 n1] G))) (chk (decide (0 ≤ n ∧ n ≤ (↑s_n : Int) ∧ (↑s_n : Int) ≤ (↑s_c : Int))) (SemWp Tryz.prog (Builtin.clear_ ⟨[22]⟩ 0 ⟨[.slice (slA s_c (Int.toNat n) 3 s_a) (Int.toNat (↑s_n
 : Int) - Int.toNat n) (s_c - Int.toNat n)]⟩) G fun v G => v = .tuple ⟨[]⟩ ∧ chk (decide ((0 : Int) ≤ (0 : Int) ∧ 0 ≤ n ∧ n ≤ (↑s_c : Int))) (R (.slice s_a (Int.toNat n - 0) (s_c - 0)) G))))) :
 cH 97 ⟨[.slice s_a s_n s_c, del]⟩ H R := vc_call (annOf [([0, 1, 0, 1, 1, 1], .cut [(5, .one (.int .i64)), (6, .one (.int .i64))])]) followsAll Tryz.func97 rfl Tryz.ntmps97
 rfl rfl (Eq.mpr (by kernel_rfl) h)
theorem vc_runs_Between_1 (x_0 : Int) (x_1 : Int) (x_2 : Int) (a1 : Addr) (h : ∀ (b : Nat) (G : Heap), New H b (.cells ⟨[.int .i64 x_0, .int .i64 x_1, .int .i64
 x_2]⟩ 26) G → ∃ n, lD 3 G ⟨b, 0, none⟩ (.int .i64 n) ∧ ∃ n1, lD 3 G a1 (.int .i64 n1) ∧ brB (decide (n < n1)) (R (.bool true) G) (∃ n, lD 3 G ⟨b, 0, none⟩ (.int .i64 n) ∧ ∃ n2, lD 3 G
 (Addr.add a1 1) (.int .i64 n2) ∧ R (.bool (decide (n ≥ n2))) G)) : CallH Tryz.prog 98 (List.toArray [.agg #[.int .i64 x_0, .int .i64 x_1, .int .i64 x_2], .pointer (some a1)]) H R := vc_call
 (annOf []) followsAll Tryz.func98 rfl Tryz.ntmps98 rfl rfl (Eq.mpr (by kernel_rfl) h)
abbrev fn_ref01_GetUint : Nat := 99
theorem vc_ref01_GetUint (s : ByteArray) (at' : Int) (h : ∃ (M : IV), brB (decide (at' < 0)) (R (.tuple ⟨[.int .u64 0, .int .i64 0, .int .i64 1]⟩) H) (brB
 (decide (at' > (↑(s.size) : Int))) (R (.tuple ⟨[.int .u64 0, .int .i64 0, .int .i64 1]⟩) H) (M [] H)) ∧ ∀ (J : F) (G : Heap), M [] G → ∃ (I : IV) (μ : MU), I [.int .i64 0] G ∧ ∀ (J : F)
 (n : Int) (G : Heap), I [.int .i64 n] G → ∃ (M : IV), brB (decide (n < 10)) (brB (decide (wrap .i64 (at' + n) < (↑(s.size) : Int))) (chk (decide (0 ≤ wrap .i64 (at' + n)
 ∧ wrap .i64 (at' + n) < (↑(s.size) : Int))) (brB (decide ((↑(atB s (Int.toNat (wrap .i64 (at' + n)))) : Int) > 127)) (M [] G) (brB (n == 10) (R (.tuple ⟨[.int .u64 0, .int
 .i64 0, .int .i64 11]⟩) G) (brB (wrap .i64 (at' + n) == (↑(s.size) : Int)) (R (.tuple ⟨[.int .u64 0, .int .i64 0, .int .i64 10]⟩) G) (∃ (I : IV) (μ : MU), I [.int .u64 0, .int
 .i64 n] G ∧ ∀ (J : F) (n1 n2 : Int) (G : Heap), I [.int .u64 n1, .int .i64 n2] G → brB (decide (n2 ≥ 0)) (brB (decide (n1 > 144115188075855871)) (R (.tuple ⟨[.int .u64 0, .int .i64 0, .int
 .i64 11]⟩) G) (chk (decide (0 ≤ wrap .i64 (at' + n2) ∧ wrap .i64 (at' + n2) < (↑(s.size) : Int))) (I [.int .u64 (wrap .u64 (wrap .u64 (n1 * 128) +
 wrap .u64 (Int.tmod (↑(atB s (Int.toNat (wrap .i64 (at' + n2)))) : Int) 128))), .int .i64 (wrap .i64 (n2 - 1))] G ∧ μ [.int .u64 (wrap .u64 (wrap .u64 (n1
 * 128) + wrap .u64 (Int.tmod (↑(atB s (Int.toNat (wrap .i64 (at' + n2)))) : Int) 128))), .int .i64 (wrap .i64 (n2 - 1))] G < μ [.int .u64 n1, .int .i64 n2] G))) (chk
 (decide (0 ≤ at' ∧ at' ≤ wrap .i64 (wrap .i64 (at' + n) + 1) ∧ wrap .i64 (wrap .i64 (at' + n) + 1) ≤ (↑(s.size) : Int))) (cS 65 [.int .u64 n1] G fun s_1
 G => brB (!ByteArray.toList s_1 == ByteArray.toList (ByteArray.extract s (Int.toNat at') (Int.toNat (wrap .i64 (wrap .i64 (at' + n) + 1))))) (R (.tuple ⟨[.int .u64 0, .int .i64 0,
 .int .i64 11]⟩) G) (R (.tuple ⟨[.int .u64 n1, .int .i64 (wrap .i64 (wrap .i64 (at' + n) + 1)), .int .i64 0]⟩) G)))))))) (brB (n == 10) (R (.tuple ⟨[.int .u64 0, .int .i64 0, .int
 .i64 11]⟩) G) (brB (wrap .i64 (at' + n) == (↑(s.size) : Int)) (R (.tuple ⟨[.int .u64 0, .int .i64 0, .int .i64 10]⟩) G) (∃ (I : IV) (μ : MU), I [.int .u64 0, .int .i64 n] G ∧ ∀
 (J : F) (n1 n2 : Int) (G : Heap), I [.int .u64 n1, .int .i64 n2] G → brB (decide (n2 ≥ 0)) (brB (decide (n1 > 144115188075855871)) (R (.tuple ⟨[.int .u64 0, .int .i64 0, .int .i64 11]⟩) G)
 (chk (decide (0 ≤ wrap .i64 (at' + n2) ∧ wrap .i64 (at' + n2) < (↑(s.size) : Int))) (I [.int .u64 (wrap .u64 (wrap .u64 (n1 * 128) + wrap .u64
 (Int.tmod (↑(atB s (Int.toNat (wrap .i64 (at' + n2)))) : Int) 128))), .int .i64 (wrap .i64 (n2 - 1))] G ∧ μ [.int .u64 (wrap .u64 (wrap .u64 (n1 * 128) +
 wrap .u64 (Int.tmod (↑(atB s (Int.toNat (wrap .i64 (at' + n2)))) : Int) 128))), .int .i64 (wrap .i64 (n2 - 1))] G < μ [.int .u64 n1, .int .i64 n2] G))) (chk (decide (0
 ≤ at' ∧ at' ≤ wrap .i64 (wrap .i64 (at' + n) + 1) ∧ wrap .i64 (wrap .i64 (at' + n) + 1) ≤ (↑(s.size) : Int))) (cS 65 [.int .u64 n1] G fun s_1 G => brB
 (!ByteArray.toList s_1 == ByteArray.toList (ByteArray.extract s (Int.toNat at') (Int.toNat (wrap .i64 (wrap .i64 (at' + n) + 1))))) (R (.tuple ⟨[.int .u64 0, .int .i64 0, .int .i64
 11]⟩) G) (R (.tuple ⟨[.int .u64 n1, .int .i64 (wrap .i64 (wrap .i64 (at' + n) + 1)), .int .i64 0]⟩) G))))))) (brB (n == 10) (R (.tuple ⟨[.int .u64 0, .int .i64 0, .int .i64 11]⟩)
 G) (brB (wrap .i64 (at' + n) == (↑(s.size) : Int)) (R (.tuple ⟨[.int .u64 0, .int .i64 0, .int .i64 10]⟩) G) (∃ (I : IV) (μ : MU), I [.int .u64 0, .int .i64 n] G ∧ ∀ (J : F)
 (n1 n2 : Int) (G : Heap), I [.int .u64 n1, .int .i64 n2] G → brB (decide (n2 ≥ 0)) (brB (decide (n1 > 144115188075855871)) (R (.tuple ⟨[.int .u64 0, .int .i64 0, .int .i64 11]⟩) G) (chk
 (decide (0 ≤ wrap .i64 (at' + n2) ∧ wrap .i64 (at' + n2) < (↑(s.size) : Int))) (I [.int .u64 (wrap .u64 (wrap .u64 (n1 * 128) + wrap .u64
 (Int.tmod (↑(atB s (Int.toNat (wrap .i64 (at' + n2)))) : Int) 128))), .int .i64 (wrap .i64 (n2 - 1))] G ∧ μ [.int .u64 (wrap .u64 (wrap .u64 (n1 * 128) +
 wrap .u64 (Int.tmod (↑(atB s (Int.toNat (wrap .i64 (at' + n2)))) : Int) 128))), .int .i64 (wrap .i64 (n2 - 1))] G < μ [.int .u64 n1, .int .i64 n2] G))) (chk (decide (0
 ≤ at' ∧ at' ≤ wrap .i64 (wrap .i64 (at' + n) + 1) ∧ wrap .i64 (wrap .i64 (at' + n) + 1) ≤ (↑(s.size) : Int))) (cS 65 [.int .u64 n1] G fun s_1 G => brB
 (!ByteArray.toList s_1 == ByteArray.toList (ByteArray.extract s (Int.toNat at') (Int.toNat (wrap .i64 (wrap .i64 (at' + n) + 1))))) (R (.tuple ⟨[.int .u64 0, .int .i64 0, .int .i64
 11]⟩) G) (R (.tuple ⟨[.int .u64 n1, .int .i64 (wrap .i64 (wrap .i64 (at' + n) + 1)), .int .i64 0]⟩) G)))))) ∧ ∀ (J : F) (G1 : Heap), M [] G1 → I [.int .i64 (wrap .i64
 (n + 1))] G1 ∧ μ [.int .i64 (wrap .i64 (n + 1))] G1 < μ [.int .i64 n] G) : cH 99 ⟨[.string s, .int .i64 at']⟩ H R := vc_call (annOf [([1], .cut []), ([0, 0, 1,
 1, 1], .cut [(7, .one (.int .i64))]), ([0, 0, 0, 1, 1, 1], .cut []), ([0, 1, 0, 1, 1, 1, 1, 1, 1, 1], .cut [(8, .one (.int .u64)), (9, .one (.int .i64))]), ([0, 0, 1, 1, 1, 1, 1, 1, 1, 1], .reg [0,
 1, 0, 0, 0, 0, 48, 112, 252, 511] (.quiet 0 (.quiet 2 (.quiet 3 (.quiet 4 (.quiet 5 (.quiet 6 (.quiet 7 (.quiet 8 (.pick (.alt 1 (.quiet 9 .done) .stop)))))))))))]) followsAll Tryz.func99 rfl
 Tryz.ntmps99 rfl rfl (Eq.mpr (by kernel_rfl) h)
abbrev fn_ref03_Decode : Nat := 100
theorem vc_ref03_Decode (s : ByteArray) (h : cH 124 ⟨[.string s]⟩ H fun v G => ∃ a n c b, v = .tuple ⟨[.slice a n c, .bool b]⟩ ∧ brB (!b) (R (.tuple ⟨[.slice
 none 0 0, .int .i64 11]⟩) G) (cH 66 ⟨[.slice a n c]⟩ G fun v G => ∃ s_1 n1, v = .tuple ⟨[.string s_1, .int .i64 n1]⟩ ∧ brB (n1 != 0) (R (.tuple ⟨[.slice none 0 0, .int .i64 11]⟩) G) (brB
 (!ByteArray.toList s_1 == ByteArray.toList s) (R (.tuple ⟨[.slice none 0 0, .int .i64 11]⟩) G) (R (.tuple ⟨[.slice a n c, .int .i64 0]⟩) G)))) : cH 100 ⟨[.string s]⟩ H R := vc_call (annOf []) followsAll Tryz.func100 rfl Tryz.ntmps100 rfl rfl (Eq.mpr (by kernel_rfl) h)
abbrev fn_ref16_read : Nat := 101
theorem vc_ref16_read (s : ByteArray) (f_0 : Int) (f_1 : Int) (n : Int) (h : ∀ (b : Nat) (G : Heap), New H b (.cells ⟨[.int .i64 f_0, .int .i64 f_1]⟩ 112) G →
 ∀ (b_1 : Nat) (G1 : Heap), New G b_1 (.cells ⟨[]⟩ 26) G1 → ∃ n1, lD 3 G1 ⟨b, 0, none⟩ (.int .i64 n1) ∧ ∃ (I : IV) (μ : MU), I [.slice (some ⟨b_1, 0, none⟩) 0 0, .int .i64 n1, .int .i64 0,
 .int .i64 0] G1 ∧ ∀ (J : F) (a : Option Addr) (n2 c : Nat) (n3 n4 n5 : Int) (G : Heap), I [.slice a n2 c, .int .i64 n3, .int .i64 n4, .int .i64 n5] G → brB (decide (n5 < n)) (cH 99
 ⟨[.string s, .int .i64 n4]⟩ G fun v G2 => ∃ n n6 n7, v = .tuple ⟨[.int .u64 n, .int .i64 n6, .int .i64 n7]⟩ ∧ cH 99 ⟨[.string s, .int .i64 n6]⟩ G2 fun v G3 => ∃ n8 n9 n10, v = .tuple
 ⟨[.int .u64 n8, .int .i64 n9, .int .i64 n10]⟩ ∧ cH 125 ⟨[.string s, .int .i64 n9]⟩ G3 fun v G4 => ∃ n11 n12 n13, v = .tuple ⟨[.int .i64 n11, .int .i64 n12, .int .i64 n13]⟩ ∧ ∃ (M :
 IV), brB (n7 != 0) (R (.tuple ⟨[.slice none 0 0, .bool false]⟩) G4) (brB (n10 != 0) (R (.tuple ⟨[.slice none 0 0, .bool false]⟩) G4) (brB (n13 != 0) (R (.tuple ⟨[.slice none 0 0, .bool
 false]⟩) G4) (brB (decide (n ≥ 1099511627776)) (R (.tuple ⟨[.slice none 0 0, .bool false]⟩) G4) (brB (decide (n8 ≥ 200)) (R (.tuple ⟨[.slice none 0 0, .bool false]⟩) G4) (M [] G4))))) ∧ ∀
 (J : F) (G5 : Heap), M [] G5 → ∀ (b : Nat) (G6 : Heap), New G5 b (.cells ⟨[.int .i64 (wrap .i64 (n3 + wrap .i64 n)), .int .i64 (wrap .i64 n8), .int .i64 n11]⟩ 26)
 G6 → SemWp Tryz.prog (Builtin.append_ ⟨[22, 22]⟩ 22 ⟨[.slice a n2 c, .slice (some ⟨b, 0, none⟩) 1 1]⟩) G6 fun v G7 => ∃ a_4 n14 c_1, v = .slice a_4 n14 c_1 ∧ I [.slice a_4 n14 c_1, .int
 .i64 (wrap .i64 (n3 + wrap .i64 n)), .int .i64 n12, .int .i64 (wrap .i64 (n5 + 1))] G7 ∧ μ [.slice a_4 n14 c_1, .int .i64 (wrap .i64 (n3 + wrap .i64
 n)), .int .i64 n12, .int .i64 (wrap .i64 (n5 + 1))] G7 < μ [.slice a n2 c, .int .i64 n3, .int .i64 n4, .int .i64 n5] G) (∃ (M : IV), (∃ (M_1 : IV), brB (n4 != (↑(s.size)
 : Int)) (M_1 [.bool true] G) (cB 38 [.slice a n2 c] G fun b_2 G => brB (!b_2) (M_1 [.bool true] G) (ix a (0) n2 fun ad => (∃ n6, lD 3 G ad (.int .i64 n6) ∧ ∃ n7, lD 3 G ⟨b, 0, none⟩ (.int
 .i64 n7) ∧ brB (n6 != n7) (M_1 [.bool true] G) (ix a (wrap .i64 (n - 1)) n2 fun ad => (∃ n8, lD 3 G (Addr.add ad (Int.toNat (wrap .i64 (n - 1)) * 3)) (.int .i64 n8) ∧ ∃ n, lD
 3 G ⟨b, 1, none⟩ (.int .i64 n) ∧ M_1 [.bool (n8 != wrap .i64 (n - 1))] G))))) ∧ ∀ (J : F) (b : Bool) (G : Heap), M_1 [.bool b] G → brB b (R (.tuple ⟨[.slice none 0 0, .bool false]⟩) G)
 (M [] G)) ∧ ∀ (J : F) (G : Heap), M [] G → R (.tuple ⟨[.slice a n2 c, .bool true]⟩) G)) : CallH Tryz.prog 101 (List.toArray [.string s, .agg #[.int .i64 f_0, .int .i64 f_1], .int .i64 n]) H R
 := vc_call (annOf [([0, 1, 0, 1, 1, 1, 1], .cut [(8, .one .slice), (9, .one (.int .i64)), (10, .one (.int .i64)), (11, .one (.int .i64))]), ([1, 1, 1, 0, 0, 1, 0, 0, 1, 0, 1, 1, 1, 1], .cut []),
 ([1, 1, 1, 1, 1], .cut []), ([0, 1, 1, 1, 1, 1], .cut [(110, .one .bool)]), ([0, 0, 1, 1, 1, 1, 1], .reg [0, 0, 2, 7, 15, 31, 63, 127, 255, 511, 1023, 2047, 4095, 8191, 1023, 17407, 65535, 131071,
 262143, 524287, 524287, 1572863, 4194303, 8388607, 16777215, 524287, 34078719, 101187583, 268435455, 536870911] (.quiet 0 (.quiet 1 (.quiet 2 (.quiet 3 (.quiet 4 (.quiet 5 (.pick (.alt 6 (.quiet 7
 (.quiet 8 (.quiet 9 (.quiet 10 (.quiet 11 (.quiet 12 (.quiet 13 (.quiet 14 (.quiet 15 (.quiet 16 (.quiet 17 (.quiet 18 (.quiet 19 (.quiet 20 (.quiet 21 (.quiet 22 (.quiet 23 (.quiet 24 (.quiet 25
 (.quiet 26 (.quiet 27 (.quiet 28 (.quiet 29 .done))))))))))))))))))))))) .stop)))))))))]) followsAll Tryz.func101 rfl Tryz.ntmps101 rfl rfl (Eq.mpr (by kernel_rfl) h)
abbrev fn_ref13_Rises : Nat := 102
theorem vc_ref13_Rises (l_a : Option Addr) (l_n : Nat) (l_c : Nat) (h : ∃ (I : IV) (μ : MU), I [.int .i64 1] H ∧ ∀ (J : F) (n : Int) (G : Heap), I [.int .i64 n]
 G → brB (decide (n < (↑l_n : Int))) (ix l_a n l_n fun ad => (∃ n1, lD 3 G (Addr.add ad (Int.toNat n * 2)) (.int .i64 n1) ∧ ix l_a (wrap .i64 (n - 1)) l_n fun ad => (∃ n2, lD 3 G
 (Addr.add ad (Int.toNat (wrap .i64 (n - 1)) * 2)) (.int .i64 n2) ∧ brB (decide (n1 ≤ n2)) (R (.bool false) G) (I [.int .i64 (wrap .i64 (n + 1))] G ∧ μ [.int .i64 (wrap
 .i64 (n + 1))] G < μ [.int .i64 n] G)))) (R (.bool true) G)) : cH 102 ⟨[.slice l_a l_n l_c]⟩ H R := vc_call (annOf [([0, 1, 0, 1], .cut [(3, .one (.int .i64))])])
 followsAll Tryz.func102 rfl Tryz.ntmps102 rfl rfl (Eq.mpr (by kernel_rfl) h)
abbrev fn_ref01_Int : Nat := 103
theorem vc_ref01_Int (n : Int) (h : cH 104 ⟨[.int .i64 n]⟩ H fun v G => ∃ n, v = .int .u64 n ∧ cS 65 [.int .u64 n] G fun s G => R (.string s) G) : cH 103 ⟨[.int .i64 n]⟩ H R := vc_call (annOf []) followsAll Tryz.func103 rfl Tryz.ntmps103 rfl rfl (Eq.mpr (by kernel_rfl) h)
abbrev fn_ref01_Fold : Nat := 104
theorem vc_ref01_Fold (n : Int) (h : brB (decide (n ≥ 0)) (R (.int .u64 (wrap .u64 (2 * wrap .u64 n))) H) (R (.int .u64 (wrap .u64
 (wrap .u64 (2 * wrap .u64 (wrap .i64 (0 - wrap .i64 (n + 1)))) + 1))) H)) : cH 104 ⟨[.int .i64 n]⟩ H R := vc_call (annOf []) followsAll
 Tryz.func104 rfl Tryz.ntmps104 rfl rfl (Eq.mpr (by kernel_rfl) h)
abbrev fn_ref02_Best : Nat := 105
theorem vc_ref02_Best (l_a : Option Addr) (l_n : Nat) (l_c : Nat) (h : ∃ (I : IV) (μ : MU), I [.int .i64 0, .int .i64 1] H ∧ ∀ (J : F) (n n1 : Int) (G : Heap),
 I [.int .i64 n, .int .i64 n1] G → brB (decide (n1 ≤ 40)) (cI 126 [.slice l_a l_n l_c, .int .i64 n1] G fun n2 G1 => cI 126 [.slice l_a l_n l_c, .int .i64 n] G1 fun n3 G2 => brB (decide
 (n2 < n3)) (I [.int .i64 n1, .int .i64 (wrap .i64 (n1 + 1))] G2 ∧ μ [.int .i64 n1, .int .i64 (wrap .i64 (n1 + 1))] G2 < μ [.int .i64 n, .int .i64 n1] G) (I [.int .i64 n,
 .int .i64 (wrap .i64 (n1 + 1))] G2 ∧ μ [.int .i64 n, .int .i64 (wrap .i64 (n1 + 1))] G2 < μ [.int .i64 n, .int .i64 n1] G)) (R (.int .i64 n) G)) : cH 105 ⟨[.slice l_a l_n l_c]⟩ H R := vc_call (annOf [([0, 1, 0, 1, 1], .cut [(3, .one (.int .i64)), (4, .one (.int .i64))])]) followsAll Tryz.func105 rfl Tryz.ntmps105 rfl rfl (Eq.mpr (by
 kernel_rfl) h)
abbrev fn_ref02_New : Nat := 106
theorem vc_ref02_New (h : ∀ (b : Nat) (G : Heap), New H b (.cells ⟨[.slice none 0 0]⟩ 193) G → R (.pointer (some ⟨b, 0, none⟩)) G) : cH 106 ⟨[]⟩ H R := vc_call (annOf []) followsAll Tryz.func106 rfl Tryz.ntmps106 rfl rfl (Eq.mpr (by kernel_rfl) h)
abbrev fn_ref02_Writer_Rice : Nat := 107
theorem vc_ref02_Writer_Rice (w : Addr) (n : Int) (k : Int) (h : brB (decide (k < 0)) (R (.int .i64 1) H) (brB (decide (k > 40)) (R (.int .i64 1) H) (∃ a n1 c,
 lD 191 H w (.slice a n1 c) ∧ cL 127 [.int .u64 n, .int .i64 k] H fun a_1 n c_1 G => lD 191 G w (.slice a n1 c) ∧ SemWp Tryz.prog (Builtin.append_ ⟨[191, 191]⟩ 191 ⟨[.slice a n1 c, .slice a_1 n
 c_1]⟩) G fun v G => ∃ a n c, v = .slice a n c ∧ ∃ G1, sT 191 G w (.slice a n c) G1 ∧ R (.int .i64 0) G1))) : cH 107 ⟨[.pointer (some w), .int .u64 n, .int .i64 k]⟩ H R := vc_call (annOf [([0, 1, 1], .reg [0, 0, 2, 6, 14, 0, 0, 96, 254, 511, 1023, 2047] (.quiet 0 (.quiet 1 (.quiet 2 (.quiet 3 (.quiet 4 (.quiet 5 (.quiet 6 (.pick (.alt 7 (.pick (.alt 8 (.quiet 9
 (.quiet 10 (.pick (.alt 11 (.done) .stop)))) .stop)) .stop))))))))))]) followsAll Tryz.func107 rfl Tryz.ntmps107 rfl rfl (Eq.mpr (by kernel_rfl) h)
abbrev fn_ref02_Writer_Bytes : Nat := 108
theorem vc_ref02_Writer_Bytes (w : Addr) (h : ∃ a n c, lD 191 H w (.slice a n c) ∧ SemWp Tryz.prog (Instr.makeSlice 81 (.int .i64 (wrap .i64 (Int.tdiv
 (wrap .i64 ((↑n : Int) + 7)) 8))) (.int .i64 (wrap .i64 (Int.tdiv (wrap .i64 ((↑n : Int) + 7)) 8)))) H fun v G => ∃ a n c, v = .slice a n c ∧ ∃ (I : IV) (μ : MU), I [.int
 .i64 0] G ∧ ∀ (J : F) (n1 : Int) (G : Heap), I [.int .i64 n1] G → ∃ a_2 n2 c_1, lD 191 G w (.slice a_2 n2 c_1) ∧ brB (decide (n1 < (↑n2 : Int))) (∃ a_3 n3 c, lD 191 G w (.slice a_3 n3
 c) ∧ ix a_3 n1 n3 fun ad => (∃ b, lD 4 G (Addr.add ad (Int.toNat n1 * 1)) (.bool b) ∧ brB b (ix a (wrap .i64 (Int.tdiv n1 8)) n fun ad => (∃ n4, lD 5 G (Addr.add ad (Int.toNat
 (wrap .i64 (Int.tdiv n1 8)) * 1)) (.int .u8 n4) ∧ chk (decide (0 ≤ wrap .u64 (Int.tmod n1 8))) (ix a (wrap .i64 (Int.tdiv n1 8)) n fun ad => (∃ G1, sT 5 G (Addr.add ad
 (Int.toNat (wrap .i64 (Int.tdiv n1 8)) * 1)) (.int .u8 (wrap .u8 (n4 + Int.fdiv 128 (2 ^ min (Int.toNat (wrap .u64 (Int.tmod n1 8))) 8)))) G1 ∧ I [.int .i64
 (wrap .i64 (n1 + 1))] G1 ∧ μ [.int .i64 (wrap .i64 (n1 + 1))] G1 < μ [.int .i64 n1] G)))) (I [.int .i64 (wrap .i64 (n1 + 1))] G ∧ μ [.int .i64 (wrap .i64
 (n1 + 1))] G < μ [.int .i64 n1] G))) (SemWp Tryz.prog (convert 81 9 (.slice a n c)) G fun v G => ∃ s, v = .string s ∧ R (.string s) G)) : cH 108 ⟨[.pointer (some
 w)]⟩ H R := vc_call (annOf [([0, 1, 0, 1, 1], .cut [(4, .one (.int .i64))])]) followsAll Tryz.func108 rfl Tryz.ntmps108 rfl rfl (Eq.mpr (by kernel_rfl) h)
abbrev fn_ref13_Merge : Nat := 109
theorem vc_ref13_Merge (a_a : Option Addr) (a_n : Nat) (a_c : Nat) (b_a : Option Addr) (b_n : Nat) (b_c : Nat) (h : ∀ (b : Nat) (G : Heap), New H b (.cells ⟨[]⟩
 107) G → SemWp Tryz.prog (Builtin.append_ ⟨[90, 90]⟩ 90 ⟨[.slice (some ⟨b, 0, none⟩) 0 0, .slice a_a a_n a_c]⟩) G fun v G => ∃ a n c, v = .slice a n c ∧ ∃ (I : IV) (μ : MU), I [.slice a n c, .int
 .i64 0] G ∧ ∀ (J : F) (a : Option Addr) (n c : Nat) (n1 : Int) (G : Heap), I [.slice a n c, .int .i64 n1] G → brB (decide (n1 < (↑b_n : Int))) (ix b_a n1 b_n fun ad => (∃ n2 n3, lD 107 G
 (Addr.add ad (Int.toNat n1 * 2)) (.agg ⟨[.int .i64 n2, .int .i64 n3]⟩) ∧ cL 128 [.slice a n c, .agg ⟨[.int .i64 n2, .int .i64 n3]⟩] G fun a_2 n4 c_1 G1 => I [.slice a_2 n4 c_1, .int .i64
 (wrap .i64 (n1 + 1))] G1 ∧ μ [.slice a_2 n4 c_1, .int .i64 (wrap .i64 (n1 + 1))] G1 < μ [.slice a n c, .int .i64 n1] G)) (R (.slice a n c) G)) : cH 109 ⟨[.slice a_a a_n a_c, .slice b_a b_n b_c]⟩ H R := vc_call (annOf [([0, 1, 0, 1, 1, 1], .cut [(5, .one .slice), (6, .one (.int .i64))])]) followsAll Tryz.func109 rfl Tryz.ntmps109 rfl
 rfl (Eq.mpr (by kernel_rfl) h)
abbrev fn_slices_stableCmpFunc_api_Sample_ : Nat := 110
theorem vc_slices_stableCmpFunc_api_Sample_ (data_a : Option Addr) (data_n : Nat) (data_c : Nat) (n : Int) (cmp : Value) (h : ∃ (I : IV) (μ : MU), I [.int .i64
 0, .int .i64 20] H ∧ ∀ (J : F) (n1 n2 : Int) (G : Heap), I [.int .i64 n1, .int .i64 n2] G → brB (decide (n2 ≤ n)) (cU 129 [.slice data_a data_n data_c, .int .i64 n1, .int .i64 n2, cmp] G
 fun G1 => I [.int .i64 n2, .int .i64 (wrap .i64 (n2 + 20))] G1 ∧ μ [.int .i64 n2, .int .i64 (wrap .i64 (n2 + 20))] G1 < μ [.int .i64 n1, .int .i64 n2] G) (cU 129 [.slice
 data_a data_n data_c, .int .i64 n1, .int .i64 n, cmp] G fun G => ∃ (I : IV) (μ : MU), I [.int .i64 20] G ∧ ∀ (J : F) (n3 : Int) (G : Heap), I [.int .i64 n3] G → brB (decide (n3 < n)) (∃
 (I_1 : IV) (μ_1 : MU), I_1 [.int .i64 0, .int .i64 (wrap .i64 (2 * n3))] G ∧ ∀ (J : F) (n4 n5 : Int) (G1 : Heap), I_1 [.int .i64 n4, .int .i64 n5] G1 → brB (decide (n5 ≤ n)) (cU
 130 [.slice data_a data_n data_c, .int .i64 n4, .int .i64 (wrap .i64 (n4 + n3)), .int .i64 n5, cmp] G1 fun G => I_1 [.int .i64 n5, .int .i64 (wrap .i64 (n5 + wrap
 .i64 (2 * n3)))] G ∧ μ_1 [.int .i64 n5, .int .i64 (wrap .i64 (n5 + wrap .i64 (2 * n3)))] G < μ_1 [.int .i64 n4, .int .i64 n5] G1) (brB (decide (wrap .i64 (n4 +
 n3) < n)) (cU 130 [.slice data_a data_n data_c, .int .i64 n4, .int .i64 (wrap .i64 (n4 + n3)), .int .i64 n, cmp] G1 fun G2 => I [.int .i64 (wrap .i64 (n3 * 2))] G2 ∧ μ
 [.int .i64 (wrap .i64 (n3 * 2))] G2 < μ [.int .i64 n3] G) (I [.int .i64 (wrap .i64 (n3 * 2))] G1 ∧ μ [.int .i64 (wrap .i64 (n3 * 2))] G1 < μ [.int .i64 n3] G)))
 (R (.tuple ⟨[]⟩) G))) : cH 110 ⟨[.slice data_a data_n data_c, .int .i64 n, cmp]⟩ H R := vc_call (annOf [([0, 0, 1, 1], .cut [(7, .one (.int .i64)), (8, .one (.int
 .i64))]), ([0, 1, 1, 1, 1], .cut [(6, .one (.int .i64))]), ([0, 0, 1, 0, 1, 0, 0, 1, 1, 1, 1], .cut [(7, .one (.int .i64)), (8, .one (.int .i64))])]) followsAll Tryz.func110 rfl Tryz.ntmps110 rfl
 rfl (Eq.mpr (by kernel_rfl) h)
theorem vc_cmp_isNaN_int_ (x : Int) (h : R (.bool (x != x)) H) : cH 111 ⟨[.int .i64 x]⟩ H R := vc_call (annOf []) followsAll
 Tryz.func111 rfl Tryz.ntmps111 rfl rfl (Eq.mpr (by kernel_rfl) h)
abbrev fn_series_merge_api_Sample_ : Nat := 114
theorem vc_series_merge_api_Sample_ (a_a : Option Addr) (a_n : Nat) (a_c : Nat) (b_a : Option Addr) (b_n : Nat) (b_c : Nat) (order : Value) (h : SemWp Tryz.prog
 (Instr.makeSlice 90 (.int .i64 0) (.int .i64 (wrap .i64 ((↑a_n : Int) + (↑b_n : Int))))) H fun v G => ∃ a n c, v = .slice a n c ∧ ∃ (I : IV) (μ : MU), I [.slice a_a a_n a_c, .slice b_a b_n
 b_c, .slice a n c] G ∧ ∀ (J : F) (a : Option Addr) (n c : Nat) (a_1 : Option Addr) (n1 c_1 : Nat) (a_2 : Option Addr) (n2 c_2 : Nat) (G : Heap), I [.slice a n c, .slice a_1 n1 c_1, .slice a_2
 n2 c_2] G → brB (decide ((↑n : Int) > 0)) (brB (decide ((↑n1 : Int) > 0)) (ix a (0) n fun ad => (∃ n3 n4, lD 107 G ad (.agg ⟨[.int .i64 n3, .int .i64 n4]⟩) ∧ ix a_1 (0) n1 fun ad => (∃ n5
 n6, lD 107 G ad (.agg ⟨[.int .i64 n5, .int .i64 n6]⟩) ∧ CallV Tryz.prog order [.agg ⟨[.int .i64 n3, .int .i64 n4]⟩, .agg ⟨[.int .i64 n5, .int .i64 n6]⟩] G fun v G1 => ∃ n7, v = .int .i64
 n7 ∧ brB (decide (n7 < 0)) (ix a (0) n fun ad => (∃ n8 n9, lD 107 G1 ad (.agg ⟨[.int .i64 n8, .int .i64 n9]⟩) ∧ chk (decide ((0 : Int) ≤ (1 : Int) ∧ 1 ≤ (↑n : Int) ∧ (↑n : Int) ≤ (↑c :
 Int))) (∀ (b : Nat) (G2 : Heap), New G1 b (.cells ⟨[.int .i64 n8, .int .i64 n9]⟩ 107) G2 → SemWp Tryz.prog (Builtin.append_ ⟨[90, 90]⟩ 90 ⟨[.slice a_2 n2 c_2, .slice (some ⟨b, 0, none⟩) 1
 1]⟩) G2 fun v G3 => ∃ a_5 n10 c_3, v = .slice a_5 n10 c_3 ∧ I [.slice (slA c 1 2 a) (Int.toNat (↑n : Int) - 1) (c - 1), .slice a_1 n1 c_1, .slice a_5 n10 c_3] G3 ∧ μ [.slice (slA c 1 2 a)
 (Int.toNat (↑n : Int) - 1) (c - 1), .slice a_1 n1 c_1, .slice a_5 n10 c_3] G3 < μ [.slice a n c, .slice a_1 n1 c_1, .slice a_2 n2 c_2] G))) (brB (n7 == 0) (chk (decide ((0 : Int) ≤ (1 : Int)
 ∧ 1 ≤ (↑n : Int) ∧ (↑n : Int) ≤ (↑c : Int))) (ix a_1 (0) n1 fun ad => (∃ n8 n9, lD 107 G1 ad (.agg ⟨[.int .i64 n8, .int .i64 n9]⟩) ∧ chk (decide ((0 : Int) ≤ (1 : Int) ∧ 1 ≤ (↑n1 : Int) ∧
 (↑n1 : Int) ≤ (↑c_1 : Int))) (∀ (b : Nat) (G2 : Heap), New G1 b (.cells ⟨[.int .i64 n8, .int .i64 n9]⟩ 107) G2 → SemWp Tryz.prog (Builtin.append_ ⟨[90, 90]⟩ 90 ⟨[.slice a_2 n2 c_2, .slice
 (some ⟨b, 0, none⟩) 1 1]⟩) G2 fun v G3 => ∃ a_5 n10 c_3, v = .slice a_5 n10 c_3 ∧ I [.slice (slA c 1 2 a) (Int.toNat (↑n : Int) - 1) (c - 1), .slice (slA c_1 1 2 a_1) (Int.toNat (↑n1 : Int) -
 1) (c_1 - 1), .slice a_5 n10 c_3] G3 ∧ μ [.slice (slA c 1 2 a) (Int.toNat (↑n : Int) - 1) (c - 1), .slice (slA c_1 1 2 a_1) (Int.toNat (↑n1 : Int) - 1) (c_1 - 1), .slice a_5 n10 c_3] G3 < μ
 [.slice a n c, .slice a_1 n1 c_1, .slice a_2 n2 c_2] G)))) (ix a_1 (0) n1 fun ad => (∃ n8 n9, lD 107 G1 ad (.agg ⟨[.int .i64 n8, .int .i64 n9]⟩) ∧ chk (decide ((0 : Int) ≤ (1 : Int) ∧ 1 ≤
 (↑n1 : Int) ∧ (↑n1 : Int) ≤ (↑c_1 : Int))) (∀ (b : Nat) (G2 : Heap), New G1 b (.cells ⟨[.int .i64 n8, .int .i64 n9]⟩ 107) G2 → SemWp Tryz.prog (Builtin.append_ ⟨[90, 90]⟩ 90 ⟨[.slice a_2
 n2 c_2, .slice (some ⟨b, 0, none⟩) 1 1]⟩) G2 fun v G3 => ∃ a_5 n10 c_3, v = .slice a_5 n10 c_3 ∧ I [.slice a n c, .slice (slA c_1 1 2 a_1) (Int.toNat (↑n1 : Int) - 1) (c_1 - 1), .slice a_5
 n10 c_3] G3 ∧ μ [.slice a n c, .slice (slA c_1 1 2 a_1) (Int.toNat (↑n1 : Int) - 1) (c_1 - 1), .slice a_5 n10 c_3] G3 < μ [.slice a n c, .slice a_1 n1 c_1, .slice a_2 n2 c_2] G)))))))
 (SemWp Tryz.prog (Builtin.append_ ⟨[90, 90]⟩ 90 ⟨[.slice a_2 n2 c_2, .slice a n c]⟩) G fun v G => ∃ a n c, v = .slice a n c ∧ SemWp Tryz.prog (Builtin.append_ ⟨[90, 90]⟩ 90 ⟨[.slice a n c, .slice
 a_1 n1 c_1]⟩) G fun v G => ∃ a n c, v = .slice a n c ∧ R (.slice a n c) G)) (SemWp Tryz.prog (Builtin.append_ ⟨[90, 90]⟩ 90 ⟨[.slice a_2 n2 c_2, .slice a n c]⟩) G fun v G => ∃ a n c, v =
 .slice a n c ∧ SemWp Tryz.prog (Builtin.append_ ⟨[90, 90]⟩ 90 ⟨[.slice a n c, .slice a_1 n1 c_1]⟩) G fun v G => ∃ a n c, v = .slice a n c ∧ R (.slice a n c) G)) : cH 114 ⟨[.slice a_a a_n a_c, .slice b_a b_n b_c, order]⟩ H R := vc_call (annOf [([0, 0, 1, 1], .cut [(0, .one .slice), (1, .one .slice), (7, .one .slice)]), ([0, 0, 1, 0, 0, 0, 1, 1], .tail
 7), ([0, 0, 1, 0, 1, 0, 1, 0, 0, 0, 1, 1], .reg [0, 0, 2, 6, 14, 31, 0, 64, 63, 511] (.quiet 0 (.quiet 1 (.quiet 2 (.quiet 3 (.quiet 6 (.quiet 7 (.pick (.alt 4 (.pick (.alt 5 (.quiet 8 (.quiet 9
 .done)) .stop)) .stop))))))))), ([1, 1, 1, 0, 1, 0, 0, 0, 1, 1], .reg [0, 0, 2, 6, 14, 31, 0, 64, 63, 511] (.quiet 0 (.quiet 1 (.quiet 2 (.quiet 3 (.quiet 6 (.quiet 7 (.pick (.alt 4 (.pick (.alt 5
 (.quiet 8 (.quiet 9 .done)) .stop)) .stop)))))))))]) followsAll Tryz.func114 rfl Tryz.ntmps114 rfl rfl (Eq.mpr (by kernel_rfl) h)
theorem vc_delta_numbers_1 (yield : Value) (a1 : Addr) (h : ∃ a n c, lD 90 H a1 (.slice a n c) ∧ chk (decide ((0 : Int) ≤ (1 : Int) ∧ 1 ≤ (↑n : Int) ∧ (↑n : Int)
 ≤ (↑c : Int))) (∃ (I : IV) (μ : MU), I [.int .i64 0, .int .i64 0] H ∧ ∀ (J : F) (n1 n2 : Int) (G : Heap), I [.int .i64 n1, .int .i64 n2] G → brB (decide (n2 < (↑(Int.toNat (↑n : Int) -
 Int.toNat 1) : Int))) (exSome (slA c 1 2 a) fun ad => chk (decide (0 ≤ n2 ∧ n2 < (↑(Int.toNat (↑n : Int) - 1) : Int))) (∃ n n3, lD 107 G (Addr.add ad (Int.toNat n2 * 2)) (.agg ⟨[.int .i64 n,
 .int .i64 n3]⟩) ∧ ∀ (b : Nat) (G1 : Heap), New G b (.cells ⟨[.int .i64 0, .int .i64 0]⟩ 107) G1 → ∃ G2, sT 107 G1 ⟨b, 0, none⟩ (.agg ⟨[.int .i64 n, .int .i64 n3]⟩) G2 ∧ ∃ n, lD 3 G2
 ⟨b, 0, none⟩ (.int .i64 n) ∧ ∃ a n4 c, lD 90 G2 a1 (.slice a n4 c) ∧ ix a n2 n4 fun ad => (∃ n5, lD 3 G2 (Addr.add ad (Int.toNat n2 * 2)) (.int .i64 n5) ∧ ∃ n6, lD 3 G2 ⟨b, 1, none⟩
 (.int .i64 n6) ∧ ∃ a n7 c, lD 90 G2 a1 (.slice a n7 c) ∧ ix a n2 n7 fun ad => (∃ n8, lD 3 G2 (Addr.add (Addr.add ad (Int.toNat n2 * 2)) 1) (.int .i64 n8) ∧ cH 89 ⟨[.int .i64
 (wrap .i64 (wrap .i64 (n - n5) - n1))]⟩ G2 fun v G3 => ∃ n9, v = .int .u64 n9 ∧ lD 3 G3 (Addr.add (Addr.add ad (Int.toNat n2 * 2)) 1) (.int .i64 n8) ∧ lD 90 G3 a1
 (.slice a n7 c) ∧ lD 3 G3 ⟨b, 1, none⟩ (.int .i64 n6) ∧ cH 89 ⟨[.int .i64 (wrap .i64 (n6 - n8))]⟩ G3 fun v G4 => ∃ n10, v = .int .u64 n10 ∧ CallY Tryz.prog yield [.int .u64 n9,
 .int .u64 n10] G4 fun v G5 => ∃ b, v = .bool b ∧ brB (!b) (R (.tuple ⟨[]⟩) G5) (I [.int .i64 (wrap .i64 (n - n5)), .int .i64 (wrap .i64 (n2 + 1))] G5 ∧ μ [.int .i64
 (wrap .i64 (n - n5)), .int .i64 (wrap .i64 (n2 + 1))] G5 < μ [.int .i64 n1, .int .i64 n2] G))))) (R (.tuple ⟨[]⟩) G))) : cH 116 ⟨[yield, .pointer
 (some a1)]⟩ H R := vcY_call (annOf [([0, 1, 1], .cut [(3, .one (.int .i64)), (10, .one (.int .i64))]), ([0, 1, 0, 0, 1, 1, 0, 0, 1, 1], .reg [0, 1, 0, 0, 12, 28, 60, 127, 255] (.quiet 0 (.quiet 1
 (.quiet 2 (.quiet 3 (.quiet 4 (.quiet 5 (.quiet 6 (.quiet 7 (.quiet 8 .done)))))))))), ([0, 0, 1, 1, 0, 0, 1, 1, 0, 0, 1, 1], .reg [0, 0, 0, 6, 14, 0, 32, 0, 0, 384, 896, 1920, 4064, 8190, 16383,
 32767] (.quiet 0 (.quiet 1 (.quiet 2 (.quiet 3 (.quiet 5 (.quiet 6 (.quiet 7 (.quiet 8 (.quiet 9 (.quiet 10 (.quiet 11 (.quiet 12 (.pick (.alt 4 (.pick (.alt 13 (.pick (.alt 14 (.quiet 15 .done)
 .stop)) .stop)) .stop)))))))))))))))]) followsAll Tryz.func116 rfl Tryz.ntmps116 rfl rfl (Eq.mpr (by kernel_rfl) h)
abbrev fn_rice_Cost : Nat := 117
theorem vc_rice_Cost (l_a : Option Addr) (l_n : Nat) (l_c : Nat) (k : Int) (h : ∃ (M : IV), brB (decide (k < 0)) (R (.int .i64 0) H) (brB (decide (k > 40)) (R
 (.int .i64 0) H) (M [] H)) ∧ ∀ (J : F) (G : Heap), M [] G → ∃ (I : IV) (μ : MU), I [.int .i64 0, .int .i64 0] G ∧ ∀ (J : F) (n n1 : Int) (G : Heap), I [.int .i64 n, .int .i64 n1] G → brB
 (decide (n1 < (↑l_n : Int))) (ix l_a n1 l_n fun ad => (∃ n2, lD 89 G (Addr.add ad (Int.toNat n1 * 1)) (.int .u64 n2) ∧ chk (decide (0 ≤ wrap .u64 k)) (brB (decide (Int.fdiv n2 (2 ^
 min (Int.toNat (wrap .u64 k)) (IntKind.bits .u64)) < 24)) (I [.int .i64 (wrap .i64 (n + wrap .i64 (wrap .i64 (wrap .i64 (Int.fdiv n2 (2 ^ min (Int.toNat
 (wrap .u64 k)) 64)) + 1) + k))), .int .i64 (wrap .i64 (n1 + 1))] G ∧ μ [.int .i64 (wrap .i64 (n + wrap .i64 (wrap .i64 (wrap .i64 (Int.fdiv n2 (2 ^
 min (Int.toNat (wrap .u64 k)) 64)) + 1) + k))), .int .i64 (wrap .i64 (n1 + 1))] G < μ [.int .i64 n, .int .i64 n1] G) (I [.int .i64 (wrap .i64 (n + 88)), .int .i64
 (wrap .i64 (n1 + 1))] G ∧ μ [.int .i64 (wrap .i64 (n + 88)), .int .i64 (wrap .i64 (n1 + 1))] G < μ [.int .i64 n, .int .i64 n1] G)))) (R (.int .i64 n) G)) : cH 117 ⟨[.slice l_a l_n l_c, .int .i64 k]⟩ H R := vc_call (annOf [([1], .cut []), ([0, 1, 0, 1, 1, 1], .cut [(5, .one (.int .i64)), (17, .one (.int .i64))])]) followsAll
 Tryz.func117 rfl Tryz.ntmps117 rfl rfl (Eq.mpr (by kernel_rfl) h)
theorem vc_rice_Best_1 (k : Int) (a1 : Addr) (a2 : Addr) (a3 : Addr) (h : ∃ a n c, lD 138 H a1 (.slice a n c) ∧ cI 117 [.slice a n c, .int .i64 k] H fun n G =>
 ∃ n1, lD 3 G a2 (.int .i64 n1) ∧ brB (decide (n < n1)) (∃ G1, sT 3 G a3 (.int .i64 k) G1 ∧ ∃ G, sT 3 G1 a2 (.int .i64 n) G ∧ R (.tuple ⟨[]⟩) G) (R (.tuple ⟨[]⟩) G)) : cH 118 ⟨[.int .i64 k, .pointer (some a1), .pointer (some a2), .pointer (some a3)]⟩ H R := vc_call (annOf []) followsAll Tryz.func118 rfl Tryz.ntmps118 rfl rfl (Eq.mpr (by kernel_rfl) h)
abbrev fn_rice_Writer_all : Nat := 119
theorem vc_rice_Writer_all (w : Addr) (n : Int) (many : Int) (h : ∃ (I : IV) (μ : MU), I [.int .i64 many] H ∧ ∀ (J : F) (n1 : Int) (G : Heap), I [.int .i64
 n1] G → brB (decide (n1 > 8)) (chk (decide (0 ≤ wrap .u64 (wrap .i64 (n1 - 8)))) (cU 141 [.pointer (some w), .int .u64 (wrap .u64 (↑(BitVec.toNat (BitVec.ofInt 64
 (Int.fdiv n (2 ^ min (Int.toNat (wrap .u64 (wrap .i64 (n1 - 8)))) 64)) &&& BitVec.ofInt 64 255)) : Int)), .int .i64 8] G fun G1 => I [.int .i64 (wrap .i64 (n1 - 8))]
 G1 ∧ μ [.int .i64 (wrap .i64 (n1 - 8))] G1 < μ [.int .i64 n1] G)) (chk (decide (0 ≤ wrap .u64 n1)) (cU 141 [.pointer (some w), .int .u64 (wrap .u64 (↑(BitVec.toNat
 (BitVec.ofInt 64 n &&& BitVec.ofInt 64 (wrap .u64 (wrap .u64 (1 * 2 ^ min (Int.toNat (wrap .u64 n1)) 64) - 1)))) : Int)), .int .i64 n1] G fun G => R (.tuple ⟨[]⟩) G))) :
 cH 119 ⟨[.pointer (some w), .int .u64 n, .int .i64 many]⟩ H R := vc_call (annOf [([0, 0], .cut [(2, .one (.int .i64))])]) followsAll Tryz.func119 rfl Tryz.ntmps119 rfl rfl
 (Eq.mpr (by kernel_rfl) h)
abbrev fn_zig_GetInt : Nat := 120
theorem vc_zig_GetInt (s : ByteArray) (at' : Int) (h : cH 90 ⟨[.string s, .int .i64 at']⟩ H fun v G => ∃ n n1 n2, v = .tuple ⟨[.int .u64 n, .int .i64 n1,
 .int .i64 n2]⟩ ∧ cI 142 [.int .u64 n] G fun n G => R (.tuple ⟨[.int .i64 n, .int .i64 n1, .int .i64 n2]⟩) G) : cH 120 ⟨[.string s, .int .i64 at']⟩ H R := vc_call
 (annOf []) followsAll Tryz.func120 rfl Tryz.ntmps120 rfl rfl (Eq.mpr (by kernel_rfl) h)
abbrev fn_delta_rest : Nat := 121
theorem vc_delta_rest (l_a : Option Addr) (l_n : Nat) (l_c : Nat) (n : Int) (s : ByteArray) (h : brB (decide ((↑(s.size) : Int) < 2)) (R (.tuple
 ⟨[.slice none 0 0, .bool false]⟩) H) (chk (decide ((0 : Int) ≤ (0 : Int) ∧ 0 < (↑(s.size) : Int))) (chk (decide ((0 : Int) ≤ (1 : Int) ∧ 1 < (↑(s.size) : Int))) (chk (decide ((0
 : Int) ≤ (2 : Int) ∧ 2 ≤ (↑(s.size) : Int) ∧ (↑(s.size) : Int) ≤ (↑(s.size) : Int))) (cP 143 [.string (ByteArray.extract s 2 (Int.toNat (↑(s.size) : Int)))] H
 fun a G => ∃ (I : IV) (μ : MU), I [.slice l_a l_n l_c, .int .i64 0] G ∧ ∀ (J : F) (a_1 : Option Addr) (n1 c : Nat) (n2 : Int) (G : Heap), I [.slice a_1 n1 c, .int .i64 n2] G → brB (decide
 ((↑n1 : Int) < n)) (cH 144 ⟨[.pointer a, .int .i64 (wrap .i64 (↑(atB s 0) : Int))]⟩ G fun v G1 => ∃ n n3, v = .tuple ⟨[.int .u64 n, .int .i64 n3]⟩ ∧ cH 144 ⟨[.pointer a, .int .i64
 (wrap .i64 (↑(atB s 1) : Int))]⟩ G1 fun v G2 => ∃ n4 n5, v = .tuple ⟨[.int .u64 n4, .int .i64 n5]⟩ ∧ ix a_1 (wrap .i64 ((↑n1 : Int) - 1)) n1 fun ad => (∃ n6 n7, lD 107
 G2 (Addr.add ad (Int.toNat (wrap .i64 ((↑n1 : Int) - 1)) * 2)) (.agg ⟨[.int .i64 n6, .int .i64 n7]⟩) ∧ ∀ (b : Nat) (G3 : Heap), New G2 b (.cells ⟨[.int .i64 0, .int .i64 0]⟩ 107)
 G3 → ∃ G4, sT 107 G3 ⟨b, 0, none⟩ (.agg ⟨[.int .i64 n6, .int .i64 n7]⟩) G4 ∧ cI 142 [.int .u64 n] G4 fun n G5 => ∃ (M : IV), brB (n3 != 0) (R (.tuple ⟨[.slice none 0 0, .bool false]⟩)
 G5) (brB (n5 != 0) (R (.tuple ⟨[.slice none 0 0, .bool false]⟩) G5) (brB (decide (n > 1099511627776)) (R (.tuple ⟨[.slice none 0 0, .bool false]⟩) G5) (brB (decide (n < (-1099511627776 :
 Int))) (R (.tuple ⟨[.slice none 0 0, .bool false]⟩) G5) (M [] G5)))) ∧ ∀ (J : F) (G6 : Heap), M [] G6 → ∃ (M : IV), brB (decide (wrap .i64 (n2 + n) < 1)) (R (.tuple ⟨[.slice none 0
 0, .bool false]⟩) G6) (brB (decide (wrap .i64 (n2 + n) > 1099511627776)) (R (.tuple ⟨[.slice none 0 0, .bool false]⟩) G6) (∃ n8, lD 3 G6 ⟨b, 0, none⟩ (.int .i64 n8) ∧ brB (decide
 (wrap .i64 (n8 + wrap .i64 (n2 + n)) ≥ 1099511627776)) (R (.tuple ⟨[.slice none 0 0, .bool false]⟩) G6) (M [.int .i64 (wrap .i64 (n2 + n))] G6))) ∧ ∀ (J : F) (n : Int)
 (G7 : Heap), M [.int .i64 n] G7 → ∃ n8, lD 3 G7 ⟨b, 0, none⟩ (.int .i64 n8) ∧ ∃ n9, lD 3 G7 ⟨b, 1, none⟩ (.int .i64 n9) ∧ cI 142 [.int .u64 n4] G7 fun n10 G8 => lD 3 G8 ⟨b, 1,
 none⟩ (.int .i64 n9) ∧ lD 3 G8 ⟨b, 0, none⟩ (.int .i64 n8) ∧ ∀ (b : Nat) (G9 : Heap), New G8 b (.cells ⟨[.int .i64 (wrap .i64 (n8 + n)), .int .i64 (wrap .i64 (n9 + n10))]⟩
 107) G9 → SemWp Tryz.prog (Builtin.append_ ⟨[90, 90]⟩ 90 ⟨[.slice a_1 n1 c, .slice (some ⟨b, 0, none⟩) 1 1]⟩) G9 fun v G10 => ∃ a n11 c_1, v = .slice a n11 c_1 ∧ I [.slice a n11 c_1, .int
 .i64 n] G10 ∧ μ [.slice a n11 c_1, .int .i64 n] G10 < μ [.slice a_1 n1 c, .int .i64 n2] G)) (cI 145 [.pointer a] G fun n G => R (.tuple ⟨[.slice a_1 n1 c, .bool (n == 0)]⟩) G)))))) :
 cH 121 ⟨[.slice l_a l_n l_c, .int .i64 n, .string s]⟩ H R := vc_call (annOf [([0, 0, 1, 1, 1, 1, 1], .cut [(0, .one .slice), (11, .one (.int .i64))]), ([1, 1, 1, 1, 0, 1,
 0, 0, 0, 1, 1, 1, 1, 1], .cut []), ([1, 1, 1, 1, 1, 0, 1, 0, 0, 0, 1, 1, 1, 1, 1], .cut [(11, .one (.int .i64))]), ([1, 1, 1, 1, 1, 1, 0, 1, 0, 0, 0, 1, 1, 1, 1, 1], .reg [0, 0, 2, 0, 14, 0, 32, 0,
 128, 480, 1022, 2046, 4095, 8191] (.quiet 0 (.quiet 1 (.quiet 2 (.quiet 3 (.quiet 4 (.quiet 5 (.quiet 6 (.quiet 7 (.pick (.alt 8 (.quiet 9 (.quiet 10 (.pick (.alt 11 (.pick (.alt 12 (.quiet 13
 .done) .stop)) .stop)))) .stop)))))))))))]) followsAll Tryz.func121 rfl Tryz.ntmps121 rfl rfl (Eq.mpr (by kernel_rfl) h)
abbrev fn_runs_reader_number : Nat := 122
theorem vc_runs_reader_number (x : Addr) (below : Int) (h : ∃ s, lD 9 H x (.string s) ∧ ∃ n, lD 3 H (Addr.add x 1) (.int .i64 n) ∧ cH 90 ⟨[.string s, .int .i64
 n]⟩ H fun v G => ∃ n n1 n2, v = .tuple ⟨[.int .u64 n, .int .i64 n1, .int .i64 n2]⟩ ∧ ∃ (M : IV), (∃ (M_1 : IV), (∃ b, lD 4 G (Addr.add x 2) (.bool b) ∧ brB (!b) (M_1 [.bool true] G) (brB (n2
 != 0) (M_1 [.bool true] G) (M_1 [.bool (decide (n ≥ wrap .u64 below))] G))) ∧ ∀ (J : F) (b : Bool) (G : Heap), M_1 [.bool b] G → brB b (∃ G1, sT 4 G (Addr.add x 2) (.bool false) G1
 ∧ R (.int .i64 0) G1) (M [] G)) ∧ ∀ (J : F) (G : Heap), M [] G → ∃ G1, sT 3 G (Addr.add x 1) (.int .i64 n1) G1 ∧ R (.int .i64 (wrap .i64 n)) G1) : cH 122 ⟨[.pointer (some x), .int .i64 below]⟩ H R := vc_call (annOf [([0, 1], .reg [0, 1, 3, 7, 0, 16, 48, 112, 255, 511, 1023, 1023, 1023, 2047, 12287, 32767] (.quiet 0 (.quiet 1 (.quiet 2
 (.quiet 3 (.quiet 4 (.quiet 5 (.quiet 6 (.quiet 7 (.pick (.alt 8 (.quiet 9 (.quiet 10 (.quiet 11 (.quiet 12 (.quiet 13 (.quiet 14 (.quiet 15 .done))))))) .stop))))))))))), ([1, 1], .cut []), ([0, 1,
 1], .cut [(35, .one .bool)])]) followsAll Tryz.func122 rfl Tryz.ntmps122 rfl rfl (Eq.mpr (by kernel_rfl) h)
abbrev fn_slices_IndexFunc___api_Row_api_Row_ : Nat := 123
theorem vc_slices_IndexFunc___api_Row_api_Row_ (s_a : Option Addr) (s_n : Nat) (s_c : Nat) (f : Value) (h : ∃ (I : IV) (μ : MU), I [.int .i64 0] H ∧ ∀ (J : F) (n
 : Int) (G : Heap), I [.int .i64 n] G → brB (decide (n < (↑s_n : Int))) (ix s_a n s_n fun ad => (∃ n1 n2 n3, lD 26 G (Addr.add ad (Int.toNat n * 3)) (.agg ⟨[.int .i64 n1, .int .i64 n2, .int
 .i64 n3]⟩) ∧ CallV Tryz.prog f [.agg ⟨[.int .i64 n1, .int .i64 n2, .int .i64 n3]⟩] G fun v G1 => ∃ b, v = .bool b ∧ brB b (R (.int .i64 n) G1) (I [.int .i64 (wrap .i64 (n + 1))]
 G1 ∧ μ [.int .i64 (wrap .i64 (n + 1))] G1 < μ [.int .i64 n] G))) (R (.int .i64 (-1 : Int)) G)) : cH 123 ⟨[.slice s_a s_n s_c, f]⟩ H R := vc_call (annOf [([0,
 1, 0, 1], .cut [(8, .one (.int .i64))])]) followsAll Tryz.func123 rfl Tryz.ntmps123 rfl rfl (Eq.mpr (by kernel_rfl) h)
abbrev fn_ref03_read : Nat := 124
theorem vc_ref03_read (s : ByteArray) (h : cH 99 ⟨[.string s, .int .i64 0]⟩ H fun v G => ∃ n n1 n2, v = .tuple ⟨[.int .u64 n, .int .i64 n1, .int .i64 n2]⟩ ∧
 ∃ (M : IV), brB (n2 != 0) (R (.tuple ⟨[.slice none 0 0, .bool false]⟩) G) (brB (decide (n > 5000)) (R (.tuple ⟨[.slice none 0 0, .bool false]⟩) G) (M [] G)) ∧ ∀ (J : F) (G : Heap), M [] G → ∀
 (b : Nat) (G1 : Heap), New G b (.cells ⟨[]⟩ 107) G1 → brB (n == 0) (R (.tuple ⟨[.slice (some ⟨b, 0, none⟩) 0 0, .bool true]⟩) G1) (cH 99 ⟨[.string s, .int .i64 n1]⟩ G1 fun v G => ∃ n3
 n4 n5, v = .tuple ⟨[.int .u64 n3, .int .i64 n4, .int .i64 n5]⟩ ∧ cH 125 ⟨[.string s, .int .i64 n4]⟩ G fun v G => ∃ n6 n7 n8, v = .tuple ⟨[.int .i64 n6, .int .i64 n7, .int .i64 n8]⟩ ∧ ∃
 (M : IV), brB (n5 != 0) (R (.tuple ⟨[.slice none 0 0, .bool false]⟩) G) (brB (n8 != 0) (R (.tuple ⟨[.slice none 0 0, .bool false]⟩) G) (brB (decide (n3 ≥ 1099511627776)) (R (.tuple ⟨[.slice
 none 0 0, .bool false]⟩) G) (M [] G))) ∧ ∀ (J : F) (G : Heap), M [] G → ∀ (b_1 : Nat) (G2 : Heap), New G b_1 (.cells ⟨[.int .i64 (wrap .i64 n3), .int .i64 n6]⟩ 107) G2 → SemWp
 Tryz.prog (Builtin.append_ ⟨[90, 90]⟩ 90 ⟨[.slice (some ⟨b, 0, none⟩) 0 0, .slice (some ⟨b_1, 0, none⟩) 1 1]⟩) G2 fun v G => ∃ a n9 c, v = .slice a n9 c ∧ brB (n == 1) (R (.tuple ⟨[.slice a n9
 c, .bool true]⟩) G) (brB (decide (wrap .i64 (n7 + 2) > (↑(s.size) : Int))) (R (.tuple ⟨[.slice none 0 0, .bool false]⟩) G) (chk (decide (0 ≤ wrap .i64 (n7 + 2) ∧
 wrap .i64 (n7 + 2) ≤ (↑(s.size) : Int) ∧ (↑(s.size) : Int) ≤ (↑(s.size) : Int))) (cP 146 [.string (ByteArray.extract s (Int.toNat (wrap .i64 (n7 +
 2))) (Int.toNat (↑(s.size) : Int)))] G fun a_1 G => ∃ (I : IV) (μ : MU), I [.slice a n9 c, .int .i64 0] G ∧ ∀ (J : F) (a : Option Addr) (n10 c : Nat) (n11 : Int) (G : Heap), I
 [.slice a n10 c, .int .i64 n11] G → brB (decide (wrap .u64 (↑n10 : Int) < n)) (chk (decide (0 ≤ n7 ∧ n7 < (↑(s.size) : Int))) (cH 147 ⟨[.pointer a_1, .int .i64 (wrap
 .i64 (↑(atB s (Int.toNat n7)) : Int))]⟩ G fun v G3 => ∃ n n12, v = .tuple ⟨[.int .u64 n, .int .i64 n12]⟩ ∧ chk (decide (0 ≤ wrap .i64 (n7 + 1) ∧ wrap .i64 (n7 + 1) <
 (↑(s.size) : Int))) (cH 147 ⟨[.pointer a_1, .int .i64 (wrap .i64 (↑(atB s (Int.toNat (wrap .i64 (n7 + 1)))) : Int))]⟩ G3 fun v G4 => ∃ n13 n14, v = .tuple ⟨[.int
 .u64 n13, .int .i64 n14]⟩ ∧ ∃ (M : IV), brB (n12 != 0) (R (.tuple ⟨[.slice none 0 0, .bool false]⟩) G4) (brB (n14 != 0) (R (.tuple ⟨[.slice none 0 0, .bool false]⟩) G4) (M [] G4)) ∧ ∀ (J :
 F) (G5 : Heap), M [] G5 → ix a (wrap .i64 ((↑n10 : Int) - 1)) n10 fun ad => (∃ n15 n16, lD 107 G5 (Addr.add ad (Int.toNat (wrap .i64 ((↑n10 : Int) - 1)) * 2)) (.agg ⟨[.int
 .i64 n15, .int .i64 n16]⟩) ∧ ∀ (b : Nat) (G6 : Heap), New G5 b (.cells ⟨[.int .i64 0, .int .i64 0]⟩ 107) G6 → ∃ G7, sT 107 G6 ⟨b, 0, none⟩ (.agg ⟨[.int .i64 n15, .int .i64 n16]⟩) G7
 ∧ cI 148 [.int .u64 n] G7 fun n G8 => ∃ (M : IV), brB (decide (n > 1099511627776)) (R (.tuple ⟨[.slice none 0 0, .bool false]⟩) G8) (brB (decide (n < (-1099511627776 : Int))) (R (.tuple
 ⟨[.slice none 0 0, .bool false]⟩) G8) (M [] G8)) ∧ ∀ (J : F) (G9 : Heap), M [] G9 → ∃ (M : IV), brB (decide (wrap .i64 (n11 + n) < 1)) (R (.tuple ⟨[.slice none 0 0, .bool false]⟩)
 G9) (brB (decide (wrap .i64 (n11 + n) > 1099511627776)) (R (.tuple ⟨[.slice none 0 0, .bool false]⟩) G9) (∃ n17, lD 3 G9 ⟨b, 0, none⟩ (.int .i64 n17) ∧ brB (decide (wrap
 .i64 (n17 + wrap .i64 (n11 + n)) ≥ 1099511627776)) (R (.tuple ⟨[.slice none 0 0, .bool false]⟩) G9) (M [] G9))) ∧ ∀ (J : F) (G10 : Heap), M [] G10 → ∃ n17, lD 3 G10 ⟨b, 0, none⟩
 (.int .i64 n17) ∧ ∃ n18, lD 3 G10 ⟨b, 1, none⟩ (.int .i64 n18) ∧ cI 148 [.int .u64 n13] G10 fun n19 G11 => lD 3 G11 ⟨b, 1, none⟩ (.int .i64 n18) ∧ lD 3 G11 ⟨b, 0, none⟩ (.int .i64
 n17) ∧ ∀ (b : Nat) (G12 : Heap), New G11 b (.cells ⟨[.int .i64 (wrap .i64 (n17 + wrap .i64 (n11 + n))), .int .i64 (wrap .i64 (n18 + n19))]⟩ 107) G12 → SemWp
 Tryz.prog (Builtin.append_ ⟨[90, 90]⟩ 90 ⟨[.slice a n10 c, .slice (some ⟨b, 0, none⟩) 1 1]⟩) G12 fun v G13 => ∃ a_8 n20 c_1, v = .slice a_8 n20 c_1 ∧ I [.slice a_8 n20 c_1, .int .i64
 (wrap .i64 (n11 + n))] G13 ∧ μ [.slice a_8 n20 c_1, .int .i64 (wrap .i64 (n11 + n))] G13 < μ [.slice a n10 c, .int .i64 n11] G)))) (R (.tuple ⟨[.slice a n10 c, .bool
 true]⟩) G)))))) : cH 124 ⟨[.string s]⟩ H R := vc_call (annOf [([1, 1], .cut []), ([1, 1, 1, 1, 1, 1, 1], .cut []), ([0, 0, 1, 1, 1, 1, 1, 1, 1, 1, 1, 1, 1, 1, 1], .cut
 [(7, .one .slice), (15, .one (.int .i64))]), ([1, 1, 0, 1, 0, 0, 0, 1, 1, 1, 1, 1, 1, 1, 1, 1, 1, 1, 1, 1], .cut []), ([1, 1, 1, 1, 1, 0, 1, 0, 0, 0, 1, 1, 1, 1, 1, 1, 1, 1, 1, 1, 1, 1, 1], .cut
 []), ([1, 1, 1, 1, 1, 1, 1, 0, 1, 0, 0, 0, 1, 1, 1, 1, 1, 1, 1, 1, 1, 1, 1, 1, 1], .cut []), ([1, 1, 1, 1, 1, 1, 1, 1, 0, 1, 0, 0, 0, 1, 1, 1, 1, 1, 1, 1, 1, 1, 1, 1, 1, 1], .reg [0, 0, 2, 0, 14, 0,
 32, 0, 128, 480, 1022, 2046, 4095, 8191] (.quiet 0 (.quiet 1 (.quiet 2 (.quiet 3 (.quiet 4 (.quiet 5 (.quiet 6 (.quiet 7 (.pick (.alt 8 (.quiet 9 (.quiet 10 (.pick (.alt 11 (.pick (.alt 12 (.quiet
 13 .done) .stop)) .stop)))) .stop)))))))))))]) followsAll Tryz.func124 rfl Tryz.ntmps124 rfl rfl (Eq.mpr (by kernel_rfl) h)
abbrev fn_ref01_GetInt : Nat := 125
theorem vc_ref01_GetInt (s : ByteArray) (at' : Int) (h : cH 99 ⟨[.string s, .int .i64 at']⟩ H fun v G => ∃ n n1 n2, v = .tuple ⟨[.int .u64 n, .int .i64 n1,
 .int .i64 n2]⟩ ∧ brB (n2 != 0) (R (.tuple ⟨[.int .i64 0, .int .i64 0, .int .i64 n2]⟩) G) (cI 148 [.int .u64 n] G fun n G => R (.tuple ⟨[.int .i64 n, .int .i64 n1, .int .i64 0]⟩) G)) : cH 125 ⟨[.string s, .int .i64 at']⟩ H R := vc_call (annOf []) followsAll Tryz.func125 rfl Tryz.ntmps125 rfl rfl (Eq.mpr (by kernel_rfl) h)
abbrev fn_ref02_Cost : Nat := 126
theorem vc_ref02_Cost (l_a : Option Addr) (l_n : Nat) (l_c : Nat) (k : Int) (h : ∃ (M : IV), brB (decide (k < 0)) (R (.int .i64 0) H) (brB (decide (k > 40)) (R
 (.int .i64 0) H) (M [] H)) ∧ ∀ (J : F) (G : Heap), M [] G → ∃ (I : IV) (μ : MU), I [.int .i64 0, .int .i64 0] G ∧ ∀ (J : F) (n n1 : Int) (G : Heap), I [.int .i64 n, .int .i64 n1] G → brB
 (decide (n1 < (↑l_n : Int))) (ix l_a n1 l_n fun ad => (∃ n2, lD 89 G (Addr.add ad (Int.toNat n1 * 1)) (.int .u64 n2) ∧ cL 127 [.int .u64 n2, .int .i64 k] G fun a n3 c G1 => I [.int .i64
 (wrap .i64 (n + (↑n3 : Int))), .int .i64 (wrap .i64 (n1 + 1))] G1 ∧ μ [.int .i64 (wrap .i64 (n + (↑n3 : Int))), .int .i64 (wrap .i64 (n1 + 1))] G1 < μ [.int
 .i64 n, .int .i64 n1] G)) (R (.int .i64 n) G)) : cH 126 ⟨[.slice l_a l_n l_c, .int .i64 k]⟩ H R := vc_call (annOf [([1], .cut []), ([0, 1, 0, 1, 1, 1], .cut [(5, .one
 (.int .i64)), (6, .one (.int .i64))])]) followsAll Tryz.func126 rfl Tryz.ntmps126 rfl rfl (Eq.mpr (by kernel_rfl) h)
abbrev fn_ref02_Code : Nat := 127
theorem vc_ref02_Code (n : Int) (k : Int) (h : ∀ (b : Nat) (G : Heap), New H b (.cells ⟨[]⟩ 4) G → chk (decide (0 ≤ wrap .u64 k)) (brB (decide
 (Int.fdiv n (2 ^ min (Int.toNat (wrap .u64 k)) (IntKind.bits .u64)) ≥ 24)) (∃ (I : IV) (μ : MU), I [.slice (some ⟨b, 0, none⟩) 0 0, .int .i64 0] G ∧ ∀ (J : F) (a : Option Addr) (n1 c :
 Nat) (n2 : Int) (G : Heap), I [.slice a n1 c, .int .i64 n2] G → brB (decide (n2 < 24)) (∀ (b : Nat) (G1 : Heap), New G b (.cells ⟨[.bool true]⟩ 4) G1 → SemWp Tryz.prog (Builtin.append_
 ⟨[191, 191]⟩ 191 ⟨[.slice a n1 c, .slice (some ⟨b, 0, none⟩) 1 1]⟩) G1 fun v G2 => ∃ a_3 n c_1, v = .slice a_3 n c_1 ∧ I [.slice a_3 n c_1, .int .i64 (wrap .i64 (n2 + 1))] G2 ∧ μ
 [.slice a_3 n c_1, .int .i64 (wrap .i64 (n2 + 1))] G2 < μ [.slice a n1 c, .int .i64 n2] G) (cL 149 [.int .u64 n, .int .i64 64] G fun a_2 n c_1 G => SemWp Tryz.prog (Builtin.append_
 ⟨[191, 191]⟩ 191 ⟨[.slice a n1 c, .slice a_2 n c_1]⟩) G fun v G => ∃ a n c, v = .slice a n c ∧ R (.slice a n c) G)) (∃ (I : IV) (μ : MU), I [.slice (some ⟨b, 0, none⟩) 0 0, .int .u64 0] G ∧ ∀
 (J : F) (a : Option Addr) (n1 c : Nat) (n2 : Int) (G : Heap), I [.slice a n1 c, .int .u64 n2] G → brB (decide (n2 < Int.fdiv n (2 ^ min (Int.toNat (wrap .u64 k)) (IntKind.bits
 .u64)))) (∀ (b : Nat) (G1 : Heap), New G b (.cells ⟨[.bool true]⟩ 4) G1 → SemWp Tryz.prog (Builtin.append_ ⟨[191, 191]⟩ 191 ⟨[.slice a n1 c, .slice (some ⟨b, 0, none⟩) 1 1]⟩) G1 fun v G2
 => ∃ a_3 n c_1, v = .slice a_3 n c_1 ∧ I [.slice a_3 n c_1, .int .u64 (wrap .u64 (n2 + 1))] G2 ∧ μ [.slice a_3 n c_1, .int .u64 (wrap .u64 (n2 + 1))] G2 < μ [.slice a n1 c,
 .int .u64 n2] G) (∀ (b : Nat) (G1 : Heap), New G b (.cells ⟨[.bool false]⟩ 4) G1 → SemWp Tryz.prog (Builtin.append_ ⟨[191, 191]⟩ 191 ⟨[.slice a n1 c, .slice (some ⟨b, 0, none⟩) 1 1]⟩) G1
 fun v G => ∃ a n3 c, v = .slice a n3 c ∧ cL 149 [.int .u64 n, .int .i64 k] G fun a_3 n c_1 G => SemWp Tryz.prog (Builtin.append_ ⟨[191, 191]⟩ 191 ⟨[.slice a n3 c, .slice a_3 n c_1]⟩) G fun v
 G => ∃ a n c, v = .slice a n c ∧ R (.slice a n c) G)))) : cH 127 ⟨[.int .u64 n, .int .i64 k]⟩ H R := vc_call (annOf [([0, 1, 0, 0, 1, 0, 1, 1, 1], .cut [(5, .one .slice),
 (7, .one (.int .i64))]), ([0, 1, 0, 1, 1, 1, 1], .cut [(5, .one .slice), (8, .one (.int .u64))])]) followsAll Tryz.func127 rfl Tryz.ntmps127 rfl rfl (Eq.mpr (by kernel_rfl) h)
abbrev fn_ref13_set : Nat := 128
theorem vc_ref13_set (l_a : Option Addr) (l_n : Nat) (l_c : Nat) (x_0 : Int) (x_1 : Int) (h : ∀ (b : Nat) (G : Heap), New H b (.cells ⟨[.int .i64 x_0, .int .i64
 x_1]⟩ 107) G → ∀ (b_1 : Nat) (G1 : Heap), New G b_1 (.cells ⟨[]⟩ 107) G1 → ∃ (I : IV) (μ : MU), I [.slice (some ⟨b_1, 0, none⟩) 0 0, .bool false, .int .i64 0] G1 ∧ ∀ (J : F) (a : Option
 Addr) (n c : Nat) (b_2 : Bool) (n1 : Int) (G : Heap), I [.slice a n c, .bool b_2, .int .i64 n1] G → brB (decide (n1 < (↑l_n : Int))) (∃ (M : IV), brB (!b_2) (ix l_a n1 l_n fun ad => (∃ n2, lD
 3 G (Addr.add ad (Int.toNat n1 * 2)) (.int .i64 n2) ∧ ∃ n3, lD 3 G ⟨b, 0, none⟩ (.int .i64 n3) ∧ brB (decide (n2 ≥ n3)) (∃ n4 n5, lD 107 G ⟨b, 0, none⟩ (.agg ⟨[.int .i64 n4, .int .i64
 n5]⟩) ∧ ∀ (b : Nat) (G2 : Heap), New G b (.cells ⟨[.int .i64 n4, .int .i64 n5]⟩ 107) G2 → SemWp Tryz.prog (Builtin.append_ ⟨[90, 90]⟩ 90 ⟨[.slice a n c, .slice (some ⟨b, 0, none⟩) 1 1]⟩)
 G2 fun v G => ∃ a n c, v = .slice a n c ∧ M [.slice a n c, .bool true] G) (M [.slice a n c, .bool b_2] G))) (M [.slice a n c, .bool b_2] G) ∧ ∀ (J : F) (a_2 : Option Addr) (n2 c_1 : Nat) (b_3
 : Bool) (G2 : Heap), M [.slice a_2 n2 c_1, .bool b_3] G2 → ix l_a n1 l_n fun ad => (∃ n3, lD 3 G2 (Addr.add ad (Int.toNat n1 * 2)) (.int .i64 n3) ∧ ∃ n4, lD 3 G2 ⟨b, 0, none⟩ (.int
 .i64 n4) ∧ brB (n3 != n4) (ix l_a n1 l_n fun ad => (∃ n5 n6, lD 107 G2 (Addr.add ad (Int.toNat n1 * 2)) (.agg ⟨[.int .i64 n5, .int .i64 n6]⟩) ∧ ∀ (b : Nat) (G3 : Heap), New G2 b
 (.cells ⟨[.int .i64 n5, .int .i64 n6]⟩ 107) G3 → SemWp Tryz.prog (Builtin.append_ ⟨[90, 90]⟩ 90 ⟨[.slice a_2 n2 c_1, .slice (some ⟨b, 0, none⟩) 1 1]⟩) G3 fun v G4 => ∃ a_5 n7 c_2, v =
 .slice a_5 n7 c_2 ∧ I [.slice a_5 n7 c_2, .bool b_3, .int .i64 (wrap .i64 (n1 + 1))] G4 ∧ μ [.slice a_5 n7 c_2, .bool b_3, .int .i64 (wrap .i64 (n1 + 1))] G4 < μ [.slice a n
 c, .bool b_2, .int .i64 n1] G)) (I [.slice a_2 n2 c_1, .bool b_3, .int .i64 (wrap .i64 (n1 + 1))] G2 ∧ μ [.slice a_2 n2 c_1, .bool b_3, .int .i64 (wrap .i64 (n1 + 1))] G2 <
 μ [.slice a n c, .bool b_2, .int .i64 n1] G))) (brB (!b_2) (∃ n2 n3, lD 107 G ⟨b, 0, none⟩ (.agg ⟨[.int .i64 n2, .int .i64 n3]⟩) ∧ ∀ (b : Nat) (G2 : Heap), New G b (.cells ⟨[.int .i64 n2,
 .int .i64 n3]⟩ 107) G2 → SemWp Tryz.prog (Builtin.append_ ⟨[90, 90]⟩ 90 ⟨[.slice a n c, .slice (some ⟨b, 0, none⟩) 1 1]⟩) G2 fun v G => ∃ a n c, v = .slice a n c ∧ R (.slice a n c) G) (R
 (.slice a n c) G))) : CallH Tryz.prog 128 (List.toArray [.slice l_a l_n l_c, .agg #[.int .i64 x_0, .int .i64 x_1]]) H R := vc_call (annOf [([0, 1, 0, 1, 1, 1], .cut [(5, .one .slice), (6, .one
 .bool), (7, .one (.int .i64))]), ([0, 0, 1, 0, 0, 1, 0, 1, 1, 1], .cut [(5, .one .slice), (6, .one .bool)])]) followsAll Tryz.func128 rfl Tryz.ntmps128 rfl rfl (Eq.mpr (by kernel_rfl) h)
abbrev fn_slices_insertionSortCmpFunc_api_Sample_ : Nat := 129
theorem vc_slices_insertionSortCmpFunc_api_Sample_ (data_a : Option Addr) (data_n : Nat) (data_c : Nat) (a : Int) (b : Int) (cmp : Value) (h : ∃ (I : IV) (μ :
 MU), I [.int .i64 (wrap .i64 (a + 1))] H ∧ ∀ (J : F) (n : Int) (G : Heap), I [.int .i64 n] G → brB (decide (n < b)) (∃ (I_1 : IV) (μ_1 : MU), I_1 [.int .i64 n] G ∧ ∀ (J : F) (n1 : Int)
 (G1 : Heap), I_1 [.int .i64 n1] G1 → ∃ (M : IV), brB (decide (n1 > a)) (ix data_a n1 data_n fun ad => (∃ n2 n3, lD 107 G1 (Addr.add ad (Int.toNat n1 * 2)) (.agg ⟨[.int .i64 n2, .int
 .i64 n3]⟩) ∧ ix data_a (wrap .i64 (n1 - 1)) data_n fun ad => (∃ n4 n5, lD 107 G1 (Addr.add ad (Int.toNat (wrap .i64 (n1 - 1)) * 2)) (.agg ⟨[.int .i64 n4, .int .i64 n5]⟩) ∧
 CallV Tryz.prog cmp [.agg ⟨[.int .i64 n2, .int .i64 n3]⟩, .agg ⟨[.int .i64 n4, .int .i64 n5]⟩] G1 fun v G2 => ∃ n6, v = .int .i64 n6 ∧ brB (decide (n6 < 0)) (M [] G2) (I [.int .i64
 (wrap .i64 (n + 1))] G2 ∧ μ [.int .i64 (wrap .i64 (n + 1))] G2 < μ [.int .i64 n] G)))) (I [.int .i64 (wrap .i64 (n + 1))] G1 ∧ μ [.int .i64 (wrap .i64 (n +
 1))] G1 < μ [.int .i64 n] G) ∧ ∀ (J : F) (G : Heap), M [] G → ix data_a (wrap .i64 (n1 - 1)) data_n fun ad => (∃ n n2, lD 107 G (Addr.add ad (Int.toNat (wrap .i64 (n1 - 1))
 * 2)) (.agg ⟨[.int .i64 n, .int .i64 n2]⟩) ∧ ix data_a n1 data_n fun ad => (∃ n3 n4, lD 107 G (Addr.add ad (Int.toNat n1 * 2)) (.agg ⟨[.int .i64 n3, .int .i64 n4]⟩) ∧ ix data_a n1 data_n
 fun ad => (∃ G2, sT 107 G (Addr.add ad (Int.toNat n1 * 2)) (.agg ⟨[.int .i64 n, .int .i64 n2]⟩) G2 ∧ ix data_a (wrap .i64 (n1 - 1)) data_n fun ad => (∃ G, sT 107 G2 (Addr.add ad
 (Int.toNat (wrap .i64 (n1 - 1)) * 2)) (.agg ⟨[.int .i64 n3, .int .i64 n4]⟩) G ∧ I_1 [.int .i64 (wrap .i64 (n1 - 1))] G ∧ μ_1 [.int .i64 (wrap .i64 (n1 - 1))] G < μ_1
 [.int .i64 n1] G1))))) (R (.tuple ⟨[]⟩) G)) : cH 129 ⟨[.slice data_a data_n data_c, .int .i64 a, .int .i64 b, cmp]⟩ H R := vc_call (annOf [([0, 1], .cut [(8, .one (.int
 .i64))]), ([0, 1, 0, 0, 1, 0, 0, 1], .cut [(9, .one (.int .i64))]), ([0, 0, 1, 0, 0, 1, 0, 0, 1], .cut []), ([0, 0, 0, 0, 1, 0, 0, 1, 0, 0, 1], .tail 14), ([0, 0, 1, 0, 0, 1, 0, 0, 1, 0, 0, 1], .reg
 [0, 0, 0, 0, 8, 0, 0, 64, 224, 480, 0, 0, 3072, 7168, 16355, 32739, 65535, 131071] (.quiet 0 (.quiet 1 (.quiet 2 (.quiet 3 (.quiet 4 (.quiet 5 (.quiet 6 (.quiet 7 (.quiet 8 (.quiet 9 (.quiet 10
 (.quiet 11 (.quiet 12 (.quiet 13 (.quiet 14 (.pick (.alt 15 (.quiet 16 (.pick (.alt 17 (.done) .stop))) .stop))))))))))))))))))]) followsAll Tryz.func129 rfl Tryz.ntmps129 rfl rfl (Eq.mpr (by
 kernel_rfl) h)
abbrev fn_slices_symMergeCmpFunc_api_Sample_ : Nat := 130
theorem vc_slices_symMergeCmpFunc_api_Sample_ (data_a : Option Addr) (data_n : Nat) (data_c : Nat) (a : Int) (m : Int) (b : Int) (cmp : Value) (h : brB
 (wrap .i64 (m - a) == 1) (∃ (I : IV) (μ : MU), I [.int .i64 m, .int .i64 b] H ∧ ∀ (J : F) (n n1 : Int) (G : Heap), I [.int .i64 n, .int .i64 n1] G → brB (decide (n < n1)) (ix data_a
 (wrap .i64 (Int.fdiv (wrap .u64 (wrap .i64 (n + n1))) (2 ^ 1))) data_n fun ad => (∃ n2 n3, lD 107 G (Addr.add ad (Int.toNat (wrap .i64 (Int.fdiv (wrap
 .u64 (wrap .i64 (n + n1))) (2 ^ 1))) * 2)) (.agg ⟨[.int .i64 n2, .int .i64 n3]⟩) ∧ ix data_a a data_n fun ad => (∃ n4 n5, lD 107 G (Addr.add ad (Int.toNat a * 2)) (.agg ⟨[.int .i64
 n4, .int .i64 n5]⟩) ∧ CallV Tryz.prog cmp [.agg ⟨[.int .i64 n2, .int .i64 n3]⟩, .agg ⟨[.int .i64 n4, .int .i64 n5]⟩] G fun v G1 => ∃ n6, v = .int .i64 n6 ∧ brB (decide (n6 < 0)) (I [.int
 .i64 (wrap .i64 (wrap .i64 (Int.fdiv (wrap .u64 (wrap .i64 (n + n1))) (2 ^ 1)) + 1)), .int .i64 n1] G1 ∧ μ [.int .i64 (wrap .i64 (wrap .i64
 (Int.fdiv (wrap .u64 (wrap .i64 (n + n1))) (2 ^ 1)) + 1)), .int .i64 n1] G1 < μ [.int .i64 n, .int .i64 n1] G) (I [.int .i64 n, .int .i64 (wrap .i64 (Int.fdiv
 (wrap .u64 (wrap .i64 (n + n1))) (2 ^ 1)))] G1 ∧ μ [.int .i64 n, .int .i64 (wrap .i64 (Int.fdiv (wrap .u64 (wrap .i64 (n + n1))) (2 ^ 1)))] G1 < μ [.int
 .i64 n, .int .i64 n1] G)))) (∃ (I : IV) (μ : MU), I [.int .i64 a] G ∧ ∀ (J : F) (n2 : Int) (G : Heap), I [.int .i64 n2] G → brB (decide (n2 < wrap .i64 (n - 1))) (ix data_a
 (wrap .i64 (n2 + 1)) data_n fun ad => (∃ n n3, lD 107 G (Addr.add ad (Int.toNat (wrap .i64 (n2 + 1)) * 2)) (.agg ⟨[.int .i64 n, .int .i64 n3]⟩) ∧ ix data_a n2 data_n fun ad =>
 (∃ n4 n5, lD 107 G (Addr.add ad (Int.toNat n2 * 2)) (.agg ⟨[.int .i64 n4, .int .i64 n5]⟩) ∧ ix data_a n2 data_n fun ad => (∃ G1, sT 107 G (Addr.add ad (Int.toNat n2 * 2)) (.agg ⟨[.int
 .i64 n, .int .i64 n3]⟩) G1 ∧ ix data_a (wrap .i64 (n2 + 1)) data_n fun ad => (∃ G2, sT 107 G1 (Addr.add ad (Int.toNat (wrap .i64 (n2 + 1)) * 2)) (.agg ⟨[.int .i64 n4, .int
 .i64 n5]⟩) G2 ∧ I [.int .i64 (wrap .i64 (n2 + 1))] G2 ∧ μ [.int .i64 (wrap .i64 (n2 + 1))] G2 < μ [.int .i64 n2] G))))) (R (.tuple ⟨[]⟩) G))) (brB (wrap .i64 (b -
 m) == 1) (∃ (I : IV) (μ : MU), I [.int .i64 a, .int .i64 m] H ∧ ∀ (J : F) (n n1 : Int) (G : Heap), I [.int .i64 n, .int .i64 n1] G → brB (decide (n < n1)) (ix data_a m data_n fun ad => (∃ n2
 n3, lD 107 G (Addr.add ad (Int.toNat m * 2)) (.agg ⟨[.int .i64 n2, .int .i64 n3]⟩) ∧ ix data_a (wrap .i64 (Int.fdiv (wrap .u64 (wrap .i64 (n + n1))) (2 ^ 1))) data_n fun
 ad => (∃ n4 n5, lD 107 G (Addr.add ad (Int.toNat (wrap .i64 (Int.fdiv (wrap .u64 (wrap .i64 (n + n1))) (2 ^ 1))) * 2)) (.agg ⟨[.int .i64 n4, .int .i64 n5]⟩) ∧ CallV
 Tryz.prog cmp [.agg ⟨[.int .i64 n2, .int .i64 n3]⟩, .agg ⟨[.int .i64 n4, .int .i64 n5]⟩] G fun v G1 => ∃ n6, v = .int .i64 n6 ∧ brB (!decide (n6 < 0)) (I [.int .i64 (wrap .i64
 (wrap .i64 (Int.fdiv (wrap .u64 (wrap .i64 (n + n1))) (2 ^ 1)) + 1)), .int .i64 n1] G1 ∧ μ [.int .i64 (wrap .i64 (wrap .i64 (Int.fdiv (wrap .u64
 (wrap .i64 (n + n1))) (2 ^ 1)) + 1)), .int .i64 n1] G1 < μ [.int .i64 n, .int .i64 n1] G) (I [.int .i64 n, .int .i64 (wrap .i64 (Int.fdiv (wrap .u64 (wrap .i64
 (n + n1))) (2 ^ 1)))] G1 ∧ μ [.int .i64 n, .int .i64 (wrap .i64 (Int.fdiv (wrap .u64 (wrap .i64 (n + n1))) (2 ^ 1)))] G1 < μ [.int .i64 n, .int .i64 n1] G)))) (∃ (I :
 IV) (μ : MU), I [.int .i64 m] G ∧ ∀ (J : F) (n2 : Int) (G : Heap), I [.int .i64 n2] G → brB (decide (n2 > n)) (ix data_a (wrap .i64 (n2 - 1)) data_n fun ad => (∃ n n3, lD 107 G
 (Addr.add ad (Int.toNat (wrap .i64 (n2 - 1)) * 2)) (.agg ⟨[.int .i64 n, .int .i64 n3]⟩) ∧ ix data_a n2 data_n fun ad => (∃ n4 n5, lD 107 G (Addr.add ad (Int.toNat n2 * 2)) (.agg
 ⟨[.int .i64 n4, .int .i64 n5]⟩) ∧ ix data_a n2 data_n fun ad => (∃ G1, sT 107 G (Addr.add ad (Int.toNat n2 * 2)) (.agg ⟨[.int .i64 n, .int .i64 n3]⟩) G1 ∧ ix data_a (wrap .i64 (n2
 - 1)) data_n fun ad => (∃ G2, sT 107 G1 (Addr.add ad (Int.toNat (wrap .i64 (n2 - 1)) * 2)) (.agg ⟨[.int .i64 n4, .int .i64 n5]⟩) G2 ∧ I [.int .i64 (wrap .i64 (n2 - 1))]
 G2 ∧ μ [.int .i64 (wrap .i64 (n2 - 1))] G2 < μ [.int .i64 n2] G))))) (R (.tuple ⟨[]⟩) G))) (∃ (M : IV), brB (decide (m > wrap .i64 (Int.fdiv (wrap .u64 (wrap
 .i64 (a + b))) (2 ^ min (Int.toNat 1) (IntKind.bits .u64))))) (M [.int .i64 (wrap .i64 (wrap .i64 (wrap .i64 (Int.fdiv (wrap .u64 (wrap .i64 (a + b))) (2 ^
 1)) + m) - b)), .int .i64 (wrap .i64 (Int.fdiv (wrap .u64 (wrap .i64 (a + b))) (2 ^ 1)))] H) (M [.int .i64 a, .int .i64 m] H) ∧ ∀ (J : F) (n n1 : Int) (G : Heap), M [.int
 .i64 n, .int .i64 n1] G → ∃ (I : IV) (μ : MU), I [.int .i64 n, .int .i64 n1] G ∧ ∀ (J : F) (n n2 : Int) (G : Heap), I [.int .i64 n, .int .i64 n2] G → brB (decide (n < n2)) (ix data_a
 (wrap .i64 (wrap .i64 (wrap .i64 (wrap .i64 (Int.fdiv (wrap .u64 (wrap .i64 (a + b))) (2 ^ 1)) + m) - 1) - wrap .i64 (Int.fdiv (wrap
 .u64 (wrap .i64 (n + n2))) (2 ^ 1)))) data_n fun ad => (∃ n3 n4, lD 107 G (Addr.add ad (Int.toNat (wrap .i64 (wrap .i64 (wrap .i64 (wrap .i64 (Int.fdiv
 (wrap .u64 (wrap .i64 (a + b))) (2 ^ 1)) + m) - 1) - wrap .i64 (Int.fdiv (wrap .u64 (wrap .i64 (n + n2))) (2 ^ 1)))) * 2)) (.agg ⟨[.int .i64 n3, .int .i64
 n4]⟩) ∧ ix data_a (wrap .i64 (Int.fdiv (wrap .u64 (wrap .i64 (n + n2))) (2 ^ 1))) data_n fun ad => (∃ n5 n6, lD 107 G (Addr.add ad (Int.toNat (wrap .i64
 (Int.fdiv (wrap .u64 (wrap .i64 (n + n2))) (2 ^ 1))) * 2)) (.agg ⟨[.int .i64 n5, .int .i64 n6]⟩) ∧ CallV Tryz.prog cmp [.agg ⟨[.int .i64 n3, .int .i64 n4]⟩, .agg ⟨[.int .i64
 n5, .int .i64 n6]⟩] G fun v G1 => ∃ n7, v = .int .i64 n7 ∧ brB (!decide (n7 < 0)) (I [.int .i64 (wrap .i64 (wrap .i64 (Int.fdiv (wrap .u64 (wrap .i64 (n +
 n2))) (2 ^ 1)) + 1)), .int .i64 n2] G1 ∧ μ [.int .i64 (wrap .i64 (wrap .i64 (Int.fdiv (wrap .u64 (wrap .i64 (n + n2))) (2 ^ 1)) + 1)), .int .i64 n2] G1 < μ
 [.int .i64 n, .int .i64 n2] G) (I [.int .i64 n, .int .i64 (wrap .i64 (Int.fdiv (wrap .u64 (wrap .i64 (n + n2))) (2 ^ 1)))] G1 ∧ μ [.int .i64 n, .int .i64 (wrap
 .i64 (Int.fdiv (wrap .u64 (wrap .i64 (n + n2))) (2 ^ 1)))] G1 < μ [.int .i64 n, .int .i64 n2] G)))) (∃ (M : IV), brB (decide (n < m)) (brB (decide (m < wrap .i64
 (wrap .i64 (wrap .i64 (Int.fdiv (wrap .u64 (wrap .i64 (a + b))) (2 ^ min (Int.toNat 1) (IntKind.bits .u64))) + m) - n))) (cU 150 [.slice data_a data_n data_c, .int
 .i64 n, .int .i64 m, .int .i64 (wrap .i64 (wrap .i64 (wrap .i64 (Int.fdiv (wrap .u64 (wrap .i64 (a + b))) (2 ^ 1)) + m) - n)), cmp] G fun G => M [] G) (M
 [] G)) (M [] G) ∧ ∀ (J : F) (G : Heap), M [] G → ∃ (M : IV), brB (decide (a < n)) (brB (decide (n < wrap .i64 (Int.fdiv (wrap .u64 (wrap .i64 (a + b))) (2 ^ min
 (Int.toNat 1) (IntKind.bits .u64))))) (cU 130 [.slice data_a data_n data_c, .int .i64 a, .int .i64 n, .int .i64 (wrap .i64 (Int.fdiv (wrap .u64 (wrap .i64 (a + b))) (2 ^
 1))), cmp] G fun G => M [] G) (M [] G)) (M [] G) ∧ ∀ (J : F) (G : Heap), M [] G → brB (decide (wrap .i64 (Int.fdiv (wrap .u64 (wrap .i64 (a + b))) (2 ^ min (Int.toNat
 1) (IntKind.bits .u64))) < wrap .i64 (wrap .i64 (wrap .i64 (Int.fdiv (wrap .u64 (wrap .i64 (a + b))) (2 ^ min (Int.toNat 1) (IntKind.bits .u64))) + m) - n)))
 (brB (decide (wrap .i64 (wrap .i64 (wrap .i64 (Int.fdiv (wrap .u64 (wrap .i64 (a + b))) (2 ^ min (Int.toNat 1) (IntKind.bits .u64))) + m) - n) < b)) (cU 130
 [.slice data_a data_n data_c, .int .i64 (wrap .i64 (Int.fdiv (wrap .u64 (wrap .i64 (a + b))) (2 ^ 1))), .int .i64 (wrap .i64 (wrap .i64 (wrap .i64
 (Int.fdiv (wrap .u64 (wrap .i64 (a + b))) (2 ^ 1)) + m) - n)), .int .i64 b, cmp] G fun G => R (.tuple ⟨[]⟩) G) (R (.tuple ⟨[]⟩) G)) (R (.tuple ⟨[]⟩) G))))) : cH 130 ⟨[.slice data_a data_n data_c, .int .i64 a, .int .i64 m, .int .i64 b, cmp]⟩ H R := vc_call (annOf [([0, 0, 1, 1, 0, 1, 0], .cut [(10, .one (.int .i64)), (11, .one (.int .i64))]), ([0,
 1, 0, 1, 0, 0, 0, 1, 1, 0, 1, 0], .tail 9), ([0, 1, 0, 1, 1, 1, 0, 1, 0], .cut [(13, .one (.int .i64))]), ([0, 0, 1, 0, 0, 1, 0, 1, 1, 1, 0, 1, 0], .reg [0, 0, 0, 0, 8, 0, 0, 64, 224, 480, 0, 0,
 3072, 7168, 16355, 32739, 65535, 131071] (.quiet 0 (.quiet 1 (.quiet 2 (.quiet 3 (.quiet 4 (.quiet 5 (.quiet 6 (.quiet 7 (.quiet 8 (.quiet 9 (.quiet 10 (.quiet 11 (.quiet 12 (.quiet 13 (.quiet 14
 (.pick (.alt 15 (.quiet 16 (.pick (.alt 17 (.done) .stop))) .stop)))))))))))))))))), ([0, 0, 1, 1, 0, 1, 0, 1], .cut [(14, .one (.int .i64)), (15, .one (.int .i64))]), ([0, 1, 0, 1, 0, 0, 0, 1, 1,
 0, 1, 0, 1], .tail 9), ([0, 1, 0, 1, 1, 1, 0, 1, 0, 1], .cut [(17, .one (.int .i64))]), ([0, 0, 1, 0, 0, 1, 0, 1, 1, 1, 0, 1, 0, 1], .reg [0, 0, 0, 0, 8, 0, 0, 64, 224, 480, 0, 0, 3072, 7168, 16355,
 32739, 65535, 131071] (.quiet 0 (.quiet 1 (.quiet 2 (.quiet 3 (.quiet 4 (.quiet 5 (.quiet 6 (.quiet 7 (.quiet 8 (.quiet 9 (.quiet 10 (.quiet 11 (.quiet 12 (.quiet 13 (.quiet 14 (.pick (.alt 15
 (.quiet 16 (.pick (.alt 17 (.done) .stop))) .stop)))))))))))))))))), ([1, 1, 1, 1, 1], .cut [(20, .one (.int .i64)), (21, .one (.int .i64))]), ([0, 0, 1, 1, 1, 1, 1, 1, 1], .cut [(20, .one (.int
 .i64)), (21, .one (.int .i64))]), ([0, 1, 0, 1, 0, 0, 0, 1, 1, 1, 1, 1, 1, 1], .tail 11), ([1, 1, 1, 1, 1, 1, 1, 1, 1], .cut []), ([1, 1, 1, 1, 1, 1, 1, 1, 1, 1], .cut [])]) followsAll Tryz.func130
 rfl Tryz.ntmps130 rfl rfl (Eq.mpr (by kernel_rfl) h)
abbrev fn_rice_Writer_put : Nat := 141
theorem vc_rice_Writer_put (w : Addr) (n : Int) (many : Int) (h : ∃ n1, lD 89 H (Addr.add w 2) (.int .u64 n1) ∧ chk (decide (0 ≤ wrap .u64 many)) (∃
 n2, lD 3 H (Addr.add w 3) (.int .i64 n2) ∧ ∃ G, sT 89 H (Addr.add w 2) (.int .u64 (wrap .u64 (↑(BitVec.toNat (BitVec.ofInt 64 (wrap .u64 (n1 * 2 ^ min (Int.toNat (wrap
 .u64 many)) 64)) ||| BitVec.ofInt 64 n)) : Int))) G ∧ ∃ G1, sT 3 G (Addr.add w 3) (.int .i64 (wrap .i64 (n2 + many))) G1 ∧ ∃ n, lD 3 G1 (Addr.add w 3) (.int .i64 n) ∧ brB (decide (n
 ≥ 8)) (∃ n, lD 3 G1 (Addr.add w 3) (.int .i64 n) ∧ ∃ G, sT 3 G1 (Addr.add w 3) (.int .i64 (wrap .i64 (n - 8))) G ∧ ∃ n, lD 89 G (Addr.add w 2) (.int .u64 n) ∧ ∃ n3, lD 3 G (Addr.add
 w 3) (.int .i64 n3) ∧ chk (decide (0 ≤ wrap .u64 n3)) (cV 156 [.pointer (some w), .int .u8 (wrap .u8 (Int.fdiv n (2 ^ min (Int.toNat (wrap .u64 n3)) 64)))] G fun v_1 G
 => ∃ n, lD 89 G (Addr.add w 2) (.int .u64 n) ∧ ∃ n4, lD 3 G (Addr.add w 3) (.int .i64 n4) ∧ chk (decide (0 ≤ wrap .u64 n4)) (∃ G2, sT 89 G (Addr.add w 2) (.int .u64 (wrap
 .u64 (↑(BitVec.toNat (BitVec.ofInt 64 n &&& BitVec.ofInt 64 (wrap .u64 (wrap .u64 (1 * 2 ^ min (Int.toNat (wrap .u64 n4)) 64) - 1)))) : Int))) G2 ∧ R (.tuple ⟨[]⟩) G2)))
 (R (.tuple ⟨[]⟩) G1))) : cH 141 ⟨[.pointer (some w), .int .u64 n, .int .i64 many]⟩ H R := vc_call (annOf [([0], .reg [0, 0, 0, 4, 12, 28, 0, 64, 252, 0, 1020, 0, 2048,
 6144, 14336, 0, 63488, 32765, 163837, 425981, 1048575, 2097151, 4194303] (.quiet 0 (.quiet 1 (.quiet 2 (.quiet 3 (.quiet 4 (.quiet 5 (.quiet 6 (.quiet 7 (.quiet 8 (.quiet 9 (.quiet 10 (.quiet 11
 (.quiet 12 (.quiet 13 (.quiet 14 (.quiet 15 (.quiet 16 (.quiet 17 (.quiet 18 (.pick (.alt 19 (.quiet 20 (.quiet 21 (.pick (.alt 22 (.done) .stop)))) .stop)))))))))))))))))))))), ([0, 1, 0, 1, 1],
 .tail 14), ([1, 1, 0, 1, 1], .tail 11)]) followsAll Tryz.func141 rfl Tryz.ntmps141 rfl rfl (Eq.mpr (by kernel_rfl) h)
abbrev fn_zig_Unfold : Nat := 142
theorem vc_zig_Unfold (n : Int) (h : R (.int .i64 (wrap .i64 (↑(BitVec.toNat (BitVec.ofInt 64 (wrap .i64 (Int.fdiv n (2 ^ 1))) ^^^ BitVec.ofInt
 64 (wrap .i64 (0 - wrap .i64 (wrap .u64 (↑(BitVec.toNat (BitVec.ofInt 64 n &&& BitVec.ofInt 64 1)) : Int)))))) : Int))) H) : cH 142 ⟨[.int .u64 n]⟩ H R := vc_call (annOf []) followsAll Tryz.func142 rfl Tryz.ntmps142 rfl rfl (Eq.mpr (by kernel_rfl) h)
abbrev fn_rice_Read : Nat := 143
theorem vc_rice_Read (s : ByteArray) (h : ∀ (b : Nat) (G : Heap), New H b (.cells ⟨[.string s, .int .i64 0]⟩ 223) G → R (.pointer (some ⟨b, 0, none⟩)) G) :
 cH 143 ⟨[.string s]⟩ H R := vc_call (annOf []) followsAll Tryz.func143 rfl Tryz.ntmps143 rfl rfl (Eq.mpr (by kernel_rfl) h)
abbrev fn_rice_Reader_Rice : Nat := 144
theorem vc_rice_Reader_Rice (r : Addr) (k : Int) (h : ∃ (M : IV), brB (decide (k < 0)) (R (.tuple ⟨[.int .u64 0, .int .i64 1]⟩) H) (brB (decide (k > 40)) (R
 (.tuple ⟨[.int .u64 0, .int .i64 1]⟩) H) (M [] H)) ∧ ∀ (J : F) (G : Heap), M [] G → cI 157 [.pointer (some r)] G fun n G => ∃ n1, lD 3 G (Addr.add r 1) (.int .i64 n1) ∧ cH 159 ⟨[.pointer
 (some r), .int .i64 n1, .int .i64 (if n < 24 then n else 24)]⟩ G fun v G => ∃ n2, v = .int .u64 n2 ∧ chk (decide (0 ≤ wrap .u64 (wrap .i64 (64 - if n < 24 then n else 24)))) (cI
 158 [.int .u64 (wrap .u64 (↑(BitVec.toNat (BitVec.ofInt 64 (if IntKind.signed .u64 = true then (-1 : Int) else IntKind.max .u64) ^^^ BitVec.ofInt 64 (wrap .u64 (n2 * 2 ^ min
 (Int.toNat (wrap .u64 (wrap .i64 (64 - if n < 24 then n else 24)))) 64)))) : Int))] G fun n3 G => ∃ (M : IV), brB ((if n < 24 then n else 24) == 0) (M [.int .i64 0] G) (M [.int
 .i64 n3] G) ∧ ∀ (J : F) (n4 : Int) (G : Heap), M [.int .i64 n4] G → ∃ n5, lD 3 G (Addr.add r 1) (.int .i64 n5) ∧ ∃ (M : IV), brB ((if (if n < 24 then n else 24) < n4 then if n < 24 then n
 else 24 else n4) == 24) (∃ n6, lD 3 G (Addr.add r 1) (.int .i64 n6) ∧ M [.int .i64 (if (if n < 24 then n else 24) < n4 then if n < 24 then n else 24 else n4), .int .i64 (wrap .i64 (n6
 + 24)), .int .i64 64] G) (M [.int .i64 (if (if n < 24 then n else 24) < n4 then if n < 24 then n else 24 else n4), .int .i64 (wrap .i64 (wrap .i64 (n5 + n4) + 1)), .int .i64 k]
 G) ∧ ∀ (J : F) (n n6 n7 : Int) (G : Heap), M [.int .i64 n, .int .i64 n6, .int .i64 n7] G → ∃ s, lD 9 G r (.string s) ∧ brB (decide (wrap .i64 (wrap .i64 (8 *
 (↑(s.size) : Int)) - n6) < n7)) (R (.tuple ⟨[.int .u64 0, .int .i64 10]⟩) G) (cH 159 ⟨[.pointer (some r), .int .i64 n6, .int .i64 n7]⟩ G fun v G => ∃ n8, v = .int .u64 n8 ∧ ∃ (M :
 IV), (∃ (M_1 : IV), brB (n == 24) (chk (decide (0 ≤ wrap .u64 k)) (M_1 [.bool (decide (Int.fdiv n8 (2 ^ min (Int.toNat (wrap .u64 k)) 64) < 24))] G)) (M_1 [.bool false] G) ∧ ∀ (J
 : F) (b : Bool) (G : Heap), M_1 [.bool b] G → brB b (R (.tuple ⟨[.int .u64 0, .int .i64 11]⟩) G) (brB (decide (n < 24)) (chk (decide (0 ≤ wrap .u64 k)) (M [.int .u64 (wrap .u64
 (↑(BitVec.toNat (BitVec.ofInt 64 n8 ||| BitVec.ofInt 64 (wrap .u64 (wrap .u64 n * 2 ^ min (Int.toNat (wrap .u64 k)) 64)))) : Int))] G)) (M [.int .u64 n8] G))) ∧ ∀ (J : F)
 (n : Int) (G : Heap), M [.int .u64 n] G → ∃ G1, sT 3 G (Addr.add r 1) (.int .i64 (wrap .i64 (n6 + n7))) G1 ∧ R (.tuple ⟨[.int .u64 n, .int .i64 0]⟩) G1))) : cH 144 ⟨[.pointer (some r), .int .i64 k]⟩ H R := vc_call (annOf [([1], .cut []), ([1, 1, 1, 1], .cut [(7, .one (.int .i64))]), ([1, 1, 1, 1, 1, 1], .cut [(7, .one (.int .i64)), (8, .one (.int
 .i64)), (9, .one (.int .i64))]), ([1, 1, 1, 1, 1, 1, 1, 1, 1], .cut [(10, .one (.int .u64))]), ([0, 0, 1, 1, 1, 1, 1, 1, 1, 1, 1], .cut [(67, .one .bool)])]) followsAll Tryz.func144 rfl
 Tryz.ntmps144 rfl rfl (Eq.mpr (by kernel_rfl) h)
abbrev fn_rice_Reader_End : Nat := 145
theorem vc_rice_Reader_End (r : Addr) (h : cI 157 [.pointer (some r)] H fun n G => brB (decide (n ≥ 8)) (R (.int .i64 11) G) (∃ n1, lD 3 G (Addr.add r 1)
 (.int .i64 n1) ∧ cH 159 ⟨[.pointer (some r), .int .i64 n1, .int .i64 n]⟩ G fun v G => ∃ n, v = .int .u64 n ∧ brB (n != 0) (R (.int .i64 11) G) (R (.int .i64 0) G))) : cH 145 ⟨[.pointer (some r)]⟩ H R := vc_call (annOf []) followsAll Tryz.func145 rfl Tryz.ntmps145 rfl rfl (Eq.mpr (by kernel_rfl) h)
abbrev fn_ref02_Read : Nat := 146
theorem vc_ref02_Read (s : ByteArray) (h : ∀ (b : Nat) (G : Heap), New H b (.cells ⟨[.string s, .int .i64 0]⟩ 226) G → R (.pointer (some ⟨b, 0, none⟩)) G) :
 cH 146 ⟨[.string s]⟩ H R := vc_call (annOf []) followsAll Tryz.func146 rfl Tryz.ntmps146 rfl rfl (Eq.mpr (by kernel_rfl) h)
abbrev fn_ref02_Reader_Rice : Nat := 147
theorem vc_ref02_Reader_Rice (r : Addr) (k : Int) (h : ∃ (M : IV), brB (decide (k < 0)) (R (.tuple ⟨[.int .u64 0, .int .i64 1]⟩) H) (brB (decide (k > 40)) (R
 (.tuple ⟨[.int .u64 0, .int .i64 1]⟩) H) (M [] H)) ∧ ∀ (J : F) (G : Heap), M [] G → ∃ n, lD 3 G (Addr.add r 1) (.int .i64 n) ∧ ∃ (I : IV) (μ : MU), I [.int .u64 0] G ∧ ∀ (J : F) (n1 : Int) (G
 : Heap), I [.int .u64 n1] G → ∃ (M : IV), brB (decide (n1 < 24)) (cI 160 [.pointer (some r)] G fun n2 G => brB (decide (n2 > 0)) (∃ n3, lD 3 G (Addr.add r 1) (.int .i64 n3) ∧ cH 161
 ⟨[.pointer (some r), .int .i64 n3]⟩ G fun v G => ∃ n4, v = .int .u64 n4 ∧ brB (n4 == 1) (M [] G) (brB (decide (n1 < 24)) (∃ n5, lD 3 G (Addr.add r 1) (.int .i64 n5) ∧ ∃ G1, sT 3 G
 (Addr.add r 1) (.int .i64 (wrap .i64 (n5 + 1))) G1 ∧ cI 160 [.pointer (some r)] G1 fun n6 G => brB (decide (n6 ≥ 0)) (cH 162 ⟨[.pointer (some r), .int .i64 k]⟩ G fun v G => ∃ n7
 n8, v = .tuple ⟨[.int .u64 n7, .int .i64 n8]⟩ ∧ brB (n8 != 0) (∃ G2, sT 3 G (Addr.add r 1) (.int .i64 n) G2 ∧ R (.tuple ⟨[.int .u64 0, .int .i64 n8]⟩) G2) (chk (decide (0 ≤ wrap
 .u64 k)) (R (.tuple ⟨[.int .u64 (wrap .u64 (wrap .u64 (n1 * 2 ^ min (Int.toNat (wrap .u64 k)) 64) + n7)), .int .i64 0]⟩) G))) (∃ G2, sT 3 G (Addr.add r 1) (.int .i64 n)
 G2 ∧ R (.tuple ⟨[.int .u64 0, .int .i64 10]⟩) G2)) (cH 162 ⟨[.pointer (some r), .int .i64 64]⟩ G fun v G => ∃ n5 n6, v = .tuple ⟨[.int .u64 n5, .int .i64 n6]⟩ ∧ ∃ (M : IV), brB (n6 == 0)
 (chk (decide (0 ≤ wrap .u64 k)) (brB (decide (Int.fdiv n5 (2 ^ min (Int.toNat (wrap .u64 k)) (IntKind.bits .u64)) < 24)) (M [.int .i64 11] G) (M [.int .i64 n6] G))) (M [.int .i64
 n6] G) ∧ ∀ (J : F) (n7 : Int) (G : Heap), M [.int .i64 n7] G → brB (n7 != 0) (∃ G1, sT 3 G (Addr.add r 1) (.int .i64 n) G1 ∧ R (.tuple ⟨[.int .u64 0, .int .i64 n7]⟩) G1) (R (.tuple
 ⟨[.int .u64 n5, .int .i64 0]⟩) G)))) (brB (decide (n1 < 24)) (∃ n3, lD 3 G (Addr.add r 1) (.int .i64 n3) ∧ ∃ G1, sT 3 G (Addr.add r 1) (.int .i64 (wrap .i64 (n3 + 1))) G1 ∧ cI
 160 [.pointer (some r)] G1 fun n4 G => brB (decide (n4 ≥ 0)) (cH 162 ⟨[.pointer (some r), .int .i64 k]⟩ G fun v G => ∃ n5 n6, v = .tuple ⟨[.int .u64 n5, .int .i64 n6]⟩ ∧ brB (n6 != 0) (∃
 G2, sT 3 G (Addr.add r 1) (.int .i64 n) G2 ∧ R (.tuple ⟨[.int .u64 0, .int .i64 n6]⟩) G2) (chk (decide (0 ≤ wrap .u64 k)) (R (.tuple ⟨[.int .u64 (wrap .u64 (wrap .u64
 (n1 * 2 ^ min (Int.toNat (wrap .u64 k)) 64) + n5)), .int .i64 0]⟩) G))) (∃ G2, sT 3 G (Addr.add r 1) (.int .i64 n) G2 ∧ R (.tuple ⟨[.int .u64 0, .int .i64 10]⟩) G2)) (cH 162
 ⟨[.pointer (some r), .int .i64 64]⟩ G fun v G => ∃ n3 n4, v = .tuple ⟨[.int .u64 n3, .int .i64 n4]⟩ ∧ ∃ (M : IV), brB (n4 == 0) (chk (decide (0 ≤ wrap .u64 k)) (brB (decide (Int.fdiv
 n3 (2 ^ min (Int.toNat (wrap .u64 k)) (IntKind.bits .u64)) < 24)) (M [.int .i64 11] G) (M [.int .i64 n4] G))) (M [.int .i64 n4] G) ∧ ∀ (J : F) (n5 : Int) (G : Heap), M [.int .i64
 n5] G → brB (n5 != 0) (∃ G1, sT 3 G (Addr.add r 1) (.int .i64 n) G1 ∧ R (.tuple ⟨[.int .u64 0, .int .i64 n5]⟩) G1) (R (.tuple ⟨[.int .u64 n3, .int .i64 0]⟩) G)))) (brB (decide (n1 <
 24)) (∃ n2, lD 3 G (Addr.add r 1) (.int .i64 n2) ∧ ∃ G1, sT 3 G (Addr.add r 1) (.int .i64 (wrap .i64 (n2 + 1))) G1 ∧ cI 160 [.pointer (some r)] G1 fun n3 G => brB (decide (n3 ≥
 0)) (cH 162 ⟨[.pointer (some r), .int .i64 k]⟩ G fun v G => ∃ n4 n5, v = .tuple ⟨[.int .u64 n4, .int .i64 n5]⟩ ∧ brB (n5 != 0) (∃ G2, sT 3 G (Addr.add r 1) (.int .i64 n) G2 ∧ R (.tuple
 ⟨[.int .u64 0, .int .i64 n5]⟩) G2) (chk (decide (0 ≤ wrap .u64 k)) (R (.tuple ⟨[.int .u64 (wrap .u64 (wrap .u64 (n1 * 2 ^ min (Int.toNat (wrap .u64 k)) 64) +
 n4)), .int .i64 0]⟩) G))) (∃ G2, sT 3 G (Addr.add r 1) (.int .i64 n) G2 ∧ R (.tuple ⟨[.int .u64 0, .int .i64 10]⟩) G2)) (cH 162 ⟨[.pointer (some r), .int .i64 64]⟩ G fun v G => ∃ n2 n3,
 v = .tuple ⟨[.int .u64 n2, .int .i64 n3]⟩ ∧ ∃ (M : IV), brB (n3 == 0) (chk (decide (0 ≤ wrap .u64 k)) (brB (decide (Int.fdiv n2 (2 ^ min (Int.toNat (wrap .u64 k)) (IntKind.bits
 .u64)) < 24)) (M [.int .i64 11] G) (M [.int .i64 n3] G))) (M [.int .i64 n3] G) ∧ ∀ (J : F) (n4 : Int) (G : Heap), M [.int .i64 n4] G → brB (n4 != 0) (∃ G1, sT 3 G (Addr.add r 1) (.int
 .i64 n) G1 ∧ R (.tuple ⟨[.int .u64 0, .int .i64 n4]⟩) G1) (R (.tuple ⟨[.int .u64 n2, .int .i64 0]⟩) G))) ∧ ∀ (J : F) (G1 : Heap), M [] G1 → ∃ n, lD 3 G1 (Addr.add r 1) (.int .i64 n) ∧ ∃
 G2, sT 3 G1 (Addr.add r 1) (.int .i64 (wrap .i64 (n + 1))) G2 ∧ I [.int .u64 (wrap .u64 (n1 + 1))] G2 ∧ μ [.int .u64 (wrap .u64 (n1 + 1))] G2 < μ [.int .u64 n1]
 G) : cH 147 ⟨[.pointer (some r), .int .i64 k]⟩ H R := vc_call (annOf [([1], .cut []), ([0, 0, 1, 1, 1, 1], .cut [(7, .one (.int .u64))]), ([0, 0, 0, 1, 1, 1, 1], .cut []),
 ([1, 1, 1, 1, 1, 1, 1], .cut [(11, .one (.int .i64))])]) followsAll Tryz.func147 rfl Tryz.ntmps147 rfl rfl (Eq.mpr (by kernel_rfl) h)
abbrev fn_ref01_Unfold : Nat := 148
theorem vc_ref01_Unfold (n : Int) (h : brB (Int.tmod n 2 == 0) (R (.int .i64 (wrap .i64 (wrap .u64 (Int.tdiv n 2)))) H) (R (.int .i64
 (wrap .i64 (wrap .i64 (0 - wrap .i64 (wrap .u64 (Int.tdiv n 2))) - 1))) H)) : cH 148 ⟨[.int .u64 n]⟩ H R := vc_call (annOf []) followsAll
 Tryz.func148 rfl Tryz.ntmps148 rfl rfl (Eq.mpr (by kernel_rfl) h)
abbrev fn_ref02_low : Nat := 149
theorem vc_ref02_low (n : Int) (bits : Int) (h : ∀ (b : Nat) (G : Heap), New H b (.cells ⟨[]⟩ 4) G → ∃ (I : IV) (μ : MU), I [.slice (some ⟨b, 0, none⟩) 0 0,
 .int .i64 (wrap .i64 (bits - 1))] G ∧ ∀ (J : F) (a : Option Addr) (n1 c : Nat) (n2 : Int) (G : Heap), I [.slice a n1 c, .int .i64 n2] G → brB (decide (n2 ≥ 0)) (chk (decide (0 ≤
 wrap .u64 n2)) (∀ (b : Nat) (G1 : Heap), New G b (.cells ⟨[.bool (Int.tmod (Int.fdiv n (2 ^ min (Int.toNat (wrap .u64 n2)) 64)) 2 == 1)]⟩ 4) G1 → SemWp Tryz.prog
 (Builtin.append_ ⟨[191, 191]⟩ 191 ⟨[.slice a n1 c, .slice (some ⟨b, 0, none⟩) 1 1]⟩) G1 fun v G2 => ∃ a_3 n c_1, v = .slice a_3 n c_1 ∧ I [.slice a_3 n c_1, .int .i64 (wrap .i64 (n2 -
 1))] G2 ∧ μ [.slice a_3 n c_1, .int .i64 (wrap .i64 (n2 - 1))] G2 < μ [.slice a n1 c, .int .i64 n2] G)) (R (.slice a n1 c) G)) : cH 149 ⟨[.int .u64 n,
 .int .i64 bits]⟩ H R := vc_call (annOf [([0, 1, 0, 1, 1], .cut [(5, .one .slice), (6, .one (.int .i64))])]) followsAll Tryz.func149 rfl Tryz.ntmps149 rfl rfl (Eq.mpr (by kernel_rfl) h)
abbrev fn_slices_rotateCmpFunc_api_Sample_ : Nat := 150
theorem vc_slices_rotateCmpFunc_api_Sample_ (data_a : Option Addr) (data_n : Nat) (data_c : Nat) (a : Int) (m : Int) (b : Int) (cmp : Value) (h : ∃ (I : IV) (μ :
 MU), I [.int .i64 (wrap .i64 (m - a)), .int .i64 (wrap .i64 (b - m))] H ∧ ∀ (J : F) (n n1 : Int) (G : Heap), I [.int .i64 n, .int .i64 n1] G → brB (n != n1) (brB (decide (n >
 n1)) (cU 163 [.slice data_a data_n data_c, .int .i64 (wrap .i64 (m - n)), .int .i64 m, .int .i64 n1, cmp] G fun G1 => I [.int .i64 (wrap .i64 (n - n1)), .int .i64 n1] G1 ∧ μ
 [.int .i64 (wrap .i64 (n - n1)), .int .i64 n1] G1 < μ [.int .i64 n, .int .i64 n1] G) (cU 163 [.slice data_a data_n data_c, .int .i64 (wrap .i64 (m - n)), .int .i64
 (wrap .i64 (wrap .i64 (m + n1) - n)), .int .i64 n, cmp] G fun G1 => I [.int .i64 n, .int .i64 (wrap .i64 (n1 - n))] G1 ∧ μ [.int .i64 n, .int .i64 (wrap .i64
 (n1 - n))] G1 < μ [.int .i64 n, .int .i64 n1] G)) (cU 163 [.slice data_a data_n data_c, .int .i64 (wrap .i64 (m - n)), .int .i64 m, .int .i64 n, cmp] G fun G => R (.tuple ⟨[]⟩) G)) :
 cH 150 ⟨[.slice data_a data_n data_c, .int .i64 a, .int .i64 m, .int .i64 b, cmp]⟩ H R := vc_call (annOf [([0, 0, 1, 1], .cut [(10, .one (.int .i64)), (11, .one (.int
 .i64))])]) followsAll Tryz.func150 rfl Tryz.ntmps150 rfl rfl (Eq.mpr (by kernel_rfl) h)
abbrev fn_strings_Builder_WriteByte : Nat := 156
theorem vc_strings_Builder_WriteByte (b : Addr) (c : Int) (h : cU 82 [.pointer (some b)] H fun G => ∃ a n c_1, lD 81 G (Addr.add b 1) (.slice a n c_1) ∧ ∀ (b_1
 : Nat) (G1 : Heap), New G b_1 (.cells ⟨[.int .u8 c]⟩ 5) G1 → SemWp Tryz.prog (Builtin.append_ ⟨[81, 81]⟩ 81 ⟨[.slice a n c_1, .slice (some ⟨b_1, 0, none⟩) 1 1]⟩) G1 fun v G => ∃ a n c, v =
 .slice a n c ∧ ∃ G2, sT 81 G (Addr.add b 1) (.slice a n c) G2 ∧ R .nilIface G2) : cH 156 ⟨[.pointer (some b), .int .u8 c]⟩ H R := vc_call (annOf []) followsAll
 Tryz.func156 rfl Tryz.ntmps156 rfl rfl (Eq.mpr (by kernel_rfl) h)
theorem vc_rice_Reader_Left (r : Addr) (h : ∃ s, lD 9 H r (.string s) ∧ ∃ n, lD 3 H (Addr.add r 1) (.int .i64 n) ∧ R (.int .i64 (wrap .i64 (wrap
 .i64 (8 * (↑(s.size) : Int)) - n))) H) : cH 157 ⟨[.pointer (some r)]⟩ H R := vc_call (annOf []) followsAll Tryz.func157 rfl Tryz.ntmps157 rfl rfl (Eq.mpr (by
 kernel_rfl) h)
abbrev fn_math_bits_LeadingZeros64 : Nat := 158
theorem vc_math_bits_LeadingZeros64 (x : Int) (h : cI 140 [.int .u64 x] H fun n G => R (.int .i64 (wrap .i64 (64 - n))) G) : cH 158 ⟨[.int .u64 x]⟩ H R := vc_call (annOf []) followsAll Tryz.func158 rfl Tryz.ntmps158 rfl rfl (Eq.mpr (by kernel_rfl) h)
abbrev fn_rice_Reader_peek : Nat := 159
theorem vc_rice_Reader_peek (r : Addr) (at' : Int) (many : Int) (h : ∃ (I : IV) (μ : MU), I [.int .i64 at', .int .i64 many, .int .u64 0] H ∧ ∀ (J : F) (n n1 n2
 : Int) (G : Heap), I [.int .i64 n, .int .i64 n1, .int .u64 n2] G → brB (decide (n1 > 0)) (∃ s, lD 9 G r (.string s) ∧ chk (decide (0 ≤ wrap .i64 (Int.tdiv n 8) ∧ wrap .i64
 (Int.tdiv n 8) < (↑(s.size) : Int))) (chk (decide (0 ≤ wrap .u64 (wrap .i64 (wrap .i64 (8 - Int.tmod n 8) - if n1 < wrap .i64 (8 - Int.tmod n 8) then n1
 else wrap .i64 (8 - Int.tmod n 8))))) (chk (decide (0 ≤ wrap .u64 (if n1 < wrap .i64 (8 - Int.tmod n 8) then n1 else wrap .i64 (8 - Int.tmod n 8)))) (chk (decide (0
 ≤ wrap .u64 (if n1 < wrap .i64 (8 - Int.tmod n 8) then n1 else wrap .i64 (8 - Int.tmod n 8)))) (I [.int .i64 (wrap .i64 (n + if n1 < wrap .i64 (8 -
 Int.tmod n 8) then n1 else wrap .i64 (8 - Int.tmod n 8))), .int .i64 (wrap .i64 (n1 - if n1 < wrap .i64 (8 - Int.tmod n 8) then n1 else wrap .i64 (8 - Int.tmod n
 8))), .int .u64 (wrap .u64 (↑(BitVec.toNat (BitVec.ofInt 64 (wrap .u64 (n2 * 2 ^ min (Int.toNat (wrap .u64 (if n1 < wrap .i64 (8 - Int.tmod n 8) then n1 else
 wrap .i64 (8 - Int.tmod n 8)))) 64)) ||| BitVec.ofInt 64 (wrap .u64 (↑(BitVec.toNat (BitVec.ofInt 64 (Int.fdiv (wrap .u64 (↑(atB s (Int.toNat (wrap .i64 (Int.tdiv n
 8)))) : Int)) (2 ^ min (Int.toNat (wrap .u64 (wrap .i64 (wrap .i64 (8 - Int.tmod n 8) - if n1 < wrap .i64 (8 - Int.tmod n 8) then n1 else wrap .i64 (8 -
 Int.tmod n 8))))) 64)) &&& BitVec.ofInt 64 (wrap .u64 (wrap .u64 (1 * 2 ^ min (Int.toNat (wrap .u64 (if n1 < wrap .i64 (8 - Int.tmod n 8) then n1 else wrap
 .i64 (8 - Int.tmod n 8)))) 64) - 1)))) : Int)))) : Int))] G ∧ μ [.int .i64 (wrap .i64 (n + if n1 < wrap .i64 (8 - Int.tmod n 8) then n1 else wrap .i64 (8 - Int.tmod n
 8))), .int .i64 (wrap .i64 (n1 - if n1 < wrap .i64 (8 - Int.tmod n 8) then n1 else wrap .i64 (8 - Int.tmod n 8))), .int .u64 (wrap .u64 (↑(BitVec.toNat
 (BitVec.ofInt 64 (wrap .u64 (n2 * 2 ^ min (Int.toNat (wrap .u64 (if n1 < wrap .i64 (8 - Int.tmod n 8) then n1 else wrap .i64 (8 - Int.tmod n 8)))) 64)) |||
 BitVec.ofInt 64 (wrap .u64 (↑(BitVec.toNat (BitVec.ofInt 64 (Int.fdiv (wrap .u64 (↑(atB s (Int.toNat (wrap .i64 (Int.tdiv n 8)))) : Int)) (2 ^ min (Int.toNat (wrap
 .u64 (wrap .i64 (wrap .i64 (8 - Int.tmod n 8) - if n1 < wrap .i64 (8 - Int.tmod n 8) then n1 else wrap .i64 (8 - Int.tmod n 8))))) 64)) &&& BitVec.ofInt 64
 (wrap .u64 (wrap .u64 (1 * 2 ^ min (Int.toNat (wrap .u64 (if n1 < wrap .i64 (8 - Int.tmod n 8) then n1 else wrap .i64 (8 - Int.tmod n 8)))) 64) - 1)))) :
 Int)))) : Int))] G < μ [.int .i64 n, .int .i64 n1, .int .u64 n2] G))))) (R (.int .u64 n2) G)) : cH 159 ⟨[.pointer (some r), .int .i64 at', .int .i64 many]⟩ H R :=
 vc_call (annOf [([0, 0, 1, 1], .cut [(1, .one (.int .i64)), (2, .one (.int .i64)), (7, .one (.int .u64))])]) followsAll Tryz.func159 rfl Tryz.ntmps159 rfl rfl (Eq.mpr (by kernel_rfl) h)
theorem vc_ref02_Reader_Left (r : Addr) (h : ∃ s, lD 9 H r (.string s) ∧ ∃ n, lD 3 H (Addr.add r 1) (.int .i64 n) ∧ R (.int .i64 (wrap .i64 (wrap
 .i64 (8 * (↑(s.size) : Int)) - n))) H) : cH 160 ⟨[.pointer (some r)]⟩ H R := vc_call (annOf []) followsAll Tryz.func160 rfl Tryz.ntmps160 rfl rfl (Eq.mpr (by
 kernel_rfl) h)
abbrev fn_ref02_Reader_bit : Nat := 161
theorem vc_ref02_Reader_bit (r : Addr) (at' : Int) (h : ∃ s, lD 9 H r (.string s) ∧ chk (decide (0 ≤ wrap .i64 (Int.tdiv at' 8) ∧ wrap .i64
 (Int.tdiv at' 8) < (↑(s.size) : Int))) (chk (decide (0 ≤ wrap .u64 (wrap .i64 (7 - Int.tmod at' 8)))) (R (.int .u64 (Int.tmod (wrap .u64 (Int.fdiv (↑(atB s
 (Int.toNat (wrap .i64 (Int.tdiv at' 8)))) : Int) (2 ^ min (Int.toNat (wrap .u64 (wrap .i64 (7 - Int.tmod at' 8)))) 8))) 2)) H))) : cH 161 ⟨[.pointer
 (some r), .int .i64 at']⟩ H R := vc_call (annOf []) followsAll Tryz.func161 rfl Tryz.ntmps161 rfl rfl (Eq.mpr (by kernel_rfl) h)
abbrev fn_ref02_Reader_Get : Nat := 162
theorem vc_ref02_Reader_Get (r : Addr) (bits : Int) (h : ∃ (M : IV), brB (decide (bits < 0)) (R (.tuple ⟨[.int .u64 0, .int .i64 1]⟩) H) (brB (decide (bits >
 64)) (R (.tuple ⟨[.int .u64 0, .int .i64 1]⟩) H) (M [] H)) ∧ ∀ (J : F) (G : Heap), M [] G → cI 160 [.pointer (some r)] G fun n G => brB (decide (n < bits)) (R (.tuple ⟨[.int .u64 0, .int .i64
 10]⟩) G) (∃ (I : IV) (μ : MU), I [.int .u64 0, .int .i64 0] G ∧ ∀ (J : F) (n n1 : Int) (G : Heap), I [.int .u64 n, .int .i64 n1] G → brB (decide (n1 < bits)) (∃ n2, lD 3 G (Addr.add r 1)
 (.int .i64 n2) ∧ cH 161 ⟨[.pointer (some r), .int .i64 (wrap .i64 (n2 + n1))]⟩ G fun v G1 => ∃ n3, v = .int .u64 n3 ∧ I [.int .u64 (wrap .u64 (wrap .u64 (2 * n) +
 n3)), .int .i64 (wrap .i64 (n1 + 1))] G1 ∧ μ [.int .u64 (wrap .u64 (wrap .u64 (2 * n) + n3)), .int .i64 (wrap .i64 (n1 + 1))] G1 < μ [.int .u64 n, .int .i64
 n1] G) (∃ n2, lD 3 G (Addr.add r 1) (.int .i64 n2) ∧ ∃ G1, sT 3 G (Addr.add r 1) (.int .i64 (wrap .i64 (n2 + bits))) G1 ∧ R (.tuple ⟨[.int .u64 n, .int .i64 0]⟩) G1))) : cH 162 ⟨[.pointer (some r), .int .i64 bits]⟩ H R := vc_call (annOf [([1], .cut []), ([0, 1, 0, 1, 1, 1, 1], .cut [(6, .one (.int .u64)), (7, .one (.int .i64))])]) followsAll
 Tryz.func162 rfl Tryz.ntmps162 rfl rfl (Eq.mpr (by kernel_rfl) h)
abbrev fn_slices_swapRangeCmpFunc_api_Sample_ : Nat := 163
theorem vc_slices_swapRangeCmpFunc_api_Sample_ (data_a : Option Addr) (data_n : Nat) (data_c : Nat) (a : Int) (b : Int) (n : Int) (cmp : Value) (h : ∃ (I : IV)
 (μ : MU), I [.int .i64 0] H ∧ ∀ (J : F) (n1 : Int) (G : Heap), I [.int .i64 n1] G → brB (decide (n1 < n)) (ix data_a (wrap .i64 (b + n1)) data_n fun ad => (∃ n n2, lD 107 G (Addr.add
 ad (Int.toNat (wrap .i64 (b + n1)) * 2)) (.agg ⟨[.int .i64 n, .int .i64 n2]⟩) ∧ ix data_a (wrap .i64 (a + n1)) data_n fun ad => (∃ n3 n4, lD 107 G (Addr.add ad (Int.toNat
 (wrap .i64 (a + n1)) * 2)) (.agg ⟨[.int .i64 n3, .int .i64 n4]⟩) ∧ ix data_a (wrap .i64 (a + n1)) data_n fun ad => (∃ G1, sT 107 G (Addr.add ad (Int.toNat (wrap .i64
 (a + n1)) * 2)) (.agg ⟨[.int .i64 n, .int .i64 n2]⟩) G1 ∧ ix data_a (wrap .i64 (b + n1)) data_n fun ad => (∃ G2, sT 107 G1 (Addr.add ad (Int.toNat (wrap .i64 (b + n1)) *
 2)) (.agg ⟨[.int .i64 n3, .int .i64 n4]⟩) G2 ∧ I [.int .i64 (wrap .i64 (n1 + 1))] G2 ∧ μ [.int .i64 (wrap .i64 (n1 + 1))] G2 < μ [.int .i64 n1] G))))) (R (.tuple ⟨[]⟩)
 G)) : cH 163 ⟨[.slice data_a data_n data_c, .int .i64 a, .int .i64 b, .int .i64 n, cmp]⟩ H R := vc_call (annOf [([0, 1], .cut [(10, .one (.int .i64))]), ([0, 0, 1, 0, 0,
 1], .reg [0, 0, 0, 6, 0, 0, 0, 96, 0, 0, 0, 1536, 3840, 7936, 0, 0, 0, 98304, 245760, 507904, 1048335, 2096911, 4194303, 8388607] (.quiet 0 (.quiet 1 (.quiet 2 (.quiet 3 (.quiet 4 (.quiet 5 (.quiet
 6 (.quiet 7 (.quiet 8 (.quiet 9 (.quiet 10 (.quiet 11 (.quiet 12 (.quiet 13 (.quiet 14 (.quiet 15 (.quiet 16 (.quiet 17 (.quiet 18 (.quiet 19 (.quiet 20 (.pick (.alt 21 (.quiet 22 (.pick (.alt 23
 (.done) .stop))) .stop))))))))))))))))))))))))]) followsAll Tryz.func163 rfl Tryz.ntmps163 rfl rfl (Eq.mpr (by kernel_rfl) h)
end Go.Proofs
