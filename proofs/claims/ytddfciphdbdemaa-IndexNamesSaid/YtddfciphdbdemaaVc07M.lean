/- A part of a proof: see the last text of this claim. -/
import Derived.Test.YtddfciphdbdemaaVc07
set_option linter.unusedVariables false
set_option maxRecDepth 100000
open Go Go.GV
namespace Go.Proofs

/- 121 (*strings.Builder).grow
  slots: [0=b, 1=n, 2=b, 3=n, 4=buf]  -/
abbrev fn_strings_Builder_grow : Nat := 121
theorem vc_strings_Builder_grow (b : Addr) (n : Int) (H : Heap) (R : Value → Heap → Prop) (h : ∃ a n_1 c, Ld Try.prog (96 : Nat) H (Addr.add b (1 : Nat)) (Value.slice a n_1 c) ∧ ∃ a n_2 c_1,
  Ld Try.prog (96 : Nat) H (Addr.add b (1 : Nat)) (Value.slice a n_2 c_1) ∧ ExtH Try.prog (132 : Nat) { toList := [Value.int IntKind.i64 (IntKind.wrap IntKind.i64 (IntKind.wrap IntKind.i64 ((2
  : Int) * (↑c : Int)) + n))] } H fun v H' => ∃ a_1 n c, v = Value.slice a_1 n c ∧ Ld Try.prog (96 : Nat) H' (Addr.add b (1 : Nat)) (Value.slice a n_2 c_1) ∧ chk (decide ((0 : Int) ≤ (0 : Int)
  ∧ (0 : Int) ≤ (↑n_2 : Int) ∧ (↑n_2 : Int) ≤ (↑c : Int))) (∃ a n c_2, Ld Try.prog (96 : Nat) H' (Addr.add b (1 : Nat)) (Value.slice a n c_2) ∧ SemWp Try.prog (Builtin.copy_ { toList := [(96 :
  Nat), (96 : Nat)] } (3 : Nat) { toList := [Value.slice a_1 (Int.toNat (↑n_2 : Int) - (0 : Nat)) (c - (0 : Nat)), Value.slice a n c_2] }) H' fun v H' => ∃ n, v = Value.int IntKind.i64 n ∧ ∃
  H'_1, St Try.prog (96 : Nat) H' (Addr.add b (1 : Nat)) (Value.slice a_1 (Int.toNat (↑n_2 : Int) - (0 : Nat)) (c - (0 : Nat))) H'_1 ∧ R (Value.tuple ⟨[]⟩) H'_1)) : CallH Try.prog 121
  (List.toArray [Value.pointer (some b), Value.int IntKind.i64 n]) H R := vc_call (annOf [([0], .reg [0, 1, 3, 7, 15, 31, 0, 127, 255, 0, 512, 1536, 3584, 7680, 16383, 32767] (.quiet 0 (.quiet
  1 (.quiet 2 (.quiet 3 (.quiet 4 (.quiet 5 (.quiet 6 (.quiet 7 (.quiet 9 (.quiet 10 (.quiet 11 (.quiet 12 (.quiet 13 (.pick (.alt 8 (.quiet 14 (.quiet 15 .done)) .stop))))))))))))))))])
  followsAll Go.Proofs.Try.func121 rfl Go.Proofs.Try.ntmps121 rfl rfl (Eq.mpr (by kernel_rfl) h)
end Go.Proofs
