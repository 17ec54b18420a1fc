/- PolicyRests (law 18): for every input the law returns true and its arguments read as before. No condition. -/
import Derived.Test.YtnkkjfgelgdgcaaGvOpen
import Derived.Test.YtnkkjfgelgdgcaaL18
set_option linter.unusedVariables false
open Go Go.GV
namespace Go.Proofs.Ytnkkjfgelgdgcaa
open Go.ChangeShapes Go.WideShapes Go.ChangeAt Go.RowKit
theorem own : ownKnob Try.prog.godebug = none := by kernel_rfl
theorem laid : laidOutB Try.prog = true := by kernel_rfl

/-- Steps that came in. -/
theorem steps_in {H : Heap} {v : Value} (h : OkA Try.prog H 22 v) : ∃ a n c xs, v = .slice a n c ∧ Sl encStep H a n c xs := by
  obtain ⟨a, n, c, xs, rfl, hs, _, _⟩ := h.sl (E := encStep) (G := fun _ => True) Try.underlying22 (by kernel_rfl) fun m r hr hl => by
    obtain ⟨_, hf⟩ := hr.struct Try.underlying28
    match r, hl with
    | [c0, c1, c2, c3], _ =>
      obtain ⟨_, h0⟩ := hf 0 _ rfl
      obtain ⟨_, h1⟩ := hf 1 _ rfl
      obtain ⟨_, h2⟩ := hf 2 _ rfl
      obtain ⟨_, h3⟩ := hf 3 _ rfl
      obtain ⟨x0, e0, _⟩ := OkC.int Try.underlying3 h0
      obtain ⟨x1, e1, _⟩ := OkC.int Try.underlying3 h1
      obtain ⟨x2, e2, _⟩ := OkC.int Try.underlying3 h2
      obtain ⟨x3, e3, _⟩ := OkC.int Try.underlying3 h3
      have hc : Try.prog.cellsOf 3 = 1 := by kernel_rfl
      simp [hc] at e0 e1 e2 e3
      exact ⟨(x0, x1, x2, x3), by rw [e0, e1, e2, e3]; rfl, trivial⟩
  exact ⟨a, n, c, xs, rfl, hs⟩

theorem restsWalk (H : Heap) (vs : List Value) (h : OkArgs Try.prog H [22, 3, 4] vs) : CallH Try.prog 4 ⟨vs⟩ H fun v H' => v = .bool true ∧ Fr [] H H' := by
  obtain ⟨v0, _, rfl, h0, v1, _, rfl, h1, v2, _, rfl, h2, rfl⟩ := h
  obtain ⟨a, n, c, xs, rfl, hs⟩ := steps_in h0
  obtain ⟨day, rfl, _⟩ := h1.int Try.underlying3
  obtain ⟨k, rfl⟩ := h2.bool Try.underlying4
  exact Rests_ok hs

namespace SaidPolicyRests
theorem fn (X : Type) : ∀ ds : List (DataW X), ds.length = ([22,3,4] : List TypeId).length → Rows.policyRestsSpec.fn X ds = { results := [.lit (.bool true)], args := ds } := fun ds h => by
  match ds, h with
  | [d1, d2, d3], _ => rfl
set_option maxRecDepth 100000 in
theorem lifted (os : Os) (started : os.Started) (X : Type) (enc : TypeId × Value → X) :
    ReturnsInHanded {} Try.checked os 4 .any (Rows.policyRestsSpec.pre6 enc Try.prog Try.f4 Rows.policyRestsRow.domain false) (Rows.policyRestsSpec.post enc Try.prog Try.f4 false true false false) := by
  refine returnsInHanded_of_change (C := Try.checked) own started (by kernel_rfl) Try.func4
    (ChangeSpec.witness6 (enc := enc) (C := Try.checked) false ⟨#[], #[.slice none 0 0, .int .i64 0, .bool false], []⟩ 8 (by kernel_rfl) (by kernel_rfl) (by kernel_rfl) (by kernel_rfl)) ?_
  intro W base args ds gs before hval hW _ _
  exact law_said (tb := 4) Try.params4 rfl (fn X) (by kernel_rfl) Try.underlying4 (by kernel_rfl) laid restsWalk W base args ds gs before hval hW
theorem over : Rows.policyRestsRow.holds Try.pinned (OpenSpec.ofChange Rows.policyRestsSpec) :=
  OpenClaim.holds_of_wide 4 Try.f4 rfl rfl rfl rfl rfl rfl rfl ⟨rfl, rfl, rfl, rfl, rfl⟩ rfl rfl rfl rfl rfl (by kernel_rfl) Try.func4 (by kernel_rfl)
    (of_decide_eq_true (by kernel_rfl)) (by unfold Func.isWrapper; first | (rw [if_pos (by decide +kernel)]; kernel_rfl) | (rw [if_neg (by decide +kernel)]; exact ⟨rfl, rfl⟩))
    (fun os started X enc _ => lifted os started X enc)
end SaidPolicyRests
theorem policyRestsProved : Rows.PolicyRestsSaid := SaidPolicyRests.over

end Go.Proofs.Ytnkkjfgelgdgcaa
#print axioms Go.Proofs.Ytnkkjfgelgdgcaa.policyRestsProved
