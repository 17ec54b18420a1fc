/- A part of a proof: see the last text of this claim. -/
import Derived.Test.YtijedkfekmopnaaGreatDoorL07c
set_option linter.unusedVariables false
set_option maxRecDepth 100000
open Go Go.GV
namespace Go.Proofs

abbrev Lbls := List Lbl
structure WfI (L : List Lbls) : Prop where
  nodup : L.Nodup
  chk : ∀ l ∈ L, ChkP l
  len : L.length ≤ 200
theorem WfI.nil : WfI [] := ⟨by simp, by simp, by simp⟩
end Go.Proofs
