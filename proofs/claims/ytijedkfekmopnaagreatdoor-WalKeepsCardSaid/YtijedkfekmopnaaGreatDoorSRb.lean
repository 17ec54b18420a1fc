/- A part of a proof: see the last text of this claim. -/
import Derived.Test.YtijedkfekmopnaaGreatDoorSRa
import Derived.Test.YtijedkfekmopnaaGreatDoorQ11g
set_option linter.unusedVariables false
open Go Go.GV
namespace Go.Proofs.YtijedkfekmopnaaGreatDoor
open Go.ChangeShapes Go.WideShapes Go.ChangeAt Go.RowKit
theorem list22 {H : Heap} : ∀ (k : Nat) (r : List Value), OkC Tryz.prog H k 22 r → r.length = encHd.sz → ∃ h, encHd.cells h = r ∧ ListIn H h := fun k r hr hl => by
  obtain ⟨a, n, c, ms, e, hsl, hc, hg⟩ := hr.sl (E := encR5) (G := RecIn H) Tryz.underlying22 (by kernel_rfl) rec39
  obtain ⟨rs, hR, hT⟩ := recs_in hg
  have hcap := hsl.cap
  exact ⟨(a, n, c), e.symm, ms, rs, hsl, hR, hT, by show n ≤ _; unfold maxLen at hc; omega⟩
theorem keepsWalk {H : Heap} {vs : List Value} (h : OkArgs Tryz.prog H [5, 50, 5] vs) (ht : TabH H) : CallH Tryz.prog 5 ⟨vs⟩ H fun v H' => v = .bool true ∧ Fr [] H H' := by
  obtain ⟨v0, _, rfl, h0, v1, _, rfl, h1, v2, _, rfl, h2, rfl⟩ := h
  obtain ⟨x, rfl, wx⟩ := h0.int Tryz.underlying5
  obtain ⟨a, n, c, hs, rfl, hsl, hc, hg⟩ := h1.sl (E := encHd) (G := ListIn H) Tryz.underlying50 (by kernel_rfl) list22
  obtain ⟨y, rfl, wy⟩ := h2.int Tryz.underlying5
  exact Keeps_ok hsl hg (wf_u8 wx) ht
end Go.Proofs.YtijedkfekmopnaaGreatDoor
