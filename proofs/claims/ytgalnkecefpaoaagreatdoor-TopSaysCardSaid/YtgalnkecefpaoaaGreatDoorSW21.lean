/- TopSays (through the layers): for every input the law returns true, and its arguments read as before. The laid tables and errors are tied to the program's text by the card. -/
import Derived.Test.YtgalnkecefpaoaaGreatDoorSWa
import Derived.Test.YtgalnkecefpaoaaGreatDoorSWc
import Derived.Test.YtgalnkecefpaoaaGreatDoorCards
import Derived.Test.YtgalnkecefpaoaaGreatDoorChecked
import Derived.SevenTiedAt
set_option linter.unusedVariables false
set_option linter.unusedSimpArgs false
set_option maxRecDepth 100000
open Go Go.GV
namespace Go.Proofs.YtgalnkecefpaoaaGreatDoor
open Go.ChangeShapes Go.WideShapes Go.ChangeAt Go.RowKit
theorem own : ownKnob Tryz.prog.godebug = none := by kernel_rfl
theorem laidO : laidOutB Tryz.prog = true := by kernel_rfl
theorem door_met (os : Os) (args : Array Value) : laidMetH Tryz.prog laids ((World.doorLaid Tryz.prog 400 os).forCall (fun _ _ => 0) ⟨#[], args, []⟩).memory :=
  laidMetH_of_parts3 (fuel := 8) (laidMet_of_run' 8 (by kernel_rfl) (by kernel_rfl)) (by kernel_rfl) (by kernel_rfl)
set_option maxRecDepth 100000 in
theorem wit (os : Os) (X : Type) (enc : TypeId × Value → X) : ∃ (w : World) (tape : Tape) (i : Input), w.os = os ∧ (w.forCall tape i).Shaped Tryz.checked.prog ∧ i.vars = [] ∧ Input.okWide Tryz.checked.prog (w.forCall tape i) .any w.heap.size 3 i ∧
      (((Rows.topSaysSpec.pre enc Tryz.checked.prog Tryz.f3 [] false (w.forCall tape i).memory i.args ∧ laidMetH Tryz.prog laids (w.forCall tape i).memory) ∧ sizedMet enc Tryz.checked.prog Tryz.f3 (OpenSpec.ofChange Rows.topSaysSpec) false (w.forCall tape i).memory i.args) ∧ Assume.holds {} Tryz.checked.prog (lone (Frame.enter Tryz.checked.prog 3 i.args .normal) [] (w.forCall tape i))) :=
  ChangeSpec.witness_shaped (enc := enc) (C := Tryz.checked) (os := os) (X := fun w _ => laidMetH Tryz.prog laids w) false (World.doorLaid Tryz.prog 400 os) #[.int .u8 0, .int .i16 0, .int .u8 0] 8 rfl (World.shaped_of_RefB (by kernel_rfl) (by kernel_rfl)) (by kernel_rfl) (by kernel_rfl) (by kernel_rfl) (door_met os _)
theorem fn (X : Type) : ∀ ds : List (DataW X), ds.length = ([5, 22, 5] : List TypeId).length → Rows.topSaysSpec.fn X ds = { results := [.lit (.bool true)], args := ds } := fun ds h => by
  match ds, h with
  | [d1, d2, d3], _ => rfl
theorem lifted (os : Os) (started : os.Started) (X : Type) (enc : TypeId × Value → X) :
    ReturnsInHanded {} Tryz.checked os 3 .any (fun w args => (Rows.topSaysSpec.pre enc Tryz.prog Tryz.f3 [] false w args ∧ laidMetH Tryz.prog laids w) ∧ sizedMet enc Tryz.prog Tryz.f3 (OpenSpec.ofChange Rows.topSaysSpec) false w args)
      (Rows.topSaysSpec.post enc Tryz.prog Tryz.f3 false true false false) := by
  refine returnsInHanded_of_calls (C := Tryz.checked) own started (by kernel_rfl) (wit os X enc) ?_
  intro w tape i _ hsh _ hok hpre _
  obtain ⟨_, _, _, fn', hfn', _, _, _, _, hval⟩ := hok
  have e : fn' = Tryz.f3 := Option.some.inj (hfn'.symm.trans Tryz.func3)
  subst e
  obtain ⟨⟨⟨ds, gs, before, hw, hc⟩, hx⟩, hz⟩ := hpre
  have hw' := DataW.Whole.of_heap (w' := w.forCall tape i) (by rfl) hw
  have hL : laidMetH Tryz.prog laids (w.forCall tape i) := laidMetH.of_heap (by rfl) hx
  obtain ⟨g1, g2⟩ := gl_of hL
  refine (law_saidH (tb := 4) Tryz.params3 rfl (fn X) (by kernel_rfl) Tryz.underlying4 (by kernel_rfl) laidO (w.forCall tape i) w.heap.size i.args ds gs before (fun h => Go.SX.saysWalk h g1 g2) hval hw').mono fun e W' => ?_
  rintro ⟨v, rfl, hp⟩
  exact ChangeSpec.post_blind hp
theorem hg_of (P : Program) (c : OpenClaim) (k : FuncId) (s : String) (hs : c.start = .entering) (hn : c.func = s) (hf : P.funcNamed s = some k) (hg : P.goes k = false) : false = c.goesBy P := by
  unfold OpenClaim.goesBy Program.goesAt Program.goesFrom
  rw [hs, hn, hf]
  simp [hg]
theorem hg : false = Rows.topSaysRow.goesBy Tryz.prog :=
  hg_of Tryz.prog Rows.topSaysRow 3 "strandline/strandlinetop.TopSays" rfl rfl (by kernel_rfl) goes3
theorem over : Rows.TopSaysSaid :=
  OpenClaim.holds_of_wide 3 Tryz.f3 rfl rfl rfl rfl rfl rfl rfl ⟨rfl, rfl, rfl, rfl, rfl⟩ rfl rfl rfl rfl rfl (by kernel_rfl) Tryz.func3 closed
    (of_decide_eq_true (by kernel_rfl)) (by unfold Func.isWrapper; first | (rw [if_pos (by decide +kernel)]; kernel_rfl) | (rw [if_neg (by decide +kernel)]; exact ⟨rfl, rfl⟩))
    (fun os started X enc _ => lifted os started X enc)
theorem topSaysProved : Rows.TopSaysCardSaid :=
  Claim7.holds_tied_plain_at .later [] [.data, .data, .data, .data, .sentinel, .sentinel] true (true, "6b58fc86f621ba990a478d6b6c0fa740d67558de129f33c99b011d67773e3b20") true
    over (fun _ h => by cases h) (by kernel_rfl) (fun _ h => by cases h) topSays_row_tie rfl ⟨rfl, rfl⟩ (by kernel_rfl) rfl
    (fun f fn hf hfn => by
      obtain rfl : f = 3 := Option.some.inj ((show Tryz.prog.funcNamed "strandline/strandlinetop.TopSays" = some 3 by kernel_rfl).symm.trans hf) |>.symm
      obtain rfl : fn = Tryz.f3 := (Option.some.inj (Tryz.func3.symm.trans hfn)).symm
      exact ⟨by kernel_rfl, fun j t ht => by
        rw [Tryz.params3] at ht
        have hm : t ∈ [5, 22, 5] := by simpa using Array.mem_of_getElem? ht
        have hall : ([5, 22, 5].all fun u => !Tryz.prog.wantsStandIn u) = true := by kernel_rfl
        exact (show Tryz.prog.wantsStandIn t = false by simpa using List.all_eq_true.1 hall t hm)⟩)
    hg
end Go.Proofs.YtgalnkecefpaoaaGreatDoor
