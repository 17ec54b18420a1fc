/- A part of a proof: see the last text of this claim. -/
import Derived.Test.YtijedkfekmopnaaGreatDoorGvOpen
import Derived.Test.YtijedkfekmopnaaGreatDoorQ11b
import Derived.Test.YtijedkfekmopnaaGreatDoorTie
import Derived.ProofKit
import Derived.LaidMore
import Derived.OpenShut
import Derived.MakeChecks
import Derived.Stop.Joined
set_option linter.unusedVariables false
open Go Go.GV
namespace Go.Proofs.YtijedkfekmopnaaGreatDoor
open Go.ChangeShapes Go.WideShapes Go.ChangeAt Go.RowKit
theorem own : ownKnob Tryz.prog.godebug = none := by kernel_rfl
theorem laidO : laidOutB Tryz.prog = true := by kernel_rfl
theorem gSteps : Tryz.prog.globalNamed "strandline/frame.steps" = some 0 := by kernel_rfl
abbrev laids : List (String × DataW Unit) := [("strandline/frame.steps", Rows.laid_strandline_frame_steps)]
theorem door_met (os : Os) (args : Array Value) : laidMetH Tryz.prog laids ((World.doorLaid Tryz.prog 400 os).forCall (fun _ _ => 0) ⟨#[], args, []⟩).memory :=
  laidMetH_of_parts3 (fuel := 8) (laidMet_of_run' 8 (by kernel_rfl) (by kernel_rfl)) (by kernel_rfl) (by kernel_rfl)
theorem tSteps : (Tryz.prog.globals[0]?).map (·.type) = some 174 := by kernel_rfl
theorem steps_lit : ∀ k, k < 16 → (Rows.laid_strandline_frame_steps : DataW Unit) = .agg (stepsL.map fun (x : Nat) => .lit (.int .u16 (x : Int))) := fun _ _ => rfl
theorem tab_of {W : World} (h : laidMetH Tryz.prog laids W) : TabH W.heap := by
  rw [MakeChecks.laidMetH_plain _ _ _ (by kernel_rfl)] at h
  obtain ⟨ps, ⟨g0, t0, cs0, f0, p0, q0, hg0, ht0, hv0, hd0, _, _⟩, _, _⟩ := h
  obtain rfl := Option.some.inj (gSteps.symm.trans hg0)
  obtain rfl := Option.some.inj (tSteps.symm.trans ht0)
  obtain ⟨xs, m, rfl, hx, hlen, hn, hel⟩ := DataW.trod_array Tryz.underlying174 hd0
  have hxs : xs.map (·.1) = stepsL.map fun (x : Nat) => (.lit (.int .u16 (x : Int)) : DataW Unit) := by
    have h1 := (Prod.mk.injEq _ _ _ _ ▸ hx).1
    rw [steps_lit 0 (by decide)] at h1
    exact (DataW.agg.inj h1).symm
  have c173 : Tryz.prog.cellsOf 173 = 1 := by kernel_rfl
  intro k hk
  have h1 := hel k hk
  rw [c173] at h1
  obtain ⟨x, hxk⟩ : ∃ x, xs[k]? = some x := by
    cases e : xs[k]? with
    | none => rw [List.getElem?_eq_none_iff] at e; omega
    | some x => exact ⟨x, rfl⟩
  rw [hxk] at h1
  obtain ⟨v, e1, e2, _⟩ := DataW.trod_int Tryz.underlying173 h1
  have h3 : x.1 = .lit (.int .u16 (stN k : Int)) := by
    have h4 := congrArg (·[k]?) hxs
    simp only [List.getElem?_map, hxk, Option.map_some] at h4
    have h5 : stepsL[k]? = some (stN k) := by
      unfold stN
      rw [List.getD_eq_getElem?_getD, List.getElem?_eq_getElem (show k < stepsL.length from hk)]; rfl
    rw [h5] at h4
    exact Option.some.inj h4
  have hv : v = (stN k : Int) := by
    rw [e2] at h3
    simpa using h3
  have hc := World.var?_cell hg0 hv0 k
  have h7 : cs0[k]? = some (.int .u16 v) := by
    have := congrArg List.head? e1
    rw [List.head?_take, if_neg (by decide), List.head?_drop] at this
    simpa using this
  rw [h7, hv] at hc
  rw [cell_heap] at hc
  exact hc
theorem law_saidH {P : Program} {f : Func} {k : FuncId} {s : ChangeSpec} {X : Type} {enc : TypeId × Value → X} {tb : TypeId} {ts : List TypeId} (hp : f.params = ⟨ts⟩) (hvars : s.vars = []) (hfn : ∀ ds : List (DataW X), ds.length = ts.length → s.fn X ds = { results := [.lit (.bool true)], args := ds })
    (hres : f.resultTypes = #[tb]) (hb : P.underlying tb = some .bool) (hts : (ts.all fun t => P.readableRec t && decide (t < P.types.size)) = true) (hl : laidOutB P = true)
    (W : World) (base : Nat) (args : Array Value) (ds gs : List (DataW X)) (before : List MemPlace)
    (walk : OkArgs P W.heap ts args.toList → CallH P k args W.heap fun v H' => v = .bool true ∧ Fr [] W.heap H')
    (hval : ∀ (j : Nat) t v, f.params[j]? = some t → args[j]? = some v → Value.okWide P W .any base t v)
    (hW : DataW.Whole enc P f.params.toList s.vars false W args.toList ds gs before) :
    Calls P k args W fun e W' => ∃ v, e = .returned v ∧ s.post enc P f false true false false W args v W' := by
  have hts : ∀ t ∈ ts, P.readableRec t = true ∧ t < P.types.size := fun t ht => by
    have := List.all_eq_true.1 hts t ht
    simpa using this
  have hpl : f.params.toList = ts := by rw [hp]
  have hW' := hW
  obtain ⟨p, q, hA, hV, rfl, hfz, hnd⟩ := hW
  rw [hvars] at hV
  obtain ⟨rfl, rfl⟩ := trodVars_none hV
  rw [hpl] at hA
  have hlen := hA.lt
  have hoa : OkArgs P W.heap ts args.toList := okArgs_of hA fun j t v ht hv => hval j t v (by rw [hp]; simpa using ht) (by simpa using hv)
  have hcall := walk hoa ⟨W.tape, W.os, W.output, W.drawn⟩ ⟨W.drawn, Nat.le_refl _⟩
  rw [← mkW_eta W] at hcall
  refine hcall.mono fun e W' => ?_
  rintro ⟨v, H', d', rfl, rfl, rfl, hf⟩
  have hdl : ds.length = ts.length := trodAll_len hA
  have hfr : Fr [] W.heap (mkW ⟨W.tape, W.os, W.output, W.drawn⟩ H' d').heap := hf
  refine ⟨_, rfl, ds, [], p ++ [], [], p, [], hW', ?_, ?_, ?_, ?_, fun h => by cases h⟩
  · rw [List.append_nil, hfn ds hdl, hres]
    exact trodAll_mk1 (shut_bool hb true)
  · rw [List.append_nil, hfn ds hdl]
    rw [hpl]
    exact trodAll_stays hl hts hA (fun x hx => same_of_fr hfr (hlen x hx)) (fun x hx => by simpa using hlen x hx)
  · rw [List.append_nil, hfn ds hdl, hvars]
    rfl
  · exact kept_of_fr (W := W) (W' := mkW ⟨W.tape, W.os, W.output, W.drawn⟩ H' d') rfl rfl hfr _
end Go.Proofs.YtijedkfekmopnaaGreatDoor
