/- Part of a proof. -/
import Derived.Test.YtgalnkecefpaoaaGreatDoorSV
import Derived.Test.YtgalnkecefpaoaaGreatDoorTie
import Derived.LaidMore
import Derived.MakeChecks
import Derived.Stop.Joined
set_option linter.unusedVariables false
set_option linter.unusedSimpArgs false
set_option maxRecDepth 100000
open Go Go.GV
namespace Go.Proofs.YtgalnkecefpaoaaGreatDoor
open Go.ChangeShapes Go.WideShapes Go.ChangeAt Go.RowKit
abbrev laids : List (String × DataW Unit) := [("math/bits.deBruijn32tab", Rows.laid_math_bits_deBruijn32tab), ("math/bits.deBruijn64tab", Rows.laid_math_bits_deBruijn64tab), ("internal/strconv.uint64pow10", Rows.laid_internal_strconv_uint64pow10), ("strandline/frame.steps", Rows.laid_strandline_frame_steps), ("strconv.ErrRange", Rows.laid_strconv_ErrRange), ("strconv.ErrSyntax", Rows.laid_strconv_ErrSyntax)]
theorem laid_get {P : Program} {w : World} {n : String} {d : DataW Unit} : ∀ {l : List (String × DataW Unit)} {ps : List MemPlace}, DataW.LaidVars P w l ps → (n, d) ∈ l → ∃ g t cs fuel p, P.globalNamed n = some g ∧ (P.globals[g]?).map (·.type) = some t ∧ w.var? P n = some cs ∧ DataW.trod (fun _ => ()) P w 0 (fun _ => true) false fuel t cs.toList = some (d, p)
  | [], _, _, h => by cases h
  | (n', d') :: r, ps, h, hm => by
    obtain ⟨g, t, cs, fuel, p, q, h1, h2, h3, h4, h5, _⟩ := h
    rcases List.mem_cons.1 hm with e | hm
    · cases e; exact ⟨g, t, cs, fuel, p, h1, h2, h3, h4⟩
    · exact laid_get h5 hm
theorem var_blk' {P : Program} {w : World} {n : String} {g : Nat} {cs : Array Value} (hg : P.globalNamed n = some g) (h : w.var? P n = some cs) : ∃ t f, w.heap[g]? = some (.cells cs t f) := by
  unfold World.var? at h
  rw [hg, Option.bind_some] at h
  split at h
  · rename_i c t f e
    cases h; exact ⟨t, f, e⟩
  · cases h
theorem arr_of {P : Program} {w : World} {fuel g t e n : Nat} {k : IntKind} {cs : List Value} {zs : List Int} {p : List MemPlace} (hu : P.underlying t = some (.array n e)) (hue : P.underlying e = some (.int k)) (hce : P.cellsOf e = 1) (hct : P.cellsOf t = n)
    (h : DataW.trod (fun _ => ()) P w 0 (fun _ => true) false fuel t cs = some (.agg (zs.map fun z => .lit (.int k z)), p)) : cs = zs.map (Value.int k) := by
  obtain ⟨xs, m, rfl, hx, hlen, hn, hel⟩ := DataW.trod_array hu h
  have hxs : xs.map (·.1) = zs.map fun z => (.lit (.int k z) : DataW Unit) := (DataW.agg.inj (Prod.mk.injEq _ _ _ _ ▸ hx).1).symm
  have hzl : zs.length = n := by have := congrArg List.length hxs; simp at this; omega
  rw [hct] at hlen
  apply List.ext_getElem?
  intro i
  by_cases hi : i < n
  · have h1 := hel i hi
    rw [hce, Nat.mul_one] at h1
    obtain ⟨x, hxi⟩ := getElem_ex (l := xs) (i := i) (by omega)
    rw [hxi] at h1
    obtain ⟨v, e1, e2, _⟩ := DataW.trod_int hue h1
    have h4 := congrArg (·[i]?) hxs
    simp only [List.getElem?_map, hxi, Option.map_some] at h4
    obtain ⟨z, hz⟩ := getElem_ex (l := zs) (i := i) (by omega)
    rw [hz, Option.map_some] at h4
    have h5 : v = z := by
      have := (Option.some.inj h4)
      rw [e2] at this
      simpa using this
    have h6 := congrArg List.head? e1
    rw [List.head?_take, if_neg (by decide), List.head?_drop] at h6
    rw [List.getElem?_map, hz, h6, h5]; rfl
  · rw [List.getElem?_eq_none_iff.2 (by omega), List.getElem?_eq_none_iff.2 (by simp; omega)]
theorem steps_lit : (Rows.laid_strandline_frame_steps : DataW Unit) = .agg ((stepsL.map fun (x : Nat) => (x : Int)).map fun z => .lit (.int .u16 z)) := rfl
theorem pow_lit : (Rows.laid_internal_strconv_uint64pow10 : DataW Unit) = .agg (Lib.pow10Tab.map fun z => .lit (.int .u64 z)) := rfl
theorem gl_of {w : World} (h : laidMetH Tryz.prog laids w) : (∃ cs te fz, w.heap[1]? = some (.cells cs te fz) ∧ ∀ k, k < 16 → cs[k]? = some (.int .u16 (stN k))) ∧ ∃ t f, w.heap[4]? = some (.cells (Lib.pow10Tab.map fun z => Value.int .u64 z).toArray t f) := by
  rw [MakeChecks.laidMetH_plain _ _ _ (by kernel_rfl)] at h
  obtain ⟨ps, hv, _, _⟩ := h
  have get : ∀ {n : String} {d : DataW Unit} {g t : Nat}, (n, d) ∈ laids → Tryz.prog.globalNamed n = some g → (Tryz.prog.globals[g]?).map (·.type) = some t → ∃ (cs : Array Value) (f : TypeId × Nat × Nat) (fuel : Nat) (p : List MemPlace), w.heap[g]? = some (.cells cs f.1 f.2) ∧ DataW.trod (fun _ => ()) Tryz.prog w 0 (fun _ => true) false fuel t cs.toList = some (d, p) := fun hm hg ht => by
    obtain ⟨g', t', cs, fuel, p, h1, h2, h3, h4⟩ := laid_get hv hm
    obtain rfl := Option.some.inj (hg.symm.trans h1)
    obtain rfl := Option.some.inj (ht.symm.trans h2)
    obtain ⟨tt, f, e⟩ := var_blk' h1 h3
    exact ⟨cs, (tt, f), fuel, p, e, h4⟩
  refine ⟨?_, ?_⟩
  · obtain ⟨cs, f, fuel, p, e, h4⟩ := get (n := "strandline/frame.steps") (d := Rows.laid_strandline_frame_steps) (g := 1) (by simp [laids]) (by kernel_rfl) (t := 281) (by kernel_rfl)
    rw [steps_lit] at h4
    have hc := arr_of (g := 1) Tryz.underlying281 Tryz.underlying280 (by kernel_rfl) (by kernel_rfl) h4
    refine ⟨cs, f.1, f.2, e, fun k hk => ?_⟩
    rw [← Array.getElem?_toList, hc]
    have h5 : stepsL[k]? = some (stN k) := by
      unfold stN
      rw [List.getD_eq_getElem?_getD, List.getElem?_eq_getElem (show k < stepsL.length from hk)]; rfl
    simp [h5]
  · obtain ⟨cs, f, fuel, p, e, h4⟩ := get (n := "internal/strconv.uint64pow10") (d := Rows.laid_internal_strconv_uint64pow10) (g := 4) (by simp [laids]) (by kernel_rfl) (t := 512) (by kernel_rfl)
    rw [pow_lit] at h4
    have hc := arr_of (g := 4) Tryz.underlying512 Tryz.underlying43 (by kernel_rfl) (by kernel_rfl) h4
    refine ⟨f.1, f.2, ?_⟩
    rw [e, ← hc]
theorem law_saidH {P : Program} {f : Func} {k : FuncId} {s : ChangeSpec} {X : Type} {enc : TypeId × Value → X} {tb : TypeId} {ts : List TypeId} (hp : f.params = ⟨ts⟩) (hvars : s.vars = []) (hfn : ∀ ds : List (DataW X), ds.length = ts.length → s.fn X ds = { results := [.lit (.bool true)], args := ds })
    (hres : f.resultTypes = #[tb]) (hb : P.underlying tb = some .bool) (hts : (ts.all fun t => P.readableRec t && decide (t < P.types.size)) = true) (hl : laidOutB P = true)
    (W : World) (base : Nat) (args : Array Value) (ds gs : List (DataW X)) (before : List MemPlace)
    (walk : OkArgs P W.heap ts args.toList → CallH P k args W.heap fun v H' => v = .bool true ∧ Fr [] W.heap H')
    (hval : ∀ (j : Nat) t v, f.params[j]? = some t → args[j]? = some v → Value.okWide P W .any base t v)
    (hW : DataW.Whole enc P f.params.toList s.vars false W args.toList ds gs before) :
    Calls P k args W fun e W' => ∃ v, e = .returned v ∧ s.post enc P f false true false false W args v W' := by
  have hts : ∀ t ∈ ts, P.readableRec t = true ∧ t < P.types.size := fun t ht => by
    have := List.all_eq_true.1 hts t ht
    simpa using this
  have hpl : f.params.toList = ts := by rw [hp]
  have hW' := hW
  obtain ⟨p, q, hA, hV, rfl, hfz, hnd⟩ := hW
  rw [hvars] at hV
  obtain ⟨rfl, rfl⟩ := trodVars_none hV
  rw [hpl] at hA
  have hlen := hA.lt
  have hoa : OkArgs P W.heap ts args.toList := okArgs_of hA fun j t v ht hv => hval j t v (by rw [hp]; simpa using ht) (by simpa using hv)
  have hcall := walk hoa ⟨W.tape, W.os, W.output, W.drawn⟩ ⟨W.drawn, Nat.le_refl _⟩
  rw [← mkW_eta W] at hcall
  refine hcall.mono fun e W' => ?_
  rintro ⟨v, H', d', rfl, rfl, rfl, hf⟩
  have hdl : ds.length = ts.length := trodAll_len hA
  have hfr : Fr [] W.heap (mkW ⟨W.tape, W.os, W.output, W.drawn⟩ H' d').heap := hf
  refine ⟨_, rfl, ds, [], p ++ [], [], p, [], hW', ?_, ?_, ?_, ?_, fun h => by cases h⟩
  · rw [List.append_nil, hfn ds hdl, hres]
    exact trodAll_mk1 (shut_bool hb true)
  · rw [List.append_nil, hfn ds hdl]
    rw [hpl]
    exact trodAll_stays hl hts hA (fun x hx => same_of_fr hfr (hlen x hx)) (fun x hx => by simpa using hlen x hx)
  · rw [List.append_nil, hfn ds hdl, hvars]
    rfl
  · exact kept_of_fr (W := W) (W' := mkW ⟨W.tape, W.os, W.output, W.drawn⟩ H' d') rfl rfl hfr _
end Go.Proofs.YtgalnkecefpaoaaGreatDoor
