/- A part of a proof: see the last text of this claim. -/
import Derived.Test.YtijedkfekmopnaaGreatDoorGvCore
import Derived.Defers
set_option linter.unusedVariables false
open Go
namespace Go.GV

theorem init_mkA {args : List Value} {fn : Func} {n : Nat} (hn : fn.ntmps = n) (hle : Nat.ble args.length n = true) :
    { tmps := args.toArray ++ Array.replicate (fn.ntmps - args.toArray.size) undef, defers := [] } = mkA [] n (initF args) := by
  have hle' : args.length ≤ n := Nat.le_of_ble_eq_true hle
  unfold mkA
  congr 1
  apply Array.ext_getElem?
  intro i
  have hi : ∀ (l : List Value) (i : Nat), initF l i = l.getD i undef := by
    intro l
    induction l with
    | nil => intro i; rfl
    | cons v l ih => intro i; cases i with | zero => rfl | succ i => exact ih i
  simp only [Array.getElem?_append, Array.getElem?_ofFn, List.size_toArray, List.getElem?_toArray, hn, hi, Array.getElem?_replicate]
  by_cases h1 : i < args.length
  · have h2 : i < n := by omega
    simp [h1, h2, List.getD_eq_getElem?_getD]
  · by_cases h2 : i < n
    · have h3 : i - args.length < n - args.length := by omega
      simp [h1, h2, h3, List.getD_eq_getElem?_getD]
    · have h3 : ¬ i - args.length < n - args.length := by omega
      simp [h1, h2, h3]
theorem res_run {P : Program} {Df : List Deferred} {fn : Func} {n : Nat} {rs : List ResultVar} (hr : fn.results.toList = rs) {f : F} {H' : Heap} {E : Env} {d' : Dr E} {X : Value → Prop}
    (h : vcRes P n f H' rs (fun vs => X (oneV vs))) : ∃ v, (results fn (mkA Df n f).tmps).run P (mkW E H' d') = .ok v (mkW E H' d') ∧ X v := by
  obtain ⟨g, hres, g1, g2⟩ := results_split fn (mkA Df n f).tmps
  obtain ⟨vs, hr', hk⟩ := vcRes_run (Df := Df) g g1 g2 h
  refine ⟨oneV vs, ?_, hk⟩
  have e1 := hr' (mkW E H' d') rfl
  rw [hres, Sem.run_bind, Array.mapM_eq_mapM_toList, Sem.run_map, hr]
  rw [e1]
  simp only [Result.andThen_ok]
  have e2 : ∀ vs : List Value, (if h : vs.toArray.size = 1 then vs.toArray[0] else .tuple vs.toArray) = oneV vs := by
    intro vs
    match vs with
    | [] => rfl
    | [v] => rfl
    | _ :: _ :: _ => simp [oneV]
  rw [← e2 vs]
  rfl

end Go.GV
