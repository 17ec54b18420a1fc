/- A part of a proof: see the last text of this claim. -/
import Derived.Test.YtijedkfekmopnaaGreatDoorGvCore
import Derived.Defers
set_option linter.unusedVariables false
open Go
namespace Go.GV

def CallDH (P : Program) (k : FuncId) (args : Array Value) (H : Heap) (R : Value → Heap → Prop) : Prop :=
  ∀ E d u, CallsD P k args u (mkW E H d) (fun e u' w' => u' = u ∧ ∃ v H' d', e = .returned v ∧ w' = mkW E H' d' ∧ R v H')

theorem init_mkA {args : List Value} {fn : Func} {n : Nat} (hn : fn.ntmps = n) (hle : Nat.ble args.length n = true) :
    { tmps := args.toArray ++ Array.replicate (fn.ntmps - args.toArray.size) undef, defers := [] } = mkA [] n (initF args) := by
  have hle' : args.length ≤ n := Nat.le_of_ble_eq_true hle
  unfold mkA
  congr 1
  apply Array.ext_getElem?
  intro i
  have hi : ∀ (l : List Value) (i : Nat), initF l i = l.getD i undef := by
    intro l
    induction l with
    | nil => intro i; rfl
    | cons v l ih => intro i; cases i with | zero => rfl | succ i => exact ih i
  simp only [Array.getElem?_append, Array.getElem?_ofFn, List.size_toArray, List.getElem?_toArray, hn, hi, Array.getElem?_replicate]
  by_cases h1 : i < args.length
  · have h2 : i < n := by omega
    simp [h1, h2, List.getD_eq_getElem?_getD]
  · by_cases h2 : i < n
    · have h3 : i - args.length < n - args.length := by omega
      simp [h1, h2, h3, List.getD_eq_getElem?_getD]
    · have h3 : ¬ i - args.length < n - args.length := by omega
      simp [h1, h2, h3]
theorem res_run {P : Program} {Df : List Deferred} {fn : Func} {n : Nat} {rs : List ResultVar} (hr : fn.results.toList = rs) {f : F} {H' : Heap} {E : Env} {d' : Dr E} {X : Value → Prop}
    (h : vcRes P n f H' rs (fun vs => X (oneV vs))) : ∃ v, (results fn (mkA Df n f).tmps).run P (mkW E H' d') = .ok v (mkW E H' d') ∧ X v := by
  obtain ⟨g, hres, g1, g2⟩ := results_split fn (mkA Df n f).tmps
  obtain ⟨vs, hr', hk⟩ := vcRes_run (Df := Df) g g1 g2 h
  refine ⟨oneV vs, ?_, hk⟩
  have e1 := hr' (mkW E H' d') rfl
  rw [hres, Sem.run_bind, Array.mapM_eq_mapM_toList, Sem.run_map, hr]
  rw [e1]
  simp only [Result.andThen_ok]
  have e2 : ∀ vs : List Value, (if h : vs.toArray.size = 1 then vs.toArray[0] else .tuple vs.toArray) = oneV vs := by
    intro vs
    match vs with
    | [] => rfl
    | [v] => rfl
    | _ :: _ :: _ => simp [oneV]
  rw [← e2 vs]
  rfl

theorem vc_callD {P : Program} {k : FuncId} {fn : Func} {c : Code} {n : Nat} {args : List Value} {rs : List ResultVar} {H : Heap} {R : Value → Heap → Prop} (ann : List Nat → Ann) (hm : P.follows .mixedOrders = true)
    (hf : P.funcs[k]? = some fn) (hb : fn.body = some c) (hn : fn.ntmps = n) (hr : fn.results.toList = rs) (hle : Nat.ble args.length n = true)
    (h : vc P n ann c [] (endK P n rs R) (initF args) H) : CallDH P k args.toArray H R := by
  intro E d u
  refine callsD_of_wp hf hb ?_
  rw [init_mkA hn hle]
  refine vc_sound hm c [] (fun e f H' d' k => ?_) _ H h d
  have fin : vcRes P n f H' rs (fun vs => R (oneV vs) H') → ∃ v, (results fn (mkA [] n f).tmps).run P (mkW E H' d') = .ok v (mkW E H' d') ∧ ∃ v' H'' d'', Ending.returned v = .returned v' ∧ mkW E H' d' = mkW E H'' d'' ∧ R v' H'' := fun h => by
    obtain ⟨v, h1, h2⟩ := res_run (Df := []) (fn := fn) (d' := d') (X := fun v => R v H') hr h
    exact ⟨v, h1, v, H', d', rfl, rfl, h2⟩
  cases e with
  | normal => exact ⟨rfl, fin k⟩
  | ret => exact ⟨rfl, fin k⟩
  | exit i => exact k.elim

def vcDef (P : Program) (n : Nat) (ann : List Nat → Ann) (rs : List ResultVar) (R : Value → Heap → Prop) (c : Code) (f : F) (H : Heap) : Prop :=
  match c with
  | .seq c0 (.seq (.region _ ops false) rest) => vc P n ann c0 [0] (fun e f H => match e with
    | .normal => (match ops.toList with
      | [⟨some t, .makeFunc (.func j) first captured, _, _, _, none⟩, ⟨none, .defer ⟨.value (.tmp t'), ⟨[]⟩, _⟩, _, _, _, none⟩] =>
        chk (Nat.beq t' t && (Nat.blt t n && okFn P j)) (vc P n ann rest [1, 1] (fun e f' H' => match e with
          | .exit _ => False
          | _ => CallDH P j ⟨evs n f first.toList ++ evs n f captured.toList⟩ H' fun _ H'' => vcRes P n f' H'' rs fun vs => R (oneV vs) H'')
          (upd f t (.func (.func j) ⟨evs n f first.toList⟩ ⟨evs n f captured.toList⟩)) H)
      | _ => False)
    | _ => False) f H
  | _ => False

theorem vc_callDef {P : Program} {k : FuncId} {fn : Func} {c : Code} {n : Nat} {args : List Value} {rs : List ResultVar} {H : Heap} {R : Value → Heap → Prop} (ann : List Nat → Ann) (hm : P.follows .mixedOrders = true)
    (hf : P.funcs[k]? = some fn) (hb : fn.body = some c) (hn : fn.ntmps = n) (hr : fn.results.toList = rs) (hle : Nat.ble args.length n = true)
    (h : vcDef P n ann rs R c (initF args) H) : CallH P k args.toArray H R := by
  intro E d
  refine calls_of_wp_defers hf hb ?_
  rw [init_mkA hn hle]
  unfold vcDef at h
  split at h
  rotate_left
  · exact h.elim
  rename_i c0 id ops rest
  refine wp_seq (vc_sound hm c0 [0] (fun e f H1 d1 h => ?_) _ H h d)
  cases e with
  | exit i => exact h.elim
  | ret => exact h.elim
  | normal =>
  show (Code.seq (.region id ops false) rest).wp P _ (mkA [] n f) (mkW E H1 d1)
  dsimp only at h
  split at h
  rotate_left
  · exact h.elim
  rename_i t j first captured ty1 p1 af1 t' at2 ty2 p2 af2 hops
  obtain ⟨hB, h⟩ := chk_out h
  simp only [Bool.and_eq_true] at hB
  obtain ⟨ht, htn, hok⟩ := hB
  have ht : t' = t := Nat.eq_of_beq_eq_true ht
  subst ht
  refine wp_seq (wp_region_list ?_)
  rw [hops]
  let fv : Value := .func (.func j) ⟨evs n f first.toList⟩ ⟨evs n f captured.toList⟩
  let dd : Deferred := { target := .fn (.func j) ⟨evs n f captured.toList⟩, args := ⟨evs n f first.toList⟩ }
  have main : rest.wp P (bodyPostD P fn fun e w' => ∃ v H' d', e = .returned v ∧ w' = mkW E H' d' ∧ R v H') (mkA [dd] n (upd f t' fv)) (mkW E H1 d1) := by
    refine vc_sound (Df := [dd]) hm rest [1, 1] (fun e f' H2 d2 h2 => ?_) _ H1 h d1
    have go : CallDH P j ⟨evs n f first.toList ++ evs n f captured.toList⟩ H2 (fun _ H'' => vcRes P n f' H'' rs fun vs => R (oneV vs) H'') →
        Leaves P fn (mkA [dd] n f').tmps (fun e w' => ∃ v H' d', e = .returned v ∧ w' = mkW E H' d' ∧ R v H') [dd] .returning (mkW E H2 d2) := fun hc => by
      refine leaves_cons (f := j) (args := ⟨evs n f first.toList ++ evs n f captured.toList⟩) (by intro e; cases e) ?_ ?_
      · show (callFunc j _).run P _ = _
        rw [okFn_run hok]
        congr 2
        simp
      · refine (hc E d2 .returning).mono fun e u' w' h3 => ?_
        obtain ⟨rfl, v, H3, d3, rfl, rfl, h4⟩ := h3
        show Leaves P fn (mkA [dd] n f').tmps _ [] (settle .returning) (mkW E H3 d3)
        obtain ⟨v', h5, h6⟩ := res_run (Df := [dd]) (fn := fn) (d' := d3) (X := fun v => R v H3) hr h4
        exact ⟨v', h5, v', H3, d3, rfl, rfl, h6⟩
    cases e with
    | normal => exact go h2
    | ret => exact go h2
    | exit i => exact h2.elim
  unfold wpList
  rw [if_pos (by unfold Region.wanted; rfl)]
  left
  unfold Oper.wp
  have e1 : (execOp (mkA [] n f).eval ⟨some t', .makeFunc (.func j) first captured, ty1, p1, af1, none⟩).run P (mkW E H1 d1) = .ok (.value fv) (mkW E H1 d1) := by
    rw [eval_fun]
    simp [execOp, Instr.makeFunc, fv, map_evs]
  rw [e1]
  show wpList P ops _ _ ((mkA [] n f).put (some t') fv) (mkW E H1 d1)
  rw [put_mkA]
  unfold wpList
  rw [if_pos (by unfold Region.wanted; rfl)]
  left
  unfold Oper.wp
  have e2 : (execOp (mkA [] n (updO f (some t') fv)).eval ⟨none, .defer ⟨.value (.tmp t'), ⟨[]⟩, at2⟩, ty2, p2, af2, none⟩).run P (mkW E H1 d1) = .ok (.defer dd) (mkW E H1 d1) := by
    rw [eval_fun]
    have ev1 : ev n (updO f (some t') fv) (.tmp t') = fv := by
      simp [ev, updO, upd, htn]
    simp [execOp, resolve, ev1, fv, Deferred.ofValue, dd]
  rw [e2]
  exact main
end Go.GV
