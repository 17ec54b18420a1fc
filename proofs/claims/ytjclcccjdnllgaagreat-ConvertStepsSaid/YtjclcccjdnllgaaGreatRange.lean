/- A part of a proof: see the last text of this claim. -/
import Derived.Test.YtjclcccjdnllgaaGreatGvOpen
import Derived.RangeFuncRecord
import Derived.OrdersIn
import Derived.TacticsIn
set_option linter.unusedVariables false
open Go
namespace Go.GV
variable {Df : List Deferred}

def WideF (ro : Option Nat) : Fence := { Fence.wide with round := ro }

def YieldH (P : Program) (l : Nat) (args : List Value) (H : Heap) (K : Value → Heap → Prop) : Prop :=
  ∀ (E : Env) (d : Dr E), ∃ fn tmps assign body, (Instr.yield l args.toArray).run P (mkW E H d) = .ok (.round l fn tmps assign body) (mkW E H d) ∧
    RoundIn Fence.wide 0 P l fn tmps assign body (mkW E H d) (fun e w' => ∃ v H' d', e = .returned v ∧ w' = mkW E H' d' ∧ K v H')
theorem YieldH.mono {P : Program} {l : Nat} {args : List Value} {H : Heap} {K K' : Value → Heap → Prop} (h : YieldH P l args H K) (hk : ∀ v H', K v H' → K' v H') : YieldH P l args H K' := by
  intro E d
  obtain ⟨fn, tmps, assign, body, h1, h2⟩ := h E d
  exact ⟨fn, tmps, assign, body, h1, h2.mono fun e w' ⟨v, H', d', e1, e2, k⟩ => ⟨v, H', d', e1, e2, hk _ _ k⟩⟩
def CallY (P : Program) (v : Value) (args : List Value) (H : Heap) (K : Value → Heap → Prop) : Prop :=
  CallV P v args H K ∨ ∃ l, v = .func (.yield l) #[] #[] ∧ YieldH P l args H K
theorem CallY.mono {P : Program} {v : Value} {args : List Value} {H : Heap} {K K' : Value → Heap → Prop} (h : CallY P v args H K) (hk : ∀ v H', K v H' → K' v H') : CallY P v args H K' := by
  rcases h with h | ⟨l, e, h⟩
  · exact .inl (CallV.mono h hk)
  · exact .inr ⟨l, e, h.mono hk⟩

def vcOpY (P : Program) (n : Nat) (f : F) (o : Oper) (H : Heap) (K : Value → Heap → Prop) : Prop :=
  match o.op with
  | .call { callee := .value (.tmp g), args, .. } => CallY P (ev n f (.tmp g)) (evs n f args.toList) H fun v H' => exT (tyOf P o.type) fun u => v = u ∧ K u H'
  | _ => vcOp P n f o H K
theorem vcOpY_mono {P : Program} {n : Nat} {f : F} {o : Oper} {H : Heap} {K K' : Value → Heap → Prop} (hk : ∀ v H', K v H' → K' v H') (h : vcOpY P n f o H K) : vcOpY P n f o H K' := by
  unfold vcOpY at h ⊢
  split at h
  · exact h.mono fun v H' k => exT_mono (fun u k => ⟨k.1, hk _ _ k.2⟩) k
  · exact vcOp_mono hk h

def isDef : Op → Bool
  | .defer _ => true
  | _ => false
def noDefB : List Oper → Bool
  | [] => true
  | o :: l => cond (isDef o.op) false (noDefB l)
theorem noDef_of : ∀ {l : List Oper}, noDefB l = true → ∀ (i : Nat) (o : Oper), l[i]? = some o → ∀ c, o.op ≠ .defer c
  | [], _, _, _, h, _ => by simp at h
  | x :: l, hd, i, o, h, c => by
    unfold noDefB at hd
    cases hx : isDef x.op with
    | true => rw [hx] at hd; cases hd
    | false =>
      rw [hx] at hd
      cases i with
      | zero => simp at h; subst h; intro e; rw [e] at hx; cases hx
      | succ i => exact noDef_of (l := l) hd i o (by simpa using h) c

def vcLY (P : Program) (n : Nat) (ops : List Oper) : List Oper → F → Heap → (F → Heap → Prop) → Prop
  | [], f, H, K => K f H
  | o :: rest, f, H, K =>
    match o.guard with
    | none => vcOpY P n f o H fun v H' => vcLY P n ops rest (updO f o.dst v) H' K
    | some (j, want) =>
      match guardSlot ops j with
      | none => vcLY P n ops rest (updO f o.dst undef) H K
      | some d =>
        match ev n f (.tmp d) with
        | .bool c => brB c
            (bif want then vcOpY P n (upd f d (.bool true)) o H fun v H' => vcLY P n ops rest (updO (upd f d (.bool true)) o.dst v) H' K
             else vcLY P n ops rest (updO (upd f d (.bool true)) o.dst undef) H K)
            (bif want then vcLY P n ops rest (updO (upd f d (.bool false)) o.dst undef) H K
             else vcOpY P n (upd f d (.bool false)) o H fun v H' => vcLY P n ops rest (updO (upd f d (.bool false)) o.dst v) H' K)
        | _ => vcLY P n ops rest (updO f o.dst undef) H K
def vcLEY (P : Program) (n : Nat) : List Oper → F → Heap → (F → Heap → Prop) → Prop
  | [], f, H, K => K f H
  | o :: rest, f, H, K =>
    match o.guard with
    | none => vcOpY P n f o H fun v H' => openE P o v fun v => vcLEY P n rest (updO f o.dst v) H' K
    | some _ => False
def vcPY (P : Program) (n : Nat) (a : Ann) (ops : List Oper) (f : F) (H : Heap) (K : F → Heap → Prop) : Prop := match a with
  | .ext => vcLEY P n ops f H K
  | _ => vcLY P n ops ops f H K

def vcRY (P : Program) (n : Nat) (ops : List Oper) (bef : List Nat) (K : F → Heap → Prop) : Sched → Nat → Pend → F → Heap → Prop
  | .done, m, _, f, H => chk (doneC ops m) (K f H)
  | .quiet i s, m, D, f, H =>
    match ops[i]? with
    | none => False
    | some o => chk (quietC P ops m i o s) (guarded ops n o f
        (fun f => vcStill P n f o H fun v => vcRY P n ops bef K s (mrk m i) (addP i (factOf P n f o v) D) (updO f o.dst v) H)
        (fun f => vcRY P n ops bef K s (mrk m i) D (updO f o.dst undef) H))
  | .pick s, m, D, f, H => chk (pickC ops m s) (vcRY P n ops bef K s m D f H)
  | .alt i s r, m, D, f, H =>
    match ops[i]? with
    | none => False
    | some o =>
      chk (mainC s) (bif r.isStop then guarded ops n o f
          (fun f => vcOpY P n f o H fun v H' => allP (keepP bef i D) H' (vcRY P n ops bef K s (mrk m i) (keepP bef i D) (updO f o.dst v) H'))
          (fun f => vcRY P n ops bef K s (mrk m i) (keepP bef i D) (updO f o.dst undef) H)
      else guarded ops n o f
          (fun f => vcOpY P n f o H fun v H' => allP (keepP bef i D) H' (vcRY P n ops bef K s (mrk m i) (keepP bef i D) (updO f o.dst v) H'))
          (fun f => vcRY P n ops bef K s (mrk m i) (keepP bef i D) (updO f o.dst undef) H) ∧ vcRY P n ops bef K r m D f H)
  | .stop, _, _, _, _ => False

theorem vcRY_mono {P : Program} {n : Nat} {ops : List Oper} {bef : List Nat} {K K' : F → Heap → Prop} (hk : ∀ f H, K f H → K' f H) : ∀ (s : Sched) (m : Nat) (D : Pend) (f : F) (H : Heap), vcRY P n ops bef K s m D f H → vcRY P n ops bef K' s m D f H := by
  intro s
  induction s with
  | done => intro m D f H h; unfold vcRY at h ⊢; exact chk_mono (hk _ _) h
  | quiet i s ih =>
    intro m D f H h
    unfold vcRY at h ⊢
    split at h
    · exact h
    · exact chk_mono (guarded_mono (fun h => vcStill_mono (fun v h => ih _ _ _ _ h) h) (fun h => ih _ _ _ _ h)) h
  | pick s ih => intro m D f H h; unfold vcRY at h ⊢; exact chk_mono (ih _ _ _ _) h
  | alt i s r ih ihr =>
    intro m D f H h
    unfold vcRY at h ⊢
    split at h
    · exact h
    · refine chk_mono (fun h => ?_) h
      cases hr : r.isStop with
      | true =>
        rw [hr] at h
        simp only [cond_true] at h ⊢
        exact guarded_mono (fun h => vcOpY_mono (fun v H' h => allP_mono (ih _ _ _ _) h) h) (fun h => ih _ _ _ _ h) h
      | false =>
        rw [hr] at h
        simp only [cond_false] at h ⊢
        exact ⟨guarded_mono (fun h => vcOpY_mono (fun v H' h => allP_mono (ih _ _ _ _) h) h) (fun h => ih _ _ _ _ h) h.1, ihr _ _ _ _ h.2⟩
  | stop => intro m D f H h; exact h

theorem vcRY_off {P : Program} {n : Nat} {ops : List Oper} {bef : List Nat} {K : F → Heap → Prop} {f0 : F} : ∀ (s : Sched) (m : Nat) (D : Pend) (f : F) (H : Heap), Off (wrOps ops) f0 f → vcRY P n ops bef K s m D f H → vcRY P n ops bef (fun f' H' => K f' H' ∧ Off (wrOps ops) f0 f') s m D f H := by
  intro s
  induction s with
  | done => intro m D f H ho h; unfold vcRY at h ⊢; exact chk_mono (fun h => ⟨h, ho⟩) h
  | quiet i s ih =>
    intro m D f H ho h
    unfold vcRY at h ⊢
    split at h
    · exact h
    · rename_i o hi
      exact chk_mono (guarded_mono (fun h => vcStill_mono (fun v h => ih _ _ _ _ (off_step hi ho _) h) h) (fun h => ih _ _ _ _ (off_step hi ho _) h)) h
  | pick s ih => intro m D f H ho h; unfold vcRY at h ⊢; exact chk_mono (ih _ _ _ _ ho) h
  | alt i s r ih ihr =>
    intro m D f H ho h
    unfold vcRY at h ⊢
    split at h
    · exact h
    · rename_i o hi
      refine chk_mono (fun h => ?_) h
      cases hr : r.isStop with
      | true =>
        rw [hr] at h
        simp only [cond_true] at h ⊢
        exact guarded_mono (fun h => vcOpY_mono (fun v H' h => allP_mono (ih _ _ _ _ (off_step hi ho _)) h) h) (fun h => ih _ _ _ _ (off_step hi ho _) h) h
      | false =>
        rw [hr] at h
        simp only [cond_false] at h ⊢
        exact ⟨guarded_mono (fun h => vcOpY_mono (fun v H' h => allP_mono (ih _ _ _ _ (off_step hi ho _)) h) h) (fun h => ih _ _ _ _ (off_step hi ho _) h) h.1, ihr _ _ _ _ ho h.2⟩
  | stop => intro m D f H ho h; exact h

def vcY (P : Program) (n : Nat) (ann : List Nat → Ann) : Code → List Nat → (Ex → F → Heap → Prop) → F → Heap → Prop
  | .skip, _, K, f, H => K .normal f H
  | .region _ ops draw, p, K, f, H =>
    bif draw then
      (match ann p with
      | .reg bef s => chk (regB ops.toList bef s) <| chk (noDefB ops.toList) <| vcRY P n ops.toList bef (fun f' H' => K .normal f' H') s 0 [] f H
      | _ => False)
    else vcPY P n (ann p) ops.toList f H fun f' H' => K .normal f' H'
  | .seq a b, p, K, f, H =>
    match ann p with
    | .cut live => ∃ M : List Value → Heap → Prop, vcY P n ann a (0 :: p) (fun e f' H' => match e with | .normal => okSs (shsOf live) (valsOf n f' live) (M (valsOf n f' live) H') | e => K e f' H') f H ∧
        ∀ J : F, allSs (shsOf live) fun vs => ∀ H', M vs H' → vcY P n ann b (1 :: p) K (patch live vs (writes a) J f) H'
    | _ => vcY P n ann a (0 :: p) (fun e f' H' => match e with | .normal => vcY P n ann b (1 :: p) K f' H' | e => K e f' H') f H
  | .cond c a b, p, K, f, H =>
    (match ev n f c with | .bool c => brB c (vcY P n ann a (0 :: p) K f H) (vcY P n ann b (1 :: p) K f H) | _ => False)
  | .block id c, p, K, f, H => vcY P n ann c (0 :: p) (fun e f' H' => match e with | .exit i => (bif Nat.beq i id then K .normal f' H' else K (.exit i) f' H') | e => K e f' H') f H
  | .loop c, p, K, f, H =>
    match ann p with
    | .cut live => ∃ (I : List Value → Heap → Prop) (μ : List Value → Heap → Nat), okSs (shsOf live) (valsOf n f live) (I (valsOf n f live) H) ∧
        ∀ J : F, allSs (shsOf live) fun vs => ∀ H', I vs H' → vcY P n ann c (0 :: p) (fun e f'' H'' => match e with | .normal => okSs (shsOf live) (valsOf n f'' live) (I (valsOf n f'' live) H'' ∧ μ (valsOf n f'' live) H'' < μ vs H') | e => K e f'' H'') (patch live vs (writes c) J f) H'
    | _ => False
  | .exit id, _, K, f, H => K (.exit id) f H
  | .ret, _, K, f, H => K .ret f H
  | _, _, _, _, _ => False

theorem vcLY_mono {P : Program} {n : Nat} {ops : List Oper} {K K' : F → Heap → Prop} (hk : ∀ f H, K f H → K' f H) : ∀ (l : List Oper) (f : F) (H : Heap), vcLY P n ops l f H K → vcLY P n ops l f H K'
  | [], f, H, h => hk _ _ h
  | o :: rest, f, H, h => by
    unfold vcLY at h ⊢
    split at h
    · exact vcOpY_mono (fun v H' k => vcLY_mono hk rest _ _ k) h
    · rename_i j want hgd
      split at h
      · exact vcLY_mono hk rest _ _ h
      · split at h
        · rename_i c hc
          cases c <;> cases want <;> simp only [brB, cond_true, cond_false] at h ⊢
          · exact vcOpY_mono (fun v H' k => vcLY_mono hk rest _ _ k) h
          · exact vcLY_mono hk rest _ _ h
          · exact vcLY_mono hk rest _ _ h
          · exact vcOpY_mono (fun v H' k => vcLY_mono hk rest _ _ k) h
        · exact vcLY_mono hk rest _ _ h

theorem vcLY_off {P : Program} {n : Nat} {ops : List Oper} {K : F → Heap → Prop} : ∀ (l : List Oper) (f : F) (H : Heap), vcLY P n ops l f H K → vcLY P n ops l f H (fun f' H' => K f' H' ∧ Off (wrOps l) f f')
  | [], f, H, h => ⟨h, Off.refl _ _⟩
  | o :: rest, f, H, h => by
    have key : ∀ (v : Value) (H' : Heap), vcLY P n ops rest (updO f o.dst v) H' K → vcLY P n ops rest (updO f o.dst v) H' fun f' H' => K f' H' ∧ Off (wrOps (o :: rest)) f f' := by
      intro v H' hk
      exact vcLY_mono (fun f' H' k => ⟨k.1, off_upd k.2⟩) rest _ _ (vcLY_off rest _ _ hk)
    unfold vcLY at h ⊢
    split at h
    · exact vcOpY_mono (fun v H' hk => key v H' hk) h
    · rename_i j want hgd
      split at h
      · exact key _ _ h
      · rename_i dd hs
        split at h
        · rename_i c hc
          have e := upd_same hc
          cases c <;> cases want <;> simp only [brB, cond_true, cond_false, e] at h ⊢
          · exact vcOpY_mono (fun v H' hk => key v H' hk) h
          · exact key _ _ h
          · exact key _ _ h
          · exact vcOpY_mono (fun v H' hk => key v H' hk) h
        · exact key _ _ h

theorem vcLEY_imp {P : Program} {n : Nat} {ops : List Oper} {K : F → Heap → Prop} : ∀ (l : List Oper) (f : F) (H : Heap), vcLEY P n l f H K → vcLY P n ops l f H K
  | [], _, _, h => h
  | o :: rest, f, H, h => by
    unfold vcLEY at h
    unfold vcLY
    split at h
    · rename_i hg
      rw [hg]
      exact vcOpY_mono (fun v H' k => vcLEY_imp rest _ _ (openE_imp k)) h
    · exact h.elim

theorem vcLEY_mono {P : Program} {n : Nat} {K K' : F → Heap → Prop} (hk : ∀ f H, K f H → K' f H) : ∀ (l : List Oper) (f : F) (H : Heap), vcLEY P n l f H K → vcLEY P n l f H K'
  | [], f, H, h => hk _ _ h
  | o :: rest, f, H, h => by
    unfold vcLEY at h ⊢
    split at h
    · exact vcOpY_mono (fun v H' k => openE_mono (fun v k => vcLEY_mono hk rest _ _ k) k) h
    · exact h.elim

theorem vcLEY_off {P : Program} {n : Nat} {K : F → Heap → Prop} : ∀ (l : List Oper) (f : F) (H : Heap), vcLEY P n l f H K → vcLEY P n l f H (fun f' H' => K f' H' ∧ Off (wrOps l) f f')
  | [], f, H, h => ⟨h, Off.refl _ _⟩
  | o :: rest, f, H, h => by
    have key : ∀ (v : Value) (H' : Heap), vcLEY P n rest (updO f o.dst v) H' K → vcLEY P n rest (updO f o.dst v) H' fun f' H' => K f' H' ∧ Off (wrOps (o :: rest)) f f' := by
      intro v H' hk
      exact vcLEY_mono (fun f' H' k => ⟨k.1, off_upd k.2⟩) rest _ _ (vcLEY_off rest _ _ hk)
    unfold vcLEY at h ⊢
    split at h
    · exact vcOpY_mono (fun v H' hk => openE_mono (fun v hk => key v H' hk) hk) h
    · exact h.elim

theorem vcPY_imp {P : Program} {n : Nat} {a : Ann} {ops : List Oper} {f : F} {H : Heap} {K : F → Heap → Prop} (h : vcPY P n a ops f H K) : vcLY P n ops ops f H K := by
  unfold vcPY at h
  split at h
  · exact vcLEY_imp _ _ _ h
  · exact h

theorem vcPY_mono {P : Program} {n : Nat} {a : Ann} {ops : List Oper} {f : F} {H : Heap} {K K' : F → Heap → Prop} (hk : ∀ f H, K f H → K' f H) (h : vcPY P n a ops f H K) : vcPY P n a ops f H K' := by
  unfold vcPY at h ⊢
  split at h
  · exact vcLEY_mono hk _ _ _ h
  · exact vcLY_mono hk _ _ _ h

theorem vcPY_off {P : Program} {n : Nat} {a : Ann} {ops : List Oper} {f : F} {H : Heap} {K : F → Heap → Prop} (h : vcPY P n a ops f H K) : vcPY P n a ops f H (fun f' H' => K f' H' ∧ Off (wrOps ops) f f') := by
  unfold vcPY at h ⊢
  split at h
  · exact vcLEY_off _ _ _ h
  · exact vcLY_off _ _ _ h

theorem vcY_mono {P : Program} {n : Nat} {ann : List Nat → Ann} : ∀ (c : Code) (p : List Nat) {K K' : Ex → F → Heap → Prop} (_hk : ∀ e f H, K e f H → K' e f H) (f : F) (H : Heap), vcY P n ann c p K f H → vcY P n ann c p K' f H
  | .skip, _, _, _, hk, _, _, h => hk _ _ _ h
  | .region _ ops draw, p, K, K', hk, f, H, h => by
    unfold vcY at h ⊢
    cases draw with
    | false => exact vcPY_mono (fun f H => hk _ f H) h
    | true =>
      simp only [cond_true] at h ⊢
      split at h
      · exact chk_mono (fun h => chk_mono (fun h => vcRY_mono (fun f H => hk _ f H) _ _ _ _ _ h) h) h
      · exact h.elim
  | .seq a b, p, K, K', hk, f, H, h => by
    unfold vcY at h ⊢
    split at h
    · obtain ⟨M, h1, h2⟩ := h
      refine ⟨M, vcY_mono a _ (fun e f H k => ?_) f H h1, fun J => allSs_mono (fun vs h H' hm => vcY_mono b _ hk _ _ (h H' hm)) (h2 J)⟩
      cases e <;> first | exact k | exact hk _ _ _ k
    · refine vcY_mono a _ (fun e f H k => ?_) f H h
      cases e <;> first | exact vcY_mono b _ hk _ _ k | exact hk _ _ _ k
  | .cond c a b, p, K, K', hk, f, H, h => by
    unfold vcY at h ⊢
    split at h
    · exact brB_mono (vcY_mono a _ hk _ _) (vcY_mono b _ hk _ _) h
    · exact h.elim
  | .block id c, p, K, K', hk, f, H, h => by
    unfold vcY at h ⊢
    refine vcY_mono c _ (fun e f H k => ?_) f H h
    cases e with
    | exit i =>
      simp only at k ⊢
      cases hb : Nat.beq i id <;> rw [hb] at k <;> exact hk _ _ _ k
    | _ => exact hk _ _ _ k
  | .loop c, p, K, K', hk, f, H, h => by
    unfold vcY at h ⊢
    split at h
    · obtain ⟨I, μ, h1, h2⟩ := h
      refine ⟨I, μ, h1, fun J => allSs_mono (fun vs h H' hm => vcY_mono c _ (fun e f H k => ?_) _ _ (h H' hm)) (h2 J)⟩
      cases e <;> first | exact k | exact hk _ _ _ k
    · exact h.elim
  | .exit _, _, _, _, hk, _, _, h => hk _ _ _ h
  | .ret, _, _, _, hk, _, _, h => hk _ _ _ h
  | .rangeFunc .., _, _, _, _, _, _, h => h.elim
  | .scope _, _, _, _, _, _, _, h => h.elim
  | .label _, _, _, _, _, _, _, h => h.elim
  | .goto _, _, _, _, _, _, _, h => h.elim
  | .refuse _, _, _, _, _, _, _, h => h.elim

theorem vcY_off {P : Program} {n : Nat} {ann : List Nat → Ann} : ∀ (c : Code) (p : List Nat) {K : Ex → F → Heap → Prop} (f : F) (H : Heap), vcY P n ann c p K f H → vcY P n ann c p (fun e f' H' => K e f' H' ∧ Off (writes c) f f') f H
  | .skip, _, _, _, _, h => ⟨h, Off.refl _ _⟩
  | .region _ ops draw, p, K, f, H, h => by
    unfold vcY at h ⊢
    cases draw with
    | false => exact vcPY_off h
    | true =>
      simp only [cond_true] at h ⊢
      split at h
      · exact chk_mono (fun h => chk_mono (fun h => vcRY_off _ _ _ _ _ (Off.refl _ _) h) h) h
      · exact h.elim
  | .seq a b, p, K, f, H, h => by
    unfold vcY at h ⊢
    split at h
    · obtain ⟨M, h1, h2⟩ := h
      refine ⟨M, vcY_mono a _ (fun e f' H' k => ?_) f H (vcY_off a _ f H h1), fun J => allSs_mono (fun vs h H' hm => ?_) (h2 J)⟩
      · cases e <;> first | exact k.1 | exact ⟨k.1, k.2.left _⟩
      · exact vcY_mono b _ (fun e f' H' k => ⟨k.1, (off_patch _ _ _ _ _).trans k.2⟩) _ _ (vcY_off b _ _ _ (h H' hm))
    · refine vcY_mono a _ (fun e f' H' k => ?_) f H (vcY_off a _ f H h)
      cases e <;> first | exact vcY_mono b _ (fun e f'' H'' k' => ⟨k'.1, k.2.trans k'.2⟩) _ _ (vcY_off b _ _ _ k.1) | exact ⟨k.1, k.2.left _⟩
  | .cond c a b, p, K, f, H, h => by
    unfold vcY at h ⊢
    split at h
    · exact brB_mono (fun h => vcY_mono a _ (fun e f' H' k => ⟨k.1, k.2.left _⟩) _ _ (vcY_off a _ _ _ h)) (fun h => vcY_mono b _ (fun e f' H' k => ⟨k.1, k.2.right _⟩) _ _ (vcY_off b _ _ _ h)) h
    · exact h.elim
  | .block id c, p, K, f, H, h => by
    unfold vcY at h ⊢
    refine vcY_mono c _ (fun e f' H' k => ?_) f H (vcY_off c _ f H h)
    cases e with
    | exit i =>
      obtain ⟨k1, k2⟩ := k
      simp only at k1 ⊢
      cases hb : Nat.beq i id <;> rw [hb] at k1 <;> exact ⟨k1, k2⟩
    | _ => exact k
  | .loop c, p, K, f, H, h => by
    unfold vcY at h ⊢
    split at h
    · obtain ⟨I, μ, h1, h2⟩ := h
      refine ⟨I, μ, h1, fun J => allSs_mono (fun vs h H' hm => vcY_mono c _ (fun e f' H' k => ?_) _ _ (vcY_off c _ _ _ (h H' hm))) (h2 J)⟩
      have k2 : Off (writes c) f f' := fun i hi => by rw [k.2 i hi]; exact off_patch _ _ _ _ _ i hi
      cases e <;> first | exact k.1 | exact ⟨k.1, k2⟩
    · exact h.elim
  | .exit _, _, _, _, _, h => ⟨h, Off.refl _ _⟩
  | .ret, _, _, _, _, h => ⟨h, Off.refl _ _⟩
  | .rangeFunc .., _, _, _, _, h => h.elim
  | .scope _, _, _, _, _, h => h.elim
  | .label _, _, _, _, _, h => h.elim
  | .goto _, _, _, _, _, h => h.elim
  | .refuse _, _, _, _, _, h => h.elim

theorem op_in {ro : Option Nat} {P : Program} {o : Oper} {a : Act} {w : World} {next : Act → World → Prop} {Q : Exit → Act → World → Prop} (hd : ∀ c, o.op ≠ .defer c) (h : o.wp P a w next Q) :
    o.wpIn (WideF ro) 0 P a w next Q := by
  refine ⟨fun _ _ => trivial, ?_⟩
  have e : o.semAt (WideF ro).round a.eval = execOp a.eval o := by
    cases ro with
    | none => exact Oper.semAt_none _ _
    | some l => exact Oper.semAt_some l _ _ hd
  rw [e]
  unfold Oper.wp at h
  generalize (execOp a.eval o).run P w = r at h
  have nd : (WideF ro).depth.isSome = true → 1 ≤ 0 := fun h => by simp [WideF, Fence.wide] at h
  cases r with
  | ok x w' =>
    cases x <;> simp only [Oper.upon, Oper.uponIn] at h ⊢ <;> first | exact h | exact h.elim | skip
    case enter f args => exact ⟨nd, callsIn_wide.2 h⟩
    case row row args =>
      refine ⟨nd, fun c cs _ => ?_⟩
      obtain ⟨v, w'', r, s⟩ := h c cs
      exact ⟨v, w'', r, stepsIn_wide.2 s⟩
  | halt x w' => cases x <;> simp only [Oper.upon, Oper.uponIn] at h ⊢ <;> exact h

theorem vcOp_noDef {P : Program} {n : Nat} {f : F} {o : Oper} {H : Heap} {K : Value → Heap → Prop} (h : vcOp P n f o H K) (c : Call) : o.op ≠ .defer c := by
  intro e
  unfold vcOp at h
  rw [e] at h
  exact h

theorem opY_sound {ro : Option Nat} {P : Program} {n : Nat} {f : F} {o : Oper} {H : Heap} {K : Value → Heap → Prop} {next : Act → World → Prop} {Q : Exit → Act → World → Prop}
    (h : vcOpY P n f o H K) (E : Env) (hg : Goes Df n f o K E next) (d : Dr E) : o.wpIn (WideF ro) 0 P (mkA Df n f) (mkW E H d) next Q := by
  unfold vcOpY at h
  split at h
  · rename_i g args argTypes ho
    rcases h with h | ⟨l, hv, h⟩
    · have h' : vcOp P n f o H K := by
        unfold vcOp
        rw [ho]
        exact h
      exact op_in (vcOp_noDef h') (op_sound h' E hg d)
    · refine ⟨fun _ _ => trivial, ?_⟩
      have e : o.semAt (WideF ro).round (mkA Df n f).eval = execOp (mkA Df n f).eval o := by
        cases ro with
        | none => exact Oper.semAt_none _ _
        | some l => exact Oper.semAt_some l _ _ (by rw [ho]; intro c h; cases h)
      rw [e, eval_fun]
      obtain ⟨fn, tmps, assign, body, h1, h2⟩ := h E d
      have e2 : (execOp (ev n f) o).run P (mkW E H d) = .ok (.round l fn tmps assign body) (mkW E H d) := by
        simp [execOp, ho, resolve, Deferred.ofValue, hv, invoke, map_evs, h1]
      rw [e2, Oper.uponIn_round]
      refine ⟨fun h => by simp [WideF, Fence.wide] at h, ?_⟩
      refine RoundIn.mono (F := Fence.wide) h2 fun e w' => ?_
      rintro ⟨v, H', d', rfl, rfl, hk⟩
      obtain ⟨u, rfl, hk⟩ := exT_imp hk
      show next ((mkA Df n f).put o.dst v) _
      rw [put_mkA]
      exact hg v H' d' hk
  · exact op_in (vcOp_noDef h) (op_sound h E hg d)

theorem semAt_wide {ro : Option Nat} {o : Oper} (hd : ∀ c, o.op ≠ .defer c) (ρ : Operand → Value) : o.semAt (WideF ro).round ρ = execOp ρ o := by
  cases ro with
  | none => exact Oper.semAt_none _ _
  | some l => exact Oper.semAt_some l _ _ hd
section
variable {ro : Option Nat} {P : Program} {ops : Array Oper} {Q : Exit → Act → World → Prop} {S : World → Prop}
theorem _root_.Go.YieldsIf.wpOpI (hnd : ∀ (i : Nat) (o : Oper), ops[i]? = some o → ∀ c, o.op ≠ .defer c) {i : Nat} {o : Oper} {v : Value} {a : Act} (hi : ops[i]? = some o) (hy : YieldsIf P ops S o v a)
    {K : Act → World → Prop} {w : World} (hS : S w) (h : K (a.put o.dst v) w) : wpOpIn (WideF ro) 0 P ops Q i K a w := by
  unfold Go.wpOpIn
  simp only [hi]
  rcases hy with ⟨hw, hv⟩ | ⟨hw, rfl⟩
  · simp only [hw, if_true, Oper.wpIn]
    refine ⟨fun _ _ => trivial, ?_⟩
    rw [semAt_wide (hnd i o hi), hv w hS]
    exact h
  · simp only [hw, Bool.false_eq_true, if_false]
    exact ⟨fun _ _ => trivial, h⟩
theorem wpOpI_putIf {j : Nat} {oi oj : Oper} {v : Value} (hnj : ∀ c, oj.op ≠ .defer c) (hj : ops[j]? = some oj) (hap : oi.apart ops oj = true)
    (hsi : ∀ cs b, oi.op ≠ .select cs b) (hsj : ∀ cs b, oj.op ≠ .select cs b)
    (hQ : ∀ c a w, Q (.panic c) (a.put oi.dst v) w → Q (.panic c) a w) {K : Act → World → Prop} {a : Act} {w : World}
    (hy : YieldsIf P ops S oi v a) (h : wpOpIn (WideF ro) 0 P ops Q j K (a.put oi.dst v) w) :
    wpOpIn (WideF ro) 0 P ops Q j (fun a' w' => YieldsIf P ops S oi v a' ∧ K (a'.put oi.dst v) w') a w := by
  obtain ⟨h1, h2, h3⟩ := Oper.apart_spec hap
  have keep : ∀ (a : Act), YieldsIf P ops S oi v a → ∀ u, YieldsIf P ops S oi v (a.put oj.dst u) := fun a hy u =>
    hy.of_same (execOp_put oi hsi a oj.dst u h3) (wanted_put oi a oj.dst u h3)
  have keepD : ∀ d, YieldsIf P ops S oi v { a with defers := d :: a.defers } := fun d => hy.of_same rfl rfl
  unfold wpOpIn at *
  simp only [hj] at *
  rw [wanted_put oj a oi.dst v h1] at h
  split
  · rename_i hw
    simp only [hw, if_true] at h
    unfold Oper.wpIn at *
    refine ⟨fun _ _ => trivial, ?_⟩
    have h := h.2
    rw [semAt_wide hnj, execOp_put oj hsj a oi.dst v h1] at h
    rw [semAt_wide hnj]
    generalize (execOp a.eval oj).run P w = r at *
    cases r with
    | ok x w' =>
      cases x <;> simp only [Oper.uponIn] at h ⊢
      case value u => exact ⟨keep a hy u, by rw [← Act.put_comm a v u h2]; exact h⟩
      case skip => exact ⟨keep a hy _, by rw [← Act.put_comm a v undef h2]; exact h⟩
      case defer d =>
        refine ⟨keep _ (keepD d) _, ?_⟩
        rw [← Act.put_comm _ v undef h2, ← Act.put_defers]
        exact h
      case enter f args =>
        refine ⟨h.1, CallsIn.mono h.2 fun e w'' he => ?_⟩
        cases e with
        | returned u => exact ⟨keep a hy u, by rw [← Act.put_comm a v u h2]; exact he⟩
        | panicked c => exact hQ _ _ _ he
        | outgrown => exact he
      case row row args => exact ⟨h.1, RowsIn.mono h.2 fun u w'' he => ⟨keep a hy u, by rw [← Act.put_comm a v u h2]; exact he⟩⟩
      case round l f tmps assign body =>
        refine ⟨h.1, RoundIn.mono h.2 fun e w'' he => ?_⟩
        cases e with
        | returned u => exact ⟨keep a hy u, by rw [← Act.put_comm a v u h2]; exact he⟩
        | panicked c => exact hQ _ _ _ he
        | outgrown => exact he
    | halt x w' =>
      cases x <;> simp only [Oper.uponIn] at h ⊢
      case panic u => exact hQ _ _ _ h
  · rename_i hw
    simp only [hw] at h
    exact ⟨fun _ _ => trivial, keep a hy _, by rw [← Act.put_comm a v undef h2]; exact h.2⟩
end

section
variable {ro : Option Nat} {P : Program} {ops : Array Oper} {Q : Exit → Act → World → Prop} {md : Region.Mode}
def wpGI (ro : Option Nat) (P : Program) (md : Region.Mode) (ops : Array Oper) (Q : Exit → Act → World → Prop) (bef : Nat → Nat) : Nat → Array Bool → PendW → Act → World → Prop
  | 0, listed, _, a, w => Region.ready md ops listed = [] ∧ Q .normal a w
  | fuel + 1, listed, D, a, w =>
    (Region.ready md ops listed = [] → Q .normal a w) ∧
    ∀ i ∈ Region.ready md ops listed, wpOpIn (WideF ro) 0 P ops Q i (fun a' w' => allW (keepW bef i D) w' ∧ wpGI ro P md ops Q bef fuel (listed.setIfInBounds i true) (keepW bef i D) a' w') a w

variable {bef : Nat → Nat}
theorem wpAny_of_GI : ∀ (fuel : Nat) (listed : Array Bool) (D : PendW) (a : Act) (w : World), wpGI ro P md ops Q bef fuel listed D a w → wpAnyIn (WideF ro) 0 P md ops Q fuel listed a w
  | 0, _, _, _, _, h => h
  | fuel + 1, _, _, _, _, h => ⟨h.1, fun i hi => wpOpIn_mono (fun a' w' h' => wpAny_of_GI fuel _ _ a' w' h'.2) (h.2 i hi)⟩

theorem wpGI_less : ∀ (fuel : Nat) (listed : Array Bool) (D D' : PendW) (a : Act) (w : World), (∀ x ∈ D', x ∈ D) → wpGI ro P md ops Q bef fuel listed D a w → wpGI ro P md ops Q bef fuel listed D' a w
  | 0, _, _, _, _, _, _, h => h
  | fuel + 1, _, _, _, _, _, hs, h => ⟨h.1, fun i hi => wpOpIn_mono (fun a' w' h' => ⟨fun x hx => h'.1 x (keepW_sub hs x hx), wpGI_less fuel _ _ _ a' w' (keepW_sub hs) h'.2⟩) (h.2 i hi)⟩
theorem wpGI_true {k : Nat} : ∀ (fuel : Nat) (listed : Array Bool) (D : PendW) (a : Act) (w : World), wpGI ro P md ops Q bef fuel listed D a w → wpGI ro P md ops Q bef fuel listed ((k, fun _ => True) :: D) a w
  | 0, _, _, _, _, h => h
  | fuel + 1, _, D, _, _, h => ⟨h.1, fun i hi => wpOpIn_mono (fun a' w' h' => by
      have e : keepW bef i ((k, fun _ => True) :: D) = if bitB (bef i) k = true then keepW bef i D else (k, fun _ => True) :: keepW bef i D := by
        unfold keepW
        rw [List.filter_cons]
        cases bitB (bef i) k <;> simp
      rw [e]
      split
      · exact h'
      · refine ⟨fun x hx => ?_, wpGI_true fuel _ _ a' w' h'.2⟩
        rcases List.mem_cons.1 hx with rfl | hx
        · trivial
        · exact h'.1 x hx) (h.2 i hi)⟩

theorem wpGI_first (hnd : ∀ (i : Nat) (o : Oper), ops[i]? = some o → ∀ c, o.op ≠ .defer c) {i : Nat} {oi : Oper} {v : Value} {S : World → Prop} (hi : ops[i]? = some oi) (hsel : ∀ (j : Nat) (o : Oper) cs b, ops[j]? = some o → o.op ≠ .select cs b)
    (hQ : ∀ c a w, Q (.panic c) (a.put oi.dst v) w → Q (.panic c) a w) (hb : BefOk md ops bef) :
    ∀ (fuel : Nat) (listed : Array Bool) (D : PendW) (a : Act) (w : World),
      (∀ j oj, ops[j]? = some oj → j ≠ i → listed.getD j true = false → (∀ e ∈ oj.after, Region.binds md e = true → e.on ≠ i) → oi.apart ops oj = true) →
      Closed bef listed → i ∈ Region.ready md ops listed → YieldsIf P ops S oi v a → S w → allW D w →
      wpGI ro P md ops Q bef fuel (listed.setIfInBounds i true) ((i, S) :: D) (a.put oi.dst v) w → wpGI ro P md ops Q bef (fuel + 1) listed D a w := by
  intro fuel
  induction fuel with
  | zero =>
    intro listed D a w _ _ hr hy hS hD H
    refine ⟨fun h => (by rw [h] at hr; cases hr), fun j hj => ?_⟩
    by_cases hji : j = i
    · subst hji; exact hy.wpOpI hnd hi hS ⟨fun x hx => hD x (List.mem_filter.1 hx).1, H⟩
    · have := ready_mono hj hji
      rw [H.1] at this
      cases this
  | succ fuel ih =>
    intro listed D a w hfree hcl hr hy hS hD H
    refine ⟨fun h => (by rw [h] at hr; cases hr), fun j hj => ?_⟩
    by_cases hji : j = i
    · subst hji
      exact hy.wpOpI hnd hi hS ⟨fun x hx => hD x (List.mem_filter.1 hx).1, wpGI_less _ _ _ _ _ _ (fun x hx => List.mem_cons_of_mem _ (List.mem_filter.1 hx).1) H⟩
    · have h1 := H.2 j (ready_mono hj hji)
      obtain ⟨hjun, oj, hoj, hall⟩ := mem_ready.1 hj
      have hiun := (mem_ready.1 hr).1
      have hnl : listed.getD i false = false := by
        rcases Nat.lt_or_ge i listed.size with h' | h'
        · simp [h'] at hiun ⊢; exact hiun
        · simp [Array.getElem?_eq_none h'] at hiun
      have hnot : ∀ e ∈ oj.after, Region.binds md e = true → e.on ≠ i := fun e he hb heq => by
        have h1 := hall e he hb
        rw [heq, hnl] at h1
        cases h1
      have hbi : bitB (bef j) i = false := by
        cases hbb : bitB (bef j) i with
        | false => rfl
        | true => have := hcl.ready hb hj hbb; rw [hnl] at this; cases this
      have ek : keepW bef j ((i, S) :: D) = (i, S) :: keepW bef j D := by
        unfold keepW
        rw [List.filter_cons, hbi]
        rfl
      rw [ek] at h1
      have h2 := wpOpI_putIf (hnd j oj hoj) hoj (hfree j oj hoj hji hjun hnot) (fun cs b => hsel i oi cs b hi) (fun cs b => hsel j oj cs b hoj) hQ hy h1
      have hfree' : ∀ k ok, ops[k]? = some ok → k ≠ i → (listed.setIfInBounds j true).getD k true = false →
          (∀ e ∈ ok.after, Region.binds md e = true → e.on ≠ i) → oi.apart ops ok = true := fun k ok hk hki hun hno => by
        refine hfree k ok hk hki ?_ hno
        by_cases hjk : j = k
        · subst hjk; exact hjun
        · rw [getD_set_ne true hjk] at hun; exact hun
      refine wpOpIn_mono (fun a' w' h3 => ⟨fun x hx => h3.2.1 x (List.mem_cons_of_mem _ hx), ih (listed.setIfInBounds j true) _ a' w' hfree' (hcl.set hb hj) (ready_mono hr (Ne.symm hji)) h3.1 (h3.2.1 (i, S) (List.mem_cons_self ..)) (fun x hx => h3.2.1 x (List.mem_cons_of_mem _ hx)) ?_⟩) h2
      rw [Array.setIfInBounds_comm _ _ hji]
      exact h3.2.2
end

theorem vcRY_sound {ro : Option Nat} {P : Program} {n : Nat} {ops : List Oper} {bef : List Nat} {K : F → Heap → Prop} {E : Env} {Q : Act → World → Prop} (hQ : ∀ f H d, K f H → Q (mkA Df n f) (mkW E H d)) (hb : befOk ops bef = true) (hsel : Region.noSelect ops.toArray = true) (hnd : ∀ (i : Nat) (o : Oper), ops.toArray[i]? = some o → ∀ c, o.op ≠ .defer c) :
    ∀ (s : Sched), (∀ (m : Nat) (D : Pend) (listed : Array Bool) (fuel : Nat) (f : F) (H : Heap) (d : Dr E), vcRY P n ops bef K s m D f H → s.isMain = true → Told ops m listed → Closed (befF bef) listed → s.depth ≤ fuel → (∀ x ∈ D, x.2 H) →
        wpGI ro P .any ops.toArray (fun e a w => e = .normal ∧ Q a w) (befF bef) fuel listed (pwP D) (mkA Df n f) (mkW E H d)) ∧
      (∀ (m : Nat) (D : Pend) (listed : Array Bool) (fuel : Nat) (f : F) (H : Heap) (d : Dr E), vcRY P n ops bef K s m D f H → Told ops m listed → Closed (befF bef) listed → s.depth ≤ fuel + 1 → (∀ x ∈ D, x.2 H) →
        ∀ i ∈ s.alts, i ∈ Region.ready .any ops.toArray listed → wpOpIn (WideF ro) 0 P ops.toArray (fun e a w => e = .normal ∧ Q a w) i
          (fun a' w' => allW (keepW (befF bef) i (pwP D)) w' ∧ wpGI ro P .any ops.toArray (fun e a w => e = .normal ∧ Q a w) (befF bef) fuel (listed.setIfInBounds i true) (keepW (befF bef) i (pwP D)) a' w') (mkA Df n f) (mkW E H d)) := by
  have hB := befOk_of hb
  intro s
  induction s with
  | done =>
    refine ⟨fun m D listed fuel f H d h _ ht hc _ hD => ?_, fun m D listed fuel f H d h ht hc _ hD i hi => by simp [Sched.alts] at hi⟩
    unfold vcRY at h
    obtain ⟨hr, h⟩ := chk_out h
    have hnil : Region.ready .any ops.toArray listed = [] := by
      cases hl : Region.ready .any ops.toArray listed with
      | nil => rfl
      | cons x l => have := ready_in ht hr x (by rw [hl]; simp); simp at this
    cases fuel with
    | zero => exact ⟨hnil, rfl, hQ _ _ _ h⟩
    | succ fuel => exact ⟨fun _ => ⟨rfl, hQ _ _ _ h⟩, by rw [hnil]; simp⟩
  | quiet i s ih =>
    refine ⟨fun m D listed fuel f H d h _ ht hc hfu hD => ?_, fun m D listed fuel f H d h ht hc _ hD i hi => by simp [Sched.alts] at hi⟩
    unfold vcRY at h
    split at h
    · exact h.elim
    · rename_i o hi
      obtain ⟨hq, h⟩ := chk_out h
      simp only [quietC, Bool.and_eq_true] at hq
      obtain ⟨⟨hq, hst⟩, hmain⟩ := hq
      have hil : i < ops.length := (List.getElem?_eq_some_iff.1 hi).1
      have hr := quiet_ready ht hi hq
      cases fuel with
      | zero => simp [Sched.depth] at hfu
      | succ fuel =>
        have hfu' : s.depth ≤ fuel := by simp [Sched.depth] at hfu; exact hfu
        have hi' : ops.toArray[i]? = some o := by simpa using hi
        have hcl' := hc.set hB hr
        rcases guarded_out h with ⟨hw, h⟩ | ⟨hw, h⟩
        · obtain ⟨v, hk, hf, hrun⟩ := still_fact h
          have hy : YieldsIf P ops.toArray (fun w => factHolds (factOf P n f o v) w.heap) o v (mkA Df n f) := .inl ⟨hw, fun w hw => by rw [eval_fun]; exact hrun w hw⟩
          refine wpGI_first hnd hi' (Region.noSelect_spec hsel) (fun c a w hp => by cases hp.1) hB fuel listed (pwP D) (mkA Df n f) (mkW E H d) (quiet_free ht hq) hc hr hy hf (allW_pw.2 hD) ?_
          rw [put_mkA]
          cases hF : factOf P n f o v with
          | none =>
            rw [hF] at hk
            exact wpGI_true _ _ _ _ _ (ih.1 _ _ _ _ _ _ d hk hmain (ht.set hil) hcl' hfu' hD)
          | some F =>
            rw [hF] at hk hf
            refine ih.1 _ _ _ _ _ _ d hk hmain (ht.set hil) hcl' hfu' fun x hx => ?_
            rcases List.mem_cons.1 hx with rfl | hx
            · exact hf
            · exact hD x hx
        · have hy : YieldsIf P ops.toArray (fun _ => True) o undef (mkA Df n f) := .inr ⟨hw, rfl⟩
          refine wpGI_first hnd hi' (Region.noSelect_spec hsel) (fun c a w hp => by cases hp.1) hB fuel listed (pwP D) (mkA Df n f) (mkW E H d) (quiet_free ht hq) hc hr hy trivial (allW_pw.2 hD) ?_
          rw [put_mkA]
          exact wpGI_true _ _ _ _ _ (ih.1 _ _ _ _ _ _ d h hmain (ht.set hil) hcl' hfu' hD)
  | pick s ih =>
    refine ⟨fun m D listed fuel f H d h _ ht hc hfu hD => ?_, fun m D listed fuel f H d h ht hc _ hD i hi => by simp [Sched.alts] at hi⟩
    unfold vcRY at h
    obtain ⟨hr, h⟩ := chk_out h
    simp only [pickC, Bool.and_eq_true] at hr
    obtain ⟨hr, ha⟩ := hr
    have hne : Region.ready .any ops.toArray listed ≠ [] := by
      cases hal : s.alts with
      | nil => rw [hal] at ha; cases ha
      | cons i l =>
        rw [hal] at ha
        simp only [altsOk] at ha
        split at ha
        · rename_i o ho
          simp only [Bool.and_eq_true, Bool.not_eq_true'] at ha
          intro hnil
          have hil : i < ops.length := (List.getElem?_eq_some_iff.1 ho).1
          have : i ∈ Region.ready .any ops.toArray listed := by
            refine mem_ready.2 ⟨by rw [ht.getD hil]; exact ha.1, o, by simpa using ho, fun e he hbi => ?_⟩
            have h1 := ha.2
            unfold waitsOk at h1
            rw [List.all_eq_true] at h1
            have := h1 e (by simpa using he)
            rw [hbi] at this
            have hbt : bitB m e.on = true := by simpa using this
            rw [ht.getD (ht.lt _ hbt)]
            exact hbt
          rw [hnil] at this
          cases this
        · cases ha
    have hdep : s.depth ≤ fuel := hfu
    cases fuel with
    | zero =>
      exfalso
      cases s with
      | alt i s r =>
        simp only [Sched.depth] at hdep
        cases hbb : Nat.ble (s.depth + 1) r.depth with
        | true => rw [hbb] at hdep; have := Nat.le_of_ble_eq_true hbb; simp only [cond_true] at hdep; omega
        | false => rw [hbb] at hdep; simp only [cond_false] at hdep; omega
      | _ => simp [Sched.alts, altsOk] at ha
    | succ fuel =>
      refine ⟨fun h0 => absurd h0 hne, fun i hi => ?_⟩
      exact ih.2 m D listed fuel f H d h ht hc hdep hD i (ready_in ht hr i hi) hi
  | alt i s r ih ihr =>
    refine ⟨fun m D listed fuel f H d h hm => by simp [Sched.isMain] at hm, fun m D listed fuel f H d h ht hc hfu hD k hk hkr => ?_⟩
    unfold vcRY at h
    split at h
    · exact h.elim
    · rename_i o hi
      obtain ⟨hmain, h⟩ := chk_out h
      have hdep : s.depth ≤ fuel ∧ r.depth ≤ fuel + 1 := by
        simp only [Sched.depth] at hfu
        cases hbb : Nat.ble (s.depth + 1) r.depth with
        | true => rw [hbb] at hfu; have := Nat.le_of_ble_eq_true hbb; simp only [cond_true] at hfu; omega
        | false =>
          rw [hbb] at hfu
          simp only [cond_false] at hfu
          have : ¬ s.depth + 1 ≤ r.depth := fun hle => by rw [Nat.ble_eq_true_of_le hle] at hbb; cases hbb
          omega
      have here : guarded ops n o f
          (fun f => vcOpY P n f o H fun v H' => allP (keepP bef i D) H' (vcRY P n ops bef K s (mrk m i) (keepP bef i D) (updO f o.dst v) H'))
          (fun f => vcRY P n ops bef K s (mrk m i) (keepP bef i D) (updO f o.dst undef) H) ∧ (k ≠ i → vcRY P n ops bef K r m D f H ∧ r.isStop = false) := by
        cases hrs : r.isStop with
        | true =>
          rw [hrs] at h
          refine ⟨h, fun hne => ?_⟩
          exfalso
          cases r <;> simp [Sched.isStop] at hrs
          simp [Sched.alts] at hk
          exact hne hk
        | false => rw [hrs] at h; exact ⟨h.1, fun _ => ⟨h.2, rfl⟩⟩
      by_cases hki : k = i
      · subst hki
        have hil : k < ops.length := (List.getElem?_eq_some_iff.1 hi).1
        have hcl' := hc.set hB hkr
        rw [keep_pw]
        unfold wpOpIn
        have hi' : ops.toArray[k]? = some o := by simpa using hi
        simp only [hi']
        have hDk : ∀ x ∈ keepP bef k D, x ∈ D := by
          have aux : ∀ D : Pend, ∀ x ∈ keepP bef k D, x ∈ D := by
            intro D
            induction D with
            | nil => intro x hx; simp [keepP] at hx
            | cons y D ihD =>
              obtain ⟨yi, yF⟩ := y
              intro x hx
              simp only [keepP] at hx
              cases hbb : bitB (bef.getD k 0) yi with
              | true => rw [hbb] at hx; exact List.mem_cons_of_mem _ (ihD x hx)
              | false =>
                rw [hbb] at hx
                rcases List.mem_cons.1 hx with rfl | hx
                · exact List.mem_cons_self ..
                · exact List.mem_cons_of_mem _ (ihD x hx)
          exact aux D
        rcases guarded_out here.1 with ⟨hw, h⟩ | ⟨hw, h⟩
        · rw [if_pos hw]
          refine opY_sound h E (fun v H' d' hall => ?_) d
          obtain ⟨h1, h2⟩ := allP_out hall
          exact ⟨allW_pw.2 h1, ih.1 _ _ _ _ _ _ d' h2 hmain (ht.set hil) hcl' hdep.1 h1⟩
        · rw [if_neg (by rw [hw]; simp), put_mkA]
          exact ⟨fun _ _ => trivial, allW_pw.2 fun x hx => hD x (hDk x hx), ih.1 _ _ _ _ _ _ d h hmain (ht.set hil) hcl' hdep.1 fun x hx => hD x (hDk x hx)⟩
      · obtain ⟨h2, _⟩ := here.2 hki
        have hk' : k ∈ r.alts := by
          simp only [Sched.alts, List.mem_cons] at hk
          rcases hk with h | h
          · exact absurd h hki
          · exact h
        exact ihr.2 m D listed fuel f H d h2 ht hc hdep.2 hD k hk' hkr
  | stop => exact ⟨fun m D listed fuel f H d h => h.elim, fun m D listed fuel f H d h => h.elim⟩

theorem vcReg_soundY {ro : Option Nat} {P : Program} {n : Nat} {ops : List Oper} {bef : List Nat} {s : Sched} {K : F → Heap → Prop} {E : Env} {Q : Exit → Act → World → Prop} {id : Nat} (hm : P.follows .mixedOrders = true) (hQ : ∀ f H d, K f H → Q .normal (mkA Df n f) (mkW E H d))
    (hB : regB ops bef s = true) (hND : noDefB ops = true) {f : F} {H : Heap} (h : vcRY P n ops bef K s 0 [] f H) (d : Dr E) : (Code.region id ops.toArray true).wpIn (WideF ro) 0 P Q (mkA Df n f) (mkW E H d) := by
  simp only [regB, Bool.and_eq_true] at hB
  obtain ⟨⟨⟨hb, hsel⟩, hdep⟩, hmain⟩ := hB
  refine Code.wpIn_mono (Q := fun e a w => e = .normal ∧ Q .normal a w) (fun e a w hq => by obtain ⟨rfl, hq⟩ := hq; exact hq) ?_
  have hT : Told ops 0 (Array.replicate ops.toArray.size false) := by
    refine ⟨by simp, fun i hi => ?_, fun i hi => by simp [bitB_eq] at hi⟩
    have : i < ops.toArray.size := by simpa using hi
    simp [bitB_eq, hi]
  have hC : Closed (befF bef) (Array.replicate ops.toArray.size false) := by
    intro x hx
    rw [Array.getD_eq_getD_getElem?, Array.getElem?_replicate] at hx
    split at hx <;> simp at hx
  exact wpIn_region_any hm (wpAny_of_GI (bef := befF bef) _ _ [] _ _
    ((vcRY_sound (Q := fun a w => Q .normal a w) hQ hb hsel (fun i o h c => noDef_of hND i o (by simpa using h) c) s).1 0 [] _ ops.toArray.size f H (up d) h hmain hT hC (by simpa using Nat.le_of_ble_eq_true hdep) (by simp)))

theorem vcLY_sound {ro : Option Nat} {P : Program} {n : Nat} {ops : List Oper} {Q : Exit → Act → World → Prop} {K : F → Heap → Prop}
    {E : Env} (hQ : ∀ f H d, K f H → Q .normal (mkA Df n f) (mkW E H d)) : ∀ (l : List Oper) (f : F) (H : Heap), vcLY P n ops l f H K → ∀ d, wpListIn (WideF ro) 0 P ops.toArray Q l (mkA Df n f) (mkW E H d)
  | [], f, H, h, d => hQ f H d h
  | o :: rest, f, H, h, d => by
    unfold vcLY at h
    unfold wpListIn
    split at h
    · rename_i hgd
      rw [if_pos (wanted_none hgd)]
      exact opY_sound h E (fun v H' d' hk => vcLY_sound hQ rest _ _ hk d') d
    · rename_i j want hgd
      split at h
      · rename_i hs
        rw [if_neg (by rw [not_wanted hgd (.inl hs)]; simp), put_mkA]
        exact ⟨fun _ _ => trivial, vcLY_sound hQ rest _ _ h d⟩
      · rename_i dd hs
        split at h
        · rename_i c hc
          have e1 : mkA Df n (upd f dd (.bool c)) = mkA Df n f := mkA_upd hc
          have hw := wanted_some (Df := Df) hgd hs hc
          have hc' : ev n (upd f dd (.bool c)) (.tmp dd) = .bool c := by
            have := eval_mkA (Df := Df) n (upd f dd (.bool c)) (.tmp dd)
            rw [e1, eval_mkA] at this
            rw [← this]; exact hc
          cases c <;> cases want <;> simp only [brB, cond_true, cond_false] at h
          · rw [if_pos (by rw [hw]; rfl), ← e1]
            exact opY_sound h E (fun v H' d' hk => vcLY_sound hQ rest _ _ hk d') d
          · rw [if_neg (by rw [hw]; simp), ← e1, put_mkA]
            exact ⟨fun _ _ => trivial, vcLY_sound hQ rest _ _ h d⟩
          · rw [if_neg (by rw [hw]; simp), ← e1, put_mkA]
            exact ⟨fun _ _ => trivial, vcLY_sound hQ rest _ _ h d⟩
          · rw [if_pos (by rw [hw]; rfl), ← e1]
            exact opY_sound h E (fun v H' d' hk => vcLY_sound hQ rest _ _ hk d') d
        · rename_i hc
          rw [if_neg (by rw [not_wanted hgd (.inr ⟨dd, hs, hc⟩)]; simp), put_mkA]
          exact ⟨fun _ _ => trivial, vcLY_sound hQ rest _ _ h d⟩

theorem vcY_sound {ro : Option Nat} {P : Program} {n : Nat} {ann : List Nat → Ann} (hm : P.follows .mixedOrders = true) {E : Env} : ∀ (c : Code) (p : List Nat) {K : Ex → F → Heap → Prop} {Q : Exit → Act → World → Prop}
    (_hQ : ∀ e f H d, K e f H → Q (Ex.toExit e) (mkA Df n f) (mkW E H d)) (f : F) (H : Heap), vcY P n ann c p K f H → ∀ d, c.wpIn (WideF ro) 0 P Q (mkA Df n f) (mkW E H d)
  | .skip, _, _, _, hQ, f, H, h, d => wpIn_skip (hQ .normal f H d h)
  | .region id ops draw, p, K, Q, hQ, f, H, h, d => by
    unfold vcY at h
    cases draw with
    | false =>
      refine wpIn_region_list ?_
      have := vcLY_sound (ro := ro) (Q := Q) (fun f H d k => hQ .normal f H d k) ops.toList f H (vcPY_imp h) d
      simpa using this
    | true =>
      simp only [cond_true] at h
      split at h
      · obtain ⟨hB, h⟩ := chk_out h
        obtain ⟨hN, h⟩ := chk_out h
        have e : Code.region id ops true = Code.region id ops.toList.toArray true := by simp
        rw [e]
        exact vcReg_soundY hm (fun f H d k => hQ .normal f H d k) hB hN h d
      · exact h.elim
  | .seq a b, p, K, Q, hQ, f, H, h, d => by
    unfold vcY at h
    refine wpIn_seq ?_
    split at h
    · rename_i live _
      obtain ⟨M, h1, h2⟩ := h
      refine vcY_sound (ro := ro) hm a _ (fun e f' H' d' k => ?_) f H (vcY_off a _ f H h1) d
      obtain ⟨k1, k2⟩ := k
      cases e with
      | normal =>
        obtain ⟨h3, h4⟩ := allSs_inst k1 (h2 f')
        have := vcY_sound (ro := ro) hm b _ hQ _ _ (h3 H' h4) d'
        rw [mkA_patch k2] at this
        exact this
      | _ => exact hQ _ _ _ _ k1
    · refine vcY_sound (ro := ro) hm a _ (fun e f' H' d' k => ?_) f H h d
      cases e with
      | normal => exact vcY_sound (ro := ro) hm b _ hQ _ _ k d'
      | _ => exact hQ _ _ _ _ k
  | .cond c a b, p, K, Q, hQ, f, H, h, d => by
    unfold vcY at h
    split at h
    · rename_i c hc
      refine wpIn_cond (t := c) (by rw [eval_mkA]; exact hc) ?_
      cases c
      · exact vcY_sound (ro := ro) hm b _ hQ _ _ h d
      · exact vcY_sound (ro := ro) hm a _ hQ _ _ h d
    · exact h.elim
  | .block id c, p, K, Q, hQ, f, H, h, d => by
    unfold vcY at h
    refine wpIn_block (vcY_sound (ro := ro) hm c _ (fun e f' H' d' k => ?_) f H h d)
    cases e with
    | exit i =>
      simp only [Ex.toExit, Exit.inBlock]
      cases hb : Nat.beq i id with
      | true =>
        rw [if_pos (Nat.eq_of_beq_eq_true hb)]
        simp only [hb, cond_true] at k
        exact hQ .normal _ _ _ k
      | false =>
        rw [if_neg (fun e => by subst e; simp at hb)]
        simp only [hb, cond_false] at k
        exact hQ (.exit i) _ _ _ k
    | normal => exact hQ .normal _ _ _ k
    | ret => exact hQ .ret _ _ _ k
  | .loop c, p, K, Q, hQ, f, H, h, d => by
    unfold vcY at h
    split at h
    · rename_i live _
      obtain ⟨I, μ, h1, h2⟩ := h
      refine wpIn_loop (fun a w => ∃ f' H' d', a = mkA Df n f' ∧ w = mkW E H' d' ∧ Off (writes c) f f' ∧ okSs (shsOf live) (valsOf n f' live) (I (valsOf n f' live) H'))
        (fun a w => μ (valsOf n (fun i => a.tmps.getD i undef) live) w.heap) ⟨f, H, d, rfl, rfl, Off.refl _ _, h1⟩ ?_
      rintro a w ⟨f', H', d', rfl, rfl, hoff, hI⟩
      obtain ⟨h3, h4⟩ := allSs_inst hI (h2 f')
      have h5 := vcY_off c _ _ _ (h3 H' h4)
      have h6 := vcY_sound (ro := ro) (E := E) hm c (0 :: p) (Q := Exit.then (fun a' w' => (∃ f' H' d', a' = mkA Df n f' ∧ w' = mkW E H' d' ∧ Off (writes c) f f' ∧ okSs (shsOf live) (valsOf n f' live) (I (valsOf n f' live) H')) ∧
          μ (valsOf n (fun i => a'.tmps.getD i undef) live) w'.heap < μ (valsOf n (fun i => (mkA Df n f').tmps.getD i undef) live) (mkW E H' d').heap) Q) (fun e f'' H'' d'' k => ?_) _ _ h5 d'
      · rw [mkA_patch hoff] at h6
        exact h6
      · obtain ⟨k1, k2⟩ := k
        have hv : ∀ g : F, valsOf n (fun i => (mkA Df n g).tmps.getD i undef) live = valsOf n g live := fun g => valsOf_mkA n g live
        cases e with
        | normal =>
          refine ⟨⟨f'', H'', d'', rfl, rfl, fun i hi => ?_, okSs_mono (fun k => k.1) k1⟩, ?_⟩
          · rw [k2 i hi]; exact off_patch _ _ _ _ _ i hi
          · rw [hv, hv]
            have key : ∀ (l : List Sh) (vs : List Value) (X : Prop), okSs l vs X → X := fun l vs X h => by
              have : allSs l fun _ => True := by
                have aux : ∀ (l : List Sh) (K : List Value → Prop), (∀ vs, K vs) → allSs l K := by
                  intro l
                  induction l with
                  | nil => intro K hK; exact hK _
                  | cons s l ih =>
                    intro K hK
                    have auxB : ∀ (b : B) (G : Value → Prop), (∀ v, G v) → allB b G := by
                      intro b G hG; cases b <;> simp only [allB] <;> intros <;> exact hG _
                    have auxBs : ∀ (bs : List B) (G : List Value → Prop), (∀ vs, G vs) → allBs bs G := by
                      intro bs
                      induction bs with
                      | nil => intro G hG; exact hG _
                      | cons b bs ihb => intro G hG; exact auxB b _ fun v => ihb _ fun vs => hG _
                    cases s with
                    | one b => exact auxB b _ fun v => ih _ fun vs => hK _
                    | agg bs => exact auxBs bs _ fun v => ih _ fun vs => hK _
                exact aux l _ fun _ => trivial
              exact (allSs_inst h this).2
            exact (key _ _ _ k1).2
        | exit i => exact hQ (.exit i) _ _ _ k1
        | ret => exact hQ .ret _ _ _ k1
    · exact h.elim
  | .exit id, _, _, _, hQ, f, H, h, d => wpIn_exit (hQ (.exit id) f H d h)
  | .ret, _, _, _, hQ, f, H, h, d => wpIn_ret (hQ .ret f H d h)
  | .rangeFunc .., _, _, _, _, _, _, h, _ => h.elim
  | .scope _, _, _, _, _, _, _, h, _ => h.elim
  | .label _, _, _, _, _, _, _, h, _ => h.elim
  | .goto _, _, _, _, _, _, _, h, _ => h.elim
  | .refuse _, _, _, _, _, _, _, h, _ => h.elim

theorem vcY_call {P : Program} {k : FuncId} {fn : Func} {c : Code} {n : Nat} {args : List Value} {rs : List ResultVar} {H : Heap} {R : Value → Heap → Prop} (ann : List Nat → Ann) (hm : P.follows .mixedOrders = true)
    (hf : P.funcs[k]? = some fn) (hb : fn.body = some c) (hn : fn.ntmps = n) (hr : fn.results.toList = rs) (hle : Nat.ble args.length n = true)
    (h : vcY P n ann c [] (endK P n rs R) (initF args) H) : CallH P k args.toArray H R := by
  intro E d
  refine calls_of_wp hf hb ?_
  rw [init_mkA hn hle]
  refine (wpIn_wide (n := 0)).1 ?_
  refine vcY_sound (ro := none) hm c [] (fun e f H' d' k => ?_) _ H h d
  have fin : vcRes P n f H' rs (fun vs => R (oneV vs) H') → ∃ v, (results fn (mkA [] n f).tmps).run P (mkW E H' d') = .ok v (mkW E H' d') ∧ ∃ v' H'' d'', Ending.returned v = .returned v' ∧ mkW E H' d' = mkW E H'' d'' ∧ R v' H'' := fun h => by
    obtain ⟨v, h1, h2⟩ := res_run (Df := []) (fn := fn) (d' := d') (X := fun v => R v H') hr h
    exact ⟨v, h1, v, H', d', rfl, rfl, h2⟩
  cases e with
  | normal => exact ⟨rfl, fin k⟩
  | ret => exact ⟨rfl, fin k⟩
  | exit i => exact k.elim

def Lp (H : Heap) (l : Nat) (R0 : Loop) (st : LoopState) (j : Option Code) : Prop := H[l]? = some (.loop { R0 with state := st, pending := j })
def setLp (H : Heap) (l : Nat) (R0 : Loop) (st : LoopState) (j : Option Code) : Heap := H.setIfInBounds l (.loop { R0 with state := st, pending := j })
def Dq (H : Heap) (D : Nat) : Prop := H[D]? = some (.deferred (some []))
def shutD (H : Heap) (D : Nat) : Heap := H.setIfInBounds D (.deferred none)
def NewL (H : Heap) (D l : Nat) (R0 : Loop) (H' : Heap) : Prop := D = H.size ∧ l = H.size + 1 ∧ H' = (H.push (.deferred (some []))).push (.loop { R0 with state := .ready, pending := none })

def putPs : List Nat → List Value → F → F
  | p :: ps, v :: vs, f => putPs ps vs (upd f p v)
  | _, _, f => f
def slotsOf : Live → List Nat
  | [] => []
  | s :: l => s.1 :: slotsOf l

theorem allB_of {b : B} {K : Value → Prop} (h : ∀ v, K v) : allB b K := by cases b <;> simp only [allB] <;> intros <;> exact h _
theorem allBs_of : ∀ {l : List B} {K : List Value → Prop}, (∀ vs, K vs) → allBs l K
  | [], _, h => h _
  | _ :: _, _, h => allB_of fun v => allBs_of fun vs => h _
theorem allSs_of : ∀ {l : List Sh} {K : List Value → Prop}, (∀ vs : List Value, vs.length = l.length → K vs) → allSs l K
  | [], _, h => h _ rfl
  | .one b :: l, _, h => allB_of fun v => allSs_of fun vs e => h _ (by simp [e])
  | .agg b :: l, _, h => allBs_of fun v => allSs_of fun vs e => h _ (by simp [e])
theorem shsOf_length (l : Live) : (shsOf l).length = l.length := by
  induction l with
  | nil => rfl
  | cons s l ih => simp [shsOf, ih]
theorem slotsOf_length (l : Live) : (slotsOf l).length = l.length := by
  induction l with
  | nil => rfl
  | cons s l ih => simp [slotsOf, ih]
theorem natsB_eq : ∀ {a b : List Nat}, natsB a b = true → a = b
  | [], [], _ => rfl
  | [], _ :: _, h => by cases h
  | _ :: _, [], h => by cases h
  | x :: a, y :: b, h => by
    unfold natsB at h
    cases e : Nat.beq x y with
    | true => rw [e] at h; rw [Nat.eq_of_beq_eq_true e, natsB_eq h]
    | false => rw [e] at h; cases h

theorem put_tmps {Df : List Deferred} (n : Nat) (f : F) (d : Nat) (v : Value) : (mkA Df n f).tmps.setIfInBounds d v = (mkA Df n (upd f d v)).tmps := by
  have := put_mkA (Df := Df) n f (some d) v
  exact congrArg Act.tmps this
theorem fold_putPs {Df : List Deferred} (n : Nat) : ∀ (ps : List Nat) (vs : List Value) (f : F), (ps.zip vs).foldl (fun tmps (t, a) => tmps.setIfInBounds t a) (mkA Df n f).tmps = (mkA Df n (putPs ps vs f)).tmps
  | [], _, _ => rfl
  | _ :: _, [], _ => rfl
  | p :: ps, v :: vs, f => by
    simp only [List.zip_cons_cons, List.foldl_cons, putPs]
    rw [put_tmps]
    exact fold_putPs n ps vs _

def vcRound (P : Program) (n : Nat) (ann : List Nat → Ann) (p : List Nat) (l : Nat) (R0 : Loop) (assign body : Code) (K2 : Value → Heap → Prop) (f : F) (H : Heap) : Prop :=
  vcY P n ann assign (0 :: p) (fun e f1 H1 => match e with
    | .normal => Lp H1 l R0 .ready none ∧ vcY P n ann body (1 :: p) (fun e f3 H3 => match e with
        | .normal => Lp H3 l R0 .busy none ∧ K2 (.bool true) (setLp H3 l R0 .ready none)
        | .ret => Lp H3 l R0 .busy none ∧ K2 (.bool false) (setLp H3 l R0 .done (some .ret))
        | .exit i => Lp H3 l R0 .busy none ∧ K2 (.bool false) (setLp H3 l R0 .done (some (.exit i)))) f1 (setLp H1 l R0 .busy none)
    | _ => False) f H

def hasRF : Code → Bool
  | .seq a b => hasRF a || hasRF b
  | .cond _ a b => hasRF a || hasRF b
  | .block _ c => hasRF c
  | .loop c => hasRF c
  | .rangeFunc .. => true
  | _ => false

def vcS (P : Program) (n : Nat) (ann : List Nat → Ann) : Code → List Nat → (Ex → Option Nat → F → Heap → Prop) → F → Heap → Prop
  | .seq a b, p, K, f, H =>
    bif hasRF a then vcS P n ann a (0 :: p) (fun e od f' H' => match e with | .normal => vc P n ann b (1 :: p) (fun e f'' H'' => K e od f'' H'') f' H' | e => K e od f' H') f H
    else vc P n ann a (0 :: p) (fun e f' H' => match e with | .normal => vcS P n ann b (1 :: p) K f' H' | e => K e none f' H') f H
  | .block id c, p, K, f, H => vcS P n ann c (0 :: p) (fun e od f' H' => match e with | .exit i => (bif Nat.beq i id then K .normal od f' H' else K (.exit i) od f' H') | e => K e od f' H') f H
  | .rangeFunc g ps assign body, p, K, f, H =>
    match ann p with
    | .cut live => chk (natsB (slotsOf live) ps.toList) <| ∀ (D l : Nat) (R0 : Loop) (H1 : Heap), NewL H D l R0 H1 →
        (allSs (shsOf live) fun vs => ∀ (H2 : Heap) (K2 : Value → Heap → Prop), Lp H2 l R0 .ready none → vcRound P n ann p l R0 assign body K2 (putPs (slotsOf live) vs f) H2 → YieldH P l vs H2 K2) →
        CallV P (ev n f g) [.func (.yield l) #[] #[]] H1 fun _ H4 =>
          (Lp H4 l R0 .ready none ∧ K .normal (some D) f (setLp H4 l R0 .exhausted none)) ∨
          (Lp H4 l R0 .done (some .ret) ∧ K .ret (some D) f (setLp H4 l R0 .exhausted (some .ret)))
    | _ => False
  | _, _, _, _, _ => False

def dfOf : Option Nat → List Deferred
  | none => []
  | some D => [{ target := .collected D, args := #[] }]
def endS (P : Program) (n : Nat) (rs : List ResultVar) (R : Value → Heap → Prop) : Ex → Option Nat → F → Heap → Prop
  | .exit _, _, _, _ => False
  | _, none, f, H => vcRes P n f H rs fun vs => R (oneV vs) H
  | _, some D, f, H => Dq H D ∧ vcRes P n f (shutD H D) rs fun vs => R (oneV vs) (shutD H D)

theorem round_yield {P : Program} {n : Nat} {ann : List Nat → Ann} {p : List Nat} {l : Nat} {R0 : Loop} {assign body : Code} {K2 : Value → Heap → Prop} {f : F} {vs : List Value} {H : Heap} {ps : List Nat} (hm : P.follows .mixedOrders = true)
    (hl : Lp H l R0 .ready none) (hs : vs.length = ps.length) (e1 : R0.params = ps.toArray) (e2 : R0.assign = assign) (e3 : R0.body = body) (e4 : R0.tmps = (mkA [] n f).tmps)
    (h : vcRound P n ann p l R0 assign body K2 (putPs ps vs f) H) : YieldH P l vs H K2 := by
  intro E d
  refine ⟨R0.fn, (mkA [] n (putPs ps vs f)).tmps, assign, body, ?_, ?_⟩
  · have := run_yield (P := P) (w := mkW E H d) (l := l) (args := vs.toArray) hl (by simp [e1, hs])
    rw [this]
    simp only [e1, e2, e3, e4, List.zip_toArray, List.size_toArray, List.foldl_toArray']
    rw [fold_putPs]
  · refine roundIn_of_wpIn (F := Fence.wide) trivial ?_
    refine vcY_sound (Df := []) (ro := some l) hm assign (0 :: p) (fun e f1 H1 d1 k => ?_) _ H h d
    cases e with
    | normal =>
      obtain ⟨hl1, k⟩ := k
      refine ⟨_, run_beginRound (w := mkW E H1 d1) hl1 rfl, ?_⟩
      refine vcY_sound (Df := []) (ro := some l) hm body (1 :: p) (fun e f3 H3 d3 k => ?_) f1 (setLp H1 l R0 .busy none) k d1
      cases e with
      | normal => exact ⟨_, _, run_endRound (w := mkW E H3 d3) none k.1, _, _, d3, rfl, rfl, k.2⟩
      | ret => exact ⟨_, _, run_endRound (w := mkW E H3 d3) (some .ret) k.1, _, _, d3, rfl, rfl, k.2⟩
      | exit i => exact ⟨_, _, run_endRound (w := mkW E H3 d3) (some (.exit i)) k.1, _, _, d3, rfl, rfl, k.2⟩
    | ret => exact k.elim
    | exit i => exact k.elim

theorem vcS_sound {P : Program} {n : Nat} {ann : List Nat → Ann} (hm : P.follows .mixedOrders = true) {E : Env} : ∀ (c : Code) (p : List Nat) {K : Ex → Option Nat → F → Heap → Prop} {Q : Exit → Act → World → Prop}
    (_hQ : ∀ e od f H d, K e od f H → Q (Ex.toExit e) (mkA (dfOf od) n f) (mkW E H d)) (f : F) (H : Heap), vcS P n ann c p K f H → ∀ d, c.wpIn (WideF none) 0 P Q (mkA [] n f) (mkW E H d)
  | .seq a b, p, K, Q, hQ, f, H, h, d => by
    unfold vcS at h
    refine wpIn_seq ?_
    cases hr : hasRF a with
    | true =>
      rw [hr] at h
      simp only [cond_true] at h
      refine vcS_sound hm a _ (fun e od f' H' d' k => ?_) f H h d
      cases e with
      | normal => exact (wpIn_wide (n := 0)).2 (vc_sound (Df := dfOf od) hm b _ (fun e f'' H'' d'' k => hQ e od f'' H'' d'' k) f' H' k d')
      | ret => exact hQ _ _ _ _ _ k
      | exit i => exact hQ _ _ _ _ _ k
    | false =>
      rw [hr] at h
      simp only [cond_false] at h
      refine (wpIn_wide (n := 0)).2 (vc_sound (Df := []) hm a _ (fun e f' H' d' k => ?_) f H h d)
      cases e with
      | normal => exact vcS_sound hm b _ hQ f' H' k d'
      | ret => exact hQ _ none _ _ _ k
      | exit i => exact hQ _ none _ _ _ k
  | .block id c, p, K, Q, hQ, f, H, h, d => by
    unfold vcS at h
    refine wpIn_block (vcS_sound hm c _ (fun e od f' H' d' k => ?_) f H h d)
    cases e with
    | exit i =>
      simp only [Ex.toExit, Exit.inBlock]
      cases hb : Nat.beq i id with
      | true =>
        rw [if_pos (Nat.eq_of_beq_eq_true hb)]
        simp only [hb, cond_true] at k
        exact hQ .normal _ _ _ _ k
      | false =>
        rw [if_neg (fun e => by subst e; simp at hb)]
        simp only [hb, cond_false] at k
        exact hQ (.exit i) _ _ _ _ k
    | normal => exact hQ .normal _ _ _ _ k
    | ret => exact hQ .ret _ _ _ _ k
  | .rangeFunc g ps assign body, p, K, Q, hQ, f, H, h, d => by
    unfold vcS at h
    split at h
    · rename_i live _
      obtain ⟨hps, h⟩ := chk_out h
      have hps := natsB_eq hps
      refine wpIn_rangeFunc fun fn _ => ?_
      let R0 : Loop := { state := .ready, pending := none, fn, tmps := (mkA [] n f).tmps, params := ps, assign, body, defers := H.size }
      obtain ⟨k, first, captured, hv, hok, hc⟩ := h H.size (H.size + 1) R0 _ ⟨rfl, rfl, rfl⟩ (allSs_of fun vs hlen H2 K2 hl hr => by
        refine round_yield (ps := slotsOf live) hm hl (by rw [hlen, shsOf_length, slotsOf_length]) (by rw [hps]) rfl rfl rfl hr)
      have hcall := hc E d
      let Wd : World := mkW E ((H.push (.deferred (some []))).push (.loop R0)) d
      refine ⟨H.size + 1, [{ target := .collected H.size, args := #[] }], Wd, { target := .fn (.func k) captured, args := first ++ #[.func (.yield (H.size + 1)) #[] #[]] }, Wd, k, first ++ #[.func (.yield (H.size + 1)) #[] #[]] ++ captured, Wd,
        run_enterLoop_outer (w := mkW E H d) fn (mkA [] n f).tmps ps assign body, ?_, fun _ _ => trivial, ?_, fun h => by simp [WideF, Fence.wide] at h, ?_⟩
      · rw [eval_fun]
        have e0 : ∀ v, ev n f (.const v) = v := fun v => rfl
        simp [resolve, Deferred.ofValue, hv, e0]
      · simp [invoke, okFn_run hok]
      · refine CallsIn.mono (F := WideF none) (callsIn_wide.2 hcall) fun e w' => ?_
        rintro ⟨v, H4, d4, rfl, rfl, hk⟩
        rcases hk with ⟨hl, hk⟩ | ⟨hl, hk⟩
        · exact ⟨none, _, run_endLoop (w := mkW E H4 d4) hl (by simp), hQ .normal (some H.size) f _ d4 hk⟩
        · exact ⟨some .ret, _, run_endLoop (w := mkW E H4 d4) hl (by simp), wpIn_ret (hQ .ret (some H.size) f _ d4 hk)⟩
    · exact h.elim
  | .skip, _, _, _, _, _, _, h, _ => h.elim
  | .region .., _, _, _, _, _, _, h, _ => h.elim
  | .cond .., _, _, _, _, _, _, h, _ => h.elim
  | .loop _, _, _, _, _, _, _, h, _ => h.elim
  | .exit _, _, _, _, _, _, _, h, _ => h.elim
  | .ret, _, _, _, _, _, _, h, _ => h.elim
  | .scope _, _, _, _, _, _, _, h, _ => h.elim
  | .label _, _, _, _, _, _, _, h, _ => h.elim
  | .goto _, _, _, _, _, _, _, h, _ => h.elim
  | .refuse _, _, _, _, _, _, _, h, _ => h.elim

theorem vcS_call {P : Program} {k : FuncId} {fn : Func} {c : Code} {n : Nat} {args : List Value} {rs : List ResultVar} {H : Heap} {R : Value → Heap → Prop} (ann : List Nat → Ann) (hm : P.follows .mixedOrders = true)
    (hf : P.funcs[k]? = some fn) (hb : fn.body = some c) (hn : fn.ntmps = n) (hr : fn.results.toList = rs) (hle : Nat.ble args.length n = true)
    (h : vcS P n ann c [] (endS P n rs R) (initF args) H) : CallH P k args.toArray H R := by
  intro E d
  refine callsIn_wide.1 (callsIn_of_wp_marks (n := 0) hf hb trivial ?_)
  rw [init_mkA hn hle]
  refine vcS_sound hm c [] (fun e od f H' d' k => ?_) _ H h d
  have fin : ∀ (od : Option Nat) (H' : Heap) (d' : Dr E), vcRes P n f H' rs (fun vs => R (oneV vs) H') → LeavesIn Fence.wide 0 P fn (mkA (dfOf od) n f).tmps (fun e w' => ∃ v H' d', e = .returned v ∧ w' = mkW E H' d' ∧ R v H') [] .returning (mkW E H' d') := fun od H' d' h => by
    obtain ⟨v, h1, h2⟩ := res_run (Df := dfOf od) (fn := fn) (d' := d') (X := fun v => R v H') hr h
    exact ⟨v, h1, v, H', d', rfl, rfl, h2⟩
  have all : ∀ (od : Option Nat), (match od with | none => vcRes P n f H' rs fun vs => R (oneV vs) H' | some D => Dq H' D ∧ vcRes P n f (shutD H' D) rs fun vs => R (oneV vs) (shutD H' D)) →
      LeavesInM Fence.wide 0 P fn (mkA (dfOf od) n f).tmps (fun e w' => ∃ v H' d', e = .returned v ∧ w' = mkW E H' d' ∧ R v H') (dfOf od) .returning (mkW E H' d') := fun od k => by
    cases od with
    | none => exact fin none H' d' k
    | some D => exact ⟨by simp, .inl ⟨D, mkW E (shutD H' D) d', rfl, run_takeDeferred (w := mkW E H' d') k.1, fin (some D) (shutD H' D) d' k.2⟩⟩
  cases e with
  | normal => exact all od (by cases od <;> exact k)
  | ret => exact all od (by cases od <;> exact k)
  | exit i => exact k.elim

end Go.GV
