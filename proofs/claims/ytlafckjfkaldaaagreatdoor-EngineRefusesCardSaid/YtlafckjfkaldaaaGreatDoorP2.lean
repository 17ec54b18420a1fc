/- A part of a proof: see the last text of this claim. -/
import Derived.Test.YtlafckjfkaldaaaGreatDoorP1
import Derived.RangeFuncRecord
import Derived.OrdersIn
import Derived.TacticsIn
open _root_.Nat renaming beq→nP,ble→pt,le_of_ble_eq_true→MW,eq_of_beq_eq_true→oK
open _root_.List renaming mem_cons_of_mem→MY,mem_cons→o3,mem_filter→VD,getElem?_eq_some_iff→qb,filter_cons→MX,mem_cons_self→ad5
open _root_.Bool renaming and_eq_true→oJ
open _root_.Array renaming replicate→apR
set_option linter.unusedVariables false
set_option maxRecDepth 100000
open Go
namespace Go.bs
variable{Df:List Deferred}
def lV(ro:Option Nat):Fence:={Fence.wide with round:=ro}
def rR(P:Program)(l:Nat)(args:List Value)(H:J)(K:Value->J->Prop):Prop:=
 ∀(E:Env) (d:kb E),∃fn tmps assign body,(Instr.yield l args.toArray).run P (a8 E H d)=.ok (.round l fn tmps assign body) (a8 E H d)∧
  RoundIn Fence.wide 0 P l fn tmps assign body (a8 E H d) (λe w'=>∃v H' d',e=.returned v/\w'=a8 E H' d'/\K v H')
variable{P:Program}{n:Nat}{K:F->J->Prop}{H:J}{f:F}
theorem rR.mono{l:Nat}{args:List Value}{K b3:Value->J->Prop}(h:rR P l args H K)(hk:∀v H',K v H'->b3 v H'):rR P l args H b3:=by
 intro E d
 obtain⟨fn,tmps,assign,body,h1,ae⟩:=h E d
 exact⟨fn,tmps,assign,body,h1,ae.mono λe w' ⟨v,H',d',bc,bN,k⟩=>⟨v,H',d',bc,bN,hk _ _ k⟩⟩
def ui(P:Program)(v:Value)(args:List Value)(H:J)(K:Value->J->Prop):Prop:=
 dO P v args H K\/∃l,v=.func (.yield l) #[] #[]/\rR P l args H K
theorem ui.mono{v:Value}{args:List Value}{K b3:Value->J->Prop}(h:ui P v args H K)(hk:∀v H',K v H'->b3 v H'):ui P v args H b3:=by
 rcases h with h|⟨l,e,h⟩
 ·exact .inl (dO.mono h hk)
 ·exact .inr ⟨l,e,h.mono hk⟩
def rS(P:Program)(n:Nat)(f:F)(o:Oper)(H:J)(K:Value->J->Prop):Prop:=
 match o.op with
 | .call {callee:=.value (.tmp g),args,.. }=>ui P (cd n f (.tmp g)) (fv n f args.toList) H λv H'=>nT (qe P o.type) λu=>v=u/\K u H'
 |_=>nj P n f o H K
theorem qN{o:Oper}{K b3:Value->J->Prop}(hk:∀v H',K v H'->b3 v H')(h:rS P n f o H K):rS P n f o H b3:=by
 unfold rS at h⊢
 split at h
 ·exact h.mono λv H' k=>s7 (λu k=>⟨k.1,hk _ _ k.2⟩) k
 ·exact pz hk h
def U5:Op->Bool
 | .defer _=>true
 |_=>false
def Ej:List Oper->Bool
 |[]=>true
 |o::l=>cond (U5 o.op) false (Ej l)
theorem U6:∀{l:List Oper},Ej l=true->∀(i:Nat) (o:Oper),l[i]?=some o->∀c,o.op≠.defer c
 |[],_,_,_,h,_=>by simp at h
 |x::l,aO,i,o,h,c=>by
  unfold Ej at aO
  cases aa:U5 x.op with
  |true=>rw [aa]at aO;cases aO
  |false=>
   rw [aa]at aO
   cases i with
   |zero=>simp at h;subst h;intro e;rw [e]at aa;cases aa
   |succ i=>exact U6 (l:=l) aO i o (by simpa using h) c
def lB(P:Program)(n:Nat)(ops:List Oper):List Oper->F->J->(F->J->Prop)->Prop
 |[],f,H,K=>K f H
 |o::rest,f,H,K=>
  match o.guard with
  |none=>rS P n f o H λv H'=>lB P n ops rest (eB f o.dst v) H' K
  |some (j,want)=>
   match s9 ops j with
   |none=>lB P n ops rest (eB f o.dst undef) H K
   |some d=>
    match cd n f (.tmp d)with
    | .bool c=>aJ c
      (bif want then rS P n (fc f d (.bool true)) o H λv H'=>lB P n ops rest (eB (fc f d (.bool true)) o.dst v) H' K
       else lB P n ops rest (eB (fc f d (.bool true)) o.dst undef) H K)
      (bif want then lB P n ops rest (eB (fc f d (.bool false)) o.dst undef) H K
       else rS P n (fc f d (.bool false)) o H λv H'=>lB P n ops rest (eB (fc f d (.bool false)) o.dst v) H' K)
    |_=>lB P n ops rest (eB f o.dst undef) H K
def rT(P:Program)(n:Nat):List Oper->F->J->(F->J->Prop)->Prop
 |[],f,H,K=>K f H
 |o::rest,f,H,K=>
  match o.guard with
  |none=>rS P n f o H λv H'=>xR P o v λv=>rT P n rest (eB f o.dst v) H' K
  |some _=>False
def vR(P:Program)(n:Nat)(a:hE)(ops:List Oper)(f:F)(H:J)(K:F->J->Prop):Prop:=match a with
 | .ext=>rT P n ops f H K
 |_=>lB P n ops ops f H K
def h4(P:Program)(n:Nat)(ops:List Oper)(bef:List Nat)(K:F->J->Prop):eY->Nat->kC->F->J->Prop
 | .done,m,_,f,H=>da (Ns ops m) (K f H)
 | .quiet i s,m,D,f,H=>
  match ops[i]? with
  |none=>False
  |some o=>da (EI P ops m i o s) (guarded ops n o f
    (λf=>qg P n f o H λv=>h4 P n ops bef K s (lY m i) (Nr i (gn P n f o v) D) (eB f o.dst v) H)
    (λf=>h4 P n ops bef K s (lY m i) D (eB f o.dst undef) H))
 | .pick s,m,D,f,H=>da (EJ ops m s) (h4 P n ops bef K s m D f H)
 | .alt i s r,m,D,f,H=>
  match ops[i]? with
  |none=>False
  |some o=>
   da (Nt s) (bif r.qS then guarded ops n o f
     (λf=>rS P n f o H λv H'=>ta (gO bef i D) H' (h4 P n ops bef K s (lY m i) (gO bef i D) (eB f o.dst v) H'))
     (λf=>h4 P n ops bef K s (lY m i) (gO bef i D) (eB f o.dst undef) H)
   else guarded ops n o f
     (λf=>rS P n f o H λv H'=>ta (gO bef i D) H' (h4 P n ops bef K s (lY m i) (gO bef i D) (eB f o.dst v) H'))
     (λf=>h4 P n ops bef K s (lY m i) (gO bef i D) (eB f o.dst undef) H)/\h4 P n ops bef K r m D f H)
 | .stop,_,_,_,_=>False
theorem aod{ops:List Oper}{bef:List Nat}{b3:F->J->Prop}(hk:∀f H,K f H->b3 f H):∀(s:eY) (m:Nat) (D:kC) (f:F) (H:J),h4 P n ops bef K s m D f H->h4 P n ops bef b3 s m D f H:=by
 intro s
 induction s with
 |done=>intro m D f H h;unfold h4 at h⊢;exact fY (hk _ _) h
 |quiet i s ih=>
  intro m D f H h
  unfold h4 at h⊢
  split at h
  ·exact h
  ·exact fY (qW (λh=>rY (λv h=>ih _ _ _ _ h) h) (λh=>ih _ _ _ _ h)) h
 |pick s ih=>intro m D f H h;unfold h4 at h⊢;exact fY (ih _ _ _ _) h
 |alt i s r ih r1=>
  intro m D f H h
  unfold h4 at h⊢
  split at h
  ·exact h
  ·refine fY (λh=> ?_) h
   cases aA:r.qS with
   |true=>
    rw [aA]at h
    simp only [cond_true]at h⊢
    exact qW (λh=>qN (λv H' h=>uL (ih _ _ _ _) h) h) (λh=>ih _ _ _ _ h) h
   |false=>
    rw [aA]at h
    simp only [cond_false]at h⊢
    exact⟨qW (λh=>qN (λv H' h=>uL (ih _ _ _ _) h) h) (λh=>ih _ _ _ _ h) h.1,r1 _ _ _ _ h.2⟩
 |stop=>intro m D f H h;exact h
theorem aoe{ops:List Oper}{bef:List Nat}{f0:F}:∀(s:eY) (m:Nat) (D:kC) (f:F) (H:J),eH (gP ops) f0 f->h4 P n ops bef K s m D f H->h4 P n ops bef (λbE H'=>K bE H'/\eH (gP ops) f0 bE) s m D f H:=by
 intro s
 induction s with
 |done=>intro m D f H an h;unfold h4 at h⊢;exact fY (λh=>⟨h,an⟩) h
 |quiet i s ih=>
  intro m D f H an h
  unfold h4 at h⊢
  split at h
  ·exact h
  ·rename_i o az
   exact fY (qW (λh=>rY (λv h=>ih _ _ _ _ (qX az an _) h) h) (λh=>ih _ _ _ _ (qX az an _) h)) h
 |pick s ih=>intro m D f H an h;unfold h4 at h⊢;exact fY (ih _ _ _ _ an) h
 |alt i s r ih r1=>
  intro m D f H an h
  unfold h4 at h⊢
  split at h
  ·exact h
  ·rename_i o az
   refine fY (λh=> ?_) h
   cases aA:r.qS with
   |true=>
    rw [aA]at h
    simp only [cond_true]at h⊢
    exact qW (λh=>qN (λv H' h=>uL (ih _ _ _ _ (qX az an _)) h) h) (λh=>ih _ _ _ _ (qX az an _) h) h
   |false=>
    rw [aA]at h
    simp only [cond_false]at h⊢
    exact⟨qW (λh=>qN (λv H' h=>uL (ih _ _ _ _ (qX az an _)) h) h) (λh=>ih _ _ _ _ (qX az an _) h) h.1,r1 _ _ _ _ an h.2⟩
 |stop=>intro m D f H an h;exact h
def hU(P:Program)(n:Nat)(dD:List Nat->hE):Code->List Nat->(lC->F->J->Prop)->F->J->Prop
 | .skip,_,K,f,H=>K .normal f H
 | .region _ ops draw,p,K,f,H=>
  bif draw then
   (match dD p with
   | .dt bef s=>da (zn ops.toList bef s)<|da (Ej ops.toList)<|h4 P n ops.toList bef (λbE H'=>K .normal bE H') s 0 [] f H
   |_=>False)
  else vR P n (dD p) ops.toList f H λbE H'=>K .normal bE H'
 | .seq a b,p,K,f,H=>
  match dD p with
  | .cut live=>∃M:List Value->J->Prop,hU P n dD a (0::p) (λe bE H'=>match e with| .normal=>nU (mB live) (ga n bE live) (M (ga n bE live) H')|e=>K e bE H') f H∧
    ∀bm:F,pw (mB live) λvs=>∀H',M vs H'->hU P n dD b (1::p) K (patch live vs (writes a) bm f) H'
  | .dead _=>hU P n dD a (0::p) (λe bE H'=>match e with| .normal=>False|e=>K e bE H') f H
  |_=>hU P n dD a (0::p) (λe bE H'=>match e with| .normal=>hU P n dD b (1::p) K bE H'|e=>K e bE H') f H
 | .cond c a b,p,K,f,H=>
  (match cd n f c with| .bool c=>aJ c (dy (dD p) true (hU P n dD a (0::p) K f H)) (dy (dD p) false (hU P n dD b (1::p) K f H))|_=>False)
 | .block id c,p,K,f,H=>hU P n dD c (0::p) (λe bE H'=>match e with| .exit i=>(bif nP i id then K .normal bE H' else K (.exit i) bE H')|e=>K e bE H') f H
 | .loop c,p,K,f,H=>
  match dD p with
  | .cut live=>∃(cc:List Value->J->Prop) (fV:List Value->J->Nat),nU (mB live) (ga n f live) (cc (ga n f live) H)∧
    ∀bm:F,pw (mB live) λvs=>∀H',cc vs H'->hU P n dD c (0::p) (λe kD cG=>match e with| .normal=>nU (mB live) (ga n kD live) (cc (ga n kD live) cG/\fV (ga n kD live) cG<fV vs H')|e=>K e kD cG) (patch live vs (writes c) bm f) H'
  |_=>False
 | .exit id,_,K,f,H=>K (.exit id) f H
 | .ret,_,K,f,H=>K .ret f H
 |_,_,_,_,_=>False
theorem vS{ops:List Oper}{b3:F->J->Prop}(hk:∀f H,K f H->b3 f H):∀(l:List Oper) (f:F) (H:J),lB P n ops l f H K->lB P n ops l f H b3
 |[],f,H,h=>hk _ _ h
 |o::rest,f,H,h=>by
  unfold lB at h⊢
  split at h
  ·exact qN (λv H' k=>vS hk rest _ _ k) h
  ·rename_i j want kd
   split at h
   ·exact vS hk rest _ _ h
   ·split at h
    ·rename_i c ak
     cases c<;>cases want<;>simp only [aJ,cond_true,cond_false]at h⊢
     ·exact qN (λv H' k=>vS hk rest _ _ k) h
     ·exact vS hk rest _ _ h
     ·exact vS hk rest _ _ h
     ·exact qN (λv H' k=>vS hk rest _ _ k) h
    ·exact vS hk rest _ _ h
theorem U7{ops:List Oper}:∀(l:List Oper) (f:F) (H:J),lB P n ops l f H K->lB P n ops l f H (λbE H'=>K bE H'/\eH (gP l) f bE)
 |[],f,H,h=>⟨h,eH.refl _ _⟩
 |o::rest,f,H,h=>by
  have key:∀(v:Value) (H':J),lB P n ops rest (eB f o.dst v) H' K->lB P n ops rest (eB f o.dst v) H' λbE H'=>K bE H'/\eH (gP (o::rest)) f bE:=by
   intro v H' hk
   exact vS (λbE H' k=>⟨k.1,Bs k.2⟩) rest _ _ (U7 rest _ _ hk)
  unfold lB at h⊢
  split at h
  ·exact qN (λv H' hk=>key v H' hk) h
  ·rename_i j want kd
   split at h
   ·exact key _ _ h
   ·rename_i dy hs
    split at h
    ·rename_i c ak
     have e:=Ie ak
     cases c<;>cases want<;>simp only [aJ,cond_true,cond_false,e]at h⊢
     ·exact qN (λv H' hk=>key v H' hk) h
     ·exact key _ _ h
     ·exact key _ _ h
     ·exact qN (λv H' hk=>key v H' hk) h
    ·exact key _ _ h
theorem U8{ops:List Oper}:∀(l:List Oper) (f:F) (H:J),rT P n l f H K->lB P n ops l f H K
 |[],_,_,h=>h
 |o::rest,f,H,h=>by
  unfold rT at h
  unfold lB
  split at h
  ·rename_i aZ
   rw [aZ]
   exact qN (λv H' k=>U8 rest _ _ (Nu k)) h
  ·exact h.elim
theorem ME{b3:F->J->Prop}(hk:∀f H,K f H->b3 f H):∀(l:List Oper) (f:F) (H:J),rT P n l f H K->rT P n l f H b3
 |[],f,H,h=>hk _ _ h
 |o::rest,f,H,h=>by
  unfold rT at h⊢
  split at h
  ·exact qN (λv H' k=>EL (λv k=>ME hk rest _ _ k) k) h
  ·exact h.elim
theorem U9:∀(l:List Oper) (f:F) (H:J),rT P n l f H K->rT P n l f H (λbE H'=>K bE H'/\eH (gP l) f bE)
 |[],f,H,h=>⟨h,eH.refl _ _⟩
 |o::rest,f,H,h=>by
  have key:∀(v:Value) (H':J),rT P n rest (eB f o.dst v) H' K->rT P n rest (eB f o.dst v) H' λbE H'=>K bE H'/\eH (gP (o::rest)) f bE:=by
   intro v H' hk
   exact ME (λbE H' k=>⟨k.1,Bs k.2⟩) rest _ _ (U9 rest _ _ hk)
  unfold rT at h⊢
  split at h
  ·exact qN (λv H' hk=>EL (λv hk=>key v H' hk) hk) h
  ·exact h.elim
theorem aof{a:hE}{ops:List Oper}(h:vR P n a ops f H K):lB P n ops ops f H K:=by
 unfold vR at h
 split at h
 ·exact U8 _ _ _ h
 ·exact h
theorem aog{a:hE}{ops:List Oper}{b3:F->J->Prop}(hk:∀f H,K f H->b3 f H)(h:vR P n a ops f H K):vR P n a ops f H b3:=by
 unfold vR at h⊢
 split at h
 ·exact ME hk _ _ _ h
 ·exact vS hk _ _ _ h
theorem aoh{a:hE}{ops:List Oper}(h:vR P n a ops f H K):vR P n a ops f H (λbE H'=>K bE H'/\eH (gP ops) f bE):=by
 unfold vR at h⊢
 split at h
 ·exact U9 _ _ _ h
 ·exact U7 _ _ _ h
theorem ng{dD:List Nat->hE}:∀(c:Code) (p:List Nat) {K b3:lC->F->J->Prop} (_hk:∀e f H,K e f H->b3 e f H) (f:F) (H:J),hU P n dD c p K f H->hU P n dD c p b3 f H
 | .skip,_,_,_,hk,_,_,h=>hk _ _ _ h
 | .region _ ops draw,p,K,b3,hk,f,H,h=>by
  unfold hU at h⊢
  cases draw with
  |false=>exact aog (λf H=>hk _ f H) h
  |true=>
   simp only [cond_true]at h⊢
   split at h
   ·exact fY (λh=>fY (λh=>aod (λf H=>hk _ f H) _ _ _ _ _ h) h) h
   ·exact h.elim
 | .seq a b,p,K,b3,hk,f,H,h=>by
  unfold hU at h⊢
  split at h
  ·obtain⟨M,h1,ae⟩:=h
   refine⟨M,ng a _ (λe f H k=> ?_) f H h1,λbm=>uC (λvs h H' hm=>ng b _ hk _ _ (h H' hm)) (ae bm)⟩
   cases e<;>first|exact k|exact hk _ _ _ k
  ·refine ng a _ (λe f H k=> ?_) f H h
   cases e<;>first|exact k.elim|exact hk _ _ _ k
  ·refine ng a _ (λe f H k=> ?_) f H h
   cases e<;>first|exact ng b _ hk _ _ k|exact hk _ _ _ k
 | .cond c a b,p,K,b3,hk,f,H,h=>by
  unfold hU at h⊢
  split at h
  ·exact zg (v' (ng a _ hk _ _)) (v' (ng b _ hk _ _)) h
  ·exact h.elim
 | .block id c,p,K,b3,hk,f,H,h=>by
  unfold hU at h⊢
  refine ng c _ (λe f H k=> ?_) f H h
  cases e with
  |exit i=>
   simp only at k⊢
   cases ah:nP i id<;>rw [ah]at k<;>exact hk _ _ _ k
  |_=>exact hk _ _ _ k
 | .loop c,p,K,b3,hk,f,H,h=>by
  unfold hU at h⊢
  split at h
  ·obtain⟨cc,fV,h1,ae⟩:=h
   refine⟨cc,fV,h1,λbm=>uC (λvs h H' hm=>ng c _ (λe f H k=> ?_) _ _ (h H' hm)) (ae bm)⟩
   cases e<;>first|exact k|exact hk _ _ _ k
  ·exact h.elim
 | .exit _,_,_,_,hk,_,_,h=>hk _ _ _ h
 | .ret,_,_,_,hk,_,_,h=>hk _ _ _ h
 | .rangeFunc ..,_,_,_,_,_,_,h=>h.elim
 | .scope _,_,_,_,_,_,_,h=>h.elim
 | .label _,_,_,_,_,_,_,h=>h.elim
 | .goto _,_,_,_,_,_,_,h=>h.elim
 | .refuse _,_,_,_,_,_,_,h=>h.elim
theorem s0{dD:List Nat->hE}:∀(c:Code) (p:List Nat) {K:lC->F->J->Prop} (f:F) (H:J),hU P n dD c p K f H->hU P n dD c p (λe bE H'=>K e bE H'/\eH (writes c) f bE) f H
 | .skip,_,_,_,_,h=>⟨h,eH.refl _ _⟩
 | .region _ ops draw,p,K,f,H,h=>by
  unfold hU at h⊢
  cases draw with
  |false=>exact aoh h
  |true=>
   simp only [cond_true]at h⊢
   split at h
   ·exact fY (λh=>fY (λh=>aoe _ _ _ _ _ (eH.refl _ _) h) h) h
   ·exact h.elim
 | .seq a b,p,K,f,H,h=>by
  unfold hU at h⊢
  split at h
  ·obtain⟨M,h1,ae⟩:=h
   refine⟨M,ng a _ (λe bE H' k=> ?_) f H (s0 a _ f H h1),λbm=>uC (λvs h H' hm=> ?_) (ae bm)⟩
   ·cases e<;>first|exact k.1|exact⟨k.1,k.2.left _⟩
   ·exact ng b _ (λe bE H' k=>⟨k.1,(zt _ _ _ _ _).trans k.2⟩) _ _ (s0 b _ _ _ (h H' hm))
  ·refine ng a _ (λe bE H' k=> ?_) f H (s0 a _ f H h)
   cases e<;>first|exact k.1.elim|exact⟨k.1,k.2.left _⟩
  ·refine ng a _ (λe bE H' k=> ?_) f H (s0 a _ f H h)
   cases e<;>first|exact ng b _ (λe kD cG k'=>⟨k'.1,k.2.trans k'.2⟩) _ _ (s0 b _ _ _ k.1)|exact⟨k.1,k.2.left _⟩
 | .cond c a b,p,K,f,H,h=>by
  unfold hU at h⊢
  split at h
  ·exact zg (v' λh=>ng a _ (λe bE H' k=>⟨k.1,k.2.left _⟩) _ _ (s0 a _ _ _ h)) (v' λh=>ng b _ (λe bE H' k=>⟨k.1,k.2.right _⟩) _ _ (s0 b _ _ _ h)) h
  ·exact h.elim
 | .block id c,p,K,f,H,h=>by
  unfold hU at h⊢
  refine ng c _ (λe bE H' k=> ?_) f H (s0 c _ f H h)
  cases e with
  |exit i=>
   obtain⟨fe,gq⟩:=k
   simp only at fe⊢
   cases ah:nP i id<;>rw [ah]at fe<;>exact⟨fe,gq⟩
  |_=>exact k
 | .loop c,p,K,f,H,h=>by
  unfold hU at h⊢
  split at h
  ·obtain⟨cc,fV,h1,ae⟩:=h
   refine⟨cc,fV,h1,λbm=>uC (λvs h H' hm=>ng c _ (λe bE H' k=> ?_) _ _ (s0 c _ _ _ (h H' hm))) (ae bm)⟩
   have gq:eH (writes c) f bE:=λi az=>by rw [k.2 i az];exact zt _ _ _ _ _ i az
   cases e<;>first|exact k.1|exact⟨k.1,gq⟩
  ·exact h.elim
 | .exit _,_,_,_,_,h=>⟨h,eH.refl _ _⟩
 | .ret,_,_,_,_,h=>⟨h,eH.refl _ _⟩
 | .rangeFunc ..,_,_,_,_,h=>h.elim
 | .scope _,_,_,_,_,h=>h.elim
 | .label _,_,_,_,_,h=>h.elim
 | .goto _,_,_,_,_,h=>h.elim
 | .refuse _,_,_,_,_,h=>h.elim
theorem U'{ro:Option Nat}{o:Oper}{a:Act}{w:World}{next:Act->World->Prop}{Q:Exit->Act->World->Prop}(aO:∀c,o.op≠.defer c)(h:o.wp P a w next Q):
  o.wpIn (lV ro) 0 P a w next Q:=by
 refine⟨λ_ _=>trivial,?_⟩
 have e:o.semAt (lV ro).round a.eval=execOp a.eval o:=by
  cases ro with
  |none=>exact Oper.semAt_none _ _
  |some l=>exact Oper.semAt_some l _ _ aO
 rw [e]
 unfold Oper.wp at h
 generalize(execOp a.eval o).run P w=r at h
 have Ar:(lV ro).depth.isSome=true->1<=0:=λh=>by simp [lV,Fence.wide]at h
 cases r with
 |ok x w'=>
  cases x<;>simp only [Oper.upon,Oper.uponIn]at h⊢<;>first|exact h|exact h.elim|skip
  case enter f args=>exact⟨Ar,callsIn_wide.2 h⟩
  case row row args=>
   refine⟨Ar,λc cs _=> ?_⟩
   obtain⟨v,HD,r,s⟩:=h c cs
   exact⟨v,HD,r,stepsIn_wide.2 s⟩
 |halt x w'=>cases x<;>simp only [Oper.upon,Oper.uponIn]at h⊢<;>exact h
theorem Va{o:Oper}{K:Value->J->Prop}(h:nj P n f o H K)(c:Call):o.op≠.defer c:=by
 intro e
 unfold nj at h
 rw [e]at h
 exact h
theorem HE{ro:Option Nat}{o:Oper}{K:Value->J->Prop}{next:Act->World->Prop}{Q:Exit->Act->World->Prop}
  (h:rS P n f o H K) (E:Env) (aZ:Bn Df n f o K E next) (d:kb E):o.wpIn (lV ro) 0 P (cu Df n f) (a8 E H d) next Q:=by
 unfold rS at h
 split at h
 ·rename_i g args argTypes an
  rcases h with h|⟨l,aI,h⟩
  ·have h':nj P n f o H K:=by
    unfold nj
    rw [an]
    exact h
   exact U' (Va h') (zr h' E aZ d)
  ·refine⟨λ_ _=>trivial,?_⟩
   have e:o.semAt (lV ro).round (cu Df n f).eval=execOp (cu Df n f).eval o:=by
    cases ro with
    |none=>exact Oper.semAt_none _ _
    |some l=>exact Oper.semAt_some l _ _ (by rw [an];intro c h;cases h)
   rw [e,vX]
   obtain⟨fn,tmps,assign,body,h1,ae⟩:=h E d
   have bN:(execOp (cd n f) o).run P (a8 E H d)=.ok (.round l fn tmps assign body) (a8 E H d):=by
    simp [execOp,an,resolve,Deferred.ofValue,aI,invoke,qV,h1]
   rw [bN,Oper.uponIn_round]
   refine⟨λh=>by simp [lV,Fence.wide]at h,?_⟩
   refine RoundIn.mono (F:=Fence.wide) ae λe w'=> ?_
   rintro⟨v,H',d',rfl,rfl,hk⟩
   obtain⟨u,rfl,hk⟩:=s6 hk
   show next ((cu Df n f).put o.dst v) _
   rw [jz]
   exact aZ v H' d' hk
 ·exact U' (Va h) (zr h E aZ d)
theorem MF{ro:Option Nat}{o:Oper}(aO:∀c,o.op≠.defer c)(hT:Operand->Value):o.semAt (lV ro).round hT=execOp hT o:=by
 cases ro with
 |none=>exact Oper.semAt_none _ _
 |some l=>exact Oper.semAt_some l _ _ aO
section
variable{ro:Option Nat}{P:Program}{ops:Array Oper}{Q:Exit->Act->World->Prop}{S:World->Prop}
theorem _root_.Go.YieldsIf.Vb(iF:∀(i:Nat) (o:Oper),ops[i]?=some o->∀c,o.op≠.defer c){i:Nat}{o:Oper}{v:Value}{a:Act}(az:ops[i]?=some o)(av:YieldsIf P ops S o v a)
  {K:Act->World->Prop} {w:World} (bI:S w) (h:K (a.put o.dst v) w):wpOpIn (lV ro) 0 P ops Q i K a w:=by
 unfold Go.wpOpIn
 simp only [az]
 rcases av with⟨hw,aI⟩|⟨hw,rfl⟩
 ·simp only [hw,if_true,Oper.wpIn]
  refine⟨λ_ _=>trivial,?_⟩
  rw [MF (iF i o az),aI w bI]
  exact h
 ·simp only [hw,Bool.false_eq_true,if_false]
  exact⟨λ_ _=>trivial,h⟩
theorem aoi{j:Nat}{h6 fm:Oper}{v:Value}(LN:∀c,fm.op≠.defer c)(a':ops[j]?=some fm)(JW:h6.apart ops fm=true)
  (aoj:∀cs b,h6.op≠.select cs b) (aok:∀cs b,fm.op≠.select cs b)
  (cg:∀c a w,Q (.panic c) (a.put h6.dst v) w->Q (.panic c) a w) {K:Act->World->Prop} {a:Act} {w:World}
  (av:YieldsIf P ops S h6 v a) (h:wpOpIn (lV ro) 0 P ops Q j K (a.put h6.dst v) w):
  wpOpIn (lV ro) 0 P ops Q j (λaK w'=>YieldsIf P ops S h6 v aK/\K (aK.put h6.dst v) w') a w:=by
 obtain⟨h1,ae,au⟩:=Oper.apart_spec JW
 have ab:∀(a:Act),YieldsIf P ops S h6 v a->∀u,YieldsIf P ops S h6 v (a.put fm.dst u):=λa av u=>
  av.of_same (execOp_put h6 aoj a fm.dst u au) (wanted_put h6 a fm.dst u au)
 have aol:∀d,YieldsIf P ops S h6 v {a with defers:=d::a.defers}:=λd=>av.of_same rfl rfl
 unfold wpOpIn at *
 simp only [a']at *
 rw [wanted_put fm a h6.dst v h1]at h
 split
 ·rename_i hw
  simp only [hw,if_true]at h
  unfold Oper.wpIn at *
  refine⟨λ_ _=>trivial,?_⟩
  have h:=h.2
  rw [MF LN,execOp_put fm aok a h6.dst v h1]at h
  rw [MF LN]
  generalize(execOp a.eval fm).run P w=r at *
  cases r with
  |ok x w'=>
   cases x<;>simp only [Oper.uponIn]at h⊢
   case value u=>exact⟨ab a av u,by rw [<-Act.put_comm a v u ae];exact h⟩
   case skip=>exact⟨ab a av _,by rw [<-Act.put_comm a v undef ae];exact h⟩
   case defer d=>
    refine⟨ab _ (aol d) _,?_⟩
    rw [<-Act.put_comm _ v undef ae,<-Act.put_defers]
    exact h
   case enter f args=>
    refine⟨h.1,CallsIn.mono h.2 λe HD he=> ?_⟩
    cases e with
    |returned u=>exact⟨ab a av u,by rw [<-Act.put_comm a v u ae];exact he⟩
    |panicked c=>exact cg _ _ _ he
    |outgrown=>exact he
   case row row args=>exact⟨h.1,RowsIn.mono h.2 λu HD he=>⟨ab a av u,by rw [<-Act.put_comm a v u ae];exact he⟩⟩
   case round l f tmps assign body=>
    refine⟨h.1,RoundIn.mono h.2 λe HD he=> ?_⟩
    cases e with
    |returned u=>exact⟨ab a av u,by rw [<-Act.put_comm a v u ae];exact he⟩
    |panicked c=>exact cg _ _ _ he
    |outgrown=>exact he
  |halt x w'=>
   cases x<;>simp only [Oper.uponIn]at h⊢
   case panic u=>exact cg _ _ _ h
 ·rename_i hw
  simp only [hw]at h
  exact⟨λ_ _=>trivial,ab a av _,by rw [<-Act.put_comm a v undef ae];exact h.2⟩
end
section
variable{ro:Option Nat}{P:Program}{ops:Array Oper}{Q:Exit->Act->World->Prop}{md:Region.Mode}
def uy(ro:Option Nat)(P:Program)(md:Region.Mode)(ops:Array Oper)(Q:Exit->Act->World->Prop)(bef:Nat->Nat):Nat->Array Bool->oM->Act->World->Prop
 |0,listed,_,a,w=>Region.ready md ops listed=[]/\Q .normal a w
 |fuel+1,listed,D,a,w=>
  (Region.ready md ops listed=[]->Q .normal a w)∧
  ∀i∈Region.ready md ops listed,wpOpIn (lV ro) 0 P ops Q i (λaK w'=>wg (jg bef i D) w'/\uy ro P md ops Q bef fuel (listed.setIfInBounds i true) (jg bef i D) aK w') a w
variable{bef:Nat->Nat}
theorem Vc:∀(fuel:Nat) (listed:Array Bool) (D:oM) (a:Act) (w:World),uy ro P md ops Q bef fuel listed D a w->wpAnyIn (lV ro) 0 P md ops Q fuel listed a w
 |0,_,_,_,_,h=>h
 |fuel+1,_,_,_,_,h=>⟨h.1,λi az=>wpOpIn_mono (λaK w' h'=>Vc fuel _ _ aK w' h'.2) (h.2 i az)⟩
theorem Vd:∀(fuel:Nat) (listed:Array Bool) (D wh:oM) (a:Act) (w:World),(∀x∈wh,x∈D)->uy ro P md ops Q bef fuel listed D a w->uy ro P md ops Q bef fuel listed wh a w
 |0,_,_,_,_,_,_,h=>h
 |fuel+1,_,_,_,_,_,hs,h=>⟨h.1,λi az=>wpOpIn_mono (λaK w' h'=>⟨λx aa=>h'.1 x (EU hs x aa),Vd fuel _ _ _ aK w' (EU hs) h'.2⟩) (h.2 i az)⟩
theorem MG{k:Nat}:∀(fuel:Nat) (listed:Array Bool) (D:oM) (a:Act) (w:World),uy ro P md ops Q bef fuel listed D a w->uy ro P md ops Q bef fuel listed ((k,λ_=>True)::D) a w
 |0,_,_,_,_,h=>h
 |fuel+1,_,D,_,_,h=>⟨h.1,λi az=>wpOpIn_mono (λaK w' h'=>by
   have e:jg bef i ((k,λ_=>True)::D)=if gi (bef i) k=true then jg bef i D else(k,λ_=>True)::jg bef i D:=by
    unfold jg
    rw [MX]
    cases gi (bef i) k<;>simp
   rw [e]
   split
   ·exact h'
   ·refine⟨λx aa=> ?_,MG fuel _ _ aK w' h'.2⟩
    rcases o3.1 aa with rfl|aa
    ·trivial
    ·exact h'.1 x aa) (h.2 i az)⟩
theorem Ve(iF:∀(i:Nat) (o:Oper),ops[i]?=some o->∀c,o.op≠.defer c){i:Nat}{h6:Oper}{v:Value}{S:World->Prop}(az:ops[i]?=some h6)(oN:∀(j:Nat) (o:Oper) cs b,ops[j]?=some o->o.op≠.select cs b)
  (cg:∀c a w,Q (.panic c) (a.put h6.dst v) w->Q (.panic c) a w) (ah:Bp md ops bef):
  ∀(fuel:Nat) (listed:Array Bool) (D:oM) (a:Act) (w:World),
   (∀j fm,ops[j]?=some fm->j≠i->listed.getD j true=false->(∀e∈fm.after,Region.binds md e=true->e.on≠i)->h6.apart ops fm=true)→
   qj bef listed->i∈Region.ready md ops listed->YieldsIf P ops S h6 v a->S w->wg D w→
   uy ro P md ops Q bef fuel (listed.setIfInBounds i true) ((i,S)::D) (a.put h6.dst v) w->uy ro P md ops Q bef (fuel+1) listed D a w:=by
 intro fuel
 induction fuel with
 |zero=>
  intro listed D a w _ _ aA av bI dz H
  refine⟨λh=>(by rw [h]at aA;cases aA),λj a'=> ?_⟩
  by_cases nn:j=i
  ·subst nn;exact av.Vb iF az bI ⟨λx aa=>dz x (VD.1 aa).1,H⟩
  ·have:=ready_mono a' nn
   rw [H.1]at this
   cases this
 |succ fuel ih=>
  intro listed D a w xS kU aA av bI dz H
  refine⟨λh=>(by rw [h]at aA;cases aA),λj a'=> ?_⟩
  by_cases nn:j=i
  ·subst nn
   exact av.Vb iF az bI ⟨λx aa=>dz x (VD.1 aa).1,Vd _ _ _ _ _ _ (λx aa=>MY _ (VD.1 aa).1) H⟩
  ·have h1:=H.2 j (ready_mono a' nn)
   obtain⟨Bq,fm,td,dG⟩:=mem_ready.1 a'
   have xT:=(mem_ready.1 aA).1
   have kV:listed.getD i false=false:=by
    rcases Nat.lt_or_ge i listed.size with h'|h'
    ·simp [h']at xT⊢;exact xT
    ·simp [Array.getElem?_eq_none h']at xT
   have Br:∀e∈fm.after,Region.binds md e=true->e.on≠i:=λe he ah heq=>by
    have h1:=dG e he ah
    rw [heq,kV]at h1
    cases h1
   have uK:gi (bef j) i=false:=by
    cases hq:gi (bef j) i with
    |false=>rfl
    |true=>have:=kU.ready ah a' hq;rw [kV]at this;cases this
   have iU:jg bef j ((i,S)::D)=(i,S)::jg bef j D:=by
    unfold jg
    rw [MX,uK]
    rfl
   rw [iU]at h1
   have ae:=aoi (iF j fm td) td (xS j fm td nn Bq Br) (λcs b=>oN i h6 cs b az) (λcs b=>oN j fm cs b td) cg av h1
   have Ib:∀k ok,ops[k]?=some ok->k≠i->(listed.setIfInBounds j true).getD k true=false→
     (∀e∈ok.after,Region.binds md e=true->e.on≠i)->h6.apart ops ok=true:=λk ok hk rX wi cz=>by
    refine xS k ok hk rX ?_ cz
    by_cases qk:j=k
    ·subst qk;exact Bq
    ·rw [getD_set_ne true qk]at wi;exact wi
   refine wpOpIn_mono (λaK w' au=>⟨λx aa=>au.2.1 x (MY _ aa),ih (listed.setIfInBounds j true) _ aK w' Ib (kU.set ah a') (ready_mono aA (Ne.symm nn)) au.1 (au.2.1 (i,S) (ad5 ..)) (λx aa=>au.2.1 x (MY _ aa)) ?_⟩) ae
   rw [Array.setIfInBounds_comm _ _ nn]
   exact au.2.2
end
theorem aom{ro:Option Nat}{ops:List Oper}{bef:List Nat}{E:Env}{Q:Act->World->Prop}(cg:∀f H d,K f H->Q (cu Df n f) (a8 E H d))(ah:Bh ops bef=true)(oN:Region.noSelect ops.toArray=true)(iF:∀(i:Nat) (o:Oper),ops.toArray[i]?=some o->∀c,o.op≠.defer c):
  ∀(s:eY),(∀(m:Nat) (D:kC) (listed:Array Bool) (fuel:Nat) (f:F) (H:J) (d:kb E),h4 P n ops bef K s m D f H->s.xP=true->Told ops m listed->qj (kW bef) listed->s.depth<=fuel->(∀x∈D,x.2 H)→
    uy ro P .any ops.toArray (λe a w=>e=.normal/\Q a w) (kW bef) fuel listed (oO D) (cu Df n f) (a8 E H d))∧
   (∀(m:Nat) (D:kC) (listed:Array Bool) (fuel:Nat) (f:F) (H:J) (d:kb E),h4 P n ops bef K s m D f H->Told ops m listed->qj (kW bef) listed->s.depth<=fuel+1->(∀x∈D,x.2 H)→
    ∀i∈s.alts,i∈Region.ready .any ops.toArray listed->wpOpIn (lV ro) 0 P ops.toArray (λe a w=>e=.normal/\Q a w) i
     (λaK w'=>wg (jg (kW bef) i (oO D)) w'/\uy ro P .any ops.toArray (λe a w=>e=.normal/\Q a w) (kW bef) fuel (listed.setIfInBounds i true) (jg (kW bef) i (oO D)) aK w') (cu Df n f) (a8 E H d)):=by
 have bK:=NU ah
 intro s
 induction s with
 |done=>
  refine⟨λm D listed fuel f H d h _ bf ak _ dz=> ?_,λm D listed fuel f H d h bf ak _ dz i az=>by simp [eY.alts]at az⟩
  unfold h4 at h
  obtain⟨aA,h⟩:=nV h
  have qm:Region.ready .any ops.toArray listed=[]:=by
   cases aH:Region.ready .any ops.toArray listed with
   |nil=>rfl
   |cons x l=>have:=EX bf aA x (by rw [aH];simp);simp at this
  cases fuel with
  |zero=>exact⟨qm,rfl,cg _ _ _ h⟩
  |succ fuel=>exact⟨λ_=>⟨rfl,cg _ _ _ h⟩,by rw [qm];simp⟩
 |quiet i s ih=>
  refine⟨λm D listed fuel f H d h _ bf ak ke dz=> ?_,λm D listed fuel f H d h bf ak _ dz i az=>by simp [eY.alts]at az⟩
  unfold h4 at h
  split at h
  ·exact h.elim
  ·rename_i o az
   obtain⟨a1,h⟩:=nV h
   simp only [EI,oJ]at a1
   obtain⟨⟨a1,eg⟩,np⟩:=a1
   have l2:i<ops.length:=(qb.1 az).1
   have aA:=NO bf az a1
   cases fuel with
   |zero=>simp [eY.depth]at ke
   |succ fuel=>
    have xU:s.depth<=fuel:=by simp [eY.depth]at ke;exact ke
    have mG:ops.toArray[i]?=some o:=by simpa using az
    have qn:=ak.set bK aA
    rcases ET h with⟨hw,h⟩|⟨hw,h⟩
    ·obtain⟨v,hk,af,wm⟩:=H6 h
     have av:YieldsIf P ops.toArray (λw=>hc (gn P n f o v) w.heap) o v (cu Df n f):=.inl ⟨hw,λw hw=>by rw [vX];exact wm w hw⟩
     refine Ve iF mG (Region.noSelect_spec oN) (λc a w bh=>by cases bh.1) bK fuel listed (oO D) (cu Df n f) (a8 E H d) (EY bf a1) ak aA av af (wk.2 dz) ?_
     rw [jz]
     cases cn:gn P n f o v with
     |none=>
      rw [cn]at hk
      exact MG _ _ _ _ _ (ih.1 _ _ _ _ _ _ d hk np (bf.set l2) qn xU dz)
     |some F=>
      rw [cn]at hk af
      refine ih.1 _ _ _ _ _ _ d hk np (bf.set l2) qn xU λx aa=> ?_
      rcases o3.1 aa with rfl|aa
      ·exact af
      ·exact dz x aa
    ·have av:YieldsIf P ops.toArray (λ_=>True) o undef (cu Df n f):=.inr ⟨hw,rfl⟩
     refine Ve iF mG (Region.noSelect_spec oN) (λc a w bh=>by cases bh.1) bK fuel listed (oO D) (cu Df n f) (a8 E H d) (EY bf a1) ak aA av trivial (wk.2 dz) ?_
     rw [jz]
     exact MG _ _ _ _ _ (ih.1 _ _ _ _ _ _ d h np (bf.set l2) qn xU dz)
 |pick s ih=>
  refine⟨λm D listed fuel f H d h _ bf ak ke dz=> ?_,λm D listed fuel f H d h bf ak _ dz i az=>by simp [eY.alts]at az⟩
  unfold h4 at h
  obtain⟨aA,h⟩:=nV h
  simp only [EJ,oJ]at aA
  obtain⟨aA,bQ⟩:=aA
  have cH:Region.ready .any ops.toArray listed≠[]:=by
   cases pA:s.alts with
   |nil=>rw [pA]at bQ;cases bQ
   |cons i l=>
    rw [pA]at bQ
    simp only [Bg]at bQ
    split at bQ
    ·rename_i o an
     simp only [oJ,Bool.not_eq_true']at bQ
     intro qm
     have l2:i<ops.length:=(qb.1 an).1
     have:i∈Region.ready .any ops.toArray listed:=by
      refine mem_ready.2 ⟨by rw [bf.getD l2];exact bQ.1,o,by simpa using an,λe he uK=> ?_⟩
      have h1:=bQ.2
      unfold v8 at h1
      rw [List.all_eq_true]at h1
      have:=h1 e (by simpa using he)
      rw [uK]at this
      have ql:gi m e.on=true:=by simpa using this
      rw [bf.getD (bf.lt _ ql)]
      exact ql
     rw [qm]at this
     cases this
    ·cases bQ
  have jA:s.depth<=fuel:=ke
  cases fuel with
  |zero=>
   exfalso
   cases s with
   |alt i s r=>
    simp only [eY.depth]at jA
    cases hq:pt (s.depth+1) r.depth with
    |true=>rw [hq]at jA;have:=MW hq;simp only [cond_true]at jA;omega
    |false=>rw [hq]at jA;simp only [cond_false]at jA;omega
   |_=>simp [eY.alts,Bg]at bQ
  |succ fuel=>
   refine⟨λaD=>absurd aD cH,λi az=> ?_⟩
   exact ih.2 m D listed fuel f H d h bf ak jA dz i (EX bf aA i az) az
 |alt i s r ih r1=>
  refine⟨λm D listed fuel f H d h hm=>by simp [eY.xP]at hm,λm D listed fuel f H d h bf ak ke dz k hk Bt=> ?_⟩
  unfold h4 at h
  split at h
  ·exact h.elim
  ·rename_i o az
   obtain⟨np,h⟩:=nV h
   have jA:s.depth<=fuel/\r.depth<=fuel+1:=by
    simp only [eY.depth]at ke
    cases hq:pt (s.depth+1) r.depth with
    |true=>rw [hq]at ke;have:=MW hq;simp only [cond_true]at ke;omega
    |false=>
     rw [hq]at ke
     simp only [cond_false]at ke
     have:¬s.depth+1<=r.depth:=λhle=>by rw [Nat.ble_eq_true_of_le hle]at hq;cases hq
     omega
   have here:guarded ops n o f
     (λf=>rS P n f o H λv H'=>ta (gO bef i D) H' (h4 P n ops bef K s (lY m i) (gO bef i D) (eB f o.dst v) H'))
     (λf=>h4 P n ops bef K s (lY m i) (gO bef i D) (eB f o.dst undef) H)/\(k≠i->h4 P n ops bef K r m D f H/\r.qS=false):=by
    cases hrs:r.qS with
    |true=>
     rw [hrs]at h
     refine⟨h,λcH=> ?_⟩
     exfalso
     cases r<;>simp [eY.qS]at hrs
     simp [eY.alts]at hk
     exact cH hk
    |false=>rw [hrs]at h;exact⟨h.1,λ_=>⟨h.2,rfl⟩⟩
   by_cases rX:k=i
   ·subst rX
    have l2:k<ops.length:=(qb.1 az).1
    have qn:=ak.set bK Bt
    rw [Ij]
    unfold wpOpIn
    have mG:ops.toArray[k]?=some o:=by simpa using az
    simp only [mG]
    have Bu:∀x∈gO bef k D,x∈D:=by
     have aux:∀D:kC,∀x∈gO bef k D,x∈D:=by
      intro D
      induction D with
      |nil=>intro x aa;simp [gO]at aa
      |cons y D Bv=>
       obtain⟨Ik,WB⟩:=y
       intro x aa
       simp only [gO]at aa
       cases hq:gi (bef.getD k 0) Ik with
       |true=>rw [hq]at aa;exact MY _ (Bv x aa)
       |false=>
        rw [hq]at aa
        rcases o3.1 aa with rfl|aa
        ·exact ad5 ..
        ·exact MY _ (Bv x aa)
     exact aux D
    rcases ET here.1 with⟨hw,h⟩|⟨hw,h⟩
    ·rw [if_pos hw]
     refine HE h E (λv H' d' dG=> ?_) d
     obtain⟨h1,ae⟩:=E1 dG
     exact⟨wk.2 h1,ih.1 _ _ _ _ _ _ d' ae np (bf.set l2) qn jA.1 h1⟩
    ·rw [if_neg (by rw [hw];simp),jz]
     exact⟨λ_ _=>trivial,wk.2 λx aa=>dz x (Bu x aa),ih.1 _ _ _ _ _ _ d h np (bf.set l2) qn jA.1 λx aa=>dz x (Bu x aa)⟩
   ·obtain⟨ae,_⟩:=here.2 rX
    have cA:k∈r.alts:=by
     simp only [eY.alts,o3]at hk
     rcases hk with h|h
     ·exact absurd h rX
     ·exact h
    exact r1.2 m D listed fuel f H d ae bf ak jA.2 dz k cA Bt
 |stop=>exact⟨λm D listed fuel f H d h=>h.elim,λm D listed fuel f H d h=>h.elim⟩
theorem aon{ro:Option Nat}{ops:List Oper}{bef:List Nat}{s:eY}{E:Env}{Q:Exit->Act->World->Prop}{id:Nat}(hm:P.follows .mixedOrders=true)(cg:∀f H d,K f H->Q .normal (cu Df n f) (a8 E H d))
  (bK:zn ops bef s=true) (aoo:Ej ops=true) (h:h4 P n ops bef K s 0 [] f H) (d:kb E):(Code.region id ops.toArray true).wpIn (lV ro) 0 P Q (cu Df n f) (a8 E H d):=by
 simp only [zn,oJ]at bK
 obtain⟨⟨⟨ah,oN⟩,jA⟩,np⟩:=bK
 refine Code.wpIn_mono (Q:=λe a w=>e=.normal/\Q .normal a w) (λe a w a1=>by obtain⟨rfl,a1⟩:=a1;exact a1) ?_
 have dc:Told ops 0 (apR ops.toArray.size false):=by
  refine⟨by simp,λi az=> ?_,λi az=>by simp [qT]at az⟩
  have:i<ops.toArray.size:=by simpa using az
  simp [qT,az]
 have cL:qj (kW bef) (apR ops.toArray.size false):=by
  intro x aa
  rw [Array.getD_eq_getD_getElem?,Array.getElem?_replicate]at aa
  split at aa<;>simp at aa
 exact wpIn_region_any hm (Vc (bef:=kW bef) _ _ [] _ _
  ((aom (Q:=λa w=>Q .normal a w) cg ah oN (λi o h c=>U6 aoo i o (by simpa using h) c) s).1 0 [] _ ops.toArray.size f H (up d) h np dc cL (by simpa using MW jA) (by simp)))
theorem xx{ro:Option Nat}{ops:List Oper}{Q:Exit->Act->World->Prop}
  {E:Env} (cg:∀f H d,K f H->Q .normal (cu Df n f) (a8 E H d)):∀(l:List Oper) (f:F) (H:J),lB P n ops l f H K->∀d,wpListIn (lV ro) 0 P ops.toArray Q l (cu Df n f) (a8 E H d)
 |[],f,H,h,d=>cg f H d h
 |o::rest,f,H,h,d=>by
  unfold lB at h
  unfold wpListIn
  split at h
  ·rename_i kd
   rw [if_pos (EP kd)]
   exact HE h E (λv H' d' hk=>xx cg rest _ _ hk d') d
  ·rename_i j want kd
   split at h
   ·rename_i hs
    rw [if_neg (by rw [we kd (.inl hs)];simp),jz]
    exact⟨λ_ _=>trivial,xx cg rest _ _ h d⟩
   ·rename_i dy hs
    split at h
    ·rename_i c ak
     have bc:cu Df n (fc f dy (.bool c))=cu Df n f:=H8 ak
     have hw:=ER (Df:=Df) kd hs ak
     have ES:cd n (fc f dy (.bool c)) (.tmp dy)=.bool c:=by
      have:=uz (Df:=Df) n (fc f dy (.bool c)) (.tmp dy)
      rw [bc,uz]at this
      rw [<-this];exact ak
     cases c<;>cases want<;>simp only [aJ,cond_true,cond_false]at h
     ·rw [if_pos (by rw [hw];rfl),<-bc]
      exact HE h E (λv H' d' hk=>xx cg rest _ _ hk d') d
     ·rw [if_neg (by rw [hw];simp),<-bc,jz]
      exact⟨λ_ _=>trivial,xx cg rest _ _ h d⟩
     ·rw [if_neg (by rw [hw];simp),<-bc,jz]
      exact⟨λ_ _=>trivial,xx cg rest _ _ h d⟩
     ·rw [if_pos (by rw [hw];rfl),<-bc]
      exact HE h E (λv H' d' hk=>xx cg rest _ _ hk d') d
    ·rename_i ak
     rw [if_neg (by rw [we kd (.inr ⟨dy,hs,ak⟩)];simp),jz]
     exact⟨λ_ _=>trivial,xx cg rest _ _ h d⟩
theorem rU{ro:Option Nat}{dD:List Nat->hE}(hm:P.follows .mixedOrders=true){E:Env}:∀(c:Code) (p:List Nat) {K:lC->F->J->Prop} {Q:Exit->Act->World->Prop}
  (_hQ:∀e f H d,K e f H->Q (lC.zo e) (cu Df n f) (a8 E H d)) (f:F) (H:J),hU P n dD c p K f H->∀d,c.wpIn (lV ro) 0 P Q (cu Df n f) (a8 E H d)
 | .skip,_,_,_,cg,f,H,h,d=>wpIn_skip (cg .normal f H d h)
 | .region id ops draw,p,K,Q,cg,f,H,h,d=>by
  unfold hU at h
  cases draw with
  |false=>
   refine wpIn_region_list ?_
   have:=xx (ro:=ro) (Q:=Q) (λf H d k=>cg .normal f H d k) ops.toList f H (aof h) d
   simpa using this
  |true=>
   simp only [cond_true]at h
   split at h
   ·obtain⟨bK,h⟩:=nV h
    obtain⟨e1,h⟩:=nV h
    have e:Code.region id ops true=Code.region id ops.toList.toArray true:=by simp
    rw [e]
    exact aon hm (λf H d k=>cg .normal f H d k) bK e1 h d
   ·exact h.elim
 | .seq a b,p,K,Q,cg,f,H,h,d=>by
  unfold hU at h
  refine wpIn_seq ?_
  split at h
  ·rename_i live _
   obtain⟨M,h1,ae⟩:=h
   refine rU (ro:=ro) hm a _ (λe bE H' d' k=> ?_) f H (s0 a _ f H h1) d
   obtain⟨fe,gq⟩:=k
   cases e with
   |normal=>
    obtain⟨au,a6⟩:=xH fe (ae bE)
    have:=rU (ro:=ro) hm b _ cg _ _ (au H' a6) d'
    rw [E3 gq]at this
    exact this
   |_=>exact cg _ _ _ _ fe
  ·refine rU (ro:=ro) hm a _ (λe bE H' d' k=> ?_) f H h d
   cases e with
   |normal=>exact k.elim
   |_=>exact cg _ _ _ _ k
  ·refine rU (ro:=ro) hm a _ (λe bE H' d' k=> ?_) f H h d
   cases e with
   |normal=>exact rU (ro:=ro) hm b _ cg _ _ k d'
   |_=>exact cg _ _ _ _ k
 | .cond c a b,p,K,Q,cg,f,H,h,d=>by
  unfold hU at h
  split at h
  ·rename_i c ak
   refine wpIn_cond (t:=c) (by rw [uz];exact ak) ?_
   cases c
   ·exact rU (ro:=ro) hm b _ cg _ _ (EK h) d
   ·exact rU (ro:=ro) hm a _ cg _ _ (EK h) d
  ·exact h.elim
 | .block id c,p,K,Q,cg,f,H,h,d=>by
  unfold hU at h
  refine wpIn_block (rU (ro:=ro) hm c _ (λe bE H' d' k=> ?_) f H h d)
  cases e with
  |exit i=>
   simp only [lC.zo,Exit.inBlock]
   cases ah:nP i id with
   |true=>
    rw [if_pos (oK ah)]
    simp only [ah,cond_true]at k
    exact cg .normal _ _ _ k
   |false=>
    rw [if_neg (λe=>by subst e;simp at ah)]
    simp only [ah,cond_false]at k
    exact cg (.exit i) _ _ _ k
  |normal=>exact cg .normal _ _ _ k
  |ret=>exact cg .ret _ _ _ k
 | .loop c,p,K,Q,cg,f,H,h,d=>by
  unfold hU at h
  split at h
  ·rename_i live _
   obtain⟨cc,fV,h1,ae⟩:=h
   refine wpIn_loop (λa w=>∃bE H' d',a=cu Df n bE/\w=a8 E H' d'/\eH (writes c) f bE/\nU (mB live) (ga n bE live) (cc (ga n bE live) H'))
    (λa w=>fV (ga n (λi=>a.tmps.getD i undef) live) w.heap) ⟨f,H,d,rfl,rfl,eH.refl _ _,h1⟩ ?_
   rintro a w ⟨bE,H',d',rfl,rfl,Bw,eI⟩
   obtain⟨au,a6⟩:=xH eI (ae bE)
   have bu:=s0 c _ _ _ (au H' a6)
   have ca:=rU (ro:=ro) (E:=E) hm c (0::p) (Q:=Exit.then (λaK w'=>(∃bE H' d',aK=cu Df n bE/\w'=a8 E H' d'/\eH (writes c) f bE/\nU (mB live) (ga n bE live) (cc (ga n bE live) H'))∧
     fV (ga n (λi=>aK.tmps.getD i undef) live) w'.heap<fV (ga n (λi=>(cu Df n bE).tmps.getD i undef) live) (a8 E H' d').heap) Q) (λe kD cG r3 k=> ?_) _ _ bu d'
   ·rw [E3 Bw]at ca
    exact ca
   ·obtain⟨fe,gq⟩:=k
    have aI:∀g:F,ga n (λi=>(cu Df n g).tmps.getD i undef) live=ga n g live:=λg=>NW n g live
    cases e with
    |normal=>
     refine⟨⟨kD,cG,r3,rfl,rfl,λi az=> ?_,HU (λk=>k.1) fe⟩,?_⟩
     ·rw [gq i az];exact zt _ _ _ _ _ i az
     ·rw [aI,aI]
      have key:∀(l:List iA) (vs:List Value) (X:Prop),nU l vs X->X:=λl vs X h=>by
       have:pw l λ_=>True:=by
        have aux:∀(l:List iA) (K:List Value->Prop),(∀vs,K vs)->pw l K:=by
         intro l
         induction l with
         |nil=>intro K cP;exact cP _
         |cons s l ih=>
          intro K cP
          have Bx:∀(b:B) (G:Value->Prop),(∀v,G v)->qd b G:=by
           intro b G b4;cases b<;>simp only [qd]<;>intros<;>exact b4 _
          have Il:∀(dj:List B) (G:List Value->Prop),(∀vs,G vs)->vZ dj G:=by
           intro dj
           induction dj with
           |nil=>intro G b4;exact b4 _
           |cons b dj Im=>intro G b4;exact Bx b _ λv=>Im _ λvs=>b4 _
          cases s with
          |one b=>exact Bx b _ λv=>ih _ λvs=>cP _
          |agg dj=>exact Il dj _ λv=>ih _ λvs=>cP _
        exact aux l _ λ_=>trivial
       exact(xH h this).2
      exact(key _ _ _ fe).2
    |exit i=>exact cg (.exit i) _ _ _ fe
    |ret=>exact cg .ret _ _ _ fe
  ·exact h.elim
 | .exit id,_,_,_,cg,f,H,h,d=>wpIn_exit (cg (.exit id) f H d h)
 | .ret,_,_,_,cg,f,H,h,d=>wpIn_ret (cg .ret f H d h)
 | .rangeFunc ..,_,_,_,_,_,_,h,_=>h.elim
 | .scope _,_,_,_,_,_,_,h,_=>h.elim
 | .label _,_,_,_,_,_,_,h,_=>h.elim
 | .goto _,_,_,_,_,_,_,h,_=>h.elim
 | .refuse _,_,_,_,_,_,_,h,_=>h.elim
theorem HF{k:FuncId}{fn:Func}{c:Code}{args:List Value}{rs:List ResultVar}{R:Value->J->Prop}(dD:List Nat->hE)(hm:P.follows .mixedOrders=true)
  (af:P.funcs[k]?=some fn) (ah:fn.body=some c) (ay:fn.ntmps=n) (aA:fn.results.toList=rs) (hle:pt args.length n=true)
  (h:hU P n dD c [] (zp P n rs R) (qh args) H):aY P k args.toArray H R:=by
 intro E d
 refine calls_of_wp af ah ?_
 rw [E6 ay hle]
 refine(wpIn_wide (n:=0)).1 ?_
 refine rU (ro:=none) hm c [] (λe f H' d' k=> ?_) _ H h d
 have fin:nk P n f H' rs (λvs=>R (gD vs) H')->∃v,(results fn (cu [] n f).tmps).run P (a8 E H' d')=.ok v (a8 E H' d')/\∃gr cG r3,Ending.returned v=.returned gr/\a8 E H' d'=a8 E cG r3/\R gr cG:=λh=>by
  obtain⟨v,h1,ae⟩:=E7 (Df:=[]) (fn:=fn) (d':=d') (X:=λv=>R v H') aA h
  exact⟨v,h1,v,H',d',rfl,rfl,ae⟩
 cases e with
 |normal=>exact⟨rfl,fin k⟩
 |ret=>exact⟨rfl,fin k⟩
 |exit i=>exact k.elim
def fa(H:J)(l:Nat)(bM:Loop)(st:LoopState)(j:Option Code):Prop:=H[l]?=some (.loop {bM with state:=st,pending:=j})
def dR(H:J)(l:Nat)(bM:Loop)(st:LoopState)(j:Option Code):J:=H.setIfInBounds l (.loop {bM with state:=st,pending:=j})
def lU(H:J)(D:Nat):Prop:=H[D]?=some (.deferred (some []))
def mx(H:J)(D:Nat):J:=H.setIfInBounds D (.deferred none)
def vT(H:J)(D l:Nat)(bM:Loop)(H':J):Prop:=D=H.size/\l=H.size+1/\H'=(H.push (.deferred (some []))).push (.loop {bM with state:=.ready,pending:=none})
def AX:List Nat->List Value->F->F
 |p::ps,v::vs,f=>AX ps vs (fc f p v)
 |_,_,f=>f
def slotsOf:Live->List Nat
 |[]=>[]
 |s::l=>s.1::slotsOf l
theorem Vf{b:B}{K:Value->Prop}(h:∀v,K v):qd b K:=by cases b<;>simp only [qd]<;>intros<;>exact h _
theorem Vg:∀{l:List B} {K:List Value->Prop},(∀vs,K vs)->vZ l K
 |[],_,h=>h _
 |_::_,_,h=>Vf λv=>Vg λvs=>h _
theorem MH:∀{l:List iA} {K:List Value->Prop},(∀vs:List Value,vs.length=l.length->K vs)->pw l K
 |[],_,h=>h _ rfl
 | .one b::l,_,h=>Vf λv=>MH λvs e=>h _ (by simp [e])
 | .agg b::l,_,h=>Vg λv=>MH λvs e=>h _ (by simp [e])
theorem aop(l:Live):(mB l).length=l.length:=by
 induction l with
 |nil=>rfl
 |cons s l ih=>simp [mB,ih]
theorem aoq(l:Live):(slotsOf l).length=l.length:=by
 induction l with
 |nil=>rfl
 |cons s l ih=>simp [slotsOf,ih]
theorem Vh:∀{a b:List Nat},Bj a b=true->a=b
 |[],[],_=>rfl
 |[],_::_,h=>by cases h
 |_::_,[],h=>by cases h
 |x::a,y::b,h=>by
  unfold Bj at h
  cases e:nP x y with
  |true=>rw [e]at h;rw [oK e,Vh h]
  |false=>rw [e]at h;cases h
theorem aor{Df:List Deferred}(n:Nat)(f:F)(d:Nat)(v:Value):(cu Df n f).tmps.setIfInBounds d v=(cu Df n (fc f d v)).tmps:=by
 have:=jz (Df:=Df) n f (some d) v
 exact congrArg Act.tmps this
theorem Vi{Df:List Deferred}(n:Nat):∀(ps:List Nat) (vs:List Value) (f:F),(ps.zip vs).foldl (λtmps (t,a)=>tmps.setIfInBounds t a) (cu Df n f).tmps=(cu Df n (AX ps vs f)).tmps
 |[],_,_=>rfl
 |_::_,[],_=>rfl
 |p::ps,v::vs,f=>by
  simp only [List.zip_cons_cons,List.foldl_cons,AX]
  rw [aor]
  exact Vi n ps vs _
def Vj(P:Program)(n:Nat)(dD:List Nat->hE)(p:List Nat)(l:Nat)(bM:Loop)(assign body:Code)(ju:Value->J->Prop)(f:F)(H:J):Prop:=
 hU P n dD assign (0::p) (λe f1 H1=>match e with
  | .normal=>fa H1 l bM .ready none/\hU P n dD body (1::p) (λe f3 aF=>match e with
    | .normal=>fa aF l bM .busy none/\ju (.bool true) (dR aF l bM .ready none)
    | .ret=>fa aF l bM .busy none/\ju (.bool false) (dR aF l bM .done (some .ret))
    | .exit i=>fa aF l bM .busy none/\ju (.bool false) (dR aF l bM .done (some (.exit i)))) f1 (dR H1 l bM .busy none)
  |_=>False) f H
def xy:Code->Bool
 | .seq a b=>xy a||xy b
 | .cond _ a b=>xy a||xy b
 | .block _ c=>xy c
 | .loop c=>xy c
 | .rangeFunc .. =>true
 |_=>false
def xz(P:Program)(n:Nat)(dD:List Nat->hE):Code->List Nat->(lC->Option Nat->F->J->Prop)->F->J->Prop
 | .seq a b,p,K,f,H=>
  bif xy a then xz P n dD a (0::p) (λe ha bE H'=>match e with| .normal=>gQ P n dD b (1::p) (λe kD cG=>K e ha kD cG) bE H'|e=>K e ha bE H') f H
  else gQ P n dD a (0::p) (λe bE H'=>match e with| .normal=>xz P n dD b (1::p) K bE H'|e=>K e none bE H') f H
 | .block id c,p,K,f,H=>xz P n dD c (0::p) (λe ha bE H'=>match e with| .exit i=>(bif nP i id then K .normal ha bE H' else K (.exit i) ha bE H')|e=>K e ha bE H') f H
 | .rangeFunc g ps assign body,p,K,f,H=>
  match dD p with
  | .cut live=>da (Bj (slotsOf live) ps.toList)<|∀(D l:Nat) (bM:Loop) (H1:J),vT H D l bM H1→
    (pw (mB live) λvs=>∀(ao:J) (ju:Value->J->Prop),fa ao l bM .ready none->Vj P n dD p l bM assign body ju (AX (slotsOf live) vs f) ao->rR P l vs ao ju)→
    dO P (cd n f g) [.func (.yield l) #[] #[]] H1 λ_ aN=>
     (fa aN l bM .ready none/\K .normal (some D) f (dR aN l bM .exhausted none))∨
     (fa aN l bM .done (some .ret)/\K .ret (some D) f (dR aN l bM .exhausted (some .ret)))
  |_=>False
 |_,_,_,_,_=>False
def AY:Option Nat->List Deferred
 |none=>[]
 |some D=>[{target:=.collected D,args:= #[]}]
def aos(P:Program)(n:Nat)(rs:List ResultVar)(R:Value->J->Prop):lC->Option Nat->F->J->Prop
 | .exit _,_,_,_=>False
 |_,none,f,H=>nk P n f H rs λvs=>R (gD vs) H
 |_,some D,f,H=>lU H D/\nk P n f (mx H D) rs λvs=>R (gD vs) (mx H D)
theorem aot{dD:List Nat->hE}{p:List Nat}{l:Nat}{bM:Loop}{assign body:Code}{ju:Value->J->Prop}{vs:List Value}{ps:List Nat}(hm:P.follows .mixedOrders=true)
  (aH:fa H l bM .ready none) (hs:vs.length=ps.length) (bc:bM.params=ps.toArray) (bN:bM.assign=assign) (dP:bM.body=body) (iZ:bM.tmps=(cu [] n f).tmps)
  (h:Vj P n dD p l bM assign body ju (AX ps vs f) H):rR P l vs H ju:=by
 intro E d
 refine⟨bM.fn,(cu [] n (AX ps vs f)).tmps,assign,body,?_,?_⟩
 ·have:=run_yield (P:=P) (w:=a8 E H d) (l:=l) (args:=vs.toArray) aH (by simp [bc,hs])
  rw [this]
  simp only [bc,bN,dP,iZ,List.zip_toArray,List.size_toArray,List.foldl_toArray']
  rw [Vi]
 ·refine roundIn_of_wpIn (F:=Fence.wide) trivial ?_
  refine rU (Df:=[]) (ro:=some l) hm assign (0::p) (λe f1 H1 d1 k=> ?_) _ H h d
  cases e with
  |normal=>
   obtain⟨k1,k⟩:=k
   refine⟨_,run_beginRound (w:=a8 E H1 d1) k1 rfl,?_⟩
   refine rU (Df:=[]) (ro:=some l) hm body (1::p) (λe f3 aF d3 k=> ?_) f1 (dR H1 l bM .busy none) k d1
   cases e with
   |normal=>exact⟨_,_,run_endRound (w:=a8 E aF d3) none k.1,_,_,d3,rfl,rfl,k.2⟩
   |ret=>exact⟨_,_,run_endRound (w:=a8 E aF d3) (some .ret) k.1,_,_,d3,rfl,rfl,k.2⟩
   |exit i=>exact⟨_,_,run_endRound (w:=a8 E aF d3) (some (.exit i)) k.1,_,_,d3,rfl,rfl,k.2⟩
  |ret=>exact k.elim
  |exit i=>exact k.elim
theorem HG{dD:List Nat->hE}(hm:P.follows .mixedOrders=true){E:Env}:∀(c:Code) (p:List Nat) {K:lC->Option Nat->F->J->Prop} {Q:Exit->Act->World->Prop}
  (_hQ:∀e ha f H d,K e ha f H->Q (lC.zo e) (cu (AY ha) n f) (a8 E H d)) (f:F) (H:J),xz P n dD c p K f H->∀d,c.wpIn (lV none) 0 P Q (cu [] n f) (a8 E H d)
 | .seq a b,p,K,Q,cg,f,H,h,d=>by
  unfold xz at h
  refine wpIn_seq ?_
  cases aA:xy a with
  |true=>
   rw [aA]at h
   simp only [cond_true]at h
   refine HG hm a _ (λe ha bE H' d' k=> ?_) f H h d
   cases e with
   |normal=>exact(wpIn_wide (n:=0)).2 (oP (Df:=AY ha) hm b _ (λe kD cG r3 k=>cg e ha kD cG r3 k) bE H' k d')
   |ret=>exact cg _ _ _ _ _ k
   |exit i=>exact cg _ _ _ _ _ k
  |false=>
   rw [aA]at h
   simp only [cond_false]at h
   refine(wpIn_wide (n:=0)).2 (oP (Df:=[]) hm a _ (λe bE H' d' k=> ?_) f H h d)
   cases e with
   |normal=>exact HG hm b _ cg bE H' k d'
   |ret=>exact cg _ none _ _ _ k
   |exit i=>exact cg _ none _ _ _ k
 | .block id c,p,K,Q,cg,f,H,h,d=>by
  unfold xz at h
  refine wpIn_block (HG hm c _ (λe ha bE H' d' k=> ?_) f H h d)
  cases e with
  |exit i=>
   simp only [lC.zo,Exit.inBlock]
   cases ah:nP i id with
   |true=>
    rw [if_pos (oK ah)]
    simp only [ah,cond_true]at k
    exact cg .normal _ _ _ _ k
   |false=>
    rw [if_neg (λe=>by subst e;simp at ah)]
    simp only [ah,cond_false]at k
    exact cg (.exit i) _ _ _ _ k
  |normal=>exact cg .normal _ _ _ _ k
  |ret=>exact cg .ret _ _ _ _ k
 | .rangeFunc g ps assign body,p,K,Q,cg,f,H,h,d=>by
  unfold xz at h
  split at h
  ·rename_i live _
   obtain⟨vH,h⟩:=nV h
   have vH:=Vh vH
   refine wpIn_rangeFunc λfn _=> ?_
   let bM:Loop:={state:=.ready,pending:=none,fn,tmps:=(cu [] n f).tmps,params:=ps,assign,body,defers:=H.size}
   obtain⟨k,first,captured,aI,iT,ak⟩:=h H.size (H.size+1) bM _ ⟨rfl,rfl,rfl⟩ (MH λvs hlen ao ju aH aA=>by
    refine aot (ps:=slotsOf live) hm aH (by rw [hlen,aop,aoq]) (by rw [vH]) rfl rfl rfl aA)
   have za:=ak E d
   let MI:World:=a8 E ((H.push (.deferred (some []))).push (.loop bM)) d
   refine⟨H.size+1,[{target:=.collected H.size,args:= #[]}],MI,{target:=.fn (.func k) captured,args:=first++ #[.func (.yield (H.size+1)) #[] #[]]},MI,k,first++ #[.func (.yield (H.size+1)) #[] #[]]++captured,MI,
    run_enterLoop_outer (w:=a8 E H d) fn (cu [] n f).tmps ps assign body,?_,λ_ _=>trivial,?_,λh=>by simp [lV,Fence.wide]at h,?_⟩
   ·rw [vX]
    have fC:∀v,cd n f (.const v)=v:=λv=>rfl
    simp [resolve,Deferred.ofValue,aI,fC]
   ·simp [invoke,Bo iT]
   ·refine CallsIn.mono (F:=lV none) (callsIn_wide.2 za) λe w'=> ?_
    rintro⟨v,aN,d4,rfl,rfl,hk⟩
    rcases hk with⟨aH,hk⟩|⟨aH,hk⟩
    ·exact⟨none,_,run_endLoop (w:=a8 E aN d4) aH (by simp),cg .normal (some H.size) f _ d4 hk⟩
    ·exact⟨some .ret,_,run_endLoop (w:=a8 E aN d4) aH (by simp),wpIn_ret (cg .ret (some H.size) f _ d4 hk)⟩
  ·exact h.elim
 | .skip,_,_,_,_,_,_,h,_=>h.elim
 | .region ..,_,_,_,_,_,_,h,_=>h.elim
 | .cond ..,_,_,_,_,_,_,h,_=>h.elim
 | .loop _,_,_,_,_,_,_,h,_=>h.elim
 | .exit _,_,_,_,_,_,_,h,_=>h.elim
 | .ret,_,_,_,_,_,_,h,_=>h.elim
 | .scope _,_,_,_,_,_,_,h,_=>h.elim
 | .label _,_,_,_,_,_,_,h,_=>h.elim
 | .goto _,_,_,_,_,_,_,h,_=>h.elim
 | .refuse _,_,_,_,_,_,_,h,_=>h.elim
theorem HH{k:FuncId}{fn:Func}{c:Code}{args:List Value}{rs:List ResultVar}{R:Value->J->Prop}(dD:List Nat->hE)(hm:P.follows .mixedOrders=true)
  (af:P.funcs[k]?=some fn) (ah:fn.body=some c) (ay:fn.ntmps=n) (aA:fn.results.toList=rs) (hle:pt args.length n=true)
  (h:xz P n dD c [] (aos P n rs R) (qh args) H):aY P k args.toArray H R:=by
 intro E d
 refine callsIn_wide.1 (callsIn_of_wp_marks (n:=0) af ah trivial ?_)
 rw [E6 ay hle]
 refine HG hm c [] (λe ha f H' d' k=> ?_) _ H h d
 have fin:∀(ha:Option Nat) (H':J) (d':kb E),nk P n f H' rs (λvs=>R (gD vs) H')->LeavesIn Fence.wide 0 P fn (cu (AY ha) n f).tmps (λe w'=>∃v H' d',e=.returned v/\w'=a8 E H' d'/\R v H') [] .returning (a8 E H' d'):=λha H' d' h=>by
  obtain⟨v,h1,ae⟩:=E7 (Df:=AY ha) (fn:=fn) (d':=d') (X:=λv=>R v H') aA h
  exact⟨v,h1,v,H',d',rfl,rfl,ae⟩
 have all:∀(ha:Option Nat),(match ha with|none=>nk P n f H' rs λvs=>R (gD vs) H'|some D=>lU H' D/\nk P n f (mx H' D) rs λvs=>R (gD vs) (mx H' D))→
   LeavesInM Fence.wide 0 P fn (cu (AY ha) n f).tmps (λe w'=>∃v H' d',e=.returned v/\w'=a8 E H' d'/\R v H') (AY ha) .returning (a8 E H' d'):=λha k=>by
  cases ha with
  |none=>exact fin none H' d' k
  |some D=>exact⟨by simp,.inl ⟨D,a8 E (mx H' D) d',rfl,run_takeDeferred (w:=a8 E H' d') k.1,fin (some D) (mx H' D) d' k.2⟩⟩
 cases e with
 |normal=>exact all ha (by cases ha<;>exact k)
 |ret=>exact all ha (by cases ha<;>exact k)
 |exit i=>exact k.elim
end Go.bs
