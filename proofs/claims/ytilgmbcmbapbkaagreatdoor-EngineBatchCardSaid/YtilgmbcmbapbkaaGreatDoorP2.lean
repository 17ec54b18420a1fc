/- Part of a proof. -/
import Derived.Test.YtilgmbcmbapbkaaGreatDoorP1
import Derived.Defers
import Derived.RangeFuncRecord
import Derived.OrdersIn
import Derived.TacticsIn
open _root_.Nat renaming beq→LY,ble→axF,le_of_ble_eq_true→ax1,eq_of_beq_eq_true→axB
open _root_.Bool renaming and_eq_true→axz
open _root_.List renaming mem_cons_of_mem→axU,mem_cons→axA,mem_filter→ax2,getElem?_eq_some_iff→axC,size_toArray→ay9,getD_eq_getElem?_getD→aza,filter_cons→axT,mem_cons_self→aye
open _root_.Array renaming replicate→ayP,getElem?_replicate→ay8
set_option linter.unusedVariables false
set_option linter.unusedSimpArgs false
set_option maxRecDepth 100000
open Go
namespace Go.bk
def xV(P:Program)(k:FuncId)(args:Array Value)(H:U)(R:Value->U->Prop):Prop:=
 ∀E d u,CallsD P k args u (bf E H d) (λe nZ w'=>nZ=u/\∃v H' d',e=.returned v/\w'=bf E H' d'/\R v H')
variable{P:Program}{n:Nat}{H:U}{K:F->U->Prop}{f:F}
theorem HJ{args:List Value}{fn:Func}(ay:fn.ntmps=n)(hle:axF args.length n=true):
  {tmps:=args.toArray++ayP (fn.ntmps-args.toArray.size) undef,defers:=[]}=cJ [] n (s6 args):=by
 have aeA:args.length<=n:=ax1 hle
 unfold cJ
 congr 1
 apply Array.ext_getElem?
 intro i
 have az:∀(l:List Value) (i:Nat),s6 l i=l.getD i undef:=by
  intro l
  induction l with
  |nil=>intro i;rfl
  |cons v l ih=>intro i;cases i with|zero=>rfl|succ i=>exact ih i
 simp only [Array.getElem?_append,Array.getElem?_ofFn,ay9,List.getElem?_toArray,ay,az,ay8]
 by_cases h1:i<args.length
 ·have ab:i<n:=by omega
  simp [h1,ab,aza]
 ·by_cases ab:i<n
  ·have ar:i-args.length<n-args.length:=by omega
   simp [h1,ab,ar,aza]
  ·have ar:¬i-args.length<n-args.length:=by omega
   simp [h1,ab,ar]
theorem HK{Df:List Deferred}{fn:Func}{rs:List ResultVar}(aB:fn.results.toList=rs){H':U}{E:Env}{d':kK E}{X:Value->Prop}
  (h:nX P n f H' rs (λae=>X (my ae))):∃v,(results fn (cJ Df n f).tmps).run P (bf E H' d')=.ok v (bf E H' d')/\X v:=by
 obtain⟨g,D2,g1,g2⟩:=Tj fn (cJ Df n f).tmps
 obtain⟨ae,ks,hk⟩:=HI (Df:=Df) g g1 g2 h
 refine⟨my ae,?_,hk⟩
 have aL:=ks (bf E H' d') rfl
 rw [D2,Sem.run_bind,Array.mapM_eq_mapM_toList,Sem.run_map,aB]
 rw [aL]
 simp only [Result.andThen_ok]
 have a':∀ae:List Value,(if h:ae.toArray.size=1 then ae.toArray[0]else .tuple ae.toArray)=my ae:=by
  intro ae
  match ae with
  |[]=>rfl
  |[v]=>rfl
  |_::_::_=>simp [my]
 rw [<-a' ae]
 rfl
theorem aeB{k:FuncId}{fn:Func}{c:Code}{args:List Value}{rs:List ResultVar}{R:Value->U->Prop}(dL:List Nat->hE)(hm:P.follows .mixedOrders=true)
  (ai:P.funcs[k]?=some fn) (al:fn.body=some c) (ay:fn.ntmps=n) (aB:fn.results.toList=rs) (hle:axF args.length n=true)
  (h:hn P n dL c [] (Hs P n rs R) (s6 args) H):xV P k args.toArray H R:=by
 intro E d u
 refine callsD_of_wp ai al ?_
 rw [HJ ay hle]
 refine pf hm c [] (λe f H' d' k=> ?_) _ H h d
 have fin:nX P n f H' rs (λae=>R (my ae) H')->∃v,(results fn (cJ [] n f).tmps).run P (bf E H' d')=.ok v (bf E H' d')/\∃gZ dn tg,Ending.returned v=.returned gZ/\bf E H' d'=bf E dn tg/\R gZ dn:=λh=>by
  obtain⟨v,h1,ab⟩:=HK (Df:=[]) (fn:=fn) (d':=d') (X:=λv=>R v H') aB h
  exact⟨v,h1,v,H',d',rfl,rfl,ab⟩
 cases e with
 |normal=>exact⟨rfl,fin k⟩
 |ret=>exact⟨rfl,fin k⟩
 |exit i=>exact k.elim
def Tk(P:Program)(n:Nat)(dL:List Nat->hE)(rs:List ResultVar)(R:Value->U->Prop)(c:Code)(f:F)(H:U):Prop:=
 match c with
 | .seq c0 (.seq (.region _ ops false) rest)=>hn P n dL c0 [0] (λe f H=>match e with
  | .normal=>(match ops.toList with
   |[⟨some t,.makeFunc (.func j) first captured,_,_,_,none⟩,⟨none,.defer ⟨.value (.tmp gk),⟨[]⟩,_⟩,_,_,_,none⟩]=>
    dB (LY gk t&&(Nat.blt t n&&zo P j)) (hn P n dL rest [1,1] (λe bL H'=>match e with
     | .exit _=>False
     |_=>xV P j ⟨fQ n f first.toList++fQ n f captured.toList⟩ H' λ_ dn=>nX P n bL dn rs λae=>R (my ae) dn)
     (gq f t (.func (.func j) ⟨fQ n f first.toList⟩ ⟨fQ n f captured.toList⟩)) H)
   |_=>False)
  |_=>False) f H
 |_=>False
theorem aeC{k:FuncId}{fn:Func}{c:Code}{args:List Value}{rs:List ResultVar}{R:Value->U->Prop}(dL:List Nat->hE)(hm:P.follows .mixedOrders=true)
  (ai:P.funcs[k]?=some fn) (al:fn.body=some c) (ay:fn.ntmps=n) (aB:fn.results.toList=rs) (hle:axF args.length n=true)
  (h:Tk P n dL rs R c (s6 args) H):fo P k args.toArray H R:=by
 intro E d
 refine calls_of_wp_defers ai al ?_
 rw [HJ ay hle]
 unfold Tk at h
 split at h
 rotate_left
 ·exact h.elim
 rename_i c0 id ops rest
 refine wp_seq (pf hm c0 [0] (λe f H1 d1 h=> ?_) _ H h d)
 cases e with
 |exit i=>exact h.elim
 |ret=>exact h.elim
 |normal=>
 show(Code.seq (.region id ops false) rest).wp P _ (cJ [] n f) (bf E H1 d1)
 dsimp only at h
 split at h
 rotate_left
 ·exact h.elim
 rename_i t j first captured aeD eY aeE gk aeF aeG fR aeH aeI
 obtain⟨bM,h⟩:=oC h
 simp only [axz]at bM
 obtain⟨aW,Lf,e'⟩:=bM
 have aW:gk=t:=axB aW
 subst aW
 refine wp_seq (wp_region_list ?_)
 rw [aeI]
 let hU:Value:=.func (.func j) ⟨fQ n f first.toList⟩ ⟨fQ n f captured.toList⟩
 let da:Deferred:={target:=.fn (.func j) ⟨fQ n f captured.toList⟩,args:=⟨fQ n f first.toList⟩}
 have main:rest.wp P (bodyPostD P fn λe w'=>∃v H' d',e=.returned v/\w'=bf E H' d'/\R v H') (cJ [da] n (gq f gk hU)) (bf E H1 d1):=by
  refine pf (Df:=[da]) hm rest [1,1] (λe bL ao d2 ab=> ?_) _ H1 h d1
  have go:xV P j ⟨fQ n f first.toList++fQ n f captured.toList⟩ ao (λ_ dn=>nX P n bL dn rs λae=>R (my ae) dn)→
    Leaves P fn (cJ [da] n bL).tmps (λe w'=>∃v H' d',e=.returned v/\w'=bf E H' d'/\R v H') [da] .returning (bf E ao d2):=λav=>by
   refine leaves_cons (f:=j) (args:=⟨fQ n f first.toList++fQ n f captured.toList⟩) (by intro e;cases e) ?_ ?_
   ·show(callFunc j _).run P _=_
    rw [DT e']
    congr 2
    simp
   ·refine(av E d2 .returning).mono λe nZ w' ar=> ?_
    obtain⟨rfl,v,aP,d3,rfl,rfl,a7⟩:=ar
    show Leaves P fn (cJ [da] n bL).tmps _ [] (settle .returning) (bf E aP d3)
    obtain⟨gZ,bs,b5⟩:=HK (Df:=[da]) (fn:=fn) (d':=d3) (X:=λv=>R v aP) aB a7
    exact⟨gZ,bs,gZ,aP,d3,rfl,rfl,b5⟩
  cases e with
  |normal=>exact go ab
  |ret=>exact go ab
  |exit i=>exact ab.elim
 unfold wpList
 rw [if_pos (by unfold Region.wanted;rfl)]
 left
 unfold Oper.wp
 have aL:(execOp (cJ [] n f).eval ⟨some gk,.makeFunc (.func j) first captured,aeD,eY,aeE,none⟩).run P (bf E H1 d1)=.ok (.value hU) (bf E H1 d1):=by
  rw [xG]
  simp [execOp,Instr.makeFunc,hU,rO]
 rw [aL]
 show wpList P ops _ _ ((cJ [] n f).put (some gk) hU) (bf E H1 d1)
 rw [j9]
 unfold wpList
 rw [if_pos (by unfold Region.wanted;rfl)]
 left
 unfold Oper.wp
 have a':(execOp (cJ [] n (eI f (some gk) hU)).eval ⟨none,.defer ⟨.value (.tmp gk),⟨[]⟩,aeF⟩,aeG,fR,aeH,none⟩).run P (bf E H1 d1)=.ok (.defer da) (bf E H1 d1):=by
  rw [xG]
  have HL:b8 n (eI f (some gk) hU) (.tmp gk)=hU:=by
   simp [b8,eI,gq,Lf]
  simp [execOp,resolve,HL,hU,Deferred.ofValue,da]
 rw [a']
 exact main
variable{Df:List Deferred}
def l7(ro:Option Nat):Fence:={Fence.wide with round:=ro}
def oR(P:Program)(l:Nat)(args:List Value)(H:U)(K:Value->U->Prop):Prop:=
 ∀(E:Env) (d:kK E),∃fn tmps assign body,(Instr.yield l args.toArray).run P (bf E H d)=.ok (.round l fn tmps assign body) (bf E H d)∧
  RoundIn Fence.wide 0 P l fn tmps assign body (bf E H d) (λe w'=>∃v H' d',e=.returned v/\w'=bf E H' d'/\K v H')
theorem oR.mono{l:Nat}{args:List Value}{K cc:Value->U->Prop}(h:oR P l args H K)(hk:∀v H',K v H'->cc v H'):oR P l args H cc:=by
 intro E d
 obtain⟨fn,tmps,assign,body,h1,ab⟩:=h E d
 exact⟨fn,tmps,assign,body,h1,ab.mono λe w' ⟨v,H',d',aL,a',k⟩=>⟨v,H',d',aL,a',hk _ _ k⟩⟩
def wZ(P:Program)(v:Value)(args:List Value)(H:U)(K:Value->U->Prop):Prop:=
 dY P v args H K\/∃l,v=.func (.yield l) #[] #[]/\oR P l args H K
theorem wZ.mono{v:Value}{args:List Value}{K cc:Value->U->Prop}(h:wZ P v args H K)(hk:∀v H',K v H'->cc v H'):wZ P v args H cc:=by
 rcases h with h|⟨l,e,h⟩
 ·exact .inl (dY.mono h hk)
 ·exact .inr ⟨l,e,h.mono hk⟩
def se(P:Program)(n:Nat)(f:F)(ad:Oper)(H:U)(K:Value->U->Prop):Prop:=
 match ad.op with
 | .call {callee:=.value (.tmp g),args,.. }=>wZ P (b8 n f (.tmp g)) (fQ n f args.toList) H λv H'=>oA (qM P ad.type) λu=>v=u/\K u H'
 |_=>nW P n f ad H K
theorem rb{ad:Oper}{K cc:Value->U->Prop}(hk:∀v H',K v H'->cc v H')(h:se P n f ad H K):se P n f ad H cc:=by
 unfold se at h⊢
 split at h
 ·exact h.mono λv H' k=>uA (λu k=>⟨k.1,hk _ _ k.2⟩) k
 ·exact p2 hk h
def Yo:Op->Bool
 | .defer _=>true
 |_=>false
def F2:List Oper->Bool
 |[]=>true
 |ad::l=>cond (Yo ad.op) false (F2 l)
theorem Yp:∀{l:List Oper},F2 l=true->∀(i:Nat) (ad:Oper),l[i]?=some ad->∀c,ad.op≠.defer c
 |[],_,_,_,h,_=>by simp at h
 |x::l,aR,i,ad,h,c=>by
  unfold F2 at aR
  cases aa:Yo x.op with
  |true=>rw [aa]at aR;cases aR
  |false=>
   rw [aa]at aR
   cases i with
   |zero=>simp at h;subst h;intro e;rw [e]at aa;cases aa
   |succ i=>exact Yp (l:=l) aR i ad (by simpa using h) c
def lN(P:Program)(n:Nat)(ops:List Oper):List Oper->F->U->(F->U->Prop)->Prop
 |[],f,H,K=>K f H
 |ad::rest,f,H,K=>
  match ad.guard with
  |none=>se P n f ad H λv H'=>lN P n ops rest (eI f ad.dst v) H' K
  |some (j,want)=>
   match uC ops j with
   |none=>lN P n ops rest (eI f ad.dst undef) H K
   |some d=>
    match b8 n f (.tmp d)with
    | .bool c=>aU c
      (bif want then se P n (gq f d (.bool true)) ad H λv H'=>lN P n ops rest (eI (gq f d (.bool true)) ad.dst v) H' K
       else lN P n ops rest (eI (gq f d (.bool true)) ad.dst undef) H K)
      (bif want then lN P n ops rest (eI (gq f d (.bool false)) ad.dst undef) H K
       else se P n (gq f d (.bool false)) ad H λv H'=>lN P n ops rest (eI (gq f d (.bool false)) ad.dst v) H' K)
    |_=>lN P n ops rest (eI f ad.dst undef) H K
def sf(P:Program)(n:Nat):List Oper->F->U->(F->U->Prop)->Prop
 |[],f,H,K=>K f H
 |ad::rest,f,H,K=>
  match ad.guard with
  |none=>se P n f ad H λv H'=>zw P ad v λv=>sf P n rest (eI f ad.dst v) H' K
  |some _=>False
def w0(P:Program)(n:Nat)(a:hE)(ops:List Oper)(f:F)(H:U)(K:F->U->Prop):Prop:=match a with
 | .ext=>sf P n ops f H K
 |_=>lN P n ops ops f H K
def iu(P:Program)(n:Nat)(ops:List Oper)(bef:List Nat)(K:F->U->Prop):e9->Nat->lk->F->U->Prop
 | .done,m,_,f,H=>dB (SM ops m) (K f H)
 | .quiet i s,m,D,f,H=>
  match ops[i]? with
  |none=>False
  |some ad=>dB (Ho P ops m i ad s) (guarded ops n ad f
    (λf=>qO P n f ad H λv=>iu P n ops bef K s (mw m i) (SL i (gS P n f ad v) D) (eI f ad.dst v) H)
    (λf=>iu P n ops bef K s (mw m i) D (eI f ad.dst undef) H))
 | .pick s,m,D,f,H=>dB (Hp ops m s) (iu P n ops bef K s m D f H)
 | .alt i s r,m,D,f,H=>
  match ops[i]? with
  |none=>False
  |some ad=>
   dB (SN s) (bif r.rL then guarded ops n ad f
     (λf=>se P n f ad H λv H'=>uD (iE bef i D) H' (iu P n ops bef K s (mw m i) (iE bef i D) (eI f ad.dst v) H'))
     (λf=>iu P n ops bef K s (mw m i) (iE bef i D) (eI f ad.dst undef) H)
   else guarded ops n ad f
     (λf=>se P n f ad H λv H'=>uD (iE bef i D) H' (iu P n ops bef K s (mw m i) (iE bef i D) (eI f ad.dst v) H'))
     (λf=>iu P n ops bef K s (mw m i) (iE bef i D) (eI f ad.dst undef) H)/\iu P n ops bef K r m D f H)
 | .stop,_,_,_,_=>False
theorem ar3{ops:List Oper}{bef:List Nat}{cc:F->U->Prop}(hk:∀f H,K f H->cc f H):∀(s:e9) (m:Nat) (D:lk) (f:F) (H:U),iu P n ops bef K s m D f H->iu P n ops bef cc s m D f H:=by
 intro s
 induction s with
 |done=>intro m D f H h;unfold iu at h⊢;exact gr (hk _ _) h
 |quiet i s ih=>
  intro m D f H h
  unfold iu at h⊢
  split at h
  ·exact h
  ·exact gr (rP (λh=>s9 (λv h=>ih _ _ _ _ h) h) (λh=>ih _ _ _ _ h)) h
 |pick s ih=>intro m D f H h;unfold iu at h⊢;exact gr (ih _ _ _ _) h
 |alt i s r ih td=>
  intro m D f H h
  unfold iu at h⊢
  split at h
  ·exact h
  ·refine gr (λh=> ?_) h
   cases aB:r.rL with
   |true=>
    rw [aB]at h
    simp only [cond_true]at h⊢
    exact rP (λh=>rb (λv H' h=>wi (ih _ _ _ _) h) h) (λh=>ih _ _ _ _ h) h
   |false=>
    rw [aB]at h
    simp only [cond_false]at h⊢
    exact⟨rP (λh=>rb (λv H' h=>wi (ih _ _ _ _) h) h) (λh=>ih _ _ _ _ h) h.1,td _ _ _ _ h.2⟩
 |stop=>intro m D f H h;exact h
theorem ar4{ops:List Oper}{bef:List Nat}{f0:F}:∀(s:e9) (m:Nat) (D:lk) (f:F) (H:U),eN (hl ops) f0 f->iu P n ops bef K s m D f H->iu P n ops bef (λbL H'=>K bL H'/\eN (hl ops) f0 bL) s m D f H:=by
 intro s
 induction s with
 |done=>intro m D f H aw h;unfold iu at h⊢;exact gr (λh=>⟨h,aw⟩) h
 |quiet i s ih=>
  intro m D f H aw h
  unfold iu at h⊢
  split at h
  ·exact h
  ·rename_i ad az
   exact gr (rP (λh=>s9 (λv h=>ih _ _ _ _ (rQ az aw _) h) h) (λh=>ih _ _ _ _ (rQ az aw _) h)) h
 |pick s ih=>intro m D f H aw h;unfold iu at h⊢;exact gr (ih _ _ _ _ aw) h
 |alt i s r ih td=>
  intro m D f H aw h
  unfold iu at h⊢
  split at h
  ·exact h
  ·rename_i ad az
   refine gr (λh=> ?_) h
   cases aB:r.rL with
   |true=>
    rw [aB]at h
    simp only [cond_true]at h⊢
    exact rP (λh=>rb (λv H' h=>wi (ih _ _ _ _ (rQ az aw _)) h) h) (λh=>ih _ _ _ _ (rQ az aw _) h) h
   |false=>
    rw [aB]at h
    simp only [cond_false]at h⊢
    exact⟨rP (λh=>rb (λv H' h=>wi (ih _ _ _ _ (rQ az aw _)) h) h) (λh=>ih _ _ _ _ (rQ az aw _) h) h.1,td _ _ _ _ aw h.2⟩
 |stop=>intro m D f H aw h;exact h
def h7(P:Program)(n:Nat)(dL:List Nat->hE):Code->List Nat->(lV->F->U->Prop)->F->U->Prop
 | .skip,_,K,f,H=>K .normal f H
 | .region _ ops draw,p,K,f,H=>
  bif draw then
   (match dL p with
   | .et bef s=>dB (Bz ops.toList bef s)<|dB (F2 ops.toList)<|iu P n ops.toList bef (λbL H'=>K .normal bL H') s 0 [] f H
   |_=>False)
  else w0 P n (dL p) ops.toList f H λbL H'=>K .normal bL H'
 | .seq a b,p,K,f,H=>
  match dL p with
  | .cut live=>∃M:List Value->U->Prop,h7 P n dL a (0::p) (λe bL H'=>match e with| .normal=>oB (mY live) (gE n bL live) (M (gE n bL live) H')|e=>K e bL H') f H∧
    ∀br:F,p0 (mY live) λae=>∀H',M ae H'->h7 P n dL b (1::p) K (patch live ae (writes a) br f) H'
  | .dead _=>h7 P n dL a (0::p) (λe bL H'=>match e with| .normal=>False|e=>K e bL H') f H
  |_=>h7 P n dL a (0::p) (λe bL H'=>match e with| .normal=>h7 P n dL b (1::p) K bL H'|e=>K e bL H') f H
 | .cond c a b,p,K,f,H=>
  (match b8 n f c with| .bool c=>aU c (da (dL p) true (h7 P n dL a (0::p) K f H)) (da (dL p) false (h7 P n dL b (1::p) K f H))|_=>False)
 | .block id c,p,K,f,H=>h7 P n dL c (0::p) (λe bL H'=>match e with| .exit i=>(bif LY i id then K .normal bL H' else K (.exit i) bL H')|e=>K e bL H') f H
 | .loop c,p,K,f,H=>
  match dL p with
  | .cut live=>∃(I:List Value->U->Prop) (ki:List Value->U->Nat),oB (mY live) (gE n f live) (I (gE n f live) H)∧
    ∀br:F,p0 (mY live) λae=>∀H',I ae H'->h7 P n dL c (0::p) (λe ll dn=>match e with| .normal=>oB (mY live) (gE n ll live) (I (gE n ll live) dn/\ki (gE n ll live) dn<ki ae H')|e=>K e ll dn) (patch live ae (writes c) br f) H'
  |_=>False
 | .exit id,_,K,f,H=>K (.exit id) f H
 | .ret,_,K,f,H=>K .ret f H
 |_,_,_,_,_=>False
theorem w1{ops:List Oper}{cc:F->U->Prop}(hk:∀f H,K f H->cc f H):∀(l:List Oper) (f:F) (H:U),lN P n ops l f H K->lN P n ops l f H cc
 |[],f,H,h=>hk _ _ h
 |ad::rest,f,H,h=>by
  unfold lN at h⊢
  split at h
  ·exact rb (λv H' k=>w1 hk rest _ _ k) h
  ·rename_i j want kN
   split at h
   ·exact w1 hk rest _ _ h
   ·split at h
    ·rename_i c av
     cases c<;>cases want<;>simp only [aU,cond_true,cond_false]at h⊢
     ·exact rb (λv H' k=>w1 hk rest _ _ k) h
     ·exact w1 hk rest _ _ h
     ·exact w1 hk rest _ _ h
     ·exact rb (λv H' k=>w1 hk rest _ _ k) h
    ·exact w1 hk rest _ _ h
theorem Yq{ops:List Oper}:∀(l:List Oper) (f:F) (H:U),lN P n ops l f H K->lN P n ops l f H (λbL H'=>K bL H'/\eN (hl l) f bL)
 |[],f,H,h=>⟨h,eN.refl _ _⟩
 |ad::rest,f,H,h=>by
  have key:∀(v:Value) (H':U),lN P n ops rest (eI f ad.dst v) H' K->lN P n ops rest (eI f ad.dst v) H' λbL H'=>K bL H'/\eN (hl (ad::rest)) f bL:=by
   intro v H' hk
   exact w1 (λbL H' k=>⟨k.1,DX k.2⟩) rest _ _ (Yq rest _ _ hk)
  unfold lN at h⊢
  split at h
  ·exact rb (λv H' hk=>key v H' hk) h
  ·rename_i j want kN
   split at h
   ·exact key _ _ h
   ·rename_i da hs
    split at h
    ·rename_i c av
     have e:=Lx av
     cases c<;>cases want<;>simp only [aU,cond_true,cond_false,e]at h⊢
     ·exact rb (λv H' hk=>key v H' hk) h
     ·exact key _ _ h
     ·exact key _ _ h
     ·exact rb (λv H' hk=>key v H' hk) h
    ·exact key _ _ h
theorem Yr{ops:List Oper}:∀(l:List Oper) (f:F) (H:U),sf P n l f H K->lN P n ops l f H K
 |[],_,_,h=>h
 |ad::rest,f,H,h=>by
  unfold sf at h
  unfold lN
  split at h
  ·rename_i ba
   rw [ba]
   exact rb (λv H' k=>Yr rest _ _ (SO k)) h
  ·exact h.elim
theorem Pe{cc:F->U->Prop}(hk:∀f H,K f H->cc f H):∀(l:List Oper) (f:F) (H:U),sf P n l f H K->sf P n l f H cc
 |[],f,H,h=>hk _ _ h
 |ad::rest,f,H,h=>by
  unfold sf at h⊢
  split at h
  ·exact rb (λv H' k=>Hr (λv k=>Pe hk rest _ _ k) k) h
  ·exact h.elim
theorem Ys:∀(l:List Oper) (f:F) (H:U),sf P n l f H K->sf P n l f H (λbL H'=>K bL H'/\eN (hl l) f bL)
 |[],f,H,h=>⟨h,eN.refl _ _⟩
 |ad::rest,f,H,h=>by
  have key:∀(v:Value) (H':U),sf P n rest (eI f ad.dst v) H' K->sf P n rest (eI f ad.dst v) H' λbL H'=>K bL H'/\eN (hl (ad::rest)) f bL:=by
   intro v H' hk
   exact Pe (λbL H' k=>⟨k.1,DX k.2⟩) rest _ _ (Ys rest _ _ hk)
  unfold sf at h⊢
  split at h
  ·exact rb (λv H' hk=>Hr (λv hk=>key v H' hk) hk) h
  ·exact h.elim
theorem ar5{a:hE}{ops:List Oper}(h:w0 P n a ops f H K):lN P n ops ops f H K:=by
 unfold w0 at h
 split at h
 ·exact Yr _ _ _ h
 ·exact h
theorem ar6{a:hE}{ops:List Oper}{cc:F->U->Prop}(hk:∀f H,K f H->cc f H)(h:w0 P n a ops f H K):w0 P n a ops f H cc:=by
 unfold w0 at h⊢
 split at h
 ·exact Pe hk _ _ _ h
 ·exact w1 hk _ _ _ h
theorem ar7{a:hE}{ops:List Oper}(h:w0 P n a ops f H K):w0 P n a ops f H (λbL H'=>K bL H'/\eN (hl ops) f bL):=by
 unfold w0 at h⊢
 split at h
 ·exact Ys _ _ _ h
 ·exact Yq _ _ _ h
theorem nD{dL:List Nat->hE}:∀(c:Code) (p:List Nat) {K cc:lV->F->U->Prop} (_hk:∀e f H,K e f H->cc e f H) (f:F) (H:U),h7 P n dL c p K f H->h7 P n dL c p cc f H
 | .skip,_,_,_,hk,_,_,h=>hk _ _ _ h
 | .region _ ops draw,p,K,cc,hk,f,H,h=>by
  unfold h7 at h⊢
  cases draw with
  |false=>exact ar6 (λf H=>hk _ f H) h
  |true=>
   simp only [cond_true]at h⊢
   split at h
   ·exact gr (λh=>gr (λh=>ar3 (λf H=>hk _ f H) _ _ _ _ _ h) h) h
   ·exact h.elim
 | .seq a b,p,K,cc,hk,f,H,h=>by
  unfold h7 at h⊢
  split at h
  ·obtain⟨M,h1,ab⟩:=h
   refine⟨M,nD a _ (λe f H k=> ?_) f H h1,λbr=>v' (λae h H' hm=>nD b _ hk _ _ (h H' hm)) (ab br)⟩
   cases e<;>first|exact k|exact hk _ _ _ k
  ·refine nD a _ (λe f H k=> ?_) f H h
   cases e<;>first|exact k.elim|exact hk _ _ _ k
  ·refine nD a _ (λe f H k=> ?_) f H h
   cases e<;>first|exact nD b _ hk _ _ k|exact hk _ _ _ k
 | .cond c a b,p,K,cc,hk,f,H,h=>by
  unfold h7 at h⊢
  split at h
  ·exact Br (xK (nD a _ hk _ _)) (xK (nD b _ hk _ _)) h
  ·exact h.elim
 | .block id c,p,K,cc,hk,f,H,h=>by
  unfold h7 at h⊢
  refine nD c _ (λe f H k=> ?_) f H h
  cases e with
  |exit i=>
   simp only at k⊢
   cases al:LY i id<;>rw [al]at k<;>exact hk _ _ _ k
  |_=>exact hk _ _ _ k
 | .loop c,p,K,cc,hk,f,H,h=>by
  unfold h7 at h⊢
  split at h
  ·obtain⟨I,ki,h1,ab⟩:=h
   refine⟨I,ki,h1,λbr=>v' (λae h H' hm=>nD c _ (λe f H k=> ?_) _ _ (h H' hm)) (ab br)⟩
   cases e<;>first|exact k|exact hk _ _ _ k
  ·exact h.elim
 | .exit _,_,_,_,hk,_,_,h=>hk _ _ _ h
 | .ret,_,_,_,hk,_,_,h=>hk _ _ _ h
 | .rangeFunc ..,_,_,_,_,_,_,h=>h.elim
 | .scope _,_,_,_,_,_,_,h=>h.elim
 | .label _,_,_,_,_,_,_,h=>h.elim
 | .goto _,_,_,_,_,_,_,h=>h.elim
 | .refuse _,_,_,_,_,_,_,h=>h.elim
theorem tR{dL:List Nat->hE}:∀(c:Code) (p:List Nat) {K:lV->F->U->Prop} (f:F) (H:U),h7 P n dL c p K f H->h7 P n dL c p (λe bL H'=>K e bL H'/\eN (writes c) f bL) f H
 | .skip,_,_,_,_,h=>⟨h,eN.refl _ _⟩
 | .region _ ops draw,p,K,f,H,h=>by
  unfold h7 at h⊢
  cases draw with
  |false=>exact ar7 h
  |true=>
   simp only [cond_true]at h⊢
   split at h
   ·exact gr (λh=>gr (λh=>ar4 _ _ _ _ _ (eN.refl _ _) h) h) h
   ·exact h.elim
 | .seq a b,p,K,f,H,h=>by
  unfold h7 at h⊢
  split at h
  ·obtain⟨M,h1,ab⟩:=h
   refine⟨M,nD a _ (λe bL H' k=> ?_) f H (tR a _ f H h1),λbr=>v' (λae h H' hm=> ?_) (ab br)⟩
   ·cases e<;>first|exact k.1|exact⟨k.1,k.2.left _⟩
   ·exact nD b _ (λe bL H' k=>⟨k.1,(BD _ _ _ _ _).trans k.2⟩) _ _ (tR b _ _ _ (h H' hm))
  ·refine nD a _ (λe bL H' k=> ?_) f H (tR a _ f H h)
   cases e<;>first|exact k.1.elim|exact⟨k.1,k.2.left _⟩
  ·refine nD a _ (λe bL H' k=> ?_) f H (tR a _ f H h)
   cases e<;>first|exact nD b _ (λe ll dn eg=>⟨eg.1,k.2.trans eg.2⟩) _ _ (tR b _ _ _ k.1)|exact⟨k.1,k.2.left _⟩
 | .cond c a b,p,K,f,H,h=>by
  unfold h7 at h⊢
  split at h
  ·exact Br (xK λh=>nD a _ (λe bL H' k=>⟨k.1,k.2.left _⟩) _ _ (tR a _ _ _ h)) (xK λh=>nD b _ (λe bL H' k=>⟨k.1,k.2.right _⟩) _ _ (tR b _ _ _ h)) h
  ·exact h.elim
 | .block id c,p,K,f,H,h=>by
  unfold h7 at h⊢
  refine nD c _ (λe bL H' k=> ?_) f H (tR c _ f H h)
  cases e with
  |exit i=>
   obtain⟨fq,gT⟩:=k
   simp only at fq⊢
   cases al:LY i id<;>rw [al]at fq<;>exact⟨fq,gT⟩
  |_=>exact k
 | .loop c,p,K,f,H,h=>by
  unfold h7 at h⊢
  split at h
  ·obtain⟨I,ki,h1,ab⟩:=h
   refine⟨I,ki,h1,λbr=>v' (λae h H' hm=>nD c _ (λe bL H' k=> ?_) _ _ (tR c _ _ _ (h H' hm))) (ab br)⟩
   have gT:eN (writes c) f bL:=λi az=>by rw [k.2 i az];exact BD _ _ _ _ _ i az
   cases e<;>first|exact k.1|exact⟨k.1,gT⟩
  ·exact h.elim
 | .exit _,_,_,_,_,h=>⟨h,eN.refl _ _⟩
 | .ret,_,_,_,_,h=>⟨h,eN.refl _ _⟩
 | .rangeFunc ..,_,_,_,_,h=>h.elim
 | .scope _,_,_,_,_,h=>h.elim
 | .label _,_,_,_,_,h=>h.elim
 | .goto _,_,_,_,_,h=>h.elim
 | .refuse _,_,_,_,_,h=>h.elim
theorem Yt{ro:Option Nat}{ad:Oper}{a:Act}{w:World}{next:Act->World->Prop}{Q:Exit->Act->World->Prop}(aR:∀c,ad.op≠.defer c)(h:ad.wp P a w next Q):
  ad.wpIn (l7 ro) 0 P a w next Q:=by
 refine⟨λ_ _=>trivial,?_⟩
 have e:ad.semAt (l7 ro).round a.eval=execOp a.eval ad:=by
  cases ro with
  |none=>exact Oper.semAt_none _ _
  |some l=>exact Oper.semAt_some l _ _ aR
 rw [e]
 unfold Oper.wp at h
 generalize(execOp a.eval ad).run P w=r at h
 have fL:(l7 ro).depth.isSome=true->1<=0:=λh=>by simp [l7,Fence.wide]at h
 cases r with
 |ok x w'=>
  cases x<;>simp only [Oper.upon,Oper.uponIn]at h⊢<;>first|exact h|exact h.elim|skip
  case enter f args=>exact⟨fL,callsIn_wide.2 h⟩
  case row row args=>
   refine⟨fL,λc cs _=> ?_⟩
   obtain⟨v,JP,r,s⟩:=h c cs
   exact⟨v,JP,r,stepsIn_wide.2 s⟩
 |halt x w'=>cases x<;>simp only [Oper.upon,Oper.uponIn]at h⊢<;>exact h
theorem Yu{ad:Oper}{K:Value->U->Prop}(h:nW P n f ad H K)(c:Call):ad.op≠.defer c:=by
 intro e
 unfold nW at h
 rw [e]at h
 exact h
theorem JQ{ro:Option Nat}{ad:Oper}{K:Value->U->Prop}{next:Act->World->Prop}{Q:Exit->Act->World->Prop}
  (h:se P n f ad H K) (E:Env) (ba:DS Df n f ad K E next) (d:kK E):ad.wpIn (l7 ro) 0 P (cJ Df n f) (bf E H d) next Q:=by
 unfold se at h
 split at h
 ·rename_i g args argTypes aw
  rcases h with h|⟨l,aI,h⟩
  ·have h':nW P n f ad H K:=by
    unfold nW
    rw [aw]
    exact h
   exact Yt (Yu h') (BB h' E ba d)
  ·refine⟨λ_ _=>trivial,?_⟩
   have e:ad.semAt (l7 ro).round (cJ Df n f).eval=execOp (cJ Df n f).eval ad:=by
    cases ro with
    |none=>exact Oper.semAt_none _ _
    |some l=>exact Oper.semAt_some l _ _ (by rw [aw];intro c h;cases h)
   rw [e,xG]
   obtain⟨fn,tmps,assign,body,h1,ab⟩:=h E d
   have a':(execOp (b8 n f) ad).run P (bf E H d)=.ok (.round l fn tmps assign body) (bf E H d):=by
    simp [execOp,aw,resolve,Deferred.ofValue,aI,invoke,rO,h1]
   rw [a',Oper.uponIn_round]
   refine⟨λh=>by simp [l7,Fence.wide]at h,?_⟩
   refine RoundIn.mono (F:=Fence.wide) ab λe w'=> ?_
   rintro⟨v,H',d',rfl,rfl,hk⟩
   obtain⟨u,rfl,hk⟩:=uz hk
   show next ((cJ Df n f).put ad.dst v) _
   rw [j9]
   exact ba v H' d' hk
 ·exact Yt (Yu h) (BB h E ba d)
theorem Pf{ro:Option Nat}{ad:Oper}(aR:∀c,ad.op≠.defer c)(l6:Operand->Value):ad.semAt (l7 ro).round l6=execOp l6 ad:=by
 cases ro with
 |none=>exact Oper.semAt_none _ _
 |some l=>exact Oper.semAt_some l _ _ aR
section
variable{ro:Option Nat}{P:Program}{ops:Array Oper}{Q:Exit->Act->World->Prop}{S:World->Prop}
theorem _root_.Go.YieldsIf.Yv(iA:∀(i:Nat) (ad:Oper),ops[i]?=some ad->∀c,ad.op≠.defer c){i:Nat}{ad:Oper}{v:Value}{a:Act}(az:ops[i]?=some ad)(aA:YieldsIf P ops S ad v a)
  {K:Act->World->Prop} {w:World} (bB:S w) (h:K (a.put ad.dst v) w):wpOpIn (l7 ro) 0 P ops Q i K a w:=by
 unfold Go.wpOpIn
 simp only [az]
 rcases aA with⟨hw,aI⟩|⟨hw,rfl⟩
 ·simp only [hw,if_true,Oper.wpIn]
  refine⟨λ_ _=>trivial,?_⟩
  rw [Pf (iA i ad az),aI w bB]
  exact h
 ·simp only [hw,Bool.false_eq_true,if_false]
  exact⟨λ_ _=>trivial,h⟩
theorem ar8{j:Nat}{iG fu:Oper}{v:Value}(Yw:∀c,fu.op≠.defer c)(bq:ops[j]?=some fu)(MW:iG.apart ops fu=true)
  (ar9:∀cs b,iG.op≠.select cs b) (ar':∀cs b,fu.op≠.select cs b)
  (bV:∀c a w,Q (.panic c) (a.put iG.dst v) w->Q (.panic c) a w) {K:Act->World->Prop} {a:Act} {w:World}
  (aA:YieldsIf P ops S iG v a) (h:wpOpIn (l7 ro) 0 P ops Q j K (a.put iG.dst v) w):
  wpOpIn (l7 ro) 0 P ops Q j (λaV w'=>YieldsIf P ops S iG v aV/\K (aV.put iG.dst v) w') a w:=by
 obtain⟨h1,ab,ar⟩:=Oper.apart_spec MW
 have ag:∀(a:Act),YieldsIf P ops S iG v a->∀u,YieldsIf P ops S iG v (a.put fu.dst u):=λa aA u=>
  aA.of_same (execOp_put iG ar9 a fu.dst u ar) (wanted_put iG a fu.dst u ar)
 have asa:∀d,YieldsIf P ops S iG v {a with defers:=d::a.defers}:=λd=>aA.of_same rfl rfl
 unfold wpOpIn at *
 simp only [bq]at *
 rw [wanted_put fu a iG.dst v h1]at h
 split
 ·rename_i hw
  simp only [hw,if_true]at h
  unfold Oper.wpIn at *
  refine⟨λ_ _=>trivial,?_⟩
  have h:=h.2
  rw [Pf Yw,execOp_put fu ar' a iG.dst v h1]at h
  rw [Pf Yw]
  generalize(execOp a.eval fu).run P w=r at *
  cases r with
  |ok x w'=>
   cases x<;>simp only [Oper.uponIn]at h⊢
   case value u=>exact⟨ag a aA u,by rw [<-Act.put_comm a v u ab];exact h⟩
   case skip=>exact⟨ag a aA _,by rw [<-Act.put_comm a v undef ab];exact h⟩
   case defer d=>
    refine⟨ag _ (asa d) _,?_⟩
    rw [<-Act.put_comm _ v undef ab,<-Act.put_defers]
    exact h
   case enter f args=>
    refine⟨h.1,CallsIn.mono h.2 λe JP he=> ?_⟩
    cases e with
    |returned u=>exact⟨ag a aA u,by rw [<-Act.put_comm a v u ab];exact he⟩
    |panicked c=>exact bV _ _ _ he
    |outgrown=>exact he
   case row row args=>exact⟨h.1,RowsIn.mono h.2 λu JP he=>⟨ag a aA u,by rw [<-Act.put_comm a v u ab];exact he⟩⟩
   case round l f tmps assign body=>
    refine⟨h.1,RoundIn.mono h.2 λe JP he=> ?_⟩
    cases e with
    |returned u=>exact⟨ag a aA u,by rw [<-Act.put_comm a v u ab];exact he⟩
    |panicked c=>exact bV _ _ _ he
    |outgrown=>exact he
  |halt x w'=>
   cases x<;>simp only [Oper.uponIn]at h⊢
   case panic u=>exact bV _ _ _ h
 ·rename_i hw
  simp only [hw]at h
  exact⟨λ_ _=>trivial,ag a aA _,by rw [<-Act.put_comm a v undef ab];exact h.2⟩
end
section
variable{ro:Option Nat}{P:Program}{ops:Array Oper}{Q:Exit->Act->World->Prop}{md:Region.Mode}
def vt(ro:Option Nat)(P:Program)(md:Region.Mode)(ops:Array Oper)(Q:Exit->Act->World->Prop)(bef:Nat->Nat):Nat->Array Bool->pc->Act->World->Prop
 |0,listed,_,a,w=>Region.ready md ops listed=[]/\Q .normal a w
 |fuel+1,listed,D,a,w=>
  (Region.ready md ops listed=[]->Q .normal a w)∧
  ∀i∈Region.ready md ops listed,wpOpIn (l7 ro) 0 P ops Q i (λaV w'=>xO (jT bef i D) w'/\vt ro P md ops Q bef fuel (listed.setIfInBounds i true) (jT bef i D) aV w') a w
variable{bef:Nat->Nat}
theorem Yx:∀(fuel:Nat) (listed:Array Bool) (D:pc) (a:Act) (w:World),vt ro P md ops Q bef fuel listed D a w->wpAnyIn (l7 ro) 0 P md ops Q fuel listed a w
 |0,_,_,_,_,h=>h
 |fuel+1,_,_,_,_,h=>⟨h.1,λi az=>wpOpIn_mono (λaV w' h'=>Yx fuel _ _ aV w' h'.2) (h.2 i az)⟩
theorem Yy:∀(fuel:Nat) (listed:Array Bool) (D xP:pc) (a:Act) (w:World),(∀x∈xP,x∈D)->vt ro P md ops Q bef fuel listed D a w->vt ro P md ops Q bef fuel listed xP a w
 |0,_,_,_,_,_,_,h=>h
 |fuel+1,_,_,_,_,_,hs,h=>⟨h.1,λi az=>wpOpIn_mono (λaV w' h'=>⟨λx aa=>h'.1 x (Hz hs x aa),Yy fuel _ _ _ aV w' (Hz hs) h'.2⟩) (h.2 i az)⟩
theorem Pg{k:Nat}:∀(fuel:Nat) (listed:Array Bool) (D:pc) (a:Act) (w:World),vt ro P md ops Q bef fuel listed D a w->vt ro P md ops Q bef fuel listed ((k,λ_=>True)::D) a w
 |0,_,_,_,_,h=>h
 |fuel+1,_,D,_,_,h=>⟨h.1,λi az=>wpOpIn_mono (λaV w' h'=>by
   have e:jT bef i ((k,λ_=>True)::D)=if gM (bef i) k=true then jT bef i D else(k,λ_=>True)::jT bef i D:=by
    unfold jT
    rw [axT]
    cases gM (bef i) k<;>simp
   rw [e]
   split
   ·exact h'
   ·refine⟨λx aa=> ?_,Pg fuel _ _ aV w' h'.2⟩
    rcases axA.1 aa with rfl|aa
    ·trivial
    ·exact h'.1 x aa) (h.2 i az)⟩
theorem Yz(iA:∀(i:Nat) (ad:Oper),ops[i]?=some ad->∀c,ad.op≠.defer c){i:Nat}{iG:Oper}{v:Value}{S:World->Prop}(az:ops[i]?=some iG)(pd:∀(j:Nat) (ad:Oper) cs b,ops[j]?=some ad->ad.op≠.select cs b)
  (bV:∀c a w,Q (.panic c) (a.put iG.dst v) w->Q (.panic c) a w) (al:DU md ops bef):
  ∀(fuel:Nat) (listed:Array Bool) (D:pc) (a:Act) (w:World),
   (∀j fu,ops[j]?=some fu->j≠i->listed.getD j true=false->(∀e∈fu.after,Region.binds md e=true->e.on≠i)->iG.apart ops fu=true)→
   qQ bef listed->i∈Region.ready md ops listed->YieldsIf P ops S iG v a->S w->xO D w→
   vt ro P md ops Q bef fuel (listed.setIfInBounds i true) ((i,S)::D) (a.put iG.dst v) w->vt ro P md ops Q bef (fuel+1) listed D a w:=by
 intro fuel
 induction fuel with
 |zero=>
  intro listed D a w _ _ aB aA bB ee H
  refine⟨λh=>(by rw [h]at aB;cases aB),λj bq=> ?_⟩
  by_cases mA:j=i
  ·subst mA;exact aA.Yv iA az bB ⟨λx aa=>ee x (ax2.1 aa).1,H⟩
  ·have:=ready_mono bq mA
   rw [H.1]at this
   cases this
 |succ fuel ih=>
  intro listed D a w zy iD aB aA bB ee H
  refine⟨λh=>(by rw [h]at aB;cases aB),λj bq=> ?_⟩
  by_cases mA:j=i
  ·subst mA
   exact aA.Yv iA az bB ⟨λx aa=>ee x (ax2.1 aa).1,Yy _ _ _ _ _ _ (λx aa=>axU _ (ax2.1 aa).1) H⟩
  ·have h1:=H.2 j (ready_mono bq mA)
   obtain⟨DV,fu,uF,fe⟩:=mem_ready.1 bq
   have zz:=(mem_ready.1 aB).1
   have kq:listed.getD i false=false:=by
    rcases Nat.lt_or_ge i listed.size with h'|h'
    ·simp [h']at zz⊢;exact zz
    ·simp [Array.getElem?_eq_none h']at zz
   have DW:∀e∈fu.after,Region.binds md e=true->e.on≠i:=λe he al heq=>by
    have h1:=fe e he al
    rw [heq,kq]at h1
    cases h1
   have wg:gM (bef j) i=false:=by
    cases h4:gM (bef j) i with
    |false=>rfl
    |true=>have:=iD.ready al bq h4;rw [kq]at this;cases this
   have gR:jT bef j ((i,S)::D)=(i,S)::jT bef j D:=by
    unfold jT
    rw [axT,wg]
    rfl
   rw [gR]at h1
   have ab:=ar8 (iA j fu uF) uF (zy j fu uF mA DV DW) (λcs b=>pd i iG cs b az) (λcs b=>pd j fu cs b uF) bV aA h1
   have Lv:∀k ok,ops[k]?=some ok->k≠i->(listed.setIfInBounds j true).getD k true=false→
     (∀e∈ok.after,Region.binds md e=true->e.on≠i)->iG.apart ops ok=true:=λk ok hk s8 xR cq=>by
    refine zy k ok hk s8 ?_ cq
    by_cases wh:j=k
    ·subst wh;exact DV
    ·rw [getD_set_ne true wh]at xR;exact xR
   refine wpOpIn_mono (λaV w' ar=>⟨λx aa=>ar.2.1 x (axU _ aa),ih (listed.setIfInBounds j true) _ aV w' Lv (iD.set al bq) (ready_mono aB (Ne.symm mA)) ar.1 (ar.2.1 (i,S) (aye ..)) (λx aa=>ar.2.1 x (axU _ aa)) ?_⟩) ab
   rw [Array.setIfInBounds_comm _ _ mA]
   exact ar.2.2
end
theorem asb{ro:Option Nat}{ops:List Oper}{bef:List Nat}{E:Env}{Q:Act->World->Prop}(bV:∀f H d,K f H->Q (cJ Df n f) (bf E H d))(al:DL ops bef=true)(pd:Region.noSelect ops.toArray=true)(iA:∀(i:Nat) (ad:Oper),ops.toArray[i]?=some ad->∀c,ad.op≠.defer c):
  ∀(s:e9),(∀(m:Nat) (D:lk) (listed:Array Bool) (fuel:Nat) (f:F) (H:U) (d:kK E),iu P n ops bef K s m D f H->s.zu=true->Told ops m listed->qQ (lC bef) listed->s.depth<=fuel->(∀x∈D,x.2 H)→
    vt ro P .any ops.toArray (λe a w=>e=.normal/\Q a w) (lC bef) fuel listed (pe D) (cJ Df n f) (bf E H d))∧
   (∀(m:Nat) (D:lk) (listed:Array Bool) (fuel:Nat) (f:F) (H:U) (d:kK E),iu P n ops bef K s m D f H->Told ops m listed->qQ (lC bef) listed->s.depth<=fuel+1->(∀x∈D,x.2 H)→
    ∀i∈s.alts,i∈Region.ready .any ops.toArray listed->wpOpIn (l7 ro) 0 P ops.toArray (λe a w=>e=.normal/\Q a w) i
     (λaV w'=>xO (jT (lC bef) i (pe D)) w'/\vt ro P .any ops.toArray (λe a w=>e=.normal/\Q a w) (lC bef) fuel (listed.setIfInBounds i true) (jT (lC bef) i (pe D)) aV w') (cJ Df n f) (bf E H d)):=by
 have bM:=Tg al
 intro s
 induction s with
 |done=>
  refine⟨λm D listed fuel f H d h _ aW av _ ee=> ?_,λm D listed fuel f H d h aW av _ ee i az=>by simp [e9.alts]at az⟩
  unfold iu at h
  obtain⟨aB,h⟩:=oC h
  have te:Region.ready .any ops.toArray listed=[]:=by
   cases aG:Region.ready .any ops.toArray listed with
   |nil=>rfl
   |cons x l=>have:=HB aW aB x (by rw [aG];simp);simp at this
  cases fuel with
  |zero=>exact⟨te,rfl,bV _ _ _ h⟩
  |succ fuel=>exact⟨λ_=>⟨rfl,bV _ _ _ h⟩,by rw [te];simp⟩
 |quiet i s ih=>
  refine⟨λm D listed fuel f H d h _ aW av kP ee=> ?_,λm D listed fuel f H d h aW av _ ee i az=>by simp [e9.alts]at az⟩
  unfold iu at h
  split at h
  ·exact h.elim
  ·rename_i ad az
   obtain⟨aO,h⟩:=oC h
   simp only [Ho,axz]at aO
   obtain⟨⟨aO,dW⟩,nY⟩:=aO
   have lh:i<ops.length:=(axC.1 az).1
   have aB:=Ta aW az aO
   cases fuel with
   |zero=>simp [e9.depth]at kP
   |succ fuel=>
    have zA:s.depth<=fuel:=by simp [e9.depth]at kP;exact kP
    have nb:ops.toArray[i]?=some ad:=by simpa using az
    have qR:=av.set bM aB
    rcases Hy h with⟨hw,h⟩|⟨hw,h⟩
    ·obtain⟨v,hk,ai,xU⟩:=Lq h
     have aA:YieldsIf P ops.toArray (λw=>hF (gS P n f ad v) w.heap) ad v (cJ Df n f):=.inl ⟨hw,λw hw=>by rw [xG];exact xU w hw⟩
     refine Yz iA nb (Region.noSelect_spec pd) (λc a w aH=>by cases aH.1) bM fuel listed (pe D) (cJ Df n f) (bf E H d) (HC aW aO) av aB aA ai (xT.2 ee) ?_
     rw [j9]
     cases bS:gS P n f ad v with
     |none=>
      rw [bS]at hk
      exact Pg _ _ _ _ _ (ih.1 _ _ _ _ _ _ d hk nY (aW.set lh) qR zA ee)
     |some F=>
      rw [bS]at hk ai
      refine ih.1 _ _ _ _ _ _ d hk nY (aW.set lh) qR zA λx aa=> ?_
      rcases axA.1 aa with rfl|aa
      ·exact ai
      ·exact ee x aa
    ·have aA:YieldsIf P ops.toArray (λ_=>True) ad undef (cJ Df n f):=.inr ⟨hw,rfl⟩
     refine Yz iA nb (Region.noSelect_spec pd) (λc a w aH=>by cases aH.1) bM fuel listed (pe D) (cJ Df n f) (bf E H d) (HC aW aO) av aB aA trivial (xT.2 ee) ?_
     rw [j9]
     exact Pg _ _ _ _ _ (ih.1 _ _ _ _ _ _ d h nY (aW.set lh) qR zA ee)
 |pick s ih=>
  refine⟨λm D listed fuel f H d h _ aW av kP ee=> ?_,λm D listed fuel f H d h aW av _ ee i az=>by simp [e9.alts]at az⟩
  unfold iu at h
  obtain⟨aB,h⟩:=oC h
  simp only [Hp,axz]at aB
  obtain⟨aB,bW⟩:=aB
  have cP:Region.ready .any ops.toArray listed≠[]:=by
   cases nV:s.alts with
   |nil=>rw [nV]at bW;cases bW
   |cons i l=>
    rw [nV]at bW
    simp only [DK]at bW
    split at bW
    ·rename_i ad aw
     simp only [axz,Bool.not_eq_true']at bW
     intro te
     have lh:i<ops.length:=(axC.1 aw).1
     have:i∈Region.ready .any ops.toArray listed:=by
      refine mem_ready.2 ⟨by rw [aW.getD lh];exact bW.1,ad,by simpa using aw,λe he wg=> ?_⟩
      have h1:=bW.2
      unfold xJ at h1
      rw [List.all_eq_true]at h1
      have:=h1 e (by simpa using he)
      rw [wg]at this
      have uG:gM m e.on=true:=by simpa using this
      rw [aW.getD (aW.lt _ uG)]
      exact uG
     rw [te]at this
     cases this
    ·cases bW
  have j':s.depth<=fuel:=kP
  cases fuel with
  |zero=>
   exfalso
   cases s with
   |alt i s r=>
    simp only [e9.depth]at j'
    cases h4:axF (s.depth+1) r.depth with
    |true=>rw [h4]at j';have:=ax1 h4;simp only [cond_true]at j';omega
    |false=>rw [h4]at j';simp only [cond_false]at j';omega
   |_=>simp [e9.alts,DK]at bW
  |succ fuel=>
   refine⟨λaF=>absurd aF cP,λi az=> ?_⟩
   exact ih.2 m D listed fuel f H d h aW av j' ee i (HB aW aB i az) az
 |alt i s r ih td=>
  refine⟨λm D listed fuel f H d h hm=>by simp [e9.zu]at hm,λm D listed fuel f H d h aW av kP ee k hk yU=> ?_⟩
  unfold iu at h
  split at h
  ·exact h.elim
  ·rename_i ad az
   obtain⟨nY,h⟩:=oC h
   have j':s.depth<=fuel/\r.depth<=fuel+1:=by
    simp only [e9.depth]at kP
    cases h4:axF (s.depth+1) r.depth with
    |true=>rw [h4]at kP;have:=ax1 h4;simp only [cond_true]at kP;omega
    |false=>
     rw [h4]at kP
     simp only [cond_false]at kP
     have:¬s.depth+1<=r.depth:=λhle=>by rw [Nat.ble_eq_true_of_le hle]at h4;cases h4
     omega
   have here:guarded ops n ad f
     (λf=>se P n f ad H λv H'=>uD (iE bef i D) H' (iu P n ops bef K s (mw m i) (iE bef i D) (eI f ad.dst v) H'))
     (λf=>iu P n ops bef K s (mw m i) (iE bef i D) (eI f ad.dst undef) H)/\(k≠i->iu P n ops bef K r m D f H/\r.rL=false):=by
    cases qF:r.rL with
    |true=>
     rw [qF]at h
     refine⟨h,λcP=> ?_⟩
     exfalso
     cases r<;>simp [e9.rL]at qF
     simp [e9.alts]at hk
     exact cP hk
    |false=>rw [qF]at h;exact⟨h.1,λ_=>⟨h.2,rfl⟩⟩
   by_cases s8:k=i
   ·subst s8
    have lh:k<ops.length:=(axC.1 az).1
    have qR:=av.set bM yU
    rw [LB]
    unfold wpOpIn
    have nb:ops.toArray[k]?=some ad:=by simpa using az
    simp only [nb]
    have DY:∀x∈iE bef k D,x∈D:=by
     have aux:∀D:lk,∀x∈iE bef k D,x∈D:=by
      intro D
      induction D with
      |nil=>intro x aa;simp [iE]at aa
      |cons y D DZ=>
       obtain⟨LC,aey⟩:=y
       intro x aa
       simp only [iE]at aa
       cases h4:gM (bef.getD k 0) LC with
       |true=>rw [h4]at aa;exact axU _ (DZ x aa)
       |false=>
        rw [h4]at aa
        rcases axA.1 aa with rfl|aa
        ·exact aye ..
        ·exact axU _ (DZ x aa)
     exact aux D
    rcases Hy here.1 with⟨hw,h⟩|⟨hw,h⟩
    ·rw [if_pos hw]
     refine JQ h E (λv H' d' fe=> ?_) d
     obtain⟨h1,ab⟩:=HF fe
     exact⟨xT.2 h1,ih.1 _ _ _ _ _ _ d' ab nY (aW.set lh) qR j'.1 h1⟩
    ·rw [if_neg (by rw [hw];simp),j9]
     exact⟨λ_ _=>trivial,xT.2 λx aa=>ee x (DY x aa),ih.1 _ _ _ _ _ _ d h nY (aW.set lh) qR j'.1 λx aa=>ee x (DY x aa)⟩
   ·obtain⟨ab,_⟩:=here.2 s8
    have dc:k∈r.alts:=by
     simp only [e9.alts,axA]at hk
     rcases hk with h|h
     ·exact absurd h s8
     ·exact h
    exact td.2 m D listed fuel f H d ab aW av j'.2 ee k dc yU
 |stop=>exact⟨λm D listed fuel f H d h=>h.elim,λm D listed fuel f H d h=>h.elim⟩
theorem asc{ro:Option Nat}{ops:List Oper}{bef:List Nat}{s:e9}{E:Env}{Q:Exit->Act->World->Prop}{id:Nat}(hm:P.follows .mixedOrders=true)(bV:∀f H d,K f H->Q .normal (cJ Df n f) (bf E H d))
  (bM:Bz ops bef s=true) (asd:F2 ops=true) (h:iu P n ops bef K s 0 [] f H) (d:kK E):(Code.region id ops.toArray true).wpIn (l7 ro) 0 P Q (cJ Df n f) (bf E H d):=by
 simp only [Bz,axz]at bM
 obtain⟨⟨⟨al,pd⟩,j'⟩,nY⟩:=bM
 refine Code.wpIn_mono (Q:=λe a w=>e=.normal/\Q .normal a w) (λe a w aO=>by obtain⟨rfl,aO⟩:=aO;exact aO) ?_
 have cd:Told ops 0 (ayP ops.toArray.size false):=by
  refine⟨by simp,λi az=> ?_,λi az=>by simp [rM]at az⟩
  have:i<ops.toArray.size:=by simpa using az
  simp [rM,az]
 have dj:qQ (lC bef) (ayP ops.toArray.size false):=by
  intro x aa
  rw [Array.getD_eq_getD_getElem?,ay8]at aa
  split at aa<;>simp at aa
 exact wpIn_region_any hm (Yx (bef:=lC bef) _ _ [] _ _
  ((asb (Q:=λa w=>Q .normal a w) bV al pd (λi ad h c=>Yp asd i ad (by simpa using h) c) s).1 0 [] _ ops.toArray.size f H (up d) h nY cd dj (by simpa using ax1 j') (by simp)))
theorem yH{ro:Option Nat}{ops:List Oper}{Q:Exit->Act->World->Prop}
  {E:Env} (bV:∀f H d,K f H->Q .normal (cJ Df n f) (bf E H d)):∀(l:List Oper) (f:F) (H:U),lN P n ops l f H K->∀d,wpListIn (l7 ro) 0 P ops.toArray Q l (cJ Df n f) (bf E H d)
 |[],f,H,h,d=>bV f H d h
 |ad::rest,f,H,h,d=>by
  unfold lN at h
  unfold wpListIn
  split at h
  ·rename_i kN
   rw [if_pos (Hw kN)]
   exact JQ h E (λv H' d' hk=>yH bV rest _ _ hk d') d
  ·rename_i j want kN
   split at h
   ·rename_i hs
    rw [if_neg (by rw [xN kN (.inl hs)];simp),j9]
    exact⟨λ_ _=>trivial,yH bV rest _ _ h d⟩
   ·rename_i da hs
    split at h
    ·rename_i c av
     have aL:cJ Df n (gq f da (.bool c))=cJ Df n f:=Ls av
     have hw:=Hx (Df:=Df) kN hs av
     have aef:b8 n (gq f da (.bool c)) (.tmp da)=.bool c:=by
      have:=vZ (Df:=Df) n (gq f da (.bool c)) (.tmp da)
      rw [aL,vZ]at this
      rw [<-this];exact av
     cases c<;>cases want<;>simp only [aU,cond_true,cond_false]at h
     ·rw [if_pos (by rw [hw];rfl),<-aL]
      exact JQ h E (λv H' d' hk=>yH bV rest _ _ hk d') d
     ·rw [if_neg (by rw [hw];simp),<-aL,j9]
      exact⟨λ_ _=>trivial,yH bV rest _ _ h d⟩
     ·rw [if_neg (by rw [hw];simp),<-aL,j9]
      exact⟨λ_ _=>trivial,yH bV rest _ _ h d⟩
     ·rw [if_pos (by rw [hw];rfl),<-aL]
      exact JQ h E (λv H' d' hk=>yH bV rest _ _ hk d') d
    ·rename_i av
     rw [if_neg (by rw [xN kN (.inr ⟨da,hs,av⟩)];simp),j9]
     exact⟨λ_ _=>trivial,yH bV rest _ _ h d⟩
theorem sg{ro:Option Nat}{dL:List Nat->hE}(hm:P.follows .mixedOrders=true){E:Env}:∀(c:Code) (p:List Nat) {K:lV->F->U->Prop} {Q:Exit->Act->World->Prop}
  (_hQ:∀e f H d,K e f H->Q (lV.BA e) (cJ Df n f) (bf E H d)) (f:F) (H:U),h7 P n dL c p K f H->∀d,c.wpIn (l7 ro) 0 P Q (cJ Df n f) (bf E H d)
 | .skip,_,_,_,bV,f,H,h,d=>wpIn_skip (bV .normal f H d h)
 | .region id ops draw,p,K,Q,bV,f,H,h,d=>by
  unfold h7 at h
  cases draw with
  |false=>
   refine wpIn_region_list ?_
   have:=yH (ro:=ro) (Q:=Q) (λf H d k=>bV .normal f H d k) ops.toList f H (ar5 h) d
   simpa using this
  |true=>
   simp only [cond_true]at h
   split at h
   ·obtain⟨bM,h⟩:=oC h
    obtain⟨fl,h⟩:=oC h
    have e:Code.region id ops true=Code.region id ops.toList.toArray true:=by simp
    rw [e]
    exact asc hm (λf H d k=>bV .normal f H d k) bM fl h d
   ·exact h.elim
 | .seq a b,p,K,Q,bV,f,H,h,d=>by
  unfold h7 at h
  refine wpIn_seq ?_
  split at h
  ·rename_i live _
   obtain⟨M,h1,ab⟩:=h
   refine sg (ro:=ro) hm a _ (λe bL H' d' k=> ?_) f H (tR a _ f H h1) d
   obtain⟨fq,gT⟩:=k
   cases e with
   |normal=>
    obtain⟨ar,a7⟩:=zm fq (ab bL)
    have:=sg (ro:=ro) hm b _ bV _ _ (ar H' a7) d'
    rw [HH gT]at this
    exact this
   |_=>exact bV _ _ _ _ fq
  ·refine sg (ro:=ro) hm a _ (λe bL H' d' k=> ?_) f H h d
   cases e with
   |normal=>exact k.elim
   |_=>exact bV _ _ _ _ k
  ·refine sg (ro:=ro) hm a _ (λe bL H' d' k=> ?_) f H h d
   cases e with
   |normal=>exact sg (ro:=ro) hm b _ bV _ _ k d'
   |_=>exact bV _ _ _ _ k
 | .cond c a b,p,K,Q,bV,f,H,h,d=>by
  unfold h7 at h
  split at h
  ·rename_i c av
   refine wpIn_cond (t:=c) (by rw [vZ];exact av) ?_
   cases c
   ·exact sg (ro:=ro) hm b _ bV _ _ (Hq h) d
   ·exact sg (ro:=ro) hm a _ bV _ _ (Hq h) d
  ·exact h.elim
 | .block id c,p,K,Q,bV,f,H,h,d=>by
  unfold h7 at h
  refine wpIn_block (sg (ro:=ro) hm c _ (λe bL H' d' k=> ?_) f H h d)
  cases e with
  |exit i=>
   simp only [lV.BA,Exit.inBlock]
   cases al:LY i id with
   |true=>
    rw [if_pos (axB al)]
    simp only [al,cond_true]at k
    exact bV .normal _ _ _ k
   |false=>
    rw [if_neg (λe=>by subst e;simp at al)]
    simp only [al,cond_false]at k
    exact bV (.exit i) _ _ _ k
  |normal=>exact bV .normal _ _ _ k
  |ret=>exact bV .ret _ _ _ k
 | .loop c,p,K,Q,bV,f,H,h,d=>by
  unfold h7 at h
  split at h
  ·rename_i live _
   obtain⟨I,ki,h1,ab⟩:=h
   refine wpIn_loop (λa w=>∃bL H' d',a=cJ Df n bL/\w=bf E H' d'/\eN (writes c) f bL/\oB (mY live) (gE n bL live) (I (gE n bL live) H'))
    (λa w=>ki (gE n (λi=>a.tmps.getD i undef) live) w.heap) ⟨f,H,d,rfl,rfl,eN.refl _ _,h1⟩ ?_
   rintro a w ⟨bL,H',d',rfl,rfl,D0,dK⟩
   obtain⟨ar,a7⟩:=zm dK (ab bL)
   have bs:=tR c _ _ _ (ar H' a7)
   have b5:=sg (ro:=ro) (E:=E) hm c (0::p) (Q:=Exit.then (λaV w'=>(∃bL H' d',aV=cJ Df n bL/\w'=bf E H' d'/\eN (writes c) f bL/\oB (mY live) (gE n bL live) (I (gE n bL live) H'))∧
     ki (gE n (λi=>aV.tmps.getD i undef) live) w'.heap<ki (gE n (λi=>(cJ Df n bL).tmps.getD i undef) live) (bf E H' d').heap) Q) (λe ll dn tg k=> ?_) _ _ bs d'
   ·rw [HH D0]at b5
    exact b5
   ·obtain⟨fq,gT⟩:=k
    have aI:∀g:F,gE n (λi=>(cJ Df n g).tmps.getD i undef) live=gE n g live:=λg=>Ti n g live
    cases e with
    |normal=>
     refine⟨⟨ll,dn,tg,rfl,rfl,λi az=> ?_,Lh (λk=>k.1) fq⟩,?_⟩
     ·rw [gT i az];exact BD _ _ _ _ _ i az
     ·rw [aI,aI]
      have key:∀(l:List jj) (ae:List Value) (X:Prop),oB l ae X->X:=λl ae X h=>by
       have:p0 l λ_=>True:=by
        have aux:∀(l:List jj) (K:List Value->Prop),(∀ae,K ae)->p0 l K:=by
         intro l
         induction l with
         |nil=>intro K eL;exact eL _
         |cons s l ih=>
          intro K eL
          have D1:∀(b:B) (G:Value->Prop),(∀v,G v)->qL b G:=by
           intro b G cx;cases b<;>simp only [qL]<;>intros<;>exact cx _
          have LD:∀(cU:List B) (G:List Value->Prop),(∀ae,G ae)->xI cU G:=by
           intro cU
           induction cU with
           |nil=>intro G cx;exact cx _
           |cons b cU LF=>intro G cx;exact D1 b _ λv=>LF _ λae=>cx _
          cases s with
          |one b=>exact D1 b _ λv=>ih _ λae=>eL _
          |agg cU=>exact LD cU _ λv=>ih _ λae=>eL _
        exact aux l _ λ_=>trivial
       exact(zm h this).2
      exact(key _ _ _ fq).2
    |exit i=>exact bV (.exit i) _ _ _ fq
    |ret=>exact bV .ret _ _ _ fq
  ·exact h.elim
 | .exit id,_,_,_,bV,f,H,h,d=>wpIn_exit (bV (.exit id) f H d h)
 | .ret,_,_,_,bV,f,H,h,d=>wpIn_ret (bV .ret f H d h)
 | .rangeFunc ..,_,_,_,_,_,_,h,_=>h.elim
 | .scope _,_,_,_,_,_,_,h,_=>h.elim
 | .label _,_,_,_,_,_,_,h,_=>h.elim
 | .goto _,_,_,_,_,_,_,h,_=>h.elim
 | .refuse _,_,_,_,_,_,_,h,_=>h.elim
theorem F3{k:FuncId}{fn:Func}{c:Code}{args:List Value}{rs:List ResultVar}{R:Value->U->Prop}(dL:List Nat->hE)(hm:P.follows .mixedOrders=true)
  (ai:P.funcs[k]?=some fn) (al:fn.body=some c) (ay:fn.ntmps=n) (aB:fn.results.toList=rs) (hle:axF args.length n=true)
  (h:h7 P n dL c [] (Hs P n rs R) (s6 args) H):fo P k args.toArray H R:=by
 intro E d
 refine calls_of_wp ai al ?_
 rw [HJ ay hle]
 refine(wpIn_wide (n:=0)).1 ?_
 refine sg (ro:=none) hm c [] (λe f H' d' k=> ?_) _ H h d
 have fin:nX P n f H' rs (λae=>R (my ae) H')->∃v,(results fn (cJ [] n f).tmps).run P (bf E H' d')=.ok v (bf E H' d')/\∃gZ dn tg,Ending.returned v=.returned gZ/\bf E H' d'=bf E dn tg/\R gZ dn:=λh=>by
  obtain⟨v,h1,ab⟩:=HK (Df:=[]) (fn:=fn) (d':=d') (X:=λv=>R v H') aB h
  exact⟨v,h1,v,H',d',rfl,rfl,ab⟩
 cases e with
 |normal=>exact⟨rfl,fin k⟩
 |ret=>exact⟨rfl,fin k⟩
 |exit i=>exact k.elim
def dO(H:U)(l:Nat)(bc:Loop)(st:LoopState)(j:Option Code):Prop:=H[l]?=some (.loop {bc with state:=st,pending:=j})
def cC(H:U)(l:Nat)(bc:Loop)(st:LoopState)(j:Option Code):U:=H.setIfInBounds l (.loop {bc with state:=st,pending:=j})
def hT(H:U)(D:Nat):Prop:=H[D]?=some (.deferred (some []))
def ir(H:U)(D:Nat):U:=H.setIfInBounds D (.deferred none)
def tS(H:U)(D l:Nat)(bc:Loop)(H':U):Prop:=D=H.size/\l=H.size+1/\H'=(H.push (.deferred (some []))).push (.loop {bc with state:=.ready,pending:=none})
def CG:List Nat->List Value->F->F
 |p::ps,v::ae,f=>CG ps ae (gq f p v)
 |_,_,f=>f
def slotsOf:Live->List Nat
 |[]=>[]
 |s::l=>s.1::slotsOf l
theorem YA{b:B}{K:Value->Prop}(h:∀v,K v):qL b K:=by cases b<;>simp only [qL]<;>intros<;>exact h _
theorem YB:∀{l:List B} {K:List Value->Prop},(∀ae,K ae)->xI l K
 |[],_,h=>h _
 |_::_,_,h=>YA λv=>YB λae=>h _
theorem Ph:∀{l:List jj} {K:List Value->Prop},(∀ae:List Value,ae.length=l.length->K ae)->p0 l K
 |[],_,h=>h _ rfl
 | .one b::l,_,h=>YA λv=>Ph λae e=>h _ (by simp [e])
 | .agg b::l,_,h=>YB λv=>Ph λae e=>h _ (by simp [e])
theorem ase(l:Live):(mY l).length=l.length:=by
 induction l with
 |nil=>rfl
 |cons s l ih=>simp [mY,ih]
theorem asf(l:Live):(slotsOf l).length=l.length:=by
 induction l with
 |nil=>rfl
 |cons s l ih=>simp [slotsOf,ih]
theorem YC:∀{a b:List Nat},DN a b=true->a=b
 |[],[],_=>rfl
 |[],_::_,h=>by cases h
 |_::_,[],h=>by cases h
 |x::a,y::b,h=>by
  unfold DN at h
  cases e:LY x y with
  |true=>rw [e]at h;rw [axB e,YC h]
  |false=>rw [e]at h;cases h
theorem asg{Df:List Deferred}(n:Nat)(f:F)(d:Nat)(v:Value):(cJ Df n f).tmps.setIfInBounds d v=(cJ Df n (gq f d v)).tmps:=by
 have:=j9 (Df:=Df) n f (some d) v
 exact congrArg Act.tmps this
theorem YD{Df:List Deferred}(n:Nat):∀(ps:List Nat) (ae:List Value) (f:F),(ps.zip ae).foldl (λtmps (t,a)=>tmps.setIfInBounds t a) (cJ Df n f).tmps=(cJ Df n (CG ps ae f)).tmps
 |[],_,_=>rfl
 |_::_,[],_=>rfl
 |p::ps,v::ae,f=>by
  simp only [List.zip_cons_cons,List.foldl_cons,CG]
  rw [asg]
  exact YD n ps ae _
def YE(P:Program)(n:Nat)(dL:List Nat->hE)(p:List Nat)(l:Nat)(bc:Loop)(assign body:Code)(fY:Value->U->Prop)(f:F)(H:U):Prop:=
 h7 P n dL assign (0::p) (λe f1 H1=>match e with
  | .normal=>dO H1 l bc .ready none/\h7 P n dL body (1::p) (λe f3 aP=>match e with
    | .normal=>dO aP l bc .busy none/\fY (.bool true) (cC aP l bc .ready none)
    | .ret=>dO aP l bc .busy none/\fY (.bool false) (cC aP l bc .done (some .ret))
    | .exit i=>dO aP l bc .busy none/\fY (.bool false) (cC aP l bc .done (some (.exit i)))) f1 (cC H1 l bc .busy none)
  |_=>False) f H
def yI:Code->Bool
 | .seq a b=>yI a||yI b
 | .cond _ a b=>yI a||yI b
 | .block _ c=>yI c
 | .loop c=>yI c
 | .rangeFunc .. =>true
 |_=>false
def yJ(P:Program)(n:Nat)(dL:List Nat->hE):Code->List Nat->(lV->Option Nat->F->U->Prop)->F->U->Prop
 | .seq a b,p,K,f,H=>
  bif yI a then yJ P n dL a (0::p) (λe hA bL H'=>match e with| .normal=>hn P n dL b (1::p) (λe ll dn=>K e hA ll dn) bL H'|e=>K e hA bL H') f H
  else hn P n dL a (0::p) (λe bL H'=>match e with| .normal=>yJ P n dL b (1::p) K bL H'|e=>K e none bL H') f H
 | .block id c,p,K,f,H=>yJ P n dL c (0::p) (λe hA bL H'=>match e with| .exit i=>(bif LY i id then K .normal hA bL H' else K (.exit i) hA bL H')|e=>K e hA bL H') f H
 | .rangeFunc g ps assign body,p,K,f,H=>
  match dL p with
  | .cut live=>dB (DN (slotsOf live) ps.toList)<|∀(D l:Nat) (bc:Loop) (H1:U),tS H D l bc H1→
    (p0 (mY live) λae=>∀(ao:U) (fY:Value->U->Prop),dO ao l bc .ready none->YE P n dL p l bc assign body fY (CG (slotsOf live) ae f) ao->oR P l ae ao fY)→
    dY P (b8 n f g) [.func (.yield l) #[] #[]] H1 λ_ a8=>
     (dO a8 l bc .ready none/\K .normal (some D) f (cC a8 l bc .exhausted none))∨
     (dO a8 l bc .done (some .ret)/\K .ret (some D) f (cC a8 l bc .exhausted (some .ret)))
  |_=>False
 |_,_,_,_,_=>False
def CH:Option Nat->List Deferred
 |none=>[]
 |some D=>[{target:=.collected D,args:= #[]}]
def ash(P:Program)(n:Nat)(rs:List ResultVar)(R:Value->U->Prop):lV->Option Nat->F->U->Prop
 | .exit _,_,_,_=>False
 |_,none,f,H=>nX P n f H rs λae=>R (my ae) H
 |_,some D,f,H=>hT H D/\nX P n f (ir H D) rs λae=>R (my ae) (ir H D)
theorem asi{dL:List Nat->hE}{p:List Nat}{l:Nat}{bc:Loop}{assign body:Code}{fY:Value->U->Prop}{ae:List Value}{ps:List Nat}(hm:P.follows .mixedOrders=true)
  (aG:dO H l bc .ready none) (hs:ae.length=ps.length) (aL:bc.params=ps.toArray) (a':bc.assign=assign) (cX:bc.body=body) (gQ:bc.tmps=(cJ [] n f).tmps)
  (h:YE P n dL p l bc assign body fY (CG ps ae f) H):oR P l ae H fY:=by
 intro E d
 refine⟨bc.fn,(cJ [] n (CG ps ae f)).tmps,assign,body,?_,?_⟩
 ·have:=run_yield (P:=P) (w:=bf E H d) (l:=l) (args:=ae.toArray) aG (by simp [aL,hs])
  rw [this]
  simp only [aL,a',cX,gQ,List.zip_toArray,ay9,List.foldl_toArray']
  rw [YD]
 ·refine roundIn_of_wpIn (F:=Fence.wide) trivial ?_
  refine sg (Df:=[]) (ro:=some l) hm assign (0::p) (λe f1 H1 d1 k=> ?_) _ H h d
  cases e with
  |normal=>
   obtain⟨kp,k⟩:=k
   refine⟨_,run_beginRound (w:=bf E H1 d1) kp rfl,?_⟩
   refine sg (Df:=[]) (ro:=some l) hm body (1::p) (λe f3 aP d3 k=> ?_) f1 (cC H1 l bc .busy none) k d1
   cases e with
   |normal=>exact⟨_,_,run_endRound (w:=bf E aP d3) none k.1,_,_,d3,rfl,rfl,k.2⟩
   |ret=>exact⟨_,_,run_endRound (w:=bf E aP d3) (some .ret) k.1,_,_,d3,rfl,rfl,k.2⟩
   |exit i=>exact⟨_,_,run_endRound (w:=bf E aP d3) (some (.exit i)) k.1,_,_,d3,rfl,rfl,k.2⟩
  |ret=>exact k.elim
  |exit i=>exact k.elim
theorem JR{dL:List Nat->hE}(hm:P.follows .mixedOrders=true){E:Env}:∀(c:Code) (p:List Nat) {K:lV->Option Nat->F->U->Prop} {Q:Exit->Act->World->Prop}
  (_hQ:∀e hA f H d,K e hA f H->Q (lV.BA e) (cJ (CH hA) n f) (bf E H d)) (f:F) (H:U),yJ P n dL c p K f H->∀d,c.wpIn (l7 none) 0 P Q (cJ [] n f) (bf E H d)
 | .seq a b,p,K,Q,bV,f,H,h,d=>by
  unfold yJ at h
  refine wpIn_seq ?_
  cases aB:yI a with
  |true=>
   rw [aB]at h
   simp only [cond_true]at h
   refine JR hm a _ (λe hA bL H' d' k=> ?_) f H h d
   cases e with
   |normal=>exact(wpIn_wide (n:=0)).2 (pf (Df:=CH hA) hm b _ (λe ll dn tg k=>bV e hA ll dn tg k) bL H' k d')
   |ret=>exact bV _ _ _ _ _ k
   |exit i=>exact bV _ _ _ _ _ k
  |false=>
   rw [aB]at h
   simp only [cond_false]at h
   refine(wpIn_wide (n:=0)).2 (pf (Df:=[]) hm a _ (λe bL H' d' k=> ?_) f H h d)
   cases e with
   |normal=>exact JR hm b _ bV bL H' k d'
   |ret=>exact bV _ none _ _ _ k
   |exit i=>exact bV _ none _ _ _ k
 | .block id c,p,K,Q,bV,f,H,h,d=>by
  unfold yJ at h
  refine wpIn_block (JR hm c _ (λe hA bL H' d' k=> ?_) f H h d)
  cases e with
  |exit i=>
   simp only [lV.BA,Exit.inBlock]
   cases al:LY i id with
   |true=>
    rw [if_pos (axB al)]
    simp only [al,cond_true]at k
    exact bV .normal _ _ _ _ k
   |false=>
    rw [if_neg (λe=>by subst e;simp at al)]
    simp only [al,cond_false]at k
    exact bV (.exit i) _ _ _ _ k
  |normal=>exact bV .normal _ _ _ _ k
  |ret=>exact bV .ret _ _ _ _ k
 | .rangeFunc g ps assign body,p,K,Q,bV,f,H,h,d=>by
  unfold yJ at h
  split at h
  ·rename_i live _
   obtain⟨lv,h⟩:=oC h
   have lv:=YC lv
   refine wpIn_rangeFunc λfn _=> ?_
   let bc:Loop:={state:=.ready,pending:=none,fn,tmps:=(cJ [] n f).tmps,params:=ps,assign,body,defers:=H.size}
   obtain⟨k,first,captured,aI,e',av⟩:=h H.size (H.size+1) bc _ ⟨rfl,rfl,rfl⟩ (Ph λae hlen ao fY aG aB=>by
    refine asi (ps:=slotsOf live) hm aG (by rw [hlen,ase,asf]) (by rw [lv]) rfl rfl rfl aB)
   have Aw:=av E d
   let Pj:World:=bf E ((H.push (.deferred (some []))).push (.loop bc)) d
   refine⟨H.size+1,[{target:=.collected H.size,args:= #[]}],Pj,{target:=.fn (.func k) captured,args:=first++ #[.func (.yield (H.size+1)) #[] #[]]},Pj,k,first++ #[.func (.yield (H.size+1)) #[] #[]]++captured,Pj,
    run_enterLoop_outer (w:=bf E H d) fn (cJ [] n f).tmps ps assign body,?_,λ_ _=>trivial,?_,λh=>by simp [l7,Fence.wide]at h,?_⟩
   ·rw [xG]
    have ed:∀v,b8 n f (.const v)=v:=λv=>rfl
    simp [resolve,Deferred.ofValue,aI,ed]
   ·simp [invoke,DT e']
   ·refine CallsIn.mono (F:=l7 none) (callsIn_wide.2 Aw) λe w'=> ?_
    rintro⟨v,a8,d4,rfl,rfl,hk⟩
    rcases hk with⟨aG,hk⟩|⟨aG,hk⟩
    ·exact⟨none,_,run_endLoop (w:=bf E a8 d4) aG (by simp),bV .normal (some H.size) f _ d4 hk⟩
    ·exact⟨some .ret,_,run_endLoop (w:=bf E a8 d4) aG (by simp),wpIn_ret (bV .ret (some H.size) f _ d4 hk)⟩
  ·exact h.elim
 | .skip,_,_,_,_,_,_,h,_=>h.elim
 | .region ..,_,_,_,_,_,_,h,_=>h.elim
 | .cond ..,_,_,_,_,_,_,h,_=>h.elim
 | .loop _,_,_,_,_,_,_,h,_=>h.elim
 | .exit _,_,_,_,_,_,_,h,_=>h.elim
 | .ret,_,_,_,_,_,_,h,_=>h.elim
 | .scope _,_,_,_,_,_,_,h,_=>h.elim
 | .label _,_,_,_,_,_,_,h,_=>h.elim
 | .goto _,_,_,_,_,_,_,h,_=>h.elim
 | .refuse _,_,_,_,_,_,_,h,_=>h.elim
theorem F4{k:FuncId}{fn:Func}{c:Code}{args:List Value}{rs:List ResultVar}{R:Value->U->Prop}(dL:List Nat->hE)(hm:P.follows .mixedOrders=true)
  (ai:P.funcs[k]?=some fn) (al:fn.body=some c) (ay:fn.ntmps=n) (aB:fn.results.toList=rs) (hle:axF args.length n=true)
  (h:yJ P n dL c [] (ash P n rs R) (s6 args) H):fo P k args.toArray H R:=by
 intro E d
 refine callsIn_wide.1 (callsIn_of_wp_marks (n:=0) ai al trivial ?_)
 rw [HJ ay hle]
 refine JR hm c [] (λe hA f H' d' k=> ?_) _ H h d
 have fin:∀(hA:Option Nat) (H':U) (d':kK E),nX P n f H' rs (λae=>R (my ae) H')->LeavesIn Fence.wide 0 P fn (cJ (CH hA) n f).tmps (λe w'=>∃v H' d',e=.returned v/\w'=bf E H' d'/\R v H') [] .returning (bf E H' d'):=λhA H' d' h=>by
  obtain⟨v,h1,ab⟩:=HK (Df:=CH hA) (fn:=fn) (d':=d') (X:=λv=>R v H') aB h
  exact⟨v,h1,v,H',d',rfl,rfl,ab⟩
 have all:∀(hA:Option Nat),(match hA with|none=>nX P n f H' rs λae=>R (my ae) H'|some D=>hT H' D/\nX P n f (ir H' D) rs λae=>R (my ae) (ir H' D))→
   LeavesInM Fence.wide 0 P fn (cJ (CH hA) n f).tmps (λe w'=>∃v H' d',e=.returned v/\w'=bf E H' d'/\R v H') (CH hA) .returning (bf E H' d'):=λhA k=>by
  cases hA with
  |none=>exact fin none H' d' k
  |some D=>exact⟨by simp,.inl ⟨D,bf E (ir H' D) d',rfl,run_takeDeferred (w:=bf E H' d') k.1,fin (some D) (ir H' D) d' k.2⟩⟩
 cases e with
 |normal=>exact all hA (by cases hA<;>exact k)
 |ret=>exact all hA (by cases hA<;>exact k)
 |exit i=>exact k.elim
end Go.bk
