/- A part of a proof: see the last text of this claim. -/
import Derived.WalkKit
import Derived.Laws.StructEq
import Derived.StillTail
import Derived.Deep.Quiet
import Derived.OrdersHeld
import Derived.ProofKit
import Derived.OpenShut
import Derived.Carry
import Derived.Deep.Slices
import Derived.Laws.MakeOwn
import Derived.Laws.OwnMore
import Derived.Lib.AppendStr
import Derived.Lib.UnsafeStr
import Derived.Lib.MakeNoZero
import Derived.Lib.Builder
import Derived.Laws.Externs
import Derived.Laws.IdiomStrings
import Derived.Laws.BytesString
import Derived.Laws.Strings
import GoSem.Op.String
import Derived.Defers
open _root_.Go.Sem renaming run_bind→bd,run→nR,run_pure→s5,bind→MV,run_map→asr
open _root_.Go.Result renaming andThen_ok→bx
open _root_.Nat renaming beq→nP,le_refl→nQ,eq_of_beq_eq_true→oK,ble→pt,blt→qa,zero_add→zd,add_mul→A1,lor→HP,mul_le_mul_right→HR,le_of_ble_eq_true→MW,blt_eq→VB,pow→VC,le_trans→VF,le_of_eq→apF,zero_le→apG,mod_lt→apO,le_succ→ash,zero_mul→asv,testBit_or→asw,lt_of_lt_of_le→asB,reduceSub→asJ,ne_of_lt→asL,le_succ_of_le→asN,ble_eq_true_of_le→asP,testBit_two_pow→asR,le_mul_of_pos_right→asZ
open _root_.Bool renaming and_eq_true→oJ,false_eq_true→vV,true_and→ad1,false_and→ad3,not_eq_true'→ad4,or_eq_false_iff→apQ,not_true→asm,or_eq_true→asy
open _root_.List renaming mem_cons→o3,getElem?_eq_some_iff→qb,map_cons→qO,mem_map_of_mem→A2,getElem?_take→Ep,flatMap_cons→Er,getElem?_toArray→HQ,filter_cons→MX,mem_cons_of_mem→MY,getElem?_cons_zero→MZ,mem_filter→VD,all_eq_true→VE,getElem?_drop→VG,length_append→VH,mem_cons_self→ad5,mem_map→ad6,length_take→apH,nodup_cons→apI,getElem?_append→apM,getElem?_map→apN,getD_eq_getElem?_getD→apS,getElem?_cons_succ→arF,mem_singleton→ar7,append_assoc→ar8,getElem?_eq_getElem→asj,range→asl,foldl_cons→asn,mapM_cons→asp,ext_getElem?→ast,getElem?_eq_none→asu,cons_append→asx,size_toArray→asA,length_cons→asE,eq_nil_of_length_eq_zero→asF,take_of_length_le→asG,length_drop→asH,take_length→asM,forIn_cons→asO,take_succ_cons→asS,mem_append→asU,drop_eq_nil_of_le→asV,getElem?_append_left→asW,getElem?_append_right→asX,flatMap_append→asY,append_nil→as0,mem_flatMap→as1,map_append→as2,nodup_append→as3,filter_sublist→as4,filter_eq_self→as5,mem_toArray→as7,nil_append→as8,flatMap_nil→atb,length_nil→atc
open _root_.Array renaming toList_map→xC,length_toList→Eo,getElem?_ofFn→M0,getD_eq_getD_getElem?→ad0,getElem?_push→ad7,ext_getElem?→apL,replicate→apR,getElem?_eq_some_iff→aro,mem_filter→asi,ext'→aso,mapM_eq_mapM_toList→asq,range→ass,getElem?_replicate→asz,getElem?_modify→asC,getElem?_eq_none→asQ,getElem?_append→asT
open _root_.Go.Value renaming agg→VI,ownBlock→asg,int→asK
open _root_.ByteArray renaming mk→apJ,empty→asI
open _root_.UInt8 renaming ofNat→apK,lt_or_lt_of_ne→ata
open _root_.Option renaming map_some→apP,map_none→as6,isSome_none→as9
open _root_.Int renaming toNat_natCast→asD
set_option linter.unusedVariables false
set_option maxRecDepth 100000
namespace Go.bs
open Go
abbrev J:=Array Obj
structure Env where
 tape:Nat->Question->Nat
 os:Os
 output:Array (Nat×ByteArray)
 er:Nat
abbrev kb(E:Env):={x:Nat//E.er<=x}
abbrev up{E:Env}(d:kb E):kb E:=⟨d.1+1,asN d.2⟩
def a8(E:Env)(H:J)(d:kb E):World:={heap:=H,tape:=E.tape,drawn:=d.1,os:=E.os,output:=E.output}
theorem M6(w:World):w=a8 ⟨w.tape,w.os,w.output,w.drawn⟩ w.heap ⟨w.drawn,nQ _⟩:=rfl
def aY(P:Program)(k:FuncId)(args:Array Value)(H:J)(R:Value->J->Prop):Prop:=
 ∀E d,Calls P k args (a8 E H d) (λe w'=>∃v H' d',e=.returned v/\w'=a8 E H' d'/\R v H')
def cj(P:Program)(s:Sem Value)(H:J)(K:Value->J->Prop):Prop:=
 ∀E d,∃v H' d',s.run P (a8 E H d)=.ok v (a8 E H' d')/\K v H'
def iQ(P:Program)(s:Sem Unit)(H:J)(K:J->Prop):Prop:=
 ∀E d,∃H' d',s.run P (a8 E H d)=.ok () (a8 E H' d')/\K H'
def Rd(P:Program)(s:Sem Value)(H:J)(v:Value):Prop:=∀w:World,w.heap=H->s.run P w=.ok v w
def cR(P:Program)(t:TypeId)(H:J)(a:Addr)(v:Value):Prop:=Rd P (loadVar t a) H v
def fb(P:Program)(t:TypeId)(H:J)(a:Addr)(v:Value)(H':J):Prop:=
 ∀w:World,w.heap=H->(storeVar t a v).run P w=.ok () {w with heap:=H'}
def ds(H:J)(b:Nat)(o:Obj)(H':J):Prop:=b=H.size/\H'=H.push o
abbrev F:=Nat->Value
def fc(f:F)(d:Nat)(v:Value):F:=λi=>cond (nP i d) v (f i)
def eB(f:F):Option Nat->Value->F
 |some d,v=>fc f d v
 |none,_=>f
def cu(Df:List Deferred)(n:Nat)(f:F):Act:={tmps:=Array.ofFn (n:=n) (λi=>f i.val),defers:=Df}
variable{Df:List Deferred}
def cd(n:Nat)(f:F):Operand->Value
 | .tmp t=>cond (qa t n) (f t) undef
 | .const v=>v
 | .global g=>.pointer (some ⟨g,0,none⟩)
 | .func k=>.func (.func k) #[] #[]
def fv(n:Nat)(f:F):List Operand->List Value
 |[]=>[]
 |x::l=>cd n f x::fv n f l
def xD(n:Nat)(f:F):List (Nat×Operand)->List (Nat×Value)
 |[]=>[]
 |x::l=>(x.1,cd n f x.2)::xD n f l
def Ew(n:Nat)(f:F):Option Operand->Option Value
 |none=>none
 |some x=>some (cd n f x)
theorem uz(n:Nat)(f:F)(x:Operand):(cu Df n f).eval x=cd n f x:=by
 cases x with
 |tmp t=>
  simp only [Act.eval,cu,cd,ad0,M0]
  by_cases h:t<n
  ·have h':qa t n=true:=by simpa [VB]using h
   simp [h,h']
  ·have h':qa t n=false:=by
    cases ah:qa t n with
    |false=>rfl
    |true=>exact absurd (by simpa [VB]using ah) h
   simp [h,h']
 |const v=>rfl
 |global g=>rfl
 |func k=>rfl
theorem vX(n:Nat)(f:F):(cu Df n f).eval=cd n f:=funext (uz n f)
theorem xE(n:Nat)(f:F)(l:List Operand):fv n f l=l.map (cd n f):=by
 induction l with
 |nil=>rfl
 |cons x l ih=>simp [fv,ih]
theorem M7(n:Nat)(f:F)(l:List (Nat×Operand)):xD n f l=l.map (λx=>(x.1,cd n f x.2)):=by
 induction l with
 |nil=>rfl
 |cons x l ih=>simp [xD,ih]
theorem VX(n:Nat)(f:F)(x:Option Operand):Ew n f x=x.map (cd n f):=by cases x<;>rfl
theorem A8(f:F)(d:Nat)(v:Value)(i:Nat):fc f d v i=if i=d then v else f i:=by
 unfold fc
 by_cases h:i=d
 ·subst h;simp
 ·have:nP i d=false:=by
   cases ah:nP i d with
   |false=>rfl
   |true=>exact absurd (oK ah) h
  simp [h,this]
variable{P:Program}{H H' cG:J}{t e eZ ts:TypeId}{n c b ck r j m i k d c2:Nat}{v x y:Value}{K b3:Value->Prop}{f g:F}{a:Option Addr}{vs:List Value}{X Y:Prop}{S bef:List Nat}{al:Addr}
theorem M8(h:∀i,i<n->f i=g i):cu Df n f=cu Df n g:=by
 unfold cu
 congr 1
 apply apL
 intro i
 simp only [M0]
 split
 ·rename_i az;rw [h i az]
 ·rfl
theorem jz(n:Nat)(f:F)(d:Option Nat)(v:Value):(cu Df n f).put d v=cu Df n (eB f d v):=by
 cases d with
 |none=>rfl
 |some d=>
  simp only [Act.put,cu,eB]
  congr 1
  apply apL
  intro i
  simp only [Array.getElem?_setIfInBounds,M0,Array.size_ofFn,A8]
  by_cases aO:d=i
  ·subst aO
   by_cases az:d<n<;>simp [az]
  ·have:¬i=d:=λh=>aO h.symm
   simp [aO,this]
theorem HT(n:Nat)(f:F)(i:Nat):(cu Df n f).tmps[i]?=if i<n then some (f i)else none:=by
 simp only [cu,M0]
 split<;>rfl
theorem vY(n:Nat)(f:F)(t:Nat):cd n f (.tmp t)=if t<n then f t else undef:=by
 unfold cd
 by_cases h:t<n
 ·have h':qa t n=true:=by simpa [VB]using h
  simp [h,h']
 ·have h':qa t n=false:=by
   cases ah:qa t n with
   |false=>rfl
   |true=>exact absurd (by simpa [VB]using ah) h
  simp [h,h']
inductive B where
 |int (k:IntKind)|bool|str|ptr|xF|slice|map|any
inductive iA where
 |one (b:B)|agg (l:List B)
inductive Ex where
 |one (s:iA)|Ey (l:List iA)
def pv:B->(Value->Prop)->Prop
 | .int k,K=>∃n:Int,K (.int k n)
 | .bool,K=>∃b:Bool,K (.bool b)
 | .str,K=>∃s:ByteArray,K (.string s)
 | .ptr,K=>∃a:Option Addr,K (.pointer a)
 | .xF,K=>∃a:Addr,K (.pointer (some a))
 | .slice,K=>∃(a:Option Addr) (n c:Nat),K (.slice a n c)
 | .map,K=>∃r:Option Nat,K (.map r)
 | .any,K=>∃v:Value,K v
def A9:List B->(List Value->Prop)->Prop
 |[],K=>K []
 |b::l,K=>pv b λv=>A9 l λvs=>K (v::vs)
def xG:iA->(Value->Prop)->Prop
 | .one b,K=>pv b K
 | .agg l,K=>A9 l λvs=>K (.agg ⟨vs⟩)
def A':List iA->(List Value->Prop)->Prop
 |[],K=>K []
 |s::l,K=>xG s λv=>A' l λvs=>K (v::vs)
def nT:Ex->(Value->Prop)->Prop
 | .one s,K=>xG s K
 | .Ey l,K=>A' l λvs=>K (.tuple ⟨vs⟩)
def qd:B->(Value->Prop)->Prop
 | .int k,K=>∀n:Int,K (.int k n)
 | .bool,K=>∀b:Bool,K (.bool b)
 | .str,K=>∀s:ByteArray,K (.string s)
 | .ptr,K=>∀a:Option Addr,K (.pointer a)
 | .xF,K=>∀a:Addr,K (.pointer (some a))
 | .slice,K=>∀(a:Option Addr) (n c:Nat),K (.slice a n c)
 | .map,K=>∀r:Option Nat,K (.map r)
 | .any,K=>∀v:Value,K v
def vZ:List B->(List Value->Prop)->Prop
 |[],K=>K []
 |b::l,K=>qd b λv=>vZ l λvs=>K (v::vs)
def Ez:iA->(Value->Prop)->Prop
 | .one b,K=>qd b K
 | .agg l,K=>vZ l λvs=>K (.agg ⟨vs⟩)
def pw:List iA->(List Value->Prop)->Prop
 |[],K=>K []
 |s::l,K=>Ez s λv=>pw l λvs=>K (v::vs)
theorem uA{b:B}(h:pv b K):∃v,K v:=by
 cases b<;>simp only [pv]at h
 case slice=>obtain⟨a,n,c,h⟩:=h;exact⟨_,h⟩
 all_goals(obtain⟨x,h⟩:=h;exact⟨_,h⟩)
theorem M9:∀{l:List B} {K:List Value->Prop},A9 l K->∃vs,K vs
 |[],_,h=>⟨[],h⟩
 |_::_,_,h=>let⟨v,h1⟩:=uA h;let⟨vs,ae⟩:=M9 h1;⟨v::vs,ae⟩
theorem Ba{s:iA}(h:xG s K):∃v,K v:=by
 cases s with
 |one b=>exact uA h
 |agg l=>obtain⟨vs,h⟩:=M9 h;exact⟨_,h⟩
theorem M':∀{l:List iA} {K:List Value->Prop},A' l K->∃vs,K vs
 |[],_,h=>⟨[],h⟩
 |_::_,_,h=>let⟨v,h1⟩:=Ba h;let⟨vs,ae⟩:=M' h1;⟨v::vs,ae⟩
theorem s6{t:Ex}(h:nT t K):∃v,K v:=by
 cases t with
 |one b=>exact Ba h
 |Ey l=>obtain⟨vs,h⟩:=M' h;exact⟨_,h⟩
theorem uB{b:B}(hk:∀v,K v->b3 v)(h:pv b K):pv b b3:=by
 cases b<;>simp only [pv]at h⊢
 case slice=>obtain⟨a,n,c,h⟩:=h;exact⟨a,n,c,hk _ h⟩
 all_goals(obtain⟨x,h⟩:=h;exact⟨x,hk _ h⟩)
theorem Na:∀{l:List B} {K b3:List Value->Prop},(∀v,K v->b3 v)->A9 l K->A9 l b3
 |[],_,_,hk,h=>hk _ h
 |_::_,_,_,hk,h=>uB (λ_ h1=>Na (λ_ ae=>hk _ ae) h1) h
theorem EA{s:iA}(hk:∀v,K v->b3 v)(h:xG s K):xG s b3:=by
 cases s with
 |one b=>exact uB hk h
 |agg l=>exact Na (λ_ h=>hk _ h) h
theorem Nb:∀{l:List iA} {K b3:List Value->Prop},(∀v,K v->b3 v)->A' l K->A' l b3
 |[],_,_,hk,h=>hk _ h
 |_::_,_,_,hk,h=>EA (λ_ h1=>Nb (λ_ ae=>hk _ ae) h1) h
theorem s7{t:Ex}(hk:∀v,K v->b3 v)(h:nT t K):nT t b3:=by
 cases t with
 |one b=>exact EA hk h
 |Ey l=>exact Nb (λ_ h=>hk _ h) h
theorem Nc{b:B}(hk:∀v,K v->b3 v)(h:qd b K):qd b b3:=by
 cases b<;>simp only [qd]at h⊢<;>intros<;>exact hk _ (h ..)
theorem Nd:∀{l:List B} {K b3:List Value->Prop},(∀v,K v->b3 v)->vZ l K->vZ l b3
 |[],_,_,hk,h=>hk _ h
 |_::_,_,_,hk,h=>Nc (λ_ h1=>Nd (λ_ ae=>hk _ ae) h1) h
theorem VY{s:iA}(hk:∀v,K v->b3 v)(h:Ez s K):Ez s b3:=by
 cases s with
 |one b=>exact Nc hk h
 |agg l=>exact Nd (λ_ h=>hk _ h) h
theorem uC:∀{l:List iA} {K b3:List Value->Prop},(∀v,K v->b3 v)->pw l K->pw l b3
 |[],_,_,hk,h=>hk _ h
 |_::_,_,_,hk,h=>VY (λ_ h1=>uC (λ_ ae=>hk _ ae) h1) h
def VZ:Option Addr->Prop->Prop
 |some _,X=>X
 |none,_=>False
def okB:B->Value->Prop->Prop
 | .int k,.int k' _,X=>cond (decide (k=k')) X False
 | .bool,.bool _,X=>X
 | .str,.string _,X=>X
 | .ptr,.pointer _,X=>X
 | .xF,.pointer kc,X=>VZ kc X
 | .slice,.slice _ _ _,X=>X
 | .map,.map _,X=>X
 | .any,_,X=>X
 |_,_,_=>False
def Bb:List B->List Value->Prop->Prop
 |[],[],X=>X
 |b::l,v::vs,X=>okB b v (Bb l vs X)
 |_,_,_=>False
def ze:iA->Value->Prop->Prop
 | .one b,v,X=>okB b v X
 | .agg l,.agg cs,X=>Bb l cs.toList X
 |_,_,_=>False
def nU:List iA->List Value->Prop->Prop
 |[],[],X=>X
 |s::l,v::vs,X=>ze s v (nU l vs X)
 |_,_,_=>False
theorem Nf{b:B}(h:X->Y)(aa:okB b v X):okB b v Y:=by
 cases b<;>cases v<;>simp only [okB]at aa⊢<;>first|exact h aa|skip
 case int.int k k' n=>by_cases hk:k=k'<;>simp [hk]at aa⊢;exact h aa
 case xF.pointer kc=>
  cases kc with
  |none=>exact aa.elim
  |some a=>exact h aa
theorem Ng:∀{l:List B} {vs:List Value} {X Y:Prop},(X->Y)->Bb l vs X->Bb l vs Y
 |[],[],_,_,h,aa=>h aa
 |_::_,_::_,_,_,h,aa=>Nf (Ng h) aa
 |[],_::_,_,_,_,aa=>aa.elim
 |_::_,[],_,_,_,aa=>aa.elim
theorem V0{s:iA}(h:X->Y)(aa:ze s v X):ze s v Y:=by
 cases s with
 |one b=>exact Nf h aa
 |agg l=>cases v<;>simp only [ze]at aa⊢;exact Ng h aa
theorem HU:∀{l:List iA} {vs:List Value} {X Y:Prop},(X->Y)->nU l vs X->nU l vs Y
 |[],[],_,_,h,aa=>h aa
 |_::_,_::_,_,_,h,aa=>V0 (HU h) aa
 |[],_::_,_,_,_,aa=>aa.elim
 |_::_,[],_,_,_,aa=>aa.elim
theorem Nh{b:B}(aa:okB b v X)(h:qd b K):K v/\X:=by
 cases b<;>cases v<;>simp only [okB]at aa<;>simp only [qd]at h
 case int.int k k' n=>by_cases hk:k=k'<;>simp [hk]at aa;subst hk;exact⟨h _,aa⟩
 case xF.pointer kc=>
  cases kc with
  |none=>exact aa.elim
  |some a=>exact⟨h _,aa⟩
 all_goals exact⟨h ..,aa⟩
theorem Ni:∀{l:List B} {vs:List Value} {K:List Value->Prop} {X:Prop},Bb l vs X->vZ l K->K vs/\X
 |[],[],_,_,aa,h=>⟨h,aa⟩
 |_::_,v::_,K,_,aa,h=>let⟨h1,ae⟩:=Nh aa h;Ni (K:=λvs=>K (v::vs)) ae h1
 |[],_::_,_,_,aa,_=>aa.elim
 |_::_,[],_,_,aa,_=>aa.elim
theorem V1{s:iA}(aa:ze s v X)(h:Ez s K):K v/\X:=by
 cases s with
 |one b=>exact Nh aa h
 |agg l=>cases v<;>simp only [ze]at aa;exact Ni aa h
theorem xH:∀{l:List iA} {vs:List Value} {K:List Value->Prop} {X:Prop},nU l vs X->pw l K->K vs/\X
 |[],[],_,_,aa,h=>⟨h,aa⟩
 |_::_,v::_,K,_,aa,h=>let⟨h1,ae⟩:=V1 aa h;xH (K:=λvs=>K (v::vs)) ae h1
 |[],_::_,_,_,aa,_=>aa.elim
 |_::_,[],_,_,aa,_=>aa.elim
def Nj:iA->List B
 | .one b=>[b]
 | .agg l=>l
def Nk(l:List B):Nat->List B
 |0=>[]
 |n+1=>l++Nk l n
def zf(P:Program):Nat->TypeId->iA
 |0,_=>.one .any
 |m+1,t=>match P.underlying t with
  |some (.int k)=>.one (.int k)
  |some .bool=>.one .bool
  |some .string=>.one .str
  |some (.pointer _)=>.one .ptr
  |some (.slice _)=>.one .slice
  |some (.map _ _)=>.one .map
  |some (.struct eT)=>.agg (eT.toList.flatMap λx=>Nj (zf P m x.type))
  |some (.array len e)=>bif qa 16 len then .one .any else .agg (Nk (Nj (zf P m e)) len)
  |_=>.one .any
def Nl(P:Program):List TypeId->List iA
 |[]=>[]
 |t::l=>zf P 8 t::Nl P l
def qe(P:Program)(t:TypeId):Ex:=
 match P.underlying t with
 |some (.tuple ts)=>.Ey (Nl P ts.toList)
 |_=>.one (zf P 8 t)
def px{α:Type}(P:Program):Sem α->Option α
 | .pure a=>some a
 | .program k=>px P (k P)
 |_=>none
theorem xI{α:Type}:∀{s:Sem α} {v:α},px P s=some v->∀w,s.run P w=.ok v w:=by
 intro s
 induction s with
 |pure a=>intro v h w;simp only [px,Option.some.injEq]at h;subst h;rfl
 |program k ih=>intro v h w;simp only [px]at h;simp only [nR];exact ih P h w
 |_=>intro v h;simp [px]at h
def aJ(c:Bool)(X Y:Prop):Prop:=match c with|true=>X|false=>Y
theorem ai{c:Bool}(h1:c=true->X)(ae:c=false->Y):aJ c X Y:=by cases c<;>simp_all [aJ]
theorem zg{c:Bool}{X' jU:Prop}(h1:X->X')(ae:Y->jU)(h:aJ c X Y):aJ c X' jU:=by cases c<;>simp_all [aJ]
def da(c:Bool)(X:Prop):Prop:=match c with|true=>X|false=>False
theorem gC{p:Prop}[Decidable p](h:p)(x:X):da (decide p) X:=by rw [decide_eq_true h];exact x
theorem cb{c:Bool}(h:c=true)(x:X):da c X:=by subst h;exact x
theorem nV{c:Bool}(h:da c X):c=true/\X:=by cases c with|true=>exact⟨rfl,h⟩|false=>exact h.elim
theorem oL{p:Prop}[Decidable p](h:da (decide p) X):p/\X:=let⟨h1,ae⟩:=nV h;⟨of_decide_eq_true h1,ae⟩
theorem fY{c:Bool}(h:X->Y)(aa:da c X):da c Y:=by cases c with|true=>exact h aa|false=>exact aa
def eO(kc:Option Addr)(K:Addr->Prop):Prop:=match kc with|some a=>K a|none=>False
theorem xJ{kc:Option Addr}{a:Addr}{K:Addr->Prop}(h:kc=some a)(k:K a):eO kc K:=by subst h;exact k
theorem Nn{kc:Option Addr}{K:Addr->Prop}(h:eO kc K):∃a,kc=some a/\K a:=by cases kc with|some a=>exact⟨a,rfl,h⟩|none=>exact h.elim
theorem No{kc:Option Addr}{K b3:Addr->Prop}(hk:∀a,K a->b3 a)(h:eO kc K):eO kc b3:=by cases kc with|some a=>exact hk _ h|none=>exact h.elim
def hV(P:Program)(t:TypeId):Nat:=match P.info? t with|some i=>i.size|none=>0
def zeroOf(P:Program)(t:TypeId):Option Value:=match P.info? t with|some i=>i.zero|none=>none
def xK(P:Program)(k:FuncId):Bool:=
 match P.funcs[k]? with
 |some fn=> !(fn.name== "runtime.NumGoroutine")&&fn.body.isSome
 |none=>false
def qP(P:Program)(k:FuncId)(args:Array Value)(H:J)(K:Value->J->Prop):Prop:=
 ∀E d,∃v H' d',(callFunc k args).run P (a8 E H d)=.ok (.value v) (a8 E H' d')/\K v H'
def HV(P:Program)(v:Value)(name:String)(args:List Value)(H:J)(K:Value->J->Prop):Prop:=
 ∃t x k r,v=.iface t x/\(∀w,(method (P.types.size+Made.depth) t x name).run P w=.ok (k,r) w)/\xK P k=true/\aY P k ⟨r::args⟩ H K
def dO(P:Program)(v:Value)(args:List Value)(H:J)(K:Value->J->Prop):Prop:=
 ∃k first captured,v=.func (.func k) first captured/\xK P k=true/\aY P k (first++args.toArray++captured) H K
def qQ:List Value->Nat->List Value->List Value
 |cs,_,[]=>cs
 |[],_,_=>[]
 |c::cs,off+1,vs=>c::qQ cs off vs
 |_::cs,0,v::vs=>v::qQ cs 0 vs
def xL(place:Nat->Option (Nat×Nat)):List Value->List (Nat×Value)->Option (List Value)
 |cs,[]=>some cs
 |cs,(i,v)::rest=>match place i with
  |none=>none
  |some (off,size)=>cond (nP v.cells.toList.length size&&pt (off+v.cells.toList.length) cs.length) (xL place (qQ cs off v.cells.toList) rest) none
def placesOf(P:Program):List Field->Option (List (Nat×Nat))
 |[]=>some []
 |x::l=>match P.info? x.type,placesOf P l with
  |some i,some r=>some ((x.offset,i.size)::r)
  |_,_=>none
def zh:List (Nat×Nat)->Nat->Option (Nat×Nat)
 |[],_=>none
 |x::_,0=>some x
 |_::l,i+1=>zh l i
def HW(P:Program)(t:TypeId)(ps:List (Nat×Value)):Option Value:=
 match zeroOf P t,P.underlying t with
 |some z,some (.struct eT)=>(match placesOf P eT.toList with
  |some pl=>(match xL (zh pl) z.cells.toList ps with|some cs=>some (.agg ⟨cs⟩)|none=>none)
  |none=>none)
 |some z,some (.array _ e)=>(match P.info? e with
  |some i=>(match xL (λk=>some (k*i.size,i.size)) z.cells.toList ps with|some cs=>some (.agg ⟨cs⟩)|none=>none)
  |none=>none)
 |_,_=>none
def uD(l:List Value):Nat->List Value
 |0=>[]
 |n+1=>l++uD l n
def HX(P:Program)(t:TypeId)(len:Nat)(ps:List (Nat×Value)):Option (TypeId×List Value):=
 match P.underlying t with
 |some (.slice e)=>(match P.info? e with
  |some i=>(match i.zero with
   |some z=>cond (pt (len*i.size) 16777216&&nP z.cells.toList.length i.size&&qa 0 i.size)
     (match xL (λk=>some (k*i.size,i.size)) (uD z.cells.toList len) ps with|some cs=>some (e,cs)|none=>none) none
   |none=>none)
  |none=>none)
 |_=>none
def xM(P:Program)(t:TypeId)(a:Value)(H:J)(K:Value->Prop):Prop:=
 match a with
 | .pointer (some al)=>xG (zf P 8 t) λv=>cR P t H al v/\K v
 |_=>False
def mA(P:Program)(s:Sem Value)(K:Value->Prop):Prop:=
 match px P s with
 |some v=>K v
 |none=>False
def hD(P:Program)(s:Sem Value)(v:Value):Prop:=∀w:World,s.run P w=.ok v w
def gm(op:BinOp)(t:TypeId)(dx ec:Operand)(x y:Value):Sem Value:=do eqGuard op t dx ec x y;binOp op t x y
def qf(P:Program)(t:TypeId)(b:B)(dx ec:Operand)(x y:Value)(op:BinOp)(r:Bool)(K:Value->Prop):Prop:=
 match b,P.underlying t with
 | .bool,some .bool=>K (.bool r)
 | .ptr,some (.pointer _)=>K (.bool r)
 | .slice,some (.slice _)=>K (.bool r)
 | .map,some (.map _ _)=>K (.bool r)
 |_,_=>∃r:Bool,hD P (gm op t dx ec x y) (.bool r)/\K (.bool r)
def HY(P:Program)(rec:TypeId->Value->Value->Option Bool)(xs ys:Array Value):List Field->Option Bool
 |[]=>some true
 |f::l=>bif f.name== "_" then none else
  match px P (part f.type xs f.offset),px P (part f.type ys f.offset)with
  |some a,some b=>(match rec f.type a b,HY P rec xs ys l with|some r,some s=>some (r&&s)|_,_=>none)
  |_,_=>none
def HZ(P:Program)(rec:TypeId->Value->Value->Option Bool)(e:TypeId)(sz:Nat)(xs ys:Array Value):List Nat->Option Bool
 |[]=>some true
 |i::l=>
  match px P (part e xs (i*sz)),px P (part e ys (i*sz))with
  |some a,some b=>(match rec e a b,HZ P rec e sz xs ys l with|some r,some s=>some (r&&s)|_,_=>none)
  |_,_=>none
def Bc(P:Program):Nat->TypeId->Value->Value->Option Bool
 |0,_,_,_=>none
 |d+1,t,x,y=>
  match P.underlying t,x,y with
  |some .bool,.bool a,.bool b=>some (a==b)
  |some (.int _),.int k a,.int k' b=>bif decide (k=k')then some (a==b)else none
  |some .string,.string a,.string b=>some (a==b)
  |some (.struct eT),.agg xs,.agg ys=>bif P.stoodInHeld t then none else HY P (Bc P d) xs ys eT.toList
  |some (.array len e),.agg xs,.agg ys=>(match P.info? e with|some i=>HZ P (Bc P d) e i.size xs ys (asl len)|none=>none)
  |_,_,_=>none
def EB(rec:TypeId->Bool):List Field->Bool
 |[]=>false
 |f::l=>bif rec f.type then true else EB rec l
def s8(P:Program):Nat->TypeId->Bool
 |0,_=>true
 |d+1,t=>match P.underlying t with
  |some (.interface _)=>true
  |some (.struct eT)=>EB (s8 P d) eT.toList
  |some (.array _ e)=>s8 P d e
  |_=>false
theorem Np{D:Nat}(ih:∀t,s8 P d t=false->P.eqGuardType D t=false):∀l:List Field,EB (s8 P d) l=false->(l.any fun f=>f.name != "_" &&P.eqGuardType D f.type)=false
 |[],_=>rfl
 |f::l,h=>by
  unfold EB at h
  cases aZ:s8 P d f.type with
  |true=>simp [aZ]at h
  |false=>
   simp only [aZ,cond_false]at h
   rw [List.any_cons,ih _ aZ,Np ih l h]
   simp
theorem EC:∀(d D:Nat) (t:TypeId),d<=D->s8 P d t=false->P.eqGuardType D t=false
 |0,_,_,_,h=>by cases h
 |d+1,0,_,aO,_=>by omega
 |d+1,D+1,t,aO,h=>by
  unfold s8 at h
  unfold Program.eqGuardType
  split at h
  ·cases h
  ·rename_i eT hu
   rw [hu]
   simp only
   rw [<-Array.any_toList]
   exact Np (λt bf=>EC d D t (by omega) bf) eT.toList h
  ·rename_i n e hu
   rw [hu]
   exact EC d D e (by omega) h
  ·rename_i aB bH bF
   split
   ·rename_i hu;exact absurd hu (aB _)
   ·rename_i hu;exact absurd hu (bH _)
   ·rename_i hu;exact absurd hu (bF _ _)
   ·rfl
def Bd(P:Program)(t:TypeId)(x y:Value):Option Bool:=match x,y with
 | .agg _,.agg _=>bif s8 P 6 t then none else Bc P 6 t x y
 |_,_=>none
def xN(P:Program)(op:BinOp)(t:TypeId)(dx ec:Operand)(x y:Value)(K:Value->Prop):Prop:=
 match Bd P t x y with
 |some r=>(match op with| .neq=>K (.bool (!r))|_=>K (.bool r))
 |none=>∃r:Bool,hD P (gm op t dx ec x y) (.bool r)/\K (.bool r)
def zi(P:Program)(op:BinOp)(t:TypeId)(dx ec:Operand)(x y:Value)(K:Value->Prop):Prop:=
 match op,x,y with
 | .shl,.int k a,.int _ b=>da (decide (0<=b)) (K (.int k (k.wrap (a*2^min b.toNat k.bits))))
 | .shr,.int k a,.int _ b=>da (decide (0<=b)) (K (.int k (a.fdiv (2^min b.toNat k.bits))))
 | .quo,.int k a,.int k' b=>da (decide (k=k')) (da (decide (b≠0)) (K (.int k (k.wrap (a.tdiv b)))))
 | .rem,.int k a,.int k' b=>da (decide (k=k')) (da (decide (b≠0)) (K (.int k (a.tmod b))))
 | .add,.string a,.string b=>da (decide (a.size+b.size<=9223372036854775807)) (K (.string (a++b)))
 | .eql,.bool a,.bool b=>qf P t .bool dx ec (.bool a) (.bool b) .eql (a==b) K
 | .neq,.bool a,.bool b=>qf P t .bool dx ec (.bool a) (.bool b) .neq (!(a==b)) K
 | .eql,.pointer a,.pointer none=>qf P t .ptr dx ec (.pointer a) (.pointer none) .eql a.isNone K
 | .neq,.pointer a,.pointer none=>qf P t .ptr dx ec (.pointer a) (.pointer none) .neq (!a.isNone) K
 | .eql,.slice a n c,.slice none aQ aT=>qf P t .slice dx ec (.slice a n c) (.slice none aQ aT) .eql a.isNone K
 | .neq,.slice a n c,.slice none aQ aT=>qf P t .slice dx ec (.slice a n c) (.slice none aQ aT) .neq (!a.isNone) K
 | .eql,.map a,.map none=>qf P t .map dx ec (.map a) (.map none) .eql a.isNone K
 | .neq,.map a,.map none=>qf P t .map dx ec (.map a) (.map none) .neq (!a.isNone) K
 | .eql,.int k a,.int k' b=>mA P (binOp .eql t (.int k a) (.int k' b)) K
 | .neq,.int k a,.int k' b=>mA P (binOp .neq t (.int k a) (.int k' b)) K
 | .eql,.string a,.string b=>K (.bool (a.toList==b.toList))
 | .neq,.string a,.string b=>K (.bool (!(a.toList==b.toList)))
 | .eql,x,y=>xN P .eql t dx ec x y K
 | .neq,x,y=>xN P .neq t dx ec x y K
 |_,_,_=>mA P (do eqGuard op t dx ec x y;binOp op t x y) K
def H2(P:Program)(t:TypeId):Bool:=match P.underlying t with|some (.interface _)=>true|_=>false
def zj(P:Program)(op:BinOp)(t:TypeId)(dx ec:Operand)(x y:Value)(K:Value->Prop):Prop:=
 bif H2 P t then(match op with
  | .eql=>∃r:Bool,hD P (gm .eql t dx ec x y) (.bool r)/\K (.bool r)
  | .neq=>∃r:Bool,hD P (gm .neq t dx ec x y) (.bool r)/\K (.bool r)
  |_=>False)
 else zi P op t dx ec x y K
def qR:Option Value->Option Int
 |none=>some 0
 |some (.int _ i)=>some i
 |_=>none
def xO(len:Nat):Option Value->Option Int
 |none=>some len
 |some (.int _ i)=>some i
 |_=>none
def dh(cap l sz:Nat)(a:Option Addr):Option Addr:=match l with
 |0=>a
 |l+1=>if cap=l+1 then a else a.map (·.add ((l+1)*sz))
theorem v7(cap l sz:Nat)(a:Option Addr):dh cap l sz a=if cap=l then a else a.map (·.add (l*sz)):=by
 cases l with
 |zero=>
  have:∀x:Addr,x.add 0=x:=λx=>by cases x;rfl
  simp [dh,this]
 |succ l=>rfl
def ED(P:Program)(t:TypeId)(x:Value)(er az:Option Value)(nW:Value)(K:Value->Prop):Prop:=
 match P.underlying t,x,qR er,az,nW with
 |some (.slice e),.slice a _ cap,some l,some (.int _ h),.int _ m=>
  (match P.info? e with
  |some inf=>da (decide (0<=l/\l<=h/\h<=m/\m<=cap)) (K (.slice (dh m.toNat l.toNat inf.size a) (h.toNat-l.toNat) (m.toNat-l.toNat)))
  |none=>False)
 |_,_,_,_,_=>False
def zk(P:Program)(t:TypeId)(x:Value)(er az nW:Option Value)(K:Value->Prop):Prop:=
 match nW with
 |some m=>ED P t x er az m K
 |none=>
  match P.underlying t,x with
  |some .string,.string s=>
   (match qR er,xO s.size az with
   |some l,some h=>da (decide (0<=l/\l<=h/\h<=s.size)) (K (.string (s.extract l.toNat h.toNat)))
   |_,_=>False)
  |some (.slice e),.slice a len cap=>
   (match qR er,xO len az,P.info? e with
   |some l,some h,some inf=>da (decide (0<=l/\l<=h/\h<=cap)) (K (.slice (dh cap l.toNat inf.size a) (h.toNat-l.toNat) (cap-l.toNat)))
   |_,_,_=>False)
  |some (.array len e),.pointer (some al)=>
   (match qR er,xO len az,P.info? e with
   |some l,some h,some inf=>da (decide (0<=l/\l<=h/\h<=len)) (K (.slice (dh len l.toNat inf.size (some al)) (h.toNat-l.toNat) (len-l.toNat)))
   |_,_,_=>False)
  |_,_=>False
def zl(P:Program)(t:TypeId)(x i:Value)(K:Value->Prop):Prop:=
 match P.underlying t,x,i with
 |some (.slice e),.slice base len _,.int _ i=>(match P.info? e with|some inf=>eO base λal=>da (decide (0<=i/\i<len)) (K (.pointer (some (al.add (i.toNat *inf.size)))))|none=>False)
 |some (.array len e),.pointer (some al),.int _ i=>(match P.info? e with|some inf=>da (decide (0<=i/\i<len)) (K (.pointer (some (al.add (i.toNat *inf.size)))))|none=>False)
 |_,_,_=>False
def iB(P:Program)(e:TypeId)(cs:List Value)(off:Nat)(v:Value):Prop:=px P (part e ⟨cs⟩ off)=some v
def bl(s:ByteArray)(i:Nat):Nat:=(s.get! i).toNat
theorem Nq{s:ByteArray}(h:i<s.size):∃b:UInt8,s[i]?=some b/\b.toNat=bl s i:=by
 refine⟨s[i],getElem?_pos s i h,?_⟩
 cases s with|mk a=>
 simp only [bl]
 show(a[i]'_).toNat=(a[i]!).toNat
 rw [getElem!_pos a i h]
def zm(P:Program)(t:TypeId)(x i:Value)(K:Value->Prop):Prop:=
 match P.underlying t,x,i with
 |some .string,.string s,.int _ i=>da (decide (0<=i/\i<s.size)) (K (.int .u8 (bl s i.toNat)))
 |some (.array len e),.agg cs,.int _ i=>(match P.info? e with|some inf=>da (decide (0<=i/\i<len)) (xG (zf P 8 e) λv=>iB P e cs.toList (i.toNat *inf.size) v/\K v)|none=>False)
 |_,_,_=>False
def Be(x:Value)(K:Value->Prop):Prop:=
 match x with
 | .pointer kc=>eO kc λa=>K (.pointer (some a))
 | .func (.func k) a b=>K (.func (.func k) a b)
 |_=>False
def EE(P:Program)(ts:Array TypeId)(t:TypeId)(vs:List Value):Option Value:=match vs with
 |[.map _]=>none
 |vs=>px P (Builtin.len_ ts t ⟨vs⟩)
theorem V2{ts:Array TypeId}(h:EE P ts t vs=some v):px P (Builtin.len_ ts t ⟨vs⟩)=some v:=by
 unfold EE at h
 split at h
 ·cases h
 ·exact h
def qg(P:Program)(n:Nat)(f:F)(o:Oper)(H:J)(K:Value->Prop):Prop:=
 match o.op with
 | .move x| .assign x=>K (cd n f x)
 | .pick c a b=>(match cd n f c with| .bool c=>aJ c (K (cd n f a)) (K (cd n f b))|_=>False)
 | .build t parts=>(match HW P t (xD n f parts.toList)with|some v=>K v|none=>False)
 | .load t a=>xM P t (cd n f a) H K
 | .nilCheck x=>Be (cd n f x) K
 | .binOp op t x y _=>zj P op t x y (cd n f x) (cd n f y) K
 | .unOp op _ x=>mA P (Op.unary op (cd n f x)) K
 | .convert s t x=>mA P (convert s t (cd n f x)) K
 | .makeInterface t x=>mA P (Instr.makeInterface t (cd n f x)) K
 | .makeFunc fn first captured=>mA P (Instr.makeFunc fn ⟨fv n f first.toList⟩ ⟨fv n f captured.toList⟩) K
 | .slice t x er az nW=>zk P t (cd n f x) (Ew n f er) (Ew n f az) (Ew n f nW) K
 | .fieldAddr t x i=>mA P (Instr.fieldAt t (cd n f x) i) K
 | .field t x i=>mA P (Instr.field t (cd n f x) i) K
 | .indexAddr t x i=>zl P t (cd n f x) (cd n f i) K
 | .index t x i=>zm P t (cd n f x) (cd n f i) K
 | .lookup t m k ok=>nT (qe P o.type) λv=>Rd P (Instr.lookup t (cd n f m) (cd n f k) ok) H v/\K v
 | .typeAssert x t u ok=>nT (qe P o.type) λv=>Rd P (Instr.typeAssert (cd n f x) t u ok) H v/\K v
 | .extract t i=>mA P (Instr.extract (cd n f t) i) K
 | .call {callee:=.builtin .len,args,argTypes}=>
   (match EE P argTypes o.type (fv n f args.toList)with
   |some v=>K v
   |none=>nT (qe P o.type) λv=>Rd P (Builtin.len_ argTypes o.type ⟨fv n f args.toList⟩) H v/\K v)
 | .call {callee:=.builtin .cap,args,argTypes}=>mA P (Builtin.cap_ argTypes o.type ⟨fv n f args.toList⟩) K
 | .call {callee:=.builtin .min,args,argTypes}=>mA P (Builtin.min_ argTypes o.type ⟨fv n f args.toList⟩) K
 | .call {callee:=.builtin .max,args,argTypes}=>mA P (Builtin.max_ argTypes o.type ⟨fv n f args.toList⟩) K
 |_=>False
def EF(P:Program):Op->Bool
 | .move _| .assign _| .pick .. | .build .. | .load .. | .nilCheck _| .binOp .. | .unOp .. | .makeInterface .. | .makeFunc .. | .slice .. | .fieldAddr .. | .field .. | .indexAddr .. | .index .. | .lookup ..
 | .typeAssert .. | .extract .. =>true
 | .convert s t _=>(match P.underlying s,P.underlying t with|some (.int _),some (.int _)=>true|some .string,some .string=>true|_,_=>false)
 | .call {callee:=.builtin .len,.. }| .call {callee:=.builtin .cap,.. }| .call {callee:=.builtin .min,.. }| .call {callee:=.builtin .max,.. }=>true
 |_=>false
def nj(P:Program)(n:Nat)(f:F)(o:Oper)(H:J)(K:Value->J->Prop):Prop:=
 bif EF P o.op then qg P n f o H λv=>K v H else
 match o.op with
 | .alloc t=>(match zeroOf P t with|some z=>∀b H',ds H b (.cells z.cells t) H'->K (.pointer (some ⟨b,0,none⟩)) H'|none=>False)
 | .box t x=>∀b H',ds H b (.cells (cd n f x).cells t) H'->K (.pointer (some ⟨b,0,none⟩)) H'
 | .buildSlice t len parts=>(match HX P t len (xD n f parts.toList)with
  |some (e,cs)=>∀b H',ds H b (.cells ⟨cs⟩ e) H'->K (.slice (some ⟨b,0,none⟩) len len) H'
  |none=>False)
 | .store t a x=>(match cd n f a with| .pointer (some al)=>∃H',fb P t H al (cd n f x) H'/\K undef H'|_=>False)
 | .makeMap t r=>(match r with|none=>∀b H',ds H b (.map #[] 0) H'->K (.map (some b)) H' |some r=>cj P (Instr.makeMap t (some (cd n f r))) H λv H'=>pv .map λu=>v=u/\K u H')
 | .makeSlice t l c=>cj P (Instr.makeSlice t (cd n f l) (cd n f c)) H λv H'=>pv .slice λu=>v=u/\K u H'
 | .convert s t x=>cj P (convert s t (cd n f x)) H λv H'=>nT (qe P t) λu=>v=u/\K u H'
 | .mapUpdate t m k x| .insert t m k x=>iQ P (Instr.mapUpdate t (cd n f m) (cd n f k) (cd n f x)) H λH'=>K undef H'
 | .range t x=>cj P (Instr.range t (cd n f x)) H λv H'=>pv .ptr λu=>v=u/\K u H'
 | .next it str=>cj P (Instr.next (cd n f it) str o.type) H λv H'=>(v=.tuple #[.bool false]/\K (.tuple #[.bool false]) H')\/(∃k x,v=.tuple #[.bool true,k,x]/\K (.tuple #[.bool true,k,x]) H')
 | .entry it=>cj P (Instr.entry (cd n f it)) H λv H'=>∃k x,v=.tuple #[k,x]/\K (.tuple #[k,x]) H'
 | .mapEntry t m k=>cj P (Instr.mapEntry t (cd n f m) (cd n f k)) H K
 | .entryStore t m s x=>iQ P (Instr.entryStore t (cd n f m) (cd n f s) (cd n f x)) H λH'=>K undef H'
 | .call {callee:=.builtin .append,args,argTypes}=>cj P (Builtin.append_ argTypes o.type ⟨fv n f args.toList⟩) H λv H'=>pv .slice λu=>v=u/\K u H'
 | .call {callee:=.builtin .copy,args,argTypes}=>cj P (Builtin.copy_ argTypes o.type ⟨fv n f args.toList⟩) H λv H'=>pv (.int .i64) λu=>v=u/\K u H'
 | .call {callee:=.builtin .delete,args,argTypes}=>cj P (Builtin.delete_ argTypes o.type ⟨fv n f args.toList⟩) H λv H'=>v=.tuple #[]/\K (.tuple #[]) H'
 | .call {callee:=.builtin .clear,args,argTypes}=>cj P (Builtin.clear_ argTypes o.type ⟨fv n f args.toList⟩) H λv H'=>v=.tuple #[]/\K (.tuple #[]) H'
 | .call {callee:=.builtin .unsafeString,args,argTypes}=>cj P (Builtin.unsafeString_ argTypes o.type ⟨fv n f args.toList⟩) H λv H'=>pv .str λu=>v=u/\K u H'
 | .call {callee:=.builtin .unsafeSliceData,args,argTypes}=>cj P (Builtin.unsafeSliceData_ argTypes o.type ⟨fv n f args.toList⟩) H λv H'=>pv .ptr λu=>v=u/\K u H'
 | .call {callee:=.value g,args,.. }=>
  (match g with
  | .func k=>aJ (xK P k) (aY P k ⟨fv n f args.toList⟩ H λv H'=>nT (qe P o.type) λu=>v=u/\K u H') (qP P k ⟨fv n f args.toList⟩ H λv H'=>nT (qe P o.type) λu=>v=u/\K u H')
  |g=>dO P (cd n f g) (fv n f args.toList) H λv H'=>nT (qe P o.type) λu=>v=u/\K u H')
 | .call {callee:=.invoke g name,args,.. }=>HV P (cd n f g) name (fv n f args.toList) H λv H'=>nT (qe P o.type) λu=>v=u/\K u H'
 |_=>False
def s9(ops:List Oper)(j:Nat):Option Nat:=match ops[j]? with|some o=>o.dst|none=>none
def kB(P:Program)(n:Nat)(ops:List Oper):List Oper->F->J->(F->J->Prop)->Prop
 |[],f,H,K=>K f H
 |o::rest,f,H,K=>
  match o.guard with
  |none=>nj P n f o H λv H'=>kB P n ops rest (eB f o.dst v) H' K
  |some (j,want)=>
   match s9 ops j with
   |none=>kB P n ops rest (eB f o.dst undef) H K
   |some d=>
    match cd n f (.tmp d)with
    | .bool c=>aJ c
      (bif want then nj P n (fc f d (.bool true)) o H λv H'=>kB P n ops rest (eB (fc f d (.bool true)) o.dst v) H' K
       else kB P n ops rest (eB (fc f d (.bool true)) o.dst undef) H K)
      (bif want then kB P n ops rest (eB (fc f d (.bool false)) o.dst undef) H K
       else nj P n (fc f d (.bool false)) o H λv H'=>kB P n ops rest (eB (fc f d (.bool false)) o.dst v) H' K)
    |_=>kB P n ops rest (eB f o.dst undef) H K
def lX(P:Program)(n:Nat)(ops:List Oper)(H:J):List Oper->F->(F->Prop)->Prop
 |[],f,K=>K f
 |o::rest,f,K=>
  match o.guard with
  |none=>qg P n f o H λv=>lX P n ops H rest (eB f o.dst v) K
  |some (j,want)=>
   match s9 ops j with
   |none=>lX P n ops H rest (eB f o.dst undef) K
   |some d=>
    match cd n f (.tmp d)with
    | .bool c=>aJ c
      (bif want then qg P n (fc f d (.bool true)) o H λv=>lX P n ops H rest (eB (fc f d (.bool true)) o.dst v) K
       else lX P n ops H rest (eB (fc f d (.bool true)) o.dst undef) K)
      (bif want then lX P n ops H rest (eB (fc f d (.bool false)) o.dst undef) K
       else qg P n (fc f d (.bool false)) o H λv=>lX P n ops H rest (eB (fc f d (.bool false)) o.dst v) K)
    |_=>lX P n ops H rest (eB f o.dst undef) K
def guarded(ops:List Oper)(n:Nat)(o:Oper)(f:F)(exec skip:F->Prop):Prop:=
 match o.guard with
 |none=>exec f
 |some (j,want)=>
  match s9 ops j with
  |none=>skip f
  |some d=>
   match cd n f (.tmp d)with
   | .bool c=>aJ c
     (bif want then exec (fc f d (.bool true))else skip (fc f d (.bool true)))
     (bif want then skip (fc f d (.bool false))else exec (fc f d (.bool false)))
   |_=>skip f
inductive eY where
 |done
 |quiet (i:Nat) (s:eY)
 |pick (s:eY)
 |alt (i:Nat) (s r:eY)
 |stop
def eY.alts:eY->List Nat
 | .alt i _ r=>i::r.alts
 |_=>[]
def eY.qS:eY->Bool
 | .stop=>true
 |_=>false
def eY.xP:eY->Bool
 | .stop=>false
 | .alt .. =>false
 |_=>true
def eY.depth:eY->Nat
 | .done=>0
 | .quiet _ s=>s.depth+1
 | .pick s=>s.depth
 | .alt _ s r=>cond (pt (s.depth+1) r.depth) r.depth (s.depth+1)
 | .stop=>0
def gi(m i:Nat):Bool:=nP (Nat.mod (Nat.div m (VC 2 i)) 2) 1
theorem qT(m i:Nat):gi m i=Nat.testBit m i:=by
 unfold gi
 rw [Nat.testBit_eq_decide_div_mod_eq]
 show nP (m/2^i % 2) 1=_
 cases h:nP (m/2^i % 2) 1 with
 |true=>simp [oK h]
 |false=>
  have:¬m/2^i % 2=1:=λe=>by rw [e]at h;cases h
  simp [this]
def lY(m i:Nat):Nat:=HP m (VC 2 i)
def v8(m:Nat)(o:Oper):Bool:=o.after.toList.all λe=> !Region.binds .any e||gi m e.on
def xQ:List Oper->Nat->List (Oper×Nat)
 |[],_=>[]
 |o::l,k=>(o,k)::xQ l (k+1)
def EG(l:List Nat)(i:Nat):Bool:=match l with|[]=>false|x::r=>cond (nP x i) true (EG r i)
def EH(ops:List Oper)(m:Nat)(l:List Nat):Bool:=(xQ ops 0).all λx=>gi m x.2|| !v8 m x.1||EG l x.2
def Bf(ops:List Oper)(m i:Nat)(o:Oper):Bool:=
 !gi m i&&v8 m o&&(xQ ops 0).all λx=>nP x.2 i||gi m x.2||(x.1.after.toList.any λe=>Region.binds .any e&&nP e.on i)||o.apart ops.toArray x.1
def Bg(ops:List Oper)(m:Nat):List Nat->Bool
 |[]=>false
 |i::_=>match ops[i]? with
  |some o=> !gi m i&&v8 m o
  |none=>false
def Bh(ops:List Oper)(bef:List Nat):Bool:=
 (xQ ops 0).all λx=>nP (Nat.land (bef.getD x.2 0) (x.1.after.toList.foldl (λs e=>cond (Region.binds .any e) (HP s (HP (VC 2 e.on) (bef.getD e.on 0))) s) 0)) (bef.getD x.2 0)
abbrev kC:=List (Nat×(J->Prop))
def gO(bef:List Nat)(j:Nat):kC->kC
 |[]=>[]
 |(i,G)::l=>cond (gi (bef.getD j 0) i) (gO bef j l) ((i,G)::gO bef j l)
def ta:kC->J->Prop->Prop
 |[],_,X=>X
 |x::l,H,X=>x.2 H/\ta l H X
def Nr(i:Nat)(o:Option (J->Prop))(D:kC):kC:=match o with
 |some F=>(i,F)::D
 |none=>D
def gn(P:Program)(n:Nat)(f:F)(o:Oper)(v:Value):Option (J->Prop):=
 match o.op with
 | .load t a=>(match cd n f a with| .pointer (some al)=>some λH'=>cR P t H' al v|_=>none)
 | .lookup t m k ok=>some λH'=>Rd P (Instr.lookup t (cd n f m) (cd n f k) ok) H' v
 | .typeAssert x t u ok=>some λH'=>Rd P (Instr.typeAssert (cd n f x) t u ok) H' v
 | .call {callee:=.builtin .len,args,argTypes}=>(match EE P argTypes o.type (fv n f args.toList)with
  |some _=>none
  |none=>some λH'=>Rd P (Builtin.len_ argTypes o.type ⟨fv n f args.toList⟩) H' v)
 |_=>none
def EI(P:Program)(ops:List Oper)(m i:Nat)(o:Oper)(s:eY):Bool:=Bf ops m i o&&EF P o.op&&s.xP
def EJ(ops:List Oper)(m:Nat)(s:eY):Bool:=EH ops m s.alts&&Bg ops m s.alts
def Ns(ops:List Oper)(m:Nat):Bool:=EH ops m []
def Nt(s:eY):Bool:=s.xP
def hp(P:Program)(n:Nat)(ops:List Oper)(bef:List Nat)(K:F->J->Prop):eY->Nat->kC->F->J->Prop
 | .done,m,_,f,H=>da (Ns ops m) (K f H)
 | .quiet i s,m,D,f,H=>
  match ops[i]? with
  |none=>False
  |some o=>da (EI P ops m i o s) (guarded ops n o f
    (λf=>qg P n f o H λv=>hp P n ops bef K s (lY m i) (Nr i (gn P n f o v) D) (eB f o.dst v) H)
    (λf=>hp P n ops bef K s (lY m i) D (eB f o.dst undef) H))
 | .pick s,m,D,f,H=>da (EJ ops m s) (hp P n ops bef K s m D f H)
 | .alt i s r,m,D,f,H=>
  match ops[i]? with
  |none=>False
  |some o=>
   da (Nt s) (bif r.qS then guarded ops n o f
     (λf=>nj P n f o H λv H'=>ta (gO bef i D) H' (hp P n ops bef K s (lY m i) (gO bef i D) (eB f o.dst v) H'))
     (λf=>hp P n ops bef K s (lY m i) (gO bef i D) (eB f o.dst undef) H)
   else guarded ops n o f
     (λf=>nj P n f o H λv H'=>ta (gO bef i D) H' (hp P n ops bef K s (lY m i) (gO bef i D) (eB f o.dst v) H'))
     (λf=>hp P n ops bef K s (lY m i) (gO bef i D) (eB f o.dst undef) H)/\hp P n ops bef K r m D f H)
 | .stop,_,_,_,_=>False
def zn(ops:List Oper)(bef:List Nat)(s:eY):Bool:=Bh ops bef&&Region.noSelect ops.toArray&&pt s.depth ops.length&&s.xP
inductive lC where
 |normal|exit (id:Nat)|ret
def lC.zo:lC->Exit
 | .normal=>.normal
 | .exit id=>.exit id
 | .ret=>.ret
def gP:List Oper->List Nat
 |[]=>[]
 |o::l=>match o.dst with
  |some d=>(match o.guard with|some _=>d::gP l|none=>d::gP l)
  |none=>gP l
def writes:Code->List Nat
 | .region _ ops _=>gP ops.toList
 | .seq a b=>writes a++writes b
 | .cond _ a b=>writes a++writes b
 | .block _ c=>writes c
 | .loop c=>writes c
 |_=>[]
def lZ(l:List Nat)(i:Nat):Bool:=match l with
 |[]=>false
 |x::r=>cond (nP i x) true (lZ r i)
abbrev Live:=List (Nat×iA)
def ga(n:Nat)(f:F):Live->List Value
 |[]=>[]
 |s::l=>cd n f (.tmp s.1)::ga n f l
def mB:Live->List iA
 |[]=>[]
 |s::l=>s.2::mB l
def Bi:Live->List Value->Nat->Option Value
 |s::l,v::vs,i=>cond (nP i s.1) (some v) (Bi l vs i)
 |_,_,_=>none
def patch(live:Live)(vs:List Value)(W:List Nat)(bm f:F):F:=λi=>
 cond (lZ W i) (match Bi live vs i with|some v=>v|none=>bm i) (f i)
inductive hE where
 |none
 |cut (live:Live)
 |tail (n:Nat)
 |dt (bef:List Nat) (s:eY)
 |ext
 |dead (w:Bool)
def dy(a:hE)(w:Bool)(X:Prop):Prop:=match a,w with
 | .dead true,true=>False
 | .dead false,false=>False
 |_,_=>X
theorem EK{a:hE}{w:Bool}(h:dy a w X):X:=by
 unfold dy at h
 split at h
 ·exact h.elim
 ·exact h.elim
 ·exact h
theorem v'{a:hE}{w:Bool}(hk:X->Y)(h:dy a w X):dy a w Y:=by
 unfold dy at h⊢
 split at h
 ·exact h
 ·exact h
 ·exact hk h
def xR(P:Program)(o:Oper)(v:Value)(K:Value->Prop):Prop:=match o.op with
 | .extract .. =>nT (qe P o.type) λu=>v=u/\K u
 |_=>K v
theorem EL{o:Oper}(hk:∀v,K v->b3 v)(h:xR P o v K):xR P o v b3:=by
 unfold xR at h⊢
 split at h
 ·exact s7 (λu k=>⟨k.1,hk _ k.2⟩) h
 ·exact hk _ h
theorem Nu{o:Oper}(h:xR P o v K):K v:=by
 unfold xR at h
 split at h
 ·obtain⟨u,rfl,h⟩:=s6 h;exact h
 ·exact h
def qU(P:Program)(n:Nat):List Oper->F->J->(F->J->Prop)->Prop
 |[],f,H,K=>K f H
 |o::rest,f,H,K=>
  match o.guard with
  |none=>nj P n f o H λv H'=>xR P o v λv=>qU P n rest (eB f o.dst v) H' K
  |some _=>False
def uE(P:Program)(n:Nat)(a:hE)(ops:List Oper)(f:F)(H:J)(K:F->J->Prop):Prop:=match a with
 | .ext=>qU P n ops f H K
 |_=>kB P n ops ops f H K
def gQ(P:Program)(n:Nat)(dD:List Nat->hE):Code->List Nat->(lC->F->J->Prop)->F->J->Prop
 | .skip,_,K,f,H=>K .normal f H
 | .region _ ops draw,p,K,f,H=>
  bif draw then
   (match dD p with
   | .tail m=>da (Region.lexTailB .any ops m)<|lX P n ops.toList H (ops.toList.take m) f λbE=>kB P n ops.toList (ops.toList.drop m) bE H λkD cG=>K .normal kD cG
   | .dt bef s=>da (zn ops.toList bef s)<|hp P n ops.toList bef (λbE H'=>K .normal bE H') s 0 [] f H
   |_=>da (Region.lexB .any ops)<|lX P n ops.toList H ops.toList f λbE=>K .normal bE H)
  else uE P n (dD p) ops.toList f H λbE H'=>K .normal bE H'
 | .seq a b,p,K,f,H=>
  match dD p with
  | .cut live=>∃M:List Value->J->Prop,gQ P n dD a (0::p) (λe bE H'=>match e with| .normal=>nU (mB live) (ga n bE live) (M (ga n bE live) H')|e=>K e bE H') f H∧
    ∀bm:F,pw (mB live) λvs=>∀H',M vs H'->gQ P n dD b (1::p) K (patch live vs (writes a) bm f) H'
  | .dead _=>gQ P n dD a (0::p) (λe bE H'=>match e with| .normal=>False|e=>K e bE H') f H
  |_=>gQ P n dD a (0::p) (λe bE H'=>match e with| .normal=>gQ P n dD b (1::p) K bE H'|e=>K e bE H') f H
 | .cond c a b,p,K,f,H=>
  (match cd n f c with| .bool c=>aJ c (dy (dD p) true (gQ P n dD a (0::p) K f H)) (dy (dD p) false (gQ P n dD b (1::p) K f H))|_=>False)
 | .block id c,p,K,f,H=>gQ P n dD c (0::p) (λe bE H'=>match e with| .exit i=>(bif nP i id then K .normal bE H' else K (.exit i) bE H')|e=>K e bE H') f H
 | .loop c,p,K,f,H=>
  match dD p with
  | .cut live=>∃(cc:List Value->J->Prop) (fV:List Value->J->Nat),nU (mB live) (ga n f live) (cc (ga n f live) H)∧
    ∀bm:F,pw (mB live) λvs=>∀H',cc vs H'->gQ P n dD c (0::p) (λe kD cG=>match e with| .normal=>nU (mB live) (ga n kD live) (cc (ga n kD live) cG/\fV (ga n kD live) cG<fV vs H')|e=>K e kD cG) (patch live vs (writes c) bm f) H'
  |_=>False
 | .exit id,_,K,f,H=>K (.exit id) f H
 | .ret,_,K,f,H=>K .ret f H
 |_,_,_,_,_=>False
def nk(P:Program)(n:Nat)(f:F)(H:J):List ResultVar->(List Value->Prop)->Prop
 |[],K=>K []
 | .tmp t::l,K=>nk P n f H l λvs=>K (cd n f (.tmp t)::vs)
 | .cell a t::l,K=>xM P t (cd n f (.tmp a)) H λv=>nk P n f H l λvs=>K (v::vs)
def gD:List Value->Value
 |[v]=>v
 |vs=>.tuple ⟨vs⟩
def zp(P:Program)(n:Nat)(rs:List ResultVar)(R:Value->J->Prop):lC->F->J->Prop
 | .normal,f,H=>nk P n f H rs λvs=>R (gD vs) H
 | .ret,f,H=>nk P n f H rs λvs=>R (gD vs) H
 | .exit _,_,_=>False
def qh(args:List Value):F:=match args with
 |[]=>λ_=>undef
 |v::l=>λi=>match i with|0=>v|i+1=>qh l i
def Bj:List Nat->List Nat->Bool
 |[],[]=>true
 |a::l,b::m=>cond (nP a b) (Bj l m) false
 |_,_=>false
def nX:List (List Nat×hE)->List Nat->hE
 |[],_=>.none
 |x::l,p=>cond (Bj x.1 p) x.2 (nX l p)
theorem qi{s:Sem Value}(h:mA P s K):∃v,(∀w,s.run P w=.ok v w)/\K v:=by
 unfold mA at h
 split at h
 ·rename_i v aI;exact⟨v,λw=>xI aI w,h⟩
 ·exact h.elim
theorem eE{d:TypeDesc}(h:P.underlying t=some d)(w:World):(underlying t).run P w=.ok d w:=by
 simp [underlying,program,nR,bind,MV,h,pure]
theorem wa{b:B}{dx ec:Operand}{op:BinOp}{r:Bool}
  (h:qf P t b dx ec x y op r K)
  (h1:b=.bool->P.underlying t=some .bool->hD P (gm op t dx ec x y) (.bool r))
  (ae:b=.ptr->∀e,P.underlying t=some (.pointer e)->hD P (gm op t dx ec x y) (.bool r))
  (au:b=.slice->∀e,P.underlying t=some (.slice e)->hD P (gm op t dx ec x y) (.bool r))
  (a6:b=.map->∀e cV,P.underlying t=some (.map e cV)->hD P (gm op t dx ec x y) (.bool r)):∃v,hD P (gm op t dx ec x y) v/\K v:=by
 unfold qf at h
 split at h
 ·rename_i hu;exact⟨_,h1 rfl hu,h⟩
 ·rename_i hu;exact⟨_,ae rfl _ hu,h⟩
 ·rename_i hu;exact⟨_,au rfl _ hu,h⟩
 ·rename_i hu;exact⟨_,a6 rfl _ _ hu,h⟩
 ·obtain⟨r,aA,hk⟩:=h;exact⟨_,aA,hk⟩
theorem Nv(hu:P.underlying t=some .bool)(a b:Bool)(d:Nat)(w:World):(Op.equalIn (d+1) t (.bool a) (.bool b)).run P w=.ok (a==b) w:=by
 simp [Op.equalIn,eE hu]
theorem Nw(hu:P.underlying t=some (.pointer e))(a:Option Addr)(d:Nat)(w:World):(Op.equalIn (d+1) t (.pointer a) (.pointer none)).run P w=.ok a.isNone w:=by
 cases a<;>simp [Op.equalIn,eE hu]
theorem Nx(hu:P.underlying t=some (.slice e))(a:Option Addr)(n c aQ aT:Nat)(d:Nat)(w:World):(Op.equalIn (d+1) t (.slice a n c) (.slice none aQ aT)).run P w=.ok a.isNone w:=by
 cases a<;>simp [Op.equalIn,eE hu]
theorem Ny{cV:TypeId}(hu:P.underlying t=some (.map e cV))(a:Option Nat)(d:Nat)(w:World):(Op.equalIn (d+1) t (.map a) (.map none)).run P w=.ok a.isNone w:=by
 cases a<;>simp [Op.equalIn,eE hu]
theorem zq{dx ec:Operand}{r:Bool}(aZ:eqGuard .eql t dx ec x y=pure ())(ah:binOp .eql t x y=do pure (.bool (<-Op.equal t x y)))
  (h:∀d w,(Op.equalIn (d+1) t x y).run P w=.ok r w):hD P (gm .eql t dx ec x y) (.bool r):=by
 intro w
 unfold gm
 rw [aZ,ah,bd,s5,bx,bd]
 show((Op.equalIn (9999+1) t x y).run P w).andThen _=_
 rw [h 9999 w]
 rfl
theorem wb{dx ec:Operand}{r:Bool}(aZ:eqGuard .neq t dx ec x y=pure ())(ah:binOp .neq t x y=do pure (.bool (!(<-Op.equal t x y))))
  (h:∀d w,(Op.equalIn (d+1) t x y).run P w=.ok r w):hD P (gm .neq t dx ec x y) (.bool (!r)):=by
 intro w
 unfold gm
 rw [aZ,ah,bd,s5,bx,bd]
 show((Op.equalIn (9999+1) t x y).run P w).andThen _=_
 rw [h 9999 w]
 rfl
theorem Nz:∀(d:Nat) {t:TypeId} {x y:Value} {r:Bool},Bc P d t x y=some r->∀m w,d<=m->(Op.equalIn m t x y).run P w=.ok r w:=by
 intro d
 induction d with
 |zero=>intro t x y r h;cases h
 |succ d ih=>
  intro t x y r h m w hm
  obtain⟨m,rfl⟩:∃k,m=k+1:=⟨m-1,by omega⟩
  unfold Bc at h
  split at h
  ·rename_i hu
   cases h
   simp [Op.equalIn,eE hu]
  ·rename_i hu
   rename_i k a k' b
   by_cases hk:k=k'
   ·simp [hk]at h
    subst h
    simp [Op.equalIn,eE hu,hk]
   ·simp [hk]at h
  ·rename_i hu
   cases h
   simp [Op.equalIn,eE hu]
  ·rename_i eT xs ys hu
   cases eg:P.stoodInHeld t with
   |true=>simp [eg]at h
   |false=>
    simp only [eg,cond_false]at h
    simp only [Op.equalIn,bd,eE hu,bx,run_program,eg,vV,if_false]
    rw [<-Array.forIn_toList]
    generalize eT.toList=l at h
    clear hu
    induction l generalizing r with
    |nil=>cases h;simp
    |cons f l H3=>
     unfold HY at h
     by_cases ay:f.name= "_"
     ·simp [ay]at h
     ·have uF:(f.name== "_")=false:=by simpa using ay
      rw [uF,cond_false]at h
      split at h
      ·rename_i a b bQ ah
       split at h
       ·rename_i en gY H4 gR
        cases h
        simp only [asO,bd,Sem.run_ite,ay,ne_eq,not_false_eq_true,if_true,xI bQ,xI ah,bx]
        rw [ih H4 m w (by omega)]
        cases en
        ·simp
        ·simp only [bx,asm,vV,if_false,s5,ad1]
         exact H3 gR
       ·cases h
      ·cases h
  ·rename_i len e xs ys hu
   split at h
   ·rename_i i az
    have hs:(sizeOf e).run P w=.ok i.size w:=by
     simp [sizeOf,typeInfo,program,nR,bind,MV,az,pure]
    simp only [Op.equalIn,bd,eE hu,bx,hs]
    simp only [Std.Legacy.Range.forIn_eq_forIn_range',Std.Legacy.Range.size,Nat.sub_zero,Nat.add_one_sub_one,Nat.div_one,<-List.range_eq_range']
    generalize asl len=l at h
    clear hu
    induction l generalizing r with
    |nil=>cases h;simp
    |cons f l H3=>
     unfold HZ at h
     split at h
     ·rename_i a b bQ ah
      split at h
      ·rename_i en gY H4 gR
       cases h
       simp only [asO,bd,Sem.run_ite,xI bQ,xI ah,bx]
       rw [ih H4 m w (by omega)]
       cases en
       ·simp
       ·simp only [bx,asm,vV,if_false,s5,ad1]
        exact H3 gR
      ·cases h
     ·cases h
   ·cases h
  ·cases h
theorem V3{dx ec:Operand}{r:Bool}(h:Bd P t x y=some r):hD P (gm .eql t dx ec x y) (.bool r):=by
 unfold Bd at h
 split at h
 ·cases hg0:s8 P 6 t with
  |true=>simp [hg0]at h
  |false=>
   simp only [hg0,cond_false]at h
   have aZ:P.eqGuardType P.depth t=false:=EC 6 P.depth t (by unfold Program.depth Made.depth;omega) hg0
   intro w
   unfold gm
   have bc:=run_eqGuard_agg (P:=P) w .eql t dx ec ‹Array Value› ‹Array Value› aZ
   rename_i xs ys
   rw [bd,run_eqGuard_agg w .eql t dx ec xs ys aZ,bx]
   rw [run_eql_struct,Nz 6 h 10000 w (by decide)]
   rfl
 ·cases h
theorem V4{dx ec:Operand}{r:Bool}(h:Bd P t x y=some r):hD P (gm .neq t dx ec x y) (.bool (!r)):=by
 unfold Bd at h
 split at h
 ·cases hg0:s8 P 6 t with
  |true=>simp [hg0]at h
  |false=>
   simp only [hg0,cond_false]at h
   have aZ:P.eqGuardType P.depth t=false:=EC 6 P.depth t (by unfold Program.depth Made.depth;omega) hg0
   intro w
   unfold gm
   rename_i xs ys
   rw [bd,run_eqGuard_agg w .neq t dx ec xs ys aZ,bx]
   rw [run_neq_struct,Nz 6 h 10000 w (by decide)]
   rfl
 ·cases h
theorem NA{op:BinOp}{dx ec:Operand}(an:op=.eql\/op=.neq)(h:xN P op t dx ec x y K):∃v,hD P (gm op t dx ec x y) v/\K v:=by
 unfold xN at h
 split at h
 ·rename_i r aA
  rcases an with rfl|rfl
  ·exact⟨_,V3 aA,h⟩
  ·exact⟨_,V4 aA,h⟩
 ·obtain⟨r,aA,hk⟩:=h;exact⟨_,aA,hk⟩
theorem V5{op:BinOp}{dx ec:Operand}(h:zi P op t dx ec x y K):
  ∃v,(∀w,(do eqGuard op t dx ec x y;binOp op t x y:Sem Value).run P w=.ok v w)/\K v:=by
 unfold zi at h
 split at h
 ·obtain⟨ah,hk⟩:=oL h
  refine⟨_,λw=> ?_,hk⟩
  simp [eqGuard,binOp,Op.shift,show¬(_:Int)<0 from Int.not_lt.2 ah]
 ·obtain⟨ah,hk⟩:=oL h
  refine⟨_,λw=> ?_,hk⟩
  simp [eqGuard,binOp,Op.shift,show¬(_:Int)<0 from Int.not_lt.2 ah]
 ·obtain⟨EM,h⟩:=oL h
  obtain⟨ah,hk⟩:=oL h
  refine⟨_,λw=> ?_,hk⟩
  simp [eqGuard,binOp,Op.intDiv,EM,ah]
 ·obtain⟨EM,h⟩:=oL h
  obtain⟨ah,hk⟩:=oL h
  refine⟨_,λw=> ?_,hk⟩
  simp [eqGuard,binOp,Op.intDiv,EM,ah]
 ·rename_i a b
  obtain⟨ah,hk⟩:=oL h
  refine⟨_,λw=> ?_,hk⟩
  have:¬(((a.size+b.size:Nat):Int)>IntKind.i64.max):=by
   have e:IntKind.i64.max=9223372036854775807:=by decide
   rw [e];omega
  simp only [eqGuard,binOp,Op.stringOp,if_neg this]
  simp
 case h_6=>
  refine wa h ?_ ?_ ?_ ?_<;>intro ah<;>first|(cases ah;done)|skip
  intros
  rename_i hu
  exact zq rfl rfl (Nv hu _ _)
 case h_7=>
  refine wa h ?_ ?_ ?_ ?_<;>intro ah<;>first|(cases ah;done)|skip
  intros
  rename_i hu
  exact wb rfl rfl (Nv hu _ _)
 case h_8=>
  refine wa h ?_ ?_ ?_ ?_<;>intro ah<;>first|(cases ah;done)|skip
  intros
  rename_i hu
  exact zq rfl rfl (Nw hu _)
 case h_9=>
  refine wa h ?_ ?_ ?_ ?_<;>intro ah<;>first|(cases ah;done)|skip
  intros
  rename_i hu
  exact wb rfl rfl (Nw hu _)
 case h_10=>
  refine wa h ?_ ?_ ?_ ?_<;>intro ah<;>first|(cases ah;done)|skip
  intros
  rename_i hu
  exact zq rfl rfl (Nx hu _ _ _ _ _)
 case h_11=>
  refine wa h ?_ ?_ ?_ ?_<;>intro ah<;>first|(cases ah;done)|skip
  intros
  rename_i hu
  exact wb rfl rfl (Nx hu _ _ _ _ _)
 case h_12=>
  refine wa h ?_ ?_ ?_ ?_<;>intro ah<;>first|(cases ah;done)|skip
  intros
  rename_i hu
  exact zq rfl rfl (Ny hu _)
 case h_13=>
  refine wa h ?_ ?_ ?_ ?_<;>intro ah<;>first|(cases ah;done)|skip
  intros
  rename_i hu
  exact wb rfl rfl (Ny hu _)
 case h_14=>obtain⟨v,aA,hk⟩:=qi h;exact⟨v,λw=>by rw [bd];simp only [eqGuard];exact aA w,hk⟩
 case h_15=>obtain⟨v,aA,hk⟩:=qi h;exact⟨v,λw=>by rw [bd];simp only [eqGuard];exact aA w,hk⟩
 case h_16=>exact⟨_,λw=>by simp [eqGuard,binOp,Op.stringOp],h⟩
 case h_17=>exact⟨_,λw=>by simp [eqGuard,binOp,Op.stringOp],h⟩
 case h_18=>exact NA (.inl rfl) h
 case h_19=>exact NA (.inr rfl) h
 case h_20=>exact qi h
theorem V6{op:BinOp}{dx ec:Operand}(h:zj P op t dx ec x y K):
  ∃v,(∀w,(do eqGuard op t dx ec x y;binOp op t x y:Sem Value).run P w=.ok v w)/\K v:=by
 unfold zj at h
 cases az:H2 P t with
 |true=>
  simp only [az,cond_true]at h
  split at h
  ·obtain⟨r,aA,hk⟩:=h;exact⟨_,aA,hk⟩
  ·obtain⟨r,aA,hk⟩:=h;exact⟨_,aA,hk⟩
  ·exact h.elim
 |false=>simp only [az,cond_false]at h;exact V5 h
theorem Bk(k:IntKind)(i:Int)(y:Nat)(code:BoundsCode)(aD:0<=i)(h1:i<=y)(w:World):
  (Instr.sliceBound (.int k i) y code).run P w=.ok i.toNat w:=by
 simp [Instr.sliceBound,asIntOf,aD,h1]
theorem H5(b:Bool)(len cap:Nat){er az:Option Value}{l h:Int}(aH:qR er=some l)(aq:xO len az=some h)(aD:0<=l)(h1:l<=h)(ae:h<=cap)(w:World)
  :(Instr.sliceBounds b len cap er az none).run P w=.ok (l.toNat,h.toNat,cap) w:=by
 have uG:∃ay:Nat,h=ay:=⟨h.toNat,by omega⟩
 obtain⟨ay,rfl⟩:=uG
 have bc:(match az with|some v=>Instr.sliceBound v cap (if b then .sliceAcap else .sliceAlen)|none=>pure len:Sem Nat).run P w=.ok ay w:=by
  cases az with
  |none=>simp only [xO,Option.some.injEq]at aq;simp;omega
  |some v=>
   cases v with
   |int k i=>
    simp only [xO,Option.some.injEq]at aq
    subst aq
    simp [Bk _ _ _ _ (show(0:Int)<=ay by omega) ae]
   |_=>simp [xO]at aq
 have bN:(match er with|some v=>Instr.sliceBound v ay .sliceB|none=>pure 0:Sem Nat).run P w=.ok l.toNat w:=by
  cases er with
  |none=>simp only [qR,Option.some.injEq]at aH;subst aH;simp
  |some v=>
   cases v with
   |int k i=>
    simp only [qR,Option.some.injEq]at aH
    subst aH
    simp [Bk _ _ _ _ aD h1]
   |_=>simp [qR]at aH
 unfold Instr.sliceBounds
 cases az<;>cases er<;>simp_all
theorem mC{i:TypeInfo}(h:P.info? t=some i)(w:World):(sizeOf t).run P w=.ok i.size w:=by
 simp [sizeOf,typeInfo,program,nR,bind,MV,h,pure]
theorem V7{w:World}(len cap:Nat){er:Option Value}{l h m:Int}{k k':IntKind}(aH:qR er=some l)(aD:0<=l)(h1:l<=h)(ae:h<=m)(au:m<=cap)
  :(Instr.sliceBounds true len cap er (some (.int k h)) (some (.int k' m))).run P w=.ok (l.toNat,h.toNat,m.toNat) w:=by
 have fC:(Instr.sliceBound (.int k' m) cap .slice3Acap).run P w=.ok m.toNat w:=Bk _ _ _ _ (by omega) au w
 have bc:(Instr.sliceBound (.int k h) m.toNat .slice3B).run P w=.ok h.toNat w:=Bk _ _ _ _ (by omega) (by omega) w
 have bN:(match er with|some v=>Instr.sliceBound v h.toNat .slice3C|none=>pure 0:Sem Nat).run P w=.ok l.toNat w:=by
  cases er with
  |none=>simp only [qR,Option.some.injEq]at aH;subst aH;simp
  |some v=>
   cases v with
   |int k i=>
    simp only [qR,Option.some.injEq]at aH
    subst aH
    simp [Bk _ _ _ _ aD (show i<=(h.toNat:Int) by omega)]
   |_=>simp [qR]at aH
 unfold Instr.sliceBounds
 cases er<;>simp_all
theorem V8(al:Addr)(w:World):(Instr.sureAddr (.pointer (some al))).run P w=.ok al w:=by
 simp [Instr.sureAddr]
theorem V9{er az:Option Value}{nW:Value}(h:ED P t x er az nW K):
  ∃v,(∀w,(Instr.sliceAt t x er az (some nW)).run P w=.ok v w)/\K v:=by
 unfold ED at h
 split at h
 ·rename_i e a len cap l k aq k' m hu aH
  split at h
  ·rename_i inf az
   obtain⟨⟨aD,h1,ae,au⟩,hk⟩:=oL h
   refine⟨_,λw=> ?_,hk⟩
   simp [Instr.sliceAt,Instr.slice,eE hu,V7 len cap aH aD h1 ae au,mC az,v7]
  ·exact h.elim
 ·exact h.elim
theorem V'{er az nW:Option Value}(h:zk P t x er az nW K):
  ∃v,(∀w,(Instr.sliceAt t x er az nW).run P w=.ok v w)/\K v:=by
 unfold zk at h
 cases nW with
 |some _=>exact V9 h
 |none=>
  simp only at h
  split at h
  ·rename_i s hu
   split at h
   ·rename_i l aq aH wc
    obtain⟨⟨aD,h1,ae⟩,hk⟩:=oL h
    refine⟨_,λw=> ?_,hk⟩
    simp [Instr.sliceAt,Instr.slice,eE hu,H5 false s.size s.size aH wc aD h1 ae]
   ·exact h.elim
  ·rename_i e a len cap hu
   split at h
   ·rename_i l aq inf aH wc az
    obtain⟨⟨aD,h1,ae⟩,hk⟩:=oL h
    refine⟨_,λw=> ?_,hk⟩
    simp [Instr.sliceAt,Instr.slice,eE hu,H5 true len cap aH wc aD h1 ae,mC az,v7]
   ·exact h.elim
  ·rename_i n e al hu
   split at h
   ·rename_i l aq inf aH wc az
    obtain⟨⟨aD,h1,ae⟩,hk⟩:=oL h
    refine⟨_,λw=> ?_,hk⟩
    simp only [v7]
    simp [Instr.sliceAt,eE hu,V8,H5 false n n aH wc aD h1 ae,mC az]
    split<;>rfl
   ·exact h.elim
  ·exact h.elim
theorem Wa{i:Value}(h:zl P t x i K):
  ∃v,(∀w,(Instr.indexAt t x i).run P w=.ok v w)/\K v:=by
 unfold zl at h
 split at h
 ·rename_i e base len cap k i hu
  split at h
  ·rename_i inf az
   obtain⟨al,rfl,h⟩:=Nn h
   obtain⟨⟨aD,h1⟩,hk⟩:=oL h
   refine⟨_,λw=> ?_,hk⟩
   simp [Instr.indexAt,asIntOf,eE hu,mC az,aD,h1]
  ·exact h.elim
 ·rename_i len e al k i hu
  split at h
  ·rename_i inf az
   obtain⟨⟨aD,h1⟩,hk⟩:=oL h
   refine⟨_,λw=> ?_,hk⟩
   simp [Instr.indexAt,asIntOf,eE hu,mC az,aD,h1,Instr.sureAddr]
  ·exact h.elim
 ·exact h.elim
theorem Wb{i:Value}(h:zm P t x i K):
  ∃v,(∀w,(Instr.index t x i).run P w=.ok v w)/\K v:=by
 unfold zm at h
 split at h
 ·rename_i s k i hu
  obtain⟨⟨aD,h1⟩,hk⟩:=oL h
  obtain⟨b,ah,e⟩:=Nq (s:=s) (i:=i.toNat) (by omega)
  rw [<-e]at hk
  refine⟨_,λw=> ?_,hk⟩
  simp [Instr.index,asIntOf,eE hu,aD,ah]
 ·rename_i len e cs k i hu
  split at h
  ·rename_i inf az
   obtain⟨⟨aD,h1⟩,h⟩:=oL h
   obtain⟨v,bh,hk⟩:=Ba h
   have bh:px P (part e cs (i.toNat *inf.size))=some v:=bh
   refine⟨_,λw=> ?_,hk⟩
   simp [Instr.index,asIntOf,eE hu,aD,h1,mC az,xI bh]
  ·exact h.elim
 ·exact h.elim
theorem NB:∀(cs:List Value) (off:Nat) (v:Value) (vs:List Value),qQ cs off (v::vs)=qQ (cs.set off v) (off+1) vs
 |[],_,_,[]=>rfl
 |[],_,_,_::_=>rfl
 |c::cs,0,v,[]=>by cases cs<;>rfl
 |c::cs,0,v,u::vs=>rfl
 |c::cs,off+1,v,vs=>by
  show c::qQ cs off (v::vs)=qQ (c::cs.set off v) (off+1+1) vs
  rw [NB cs off v vs]
  cases vs with
  |nil=>cases ak:cs.set off v<;>simp [qQ]
  |cons=>rfl
theorem NC(off:Nat):∀(vs:List Value) (k:Nat) (cs:Array Value),((vs.zipIdx k).foldl (fun(cs:Array Value) (x:Value×Nat)=>cs.setIfInBounds (off+x.2) x.1) cs).toList=qQ cs.toList (off+k) vs
 |[],k,cs=>by cases h:cs.toList<;>simp [qQ,h]
 |v::vs,k,cs=>by
  simp only [List.zipIdx_cons,asn]
  rw [NC off vs (k+1) _,NB]
  simp [Nat.add_assoc]
theorem fill_eq(place:Nat->Option (Nat×Nat)):∀(ps:List (Nat×Value)) (cs:Array Value),Instr.fill place cs ps=(xL place cs.toList ps).map List.toArray
 |[],cs=>by simp [Instr.fill,xL]
 |(i,v)::rest,cs=>by
  simp only [Instr.fill,xL]
  cases bh:place i with
  |none=>rfl
  |some p=>
   obtain⟨off,size⟩:=p
   simp only
   have aC:(Array.foldl (fun(cs:Array Value) (x:Value×Nat)=>cs.setIfInBounds (off+x.2) x.1) cs v.cells.zipIdx)=(qQ cs.toList off v.cells.toList).toArray:=by
    apply aso
    rw [<-Array.foldl_toList,Array.toList_zipIdx,NC off v.cells.toList 0 cs]
    rfl
   by_cases h1:v.cells.size=size
   ·by_cases ae:off+v.cells.size<=cs.size
    ·have bc:nP v.cells.toList.length size=true:=by rw [Eo,h1];exact Nat.beq_refl _
     have bN:pt (off+v.cells.toList.length) cs.toList.length=true:=by rw [Eo,Eo];exact asP ae
     rw [bc,bN]
     have c:¬((v.cells.size≠size||decide (off+v.cells.size>cs.size))=true):=by simp [h1];omega
     rw [if_neg c]
     rw [show(Array.foldl (λcs x=>match x with|(c,j)=>cs.setIfInBounds (off+j) c) cs v.cells.zipIdx)=(qQ cs.toList off v.cells.toList).toArray from aC]
     rw [fill_eq place rest]
     rfl
    ·have bN:pt (off+v.cells.toList.length) cs.toList.length=false:=by
      rw [Eo,Eo]
      cases ah:pt (off+v.cells.size) cs.size with
      |false=>rfl
      |true=>exact absurd (MW ah) ae
     rw [bN,Bool.and_false]
     have c:((v.cells.size≠size||decide (off+v.cells.size>cs.size))=true):=by simp;omega
     rw [if_pos c]
     rfl
   ·have bc:nP v.cells.toList.length size=false:=by
     rw [Eo]
     cases ah:nP v.cells.size size with
     |false=>rfl
     |true=>exact absurd (oK ah) h1
    rw [bc,ad3]
    have c:((v.cells.size≠size||decide (off+v.cells.size>cs.size))=true):=by simp [h1]
    rw [if_pos c]
    rfl
theorem Wc(l:List (Nat×Nat)):∀i,zh l i=l[i]?:=by
 induction l with
 |nil=>intro i;simp [zh]
 |cons x l ih=>intro i;cases i with|zero=>rfl|succ i=>simpa [zh]using ih i
theorem ND(w:World):∀(l:List Field) (pl:List (Nat×Nat)),placesOf P l=some pl->(l.mapM (λf=>do pure (f.offset,<-sizeOf f.type)):Sem (List (Nat×Nat))).run P w=.ok pl w
 |[],pl,h=>by simp only [placesOf,Option.some.injEq]at h;subst h;simp
 |x::l,pl,h=>by
  simp only [placesOf]at h
  split at h
  ·rename_i i r az aA
   simp only [Option.some.injEq]at h
   subst h
   have ih:=ND w l r aA
   rw [asp,bd,bd,mC az]
   simp only [bx,s5]
   rw [bd,ih]
   rfl
  ·cases h
theorem Bl{z:Value}(h:zeroOf P t=some z)(w:World):(zeroValue t).run P w=.ok z w:=by
 unfold zeroOf at h
 cases az:P.info? t with
 |none=>simp [az]at h
 |some i=>simp only [az]at h;simp [zeroValue,typeInfo,program,nR,bind,MV,az,h,pure]
theorem Wd{ps:List (Nat×Value)}(h:HW P t ps=some v)(w:World):(Instr.build t ⟨ps⟩).run P w=.ok v w:=by
 unfold HW at h
 split at h
 ·rename_i z eT aC hu
  split at h
  ·rename_i pl nm
   split at h
   ·rename_i cs hF
    simp only [Option.some.injEq]at h
    subst h
    have e:(λi=>(pl.toArray)[i]?)=zh pl:=funext λi=>by rw [Wc];simp
    have hm:(eT.mapM (λf=>do pure (f.offset,<-sizeOf f.type)):Sem (Array (Nat×Nat))).run P w=.ok pl.toArray w:=by
     rw [asq,asr,ND w _ _ nm];rfl
    unfold Instr.build
    rw [bd,Bl aC]
    simp only [bx]
    rw [bd,eE hu]
    simp only [bx]
    rw [bd,hm]
    simp only [bx,e,fill_eq,hF]
    rfl
   ·cases h
  ·cases h
 ·rename_i z len e aC hu
  split at h
  ·rename_i i az
   split at h
   ·rename_i cs hF
    simp only [Option.some.injEq]at h
    subst h
    unfold Instr.build
    rw [bd,Bl aC]
    simp only [bx]
    rw [bd,eE hu]
    simp only [bx]
    rw [bd,mC az]
    simp only [bx,fill_eq,hF]
    rfl
   ·cases h
  ·cases h
 ·cases h
theorem NF(l:List Value)(aH:0<l.length):∀(n i:Nat),(uD l n)[i]?=if i<n*l.length then l[i % l.length]? else none
 |0,i=>by simp [uD]
 |n+1,i=>by
  rw [uD,apM]
  by_cases h:i<l.length
  ·rw [if_pos h,if_pos (by rw [A1];omega),Nat.mod_eq_of_lt h]
  ·rw [if_neg h,NF l aH n]
   have e:(i-l.length) % l.length=i % l.length:=by
    conv=>rhs;rw [show i=(i-l.length)+l.length by omega,Nat.add_mod_right]
   rw [e,A1]
   by_cases ae:i-l.length<n*l.length
   ·rw [if_pos ae,if_pos (by omega)]
   ·rw [if_neg ae,if_neg (by omega)]
theorem We(z:Value)(len:Nat)(aC:0<z.cells.size):((ass (len*z.cells.size)).map (λk=>z.cells[k % z.cells.size]!)).toList=uD z.cells.toList len:=by
 apply ast
 intro i
 have Bm:0<z.cells.toList.length:=by simpa using aC
 rw [NF z.cells.toList Bm,xC,Array.toList_range,apN]
 by_cases h:i<len*z.cells.size
 ·have cF:i % z.cells.size<z.cells.size:=apO _ aC
  rw [List.getElem?_range h]
  simp [h,cF]
 ·rw [asu (by simpa using h)]
  simp [h]
theorem EN(t:TypeId)(cs:Array Value)(E:Env)(H:J)(d:kb E):(newRow t cs).run P (a8 E H d)=.ok ⟨H.size,0,none⟩ (a8 E (H.push (.cells cs t)) d):=by
 simp [newRow,newObj,nR,bind,MV,pure,a8]
theorem Wf{len:Nat}{ps:List (Nat×Value)}{cs:List Value}(h:HX P t len ps=some (e,cs))(E:Env)(H:J)(d:kb E):
  (Instr.buildSlice t len ⟨ps⟩).run P (a8 E H d)=.ok (.slice (some ⟨H.size,0,none⟩) len len) (a8 E (H.push (.cells ⟨cs⟩ e)) d):=by
 unfold HX at h
 split at h
 ·rename_i cV hu
  split at h
  ·rename_i i az
   split at h
   ·rename_i z aC
    cases ak:(pt (len*i.size) 16777216&&nP z.cells.toList.length i.size&&qa 0 i.size)with
    |false=>rw [ak]at h;cases h
    |true=>
     rw [ak]at h
     simp only [cond_true]at h
     split at h
     ·rename_i apU hF
      simp only [Option.some.injEq,Prod.mk.injEq]at h
      obtain⟨rfl,rfl⟩:=h
      simp only [oJ,VB]at ak
      obtain⟨⟨h1,ae⟩,au⟩:=ak
      have gp:len*i.size<=16777216:=MW h1
      have iR:z.cells.size=i.size:=by have:=oK ae;simpa using this
      have Wg:zeroOf P cV=some z:=by simp [zeroOf,az,aC]
      unfold Instr.buildSlice
      rw [bd,eE hu]
      simp only [bx]
      rw [bd,mC az]
      simp only [bx]
      rw [if_neg (by omega)]
      have uH:0<z.cells.size:=by rw [iR];exact au
      by_cases aD:len*i.size=0
      ·have aH:len=0:=by
        rcases Nat.mul_eq_zero.1 aD with h|h
        ·exact h
        ·omega
       subst aH
       simp only [asv,if_true]
       rw [bd]
       simp only [s5,bx]
       have bc:(Array.map (λk=>(#[]:Array Value)[k %(#[]:Array Value).size]!) (ass 0)).toList=uD z.cells.toList 0:=by simp [uD]
       simp only [fill_eq,bc,hF,apP]
       rw [bd,EN]
       rfl
      ·rw [if_neg aD]
       rw [bd,Bl Wg]
       simp only [bx]
       rw [bd]
       simp only [s5,bx]
       have bc:(Array.map (λk=>z.cells[k % z.cells.size]!) (ass (len*i.size))).toList=uD z.cells.toList len:=by rw [<-iR];exact We z len uH
       simp only [fill_eq,bc,hF,apP]
       rw [bd,EN]
       rfl
     ·cases h
   ·cases h
  ·cases h
 ·cases h
def hc(o:Option (J->Prop))(H:J):Prop:=match o with
 |some F=>F H
 |none=>True
theorem H6{o:Oper}(h:qg P n f o H K):
  ∃v,K v/\hc (gn P n f o v) H/\∀w:World,hc (gn P n f o v) w.heap->(execOp (cd n f) o).run P w=.ok (.value v) w:=by
 unfold qg at h
 split at h
 all_goals rename_i an
 case h_1=>exact⟨_,h,by simp [gn,an,hc],λw _=>by simp [execOp,an]⟩
 case h_2=>exact⟨_,h,by simp [gn,an,hc],λw _=>by simp [execOp,an]⟩
 case h_3=>
  split at h
  ·rename_i c ak
   cases c
   ·exact⟨_,h,by simp [gn,an,hc],λw _=>by simp [execOp,an,ak,asBool]⟩
   ·exact⟨_,h,by simp [gn,an,hc],λw _=>by simp [execOp,an,ak,asBool]⟩
  ·exact h.elim
 case h_4 t parts=>
  split at h
  ·rename_i v aI
   refine⟨v,h,by simp [gn,an,hc],λw _=> ?_⟩
   have e:parts.map (fun(x:Nat×Operand)=>(x.1,cd n f x.2))=⟨xD n f parts.toList⟩:=by rw [M7,<-xC]
   simp [execOp,an,e,Wd aI]
  ·exact h.elim
 case h_5 t a=>
  unfold xM at h
  split at h
  ·rename_i al bQ
   obtain⟨v,aH,hk⟩:=Ba h
   refine⟨v,hk,by simpa [gn,an,hc,bQ]using aH,λw hw=> ?_⟩
   have iS:cR P t w.heap al v:=by simpa [gn,an,hc,bQ]using hw
   simp [execOp,an,bQ,Instr.loadAt,Instr.sureAddr,iS w rfl]
  ·exact h.elim
 case h_6 x=>
  unfold Be at h
  split at h
  ·rename_i kc bQ
   obtain⟨a,rfl,hk⟩:=Nn h
   exact⟨_,hk,by simp [gn,an,hc],λw _=>by simp [execOp,an,bQ]⟩
  ·rename_i k a b bQ
   exact⟨_,h,by simp [gn,an,hc],λw _=>by simp [execOp,an,bQ]⟩
  ·exact h.elim
 case h_7 op t x y u=>
  obtain⟨v,aA,hk⟩:=V6 h
  refine⟨v,hk,by simp [gn,an,hc],λw _=> ?_⟩
  have e:=aA w
  simp only [execOp,an]
  rw [bd,e]
  rfl
 case h_8=>
  obtain⟨v,aA,hk⟩:=qi h
  exact⟨v,hk,by simp [gn,an,hc],λw _=>by simp [execOp,an,aA]⟩
 case h_9=>
  obtain⟨v,aA,hk⟩:=qi h
  exact⟨v,hk,by simp [gn,an,hc],λw _=>by simp [execOp,an,aA]⟩
 case h_10=>
  obtain⟨v,aA,hk⟩:=qi h
  exact⟨v,hk,by simp [gn,an,hc],λw _=>by simp [execOp,an,aA]⟩
 case h_11 fn first captured=>
  obtain⟨v,aA,hk⟩:=qi h
  refine⟨v,hk,by simp [gn,an,hc],λw _=> ?_⟩
  have bc:first.map (cd n f)=⟨fv n f first.toList⟩:=by rw [xE,<-xC]
  have bN:captured.map (cd n f)=⟨fv n f captured.toList⟩:=by rw [xE,<-xC]
  simp [execOp,an,bc,bN,aA]
 case h_12=>
  obtain⟨v,aA,hk⟩:=V' h
  simp only [VX]at aA
  exact⟨v,hk,by simp [gn,an,hc],λw _=>by simp [execOp,an,aA]⟩
 case h_13=>
  obtain⟨v,aA,hk⟩:=qi h
  exact⟨v,hk,by simp [gn,an,hc],λw _=>by simp [execOp,an,aA]⟩
 case h_14=>
  obtain⟨v,aA,hk⟩:=qi h
  exact⟨v,hk,by simp [gn,an,hc],λw _=>by simp [execOp,an,aA]⟩
 case h_15=>
  obtain⟨v,aA,hk⟩:=Wa h
  exact⟨v,hk,by simp [gn,an,hc],λw _=>by simp [execOp,an,aA]⟩
 case h_16=>
  obtain⟨v,aA,hk⟩:=Wb h
  exact⟨v,hk,by simp [gn,an,hc],λw _=>by simp [execOp,an,aA]⟩
 case h_17=>
  obtain⟨v,aA,hk⟩:=s6 h
  refine⟨v,hk,by simpa [gn,an,hc]using aA,λw hw=> ?_⟩
  simp only [gn,an,hc]at hw
  simp [execOp,an,hw w rfl]
 case h_18=>
  obtain⟨v,aA,hk⟩:=s6 h
  refine⟨v,hk,by simpa [gn,an,hc]using aA,λw hw=> ?_⟩
  simp only [gn,an,hc]at hw
  simp [execOp,an,hw w rfl]
 case h_19=>
  obtain⟨v,aA,hk⟩:=qi h
  exact⟨v,hk,by simp [gn,an,hc],λw _=>by simp [execOp,an,aA]⟩
 case h_20 args argTypes=>
  have e:args.map (cd n f)=⟨fv n f args.toList⟩:=by rw [xE,<-xC]
  split at h
  ·rename_i v aI
   exact⟨v,h,by simp [gn,an,hc,aI],λw _=>by simp [execOp,an,resolve,invoke,builtin,e,xI (V2 aI)]⟩
  ·rename_i aI
   obtain⟨v,aA,hk⟩:=s6 h
   refine⟨v,hk,by simpa [gn,an,hc,aI]using aA,λw hw=> ?_⟩
   simp only [gn,an,hc,aI]at hw
   simp [execOp,an,resolve,invoke,builtin,e,hw w rfl]
 case h_21 args argTypes=>
  have e:args.map (cd n f)=⟨fv n f args.toList⟩:=by rw [xE,<-xC]
  obtain⟨v,aA,hk⟩:=qi h
  exact⟨v,hk,by simp [gn,an,hc],λw _=>by simp [execOp,an,resolve,invoke,builtin,e,aA]⟩
 case h_22 args argTypes=>
  have e:args.map (cd n f)=⟨fv n f args.toList⟩:=by rw [xE,<-xC]
  obtain⟨v,aA,hk⟩:=qi h
  exact⟨v,hk,by simp [gn,an,hc],λw _=>by simp [execOp,an,resolve,invoke,builtin,e,aA]⟩
 case h_23 args argTypes=>
  have e:args.map (cd n f)=⟨fv n f args.toList⟩:=by rw [xE,<-xC]
  obtain⟨v,aA,hk⟩:=qi h
  exact⟨v,hk,by simp [gn,an,hc],λw _=>by simp [execOp,an,resolve,invoke,builtin,e,aA]⟩
 case h_24=>exact h.elim
theorem NG{o:Oper}(h:qg P n f o H K):
  ∃v,(∀w:World,w.heap=H->(execOp (cd n f) o).run P w=.ok (.value v) w)/\K v:=by
 obtain⟨v,hk,af,aA⟩:=H6 h
 exact⟨v,λw hw=>aA w (by rw [hw];exact af),hk⟩
def Bn(Df:List Deferred)(n:Nat)(f:F)(o:Oper)(K:Value->J->Prop)(E:Env)(next:Act->World->Prop):Prop:=
 ∀v H' d',K v H'->next (cu Df n (eB f o.dst v)) (a8 E H' d')
theorem Bo{k:FuncId}(h:xK P k=true)(args:Array Value)(w:World):(callFunc k args).run P w=.ok (.enter k args) w:=by
 unfold xK at h
 cases hk:P.funcs[k]? with
 |none=>simp [hk]at h
 |some fn=>
  simp only [hk,oJ,ad4,beq_eq_false_iff_ne,ne_eq]at h
  obtain⟨h1,ae⟩:=h
  have au:fn.body.isNone=false:=by cases ah:fn.body<;>simp_all
  have a6:(fn.name== "runtime.NumGoroutine")=false:=by simpa using h1
  have e:callFunc k args=(program>>=λp=>match p.funcs[k]? with
   |none=>stuck "call: no such function"
   |some fn=>if fn.name== "runtime.NumGoroutine" then pure .numGoroutine else if fn.body.isNone then(do
      mark (.extern k)
      if let some e:=Extern.findNext fn then return<-e args
      match Extern.find fn with
      |some e=>pure (.value (<-e args))
      |none=>
       if fn.name.endsWith ".init" && !fn.name.startsWith "(" && !fn.name.startsWith "gosem." then pure (.value (.tuple #[]))
       else unsupported (.extern fn.name))else pure (.enter k args)):=rfl
  rw [e]
  show nR P (match P.funcs[k]? with
   |none=>stuck "call: no such function"
   |some fn=>_) w=_
  rw [hk]
  simp only [a6,au,vV,if_false]
  rfl
theorem H7{o:Oper}{k:FuncId}{args:Array Value}{K:Value->J->Prop}{next:Act->World->Prop}{Q:Exit->Act->World->Prop}
  (h:aY P k args H K) (E:Env) (aZ:Bn Df n f o K E next) (d:kb E):o.upon P (cu Df n f) next Q (.ok (.enter k args) (a8 E H d)):=by
 rw [Oper.upon_enter]
 refine(h E d).mono λe w'=> ?_
 rintro⟨v,H',d',rfl,rfl,hk⟩
 show next ((cu Df n f).put o.dst v) _
 rw [jz]
 exact aZ v H' d' hk
theorem l0{o:Oper}{K:Value->J->Prop}{next:Act->World->Prop}{Q:Exit->Act->World->Prop}
  {E:Env} (aZ:Bn Df n f o K E next) {d':kb E} (hk:K v H'):o.upon P (cu Df n f) next Q (.ok (.value v) (a8 E H' d')):=by
 rw [Oper.upon_value,jz]
 exact aZ v H' d' hk
theorem EO{o:Oper}{K:Value->J->Prop}{next:Act->World->Prop}{Q:Exit->Act->World->Prop}
  {E:Env} (aZ:Bn Df n f o K E next) {d':kb E} (hk:K undef H'):o.upon P (cu Df n f) next Q (.ok .skip (a8 E H' d')):=by
 rw [Oper.upon_skip,jz]
 exact aZ undef H' d' hk
theorem qV(n:Nat)(f:F)(args:Array Operand):args.map (cd n f)=⟨fv n f args.toList⟩:=by rw [xE,<-xC]
theorem Wh(n:Nat)(f:F)(args:Array (Nat×Operand)):args.map (λx=>(x.1,cd n f x.2))=⟨xD n f args.toList⟩:=by rw [M7,<-xC]
theorem zr{o:Oper}{K:Value->J->Prop}{next:Act->World->Prop}{Q:Exit->Act->World->Prop}
  (h:nj P n f o H K) (E:Env) (aZ:Bn Df n f o K E next) (d:kb E):o.wp P (cu Df n f) (a8 E H d) next Q:=by
 unfold Oper.wp
 rw [vX]
 unfold nj at h
 cases eg:EF P o.op with
 |true=>
  rw [eg]at h
  simp only [cond_true]at h
  obtain⟨v,aA,hk⟩:=NG h
  rw [aA _ rfl]
  exact l0 aZ hk
 |false=>
  rw [eg]at h
  simp only [cond_false]at h
  split at h
  all_goals rename_i an
  case h_1 t=>
   split at h
   ·rename_i z aC
    have Bm:∀w,(zeroValue t).run P w=.ok z w:=by
     intro w
     unfold zeroOf at aC
     cases az:P.info? t with
     |none=>simp [az]at aC
     |some i=>simp only [az]at aC;simp [zeroValue,typeInfo,program,nR,bind,MV,az,aC,pure]
    have e:(execOp (cd n f) o).run P (a8 E H d)=.ok (.value (.pointer (some ⟨H.size,0,none⟩))) (a8 E (H.push (.cells z.cells t)) d):=by
     simp [execOp,an,Instr.alloc,Bm,newVar,EN]
    rw [e]
    exact l0 aZ (h H.size _ ⟨rfl,rfl⟩)
   ·exact h.elim
  case h_2 t x=>
   have e:(execOp (cd n f) o).run P (a8 E H d)=.ok (.value (.pointer (some ⟨H.size,0,none⟩))) (a8 E (H.push (.cells (cd n f x).cells t)) d):=by
    simp [execOp,an,Instr.box,newVar,EN]
   rw [e]
   exact l0 aZ (h H.size _ ⟨rfl,rfl⟩)
  case h_3 t len parts=>
   split at h
   ·rename_i e cs hF
    have e:(execOp (cd n f) o).run P (a8 E H d)=.ok (.value (.slice (some ⟨H.size,0,none⟩) len len)) (a8 E (H.push (.cells ⟨cs⟩ e)) d):=by
     simp [execOp,an,Wh,Wf hF]
    rw [e]
    exact l0 aZ (h H.size _ ⟨rfl,rfl⟩)
   ·exact h.elim
  case h_4 t a x=>
   split at h
   ·rename_i al bQ
    obtain⟨H',hs,hk⟩:=h
    have e:(execOp (cd n f) o).run P (a8 E H d)=.ok .skip (a8 E H' d):=by
     have bc:(storeVar t al (cd n f x)).run P (a8 E H d)=.ok () (a8 E H' d):=hs (a8 E H d) rfl
     simp [execOp,an,bQ,Instr.storeAt,Instr.sureAddr,bc]
    rw [e]
    exact EO aZ hk
   ·exact h.elim
  case h_5 t r=>
   split at h
   ·have e:(execOp (cd n f) o).run P (a8 E H d)=.ok (.value (.map (some H.size))) (a8 E (H.push (.map #[] 0)) d):=by
     simp [execOp,an,Instr.makeMap,newObj,nR,bind,MV,pure,a8]
    rw [e]
    exact l0 aZ (h H.size _ ⟨rfl,rfl⟩)
   ·rename_i r
    obtain⟨v,H',d',aA,hk⟩:=h E d
    obtain⟨u,rfl,hk⟩:=uA hk
    have e:(execOp (cd n f) o).run P (a8 E H d)=.ok (.value v) (a8 E H' d'):=by
     simp [execOp,an,aA]
    rw [e]
    exact l0 aZ hk
  case h_6=>
   obtain⟨v,H',d',aA,hk⟩:=h E d
   obtain⟨u,rfl,hk⟩:=uA hk
   have e:(execOp (cd n f) o).run P (a8 E H d)=.ok (.value v) (a8 E H' d'):=by
    simp [execOp,an,aA]
   rw [e]
   exact l0 aZ hk
  case h_7=>
   obtain⟨v,H',d',aA,hk⟩:=h E d
   obtain⟨u,rfl,hk⟩:=s6 hk
   have e:(execOp (cd n f) o).run P (a8 E H d)=.ok (.value v) (a8 E H' d'):=by
    simp [execOp,an,aA]
   rw [e]
   exact l0 aZ hk
  case h_8 t m k x=>
   obtain⟨H',d',aA,hk⟩:=h E d
   have e:(execOp (cd n f) o).run P (a8 E H d)=.ok .skip (a8 E H' d'):=by
    simp [execOp,an,aA]
   rw [e]
   exact EO aZ hk
  case h_9 t m k x=>
   obtain⟨H',d',aA,hk⟩:=h E d
   have e:(execOp (cd n f) o).run P (a8 E H d)=.ok .skip (a8 E H' d'):=by
    simp [execOp,an,aA]
   rw [e]
   exact EO aZ hk
  case h_10=>
   obtain⟨v,H',d',aA,hk⟩:=h E d
   obtain⟨u,rfl,hk⟩:=uA hk
   have e:(execOp (cd n f) o).run P (a8 E H d)=.ok (.value v) (a8 E H' d'):=by
    simp [execOp,an,aA]
   rw [e]
   exact l0 aZ hk
  case h_11 it str=>
   obtain⟨v,H',d',aA,hk⟩:=h E d
   have e:(execOp (cd n f) o).run P (a8 E H d)=.ok (.value v) (a8 E H' d'):=by
    simp [execOp,an,aA]
   rw [e]
   rcases hk with⟨rfl,hk⟩|⟨k,x,rfl,hk⟩<;>exact l0 aZ hk
  case h_12 it=>
   obtain⟨v,H',d',aA,k,x,rfl,hk⟩:=h E d
   have e:(execOp (cd n f) o).run P (a8 E H d)=.ok (.value (.tuple #[k,x])) (a8 E H' d'):=by
    simp [execOp,an,aA]
   rw [e]
   exact l0 aZ hk
  case h_13=>
   obtain⟨v,H',d',aA,hk⟩:=h E d
   have e:(execOp (cd n f) o).run P (a8 E H d)=.ok (.value v) (a8 E H' d'):=by
    simp [execOp,an,aA]
   rw [e]
   exact l0 aZ hk
  case h_14=>
   obtain⟨H',d',aA,hk⟩:=h E d
   have e:(execOp (cd n f) o).run P (a8 E H d)=.ok .skip (a8 E H' d'):=by
    simp [execOp,an,aA]
   rw [e]
   exact EO aZ hk
  case h_15=>
   obtain⟨v,H',d',aA,hk⟩:=h E d
   obtain⟨u,rfl,hk⟩:=uA hk
   have e:(execOp (cd n f) o).run P (a8 E H d)=.ok (.value v) (a8 E H' d'):=by
    simp [execOp,an,resolve,invoke,builtin,qV,aA]
   rw [e]
   exact l0 aZ hk
  case h_16=>
   obtain⟨v,H',d',aA,hk⟩:=h E d
   obtain⟨u,rfl,hk⟩:=uA hk
   have e:(execOp (cd n f) o).run P (a8 E H d)=.ok (.value v) (a8 E H' d'):=by
    simp [execOp,an,resolve,invoke,builtin,qV,aA]
   rw [e]
   exact l0 aZ hk
  case h_17=>
   obtain⟨v,H',d',aA,hk⟩:=h E d
   obtain⟨rfl,hk⟩:=hk
   have e:(execOp (cd n f) o).run P (a8 E H d)=.ok (.value (.tuple #[])) (a8 E H' d'):=by
    simp [execOp,an,resolve,invoke,builtin,qV,aA]
   rw [e]
   exact l0 aZ hk
  case h_18=>
   obtain⟨v,H',d',aA,hk⟩:=h E d
   obtain⟨rfl,hk⟩:=hk
   have e:(execOp (cd n f) o).run P (a8 E H d)=.ok (.value (.tuple #[])) (a8 E H' d'):=by
    simp [execOp,an,resolve,invoke,builtin,qV,aA]
   rw [e]
   exact l0 aZ hk
  case h_19=>
   obtain⟨v,H',d',aA,hk⟩:=h E d
   obtain⟨u,rfl,hk⟩:=uA hk
   have e:(execOp (cd n f) o).run P (a8 E H d)=.ok (.value v) (a8 E H' d'):=by
    simp [execOp,an,resolve,invoke,builtin,qV,aA]
   rw [e]
   exact l0 aZ hk
  case h_20=>
   obtain⟨v,H',d',aA,hk⟩:=h E d
   obtain⟨u,rfl,hk⟩:=uA hk
   have e:(execOp (cd n f) o).run P (a8 E H d)=.ok (.value v) (a8 E H' d'):=by
    simp [execOp,an,resolve,invoke,builtin,qV,aA]
   rw [e]
   exact l0 aZ hk
  case h_21 g args argTypes=>
   split at h
   ·rename_i k
    cases iT:xK P k with
    |true=>
     rw [iT]at h
     simp only [aJ]at h
     have e:(execOp (cd n f) o).run P (a8 E H d)=.ok (.enter k ⟨fv n f args.toList⟩) (a8 E H d):=by
      simp [execOp,an,resolve,Deferred.ofValue,cd,invoke,qV,Bo iT]
     rw [e]
     refine H7 (K:=λv H'=>nT (qe P o.type) λu=>v=u/\K u H') h E (λv H' d' hk=> ?_) d
     obtain⟨u,rfl,hk⟩:=s6 hk
     exact aZ v H' d' hk
    |false=>
     rw [iT]at h
     simp only [aJ]at h
     obtain⟨v,H',d',aA,hk⟩:=h E d
     obtain⟨u,rfl,hk⟩:=s6 hk
     have e:(execOp (cd n f) o).run P (a8 E H d)=.ok (.value v) (a8 E H' d'):=by
      simp [execOp,an,resolve,Deferred.ofValue,cd,invoke,qV,aA]
     rw [e]
     exact l0 aZ hk
   ·obtain⟨k,first,captured,aI,iT,h⟩:=h
    have e:(execOp (cd n f) o).run P (a8 E H d)=.ok (.enter k (first++(fv n f args.toList).toArray++captured)) (a8 E H d):=by
     simp [execOp,an,resolve,Deferred.ofValue,aI,invoke,qV,Bo iT]
    rw [e]
    refine H7 (K:=λv H'=>nT (qe P o.type) λu=>v=u/\K u H') h E (λv H' d' hk=> ?_) d
    obtain⟨u,rfl,hk⟩:=s6 hk
    exact aZ v H' d' hk
  case h_22 g name args argTypes=>
   obtain⟨t,x,k,r,aI,hm,iT,h⟩:=h
   have e:(execOp (cd n f) o).run P (a8 E H d)=.ok (.enter k ⟨r::fv n f args.toList⟩) (a8 E H d):=by
    simp [execOp,an,resolve,aI,invoke,qV,callMethod,hm,Bo iT]
   rw [e]
   refine H7 (K:=λv H'=>nT (qe P o.type) λu=>v=u/\K u H') h E (λv H' d' hk=> ?_) d
   obtain⟨u,rfl,hk⟩:=s6 hk
   exact aZ v H' d' hk
  case h_23=>exact h.elim
theorem EP{o:Oper}{y:Nat->Option Bool}(h:o.guard=none):Region.wanted o y=true:=by simp [Region.wanted,h]
theorem ER{o:Oper}{ops:List Oper}{want c:Bool}(h:o.guard=some (j,want))(aO:s9 ops j=some d)(ak:cd n f (.tmp d)=.bool c):
  Region.wanted o (yielded ops.toArray (cu Df n f).tmps)=(c==want):=by
 unfold s9 at aO
 cases an:ops[j]? with
 |none=>simp [an]at aO
 |some fm=>
  simp only [an]at aO
  rw [vY]at ak
  by_cases ay:d<n
  ·simp only [ay,if_true]at ak
   simp [Region.wanted,h,yielded,an,aO,HT,ay,ak]
  ·simp only [ay,if_false]at ak
   simp [undef]at ak
theorem we{o:Oper}{ops:List Oper}{want:Bool}(h:o.guard=some (j,want))
  (aO:s9 ops j=none\/∃d,s9 ops j=some d/\∀c,cd n f (.tmp d)≠.bool c):Region.wanted o (yielded ops.toArray (cu Df n f).tmps)=false:=by
 simp only [Region.wanted,h]
 have:yielded ops.toArray (cu Df n f).tmps j=none:=by
  unfold yielded
  cases an:ops[j]? with
  |none=>simp [an]
  |some fm=>
   rcases aO with aO|⟨d,aO,ak⟩
   ·simp only [s9,an]at aO
    simp [an,aO]
   ·simp only [s9,an]at aO
    simp only [HQ,an,Option.bind_some,aO,HT]
    by_cases ay:d<n
    ·simp only [ay,if_true]
     cases aI:f d with
     |bool c=>exact absurd (by rw [vY];simp [ay,aI]) (ak c)
     |_=>rfl
    ·simp [ay]
 rw [this]
 rfl
theorem H8(h:cd n f (.tmp d)=v):cu Df n (fc f d v)=cu Df n f:=by
 refine M8 λi az=> ?_
 rw [A8]
 split
 ·rename_i aO;subst aO;rw [vY]at h;simp only [az,if_true]at h;exact h.symm
 ·rfl
theorem uI{ops:List Oper}{Q:Exit->Act->World->Prop}{K:F->J->Prop}
  {E:Env} (cg:∀f H d,K f H->Q .normal (cu Df n f) (a8 E H d)):∀(l:List Oper) (f:F) (H:J),kB P n ops l f H K->∀d,wpList P ops.toArray Q l (cu Df n f) (a8 E H d)
 |[],f,H,h,d=>cg f H d h
 |o::rest,f,H,h,d=>by
  unfold kB at h
  unfold wpList
  split at h
  ·rename_i kd
   rw [if_pos (EP kd)]
   exact .inl (zr h E (λv H' d' hk=>uI cg rest _ _ hk d') d)
  ·rename_i j want kd
   split at h
   ·rename_i hs
    rw [if_neg (by rw [we kd (.inl hs)];simp),jz]
    exact uI cg rest _ _ h d
   ·rename_i dy hs
    split at h
    ·rename_i c ak
     have bc:cu Df n (fc f dy (.bool c))=cu Df n f:=H8 ak
     have hw:=ER (Df:=Df) kd hs ak
     have ES:cd n (fc f dy (.bool c)) (.tmp dy)=.bool c:=by
      have:=uz (Df:=Df) n (fc f dy (.bool c)) (.tmp dy)
      rw [bc,uz]at this
      rw [<-this];exact ak
     cases c<;>cases want<;>simp only [aJ,cond_true,cond_false]at h
     ·rw [if_pos (by rw [hw];rfl),<-bc]
      exact .inl (zr h E (λv H' d' hk=>uI cg rest _ _ hk d') d)
     ·rw [if_neg (by rw [hw];simp),<-bc,jz]
      exact uI cg rest _ _ h d
     ·rw [if_neg (by rw [hw];simp),<-bc,jz]
      exact uI cg rest _ _ h d
     ·rw [if_pos (by rw [hw];rfl),<-bc]
      exact .inl (zr h E (λv H' d' hk=>uI cg rest _ _ hk d') d)
    ·rename_i ak
     rw [if_neg (by rw [we kd (.inr ⟨dy,hs,ak⟩)];simp),jz]
     exact uI cg rest _ _ h d
theorem H9{o:Oper}{w:World}{next:Act->Prop}(h:qg P n f o w.heap K)
  (aZ:∀v,K v->next (cu Df n (eB f o.dst v))):o.still P (cu Df n f) w next:=by
 obtain⟨v,aA,hk⟩:=NG h
 unfold Oper.still
 rw [vX,aA w rfl,Oper.stillUpon_value,jz]
 exact aZ v hk
theorem uJ{ops:List Oper}{w:World}{Q:Act->Prop}{K:F->Prop}
  (cg:∀f,K f->Q (cu Df n f)):∀(l:List Oper) (f:F),lX P n ops w.heap l f K->wpStill P ops.toArray w Q l (cu Df n f)
 |[],f,h=>cg f h
 |o::rest,f,h=>by
  unfold lX at h
  unfold wpStill
  split at h
  ·rename_i kd
   rw [if_pos (EP kd)]
   exact H9 h (λv hk=>uJ cg rest _ hk)
  ·rename_i j want kd
   split at h
   ·rename_i hs
    rw [if_neg (by rw [we kd (.inl hs)];simp),jz]
    exact uJ cg rest _ h
   ·rename_i dy hs
    split at h
    ·rename_i c ak
     have bc:cu Df n (fc f dy (.bool c))=cu Df n f:=H8 ak
     have hw:=ER (Df:=Df) kd hs ak
     cases c<;>cases want<;>simp only [aJ,cond_true,cond_false]at h
     ·rw [if_pos (by rw [hw];rfl),<-bc]
      exact H9 h (λv hk=>uJ cg rest _ hk)
     ·rw [if_neg (by rw [hw];simp),<-bc,jz]
      exact uJ cg rest _ h
     ·rw [if_neg (by rw [hw];simp),<-bc,jz]
      exact uJ cg rest _ h
     ·rw [if_pos (by rw [hw];rfl),<-bc]
      exact H9 h (λv hk=>uJ cg rest _ hk)
    ·rename_i ak
     rw [if_neg (by rw [we kd (.inr ⟨dy,hs,ak⟩)];simp),jz]
     exact uJ cg rest _ h
theorem NH{c:Bool}(h:cd n f (.tmp d)=.bool c):fc f d (.bool c)=f:=by
 funext i
 rw [A8]
 split
 ·rename_i aO
  subst aO
  rw [vY]at h
  split at h
  ·exact h.symm
  ·simp [undef]at h
 ·rfl
theorem ET{ops:List Oper}{o:Oper}{exec skip:F->Prop}(h:guarded ops n o f exec skip):
  (Region.wanted o (yielded ops.toArray (cu Df n f).tmps)=true/\exec f)\/(Region.wanted o (yielded ops.toArray (cu Df n f).tmps)=false/\skip f):=by
 unfold guarded at h
 split at h
 ·rename_i aZ;exact .inl ⟨EP aZ,h⟩
 ·rename_i j want aZ
  split at h
  ·rename_i hs;exact .inr ⟨we aZ (.inl hs),h⟩
  ·rename_i d hs
   split at h
   ·rename_i c ak
    have e:=NH ak
    have hw:=ER (Df:=Df) aZ hs ak
    cases c<;>cases want<;>simp only [aJ,cond_true,cond_false,e]at h
    ·exact .inl ⟨by rw [hw];rfl,h⟩
    ·exact .inr ⟨by rw [hw];rfl,h⟩
    ·exact .inr ⟨by rw [hw];rfl,h⟩
    ·exact .inl ⟨by rw [hw];rfl,h⟩
   ·rename_i ak;exact .inr ⟨we aZ (.inr ⟨d,hs,ak⟩),h⟩
theorem qW{ops:List Oper}{o:Oper}{exec skip NI NJ:F->Prop}(h1:exec f->NI f)(ae:skip f->NJ f)(h:guarded ops n o f exec skip):guarded ops n o f NI NJ:=by
 unfold guarded at h⊢
 split at h
 ·exact h1 h
 ·rename_i j want aZ
  split at h
  ·exact ae h
  ·split at h
   ·rename_i c ak
    have e:=NH ak
    cases c<;>cases want<;>simp only [aJ,cond_true,cond_false,e]at h⊢
    ·exact h1 h
    ·exact ae h
    ·exact ae h
    ·exact h1 h
   ·exact ae h
section
variable{P:Program}{ops:Array Oper}{Q:Exit->Act->World->Prop}{md:Region.Mode}
abbrev oM:=List (Nat×(World->Prop))
def jg(bef:Nat->Nat)(j:Nat)(D:oM):oM:=D.filter λx=> !gi (bef j) x.1
def wg(D:oM)(w:World):Prop:=∀x∈D,x.2 w
def tc(P:Program)(md:Region.Mode)(ops:Array Oper)(Q:Exit->Act->World->Prop)(bef:Nat->Nat):Nat->Array Bool->oM->Act->World->Prop
 |0,listed,_,a,w=>Region.ready md ops listed=[]/\Q .normal a w
 |fuel+1,listed,D,a,w=>
  (Region.ready md ops listed=[]->Q .normal a w)∧
  ∀i∈Region.ready md ops listed,wpOp P ops Q i (λaK w'=>wg (jg bef i D) w'/\tc P md ops Q bef fuel (listed.setIfInBounds i true) (jg bef i D) aK w') a w
variable{bef:Nat->Nat}
theorem NK:∀(fuel:Nat) (listed:Array Bool) (D:oM) (a:Act) (w:World),tc P md ops Q bef fuel listed D a w->wpAny P md ops Q fuel listed a w
 |0,_,_,_,_,h=>h
 |fuel+1,_,_,_,_,h=>⟨h.1,λi az=>wpOp_mono (λaK w' h'=>NK fuel _ _ aK w' h'.2) (h.2 i az)⟩
theorem EU{D wh:oM}(h:∀x∈wh,x∈D):∀x∈jg bef j wh,x∈jg bef j D:=by
 intro x aa
 have:=VD.1 aa
 exact VD.2 ⟨h x this.1,this.2⟩
theorem NL:∀(fuel:Nat) (listed:Array Bool) (D wh:oM) (a:Act) (w:World),(∀x∈wh,x∈D)->tc P md ops Q bef fuel listed D a w->tc P md ops Q bef fuel listed wh a w
 |0,_,_,_,_,_,_,h=>h
 |fuel+1,_,_,_,_,_,hs,h=>⟨h.1,λi az=>wpOp_mono (λaK w' h'=>⟨λx aa=>h'.1 x (EU hs x aa),NL fuel _ _ _ aK w' (EU hs) h'.2⟩) (h.2 i az)⟩
theorem Ia:∀(fuel:Nat) (listed:Array Bool) (D:oM) (a:Act) (w:World),tc P md ops Q bef fuel listed D a w->tc P md ops Q bef fuel listed ((k,λ_=>True)::D) a w
 |0,_,_,_,_,h=>h
 |fuel+1,_,D,_,_,h=>⟨h.1,λi az=>wpOp_mono (λaK w' h'=>by
   have e:jg bef i ((k,λ_=>True)::D)=if gi (bef i) k=true then jg bef i D else(k,λ_=>True)::jg bef i D:=by
    unfold jg
    rw [MX]
    cases gi (bef i) k<;>simp
   rw [e]
   split
   ·exact h'
   ·refine⟨λx aa=> ?_,Ia fuel _ _ aK w' h'.2⟩
    rcases o3.1 aa with rfl|aa
    ·trivial
    ·exact h'.1 x aa) (h.2 i az)⟩
def qj(bef:Nat->Nat)(listed:Array Bool):Prop:=∀x,listed.getD x false=true->∀y,gi (bef x) y=true->listed.getD y false=true
def Bp(md:Region.Mode)(ops:Array Oper)(bef:Nat->Nat):Prop:=∀(j:Nat) (fm:Oper),ops[j]?=some fm->∀y,gi (bef j) y=true->∃e∈fm.after,Region.binds md e=true/\(e.on=y\/gi (bef e.on) y=true)
theorem qj.ready{listed:Array Bool}(h:qj bef listed)(ah:Bp md ops bef)(a':j∈Region.ready md ops listed){y:Nat}(av:gi (bef j) y=true):listed.getD y false=true:=by
 obtain⟨_,fm,td,dG⟩:=mem_ready.1 a'
 obtain⟨e,he,EV,h1⟩:=ah j fm td y av
 rcases h1 with rfl|h1
 ·exact dG e he EV
 ·exact h _ (dG e he EV) y h1
theorem qj.set{listed:Array Bool}(h:qj bef listed)(ah:Bp md ops bef)(a':j∈Region.ready md ops listed):qj bef (listed.setIfInBounds j true):=by
 intro x aa y av
 by_cases py:j=x
 ·subst py;exact getD_set_true (h.ready ah a' av)
 ·rw [getD_set_ne false py]at aa;exact getD_set_true (h x aa y av)
theorem NM{h6:Oper}{S:World->Prop}(az:ops[i]?=some h6)(oN:∀(j:Nat) (o:Oper) cs b,ops[j]?=some o->o.op≠.select cs b)
  (cg:∀c a w,Q (.panic c) (a.put h6.dst v) w->Q (.panic c) a w) (ah:Bp md ops bef):
  ∀(fuel:Nat) (listed:Array Bool) (D:oM) (a:Act) (w:World),
   (∀j fm,ops[j]?=some fm->j≠i->listed.getD j true=false->(∀e∈fm.after,Region.binds md e=true->e.on≠i)->h6.apart ops fm=true)→
   qj bef listed->i∈Region.ready md ops listed->YieldsIf P ops S h6 v a->S w->wg D w→
   tc P md ops Q bef fuel (listed.setIfInBounds i true) ((i,S)::D) (a.put h6.dst v) w->tc P md ops Q bef (fuel+1) listed D a w:=by
 intro fuel
 induction fuel with
 |zero=>
  intro listed D a w _ _ aA av bI dz H
  refine⟨λh=>(by rw [h]at aA;cases aA),λj a'=> ?_⟩
  by_cases nn:j=i
  ·subst nn;exact av.wpOp az bI ⟨λx aa=>dz x (VD.1 aa).1,H⟩
  ·have:=ready_mono a' nn
   rw [H.1]at this
   cases this
 |succ fuel ih=>
  intro listed D a w xS kU aA av bI dz H
  refine⟨λh=>(by rw [h]at aA;cases aA),λj a'=> ?_⟩
  by_cases nn:j=i
  ·subst nn
   exact av.wpOp az bI ⟨λx aa=>dz x (VD.1 aa).1,NL _ _ _ _ _ _ (λx aa=>MY _ (VD.1 aa).1) H⟩
  ·have h1:=H.2 j (ready_mono a' nn)
   obtain⟨Bq,fm,td,dG⟩:=mem_ready.1 a'
   have xT:=(mem_ready.1 aA).1
   have kV:listed.getD i false=false:=by
    rcases Nat.lt_or_ge i listed.size with h'|h'
    ·simp [h']at xT⊢;exact xT
    ·simp [asQ h']at xT
   have Br:∀e∈fm.after,Region.binds md e=true->e.on≠i:=λe he ah heq=>by
    have h1:=dG e he ah
    rw [heq,kV]at h1
    cases h1
   have uK:gi (bef j) i=false:=by
    cases hq:gi (bef j) i with
    |false=>rfl
    |true=>have:=kU.ready ah a' hq;rw [kV]at this;cases this
   have iU:jg bef j ((i,S)::D)=(i,S)::jg bef j D:=by
    unfold jg
    rw [MX,uK]
    rfl
   rw [iU]at h1
   have ae:=wpOp_putIf td (xS j fm td nn Bq Br) (λcs b=>oN i h6 cs b az) (λcs b=>oN j fm cs b td) cg av h1
   have Ib:∀k ok,ops[k]?=some ok->k≠i->(listed.setIfInBounds j true).getD k true=false→
     (∀e∈ok.after,Region.binds md e=true->e.on≠i)->h6.apart ops ok=true:=λk ok hk rX wi cz=>by
    refine xS k ok hk rX ?_ cz
    by_cases qk:j=k
    ·subst qk;exact Bq
    ·rw [getD_set_ne true qk]at wi;exact wi
   refine wpOp_mono (λaK w' au=>⟨λx aa=>au.2.1 x (MY _ aa),ih (listed.setIfInBounds j true) _ aK w' Ib (kU.set ah a') (ready_mono aA (Ne.symm nn)) au.1 (au.2.1 (i,S) (ad5 ..)) (λx aa=>au.2.1 x (MY _ aa)) ?_⟩) ae
   rw [Array.setIfInBounds_comm _ _ nn]
   exact au.2.2
end
theorem NN(m i j:Nat):gi (lY m i) j=(gi m j||decide (i=j)):=by
 rw [qT,qT]
 unfold lY
 rw [show HP m (VC 2 i)=m|||2^i from rfl,asw,asR]
structure Told(ops:List Oper)(m:Nat)(listed:Array Bool):Prop where
 size:listed.size=ops.length
 bit:∀i,i<ops.length->listed[i]?=some (gi m i)
 lt:∀i,gi m i=true->i<ops.length
theorem Told.getD{ops:List Oper}{listed:Array Bool}(h:Told ops m listed)(az:i<ops.length)(d:Bool):listed.getD i d=gi m i:=by
 rw [ad0,h.bit i az];rfl
theorem Told.set{ops:List Oper}{listed:Array Bool}(h:Told ops m listed)(a':j<ops.length):Told ops (lY m j) (listed.setIfInBounds j true):=by
 refine⟨by simpa using h.size,λi az=> ?_,λi az=>by
  rw [NN]at az
  by_cases mD:j=i
  ·subst mD;exact a'
  ·exact h.lt i (by simpa [mD]using az)⟩
 rw [NN]
 by_cases mD:j=i
 ·subst mD
  rw [Array.getElem?_setIfInBounds_self_of_lt (by rw [h.size];exact az)]
  simp
 ·rw [Array.getElem?_setIfInBounds_ne mD,h.bit i az]
  simp [mD]
theorem EW:∀(l:List Oper) (k:Nat) (o:Oper) (i:Nat),l[i]?=some o->(o,k+i)∈xQ l k
 |[],_,_,_,h=>by simp at h
 |x::l,k,o,0,h=>by simp at h;subst h;simp [xQ]
 |x::l,k,o,i+1,h=>by
  have:=EW l (k+1) o i (by simpa using h)
  simp only [xQ,o3]
  right
  rw [show k+(i+1)=k+1+i by omega]
  exact this
theorem Wi{l:List Nat}(h:EG l i=true):i∈l:=by
 induction l with
 |nil=>cases h
 |cons x l ih=>
  unfold EG at h
  cases ah:nP x i with
  |true=>rw [oK ah];exact ad5 ..
  |false=>rw [ah]at h;exact MY _ (ih h)
theorem Wj{ops:List Oper}{listed:Array Bool}(h:Told ops m listed){o:Oper}(hw:∀e∈o.after,Region.binds .any e=true->listed.getD e.on false=true):v8 m o=true:=by
 unfold v8
 rw [VE]
 intro e he
 cases ah:Region.binds .any e with
 |false=>rfl
 |true=>
  have h1:=hw e (by simpa using he) ah
  have cF:e.on<ops.length:=by
   rcases Nat.lt_or_ge e.on listed.size with h'|h'
   ·rw [h.size]at h';exact h'
   ·rw [ad0,asQ h']at h1;cases h1
  rw [h.getD cF]at h1
  simp [h1]
theorem EX{ops:List Oper}{listed:Array Bool}(h:Told ops m listed){l:List Nat}(aA:EH ops m l=true):∀i∈Region.ready .any ops.toArray listed,i∈l:=by
 intro i az
 obtain⟨aD,o,an,dG⟩:=mem_ready.1 az
 have l1:ops[i]?=some o:=by simpa using an
 have cF:i<ops.length:=(qb.1 l1).1
 unfold EH at aA
 rw [VE]at aA
 have:=aA (o,0+i) (EW ops 0 o i l1)
 rw [h.getD cF]at aD
 simp only [zd,aD,Wj h dG,asm,Bool.false_or]at this
 exact Wi this
theorem NO{ops:List Oper}{listed:Array Bool}(h:Told ops m listed){o:Oper}(an:ops[i]?=some o)(a1:Bf ops m i o=true):i∈Region.ready .any ops.toArray listed:=by
 simp only [Bf,oJ,ad4]at a1
 obtain⟨⟨aD,h1⟩,_⟩:=a1
 have l2:i<ops.length:=(qb.1 an).1
 refine mem_ready.2 ⟨by rw [h.getD l2];exact aD,o,by simpa using an,λe he uK=> ?_⟩
 unfold v8 at h1
 rw [VE]at h1
 have:=h1 e (by simpa using he)
 rw [uK]at this
 have ql:gi m e.on=true:=by simpa using this
 rw [h.getD (h.lt _ ql)]
 exact ql
theorem EY{ops:List Oper}{listed:Array Bool}(h:Told ops m listed){o:Oper}(a1:Bf ops m i o=true):
  ∀j fm,ops.toArray[j]?=some fm->j≠i->listed.getD j true=false->(∀e∈fm.after,Region.binds .any e=true->e.on≠i)->o.apart ops.toArray fm=true:=by
 intro j fm a' cH wi cz
 simp only [Bf,oJ]at a1
 obtain⟨_,ae⟩:=a1
 rw [VE]at ae
 have mE:ops[j]?=some fm:=by simpa using a'
 have EZ:j<ops.length:=(qb.1 mE).1
 have au:=ae (fm,0+j) (EW ops 0 fm j mE)
 rw [h.getD EZ]at wi
 have Wk:nP j i=false:=by
  cases ah:nP j i with
  |false=>rfl
  |true=>exact absurd (oK ah) cH
 have Wl:(fm.after.toList.any λe=>Region.binds .any e&&nP e.on i)=false:=by
  rw [List.any_eq_false]
  intro e he
  simp only [oJ,not_and]
  intro ah EV
  exact cz e (by simpa using he) ah (oK EV)
 simpa only [zd,Wk,wi,Wl,Bool.false_or]using au
theorem cj.mono{s:Sem Value}{K b3:Value->J->Prop}(h:cj P s H K)(hk:∀v H',K v H'->b3 v H'):cj P s H b3:=
 λE d=>let⟨v,H',d',aA,k⟩:=h E d;⟨v,H',d',aA,hk _ _ k⟩
theorem iQ.mono{s:Sem Unit}{K b3:J->Prop}(h:iQ P s H K)(hk:∀H',K H'->b3 H'):iQ P s H b3:=
 λE d=>let⟨H',d',aA,k⟩:=h E d;⟨H',d',aA,hk _ k⟩
theorem aY.mono{k:FuncId}{args:Array Value}{R mF:Value->J->Prop}(h:aY P k args H R)(aA:∀v H',R v H'->mF v H'):aY P k args H mF:=
 λE d=>(h E d).mono λ_ _ ⟨v,H',d',bc,bN,r⟩=>⟨v,H',d',bc,bN,aA _ _ r⟩
theorem qP.mono{k:FuncId}{args:Array Value}{R mF:Value->J->Prop}(h:qP P k args H R)(aA:∀v H',R v H'->mF v H'):qP P k args H mF:=λE d=>by
 obtain⟨v,H',d',e,r⟩:=h E d
 exact⟨v,H',d',e,aA _ _ r⟩
theorem dO.mono{args:List Value}{R mF:Value->J->Prop}(h:dO P v args H R)(aA:∀v H',R v H'->mF v H'):dO P v args H mF:=
 let⟨k,first,captured,h1,ae,au⟩:=h;⟨k,first,captured,h1,ae,au.mono aA⟩
theorem E0{s:Sem Value}(hk:∀v,K v->b3 v)(h:mA P s K):mA P s b3:=by
 unfold mA at *
 split at h
 ·exact hk _ h
 ·exact h.elim
theorem wj{b:B}{dx ec:Operand}{op:BinOp}{r:Bool}(hk:∀v,K v->b3 v)
  (h:qf P t b dx ec x y op r K):qf P t b dx ec x y op r b3:=by
 unfold qf at h⊢
 split at h
 ·exact hk _ h
 ·exact hk _ h
 ·exact hk _ h
 ·exact hk _ h
 ·obtain⟨r,aA,h⟩:=h;exact⟨r,aA,hk _ h⟩
theorem NP{op:BinOp}{dx ec:Operand}(hk:∀v,K v->b3 v)(h:xN P op t dx ec x y K):xN P op t dx ec x y b3:=by
 unfold xN at h⊢
 split at h
 ·cases op<;>exact hk _ h
 ·obtain⟨r,aA,h⟩:=h;exact⟨r,aA,hk _ h⟩
theorem Wm{op:BinOp}{dx ec:Operand}(hk:∀v,K v->b3 v)(h:zi P op t dx ec x y K):zi P op t dx ec x y b3:=by
 unfold zi at h⊢
 split at h
 ·exact fY (hk _) h
 ·exact fY (hk _) h
 ·exact fY (fY (hk _)) h
 ·exact fY (fY (hk _)) h
 ·exact fY (hk _) h
 case h_6=>exact wj hk h
 case h_7=>exact wj hk h
 case h_8=>exact wj hk h
 case h_9=>exact wj hk h
 case h_10=>exact wj hk h
 case h_11=>exact wj hk h
 case h_12=>exact wj hk h
 case h_13=>exact wj hk h
 case h_14=>exact E0 hk h
 case h_15=>exact E0 hk h
 case h_16=>exact hk _ h
 case h_17=>exact hk _ h
 case h_18=>exact NP hk h
 case h_19=>exact NP hk h
 case h_20=>exact E0 hk h
theorem Wn{op:BinOp}{dx ec:Operand}(hk:∀v,K v->b3 v)(h:zj P op t dx ec x y K):zj P op t dx ec x y b3:=by
 unfold zj at h⊢
 cases az:H2 P t with
 |true=>
  simp only [az,cond_true]at h⊢
  split at h
  ·obtain⟨r,aA,h⟩:=h;exact⟨r,aA,hk _ h⟩
  ·obtain⟨r,aA,h⟩:=h;exact⟨r,aA,hk _ h⟩
  ·exact h
 |false=>simp only [az,cond_false]at h⊢;exact Wm hk h
theorem Wo{er az nW:Option Value}(hk:∀v,K v->b3 v)(h:zk P t x er az nW K):zk P t x er az nW b3:=by
 unfold zk at h⊢
 cases nW with
 |some m=>
  simp only at h⊢
  unfold ED at h⊢
  split at h
  ·split at h
   ·exact fY (hk _) h
   ·exact h.elim
  ·exact h.elim
 |none=>
  simp only at h⊢
  split at h
  ·split at h
   ·exact fY (hk _) h
   ·exact h.elim
  ·split at h
   ·exact fY (hk _) h
   ·exact h.elim
  ·split at h
   ·exact fY (hk _) h
   ·exact h.elim
  ·exact h.elim
theorem Wp{i:Value}(hk:∀v,K v->b3 v)(h:zl P t x i K):zl P t x i b3:=by
 unfold zl at h⊢
 split at h
 ·split at h
  ·exact No (λ_ h=>fY (hk _) h) h
  ·exact h.elim
 ·split at h
  ·exact fY (hk _) h
  ·exact h.elim
 ·exact h.elim
theorem Wq{i:Value}(hk:∀v,K v->b3 v)(h:zm P t x i K):zm P t x i b3:=by
 unfold zm at h⊢
 split at h
 ·exact fY (hk _) h
 ·split at h
  ·exact fY (λh=>EA (λv h=>⟨h.1,hk _ h.2⟩) h) h
  ·exact h.elim
 ·exact h.elim
theorem Wr(hk:∀v,K v->b3 v)(h:Be x K):Be x b3:=by
 unfold Be at h⊢
 split at h
 ·exact No (λ_ h=>hk _ h) h
 ·exact hk _ h
 ·exact h.elim
theorem Ws{a:Value}(hk:∀v,K v->b3 v)(h:xM P t a H K):xM P t a H b3:=by
 unfold xM at h⊢
 split at h
 ·exact EA (λv h=>⟨h.1,hk _ h.2⟩) h
 ·exact h.elim
theorem rY{o:Oper}(hk:∀v,K v->b3 v)(h:qg P n f o H K):qg P n f o H b3:=by
 unfold qg at h⊢
 split at h
 case h_1=>exact hk _ h
 case h_2=>exact hk _ h
 case h_3=>
  split at h
  ·exact zg (hk _) (hk _) h
  ·exact h.elim
 case h_4=>
  split at h
  ·exact hk _ h
  ·exact h.elim
 case h_5=>exact Ws hk h
 case h_6=>exact Wr hk h
 case h_7=>exact Wn hk h
 case h_12=>exact Wo hk h
 case h_15=>exact Wp hk h
 case h_16=>exact Wq hk h
 case h_17=>exact s7 (λv h=>⟨h.1,hk _ h.2⟩) h
 case h_18=>exact s7 (λv h=>⟨h.1,hk _ h.2⟩) h
 case h_20=>
  split at h
  ·exact hk _ h
  ·exact s7 (λv h=>⟨h.1,hk _ h.2⟩) h
 case h_24=>exact h.elim
 all_goals exact E0 hk h
theorem pz{o:Oper}{K b3:Value->J->Prop}(hk:∀v H',K v H'->b3 v H')(h:nj P n f o H K):nj P n f o H b3:=by
 unfold nj at h⊢
 cases eg:EF P o.op with
 |true=>rw [eg]at h;simp only [cond_true]at h⊢;exact rY (λv=>hk v H) h
 |false=>
  rw [eg]at h
  simp only [cond_false]at h⊢
  split at h
  case h_1=>
   split at h
   ·intro b H' ay;exact hk _ _ (h b H' ay)
   ·exact h.elim
  case h_2=>intro b H' ay;exact hk _ _ (h b H' ay)
  case h_3=>
   split at h
   ·intro b H' ay;exact hk _ _ (h b H' ay)
   ·exact h.elim
  case h_4=>
   split at h
   ·obtain⟨H',hs,k⟩:=h;exact⟨H',hs,hk _ _ k⟩
   ·exact h.elim
  case h_5=>
   split at h
   ·intro b H' ay;exact hk _ _ (h b H' ay)
   ·exact h.mono λv H' k=>uB (λu k=>⟨k.1,hk _ _ k.2⟩) k
  case h_6=>exact h.mono λv H' k=>uB (λu k=>⟨k.1,hk _ _ k.2⟩) k
  case h_7=>exact h.mono λv H' k=>s7 (λu k=>⟨k.1,hk _ _ k.2⟩) k
  case h_8=>exact h.mono λH' k=>hk _ _ k
  case h_9=>exact h.mono λH' k=>hk _ _ k
  case h_10=>exact h.mono λv H' k=>uB (λu k=>⟨k.1,hk _ _ k.2⟩) k
  case h_11=>exact h.mono λv H' k=>k.imp (λk=>⟨k.1,hk _ _ k.2⟩) (fun⟨a,x,k⟩=>⟨a,x,k.1,hk _ _ k.2⟩)
  case h_12=>exact h.mono λv H' ⟨a,x,k⟩=>⟨a,x,k.1,hk _ _ k.2⟩
  case h_13=>exact h.mono hk
  case h_14=>exact h.mono λH' k=>hk _ _ k
  case h_15=>exact h.mono λv H' k=>uB (λu k=>⟨k.1,hk _ _ k.2⟩) k
  case h_16=>exact h.mono λv H' k=>uB (λu k=>⟨k.1,hk _ _ k.2⟩) k
  case h_17=>exact h.mono λv H' k=>⟨k.1,hk _ _ k.2⟩
  case h_18=>exact h.mono λv H' k=>⟨k.1,hk _ _ k.2⟩
  case h_19=>exact h.mono λv H' k=>uB (λu k=>⟨k.1,hk _ _ k.2⟩) k
  case h_20=>exact h.mono λv H' k=>uB (λu k=>⟨k.1,hk _ _ k.2⟩) k
  case h_21=>
   split at h
   ·exact zg (λh=>aY.mono h λv H' k=>s7 (λu k=>⟨k.1,hk _ _ k.2⟩) k) (λh=>qP.mono h λv H' k=>s7 (λu k=>⟨k.1,hk _ _ k.2⟩) k) h
   ·exact dO.mono h λv H' k=>s7 (λu k=>⟨k.1,hk _ _ k.2⟩) k
  case h_22=>
   obtain⟨t,x,k,r,aI,hm,iT,h⟩:=h
   exact⟨t,x,k,r,aI,hm,iT,aY.mono h λv H' k=>s7 (λu k=>⟨k.1,hk _ _ k.2⟩) k⟩
  case h_23=>exact h.elim
def eH(W:List Nat)(f bE:F):Prop:=∀i,lZ W i=false->bE i=f i
theorem eH.refl(W:List Nat)(f:F):eH W f f:=λ_ _=>rfl
theorem Ic(a b:List Nat)(i:Nat):lZ (a++b) i=(lZ a i||lZ b i):=by
 induction a with
 |nil=>rfl
 |cons x a ih=>
  simp only [asx,lZ,ih]
  cases nP i x<;>rfl
theorem eH.trans{W W':List Nat}{h:F}(h1:eH W f g)(ae:eH W' g h):eH (W++W') f h:=λi az=>by
 rw [Ic,apQ]at az
 rw [ae i az.2,h1 i az.1]
theorem eH.left{W:List Nat}(W':List Nat)(h:eH W f g):eH (W++W') f g:=λi az=>by
 rw [Ic,apQ]at az
 exact h i az.1
theorem eH.right{W':List Nat}(W:List Nat)(h:eH W' f g):eH (W++W') f g:=λi az=>by
 rw [Ic,apQ]at az
 exact h i az.2
theorem Bs{o:Oper}{rest:List Oper}(h:eH (gP rest) (eB f o.dst v) g):eH (gP (o::rest)) f g:=by
 intro i az
 cases aO:o.dst with
 |none=>
  rw [aO]at h
  simp only [gP,aO]at az
  exact h i az
 |some d=>
  rw [aO]at h
  simp only [gP,aO]at az
  have mG:lZ (d::gP rest) i=false:=by split at az<;>exact az
  simp only [lZ]at mG
  cases ah:nP i d with
  |true=>simp [ah]at mG
  |false=>
   simp only [ah,cond_false]at mG
   rw [h i mG]
   simp [eB,fc,ah]
theorem Ie{c:Bool}(h:cd n f (.tmp d)=.bool c):fc f d (.bool c)=f:=by
 funext i
 rw [A8]
 split
 ·rename_i aO
  subst aO
  rw [vY]at h
  split at h
  ·exact h.symm
  ·simp [undef]at h
 ·rfl
theorem rZ{ops:List Oper}{K b3:F->J->Prop}(hk:∀f H,K f H->b3 f H):∀(l:List Oper) (f:F) (H:J),kB P n ops l f H K->kB P n ops l f H b3
 |[],f,H,h=>hk _ _ h
 |o::rest,f,H,h=>by
  unfold kB at h⊢
  split at h
  ·exact pz (λv H' k=>rZ hk rest _ _ k) h
  ·rename_i j want kd
   split at h
   ·exact rZ hk rest _ _ h
   ·split at h
    ·rename_i c ak
     cases c<;>cases want<;>simp only [aJ,cond_true,cond_false]at h⊢
     ·exact pz (λv H' k=>rZ hk rest _ _ k) h
     ·exact rZ hk rest _ _ h
     ·exact rZ hk rest _ _ h
     ·exact pz (λv H' k=>rZ hk rest _ _ k) h
    ·exact rZ hk rest _ _ h
theorem Ig{ops:List Oper}{K:F->J->Prop}:∀(l:List Oper) (f:F) (H:J),kB P n ops l f H K->kB P n ops l f H (λbE H'=>K bE H'/\eH (gP l) f bE)
 |[],f,H,h=>⟨h,eH.refl _ _⟩
 |o::rest,f,H,h=>by
  have key:∀(v:Value) (H':J),kB P n ops rest (eB f o.dst v) H' K->kB P n ops rest (eB f o.dst v) H' λbE H'=>K bE H'/\eH (gP (o::rest)) f bE:=by
   intro v H' hk
   exact rZ (λbE H' k=>⟨k.1,Bs k.2⟩) rest _ _ (Ig rest _ _ hk)
  unfold kB at h⊢
  split at h
  ·exact pz (λv H' hk=>key v H' hk) h
  ·rename_i j want kd
   split at h
   ·exact key _ _ h
   ·rename_i dy hs
    split at h
    ·rename_i c ak
     have e:=Ie ak
     cases c<;>cases want<;>simp only [aJ,cond_true,cond_false,e]at h⊢
     ·exact pz (λv H' hk=>key v H' hk) h
     ·exact key _ _ h
     ·exact key _ _ h
     ·exact pz (λv H' hk=>key v H' hk) h
    ·exact key _ _ h
theorem NQ{ops:List Oper}{K:F->J->Prop}:∀(l:List Oper) (f:F) (H:J),qU P n l f H K->kB P n ops l f H K
 |[],_,_,h=>h
 |o::rest,f,H,h=>by
  unfold qU at h
  unfold kB
  split at h
  ·rename_i aZ
   rw [aZ]
   exact pz (λv H' k=>NQ rest _ _ (Nu k)) h
  ·exact h.elim
theorem Ih{K b3:F->J->Prop}(hk:∀f H,K f H->b3 f H):∀(l:List Oper) (f:F) (H:J),qU P n l f H K->qU P n l f H b3
 |[],f,H,h=>hk _ _ h
 |o::rest,f,H,h=>by
  unfold qU at h⊢
  split at h
  ·exact pz (λv H' k=>EL (λv k=>Ih hk rest _ _ k) k) h
  ·exact h.elim
theorem NR{K:F->J->Prop}:∀(l:List Oper) (f:F) (H:J),qU P n l f H K->qU P n l f H (λbE H'=>K bE H'/\eH (gP l) f bE)
 |[],f,H,h=>⟨h,eH.refl _ _⟩
 |o::rest,f,H,h=>by
  have key:∀(v:Value) (H':J),qU P n rest (eB f o.dst v) H' K->qU P n rest (eB f o.dst v) H' λbE H'=>K bE H'/\eH (gP (o::rest)) f bE:=by
   intro v H' hk
   exact Ih (λbE H' k=>⟨k.1,Bs k.2⟩) rest _ _ (NR rest _ _ hk)
  unfold qU at h⊢
  split at h
  ·exact pz (λv H' hk=>EL (λv hk=>key v H' hk) hk) h
  ·exact h.elim
theorem Wt{a:hE}{ops:List Oper}{K:F->J->Prop}(h:uE P n a ops f H K):kB P n ops ops f H K:=by
 unfold uE at h
 split at h
 ·exact NQ _ _ _ h
 ·exact h
theorem Wu{a:hE}{ops:List Oper}{K b3:F->J->Prop}(hk:∀f H,K f H->b3 f H)(h:uE P n a ops f H K):uE P n a ops f H b3:=by
 unfold uE at h⊢
 split at h
 ·exact Ih hk _ _ _ h
 ·exact rZ hk _ _ _ h
theorem Wv{a:hE}{ops:List Oper}{K:F->J->Prop}(h:uE P n a ops f H K):uE P n a ops f H (λbE H'=>K bE H'/\eH (gP ops) f bE):=by
 unfold uE at h⊢
 split at h
 ·exact NR _ _ _ h
 ·exact Ig _ _ _ h
theorem r0{ops:List Oper}{K b3:F->Prop}(hk:∀f,K f->b3 f):∀(l:List Oper) (f:F),lX P n ops H l f K->lX P n ops H l f b3
 |[],f,h=>hk _ h
 |o::rest,f,h=>by
  unfold lX at h⊢
  split at h
  ·exact rY (λv k=>r0 hk rest _ k) h
  ·rename_i j want kd
   split at h
   ·exact r0 hk rest _ h
   ·split at h
    ·rename_i c ak
     cases c<;>cases want<;>simp only [aJ,cond_true,cond_false]at h⊢
     ·exact rY (λv k=>r0 hk rest _ k) h
     ·exact r0 hk rest _ h
     ·exact r0 hk rest _ h
     ·exact rY (λv k=>r0 hk rest _ k) h
    ·exact r0 hk rest _ h
theorem Ii{ops:List Oper}{K:F->Prop}:∀(l:List Oper) (f:F),lX P n ops H l f K->lX P n ops H l f (λbE=>K bE/\eH (gP l) f bE)
 |[],f,h=>⟨h,eH.refl _ _⟩
 |o::rest,f,h=>by
  have key:∀(v:Value),lX P n ops H rest (eB f o.dst v) K->lX P n ops H rest (eB f o.dst v) λbE=>K bE/\eH (gP (o::rest)) f bE:=by
   intro v hk
   exact r0 (λbE k=>⟨k.1,Bs k.2⟩) rest _ (Ii rest _ hk)
  unfold lX at h⊢
  split at h
  ·exact rY (λv hk=>key v hk) h
  ·rename_i j want kd
   split at h
   ·exact key _ h
   ·rename_i dy hs
    split at h
    ·rename_i c ak
     have e:=Ie ak
     cases c<;>cases want<;>simp only [aJ,cond_true,cond_false,e]at h⊢
     ·exact rY (λv hk=>key v hk) h
     ·exact key _ h
     ·exact key _ h
     ·exact rY (λv hk=>key v hk) h
    ·exact key _ h
theorem Ww(l:List Oper)(m i:Nat):lZ (gP l) i=(lZ (gP (l.take m)) i||lZ (gP (l.drop m)) i):=by
 induction l generalizing m with
 |nil=>simp [gP,lZ]
 |cons o l ih=>
  cases m with
  |zero=>simp [gP,lZ]
  |succ m=>
   simp only [asS,List.drop_succ_cons,gP]
   cases aO:o.dst with
   |none=>exact ih m
   |some d=>
    cases aZ:o.guard<;>simp only [lZ,ih m]<;>cases nP i d<;>rfl
theorem uL(h:X->Y):∀{D:kC},ta D H X->ta D H Y
 |[],aa=>h aa
 |_::_,aa=>⟨aa.1,uL h aa.2⟩
theorem E1:∀{D:kC},ta D H X->(∀x∈D,x.2 H)/\X
 |[],aa=>⟨by simp,aa⟩
 |y::D,aa=>⟨λx hm=>(o3.1 hm).elim (λe=>by rw [e];exact aa.1) ((E1 aa.2).1 x),(E1 aa.2).2⟩
theorem Wx{ops:List Oper}{K b3:F->J->Prop}(hk:∀f H,K f H->b3 f H):∀(s:eY) (m:Nat) (D:kC) (f:F) (H:J),hp P n ops bef K s m D f H->hp P n ops bef b3 s m D f H:=by
 intro s
 induction s with
 |done=>intro m D f H h;unfold hp at h⊢;exact fY (hk _ _) h
 |quiet i s ih=>
  intro m D f H h
  unfold hp at h⊢
  split at h
  ·exact h
  ·exact fY (qW (λh=>rY (λv h=>ih _ _ _ _ h) h) (λh=>ih _ _ _ _ h)) h
 |pick s ih=>intro m D f H h;unfold hp at h⊢;exact fY (ih _ _ _ _) h
 |alt i s r ih r1=>
  intro m D f H h
  unfold hp at h⊢
  split at h
  ·exact h
  ·refine fY (λh=> ?_) h
   cases aA:r.qS with
   |true=>
    rw [aA]at h
    simp only [cond_true]at h⊢
    exact qW (λh=>pz (λv H' h=>uL (ih _ _ _ _) h) h) (λh=>ih _ _ _ _ h) h
   |false=>
    rw [aA]at h
    simp only [cond_false]at h⊢
    exact⟨qW (λh=>pz (λv H' h=>uL (ih _ _ _ _) h) h) (λh=>ih _ _ _ _ h) h.1,r1 _ _ _ _ h.2⟩
 |stop=>intro m D f H h;exact h
theorem NS:∀{ops:List Oper} {i d:Nat} {o:Oper},ops[i]?=some o->o.dst=some d->lZ (gP ops) d=true
 |[],i,_,_,h,_=>by simp at h
 |x::l,0,d,o,h,aO=>by
  simp at h
  subst h
  simp only [gP,aO]
  have:nP d d=true:=Nat.beq_refl d
  cases x.guard<;>(unfold lZ;rw [this];rfl)
 |x::l,i+1,d,o,h,aO=>by
  have:=NS (ops:=l) (i:=i) (by simpa using h) aO
  simp only [gP]
  cases aa:x.dst with
  |none=>exact this
  |some d'=>
   cases x.guard<;>simp only [lZ,this]<;>cases nP d d'<;>rfl
theorem qX{ops:List Oper}{o:Oper}{f0:F}(az:ops[i]?=some o)(h:eH (gP ops) f0 f)(v:Value):eH (gP ops) f0 (eB f o.dst v):=by
 intro k hk
 cases aO:o.dst with
 |none=>exact h k hk
 |some d=>
  have Wy:k≠d:=λe=>by subst e;rw [NS az aO]at hk;cases hk
  simp only [eB,A8,if_neg Wy]
  exact h k hk
theorem Wz{ops:List Oper}{K:F->J->Prop}{f0:F}:∀(s:eY) (m:Nat) (D:kC) (f:F) (H:J),eH (gP ops) f0 f->hp P n ops bef K s m D f H->hp P n ops bef (λbE H'=>K bE H'/\eH (gP ops) f0 bE) s m D f H:=by
 intro s
 induction s with
 |done=>intro m D f H an h;unfold hp at h⊢;exact fY (λh=>⟨h,an⟩) h
 |quiet i s ih=>
  intro m D f H an h
  unfold hp at h⊢
  split at h
  ·exact h
  ·rename_i o az
   exact fY (qW (λh=>rY (λv h=>ih _ _ _ _ (qX az an _) h) h) (λh=>ih _ _ _ _ (qX az an _) h)) h
 |pick s ih=>intro m D f H an h;unfold hp at h⊢;exact fY (ih _ _ _ _ an) h
 |alt i s r ih r1=>
  intro m D f H an h
  unfold hp at h⊢
  split at h
  ·exact h
  ·rename_i o az
   refine fY (λh=> ?_) h
   cases aA:r.qS with
   |true=>
    rw [aA]at h
    simp only [cond_true]at h⊢
    exact qW (λh=>pz (λv H' h=>uL (ih _ _ _ _ (qX az an _)) h) h) (λh=>ih _ _ _ _ (qX az an _) h) h
   |false=>
    rw [aA]at h
    simp only [cond_false]at h⊢
    exact⟨qW (λh=>pz (λv H' h=>uL (ih _ _ _ _ (qX az an _)) h) h) (λh=>ih _ _ _ _ (qX az an _) h) h.1,r1 _ _ _ _ an h.2⟩
 |stop=>intro m D f H an h;exact h
def kW(bef:List Nat)(j:Nat):Nat:=bef.getD j 0
def oO(D:kC):oM:=D.map λx=>(x.1,λw=>x.2 w.heap)
theorem Ij(bef:List Nat)(j:Nat):∀D:kC,jg (kW bef) j (oO D)=oO (gO bef j D)
 |[]=>rfl
 |(E2,apV)::D=>by
  have ih:=Ij bef j D
  unfold jg oO at ih⊢
  simp only [qO,MX,gO]
  show(if(!gi (kW bef j) E2)=true then _ else _)=_
  cases ah:gi (bef.getD j 0) E2 with
  |true=>rw [if_neg (by show¬(!gi (bef.getD j 0) E2)=true;rw [ah];simp)];simpa using ih
  |false=>rw [if_pos (by show(!gi (bef.getD j 0) E2)=true;rw [ah];rfl)];simpa using ih
theorem wk{D:kC}{E:Env}{d:kb E}:wg (oO D) (a8 E H d)↔∀x∈D,x.2 H:=by
 unfold wg oO
 simp only [ad6,forall_exists_index,and_imp,forall_apply_eq_imp_iff₂]
 rfl
theorem NT{y:Nat}:∀(l:List Edge) (s:Nat),gi (l.foldl (λs e=>cond (Region.binds .any e) (HP s (HP (VC 2 e.on) (bef.getD e.on 0))) s) s) y=true→
  gi s y=true\/∃e∈l,Region.binds .any e=true/\(e.on=y\/gi (kW bef e.on) y=true)
 |[],s,h=>.inl h
 |e::l,s,h=>by
  rw [asn]at h
  rcases NT l _ h with h1|⟨cV,h7,r⟩
  ·cases ah:Region.binds .any e with
   |false=>rw [ah]at h1;exact .inl h1
   |true=>
    rw [ah]at h1
    simp only [cond_true]at h1
    rw [qT]at h1
    rw [show HP s (HP (VC 2 e.on) (bef.getD e.on 0))=s|||(2^e.on|||bef.getD e.on 0)from rfl,asw,asw,asR]at h1
    simp only [asy,decide_eq_true_eq]at h1
    rcases h1 with h1|h1|h1
    ·exact .inl (by rw [qT];exact h1)
    ·exact .inr ⟨e,ad5 ..,ah,.inl h1⟩
    ·exact .inr ⟨e,ad5 ..,ah,.inr (by unfold kW;rw [qT];exact h1)⟩
  ·exact .inr ⟨cV,MY _ h7,r⟩
theorem NU{ops:List Oper}(h:Bh ops bef=true):Bp .any ops.toArray (kW bef):=by
 intro j fm a' y av
 have mE:ops[j]?=some fm:=by simpa using a'
 unfold Bh at h
 rw [VE]at h
 have h1:=h (fm,0+j) (EW ops 0 fm j mE)
 simp only [zd]at h1
 have ae:=oK h1
 have au:gi (bef.getD j 0) y=true:=av
 rw [<-ae]at au
 rw [qT]at au
 rw [show∀a b:Nat,Nat.land a b=a&&&b from λ_ _=>rfl,Nat.testBit_and]at au
 simp only [oJ]at au
 rcases NT fm.after.toList 0 (by rw [qT];exact au.2)with a6|⟨e,he,r⟩
 ·simp [qT]at a6
 ·exact⟨e,by simpa using he,r⟩
theorem WA{ops:List Oper}{K:F->J->Prop}{E:Env}{Q:Act->World->Prop}(cg:∀f H d,K f H->Q (cu Df n f) (a8 E H d))(ah:Bh ops bef=true)(oN:Region.noSelect ops.toArray=true):
  ∀(s:eY),(∀(m:Nat) (D:kC) (listed:Array Bool) (fuel:Nat) (f:F) (H:J) (d:kb E),hp P n ops bef K s m D f H->s.xP=true->Told ops m listed->qj (kW bef) listed->s.depth<=fuel->(∀x∈D,x.2 H)→
    tc P .any ops.toArray (λe a w=>e=.normal/\Q a w) (kW bef) fuel listed (oO D) (cu Df n f) (a8 E H d))∧
   (∀(m:Nat) (D:kC) (listed:Array Bool) (fuel:Nat) (f:F) (H:J) (d:kb E),hp P n ops bef K s m D f H->Told ops m listed->qj (kW bef) listed->s.depth<=fuel+1->(∀x∈D,x.2 H)→
    ∀i∈s.alts,i∈Region.ready .any ops.toArray listed->wpOp P ops.toArray (λe a w=>e=.normal/\Q a w) i
     (λaK w'=>wg (jg (kW bef) i (oO D)) w'/\tc P .any ops.toArray (λe a w=>e=.normal/\Q a w) (kW bef) fuel (listed.setIfInBounds i true) (jg (kW bef) i (oO D)) aK w') (cu Df n f) (a8 E H d)):=by
 have bK:=NU ah
 intro s
 induction s with
 |done=>
  refine⟨λm D listed fuel f H d h _ bf ak _ dz=> ?_,λm D listed fuel f H d h bf ak _ dz i az=>by simp [eY.alts]at az⟩
  unfold hp at h
  obtain⟨aA,h⟩:=nV h
  have qm:Region.ready .any ops.toArray listed=[]:=by
   cases aH:Region.ready .any ops.toArray listed with
   |nil=>rfl
   |cons x l=>have:=EX bf aA x (by rw [aH];simp);simp at this
  cases fuel with
  |zero=>exact⟨qm,rfl,cg _ _ _ h⟩
  |succ fuel=>exact⟨λ_=>⟨rfl,cg _ _ _ h⟩,by rw [qm];simp⟩
 |quiet i s ih=>
  refine⟨λm D listed fuel f H d h _ bf ak ke dz=> ?_,λm D listed fuel f H d h bf ak _ dz i az=>by simp [eY.alts]at az⟩
  unfold hp at h
  split at h
  ·exact h.elim
  ·rename_i o az
   obtain⟨a1,h⟩:=nV h
   simp only [EI,oJ]at a1
   obtain⟨⟨a1,eg⟩,np⟩:=a1
   have l2:i<ops.length:=(qb.1 az).1
   have aA:=NO bf az a1
   cases fuel with
   |zero=>simp [eY.depth]at ke
   |succ fuel=>
    have xU:s.depth<=fuel:=by simp [eY.depth]at ke;exact ke
    have mG:ops.toArray[i]?=some o:=by simpa using az
    have qn:=ak.set bK aA
    rcases ET h with⟨hw,h⟩|⟨hw,h⟩
    ·obtain⟨v,hk,af,wm⟩:=H6 h
     have av:YieldsIf P ops.toArray (λw=>hc (gn P n f o v) w.heap) o v (cu Df n f):=.inl ⟨hw,λw hw=>by rw [vX];exact wm w hw⟩
     refine NM mG (Region.noSelect_spec oN) (λc a w bh=>by cases bh.1) bK fuel listed (oO D) (cu Df n f) (a8 E H d) (EY bf a1) ak aA av af (wk.2 dz) ?_
     rw [jz]
     cases cn:gn P n f o v with
     |none=>
      rw [cn]at hk
      exact Ia _ _ _ _ _ (ih.1 _ _ _ _ _ _ d hk np (bf.set l2) qn xU dz)
     |some F=>
      rw [cn]at hk af
      refine ih.1 _ _ _ _ _ _ d hk np (bf.set l2) qn xU λx aa=> ?_
      rcases o3.1 aa with rfl|aa
      ·exact af
      ·exact dz x aa
    ·have av:YieldsIf P ops.toArray (λ_=>True) o undef (cu Df n f):=.inr ⟨hw,rfl⟩
     refine NM mG (Region.noSelect_spec oN) (λc a w bh=>by cases bh.1) bK fuel listed (oO D) (cu Df n f) (a8 E H d) (EY bf a1) ak aA av trivial (wk.2 dz) ?_
     rw [jz]
     exact Ia _ _ _ _ _ (ih.1 _ _ _ _ _ _ d h np (bf.set l2) qn xU dz)
 |pick s ih=>
  refine⟨λm D listed fuel f H d h _ bf ak ke dz=> ?_,λm D listed fuel f H d h bf ak _ dz i az=>by simp [eY.alts]at az⟩
  unfold hp at h
  obtain⟨aA,h⟩:=nV h
  simp only [EJ,oJ]at aA
  obtain⟨aA,bQ⟩:=aA
  have cH:Region.ready .any ops.toArray listed≠[]:=by
   cases pA:s.alts with
   |nil=>rw [pA]at bQ;cases bQ
   |cons i l=>
    rw [pA]at bQ
    simp only [Bg]at bQ
    split at bQ
    ·rename_i o an
     simp only [oJ,ad4]at bQ
     intro qm
     have l2:i<ops.length:=(qb.1 an).1
     have:i∈Region.ready .any ops.toArray listed:=by
      refine mem_ready.2 ⟨by rw [bf.getD l2];exact bQ.1,o,by simpa using an,λe he uK=> ?_⟩
      have h1:=bQ.2
      unfold v8 at h1
      rw [VE]at h1
      have:=h1 e (by simpa using he)
      rw [uK]at this
      have ql:gi m e.on=true:=by simpa using this
      rw [bf.getD (bf.lt _ ql)]
      exact ql
     rw [qm]at this
     cases this
    ·cases bQ
  have jA:s.depth<=fuel:=ke
  cases fuel with
  |zero=>
   exfalso
   cases s with
   |alt i s r=>
    simp only [eY.depth]at jA
    cases hq:pt (s.depth+1) r.depth with
    |true=>rw [hq]at jA;have:=MW hq;simp only [cond_true]at jA;omega
    |false=>rw [hq]at jA;simp only [cond_false]at jA;omega
   |_=>simp [eY.alts,Bg]at bQ
  |succ fuel=>
   refine⟨λaD=>absurd aD cH,λi az=> ?_⟩
   exact ih.2 m D listed fuel f H d h bf ak jA dz i (EX bf aA i az) az
 |alt i s r ih r1=>
  refine⟨λm D listed fuel f H d h hm=>by simp [eY.xP]at hm,λm D listed fuel f H d h bf ak ke dz k hk Bt=> ?_⟩
  unfold hp at h
  split at h
  ·exact h.elim
  ·rename_i o az
   obtain⟨np,h⟩:=nV h
   have jA:s.depth<=fuel/\r.depth<=fuel+1:=by
    simp only [eY.depth]at ke
    cases hq:pt (s.depth+1) r.depth with
    |true=>rw [hq]at ke;have:=MW hq;simp only [cond_true]at ke;omega
    |false=>
     rw [hq]at ke
     simp only [cond_false]at ke
     have:¬s.depth+1<=r.depth:=λhle=>by rw [asP hle]at hq;cases hq
     omega
   have here:guarded ops n o f
     (λf=>nj P n f o H λv H'=>ta (gO bef i D) H' (hp P n ops bef K s (lY m i) (gO bef i D) (eB f o.dst v) H'))
     (λf=>hp P n ops bef K s (lY m i) (gO bef i D) (eB f o.dst undef) H)/\(k≠i->hp P n ops bef K r m D f H/\r.qS=false):=by
    cases hrs:r.qS with
    |true=>
     rw [hrs]at h
     refine⟨h,λcH=> ?_⟩
     exfalso
     cases r<;>simp [eY.qS]at hrs
     simp [eY.alts]at hk
     exact cH hk
    |false=>rw [hrs]at h;exact⟨h.1,λ_=>⟨h.2,rfl⟩⟩
   by_cases rX:k=i
   ·subst rX
    have l2:k<ops.length:=(qb.1 az).1
    have qn:=ak.set bK Bt
    rw [Ij]
    unfold wpOp
    have mG:ops.toArray[k]?=some o:=by simpa using az
    simp only [mG]
    have Bu:∀x∈gO bef k D,x∈D:=by
     have aux:∀D:kC,∀x∈gO bef k D,x∈D:=by
      intro D
      induction D with
      |nil=>intro x aa;simp [gO]at aa
      |cons y D Bv=>
       obtain⟨Ik,WB⟩:=y
       intro x aa
       simp only [gO]at aa
       cases hq:gi (bef.getD k 0) Ik with
       |true=>rw [hq]at aa;exact MY _ (Bv x aa)
       |false=>
        rw [hq]at aa
        rcases o3.1 aa with rfl|aa
        ·exact ad5 ..
        ·exact MY _ (Bv x aa)
     exact aux D
    rcases ET here.1 with⟨hw,h⟩|⟨hw,h⟩
    ·rw [if_pos hw]
     refine .inl (zr h E (λv H' d' dG=> ?_) d)
     obtain⟨h1,ae⟩:=E1 dG
     exact⟨wk.2 h1,ih.1 _ _ _ _ _ _ d' ae np (bf.set l2) qn jA.1 h1⟩
    ·rw [if_neg (by rw [hw];simp),jz]
     exact⟨wk.2 λx aa=>dz x (Bu x aa),ih.1 _ _ _ _ _ _ d h np (bf.set l2) qn jA.1 λx aa=>dz x (Bu x aa)⟩
   ·obtain⟨ae,_⟩:=here.2 rX
    have cA:k∈r.alts:=by
     simp only [eY.alts,o3]at hk
     rcases hk with h|h
     ·exact absurd h rX
     ·exact h
    exact r1.2 m D listed fuel f H d ae bf ak jA.2 dz k cA Bt
 |stop=>exact⟨λm D listed fuel f H d h=>h.elim,λm D listed fuel f H d h=>h.elim⟩
theorem WC{ops:List Oper}{s:eY}{K:F->J->Prop}{E:Env}{Q:Exit->Act->World->Prop}{id:Nat}(hm:P.follows .mixedOrders=true)(cg:∀f H d,K f H->Q .normal (cu Df n f) (a8 E H d))
  (bK:zn ops bef s=true) (h:hp P n ops bef K s 0 [] f H) (d:kb E):(Code.region id ops.toArray true).wp P Q (cu Df n f) (a8 E H d):=by
 simp only [zn,oJ]at bK
 obtain⟨⟨⟨ah,oN⟩,jA⟩,np⟩:=bK
 refine Code.wp_mono (Q:=λe a w=>e=.normal/\Q .normal a w) (λe a w a1=>by obtain⟨rfl,a1⟩:=a1;exact a1) ?_
 refine wp_region_any hm (NK (bef:=kW bef) _ _ [] _ _ ?_)
 have dc:Told ops 0 (apR ops.toArray.size false):=by
  refine⟨by simp,λi az=> ?_,λi az=>by simp [qT]at az⟩
  have:i<ops.toArray.size:=by simpa using az
  simp [qT,az]
 have cL:qj (kW bef) (apR ops.toArray.size false):=by
  intro x aa
  rw [ad0,asz]at aa
  split at aa<;>simp at aa
 exact(WA (Q:=λa w=>Q .normal a w) cg ah oN s).1 0 [] _ ops.toArray.size f H (up d) h np dc cL (by simpa using MW jA) (by simp)
theorem mH{dD:List Nat->hE}:∀(c:Code) (p:List Nat) {K b3:lC->F->J->Prop} (_hk:∀e f H,K e f H->b3 e f H) (f:F) (H:J),gQ P n dD c p K f H->gQ P n dD c p b3 f H
 | .skip,_,_,_,hk,_,_,h=>hk _ _ _ h
 | .region _ ops draw,p,K,b3,hk,f,H,h=>by
  unfold gQ at h⊢
  cases draw with
  |false=>exact Wu (λf H=>hk _ f H) h
  |true=>
   simp only [cond_true]at h⊢
   split at h
   ·exact fY (λh=>r0 (λbE h=>rZ (λf H=>hk _ f H) _ _ _ h) _ _ h) h
   ·exact fY (λh=>Wx (λf H=>hk _ f H) _ _ _ _ _ h) h
   ·exact fY (λh=>r0 (λbE h=>hk _ _ _ h) _ _ h) h
 | .seq a b,p,K,b3,hk,f,H,h=>by
  unfold gQ at h⊢
  split at h
  ·obtain⟨M,h1,ae⟩:=h
   refine⟨M,mH a _ (λe f H k=> ?_) f H h1,λbm=>uC (λvs h H' hm=>mH b _ hk _ _ (h H' hm)) (ae bm)⟩
   cases e<;>first|exact k|exact hk _ _ _ k
  ·refine mH a _ (λe f H k=> ?_) f H h
   cases e<;>first|exact k.elim|exact hk _ _ _ k
  ·refine mH a _ (λe f H k=> ?_) f H h
   cases e<;>first|exact mH b _ hk _ _ k|exact hk _ _ _ k
 | .cond c a b,p,K,b3,hk,f,H,h=>by
  unfold gQ at h⊢
  split at h
  ·exact zg (v' (mH a _ hk _ _)) (v' (mH b _ hk _ _)) h
  ·exact h.elim
 | .block id c,p,K,b3,hk,f,H,h=>by
  unfold gQ at h⊢
  refine mH c _ (λe f H k=> ?_) f H h
  cases e with
  |exit i=>
   simp only at k⊢
   cases ah:nP i id<;>rw [ah]at k<;>exact hk _ _ _ k
  |_=>exact hk _ _ _ k
 | .loop c,p,K,b3,hk,f,H,h=>by
  unfold gQ at h⊢
  split at h
  ·obtain⟨cc,fV,h1,ae⟩:=h
   refine⟨cc,fV,h1,λbm=>uC (λvs h H' hm=>mH c _ (λe f H k=> ?_) _ _ (h H' hm)) (ae bm)⟩
   cases e<;>first|exact k|exact hk _ _ _ k
  ·exact h.elim
 | .exit _,_,_,_,hk,_,_,h=>hk _ _ _ h
 | .ret,_,_,_,hk,_,_,h=>hk _ _ _ h
 | .rangeFunc ..,_,_,_,_,_,_,h=>h.elim
 | .scope _,_,_,_,_,_,_,h=>h.elim
 | .label _,_,_,_,_,_,_,h=>h.elim
 | .goto _,_,_,_,_,_,_,h=>h.elim
 | .refuse _,_,_,_,_,_,_,h=>h.elim
theorem zt(live:Live)(vs:List Value)(W:List Nat)(bm f:F):eH W f (patch live vs W bm f):=λi az=>by simp [patch,az]
theorem NV(n:Nat)(f:F):∀(live:Live) (i:Nat),Bi live (ga n f live) i=none\/Bi live (ga n f live) i=some (cd n f (.tmp i))
 |[],_=>.inl rfl
 |s::l,i=>by
  simp only [ga,Bi]
  cases ah:nP i s.1 with
  |true=>right;rw [oK ah];rfl
  |false=>exact NV n f l i
theorem E3{live:Live}{W:List Nat}{bE:F}(h:eH W f bE):cu Df n (patch live (ga n bE live) W bE f)=cu Df n bE:=by
 refine M8 λi az=> ?_
 unfold patch
 cases qo:lZ W i with
 |false=>exact(h i qo).symm
 |true=>
  rcases NV n bE live i with e|e
  ·simp [e]
  ·simp only [e,cond_true]
   rw [vY]
   simp [az]
theorem r2{dD:List Nat->hE}:∀(c:Code) (p:List Nat) {K:lC->F->J->Prop} (f:F) (H:J),gQ P n dD c p K f H->gQ P n dD c p (λe bE H'=>K e bE H'/\eH (writes c) f bE) f H
 | .skip,_,_,_,_,h=>⟨h,eH.refl _ _⟩
 | .region _ ops draw,p,K,f,H,h=>by
  unfold gQ at h⊢
  cases draw with
  |false=>exact Wv h
  |true=>
   simp only [cond_true]at h⊢
   split at h
   ·rename_i m _
    refine fY (λh=> ?_) h
    refine r0 (λbE h'=> ?_) _ _ (Ii _ _ h)
    refine rZ (λkD cG k=>⟨k.1,λi az=> ?_⟩) _ _ _ (Ig _ _ _ h'.1)
    simp only [writes,Ww ops.toList m,apQ]at az
    rw [k.2 i az.2,h'.2 i az.1]
   ·exact fY (λh=>Wz _ _ _ _ _ (eH.refl _ _) h) h
   ·exact fY (λh=>Ii _ _ h) h
 | .seq a b,p,K,f,H,h=>by
  unfold gQ at h⊢
  split at h
  ·obtain⟨M,h1,ae⟩:=h
   refine⟨M,mH a _ (λe bE H' k=> ?_) f H (r2 a _ f H h1),λbm=>uC (λvs h H' hm=> ?_) (ae bm)⟩
   ·cases e<;>first|exact k.1|exact⟨k.1,k.2.left _⟩
   ·exact mH b _ (λe bE H' k=>⟨k.1,(zt _ _ _ _ _).trans k.2⟩) _ _ (r2 b _ _ _ (h H' hm))
  ·refine mH a _ (λe bE H' k=> ?_) f H (r2 a _ f H h)
   cases e<;>first|exact k.1.elim|exact⟨k.1,k.2.left _⟩
  ·refine mH a _ (λe bE H' k=> ?_) f H (r2 a _ f H h)
   cases e<;>first|exact mH b _ (λe kD cG k'=>⟨k'.1,k.2.trans k'.2⟩) _ _ (r2 b _ _ _ k.1)|exact⟨k.1,k.2.left _⟩
 | .cond c a b,p,K,f,H,h=>by
  unfold gQ at h⊢
  split at h
  ·exact zg (v' λh=>mH a _ (λe bE H' k=>⟨k.1,k.2.left _⟩) _ _ (r2 a _ _ _ h)) (v' λh=>mH b _ (λe bE H' k=>⟨k.1,k.2.right _⟩) _ _ (r2 b _ _ _ h)) h
  ·exact h.elim
 | .block id c,p,K,f,H,h=>by
  unfold gQ at h⊢
  refine mH c _ (λe bE H' k=> ?_) f H (r2 c _ f H h)
  cases e with
  |exit i=>
   obtain⟨fe,gq⟩:=k
   simp only at fe⊢
   cases ah:nP i id<;>rw [ah]at fe<;>exact⟨fe,gq⟩
  |_=>exact k
 | .loop c,p,K,f,H,h=>by
  unfold gQ at h⊢
  split at h
  ·obtain⟨cc,fV,h1,ae⟩:=h
   refine⟨cc,fV,h1,λbm=>uC (λvs h H' hm=>mH c _ (λe bE H' k=> ?_) _ _ (r2 c _ _ _ (h H' hm))) (ae bm)⟩
   have gq:eH (writes c) f bE:=λi az=>by rw [k.2 i az];exact zt _ _ _ _ _ i az
   cases e<;>first|exact k.1|exact⟨k.1,gq⟩
  ·exact h.elim
 | .exit _,_,_,_,_,h=>⟨h,eH.refl _ _⟩
 | .ret,_,_,_,_,h=>⟨h,eH.refl _ _⟩
 | .rangeFunc ..,_,_,_,_,h=>h.elim
 | .scope _,_,_,_,_,h=>h.elim
 | .label _,_,_,_,_,h=>h.elim
 | .goto _,_,_,_,_,h=>h.elim
 | .refuse _,_,_,_,_,h=>h.elim
theorem NW(n:Nat)(g:F)(l:Live):ga n (λi=>(cu Df n g).tmps.getD i undef) l=ga n g l:=by
 induction l with
 |nil=>rfl
 |cons s l ih=>
  simp only [ga]
  rw [ih]
  congr 1
  rw [vY,vY,ad0,HT]
  split<;>simp_all
theorem oP{dD:List Nat->hE}(hm:P.follows .mixedOrders=true){E:Env}:∀(c:Code) (p:List Nat) {K:lC->F->J->Prop} {Q:Exit->Act->World->Prop}
  (_hQ:∀e f H d,K e f H->Q (lC.zo e) (cu Df n f) (a8 E H d)) (f:F) (H:J),gQ P n dD c p K f H->∀d,c.wp P Q (cu Df n f) (a8 E H d)
 | .skip,_,_,_,cg,f,H,h,d=>wp_skip (cg .normal f H d h)
 | .region id ops draw,p,K,Q,cg,f,H,h,d=>by
  unfold gQ at h
  cases draw with
  |false=>
   refine wp_region_list ?_
   have:=uI (Q:=Q) (λf H d k=>cg .normal f H d k) ops.toList f H (Wt h) d
   simpa using this
  |true=>
   simp only [cond_true]at h
   split at h
   ·rename_i m _
    obtain⟨bK,h⟩:=nV h
    ·have e:Code.region id ops true=Code.region id ops.toList.toArray true:=by simp
     rw [e]
     refine wp_region_still_tail m hm (by simpa using bK) ?_
     refine uJ (w:=a8 E H (up d)) (λbE h'=> ?_) _ f h
     exact uI (λf H d k=>cg .normal f H d k) _ bE H h' (up d)
   ·obtain⟨bK,h⟩:=nV h
    have e:Code.region id ops true=Code.region id ops.toList.toArray true:=by simp
    rw [e]
    exact WC hm (λf H d k=>cg .normal f H d k) bK h d
   ·obtain⟨bK,h⟩:=nV h
    ·refine wp_region_still hm bK ?_
     have e:ops.toList.toArray=ops:=by simp
     have:=uJ (P:=P) (n:=n) (ops:=ops.toList) (w:=a8 E H (up d)) (Q:=λaK=>Q .normal aK (a8 E H (up d))) (λbE h'=>cg .normal bE H (up d) h') _ f h
     rw [e]at this
     exact this
 | .seq a b,p,K,Q,cg,f,H,h,d=>by
  unfold gQ at h
  refine wp_seq ?_
  split at h
  ·rename_i live _
   obtain⟨M,h1,ae⟩:=h
   refine oP hm a _ (λe bE H' d' k=> ?_) f H (r2 a _ f H h1) d
   obtain⟨fe,gq⟩:=k
   cases e with
   |normal=>
    obtain⟨au,a6⟩:=xH fe (ae bE)
    have:=oP hm b _ cg _ _ (au H' a6) d'
    rw [E3 gq]at this
    exact this
   |_=>exact cg _ _ _ _ fe
  ·refine oP hm a _ (λe bE H' d' k=> ?_) f H h d
   cases e with
   |normal=>exact k.elim
   |_=>exact cg _ _ _ _ k
  ·refine oP hm a _ (λe bE H' d' k=> ?_) f H h d
   cases e with
   |normal=>exact oP hm b _ cg _ _ k d'
   |_=>exact cg _ _ _ _ k
 | .cond c a b,p,K,Q,cg,f,H,h,d=>by
  unfold gQ at h
  split at h
  ·rename_i c ak
   refine wp_cond (t:=c) (by rw [uz];exact ak) ?_
   cases c
   ·exact oP hm b _ cg _ _ (EK h) d
   ·exact oP hm a _ cg _ _ (EK h) d
  ·exact h.elim
 | .block id c,p,K,Q,cg,f,H,h,d=>by
  unfold gQ at h
  refine wp_block (oP hm c _ (λe bE H' d' k=> ?_) f H h d)
  cases e with
  |exit i=>
   simp only [lC.zo,Exit.inBlock]
   cases ah:nP i id with
   |true=>
    rw [if_pos (oK ah)]
    simp only [ah,cond_true]at k
    exact cg .normal _ _ _ k
   |false=>
    rw [if_neg (λe=>by subst e;simp at ah)]
    simp only [ah,cond_false]at k
    exact cg (.exit i) _ _ _ k
  |normal=>exact cg .normal _ _ _ k
  |ret=>exact cg .ret _ _ _ k
 | .loop c,p,K,Q,cg,f,H,h,d=>by
  unfold gQ at h
  split at h
  ·rename_i live _
   obtain⟨cc,fV,h1,ae⟩:=h
   refine wp_loop (λa w=>∃bE H' d',a=cu Df n bE/\w=a8 E H' d'/\eH (writes c) f bE/\nU (mB live) (ga n bE live) (cc (ga n bE live) H'))
    (λa w=>fV (ga n (λi=>a.tmps.getD i undef) live) w.heap) ⟨f,H,d,rfl,rfl,eH.refl _ _,h1⟩ ?_
   rintro a w ⟨bE,H',d',rfl,rfl,Bw,eI⟩
   obtain⟨au,a6⟩:=xH eI (ae bE)
   have bu:=r2 c _ _ _ (au H' a6)
   have ca:=oP (E:=E) hm c (0::p) (Q:=Exit.then (λaK w'=>(∃bE H' d',aK=cu Df n bE/\w'=a8 E H' d'/\eH (writes c) f bE/\nU (mB live) (ga n bE live) (cc (ga n bE live) H'))∧
     fV (ga n (λi=>aK.tmps.getD i undef) live) w'.heap<fV (ga n (λi=>(cu Df n bE).tmps.getD i undef) live) (a8 E H' d').heap) Q) (λe kD cG r3 k=> ?_) _ _ bu d'
   ·rw [E3 Bw]at ca
    exact ca
   ·obtain⟨fe,gq⟩:=k
    have aI:∀g:F,ga n (λi=>(cu Df n g).tmps.getD i undef) live=ga n g live:=λg=>NW n g live
    cases e with
    |normal=>
     refine⟨⟨kD,cG,r3,rfl,rfl,λi az=> ?_,HU (λk=>k.1) fe⟩,?_⟩
     ·rw [gq i az];exact zt _ _ _ _ _ i az
     ·rw [aI,aI]
      have key:∀(l:List iA) (vs:List Value) (X:Prop),nU l vs X->X:=λl vs X h=>by
       have:pw l λ_=>True:=by
        have aux:∀(l:List iA) (K:List Value->Prop),(∀vs,K vs)->pw l K:=by
         intro l
         induction l with
         |nil=>intro K cP;exact cP _
         |cons s l ih=>
          intro K cP
          have Bx:∀(b:B) (G:Value->Prop),(∀v,G v)->qd b G:=by
           intro b G b4;cases b<;>simp only [qd]<;>intros<;>exact b4 _
          have Il:∀(dj:List B) (G:List Value->Prop),(∀vs,G vs)->vZ dj G:=by
           intro dj
           induction dj with
           |nil=>intro G b4;exact b4 _
           |cons b dj Im=>intro G b4;exact Bx b _ λv=>Im _ λvs=>b4 _
          cases s with
          |one b=>exact Bx b _ λv=>ih _ λvs=>cP _
          |agg dj=>exact Il dj _ λv=>ih _ λvs=>cP _
        exact aux l _ λ_=>trivial
       exact(xH h this).2
      exact(key _ _ _ fe).2
    |exit i=>exact cg (.exit i) _ _ _ fe
    |ret=>exact cg .ret _ _ _ fe
  ·exact h.elim
 | .exit id,_,_,_,cg,f,H,h,d=>wp_exit (cg (.exit id) f H d h)
 | .ret,_,_,_,cg,f,H,h,d=>wp_ret (cg .ret f H d h)
 | .rangeFunc ..,_,_,_,_,_,_,h,_=>h.elim
 | .scope _,_,_,_,_,_,_,h,_=>h.elim
 | .label _,_,_,_,_,_,_,h,_=>h.elim
 | .goto _,_,_,_,_,_,_,h,_=>h.elim
 | .refuse _,_,_,_,_,_,_,h,_=>h.elim
theorem E4(g:ResultVar->Sem Value)(g1:∀t,g (.tmp t)=pure ((cu Df n f).tmps.getD t undef))
  (g2:∀a t,g (.cell a t)=do loadVar t (<-asAddr ((cu Df n f).tmps.getD a undef))):∀{rs:List ResultVar} {K:List Value->Prop},nk P n f H rs K→
  ∃vs,(∀w:World,w.heap=H->(rs.mapM g:Sem (List Value)).run P w=.ok vs w)/\K vs
 |[],K,h=>⟨[],λw _=>by simp,h⟩
 | .tmp t::l,K,h=>by
  obtain⟨vs,aA,hk⟩:=E4 g g1 g2 (rs:=l) h
  refine⟨_,λw hw=> ?_,hk⟩
  have e:(cu Df n f).tmps.getD t undef=cd n f (.tmp t):=uz n f (.tmp t)
  simp only [asp]
  rw [bd,g1,e]
  simp only [s5,bx]
  rw [bd,aA w hw]
  rfl
 | .cell a t::l,K,h=>by
  unfold nk xM at h
  split at h
  ·rename_i al bQ
   obtain⟨v,aH,h⟩:=Ba h
   obtain⟨vs,aA,hk⟩:=E4 g g1 g2 (rs:=l) h
   refine⟨_,λw hw=> ?_,hk⟩
   have e:(cu Df n f).tmps.getD a undef=.pointer (some al):=by rw [<-bQ];exact uz n f (.tmp a)
   simp only [asp]
   rw [bd,g2,e]
   have bN:(do loadVar t (<-asAddr (.pointer (some al))):Sem Value).run P w=.ok v w:=by
    rw [bd]
    show(loadVar t al).run P w=_
    exact aH w hw
   rw [bN]
   simp only [bx]
   rw [bd,aA w hw]
   rfl
  ·exact h.elim
theorem NX(fn:Func)(tmps:Array Value):∃g:ResultVar->Sem Value,(results fn tmps=do
   let vs<-fn.results.mapM g
   pure (if h:vs.size=1 then vs[0]else .tuple vs))/\(∀t,g (.tmp t)=pure (tmps.getD t undef))∧
  (∀a t,g (.cell a t)=do loadVar t (<-asAddr (tmps.getD a undef))):=⟨_,rfl,λ_=>rfl,λ_ _=>rfl⟩
theorem E5{k:FuncId}{fn:Func}{c:Code}{args:List Value}{rs:List ResultVar}{R:Value->J->Prop}(dD:List Nat->hE)(hm:P.follows .mixedOrders=true)
  (af:P.funcs[k]?=some fn) (ah:fn.body=some c) (ay:fn.ntmps=n) (aA:fn.results.toList=rs) (hle:pt args.length n=true)
  (h:gQ P n dD c [] (zp P n rs R) (qh args) H):aY P k args.toArray H R:=by
 intro E d
 refine calls_of_wp af ah ?_
 have aD:{tmps:=args.toArray++apR (fn.ntmps-args.toArray.size) undef,defers:=[]}=cu [] n (qh args):=by
  have WD:args.length<=n:=MW hle
  unfold cu
  congr 1
  apply apL
  intro i
  have az:∀(l:List Value) (i:Nat),qh l i=l.getD i undef:=by
   intro l
   induction l with
   |nil=>intro i;rfl
   |cons v l ih=>intro i;cases i with|zero=>rfl|succ i=>exact ih i
  simp only [asT,M0,asA,HQ,ay,az,asz]
  by_cases h1:i<args.length
  ·have ae:i<n:=by omega
   simp [h1,ae,apS]
  ·by_cases ae:i<n
   ·have au:i-args.length<n-args.length:=by omega
    simp [h1,ae,au,apS]
   ·have au:¬i-args.length<n-args.length:=by omega
    simp [h1,ae,au]
 rw [aD]
 refine oP hm c [] (λe f H' d' k=> ?_) _ H h d
 have fin:nk P n f H' rs (λvs=>R (gD vs) H')->∃v,(results fn (cu [] n f).tmps).run P (a8 E H' d')=.ok v (a8 E H' d')/\∃gr cG r3,Ending.returned v=.returned gr/\a8 E H' d'=a8 E cG r3/\R gr cG:=by
  intro h
  obtain⟨g,By,g1,g2⟩:=NX fn (cu [] n f).tmps
  obtain⟨vs,hG,hk⟩:=E4 g g1 g2 h
  refine⟨gD vs,?_,_,_,_,rfl,rfl,hk⟩
  have bc:=hG (a8 E H' d') rfl
  rw [By,bd,asq,asr,aA]
  rw [bc]
  simp only [bx]
  have bN:∀vs:List Value,(if h:vs.toArray.size=1 then vs.toArray[0]else .tuple vs.toArray)=gD vs:=by
   intro vs
   match vs with
   |[]=>rfl
   |[v]=>rfl
   |_::_::_=>simp [gD]
  rw [<-bN vs]
  rfl
 cases e with
 |normal=>exact⟨rfl,fin k⟩
 |ret=>exact⟨rfl,fin k⟩
 |exit i=>exact k.elim
def hM(H:J)(a:Addr):Option Value:=
 match H[a.block]? with
 |some (.cells c _ _)=>if a.spot.isSome then none else c[a.off]?
 |_=>none
theorem xn(w:World)(a:Addr):w.cell? a=hM w.heap a:=rfl
@[simp] theorem l'(b o n:Nat):(⟨b,o,none⟩:Addr).add n=⟨b,o+n,none⟩:=by
 unfold Addr.add
 split
 ·rename_i h;subst h;rfl
 ·rfl
structure Fr(S:List Nat)(H H':J):Prop where
 size:H.size<=H'.size
 block:∀k,k<H.size->k∉S->H'[k]?=H[k]?
theorem Fr.refl(S:List Nat)(H:J):Fr S H H:=⟨nQ _,λ_ _ _=>rfl⟩
theorem Fr.mono{iJ:List Nat}(h:Fr S H H')(hs:∀k∈S,k∈iJ):Fr iJ H H':=⟨h.size,λk hk ay=>h.block k hk λcA=>ay (hs k cA)⟩
theorem Fr.trans{iJ:List Nat}(h:Fr S H H')(h':Fr iJ H' cG):Fr (S++iJ) H cG:=
 ⟨VF h.size h'.size,λk hk ay=>by
  rw [asU,not_or]at ay
  rw [h'.block k (asB hk h.size) ay.2,h.block k hk ay.1]⟩
theorem Fr.trans'{iJ T:List Nat}(h:Fr S H H')(h':Fr iJ H' cG)(h1:∀k∈S,k<H.size->k∈T)(ae:∀k∈iJ,k<H.size->k∈T):Fr T H cG:=
 ⟨VF h.size h'.size,λk hk ay=>by
  rw [h'.block k (asB hk h.size) (λhs=>ay (ae k hs hk)),h.block k hk (λhs=>ay (h1 k hs hk))]⟩
theorem Fr.ab(h:Fr [] H H')(h':Fr S H' cG)(hs:∀k∈S,H.size<=k):Fr [] H cG:=
 h.trans' h' (by simp) λk hk cF=>absurd (hs k hk) (by omega)
theorem Fr.aw(h:Fr [] H H')(h':Fr [] H' cG):Fr [] H cG:=h.ab h' (by simp)
theorem Fr.get(h:Fr S H H'){o:Obj}(ah:H[b]?=some o)(ay:b∉S):H'[b]?=some o:=by
 rw [h.block b (aro.1 ah).1 ay];exact ah
theorem Fr.nw(h:Fr [] H H'){o:Obj}(ah:H[b]?=some o):H'[b]?=some o:=h.get ah (by simp)
theorem RN{a:Addr}(h:hM H a=some v):a.block<H.size:=by
 unfold hM at h
 cases ah:H[a.block]? with
 |none=>simp [ah]at h
 |some o=>exact(aro.1 ah).1
theorem Fr.cell(h:Fr S H H'){a:Addr}(bQ:hM H a=some v)(ay:a.block∉S):hM H' a=some v:=by
 unfold hM at *
 rw [h.block a.block (RN (H:=H) (a:=a) (v:=v) bQ) ay]
 exact bQ
theorem Fr.cell0(h:Fr [] H H'){a:Addr}(bQ:hM H a=some v):hM H' a=some v:=h.cell bQ (by simp)
theorem ds.ag{o:Obj}(h:ds H b o H'):Fr [] H H':=by
 obtain⟨rfl,rfl⟩:=h
 exact⟨by simp,λk hk _=>by rw [ad7,if_neg (by omega)]⟩
theorem ds.get{o:Obj}(h:ds H b o H'):H'[b]?=some o:=by
 obtain⟨rfl,rfl⟩:=h
 simp
theorem ds.eq{o:Obj}(h:ds H b o H'):b=H.size:=h.1
theorem ds.size{o:Obj}(h:ds H b o H'):H'.size=H.size+1:=by
 obtain⟨rfl,rfl⟩:=h
 simp
theorem k2{o:Obj}(h:H[b]?=some o):b<H.size:=(aro.1 h).1
theorem re{cs:Array Value}{oQ:Nat×Nat}(h:H[b]?=some (.cells cs t oQ))(off:Nat):hM H ⟨b,off,none⟩=cs[off]?:=by
 simp [hM,h]
def pN(P:Program)(t:TypeId):Bool:=match P.underlying t with
 |some (.struct _)=>true|some (.array ..)=>true|some _=>false|none=>true
def rH(P:Program)(t:TypeId):Bool:=match P.underlying t with
 |some (.struct _)=>true|some (.array ..)=>true|_=>false
theorem K8{d:TypeDesc}(hu:P.underlying t=some d)(w:World):(isAgg t).run P w=.ok (rH P t) w:=by
 unfold isAgg
 rw [bd,eE hu]
 simp only [bx]
 unfold rH
 rw [hu]
 cases d<;>rfl
theorem n'{a:Addr}(bf:pN P t=false)(h:hM H a=some v):cR P t H a v:=by
 intro w hw
 unfold pN at bf
 cases hu:P.underlying t with
 |none=>simp [hu]at bf
 |some d=>
  have:rH P t=false:=by unfold rH;rw [hu]at bf⊢;cases d<;>simp_all
  unfold loadVar
  rw [bd,K8 hu,this]
  have ak:w.cell? a=some v:=by rw [xn,hw];exact h
  simp [load,nR,ak]
theorem CA{a:Addr}(bf:rH P t=true)(hs:hV P t=vs.length)(h:∀i v,vs[i]?=some v->hM H (a.add i)=some v):cR P t H a (.agg ⟨vs⟩):=by
 intro w hw
 have aa:=bf
 unfold rH at aa
 cases hu:P.underlying t with
 |none=>simp [hu]at aa
 |some d=>
  have az:∃i,P.info? t=some i:=by
   cases az:P.info? t with
   |some i=>exact⟨i,rfl⟩
   |none=>simp [Program.underlying,az]at hu
  obtain⟨i,az⟩:=az
  have hs':i.size=vs.length:=by simpa [hV,az]using hs
  unfold loadVar
  rw [bd,K8 hu,bf]
  simp only [bx,if_true]
  rw [bd,mC az,hs']
  simp only [bx]
  rw [bd,run_loadCells_list w a vs (λj v aI=>by rw [xn,hw];exact h j v aI)]
  rfl
def xo(H:J)(g:Nat)(cs:Array Value):J:=H.modify g fun
 | .cells _ elem frozen=>.cells cs elem frozen
 |o=>o
theorem ahi(H:J)(g:Nat)(cs:Array Value):(xo H g cs).size=H.size:=by simp [xo]
theorem RO{g:Nat}{gu cs:Array Value}{ag:Nat×Nat}(h:H[g]?=some (.cells gu t ag)):(xo H g cs)[g]?=some (.cells cs t ag):=by
 simp [xo,asC,h]
theorem RP(H:J)(g:Nat)(cs:Array Value):Fr [g] H (xo H g cs):=
 ⟨by rw [ahi];exact nQ _,λk hk ay=>by
  have:g≠k:=λe=>ay (by simp [e])
  simp [xo,asC,this]⟩
theorem ahj{off:Nat}{cs:Array Value}(ah:H[b]?=some (.cells cs eZ (0,0)))(hs:hV P t=v.cells.size)(az:(P.info? t).isSome=true)
  (h1:∀x∈v.cells.toList,x.oneCell'=true) (tP:off+v.cells.size<=cs.size):
  fb P t H ⟨b,off,none⟩ v (xo H b (cs.toList.take off++v.cells.toList++cs.toList.drop (off+v.cells.toList.length)).toArray):=by
 intro w hw
 cases mG:P.info? t with
 |none=>simp [mG]at az
 |some i=>
  have dC:i.size=v.cells.size:=by simpa [hV,mG]using hs
  unfold storeVar
  rw [bd,mC mG]
  simp only [bx]
  rw [if_neg (by simp [dC])]
  have e3:w.heap[b]?=some (.cells cs eZ (0,0)):=by rw [hw];exact ah
  have:=run_storeCells_at P b off eZ v.cells.toList 0 cs w e3 (by simpa using tP) h1
  rw [this,<-hw]
  rfl
theorem BL{off:Nat}{cs:List Value}{X:J->Prop}(ah:H[b]?=some (.cells ⟨cs⟩ eZ (0,0)))(hs:hV P t=v.cells.size)(az:(P.info? t).isSome=true)
  (h1:∀x∈v.cells.toList,x.oneCell'=true) (tP:off+v.cells.size<=cs.length)
  (k:∀H',H'[b]?=some (.cells ⟨cs.take off++v.cells.toList++cs.drop (off+v.cells.toList.length)⟩ eZ (0,0))->Fr [b] H H'->X H'):∃H',fb P t H ⟨b,off,none⟩ v H'/\X H':=
 ⟨_,ahj ah hs az h1 (by simpa using tP),k _ (RO ah) (RP H b _)⟩
theorem K9{off:Nat}{cs:List Value}{oQ:Nat×Nat}(bf:pN P t=false)(ah:H[b]?=some (.cells ⟨cs⟩ eZ oQ))(h:cs[off]?=some v):cR P t H ⟨b,off,none⟩ v:=
 n' bf (by rw [re ah];simpa using h)
theorem K'{off:Nat}{cs:List Value}{oQ:Nat×Nat}(bf:rH P t=true)(hs:hV P t=vs.length)(ah:H[b]?=some (.cells ⟨cs⟩ eZ oQ))
  (h:(cs.drop off).take vs.length=vs):cR P t H ⟨b,off,none⟩ (.agg ⟨vs⟩):=by
 refine CA bf hs λi v aI=> ?_
 rw [l',re ah]
 rw [<-h,Ep]at aI
 split at aI
 ·rw [VG]at aI;simpa using aI
 ·cases aI
theorem ahk{zs:List Value}{K:Nat->J->Prop}(hs:hV P t=v.cells.size)(az:(P.info? t).isSome=true)
  (h1:∀x∈v.cells.toList,x.oneCell'=true) (aC:zs.length=v.cells.size)
  (k:∀b H',H.size<=b->H'[b]?=some (.cells ⟨v.cells.toList⟩ eZ (0,0))->Fr [] H H'->K b H'):
  ∀b H',ds H b (.cells ⟨zs⟩ eZ) H'->∃cv,fb P t H' ⟨b,0,none⟩ v cv/\K b cv:=by
 intro b H' ay
 refine BL ay.get hs az h1 (by simp [aC]) λao aZ af=> ?_
 refine k b ao (apF ay.eq.symm) ?_ (ay.ag.ab af (by simp [ay.eq]))
 rw [aZ]
 have:zs.drop (0+v.cells.toList.length)=[]:=asV (by simp [aC])
 rw [this]
 simp
def Grow(H:J)(S iJ:List Nat):Prop:=∀k∈iJ,k∈S\/H.size<=k
def e2(S T:List Nat):Prop:=∀k∈S,k∉T
def In(H:J)(S:List Nat):Prop:=∀k∈S,k<H.size
theorem Grow.refl(H:J)(S:List Nat):Grow H S S:=λ_ h=>.inl h
theorem Grow.trans{iJ RQ:List Nat}(h:Grow H S iJ)(hs:H.size<=H'.size)(h':Grow H' iJ RQ):Grow H S RQ:=λk hk=>
 (h' k hk).elim (λh1=>h k h1) (λh1=>.inr (VF hs h1))
theorem e2.symm{T:List Nat}(h:e2 S T):e2 T S:=λk hk cA=>h k cA hk
theorem In.le(h:In H S)(hs:H.size<=H'.size):In H' S:=λk hk=>asB (h k hk) hs
def aU(H:J)(a:Addr)(vs:List Value):Prop:=∃b eZ,a=⟨b,0,none⟩/\H[b]?=some (.cells ⟨vs⟩ eZ (0,0))
theorem ds.bo(h:ds H b (.cells ⟨vs⟩ t) H'):aU H' ⟨b,0,none⟩ vs:=⟨b,t,rfl,h.get⟩
theorem aU.ag{a:Addr}(h:aU H a vs)(af:Fr S H H')(ay:a.block∉S):aU H' a vs:=by
 obtain⟨b,eZ,rfl,h⟩:=h
 exact⟨b,eZ,rfl,af.get h ay⟩
theorem aU.ab{a:Addr}(h:aU H a vs)(af:Fr [] H H'):aU H' a vs:=h.ag af (by simp)
theorem aU.lt{a:Addr}(h:aU H a vs):a.block<H.size:=by
 obtain⟨b,eZ,rfl,h⟩:=h
 exact k2 h
theorem aU.ld{a:Addr}(bf:pN P t=false)(h:aU H a vs)(aI:vs[j]?=some v):cR P t H (a.add j) v:=by
 obtain⟨b,eZ,rfl,h⟩:=h
 rw [l']
 exact K9 bf h (by simpa using aI)
theorem aU.b5{a:Addr}(bf:pN P t=false)(h:aU H a vs)(aI:vs[0]?=some v):cR P t H a v:=by
 obtain⟨b,eZ,rfl,h⟩:=h
 exact K9 bf h aI
theorem aU.RR{a:Addr}{us:List Value}(bf:rH P t=true)(hs:hV P t=us.length)(h:aU H a vs)(aI:(vs.drop j).take us.length=us):cR P t H (a.add j) (.agg ⟨us⟩):=by
 obtain⟨b,eZ,rfl,h⟩:=h
 rw [l']
 exact K' bf hs h (by simpa using aI)
theorem aU.dX{a:Addr}{us:List Value}(bf:rH P t=true)(hs:hV P t=us.length)(h:aU H a vs)(aI:vs.take us.length=us):cR P t H a (.agg ⟨us⟩):=by
 obtain⟨b,eZ,rfl,h⟩:=h
 exact K' bf hs h (by simpa using aI)
theorem aU.st{a:Addr}{X:J->Prop}(h:aU H a vs)(hs:hV P t=v.cells.size)(az:(P.info? t).isSome=true)(h1:∀x∈v.cells.toList,x.oneCell'=true)
  (tP:j+v.cells.size<=vs.length) (k:∀H',aU H' a (vs.take j++v.cells.toList++vs.drop (j+v.cells.toList.length))->Fr [a.block] H H'->X H'):∃H',fb P t H (a.add j) v H'/\X H':=by
 obtain⟨b,eZ,rfl,h⟩:=h
 rw [l']
 refine BL h hs az h1 (by simpa using tP) λH' aZ af=>k H' ⟨b,eZ,rfl,?_⟩ af
 rw [aZ]
 simp
theorem aU.jq{a:Addr}{X:J->Prop}(h:aU H a vs)(hs:hV P t=v.cells.size)(az:(P.info? t).isSome=true)(h1:∀x∈v.cells.toList,x.oneCell'=true)
  (tP:v.cells.size<=vs.length) (k:∀H',aU H' a (v.cells.toList++vs.drop v.cells.toList.length)->Fr [a.block] H H'->X H'):∃H',fb P t H a v H'/\X H':=by
 obtain⟨b,eZ,rfl,h⟩:=h
 refine BL h hs az h1 (by simpa using tP) λH' aZ af=>k H' ⟨b,eZ,rfl,?_⟩ af
 rw [aZ]
 simp
theorem ia{zs:List Value}{K:Nat->J->Prop}(hs:hV P t=v.cells.size)(az:(P.info? t).isSome=true)
  (h1:∀x∈v.cells.toList,x.oneCell'=true) (aC:zs.length=v.cells.size)
  (k:∀b H',H.size<=b->aU H' ⟨b,0,none⟩ v.cells.toList->Fr [] H H'->K b H'):
  ∀b H',ds H b (.cells ⟨zs⟩ eZ) H'->∃cv,fb P t H' ⟨b,0,none⟩ v cv/\K b cv:=
 ahk hs az h1 aC λb H' ah aZ af=>k b H' ah ⟨b,eZ,rfl,aZ⟩ af
def dp(n:Int):Prop:= -9223372036854775808<=n/\n<=9223372036854775807
theorem dv{n:Int}(h1: -9223372036854775808<=n)(ae:n<=9223372036854775807):IntKind.i64.wrap n=n:=by
 have:=IntWalk.i64_in n ⟨h1,ae⟩
 exact this
structure dd(α:Type) where
 cells:α->List Value
 sz:Nat
 len:∀x,(cells x).length=sz
 pos:0<sz
 one:∀x,∀v∈cells x,v.oneCell'=true
def b':dd Int:=⟨λn=>[.int .i64 n],1,λ_=>rfl,by decide,λ_ v h=>by simp at h;subst h;rfl⟩
def dT:dd ByteArray:=⟨λs=>[.string s],1,λ_=>rfl,by decide,λ_ v h=>by simp at h;subst h;rfl⟩
def p2{α:Type}(E:dd α)(H:J)(a:Option Addr)(xs:List α):Prop:=
 xs=[]\/∃b off,a=some ⟨b,off,none⟩/\∀i x,xs[i]?=some x->∀j v,(E.cells x)[j]?=some v->hM H ⟨b,off+i*E.sz+j,none⟩=some v
theorem p2.ab{α:Type}{E:dd α}{xs:List α}(h:p2 E H a xs)(af:Fr [] H H'):p2 E H' a xs:=by
 rcases h with h|⟨b,off,e,h⟩
 ·exact .inl h
 ·exact .inr ⟨b,off,e,λi x aa j v aI=>af.cell0 (h i x aa j v aI)⟩
theorem p2.ag{α:Type}{E:dd α}{xs:List α}(h:p2 E H a xs)(af:Fr S H H')(ay:∀al,a=some al->al.block∉S):p2 E H' a xs:=by
 rcases h with h|⟨b,off,e,h⟩
 ·exact .inl h
 ·exact .inr ⟨b,off,e,λi x aa j v aI=>af.cell (h i x aa j v aI) (ay ⟨b,off,none⟩ e)⟩
theorem p2.lt{α:Type}{E:dd α}{xs:List α}(h:p2 E H a xs)(aa:xs≠[]):∃b off,a=some ⟨b,off,none⟩/\b<H.size:=by
 rcases h with h|⟨b,off,e,h⟩
 ·exact absurd h aa
 ·cases xs with
  |nil=>exact absurd rfl aa
  |cons x xs=>
   have bh:=E.pos
   have aH:=E.len x
   have ak:∃v,(E.cells x)[0]?=some v:=by
    cases aa:E.cells x with
    |nil=>simp [aa]at aH;omega
    |cons v l=>exact⟨v,rfl⟩
   obtain⟨v,aI⟩:=ak
   exact⟨b,off,e,RN (a:=⟨b,off+0*E.sz+0,none⟩) (h 0 x rfl 0 v aI)⟩
theorem p2.at{α:Type}{E:dd α}{xs:List α}(h:p2 E H a xs){x:α}(aa:xs[i]?=some x):
  ∃b off,a=some ⟨b,off,none⟩/\∀j v,(E.cells x)[j]?=some v->hM H ⟨b,off+i*E.sz+j,none⟩=some v:=by
 rcases h with h|⟨b,off,e,h⟩
 ·subst h;simp at aa
 ·exact⟨b,off,e,λj v aI=>h i x aa j v aI⟩
structure bk{α:Type}(E:dd α)(H:J)(a:Option Addr)(n c:Nat)(xs:List α):Prop where
 len:n=xs.length
 cap:n<=c
 arr:p2 E H a xs
theorem bk.ab{α:Type}{E:dd α}{xs:List α}(h:bk E H a n c xs)(af:Fr [] H H'):bk E H' a n c xs:=⟨h.len,h.cap,h.arr.ab af⟩
theorem bk.ag{α:Type}{E:dd α}{xs:List α}(h:bk E H a n c xs)(af:Fr S H H')(ay:∀al,a=some al->al.block∉S):bk E H' a n c xs:=⟨h.len,h.cap,h.arr.ag af ay⟩
def eP(H:J)(al:Addr)(vs:List Value):Prop:=∀j v,vs[j]?=some v->hM H (al.add j)=some v
theorem eP.ag(h:eP H al vs)(af:Fr S H H')(ay:al.block∉S):eP H' al vs:=λj v aI=>af.cell (h j v aI) (by unfold Addr.add;split<;>exact ay)
theorem eP.ab(h:eP H al vs)(af:Fr [] H H'):eP H' al vs:=h.ag af (by simp)
theorem iq(bf:pN P t=false)(h:eP H al [v]):cR P t H al v:=n' bf (h 0 v rfl)
theorem r'(bf:rH P t=true)(hs:hV P t=vs.length)(h:eP H al vs):cR P t H al (.agg ⟨vs⟩):=CA bf hs h
theorem kt(bf:pN P t=false)(h:eP H al vs)(aI:vs[j]?=some v):cR P t H (al.add j) v:=n' bf (h j v aI)
theorem bk.get{α:Type}{E:dd α}{xs:List α}(h:bk E H a n c xs){i:Int}{x:α}{b:Bool}(az:i=k)(aa:xs[k]?=some x)(ah:b=true){X:Addr->Prop}
  (hk:∀al,a=some al->eP H (al.add (i.toNat *E.sz)) (E.cells x)->X al):eO a λal=>da b (X al):=by
 obtain⟨fj,off,rfl,ak⟩:=h.arr.at aa
 subst az
 subst ah
 refine xJ rfl (cb rfl ?_)
 refine hk _ rfl λj v aI=> ?_
 rw [asD,l',l']
 exact ak j v aI
def Own{α:Type}(E:dd α)(t:TypeId)(base:Nat)(H:J)(a:Option Addr)(n c:Nat)(xs:List α):Prop:=
 n=xs.length/\((a=none/\n=0/\c=0)∨
  ∃b cur,a=some ⟨b,0,none⟩/\base<=b/\H[b]?=some (.cells cur t (0,0))/\n<=c/\c<=maxLen/\cur.size=c*E.sz/\cur.toList.take (n*E.sz)=xs.flatMap E.cells)
def ax:Option Addr->List Nat
 |some a=>[a.block]
 |none=>[]
theorem vv{α:Type}(E:dd α)(xs:List α):(xs.flatMap E.cells).length=xs.length*E.sz:=by
 induction xs with
 |nil=>simp
 |cons x xs ih=>rw [Er,VH,ih,E.len,asE,A1];omega
theorem wJ{α:Type}(E:dd α):∀(xs:List α) (i:Nat) (x:α),xs[i]?=some x->∀j v,(E.cells x)[j]?=some v->(xs.flatMap E.cells)[i*E.sz+j]?=some v
 |[],i,x,h,_,_,_=>by simp at h
 |y::ys,0,x,h,j,v,aI=>by
  simp only [MZ,Option.some.injEq]at h
  subst h
  have a':j<(E.cells y).length:=(qb.1 aI).1
  rw [Er,apM,asv,zd,if_pos a']
  exact aI
 |y::ys,i+1,x,h,j,v,aI=>by
  simp only [arF]at h
  have ih:=wJ E ys i x h j v aI
  have aH:=E.len y
  rw [Er,apM,if_neg (by rw [aH,A1];omega),aH,show(i+1)*E.sz+j-E.sz=i*E.sz+j by rw [A1];omega]
  exact ih
theorem RS{α:Type}(E:dd α):∀(xs:List α) (j:Nat) (u:Value),(xs.flatMap E.cells)[j]?=some u->∃i x k,xs[i]?=some x/\(E.cells x)[k]?=some u/\j=i*E.sz+k
 |[],j,u,h=>by simp at h
 |x::xs,j,u,h=>by
  rw [Er,apM]at h
  have aH:=E.len x
  split at h
  ·exact⟨0,x,j,rfl,h,by simp⟩
  ·obtain⟨i,y,k,h1,ae,au⟩:=RS E xs _ u h
   exact⟨i+1,y,k,h1,ae,by rw [A1];omega⟩
theorem Own.nil{α:Type}(E:dd α)(t:TypeId)(base:Nat)(H:J):Own E t base H none 0 0 []:=⟨rfl,.inl ⟨rfl,rfl,rfl⟩⟩
theorem Own.made{α:Type}(E:dd α)(t:TypeId){base:Nat}(h:ds H b (.cells ⟨[]⟩ t) H')(ah:base<=H.size):Own E t base H' (some ⟨b,0,none⟩) 0 0 []:=
 ⟨rfl,.inr ⟨b,_,rfl,by rw [h.eq];exact ah,h.get,nQ _,apG _,by simp,by simp⟩⟩
theorem Own.bL{α:Type}{E:dd α}{base:Nat}{xs:List α}(h:Own E t base H a n c xs):bk E H a n c xs:=by
 obtain⟨aH,h⟩:=h
 rcases h with⟨rfl,rfl,rfl⟩|⟨b,cur,rfl,_,ah,ak,_,_,bf⟩
 ·exact⟨aH,nQ _,.inl (asF aH.symm)⟩
 ·refine⟨aH,ak,.inr ⟨b,0,rfl,λi x aa j v aI=> ?_⟩⟩
  have h1:=wJ E xs i x aa j v aI
  rw [<-bf,Ep]at h1
  split at h1
  ·rw [re ah,zd]
   simpa using h1
  ·cases h1
theorem Own.ag{α:Type}{E:dd α}{base:Nat}{xs:List α}(h:Own E t base H a n c xs)(af:Fr S H H')(ay:∀al,a=some al->al.block∉S):Own E t base H' a n c xs:=by
 obtain⟨aH,h⟩:=h
 refine⟨aH,?_⟩
 rcases h with h|⟨b,cur,rfl,h1,ah,r⟩
 ·exact .inl h
 ·exact .inr ⟨b,cur,rfl,h1,af.get ah (ay _ rfl),r⟩
theorem Own.ab{α:Type}{E:dd α}{base:Nat}{xs:List α}(h:Own E t base H a n c xs)(af:Fr [] H H'):Own E t base H' a n c xs:=h.ag af (by simp)
theorem Own.ge{α:Type}{E:dd α}{base:Nat}{xs:List α}(h:Own E t base H a n c xs):∀k∈ax a,base<=k/\k<H.size:=by
 obtain⟨_,h⟩:=h
 rcases h with⟨rfl,_⟩|⟨b,cur,rfl,h1,ah,_⟩
 ·simp [ax]
 ·intro k hk
  simp only [ax,ar7]at hk
  subst hk
  exact⟨h1,k2 ah⟩
theorem Own.base{α:Type}{E:dd α}{base base':Nat}{xs:List α}(h:Own E t base H a n c xs)(ah:base'<=base):Own E t base' H a n c xs:=by
 obtain⟨aH,h⟩:=h
 refine⟨aH,?_⟩
 rcases h with h|⟨b,cur,e,h1,r⟩
 ·exact .inl h
 ·exact .inr ⟨b,cur,e,VF ah h1,r⟩
theorem La{α:Type}(A B C:List α)(m:Nat):(A++(B++C))[m]?=if m<A.length then A[m]? else if m<A.length+B.length then B[m-A.length]? else C[m-A.length-B.length]?:=by
 by_cases h1:m<A.length
 ·rw [if_pos h1,asW h1]
 ·rw [if_neg h1,asX (by omega)]
  by_cases ae:m<A.length+B.length
  ·rw [if_pos ae,asW (by omega)]
  ·rw [if_neg ae,asX (by omega)]
theorem Gv{α:Type}{E:dd α}{tt:TypeId}{base:Nat}{xs:List α}{i:Int}{x x':α}{X:J->Prop}
  (h:Own E t base H a n c xs) (bQ:a=some al) (az:i=k) (aa:xs[k]?=some x) (hs:hV P tt=v.cells.size) (Dt:(P.info? tt).isSome=true) (h1:∀x∈v.cells.toList,x.oneCell'=true)
  (tP:j+v.cells.toList.length<=E.sz) (eF:E.cells x'=(E.cells x).take j++v.cells.toList++(E.cells x).drop (j+v.cells.toList.length))
  (k':∀H',Own E t base H' a n c (xs.set k x')->Fr (ax a) H H'->X H'):∃H',fb P tt H ((al.add (i.toNat *E.sz)).add j) v H'/\X H':=by
 obtain⟨aH,an⟩:=h
 have ahl:k<xs.length:=(qb.1 aa).1
 subst az
 rcases an with⟨rfl,_,_⟩|⟨b,cur,rfl,ah,aq,ak,hm,dC,e8⟩
 ·cases bQ
 ·cases bQ
  rw [asD,l',l']
  have du:k*E.sz+E.sz<=n*E.sz:=by
   rw [<-Nat.add_one_mul]
   exact HR _ (by omega)
  have vw:n*E.sz<=cur.size:=by rw [dC];exact HR _ ak
  have qz:v.cells.toList.length=v.cells.size:=by simp
  obtain⟨cl⟩:=cur
  simp only at e8 dC vw
  refine BL aq hs Dt h1 (by simp at vw;omega) λH' aZ af=> ?_
  refine k' H' ⟨by simpa using aH,.inr ⟨b,_,rfl,ah,aZ,ak,hm,?_,?_⟩⟩ af
  ·simp at dC vw⊢;omega
  ·apply ast
   intro m
   have aqZ:(xs.flatMap E.cells).length=n*E.sz:=by rw [vv,aH]
   have aq0:((xs.set k x').flatMap E.cells).length=n*E.sz:=by rw [vv,List.length_set,aH]
   by_cases ou:m<n*E.sz
   ·have bh:=E.pos
    have a1:m/E.sz<xs.length:=by rw [<-aH];exact Nat.div_lt_of_lt_mul (by rw [Nat.mul_comm];exact ou)
    have aA:m % E.sz<E.sz:=apO _ bh
    have rE:m/E.sz*E.sz+m % E.sz=m:=by rw [Nat.mul_comm];exact Nat.div_add_mod m E.sz
    have ahm:∀u,(xs.flatMap E.cells)[m]?=some u->cl[m]?=some u:=by
     intro u hu
     rw [<-e8]at hu
     simp only [Ep,ou,if_true]at hu
     exact hu
    rw [Ep,if_pos ou]
    have av:∃y,xs[m/E.sz]?=some y:=⟨xs[m/E.sz],by simp [a1]⟩
    obtain⟨y,av⟩:=av
    have hu:∃u,(E.cells y)[m % E.sz]?=some u:=⟨(E.cells y)[m % E.sz]'(by rw [E.len];exact aA),by simp⟩
    obtain⟨u,hu⟩:=hu
    have iK:=wJ E xs _ y av _ u hu
    rw [rE]at iK
    have Lb:=ahm u iK
    by_cases hk:m/E.sz=k
    ·rw [hk,aa]at av
     cases av
     have pM:(xs.set k x')[k]?=some x':=by simp [ahl]
     have Du:k*E.sz+m % E.sz=m:=by rw [<-hk];exact rE
     have GU:∃l3,(E.cells x')[m % E.sz]?=some l3:=⟨(E.cells x')[m % E.sz]'(by rw [E.len];exact aA),by simp⟩
     obtain⟨l3,GU⟩:=GU
     have Dv:=wJ E (xs.set k x') k x' pM _ l3 GU
     rw [Du]at Dv
     rw [Dv,<-GU,eF]
     have hex:(E.cells x).length=E.sz:=E.len x
     have Lc:(cl.take (0+k*E.sz+j)).length=k*E.sz+j:=by rw [apH];simp at vw;omega
     have ahn:((E.cells x).take j).length=j:=by rw [apH];omega
     rw [ar8,ar8,La,La,Lc,ahn]
     by_cases h1:m % E.sz<j
     ·rw [if_pos (by omega),if_pos h1,Ep,Ep,if_pos (by omega),if_pos h1,Lb,hu]
     ·rw [if_neg (by omega),if_neg h1]
      by_cases ae:m % E.sz<j+v.cells.toList.length
      ·rw [if_pos (by omega),if_pos ae]
       congr 1
       omega
      ·rw [if_neg (by omega),if_neg ae,VG,VG]
       have bc:0+k*E.sz+j+v.cells.toList.length+(m-(k*E.sz+j)-v.cells.toList.length)=m:=by omega
       have bN:j+v.cells.toList.length+(m % E.sz-j-v.cells.toList.length)=m % E.sz:=by omega
       rw [bc,bN,Lb,hu]
    ·have pM:(xs.set k x')[m/E.sz]?=some y:=by rw [List.getElem?_set_ne (Ne.symm hk)];exact av
     have Dv:=wJ E (xs.set k x') _ y pM _ u hu
     rw [rE]at Dv
     rw [Dv,<-Lb]
     have Lc:(cl.take (0+k*E.sz+j)).length=k*E.sz+j:=by rw [apH];simp at vw;omega
     rw [ar8,La,Lc]
     rcases Nat.lt_or_gt_of_ne hk with h|h
     ·have:m<k*E.sz:=by
       have:=HR E.sz h
       rw [Nat.succ_mul]at this
       omega
      rw [if_pos (by omega),Ep,if_pos (by omega)]
     ·have:(k+1)*E.sz<=m:=by
       have:=HR E.sz (show k+1<=m/E.sz from h)
       omega
      rw [Nat.add_one_mul]at this
      rw [if_neg (by omega),if_neg (by omega),VG]
      congr 1
      omega
   ·rw [asu (by simp at vw ou⊢;omega),asu (by omega)]
def jC(P:Program)(t:TypeId)(sz bytes:Nat):Bool:=
 match P.info? t with
 |some i=>(match i.zero with
  |some z=>nP i.size sz&&nP z.cells.toList.length sz&&qa 0 sz&&nP i.bytes bytes&&qa 0 bytes
  |none=>false)
 |none=>false
def sliceB(P:Program)(ts t:TypeId):Bool:=match P.underlying ts with|some (.slice e)=>nP e t|_=>false
theorem Ld{sz bytes:Nat}(h:jC P t sz bytes=true):∃i z,P.info? t=some i/\i.zero=some z/\i.size=sz/\z.cells.size=sz/\0<sz/\i.bytes=bytes/\0<bytes:=by
 unfold jC at h
 split at h
 ·rename_i i az
  split at h
  ·rename_i z aC
   simp only [oJ,VB]at h
   obtain⟨⟨⟨⟨h1,ae⟩,au⟩,a6⟩,bu⟩:=h
   exact⟨i,z,az,aC,oK h1,by have:=oK ae;simpa using this,au,oK a6,bu⟩
  ·cases h
 ·cases h
theorem sA(h:sliceB P ts t=true):P.underlying ts=some (.slice t):=by
 unfold sliceB at h
 split at h
 ·rename_i e he;rw [he,oK h]
 ·cases h
theorem iD{α:Type}{E:dd α}{ty:TypeId}{bytes base:Nat}{xs ys:List α}{a2:Option Addr}{K:Option Addr->Nat->Nat->J->Prop}
  (hy:sliceB P ts t=true) (bf:jC P t E.sz bytes=true) (an:Own E t base H a n c xs) (hs:bk E H a2 m c2 ys) (tY:base<=H.size) (dC:(n+m)*bytes<=140737488355328)
  (hk:∀aK aQ aT H',Own E t base H' aK aQ aT (xs++ys)->Fr (ax a) H H'->Grow H (ax a) (ax aK)->K aK aQ aT H'):
  cj P (Builtin.append_ ⟨[ts,ts]⟩ ty ⟨[.slice a n c,.slice a2 m c2]⟩) H λv H'=>∃a n c,v=.slice a n c/\K a n c H':=by
 intro gA d
 obtain⟨i,z,az,aC,h1,ae,au,a6,bu⟩:=Ld bf
 have hu:=sA hy
 have uQ:(a8 gA H d).ownsRow base t E.sz (.slice a n c) n (xs.flatMap E.cells):=by
  obtain⟨aH,an⟩:=an
  refine⟨by rw [vv,aH],?_⟩
  rcases an with⟨rfl,rfl,rfl⟩|⟨b,cur,rfl,ah,aq,ak,hm,hs,bf⟩
  ·exact .inl ⟨rfl,rfl⟩
  ·exact .inr ⟨b,c,cur,rfl,ah,aq,ak,hm,hs,bf⟩
 have fin:∀gr w',w'.ownsRow base t E.sz gr (n+m) (xs.flatMap E.cells++ys.flatMap E.cells)->(a8 gA H d).grownBy w' (Value.slice a n c).ownBlock->(∀g hP,gr=.slice (some ⟨g,0,none⟩) (n+m) hP->g∈ax a\/H.size<=g)->d.1<=w'.drawn→
   ∃H' d',w'=a8 gA H' d'/\∃a n c,gr=.slice a n c/\K a n c H':=by
  intro gr w' l1 aZ vx ll
  refine⟨w'.heap,⟨w'.drawn,VF d.2 ll⟩,?_,?_⟩
  ·have bc:=aZ.os;have bN:=aZ.tape;have dP:=aZ.output
   cases w'
   simp only [a8]at bc bN dP⊢
   subst bc bN dP
   rfl
  ·have lJ:Fr (ax a) H w'.heap:=⟨aZ.size,λk hk ay=>aZ.block k hk (by
    cases a with
    |none=>simp [asg]
    |some al=>simp only [asg,ne_eq,Option.some.injEq];intro e;exact ay (by simp [ax,e]))⟩
   obtain⟨hlen,l1⟩:=l1
   have Le:n+m=(xs++ys).length:=by rw [VH,<-an.1,<-hs.len]
   rcases l1 with⟨rfl,aD⟩|⟨g,cap,cur,rfl,ah,aq,ak,hm,hF,e8⟩
   ·exact⟨none,0,0,rfl,hk none 0 0 w'.heap ⟨by omega,.inl ⟨rfl,rfl,rfl⟩⟩ lJ (λ_ h=>by cases h)⟩
   ·exact⟨_,_,_,rfl,hk _ _ _ w'.heap ⟨Le,.inr ⟨g,cur,rfl,ah,aq,ak,hm,hF,by rw [e8,asY]⟩⟩ lJ (λk hk=>by simp [ax]at hk;subst hk;exact vx _ _ rfl)⟩
 have Dw:n+m<=maxLen:=by
  have:n+m<=(n+m)*bytes:=asZ _ bu
  simp only [maxLen];omega
 cases a2 with
 |none=>
  have av:ys=[]:=by
   rcases hs.arr with h|⟨b,off,e,_⟩
   ·exact h
   ·cases e
  subst av
  have hm:m=0:=hs.len
  subst hm
  have cP:=hk a n c H (by rw [as0];exact an) (Fr.refl _ _) (Grow.refl _ _)
  obtain⟨aH,fw⟩:=an
  have vw:n<=c:=by
   rcases fw with⟨_,rfl,rfl⟩|⟨_,_,_,_,_,h,_⟩
   ·exact nQ _
   ·exact h
  refine⟨.slice a n c,H,d,?_,a,n,c,rfl,cP⟩
  unfold Builtin.append_
  simp only [HQ,MZ,arF]
  cases a with
  |none=>simp [eE hu,mC az,Builtin.lenOf,vw,Builtin.firstCells]
  |some al=>simp [eE hu,mC az,Builtin.lenOf,vw,Builtin.firstCells,storeCells]
 |some al=>
  have ko:∀j u,(ys.flatMap E.cells)[j]?=some u->(a8 gA H d).cell? (al.add j)=some u:=by
   intro j u hu
   obtain⟨i,x,k,h1,ae,rfl⟩:=RS E ys j u hu
   obtain⟨b,off,e,ak⟩:=hs.arr.at h1
   simp only [Option.some.injEq]at e
   subst e
   rw [l',xn,<-Nat.add_assoc]
   exact ak k u ae
  obtain⟨gr,w',aA,l1,aZ,Rl⟩:=run_append_own (P:=P) (a8 gA H d) base ts ty t i z E.sz bytes hu az aC h1 a6 ae au _ n _ uQ al m c2 (ys.flatMap E.cells) (by rw [vv,hs.len]) ko
   (λu hu=>by obtain⟨x,_,aa⟩:=as1.1 hu;exact E.one x u aa) Dw dC tY
  have ru:(ys.flatMap E.cells).length=m*i.size:=by rw [vv,hs.len,h1]
  have yQ:∀u∈ys.flatMap E.cells,u.oneCell'=true:=λu hu=>by obtain⟨x,_,aa⟩:=as1.1 hu;exact E.one x u aa
  have vx:(∀g hP,gr=.slice (some ⟨g,0,none⟩) (n+m) hP->g∈ax a\/H.size<=g)/\d.1<=w'.drawn:=by
   obtain⟨gE,⟨rfl,rfl,rfl⟩|⟨b,cur,rfl,ah,aq,ak,hm,hF,e8⟩⟩:=id an
   ·by_cases jl:m=0
    ·subst jl
     have gR:(Builtin.append_ #[ts,ts] ty #[.slice none 0 0,.slice (some al) 0 c2]).run P (a8 gA H d)=.ok (.slice none 0 0) (a8 gA H d):=by
      simp [Builtin.append_,eE hu,mC az,Builtin.lenOf,Builtin.firstCells,loadCells,loadCellsFrom]
     rw [aA]at gR
     injection gR with bc bN
     refine⟨λg hP aI=> ?_,by rw [bN];exact nQ _⟩
     rw [aI]at bc
     cases bc
    ·have gR:=run_append_nil (P:=P) (a8 gA H d) ts ty t i z hu az aC al m c2 (ys.flatMap E.cells) ru ko (by omega) (by simp only [maxLen]at Dw;omega) (by rw [a6];simp only [zd]at dC;omega)
     rw [aA]at gR
     injection gR with bc bN
     refine⟨λg hP aI=> ?_,by rw [bN];exact ash _⟩
     rw [aI]at bc
     injection bc with bc
     injection bc with bc
     injection bc with bc
     exact .inr (apF bc.symm)
   ·by_cases wz:n+m<=c
    ·have gR:=run_append_room (P:=P) (a8 gA H d) ts ty t i hu az b n c cur aq al m c2 (ys.flatMap E.cells) ru ko yQ wz (by rw [ru,hF,h1,<-A1];exact HR _ wz)
     rw [aA]at gR
     injection gR with bc bN
     refine⟨λg hP aI=> ?_,by rw [bN];exact nQ _⟩
     rw [aI]at bc
     injection bc with bc
     injection bc with bc
     injection bc with bc
     exact .inl (by simp [ax,bc])
    ·have holds:∀j u,(xs.flatMap E.cells)[j]?=some u->(a8 gA H d).cell? ((⟨b,0,none⟩:Addr).add j)=some u:=uQ.cells (g:=b) rfl
     have gR:=run_append_grow (P:=P) (a8 gA H d) ts ty t i z hu az aC ⟨b,0,none⟩ n c (xs.flatMap E.cells) (by rw [vv,gE,h1]) holds al m c2 (ys.flatMap E.cells) ru ko (by omega) (by simp only [maxLen]at Dw;omega) (growslice_fits (by omega) (by rw [a6];exact dC))
     rw [aA]at gR
     injection gR with bc bN
     refine⟨λg hP aI=> ?_,by rw [bN];exact ash _⟩
     rw [aI]at bc
     injection bc with bc
     injection bc with bc
     injection bc with bc
     exact .inr (apF bc.symm)
  obtain⟨H',d',hw,cP⟩:=fin gr w' l1 aZ vx.1 vx.2
  subst hw
  exact⟨gr,H',d',aA,cP⟩
theorem aho{α:Type}{E:dd α}{ty:TypeId}{bytes base:Nat}{xs ys:List α}{a2:Option Addr}{K:Option Addr->Nat->Nat->J->Prop}
  (hy:sliceB P ts t=true) (bf:jC P t E.sz bytes=true) (an:Own E t base H a n c xs) (hs:bk E H a2 m c2 ys) (tY:base<=H.size) (dC:(n+m)*bytes<=140737488355328)
  (hk:∀aK aQ aT H',Own E t base H' aK aQ aT (xs++ys)->Fr (ax a) H H'->K aK aQ aT H'):
  cj P (Builtin.append_ ⟨[ts,ts]⟩ ty ⟨[.slice a n c,.slice a2 m c2]⟩) H λv H'=>∃a n c,v=.slice a n c/\K a n c H':=
 iD hy bf an hs tY dC λaK aQ aT H' h1 ae _=>hk aK aQ aT H' h1 ae
theorem gd{α:Type}(E:dd α)(x:α)(h:ds H b (.cells ⟨vs⟩ t) H')(aI:vs=E.cells x):bk E H' (some ⟨b,0,none⟩) 1 1 [x]:=by
 refine⟨rfl,nQ _,.inr ⟨b,0,rfl,λi y av j v a'=> ?_⟩⟩
 cases i with
 |zero=>
  simp only [MZ,Option.some.injEq]at av
  subst av
  subst aI
  rw [re h.get]
  simpa using a'
 |succ i=>simp at av
structure mI(P:Program)(jm:TypeId)(cO:Type)[DecidableEq cO] where
 iU:cO->Value
 d:TypeDesc
 und:P.underlying jm=some d
 cmp:∀a b,Instr.sameNow d (iU a) (iU b)=some (decide (a=b))
 da:∀e k w,(Instr.checkKey e 10000 jm (iU k)).run P w=.ok () w
 same:∀a,Instr.sameBits 10000 (iU a) (iU a)=true
theorem ahp{jm:TypeId}{q:IntKind}(h:P.underlying jm=some (.int q))(e:Bool)(n:Nat)(k:IntKind)(a:Int)(w:World):(Instr.checkKey e (n+1) jm (.int k a)).run P w=.ok () w:=by
 unfold Instr.checkKey
 rw [bd,eE h]
 rfl
theorem ahq{jm:TypeId}(h:P.underlying jm=some .string)(e:Bool)(n:Nat)(a:ByteArray)(w:World):(Instr.checkKey e (n+1) jm (.string a)).run P w=.ok () w:=by
 unfold Instr.checkKey
 rw [bd,eE h]
 rfl
theorem bytes_beq(a b:ByteArray):(a==b)=decide (a=b):=by
 have e:(a==b)=(a.data==b.data):=by cases a;cases b;rfl
 rw [e]
 by_cases h:a=b
 ·subst h;simp
 ·have:¬a.data=b.data:=λh'=>h (by cases a;cases b;simp_all)
  simp [h,this]
def O1{jm:TypeId}(h:P.underlying jm=some (.int .i64)):mI P jm Int where
 iU:=λn=>.int .i64 n
 d:=.int .i64
 und:=h
 cmp:=λa b=>rfl
 da:=λe k w=>ahp h e 9999 .i64 k w
 same:=λa=>by
  show(IntKind.i64==IntKind.i64&&a==a)=true
  simp
def N1{jm:TypeId}(h:P.underlying jm=some .string):mI P jm ByteArray where
 iU:=λn=>.string n
 d:=.string
 und:=h
 cmp:=λa b=>by show some (a==b)=_;rw [bytes_beq]
 da:=λe k w=>ahq h e 9999 k w
 same:=λa=>by
  show(a==a)=true
  rw [bytes_beq];simp
section
variable{P:Program}{jm:TypeId}{cO:Type}[DecidableEq cO](T:mI P jm cO)
abbrev cS(cO:Type):=cO×Value×Nat
def mI.gI(x:cS cO):MapEntry:={key:=T.iU x.1,val:=x.2.1,born:=x.2.2}
structure so(ck:Nat)(L:List (cS cO)):Prop where
 keys:(L.map (·.1)).Nodup
 born:(L.map (·.2.2)).Nodup
 lt:∀x∈L,x.2.2<ck
structure dM(H:J)(r:Nat)(ck:Nat)(L:List (cS cO)):Prop where
 bo:H[r]?=some (.map ⟨L.map T.gI⟩ ck)
 wf:so ck L
def dA(k:cO):List (cS cO)->Option Value
 |[]=>none
 |x::l=>if x.1=k then some x.2.1 else dA k l
def mR(k:cO)(v:Value):List (cS cO)->List (cS cO)
 |[]=>[]
 |x::l=>if x.1=k then(k,v,x.2.2)::l else x::mR k v l
def sk(k:cO)(L:List (cS cO)):List (cS cO):=L.filter λx=>decide (x.1≠k)
def oZ(k:cO)(v:Value)(ck:Nat)(L:List (cS cO)):List (cS cO):=match dA k L with|some _=>mR k v L|none=>L++[(k,v,ck)]
def Dx(k:cO)(ck:Nat)(L:List (cS cO)):Nat:=match dA k L with|some _=>ck|none=>ck+1
def mr(k:cO):List (cS cO)->Nat->Option (Nat×Value)
 |[],_=>none
 |x::l,i=>if x.1=k then some (i,x.2.1)else mr k l (i+1)
theorem RT(k:cO):∀(L:List (cS cO)) (i:Nat),Instr.findNow T.d (T.iU k) (L.map T.gI) i=some (mr k L i)
 |[],i=>rfl
 |x::l,i=>by
  simp only [qO,Instr.findNow,mI.gI,T.cmp,mr]
  by_cases h:x.1=k
  ·have h':decide (k=x.1)=true:=by simp [h]
   rw [h',if_pos h]
  ·have h':decide (k=x.1)=false:=by simp;exact λe=>h e.symm
   rw [h',if_neg h]
   exact RT k l (i+1)
theorem AD(k:cO)(L:List (cS cO))(w:World):(Instr.findKey jm (T.iU k) (L.map T.gI)).run P w=.ok (mr k L 0) w:=by
 unfold Instr.findKey
 rw [bd,eE T.und]
 simp only [bx,RT]
 rfl
theorem Dy(k:cO):∀(L:List (cS cO)) (i:Nat),(mr k L i).map (·.2)=dA k L
 |[],_=>rfl
 |x::l,i=>by
  simp only [mr,dA]
  split
  ·rfl
  ·exact Dy k l (i+1)
theorem xp{es:Array MapEntry}(h:H[r]?=some (.map es ck))(w:World)(hw:w.heap=H):(getObj r).run P w=.ok (.map es ck) w:=by
 simp [getObj,nR,hw,h]
theorem r6{L:List (cS cO)}{mt:TypeId}{z:Value}(hm:P.underlying mt=some (.map jm e))(aC:zeroOf P e=some z)(h:dM T H r ck L)(k:cO):
  Rd P (Instr.lookup mt (.map (some r)) (T.iU k) false) H ((dA k L).getD z):=by
 intro w hw
 have af:=Dy k L 0
 unfold Instr.lookup
 rw [bd,eE hm]
 simp only [bx]
 rw [bd,xp h.bo w hw]
 simp only [bx]
 rw [bd]
 simp only [s5,bx]
 rw [bd,T.da]
 simp only [bx]
 rw [bd,AD]
 simp only [bx]
 cases aa:mr k L 0 with
 |none=>rw [aa]at af;simp at af;simp [<-af,Bl aC]
 |some x=>rw [aa]at af;simp at af;simp [<-af]
theorem E9{L:List (cS cO)}{mt:TypeId}{z:Value}(hm:P.underlying mt=some (.map jm e))(aC:zeroOf P e=some z)(h:dM T H r ck L)(k:cO):
  Rd P (Instr.lookup mt (.map (some r)) (T.iU k) true) H (.tuple ⟨[(dA k L).getD z,.bool (dA k L).isSome]⟩):=by
 intro w hw
 have af:=Dy k L 0
 unfold Instr.lookup
 rw [bd,eE hm]
 simp only [bx]
 rw [bd,xp h.bo w hw]
 simp only [bx]
 rw [bd]
 simp only [s5,bx]
 rw [bd,T.da]
 simp only [bx]
 rw [bd,AD]
 simp only [bx]
 cases aa:mr k L 0 with
 |none=>rw [aa]at af;simp at af;simp [<-af,Bl aC]
 |some x=>rw [aa]at af;simp at af;simp [<-af]
theorem Fv{k:cO}{L:List (cS cO)}:dA k L=none↔k∉L.map (·.1):=by
 induction L with
 |nil=>simp [dA]
 |cons x l ih=>
  simp only [dA,qO,o3,not_or]
  split
  ·rename_i h;simp [h]
  ·rename_i h;rw [ih];exact⟨λh'=>⟨λe=>h e.symm,h'⟩,λh'=>h'.2⟩
theorem ahr{k k':cO}{L:List (cS cO)}:dA k' (mR k v L)=if k'=k then(dA k L).map (λ_=>v)else dA k' L:=by
 induction L with
 |nil=>simp [dA,mR]
 |cons x l ih=>
  simp only [mR]
  by_cases h:x.1=k
  ·rw [if_pos h]
   by_cases h':k'=k
   ·subst h';simp [dA,h]
   ·rw [if_neg h']
    have h1:¬k=k':=λe=>h' e.symm
    have ae:¬x.1=k':=by rw [h];exact h1
    simp [dA,h1,ae]
  ·rw [if_neg h]
   simp only [dA,ih]
   by_cases h':k'=k
   ·subst h';simp [h]
   ·simp [h']
theorem ahs(k:cO)(v:Value)(L:List (cS cO)):(mR k v L).map (·.1)=L.map (·.1)/\(mR k v L).map (·.2.2)=L.map (·.2.2):=by
 induction L with
 |nil=>simp [mR]
 |cons x l ih=>
  simp only [mR]
  split
  ·rename_i h;simp [h]
  ·simp [ih]
theorem aht{k:cO}{L M:List (cS cO)}:dA k (L++M)=(dA k L).or (dA k M):=by
 induction L with
 |nil=>simp [dA]
 |cons x l ih=>
  simp only [asx,dA]
  split
  ·simp
  ·exact ih
theorem uO{k k':cO}{L:List (cS cO)}:dA k' (oZ k v ck L)=if k'=k then some v else dA k' L:=by
 unfold oZ
 cases h:dA k L with
 |some u=>simp only;rw [ahr];simp [h]
 |none=>
  simp only [aht,dA]
  by_cases h':k'=k
  ·subst h';simp [h]
  ·have h1:¬k=k':=λe=>h' e.symm
   simp [h',h1]
theorem aal{k k':cO}{L:List (cS cO)}:dA k' (sk k L)=if k'=k then none else dA k' L:=by
 induction L with
 |nil=>simp [dA,sk]
 |cons x l ih=>
  unfold sk at ih⊢
  rw [MX]
  by_cases h:x.1=k
  ·rw [if_neg (by simp [h]),ih]
   by_cases h':k'=k
   ·simp [h']
   ·have ae:¬x.1=k':=by rw [h];exact λe=>h' e.symm
    simp [h',dA,ae]
  ·rw [if_pos (by simp [h])]
   simp only [dA,ih]
   by_cases h':k'=k
   ·subst h';simp [h]
   ·simp [h']
theorem so.put{L:List (cS cO)}(h:so ck L)(k:cO)(v:Value):so (Dx k ck L) (oZ k v ck L):=by
 unfold Dx oZ
 cases aZ:dA k L with
 |some u=>
  simp only
  have hm:=ahs k v L
  refine⟨by rw [hm.1];exact h.keys,by rw [hm.2];exact h.born,λx aa=> ?_⟩
  have:x.2.2∈(mR k v L).map (·.2.2):=A2 aa
  rw [hm.2]at this
  obtain⟨y,av,e⟩:=ad6.1 this
  rw [<-e];exact h.lt y av
 |none=>
  simp only
  refine⟨?_,?_,λx aa=> ?_⟩
  ·rw [as2,as3]
   refine⟨h.keys,by simp,λa bQ b ah=> ?_⟩
   simp only [qO,List.map_nil,ar7]at ah
   subst ah
   exact λe=>Fv.1 aZ (e▸bQ)
  ·rw [as2,as3]
   refine⟨h.born,by simp,λa bQ b ah=> ?_⟩
   simp only [qO,List.map_nil,ar7]at ah
   subst ah
   obtain⟨y,av,rfl⟩:=ad6.1 bQ
   have:=h.lt y av
   omega
  ·rcases asU.1 aa with aa|aa
   ·have:=h.lt x aa;omega
   ·simp only [ar7]at aa;subst aa;simp
theorem so.del{L:List (cS cO)}(h:so ck L)(k:cO):so ck (sk k L):=
 ⟨h.keys.sublist (List.Sublist.map _ (as4 ..)),h.born.sublist (List.Sublist.map _ (as4 ..)),λx aa=>h.lt x (VD.1 aa).1⟩
theorem Dz{k:cO}:∀{L:List (cS cO)} {i j:Nat} {v:Value},mr k L i=some (j,v)->∃m b,j=i+m/\L[m]?=some (k,v,b)
 |[],_,_,_,h=>by simp [mr]at h
 |x::l,i,j,v,h=>by
  simp only [mr]at h
  split at h
  ·rename_i hk
   simp only [Option.some.injEq,Prod.mk.injEq]at h
   exact⟨0,x.2.2,by omega,by obtain⟨h1,ae⟩:=h;subst ae;obtain⟨a,b,c⟩:=x;simp at hk⊢;exact hk⟩
  ·obtain⟨m,b,a',hm⟩:=Dz h
   exact⟨m+1,b,by omega,by simpa using hm⟩
theorem RU{k:cO}:∀{L:List (cS cO)} {i j:Nat} {u:Value},mr k L i=some (j,u)->∀m,j=i+m->mR k v L=L.modify m (λx=>(k,v,x.2.2))
 |[],_,_,_,h,_,_=>by simp [mr]at h
 |x::l,i,j,u,h,m,hm=>by
  simp only [mr]at h
  simp only [mR]
  split at h
  ·rename_i hk
   simp only [Option.some.injEq,Prod.mk.injEq]at h
   have:m=0:=by omega
   subst this
   rw [if_pos hk]
   simp
  ·rename_i hk
   rw [if_neg hk]
   obtain⟨m',b,a',_⟩:=Dz h
   have ev:m=m'+1:=by omega
   subst ev
   rw [RU h m' (by omega)]
   simp
theorem RV{k:cO}:∀{L:List (cS cO)} {i j:Nat} {u:Value},(L.map (·.1)).Nodup->mr k L i=some (j,u)->∀m,j=i+m->sk k L=L.eraseIdx m
 |[],_,_,_,_,h,_,_=>by simp [mr]at h
 |x::l,i,j,u,ay,h,m,hm=>by
  simp only [mr]at h
  simp only [qO,apI]at ay
  unfold sk
  rw [MX]
  split at h
  ·rename_i hk
   simp only [Option.some.injEq,Prod.mk.injEq]at h
   have:m=0:=by omega
   subst this
   rw [if_neg (by simp [hk])]
   simp only [List.eraseIdx_cons_zero]
   rw [as5]
   intro y av
   simp only [ne_eq,decide_not,ad4,decide_eq_false_iff_not]
   intro e
   exact ay.1 (by rw [hk,<-e];exact A2 av)
  ·rename_i hk
   rw [if_pos (by simp [hk])]
   obtain⟨m',b,a',_⟩:=Dz h
   have ev:m=m'+1:=by omega
   subst ev
   have:=RV ay.2 h m' (by omega)
   unfold sk at this
   rw [this]
   rfl
def p3(H:J)(r:Nat)(o:Obj):J:=H.setIfInBounds r o
theorem DA{o lH:Obj}(h:H[r]?=some o):(p3 H r lH)[r]?=some lH:=by
 have:=k2 h
 simp [p3,this]
theorem DB(H:J)(r:Nat)(o:Obj):Fr [r] H (p3 H r o):=
 ⟨by simp [p3],λk _ ay=>by
  have:r≠k:=λe=>ay (by simp [e])
  simp [p3,this]⟩
theorem GV{E:Env}{d:kb E}{es:Array MapEntry}(h:H[r]?=some (.map es ck))(o:Obj):(setObj r o).run P (a8 E H d)=.ok () (a8 E (p3 H r o) d):=by
 simp [setObj,nR,a8,h,p3]
theorem uN{L:List (cS cO)}{mt:TypeId}{K:J->Prop}(hm:P.underlying mt=some (.map jm e))(h:dM T H r ck L)(k:cO)
  (hk:∀H',dM T H' r (Dx k ck L) (oZ k v ck L)->Fr [r] H H'->K H'):iQ P (Instr.mapUpdate mt (.map (some r)) (T.iU k) v) H K:=by
 intro E d
 have af:=Dy k L 0
 have aZ:=xp h.bo (a8 E H d) rfl (P:=P)
 cases aa:mr k L 0 with
 |none=>
  rw [aa]at af
  simp only [as6]at af
  refine⟨p3 H r (.map ((L.map T.gI).toArray.push {key:=T.iU k,val:=v,born:=ck}) (ck+1)),d,?_,hk _ ⟨?_,h.wf.put k v⟩ (DB _ _ _)⟩
  ·unfold Instr.mapUpdate
   rw [bd,eE hm]
   simp only [bx]
   rw [bd,aZ]
   simp only [bx]
   rw [bd,T.da]
   simp only [bx]
   rw [bd,AD,aa]
   simp only [bx]
   exact GV h.bo _
  ·rw [DA h.bo]
   unfold Dx oZ
   rw [<-af]
   simp [mI.gI]
 |some x=>
  obtain⟨j,u⟩:=x
  rw [aa]at af
  simp only [apP]at af
  obtain⟨m,b,a',nJ⟩:=Dz aa
  have mE:j=m:=by omega
  subst mE
  refine⟨p3 H r (.map ((L.map T.gI).toArray.modify j λe=>{e with key:=T.iU k,val:=v}) ck),d,?_,hk _ ⟨?_,h.wf.put k v⟩ (DB _ _ _)⟩
  ·unfold Instr.mapUpdate
   rw [bd,eE hm]
   simp only [bx]
   rw [bd,aZ]
   simp only [bx]
   rw [bd,T.da]
   simp only [bx]
   rw [bd,AD,aa]
   simp only [bx]
   have ahu:((({toList:=L.map T.gI}:Array MapEntry)[j]?).map (·.key)).getD (T.iU k)=T.iU k:=by
    simp [nJ,mI.gI]
   rw [ahu]
   have eg:(Instr.keyThatStays (T.iU k) (T.iU k)).run P (a8 E H d)=.ok (T.iU k) (a8 E H d):=by
    unfold Instr.keyThatStays
    rw [T.same]
    rfl
   rw [bd,eg]
   simp only [bx]
   exact GV h.bo _
  ·rw [DA h.bo]
   unfold Dx oZ
   rw [<-af]
   simp only [Option.some.injEq,Obj.map.injEq,and_true]
   rw [RU (v:=v) aa j (by omega)]
   apply aso
   apply ast
   intro i
   simp only [Array.toList_modify,apN,List.getElem?_modify]
   by_cases az:j=i
   ·subst az
    simp [nJ,mI.gI]
   ·simp [az]
theorem RW{α β:Type}(f:α->β):∀(l:List α) (i:Nat),(l.map f).eraseIdx i=(l.eraseIdx i).map f
 |[],i=>by simp
 |x::l,0=>rfl
 |x::l,i+1=>by simp [RW f l i]
theorem aak{L:List (cS cO)}{mt ty:TypeId}{K:J->Prop}(hm:P.underlying mt=some (.map jm e))(h:dM T H r ck L)(k:cO)
  (hk:∀H',dM T H' r ck (sk k L)->Fr [r] H H'->K H'):cj P (Builtin.delete_ ⟨[mt,jm]⟩ ty ⟨[.map (some r),T.iU k]⟩) H λv H'=>v=.tuple ⟨[]⟩/\K H':=by
 intro E d
 have aZ:=xp h.bo (a8 E H d) rfl (P:=P)
 cases aa:mr k L 0 with
 |none=>
  have af:=Dy k L 0
  rw [aa]at af
  simp only [as6]at af
  have aO:sk k L=L:=by
   unfold sk
   rw [as5]
   intro y av
   simp only [ne_eq,decide_not,ad4,decide_eq_false_iff_not]
   intro e
   exact Fv.1 af.symm (by rw [<-e];exact A2 av)
  refine⟨.tuple ⟨[]⟩,p3 H r (.map ⟨L.map T.gI⟩ ck),d,?_,rfl,hk _ ⟨by rw [DA h.bo,aO],h.wf.del k⟩ (DB _ _ _)⟩
  unfold Builtin.delete_
  simp only [HQ,MZ,arF]
  rw [bd,eE hm]
  simp only [bx]
  rw [bd,aZ]
  simp only [bx]
  rw [bd,T.da]
  simp only [bx]
  rw [bd,AD,aa]
  simp only [bx]
  rw [bd,GV h.bo]
  rfl
 |some x=>
  obtain⟨j,u⟩:=x
  obtain⟨m,b,a',nJ⟩:=Dz aa
  have mE:j=m:=by omega
  subst mE
  refine⟨.tuple ⟨[]⟩,p3 H r (.map ((L.map T.gI).toArray.eraseIdxIfInBounds j) ck),d,?_,rfl,hk _ ⟨?_,h.wf.del k⟩ (DB _ _ _)⟩
  ·unfold Builtin.delete_
   simp only [HQ,MZ,arF]
   rw [bd,eE hm]
   simp only [bx]
   rw [bd,aZ]
   simp only [bx]
   rw [bd,T.da]
   simp only [bx]
   rw [bd,AD,aa]
   simp only [bx]
   rw [bd,GV h.bo]
   rfl
  ·rw [DA h.bo,RV h.wf.keys aa j (by omega)]
   simp only [Option.some.injEq,Obj.map.injEq,and_true]
   have cF:j<L.length:=(qb.1 nJ).1
   apply aso
   simp [Array.eraseIdxIfInBounds,cF,RW]
theorem Pt{L:List (cS cO)}{mt ty:TypeId}(hm:P.underlying mt=some (.map jm e))(h:dM T H r ck L):
  Rd P (Builtin.len_ ⟨[mt]⟩ ty ⟨[.map (some r)]⟩) H (.int .i64 L.length):=by
 intro w hw
 unfold Builtin.len_
 simp only [HQ,MZ]
 rw [bd,eE hm]
 simp only [bx]
 rw [bd,xp h.bo w hw]
 simp [goInt]
theorem dM.ag{L:List (cS cO)}(h:dM T H r ck L)(af:Fr S H H')(ay:r∉S):dM T H' r ck L:=⟨af.get h.bo ay,h.wf⟩
theorem dM.ab{L:List (cS cO)}(h:dM T H r ck L)(af:Fr [] H H'):dM T H' r ck L:=⟨af.nw h.bo,h.wf⟩
theorem dM.new(h:ds H r (.map ⟨[]⟩ 0) H'):dM T H' r 0 []:=⟨h.get,⟨by simp,by simp,by simp⟩⟩
theorem dM.lt{L:List (cS cO)}(h:dM T H r ck L):r<H.size:=k2 h.bo
theorem x6{L:List (cS cO)}{mt:TypeId}{K:Option Addr->J->Prop}(hm:P.underlying mt=some (.map jm e))(h:dM T H r ck L)
  (hk:∀b H',ds H b (.mapIter (some r) ck #[] ck) H'->K (some ⟨b,0,none⟩) H'):
  cj P (Instr.range mt (.map (some r))) H λv H'=>∃a,v=.pointer a/\K a H':=by
 intro E d
 refine⟨_,H.push (.mapIter (some r) ck #[] ck),d,?_,some ⟨H.size,0,none⟩,rfl,hk H.size _ ⟨rfl,rfl⟩⟩
 unfold Instr.range
 rw [bd,eE hm]
 simp only [bx]
 rw [bd,xp h.bo (a8 E H d) rfl]
 simp only [bx]
 rw [bd,s5]
 rfl
theorem Jl{o:Obj}(h:H[r]?=some o)(an:∀c t z,o≠.cells c t z)(w:World)(hw:w.heap=H):(getObj r).run P w=.ok o w:=by
 cases o with
 |cells c t z=>exact absurd rfl (an c t z)
 |_=>simp [getObj,nR,hw,h]
theorem ahv{E:Env}{d:kb E}{o:Obj}(h:H[r]?=some o)(an:∀c t z,o≠.cells c t z)(lH:Obj):(setObj r lH).run P (a8 E H d)=.ok () (a8 E (p3 H r lH) d):=by
 cases o with
 |cells c t z=>exact absurd rfl (an c t z)
 |_=>simp [setObj,nR,a8,h,p3]
theorem wE{it:Nat}{L:List (cS cO)}{seen:Array Nat}{ty:TypeId}{RX:J->Prop}{RY:Value->Value->J->Prop}(h:dM T H r ck L)(az:H[it]?=some (.mapIter (some r) ck seen ck))
  (zH:(∀x∈L,x.2.2∈seen)->RX H)
  (hk:∀x∈L,x.2.2∉seen->∀H',H'[it]?=some (.mapIter (some r) ck (seen.push x.2.2) ck)->Fr [it] H H'->RY (T.iU x.1) x.2.1 H'):
  cj P (Instr.next (.pointer (some ⟨it,0,none⟩)) false ty) H λv H'=>(v=.tuple #[.bool false]/\RX H')\/(∃k x,v=.tuple #[.bool true,k,x]/\RY k x H'):=by
 intro E d
 have h1:=Jl (P:=P) az (by simp) (a8 E H d) rfl
 have ae:=xp (P:=P) h.bo (a8 E H d) rfl
 have Br:(!seen.isEmpty&& !(L.map T.gI).toArray.isEmpty&&(L.map T.gI).toArray.all (λe=>decide (e.born>=ck)))=false:=by
  cases L with
  |nil=>simp
  |cons x l=>
   have cF:=h.wf.lt x (by simp)
   simp [mI.gI]
   omega
 let left:=(L.map T.gI).toArray.filter λe=> !seen.contains e.born
 let gu:=left.filter λe=>decide (e.born<ck)
 let new:=left.filter λe=>decide (e.born>=ck)
 let mX:Array (Option MapEntry):=(if gu.isEmpty then #[none]else #[])++(gu++new).map some
 have wm:(Instr.next (.pointer (some ⟨it,0,none⟩)) false ty).run P (a8 E H d)=((do
   match mX[<-choose (.mapNext mX.size)]? with
   |some (some e)=>
    setObj it (.mapIter (some r) ck (seen.push e.born) ck)
    pure (.tuple #[.bool true,e.key,e.val])
   |some none=>pure (.tuple #[.bool false])
   |none=>stuck "Next: no such candidate" :Sem Value)).run P (a8 E H d):=by
  unfold Instr.next
  simp only
  rw [bd,h1]
  simp only [bx]
  rw [bd,ae]
  simp only [bx]
  rw [Br]
  simp only [vV,if_false]
  rfl
 have kH:0<mX.size:=by
  by_cases an:gu.isEmpty
  ·simp only [mX,an,if_true];simp;omega
  ·have:0<gu.size:=by
    rcases Nat.eq_zero_or_pos gu.size with aD|aD
    ·exact absurd (by simpa [Array.isEmpty]using aD) an
    ·exact aD
   simp only [mX,an];simp;omega
 have Jc:∃j d',j<mX.size/\(choose (.mapNext mX.size)).run P (a8 E H d)=.ok j (a8 E H d'):=by
  by_cases af:(Question.mapNext mX.size).forced=true
  ·refine⟨0,d,kH,?_⟩
   simp [choose,nR,af]
  ·refine⟨E.tape d.1 (.mapNext mX.size) % mX.size,up d,apO _ kH,?_⟩
   have dZ:(Question.mapNext mX.size).forced=false:=by simpa using af
   simp [choose,nR,dZ,Question.cut,a8]
 obtain⟨j,d',a',ak⟩:=Jc
 rw [wm,bd,ak]
 simp only [bx]
 have BV:mX[j]?=some mX[j]:=by simp [a']
 rw [BV]
 have mP:mX[j]∈mX:=Array.getElem_mem a'
 cases he:mX[j]with
 |none=>
  refine⟨_,H,d',rfl,.inl ⟨rfl,zH λx aa=> ?_⟩⟩
  rw [he]at mP
  have ahw:gu.isEmpty=true:=by
   cases an:gu.isEmpty with
   |true=>rfl
   |false=>simp [mX,an]at mP
  by_cases hs:x.2.2∈seen
  ·exact hs
  ·exfalso
   have cF:=h.wf.lt x aa
   have:T.gI x∈gu:=by
    simp only [gu,left,asi]
    refine⟨⟨by simp only [as7];exact A2 aa,by simp [mI.gI,hs]⟩,by simp [mI.gI,cF]⟩
   have aD:gu= #[]:=by simpa using ahw
   rw [aD]at this
   simp at this
 |some e=>
  rw [he]at mP
  have:e∈left:=by
   simp only [mX,Array.mem_append,Array.mem_map]at mP
   rcases mP with hm|⟨y,av,bc⟩
   ·split at hm<;>simp at hm
   ·simp only [Option.some.injEq]at bc
    subst bc
    rcases av with av|av
    ·exact(asi.1 av).1
    ·exact(asi.1 av).1
  simp only [left,asi,as7,ad6]at this
  obtain⟨⟨x,aa,rfl⟩,jY⟩:=this
  have GI:x.2.2∉seen:=by simpa [mI.gI]using jY
  refine⟨_,p3 H it (.mapIter (some r) ck (seen.push x.2.2) ck),d',?_,.inr ⟨_,_,rfl,hk x aa GI _ (DA az) (DB _ _ _)⟩⟩
  rw [bd,ahv az (by simp)]
  rfl
theorem zJ{it:Nat}{L:List (cS cO)}{seen:Array Nat}{x:cS cO}{K:Value->Value->J->Prop}(h:dM T H r ck L)(az:H[it]?=some (.mapIter (some r) ck (seen.push b) ck))(aa:x∈L)(ah:x.2.2=b)
  (hk:K (T.iU x.1) x.2.1 H):cj P (Instr.entry (.pointer (some ⟨it,0,none⟩))) H λv H'=>∃k x,v=.tuple #[k,x]/\K k x H':=by
 intro E d
 refine⟨_,H,d,?_,_,_,rfl,hk⟩
 have h1:=Jl (P:=P) az (by simp) (a8 E H d) rfl
 have ae:=xp (P:=P) h.bo (a8 E H d) rfl
 have ahx:(L.map T.gI).toArray.find? (λe=>e.born==b)=some (T.gI x):=by
  have ay:=h.wf.born
  clear h h1 ae az hk
  simp only [List.find?_toArray]
  induction L with
  |nil=>simp at aa
  |cons y l ih=>
   simp only [qO,List.find?_cons]
   simp only [qO,apI]at ay
   rcases o3.1 aa with rfl|eF
   ·have:((T.gI x).born==b)=true:=by simp [mI.gI,ah]
    rw [this]
   ·have:((T.gI y).born==b)=false:=by
     simp only [mI.gI,beq_eq_false_iff_ne,ne_eq]
     intro e
     exact ay.1 (by rw [e,<-ah];exact A2 eF)
    rw [this]
    exact ih eF ay.2
 unfold Instr.entry
 simp only
 rw [bd,h1]
 simp only [bx,Array.back?_push]
 rw [bd,ae]
 simp only [bx]
 rw [if_neg (by simp),ahx]
 rfl
def wF(seen:Array Nat)(l:List Nat):Nat:=(l.filter λb=> !seen.contains b).length
def lF(H:J)(r it:Nat):Nat:=match H[r]?,H[it]? with
 |some (.map es _),some (.mapIter _ _ seen _)=>wF seen (es.toList.map (·.born))
 |_,_=>0
theorem sa{it c1:Nat}{L:List (cS cO)}{seen:Array Nat}{o:Option Nat}(h:dM T H r ck L)(az:H[it]?=some (.mapIter o c1 seen c2)):lF H r it=wF seen (L.map (·.2.2)):=by
 unfold lF
 rw [h.bo,az]
 simp only [List.map_map]
 rfl
theorem BX{seen:Array Nat}{l:List Nat}(ah:b∈l)(hs:b∉seen):wF (seen.push b) l<wF seen l:=by
 unfold wF
 have sub:∀l:List Nat,(l.filter λx=> !(seen.push b).contains x).length<=(l.filter λx=> !seen.contains x).length:=by
  intro l
  induction l with
  |nil=>simp
  |cons y l ih=>
   simp only [MX]
   by_cases h1:y∈seen
   ·have ae:y∈seen.push b:=by simp [h1]
    simpa [h1]using ih
   ·by_cases au:y=b
    ·subst au;simp [h1];simp at ih;omega
    ·simp [h1,au];simp at ih;omega
 induction l with
 |nil=>cases ah
 |cons y l ih=>
  simp only [MX]
  by_cases au:y=b
  ·subst au
   have:=sub l
   simp [hs];simp at this;omega
  ·have e3:b∈l:=by
    rcases o3.1 ah with h|h
    ·exact absurd h.symm au
    ·exact h
   have:=ih e3
   by_cases h1:y∈seen
   ·simp [h1];simp at this;omega
   ·simp [h1,au];simp at this;omega
theorem Fx{k:cO}{L:List (cS cO)}(hw:so ck L)(h:(k,v,b)∈L):dA k L=some v:=by
 have hk:=hw.keys
 clear hw
 induction L with
 |nil=>cases h
 |cons y l ih=>
  simp only [dA]
  simp only [qO,apI]at hk
  rcases o3.1 h with h|h
  ·subst h;simp
  ·have:y.1≠k:=λe=>hk.1 (by rw [e];exact A2 (f:=λx:cS cO=>x.1) h)
   rw [if_neg this]
   exact ih h hk.2
theorem zI{k:cO}{L:List (cS cO)}(h:dA k L=some v):∃b,(k,v,b)∈L:=by
 induction L with
 |nil=>cases h
 |cons y l ih=>
  simp only [dA]at h
  split at h
  ·rename_i e
   cases h
   exact⟨y.2.2,by rw [<-e];simp⟩
  ·obtain⟨b,ah⟩:=ih h;exact⟨b,by simp [ah]⟩
end
open Go.ChangeShapes Go.WideShapes Go.RowKit
def gh(P:Program)(H:J):Nat->TypeId->List Value->Prop
 |0,_,_=>False
 |n+1,t,cs=>match P.underlying t with
  |some .bool=>∃b,cs=[.bool b]
  |some (.int k)=>∃x,cs=[.int k x]/\(Lit.int k x).wf=true
  |some .string=>∃s,cs=[.string s]/\s.size<=maxLen
  |some (.slice e)=>∃(a:Option Addr) (len cap:Nat) (rows:List (List Value)),cs=[.slice a len cap]/\len<=cap/\cap<=maxLen/\rows.length=len∧
    ∀i r,rows[i]?=some r->r.length=P.cellsOf e/\gh P H n e r/\∃al,a=some al/\eP H (al.add (i*P.cellsOf e)) r
  |some (.struct eT)=>cs.length=P.cellsOf t/\∀(i:Nat) (f:Field),eT[i]?=some f->gh P H n f.type ((cs.drop f.offset).take (P.cellsOf f.type))
  |some (.array _ _)=>cs.length=P.cellsOf t
  |_=>True
theorem an6{X:Type}{enc:TypeId×Value->X}{w:World}{base:Nat}{sp:Nat->Bool}{held:Bool}:∀(n:Nat) (t:TypeId) (cs:List Value) (x:DataW X×List MemPlace),DataW.trod enc P w base sp held n t cs=some x->gh P w.heap n t cs:=by
 intro n
 induction n with
 |zero=>intro t cs x h;simp [DataW.trod]at h
 |succ n ih=>
  intro t cs x h
  unfold gh
  split
  ·rename_i hu
   obtain⟨b,h,_⟩:=DataW.trod_bool hu h
   exact⟨b,h⟩
  ·rename_i k hu
   obtain⟨b,h,_,hw⟩:=DataW.trod_int hu h
   exact⟨b,h,hw⟩
  ·rename_i hu
   obtain⟨b,h,_,hw⟩:=DataW.trod_string hu h
   exact⟨b,h,hw⟩
  ·rename_i e hu
   rcases DataW.trod_slice hu h with⟨rfl,rfl⟩|⟨a,len,cap,elems,rest,m,hm,rfl,rfl,ah,aH,ak,hlen,rz,MC,jY⟩
   ·exact⟨none,0,0,[],rfl,nQ _,apG _,rfl,λi r aA=>by simp at aA⟩
   ·have ev:m=n:=by omega
    subst ev
    have each:∀i,i<len->∃r,w.cells? base (a.add (i*P.cellsOf e)) (P.cellsOf e)=some r/\DataW.trod enc P w base sp held m e r=elems[i]?:=by
     intro i az
     have:=rz i az
     rw [asj (by omega)]at this
     obtain⟨r,h1,ae⟩:=Option.bind_eq_some_iff.1 this
     exact⟨r,h1,by rw [ae,asj (by omega)]⟩
    obtain⟨R,hh⟩:=Go.Deep.choose_lt each
    refine⟨some a,len,cap,(asl len).map R,rfl,aH,ak,by simp,λi r aA=> ?_⟩
    have az:i<len:=by
     have:=(qb.1 aA).1
     simpa using this
    have hG:r=R i:=by simp [az]at aA;exact aA.symm
    subst hG
    obtain⟨h1,ae⟩:=hh i az
    obtain⟨_,kU,ko⟩:=World.cells?_some h1
    rw [asj (by omega)]at ae
    refine⟨kU,ih e _ _ ae,a,rfl,λj v aI=> ?_⟩
    ·have a':j<P.cellsOf e:=by
      have:=(qb.1 aI).1
      omega
     have:=ko j a'
     rw [aI]at this
     exact this
  ·rename_i eT hu
   obtain⟨xs,m,hm,rfl,kU,jr,af⟩:=DataW.trod_struct hu h
   have ev:m=n:=by omega
   subst ev
   refine⟨kU,λi f UY=> ?_⟩
   have h1:=af i f UY
   have az:i<xs.length:=by rw [jr];exact(aro.1 UY).1
   rw [asj az]at h1
   exact ih _ _ _ h1
  ·rename_i m e hu
   unfold DataW.trod at h
   rw [hu]at h
   simp only at h
   split at h
   ·assumption
   ·cases h
  ·trivial
def y'(P:Program)(H:J)(t:TypeId)(v:Value):Prop:=
 (∃n,gh P H n t v.cells.toList)/\(match P.underlying t with
  |some .bool|some (.int _)|some .string|some (.slice _)=>v.cells= #[v]
  |some (.struct _)=>∃cs,v=.agg cs
  |_=>True)
def Ei(P:Program)(H:J):List TypeId->List Value->Prop
 |[],vs=>vs=[]
 |t::ts,vs=>∃v AW,vs=v::AW/\y' P H t v/\Ei P H ts AW
theorem y'.int{k:IntKind}(bf:P.underlying t=some (.int k))(h:y' P H t v):∃x,v=.int k x/\(Lit.int k x).wf=true:=by
 obtain⟨⟨n,h⟩,ae⟩:=h
 rw [bf]at ae
 cases n with
 |zero=>exact h.elim
 |succ n=>
  unfold gh at h
  rw [bf]at h
  obtain⟨x,h,hw⟩:=h
  have ae:v.cells= #[v]:=ae
  rw [ae]at h
  exact⟨x,by simpa using h,hw⟩
theorem gh.bL{α:Type}{E:dd α}{cs:List Value}{G:α->Prop}(bf:P.underlying t=some (.slice e))(dC:P.cellsOf e=E.sz)(h:gh P H n t cs)
  (rz:∀m r,gh P H m e r->r.length=E.sz->∃x,E.cells x=r/\G x):∃a len cap xs,cs=[.slice a len cap]/\bk E H a len cap xs/\cap<=maxLen/\∀x∈xs,G x:=by
 cases n with
 |zero=>exact h.elim
 |succ n=>
  unfold gh at h
  rw [bf]at h
  obtain⟨a,len,cap,rows,rfl,aH,ak,hlen,aA⟩:=h
  have key:∀(L:List (List Value)),(∀r∈L,∃x,E.cells x=r/\G x)->∃xs:List α,xs.map E.cells=L/\∀x∈xs,G x:=by
   intro L
   induction L with
   |nil=>intro _;exact⟨[],rfl,by simp⟩
   |cons r L ih=>
    intro gF
    obtain⟨x,aa,aZ⟩:=gF r (by simp)
    obtain⟨xs,kM,MD⟩:=ih λr aA=>gF r (by simp [aA])
    exact⟨x::xs,by simp [aa,kM],λy av=>(o3.1 av).elim (λe=>by rw [e];exact aZ) (MD y)⟩
  obtain⟨xs,kM,MD⟩:=key rows λr hG=>by
   obtain⟨i,az⟩:=List.getElem?_of_mem hG
   obtain⟨h1,ae,_⟩:=aA i r az
   exact rz n r ae (by rw [h1,dC])
  have jr:xs.length=len:=by rw [<-hlen,<-kM];simp
  refine⟨a,len,cap,xs,rfl,⟨jr.symm,aH,?_⟩,ak,MD⟩
  cases pd:xs with
  |nil=>exact .inl rfl
  |cons fk asa=>
   have aD:rows[0]?=some (E.cells fk):=by rw [<-kM,pd];rfl
   obtain⟨DJ,_,al,rfl,vI⟩:=aA 0 _ aD
   have kH:=E.pos
   have hex:∃v,(E.cells fk)[0]?=some v:=⟨(E.cells fk)[0]'(by rw [E.len];exact kH),by simp⟩
   obtain⟨v0,an7⟩:=hex
   have ko:=vI 0 v0 an7
   obtain⟨b,off,spot⟩:=al
   cases spot with
   |some s=>
    exfalso
    have fC:∀x:Addr,x.add 0=x:=λx=>by cases x;rfl
    rw [asv,fC,fC]at ko
    unfold hM at ko
    split at ko<;>simp at ko
   |none=>
    refine .inr ⟨b,off,rfl,λi x aa j v aI=> ?_⟩
    rw [<-pd]at aa
    have an8:rows[i]?=some (E.cells x):=by rw [<-kM,apN,aa];rfl
    obtain⟨_,_,al,UZ,ak⟩:=aA i _ an8
    simp only [Option.some.injEq]at UZ
    subst UZ
    have:=ak j v aI
    rw [l',l',dC]at this
    exact this
theorem y'.bL{α:Type}{E:dd α}{G:α->Prop}(bf:P.underlying t=some (.slice e))(dC:P.cellsOf e=E.sz)(h:y' P H t v)
  (rz:∀m r,gh P H m e r->r.length=E.sz->∃x,E.cells x=r/\G x):∃a len cap xs,v=.slice a len cap/\bk E H a len cap xs/\cap<=maxLen/\∀x∈xs,G x:=by
 obtain⟨⟨n,h⟩,ae⟩:=h
 rw [bf]at ae
 have ae:v.cells= #[v]:=ae
 obtain⟨a,len,cap,xs,hF,r⟩:=h.bL bf dC rz
 rw [ae]at hF
 exact⟨a,len,cap,xs,by simpa using hF,r⟩
theorem gh.int{k:IntKind}{r:List Value}(bf:P.underlying t=some (.int k))(h:gh P H n t r):∃x,r=[.int k x]/\(Lit.int k x).wf=true:=by
 cases n with
 |zero=>exact h.elim
 |succ n=>unfold gh at h;rw [bf]at h;exact h
theorem gh.str{r:List Value}(bf:P.underlying t=some .string)(h:gh P H n t r):∃x,r=[.string x]/\x.size<=maxLen:=by
 cases n with
 |zero=>exact h.elim
 |succ n=>unfold gh at h;rw [bf]at h;exact h
theorem gh.struct{eT:Array Field}{r:List Value}(bf:P.underlying t=some (.struct eT))(h:gh P H n t r):
  r.length=P.cellsOf t/\∀(i:Nat) (f:Field),eT[i]?=some f->∃m,gh P H m f.type ((r.drop f.offset).take (P.cellsOf f.type)):=by
 cases n with
 |zero=>exact h.elim
 |succ n=>unfold gh at h;rw [bf]at h;exact⟨h.1,λi f af=>⟨n,h.2 i f af⟩⟩
theorem Ov{α:Type}{l:List α}(h:l.length=1):∃a,l=[a]:=by
 match l,h with
 |[a],_=>exact⟨a,rfl⟩
theorem an9{α:Type}{l:List α}(h:l.length=2):∃a b,l=[a,b]:=by
 match l,h with
 |[a,b],_=>exact⟨a,b,rfl⟩
theorem an'{α:Type}{l:List α}(h:l.length=3):∃a b c,l=[a,b,c]:=by
 match l,h with
 |[a,b,c],_=>exact⟨a,b,c,rfl⟩
theorem U0{α:Type}{l:List α}(h:l.length=4):∃a b c d,l=[a,b,c,d]:=by
 match l,h with
 |[a,b,c,d],_=>exact⟨a,b,c,d,rfl⟩
theorem y'.struct{eT:Array Field}(bf:P.underlying t=some (.struct eT))(h:y' P H t v):∃cs n,v=.agg ⟨cs⟩/\gh P H n t cs:=by
 obtain⟨⟨n,h⟩,ae⟩:=h
 rw [bf]at ae
 obtain⟨cs,rfl⟩:=ae
 exact⟨cs.toList,n,rfl,h⟩
theorem wf_i64{x:Int}(h:(Lit.int .i64 x).wf=true):dp x:=by
 simp only [Lit.wf,oJ,decide_eq_true_eq]at h
 exact h
theorem U1{X:Type}{enc:TypeId×Value->X}{W:World}{base:Nat}{sp:Nat->Bool}{held:Bool}{r:Reach}{dU:Nat}:∀{ts:List TypeId} {vs:List Value} {cT:List (DataW X)} {ps:List MemPlace},
  DataW.TrodAll enc P W base sp held ts vs cT ps->(∀(j:Nat) t v,ts[j]?=some t->vs[j]?=some v->Value.okWide P W r dU t v)->Ei P W.heap ts vs
 |[],vs,cT,ps,h,_=>(trodAll_nil h).1
 |t::ts,vs,cT,ps,h,iT=>by
  obtain⟨v,AW,d,vu,p,q,rfl,rfl,rfl,h1,ae⟩:=trodAll_cons h
  refine⟨v,AW,rfl,⟨?_,?_⟩,U1 ae λj t' gr bf aI=>iT (j+1) t' gr (by simpa using bf) (by simpa using aI)⟩
  ·obtain⟨n,ay⟩:=h1
   exact⟨n,an6 n _ _ _ ay⟩
  ·have aD:=iT 0 t v rfl rfl
   split
   ·rename_i hu;obtain⟨b,rfl⟩:=okWide_bool hu aD;rfl
   ·rename_i k hu;obtain⟨b,rfl⟩:=okWide_int hu aD;rfl
   ·rename_i hu;obtain⟨b,rfl⟩:=okWide_string hu aD;rfl
   ·rename_i e hu;obtain⟨b,c,d,rfl⟩:=okWide_slice hu aD;rfl
   ·rename_i eT hu;obtain⟨b,ah,_⟩:=okWide_struct hu aD;exact⟨b,ah⟩
   ·trivial
theorem U2{X:Type}{enc:TypeId×Value->X}{W W':World}(aH:laidOutB P=true){U3:Nat->Bool}:∀{ts:List TypeId} {vs:List Value} {cT:List (DataW X)} {ps:List MemPlace},
  (∀t∈ts,P.readableRec t=true/\t<P.types.size)->DataW.TrodAll enc P W 0 (λ_=>true) true ts vs cT ps->(∀p∈ps,W.sameAt W' p)->(∀p∈ps,U3 p.block=true)->DataW.TrodAll enc P W' 0 U3 true ts vs cT ps
 |[],vs,cT,ps,_,h,_,_=>by
  obtain⟨rfl,rfl,rfl⟩:=trodAll_nil h
  exact trodAll_mk0
 |t::ts,vs,cT,ps,hy,h,hs,MC=>by
  obtain⟨v,AW,d,vu,p,q,rfl,rfl,rfl,h1,ae⟩:=trodAll_cons h
  obtain⟨a,b⟩:=hy t (by simp)
  exact trodAll_cons_mk (WideElems.Trod_stays aH a b h1 (λx aa=>hs x (by simp [aa])) (λx aa=>MC x (by simp [aa])))
   (U2 aH (λt bf=>hy t (by simp [bf])) ae (λx aa=>hs x (by simp [aa])) (λx aa=>MC x (by simp [aa])))
theorem aoa{W W':World}(af:Fr [] W.heap W'.heap){p:MemPlace}(bh:p.block<W.heap.size):W.sameAt W' p:=by
 have h:=af.block p.block bh (by simp)
 cases p with
 |cell b off=>
  show W'.cell? ⟨b,off,none⟩=W.cell? ⟨b,off,none⟩
  simp only [MemPlace.block]at h
  rw [xn,xn]
  unfold hM
  rw [h]
 |map b=>exact h
theorem aob{W W':World}(an:W'.os=W.os)(aoc:W'.output=W.output)(af:Fr [] W.heap W'.heap)(may:MemPlace->Prop):W.keptBut W' may:=by
 refine⟨an,aoc,λi az=> ?_⟩
 rw [af.block i az (by simp)]
 cases h:W.heap[i]? with
 |none=>trivial
 |some o=>
  cases o with
  |cells c t ag=>exact⟨rfl,rfl,rfl,λ_ _=>rfl⟩
  |map es ck=>exact .inr ⟨rfl,rfl⟩
  |_=>rfl
theorem U4{X:Type}{enc:TypeId×Value->X}{W:World}{base:Nat}{sp:Nat->Bool}{held:Bool}:∀{ts:List TypeId} {vs:List Value} {cT:List (DataW X)} {ps:List MemPlace},DataW.TrodAll enc P W base sp held ts vs cT ps->cT.length=ts.length
 |[],vs,cT,ps,h=>by obtain⟨rfl,rfl,rfl⟩:=trodAll_nil h;rfl
 |t::ts,vs,cT,ps,h=>by
  obtain⟨v,AW,d,vu,p,q,rfl,rfl,rfl,h1,ae⟩:=trodAll_cons h
  simp [U4 ae]
open Go.bs
theorem p2.cut{α:Type}{E:dd α}{xs:List α}(h:p2 E H a xs)(k m:Nat):p2 E H (a.map (·.add (k*E.sz))) ((xs.take m).drop k):=by
 rcases h with rfl|⟨b,off,rfl,h⟩
 ·exact .inl (by simp)
 ·refine .inr ⟨b,off+k*E.sz,by simp [l'],λi x aa j v aI=> ?_⟩
  rw [VG,Ep]at aa
  split at aa
  ·have:=h (k+i) x aa j v aI
   rw [A1]at this
   rw [show off+k*E.sz+i*E.sz+j=off+(k*E.sz+i*E.sz)+j by omega]
   exact this
  ·cases aa
theorem bk.cut{α:Type}{E:dd α}{xs:List α}(h:bk E H a n c xs)(hk:k<=m)(hm:m<=n):bk E H (dh c k E.sz a) (m-k) (c-k) ((xs.take m).drop k):=by
 have aH:=h.len
 have ak:=h.cap
 refine⟨by simp;omega,by omega,?_⟩
 rw [v7]
 split
 ·refine .inl (asV (by simp;omega))
 ·exact h.arr.cut k m
theorem bk.drop{α:Type}{E:dd α}{xs:List α}(h:bk E H a n c xs)(hk:k<=n):bk E H (dh c k E.sz a) (n-k) (c-k) (xs.drop k):=by
 have:=h.cut hk (nQ n)
 rwa [asG (by have:=h.len;omega)]at this
theorem bk.take{α:Type}{E:dd α}{xs:List α}(h:bk E H a n c xs)(hm:m<=n):bk E H a m c (xs.take m):=by
 have:=h.cut (apG m) hm
 simpa [dh]using this
theorem bk.zero{α:Type}{E:dd α}:bk E H a 0 c ([]:List α):=⟨rfl,apG _,.inl rfl⟩
theorem bk.head{α:Type}{E:dd α}{x:α}{xs:List α}(h:bk E H a n c (x::xs)){b:Bool}(ah:b=true){X:Addr->Prop}
  (hk:∀al,a=some al->eP H al (E.cells x)->X al):eO a λal=>da b (X al):=by
 obtain⟨fj,off,rfl,ak⟩:=h.arr.at (i:=0) rfl
 subst ah
 refine xJ rfl (cb rfl ?_)
 refine hk _ rfl λj v aI=> ?_
 rw [l']
 simpa using ak j v aI
theorem Own.take{α:Type}{E:dd α}{base:Nat}{xs:List α}(h:Own E t base H a n c xs)(hm:m<=n):Own E t base H a m c (xs.take m):=by
 obtain⟨aH,h⟩:=h
 refine⟨by simp;omega,?_⟩
 rcases h with⟨rfl,rfl,rfl⟩|⟨b,cur,rfl,ah,aq,ak,ev,hs,bf⟩
 ·exact .inl ⟨rfl,by omega,rfl⟩
 ·refine .inr ⟨b,cur,rfl,ah,aq,by omega,ev,hs,?_⟩
  have e:(m*E.sz)<=n*E.sz:=HR _ hm
  have:cur.toList.take (m*E.sz)=(xs.flatMap E.cells).take (m*E.sz):=by rw [<-bf,List.take_take,Nat.min_eq_left e]
  rw [this]
  clear this bf
  induction xs generalizing m n with
  |nil=>simp
  |cons x l ih=>
   cases m with
   |zero=>simp
   |succ m=>
    simp only [Er,asS,A1,Nat.one_mul]
    rw [List.take_append,E.len,asG (by rw [E.len];omega)]
    congr 1
    rw [show m*E.sz+E.sz-E.sz=m*E.sz by omega]
    simp only [asE]at aH
    exact ih (n:=n-1) (m:=m) (by omega) (by omega) (by omega) (HR _ (by omega))
theorem pD{α:Type}{E:dd α}{ty:TypeId}{bytes:Nat}{H0:J}{xs ys:List α}{a2:Option Addr}{K:Option Addr->Nat->Nat->J->Prop}
  (hy:sliceB P ts t=true) (bf:jC P t E.sz bytes=true) (an:Own E t H0.size H a n c xs) (af:Fr [] H0 H) (hs:bk E H a2 m c2 ys) (dC:(n+m)*bytes<=140737488355328)
  (hk:∀aK aQ aT H',Own E t H0.size H' aK aQ aT (xs++ys)->Fr [] H0 H'->Fr (ax a) H H'->K aK aQ aT H'):
  cj P (Builtin.append_ ⟨[ts,ts]⟩ ty ⟨[.slice a n c,.slice a2 m c2]⟩) H λv H'=>∃a n c,v=.slice a n c/\K a n c H':=
 aho hy bf an hs af.size dC λaK aQ aT H' h1 ae=>hk aK aQ aT H' h1 (af.ab ae λk hk=>(an.ge k hk).1) ae
theorem k3{α:Type}{E:dd α}{ty t':TypeId}{bytes:Nat}{H0:J}{xs:List α}(x:α){K:Nat->Option Addr->Nat->Nat->J->Prop}
  (hy:sliceB P ts t=true) (bf:jC P t E.sz bytes=true) (an:Own E t H0.size H a n c xs) (af:Fr [] H0 H) (aI:vs=E.cells x) (dC:(n+1)*bytes<=140737488355328)
  (hk:∀b aK aQ aT H',Own E t H0.size H' aK aQ aT (xs++[x])->Fr [] H0 H'->Fr (ax a) H H'->K b aK aQ aT H'):
  ∀b H1,ds H b (.cells ⟨vs⟩ t') H1->cj P (Builtin.append_ ⟨[ts,ts]⟩ ty ⟨[.slice a n c,.slice (some ⟨b,0,none⟩) 1 1]⟩) H1 λv H'=>∃a n c,v=.slice a n c/\K b a n c H':=λb H1 ay=>
 pD hy bf (an.ab ay.ag) (af.aw ay.ag) (gd E x ay aI) dC λaK aQ aT H' h1 ae au=>hk b aK aQ aT H' h1 ae (ay.ag.trans' au (by simp) (λk hk _=>hk))
theorem Gg{α:Type}{E:dd α}{bytes:Nat}{c:Int}{RZ km:IntKind}{K:Option Addr->Nat->Nat->J->Prop}
  (hy:sliceB P ts t=true) (bf:jC P t E.sz bytes=true) (aD:0<=c) (dC:c.toNat *bytes<=140737488355328)
  (hk:∀b H',Own E t H.size H' (some ⟨b,0,none⟩) 0 c.toNat ([]:List α)->Fr [] H H'->K (some ⟨b,0,none⟩) 0 c.toNat H'):
  cj P (Instr.makeSlice ts (.int RZ 0) (.int km c)) H λv H'=>∃a n c,v=.slice a n c/\K a n c H':=by
 intro gA d
 obtain⟨i,z,az,aC,h1,ae,au,a6,bu⟩:=Ld bf
 have hu:=sA hy
 obtain⟨qu,rfl⟩:∃qu:Nat,c=qu:=⟨c.toNat,by omega⟩
 simp only [asD]at dC hk
 have Cs:qu<=qu*bytes:=asZ _ bu
 have aA:=run_make (P:=P) (a8 gA H d) ts t i z hu az aC RZ km 0 qu (Int.le_refl _) (by omega) (by
  rw [a6,Int.mul_comm,<-Int.natCast_mul];omega) (by omega)
 refine⟨_,_,d,aA,_,_,_,rfl,hk H.size (H.push (.cells (madeCells z.cells (qu*i.size)) t)) ?_ ?_⟩
 ·exact⟨rfl,.inr ⟨H.size,madeCells z.cells (qu*i.size),rfl,nQ _,by simp,apG _,by simp only [maxLen];omega,by rw [size_madeCells,h1],by simp⟩⟩
 ·exact⟨by simp,λk hk _=>by simp [ad7];omega⟩
theorem Gt{α:Type}{E:dd α}{ts ty t base:Nat}{oy:List Value}{xs:List α}{K:J->Prop}
  (hy:sliceB P ts t=true) (aC:zeroOf P t=some (.agg ⟨oy⟩)) (R0:oy.length=E.sz) (sn:∀v∈oy,v.oneCell'=true)
  (an:Own E t base H a n c xs) (hk:k<=n) (cP:∀H',Own E t base H' a k c (xs.take k)->Fr (ax a) H H'->K H'):
  cj P (Builtin.clear_ ⟨[ts]⟩ ty ⟨[.slice (dh c k E.sz a) (n-k) (c-k)]⟩) H λv H'=>v=.tuple #[]/\K H':=by
 intro gA d
 have hu:=sA hy
 have R1:=an.take hk
 by_cases GW:n-k=0
 ·refine⟨_,H,d,?_,rfl,cP H R1 (Fr.refl _ _)⟩
  rw [GW]
  unfold Builtin.clear_
  cases e0:dh c k E.sz a with
  |none=>simp [eE hu]
  |some al=>simp [eE hu]
 ·have hlen:=an.1
  obtain⟨aH,fw⟩:=an
  rcases fw with⟨rfl,aD,h1⟩|⟨b,cur,rfl,ah,aq,ak,hm,hs,bf⟩
  ·omega
  ·rw [v7,if_neg (by omega)]
   simp only [apP,l']
   obtain⟨i,az,ahy⟩:∃i,P.info? t=some i/\i.zero=some (.agg ⟨oy⟩):=by
    unfold zeroOf at aC
    split at aC
    ·exact⟨_,by assumption,aC⟩
    ·cases aC
   have dC:(Builtin.zeroCells (VI ⟨oy⟩).cells (n-k)).toList.length=(n-k)*E.sz:=by
    rw [Eo,size_zeroCells]
    simp [Value.cells,R0]
   have tP:k*E.sz+(n-k)*E.sz<=cur.size:=by
    rw [hs,<-A1]
    exact HR _ (by omega)
   have yQ:∀v∈(Builtin.zeroCells (VI ⟨oy⟩).cells (n-k)).toList,v.oneCell'=true:=by
    intro v aI
    simp only [Builtin.zeroCells,Value.cells,xC,ad6]at aI
    obtain⟨j,_,rfl⟩:=aI
    have bh:=E.pos
    have:j % oy.length<oy.length:=apO _ (by omega)
    have e:(⟨oy⟩:Array Value)[j %(⟨oy⟩:Array Value).size]! =oy[j % oy.length]'this:=by simp [this]
    rw [e]
    exact sn _ (List.getElem_mem _)
   refine⟨_,xo H b (cur.toList.take (k*E.sz)++(Builtin.zeroCells (VI ⟨oy⟩).cells (n-k)).toList++cur.toList.drop (k*E.sz+(n-k)*E.sz)).toArray,d,?_,rfl,cP _ ?_ (RP H b _)⟩
   ·have eg:=run_storeCells_at P b (0+k*E.sz) t (Builtin.zeroCells (VI ⟨oy⟩).cells (n-k)).toList 0 cur (a8 gA H d) aq (by rw [dC];omega) yQ
    unfold Builtin.clear_
    have:∃m,n-k=m+1:=⟨n-k-1,by omega⟩
    obtain⟨m,ev⟩:=this
    rw [ev]at eg dC⊢
    simp only [HQ,MZ]
    simp only [bd,eE hu,bx,zeroValue,typeInfo,program]
    simp only [nR,pure,bx,az,ahy]
    rw [eg,dC]
    simp only [zd,Nat.add_zero]
    rfl
   ·refine⟨by simp;omega,.inr ⟨b,_,rfl,ah,RO aq,by omega,hm,?_,?_⟩⟩
    ·simp only [asA,VH,apH,asH,dC,Eo]
     omega
    ·have ae:(cur.toList.take (k*E.sz)).length=k*E.sz:=by simp;omega
     rw [show(cur.toList.take (k*E.sz)++(Builtin.zeroCells (VI ⟨oy⟩).cells (n-k)).toList++cur.toList.drop (k*E.sz+(n-k)*E.sz)).toArray.toList=cur.toList.take (k*E.sz)++((Builtin.zeroCells (VI ⟨oy⟩).cells (n-k)).toList++cur.toList.drop (k*E.sz+(n-k)*E.sz)) by simp]
     rw [List.take_append_of_le_length (by omega),asG (by omega)]
     obtain⟨_,h|⟨fO,WU,e,_,uG,_,_,_,ahz⟩⟩:=R1
     ·cases h.1
     ·cases e
      rw [aq]at uG
      cases uG
      exact ahz
theorem zZ(al:Addr):al.add 0=al:=by cases al;rfl
theorem qH{α:Type}{E:dd α}{tt:TypeId}{base:Nat}{xs:List α}{i:Int}(x':α){b:Bool}{X:J->Prop}
  (h:Own E t base H a n c xs) (az:i=k) (du:k<n) (ah:b=true) (aI:v.cells.toList=E.cells x') (hs:hV P tt=E.sz) (Dt:(P.info? tt).isSome=true)
  (k':∀H',Own E t base H' a n c (xs.set k x')->Fr (ax a) H H'->X H'):eO a λal=>da b (∃H',fb P tt H (al.add (i.toNat *E.sz)) v H'/\X H'):=by
 have aH:=h.1
 have aa:xs[k]?=some (xs[k]'(by omega)):=by simp
 cases a with
 |none=>
  obtain⟨_,⟨_,aD,_⟩|⟨_,_,e,_⟩⟩:=h
  ·omega
  ·cases e
 |some al=>
  refine xJ rfl (cb ah ?_)
  have hlen:=E.len x'
  have dC:v.cells.size=E.sz:=by rw [<-Eo,aI,hlen]
  have:=Gv (P:=P) (tt:=tt) (j:=0) (x':=x') (v:=v) (X:=X) h rfl az aa (by rw [hs,dC]) Dt (by rw [aI];exact E.one x') (by rw [aI,hlen];omega) (by
   rw [aI,hlen]
   have ae:=E.len (xs[k]'(by omega))
   rw [List.take_zero,as8,List.drop_of_length_le (by omega),as0]) k'
  rwa [zZ]at this
theorem aU.bV(bf:pN P t=false)(h:aU H ⟨b,0,none⟩ vs)(aI:vs[j]?=some v):cR P t H ⟨b,j,none⟩ v:=by
 obtain⟨fO,eZ,e,ah⟩:=h
 cases e
 exact K9 bf ah aI
theorem aU.vf{us:List Value}(bf:rH P t=true)(hs:hV P t=us.length)(h:aU H ⟨b,0,none⟩ vs)(aI:(vs.drop j).take us.length=us):cR P t H ⟨b,j,none⟩ (.agg ⟨us⟩):=by
 obtain⟨fO,eZ,e,ah⟩:=h
 cases e
 exact K' bf hs ah aI
theorem BY{cO:Type}{L:List (cS cO)}(hw:so ck L){x y:cS cO}(aa:x∈L)(av:y∈L)(e:x.2.2=y.2.2):x=y:=by
 have ah:=hw.born
 clear hw
 induction L with
 |nil=>cases aa
 |cons z l ih=>
  simp only [qO,apI]at ah
  rcases o3.1 aa with h1|h1<;>rcases o3.1 av with ae|ae
  ·rw [h1,ae]
  ·exact absurd (by rw [<-h1,e];exact A2 (f:=λx:cS cO=>x.2.2) ae) ah.1
  ·exact absurd (by rw [<-ae,<-e];exact A2 (f:=λx:cS cO=>x.2.2) h1) ah.1
  ·exact ih h1 ae ah.2
theorem zK{cO:Type}{L:List (cS cO)}(hw:so ck L){x y:cS cO}(aa:x∈L)(av:y∈L)(e:x.1=y.1):x=y:=by
 have ah:=hw.keys
 clear hw
 induction L with
 |nil=>cases aa
 |cons z l ih=>
  simp only [qO,apI]at ah
  rcases o3.1 aa with h1|h1<;>rcases o3.1 av with ae|ae
  ·rw [h1,ae]
  ·exact absurd (by rw [<-h1,e];exact A2 (f:=λx:cS cO=>x.1) ae) ah.1
  ·exact absurd (by rw [<-ae,<-e];exact A2 (f:=λx:cS cO=>x.1) h1) ah.1
  ·exact ih h1 ae ah.2
end Go.bs
open Go Go.bs
namespace Go.Proofs
abbrev bj(s:ByteArray):List UInt8:=s.data.toList
variable{s:ByteArray}{i:Nat}
theorem ja{t:ByteArray}(h:bj s=bj t):s=t:=by
 cases s;cases t;simp [bj]at h;exact congrArg apJ (by simpa using h)
theorem c6(s:ByteArray):(bj s).length=s.size:=by cases s;simp [bj,ByteArray.size]
theorem kF(s t:ByteArray):bj (s++t)=bj s++bj t:=by simp [bj]
theorem vc(s:ByteArray)(l h:Nat):bj (s.extract l h)=((bj s).take h).drop l:=by
 simp [bj,ByteArray.data_extract,List.drop_take]
theorem yc(s:ByteArray)(i:Nat):s[i]?=(bj s)[i]?:=by
 cases s with|mk a=>
 show(if h:i<(apJ a).size then some ((apJ a)[i])else none)=_
 simp only [bj]
 by_cases h:i<a.size
 ·have h':i<(apJ a).size:=h
  rw [dif_pos h'];simp [h];rfl
 ·have h':¬i<(apJ a).size:=h
  rw [dif_neg h'];simp;omega
theorem ag3:bj asI=[]:=rfl
theorem va(s:ByteArray)(i:Nat):bl s i<256:=UInt8.toNat_lt _
theorem B3{b:UInt8}(h:s[i]?=some b):bl s i=b.toNat:=by
 have:i<s.size:=by
  rw [yc]at h
  have:=(qb.1 h).1
  rwa [c6]at this
 have ae:s[i]?=some s[i]:=by exact getElem?_pos s i this
 rw [ae]at h
 injection h with h
 subst h
 cases s with|mk a=>
 simp only [bl]
 show(a[i]!).toNat=(a[i]'_).toNat
 rw [getElem!_pos a i this]
theorem ag4(h:i<s.size):∃b:UInt8,s[i]?=some b/\b.toNat=bl s i:=⟨s[i],getElem?_pos s i h,(B3 (getElem?_pos s i h)).symm⟩
def hl(c:Nat):Nat:=if 192<=c/\c<224 then 2 else if 224<=c/\c<240 then 3 else if 240<=c/\c<248 then 4 else 0
def qF(c:Nat):Nat:=if 192<=c/\c<224 then c-192 else if 224<=c/\c<240 then c-224 else if 240<=c/\c<248 then c-240 else 0
def j2(s:ByteArray)(i:Nat):Nat->Nat
 |0=>qF (bl s i)
 |k+1=>j2 s i k*64+bl s (i+(k+1))-128
def gf(s:ByteArray)(i k:Nat):Prop:=128<=bl s (i+k)/\bl s (i+k)<192
instance(s:ByteArray)(i k:Nat):Decidable (gf s i k):=inferInstanceAs (Decidable (_/\_))
def mU(n r:Nat):Prop:=n=2/\r<128\/n=3/\r<2048\/n=4/\r<65536\/r>1114111\/(r>=55296/\r<57344)
instance(n r:Nat):Decidable (mU n r):=inferInstanceAs (Decidable (_\/_))
def gK(s:ByteArray)(i:Nat):Nat:=
 if bl s i<128 then 1 else
 let n:=hl (bl s i)
 if n=0\/s.size<i+n then 0 else
 if∀k,k<n-1->gf s i (k+1)then(if mU n (j2 s i (n-1))then 0 else n)else 0
def sy(c:Nat):Nat:=if c<128 then 1 else if c<2048 then 2 else if 55296<=c/\c<57344 then 0 else if c<65536 then 3 else if c<=1114111 then 4 else 0
theorem ag5{p:Nat->Prop}:(∀k,k<2-1->p k)↔p 0:=⟨λh=>h 0 (by omega),λh k hk=>by
 match k,hk with
 |0,_=>exact h⟩
theorem ag6{p:Nat->Prop}:(∀k,k<3-1->p k)↔p 0/\p 1:=⟨λh=>⟨h 0 (by omega),h 1 (by omega)⟩,λh k hk=>by
 match k,hk with
 |0,_=>exact h.1
 |1,_=>exact h.2⟩
theorem ag7{p:Nat->Prop}:(∀k,k<4-1->p k)↔p 0/\p 1/\p 2:=⟨λh=>⟨h 0 (by omega),h 1 (by omega),h 2 (by omega)⟩,λh k hk=>by
 match k,hk with
 |0,_=>exact h.1
 |1,_=>exact h.2.1
 |2,_=>exact h.2.2⟩
theorem ag8(s:ByteArray)(i:Nat):Utf8.decode s i=
  if bl s i<0x80 then(bl s i,1)
  else if(bl s i/32==6&&(i+1<s.size&&bl s (i+1)/64==2))=true then
   if(bl s i % 32)*64+bl s (i+1) % 64>=0x80 then((bl s i % 32)*64+bl s (i+1) % 64,2)else(0xFFFD,1)
  else if(bl s i/16==14&&(i+1<s.size&&bl s (i+1)/64==2)&&(i+2<s.size&&bl s (i+2)/64==2))=true then
   if((bl s i % 16)*4096+(bl s (i+1) % 64)*64+bl s (i+2) % 64>=0x800&&Utf8.valid (((bl s i % 16)*4096+(bl s (i+1) % 64)*64+bl s (i+2) % 64:Nat):Int))=true then((bl s i % 16)*4096+(bl s (i+1) % 64)*64+bl s (i+2) % 64,3)else(0xFFFD,1)
  else if(bl s i/8==30&&(i+1<s.size&&bl s (i+1)/64==2)&&(i+2<s.size&&bl s (i+2)/64==2)&&(i+3<s.size&&bl s (i+3)/64==2))=true then
   if((bl s i % 8)*262144+(bl s (i+1) % 64)*4096+(bl s (i+2) % 64)*64+bl s (i+3) % 64>=0x10000&&Utf8.valid (((bl s i % 8)*262144+(bl s (i+1) % 64)*4096+(bl s (i+2) % 64)*64+bl s (i+3) % 64:Nat):Int))=true then((bl s i % 8)*262144+(bl s (i+1) % 64)*4096+(bl s (i+2) % 64)*64+bl s (i+3) % 64,4)else(0xFFFD,1)
  else(0xFFFD,1):=by
 unfold Utf8.decode Utf8.runeError
 rfl
def K3(s:ByteArray)(i:Nat)(d:Nat×Nat):Prop:=(gK s i≠0->d.2=gK s i/\sy d.1=d.2)/\(gK s i=0->d.2=1/\d.1=65533)/\(d.1<128->d.1=bl s i/\d.2=1)/\(bl s i<128->d.1=bl s i)/\1<=d.2
theorem tX(c0:¬bl s i<128)(h:gK s i=0):K3 s i (65533,1):=
 ⟨λh'=>absurd h h',λ_=>⟨rfl,rfl⟩,λh=>by have:(65533:Nat)<128:=h;omega,λh=>absurd h c0,nQ _⟩
theorem K4{c w:Nat}(c0:¬bl s i<128)(h:gK s i=w)(hw:2<=w)(ak:sy c=w)(h1:¬c<128):K3 s i (c,w):=
 ⟨λ_=>⟨h.symm,ak⟩,λh'=>by omega,λh=>absurd h h1,λh=>absurd h c0,by show 1<=w;omega⟩
theorem ag9(cr:192<=bl s i/\bl s i<224):gK s i=if s.size<i+2 then 0 else if gf s i 1 then(if(bl s i-192)*64+bl s (i+1)-128<128 then 0 else 2)else 0:=by
 have ay:hl (bl s i)=2:=by unfold hl;rw [if_pos cr]
 have aA:j2 s i 1=(bl s i-192)*64+bl s (i+1)-128:=by simp only [j2,qF,if_pos cr]
 have h1:=va s (i+1)
 unfold gK
 rw [if_neg (by omega)]
 simp only [ay,ag5,zd,asJ,aA]
 by_cases g1:s.size<i+2
 ·rw [if_pos (.inr g1),if_pos g1]
 ·rw [if_neg (by omega),if_neg g1]
  by_cases g2:gf s i 1
  ·rw [if_pos g2,if_pos g2]
   unfold gf at g2
   by_cases g3:(bl s i-192)*64+bl s (i+1)-128<128
   ·rw [if_pos g3,if_pos (.inl ⟨rfl,g3⟩)]
   ·rw [if_neg g3,if_neg (by unfold mU;omega)]
  ·rw [if_neg g2,if_neg g2]
theorem ag'(fG:224<=bl s i/\bl s i<240):gK s i=if s.size<i+3 then 0 else if gf s i 1/\gf s i 2 then(if mU 3 (((bl s i-224)*64+bl s (i+1)-128)*64+bl s (i+2)-128)then 0 else 3)else 0:=by
 have cr:¬(192<=bl s i/\bl s i<224):=by omega
 have ay:hl (bl s i)=3:=by unfold hl;rw [if_neg cr,if_pos fG]
 have aA:j2 s i 2=((bl s i-224)*64+bl s (i+1)-128)*64+bl s (i+2)-128:=by simp only [j2,qF,if_neg cr,if_pos fG]
 unfold gK
 rw [if_neg (by omega)]
 simp only [ay,ag6,zd,asJ,Nat.reduceAdd,aA]
 by_cases g1:s.size<i+3
 ·rw [if_pos (.inr g1),if_pos g1]
 ·rw [if_neg (by omega),if_neg g1]
theorem aha(k5:240<=bl s i/\bl s i<248):gK s i=if s.size<i+4 then 0 else if gf s i 1/\gf s i 2/\gf s i 3 then(if mU 4 ((((bl s i-240)*64+bl s (i+1)-128)*64+bl s (i+2)-128)*64+bl s (i+3)-128)then 0 else 4)else 0:=by
 have cr:¬(192<=bl s i/\bl s i<224):=by omega
 have fG:¬(224<=bl s i/\bl s i<240):=by omega
 have ay:hl (bl s i)=4:=by unfold hl;rw [if_neg cr,if_neg fG,if_pos k5]
 have aA:j2 s i 3=(((bl s i-240)*64+bl s (i+1)-128)*64+bl s (i+2)-128)*64+bl s (i+3)-128:=by simp only [j2,qF,if_neg cr,if_neg fG,if_pos k5]
 unfold gK
 rw [if_neg (by omega)]
 simp only [ay,ag7,zd,asJ,Nat.reduceAdd,aA]
 by_cases g1:s.size<i+4
 ·rw [if_pos (.inr g1),if_pos g1]
 ·rw [if_neg (by omega),if_neg g1]
theorem J1(s:ByteArray)(i:Nat)(az:i<s.size):K3 s i (Utf8.decode s i):=by
 rw [ag8]
 have aD:=va s i
 have h1:=va s (i+1)
 have ae:=va s (i+2)
 have au:=va s (i+3)
 by_cases c0:bl s i<128
 ·rw [if_pos c0]
  have hw:gK s i=1:=by unfold gK;rw [if_pos c0]
  refine⟨λ_=>⟨hw.symm,?_⟩,λh=>by omega,λ_=>⟨rfl,rfl⟩,λ_=>rfl,nQ _⟩
  show sy (bl s i)=1
  unfold sy;rw [if_pos c0]
 rw [if_neg c0]
 by_cases cr:192<=bl s i/\bl s i<224
 ·have hw:=ag9 cr
  have bc:(bl s i/32==6)=true:=by simp;omega
  have bN:(bl s i/16==14)=false:=by simp;omega
  have dP:(bl s i/8==30)=false:=by simp;omega
  simp only [bc,bN,dP,ad1,ad3,oJ,decide_eq_true_eq,beq_iff_eq,if_false,vV]
  by_cases hs:i+1<s.size
  ·rw [if_neg (by omega)]at hw
   by_cases ak:bl s (i+1)/64=2
   ·rw [if_pos ⟨hs,ak⟩]
    rw [if_pos (show gf s i 1 by unfold gf;omega)]at hw
    by_cases ah:bl s i % 32*64+bl s (i+1) % 64>=128
    ·rw [if_pos ah]
     rw [if_neg (by omega)]at hw
     exact K4 c0 hw (by omega) (by unfold sy;rw [if_neg (by omega),if_pos (by omega)]) (by omega)
    ·rw [if_neg ah]
     rw [if_pos (by omega)]at hw
     exact tX c0 hw
   ·rw [if_neg (by omega)]
    rw [if_neg (show¬(gf s i 1) by unfold gf;omega)]at hw
    exact tX c0 hw
  ·rw [if_neg (by omega)]
   rw [if_pos (by omega)]at hw
   exact tX c0 hw
 by_cases fG:224<=bl s i/\bl s i<240
 ·have hw:=ag' fG
  have bc:(bl s i/32==6)=false:=by simp;omega
  have bN:(bl s i/16==14)=true:=by simp;omega
  have dP:(bl s i/8==30)=false:=by simp;omega
  simp only [bc,bN,dP,ad1,ad3,oJ,decide_eq_true_eq,beq_iff_eq,if_false,vV]
  by_cases hs:i+2<s.size
  ·rw [if_neg (by omega)]at hw
   by_cases ak:bl s (i+1)/64=2/\bl s (i+2)/64=2
   ·rw [if_pos ⟨⟨by omega,ak.1⟩,hs,ak.2⟩]
    rw [if_pos (show gf s i 1/\gf s i 2 by unfold gf;omega)]at hw
    generalize aI:bl s i % 16*4096+bl s (i+1) % 64*64+bl s (i+2) % 64=v
    have vt:(v>=2048/\Utf8.valid (v:Int)=true)↔(2048<=v/\(v<55296\/57344<=v)/\v<=1114111):=by
     simp only [Utf8.valid,asy,oJ,decide_eq_true_eq];omega
    by_cases ah:v>=2048/\Utf8.valid (v:Int)=true
    ·rw [if_pos ah]
     rw [vt]at ah
     rw [if_neg (by unfold mU;omega)]at hw
     exact K4 c0 hw (by omega) (by unfold sy;rw [if_neg (by omega),if_neg (by omega),if_neg (by omega),if_pos (by omega)]) (by omega)
    ·rw [if_neg ah]
     rw [vt]at ah
     rw [if_pos (by unfold mU;omega)]at hw
     exact tX c0 hw
   ·rw [if_neg (by omega)]
    rw [if_neg (show¬(gf s i 1/\gf s i 2) by unfold gf;omega)]at hw
    exact tX c0 hw
  ·rw [if_neg (by omega)]
   rw [if_pos (by omega)]at hw
   exact tX c0 hw
 by_cases k5:240<=bl s i/\bl s i<248
 ·have hw:=aha k5
  have bc:(bl s i/32==6)=false:=by simp;omega
  have bN:(bl s i/16==14)=false:=by simp;omega
  have dP:(bl s i/8==30)=true:=by simp;omega
  simp only [bc,bN,dP,ad1,ad3,oJ,decide_eq_true_eq,beq_iff_eq,if_false,vV]
  by_cases hs:i+3<s.size
  ·rw [if_neg (by omega)]at hw
   by_cases ak:bl s (i+1)/64=2/\bl s (i+2)/64=2/\bl s (i+3)/64=2
   ·rw [if_pos ⟨⟨⟨by omega,ak.1⟩,by omega,ak.2.1⟩,hs,ak.2.2⟩]
    rw [if_pos (show gf s i 1/\gf s i 2/\gf s i 3 by unfold gf;omega)]at hw
    generalize aI:bl s i % 8*262144+bl s (i+1) % 64*4096+bl s (i+2) % 64*64+bl s (i+3) % 64=v
    have vt:(v>=65536/\Utf8.valid (v:Int)=true)↔(65536<=v/\v<=1114111):=by
     simp only [Utf8.valid,asy,oJ,decide_eq_true_eq];omega
    by_cases ah:v>=65536/\Utf8.valid (v:Int)=true
    ·rw [if_pos ah]
     rw [vt]at ah
     rw [if_neg (by unfold mU;omega)]at hw
     exact K4 c0 hw (by omega) (by unfold sy;rw [if_neg (by omega),if_neg (by omega),if_neg (by omega),if_neg (by omega),if_pos (by omega)]) (by omega)
    ·rw [if_neg ah]
     rw [vt]at ah
     rw [if_pos (by unfold mU;omega)]at hw
     exact tX c0 hw
   ·rw [if_neg (by omega)]
    rw [if_neg (show¬(gf s i 1/\gf s i 2/\gf s i 3) by unfold gf;omega)]at hw
    exact tX c0 hw
  ·rw [if_neg (by omega)]
   rw [if_pos (by omega)]at hw
   exact tX c0 hw
 have ay:hl (bl s i)=0:=by unfold hl;rw [if_neg cr,if_neg fG,if_neg k5]
 have hw:gK s i=0:=by
  unfold gK
  rw [if_neg c0]
  simp only [ay,true_or,if_true]
 have bc:(bl s i/32==6)=false:=by simp;omega
 have bN:(bl s i/16==14)=false:=by simp;omega
 have dP:(bl s i/8==30)=false:=by simp;omega
 simp only [bc,bN,dP,ad3,vV,if_false]
 exact tX c0 hw
end Go.Proofs
section
open Go.Proofs
variable{H:J}{P:Program}{im rV vU nh:TypeId}{xs:List UInt8}{b:Nat}
namespace Go.bs
def fQ:dd UInt8:=⟨λb=>[.int .u8 b.toNat],1,λ_=>rfl,by decide,λ_ v h=>by simp at h;subst h;rfl⟩
theorem apB(xs:List UInt8):xs.flatMap fQ.cells=xs.map λb=>asK .u8 b.toNat:=by
 induction xs with
 |nil=>rfl
 |cons x l ih=>rw [Er,ih];rfl
theorem apC(s:ByteArray):Lib.strCells s=(bj s).flatMap fQ.cells:=by rw [apB];rfl
def wK(P:Program)(t:TypeId):Bool:=match P.underlying t with|some .string=>true|_=>false
theorem En{t:TypeId}(h:wK P t=true):P.underlying t=some .string:=by
 unfold wK at h
 split at h
 ·assumption
 ·cases h
def HM(P:Program)(t:TypeId):Bool:=match P.info? t with
 |some i=>(match i.zero with|some (.int .u8 z)=>decide (z=0)&&nP i.size 1&&nP i.bytes 1|_=>false)
 |none=>false
theorem Qb{t:TypeId}(h:HM P t=true):∃i,P.info? t=some i/\i.zero=some (.int .u8 0)/\i.size=1/\i.bytes=1:=by
 unfold HM at h
 split at h
 ·rename_i i az
  split at h
  ·rename_i z aC
   simp only [oJ,decide_eq_true_eq]at h
   obtain⟨⟨rfl,h1⟩,ae⟩:=h
   exact⟨i,az,aC,oK h1,oK ae⟩
  ·cases h
 ·cases h
theorem aci{ts zc ty t:TypeId}{base:Nat}{a:Option Addr}{n c:Nat}{s:ByteArray}{K:Option Addr->Nat->Nat->J->Prop}
  (hy:sliceB P ts t=true) (apD:wK P zc=true) (bf:HM P t=true) (an:Own fQ t base H a n c xs) (tY:base<=H.size) (dC:n+s.size<=140737488355328)
  (hk:∀aK aQ aT H',Own fQ t base H' aK aQ aT (xs++bj s)->Fr (ax a) H H'->Grow H (ax a) (ax aK)->K aK aQ aT H'):
  cj P (Builtin.append_ ⟨[ts,zc]⟩ ty ⟨[.slice a n c,.string s]⟩) H λv H'=>∃a n c,v=.slice a n c/\K a n c H':=by
 intro gA d
 obtain⟨i,az,aC,h1,a6⟩:=Qb bf
 have hu:=sA hy
 have aa:=En apD
 have uQ:(a8 gA H d).ownsRow base t 1 (.slice a n c) n (xs.flatMap fQ.cells):=by
  obtain⟨aH,an⟩:=an
  refine⟨by rw [vv,aH];rfl,?_⟩
  rcases an with⟨rfl,rfl,rfl⟩|⟨b,cur,rfl,ah,aq,ak,hm,hs,bf⟩
  ·exact .inl ⟨rfl,rfl⟩
  ·exact .inr ⟨b,c,cur,rfl,ah,aq,ak,hm,hs,bf⟩
 have Dw:n+s.size<=maxLen:=by simp only [maxLen];omega
 have fin:∀gr w',w'.ownsRow base t 1 gr (n+s.size) (xs.flatMap fQ.cells++Lib.strCells s)->(a8 gA H d).grownBy w' (Value.slice a n c).ownBlock->(∀g hP,gr=.slice (some ⟨g,0,none⟩) (n+s.size) hP->g∈ax a\/H.size<=g)->d.1<=w'.drawn→
   ∃H' d',w'=a8 gA H' d'/\∃a n c,gr=.slice a n c/\K a n c H':=by
  intro gr w' l1 aZ vx ll
  refine⟨w'.heap,⟨w'.drawn,VF d.2 ll⟩,?_,?_⟩
  ·have bc:=aZ.os;have bN:=aZ.tape;have dP:=aZ.output
   cases w'
   simp only [a8]at bc bN dP⊢
   subst bc bN dP
   rfl
  ·have lJ:Fr (ax a) H w'.heap:=⟨aZ.size,λk hk ay=>aZ.block k hk (by
    cases a with
    |none=>simp [asg]
    |some al=>simp only [asg,ne_eq,Option.some.injEq];intro e;exact ay (by simp [ax,e]))⟩
   rw [apC,<-asY]at l1
   obtain⟨hlen,l1⟩:=l1
   have Le:n+s.size=(xs++bj s).length:=by rw [VH,<-an.1,c6]
   rcases l1 with⟨rfl,aD⟩|⟨g,cap,cur,rfl,ah,aq,ak,hm,hF,e8⟩
   ·exact⟨none,0,0,rfl,hk none 0 0 w'.heap ⟨by omega,.inl ⟨rfl,rfl,rfl⟩⟩ lJ (λ_ h=>by cases h)⟩
   ·exact⟨_,_,_,rfl,hk _ _ _ w'.heap ⟨Le,.inr ⟨g,cur,rfl,ah,aq,ak,hm,hF,e8⟩⟩ lJ (λk hk=>by simp [ax]at hk;subst hk;exact vx _ _ rfl)⟩
 obtain⟨gr,w',aA,l1,aZ,Rl⟩:=Lib.run_append_own_string (P:=P) (a8 gA H d) base ts zc ty t i hu aa az aC h1 a6 _ n _ uQ s Dw dC tY
 have vx:(∀g hP,gr=.slice (some ⟨g,0,none⟩) (n+s.size) hP->g∈ax a\/H.size<=g)/\d.1<=w'.drawn:=by
  obtain⟨gE,⟨rfl,rfl,rfl⟩|⟨b,cur,rfl,ah,aq,ak,hm,hF,e8⟩⟩:=id an
  ·by_cases jl:s.size=0
   ·have gR:(Builtin.append_ #[ts,zc] ty #[.slice none 0 0,.string s]).run P (a8 gA H d)=.ok (.slice none 0 0) (a8 gA H d):=by
     have af:=Lib.run_firstCells_string (P:=P) (a8 gA H d) 1 s
     rw [jl]at af
     simp [Builtin.append_,eE hu,eE aa,mC az,h1,Builtin.lenOf,jl,af]
    rw [aA]at gR
    injection gR with bc bN
    refine⟨λg hP aI=> ?_,by rw [bN];exact nQ _⟩
    rw [aI]at bc
    cases bc
   ·have gR:=run_append_nil_string (P:=P) (a8 gA H d) ts zc ty t i (.int .u8 0) hu aa az aC s (by omega) (by omega) (by rw [a6];omega)
    rw [aA]at gR
    injection gR with bc bN
    refine⟨λg hP aI=> ?_,by rw [bN];exact ash _⟩
    rw [aI]at bc
    injection bc with bc
    injection bc with bc
    injection bc with bc
    exact .inr (apF bc.symm)
  ·by_cases wz:n+s.size<=c
   ·have gR:=Lib.run_append_room_string (P:=P) (a8 gA H d) ts zc ty t i hu aa az h1 b n c cur aq s wz (by rw [hF];show n+s.size<=c*1;omega)
    rw [aA]at gR
    injection gR with bc bN
    refine⟨λg hP aI=> ?_,by rw [bN];exact nQ _⟩
    rw [aI]at bc
    injection bc with bc
    injection bc with bc
    injection bc with bc
    exact .inl (by simp [ax,bc])
   ·have holds:∀j u,(xs.flatMap fQ.cells)[j]?=some u->(a8 gA H d).cell? ((⟨b,0,none⟩:Addr).add j)=some u:=uQ.cells (g:=b) rfl
    have gR:=Lib.run_append_grow_string (P:=P) (a8 gA H d) ts zc ty t i (.int .u8 0) hu aa az aC ⟨b,0,none⟩ n c (xs.flatMap fQ.cells) (by rw [vv,gE,h1];rfl) holds s (by omega) (by omega) (by rw [a6];exact growslice_fits (by omega) (by omega))
    rw [aA]at gR
    injection gR with bc bN
    refine⟨λg hP aI=> ?_,by rw [bN];exact ash _⟩
    rw [aI]at bc
    injection bc with bc
    injection bc with bc
    injection bc with bc
    exact .inr (apF bc.symm)
 obtain⟨H',d',hw,cP⟩:=fin gr w' l1 aZ vx.1 vx.2
 subst hw
 exact⟨gr,H',d',aA,cP⟩
theorem JZ{t:TypeId}{s:ByteArray}{K:Option Addr->J->Prop}(bf:wK P t=true)
  (hk:∀b H',H.size<=b->H'[b]?=some (.stringIter s 0)->Fr [] H H'->K (some ⟨b,0,none⟩) H'):
  cj P (Instr.range t (.string s)) H λv H'=>∃a,v=.pointer a/\K a H':=by
 intro E d
 have hu:=En bf
 refine⟨.pointer (some ⟨H.size,0,none⟩),H.push (.stringIter s 0),d,?_,_,rfl,hk _ _ (nQ _) (by simp) ⟨by simp,λk hk _=>by simp [ad7,asL hk]⟩⟩
 simp [Instr.range,eE hu,a8]
 rfl
theorem Ca(H:J)(o:Obj):Fr [] H (H.push o):=⟨by simp,λk hk _=>by simp [ad7,asL hk]⟩
theorem MN(H:J)(r:Nat)(o:Obj):Fr [r] H (H.setIfInBounds r o):=⟨by simp,λk hk ay=>by
 have:r≠k:=λe=>ay (by simp [e])
 simp [this]⟩
theorem J0{ty:TypeId}{s:ByteArray}{r pos:Nat}{X:Value->J->Prop}(h:H[r]?=some (.stringIter s pos))
  (aD:s.size<=pos->X (.tuple ⟨[.bool false]⟩) H)
  (h1:pos<s.size->∀H',H'[r]?=some (.stringIter s (pos+(Utf8.decode s pos).2))->Fr [r] H H'->X (.tuple ⟨[.bool true,.int .i64 pos,.int .i32 (Utf8.decode s pos).1]⟩) H'):
  cj P (Instr.next (.pointer (some ⟨r,0,none⟩)) true ty) H X:=by
 intro E d
 have aA:(a8 E H d).heap[r]?=some (.stringIter s pos):=h
 have cF:=k2 h
 by_cases bh:pos<s.size
 ·refine⟨_,H.setIfInBounds r (.stringIter s (pos+(Utf8.decode s pos).2)),d,?_,h1 bh _ (by simp [cF]) (MN _ _ _)⟩
  have hs':r<(a8 E H d).heap.size:=cF
  simp [Instr.next,getObj,setObj,nR,aA,bh,goInt]
  simp [a8]
 ·refine⟨_,H,d,?_,aD (by omega)⟩
  simp [Instr.next,getObj,nR,aA,bh]
theorem B0{src dst e:TypeId}{s:ByteArray}{K:Option Addr->Nat->Nat->J->Prop}(hs:wK P src=true)(aO:sliceB P dst e=true)(he:P.underlying e=some (.int .u8))
  (hk:∀b c H',H.size<=b->bk fQ H' (some ⟨b,0,none⟩) s.size c (bj s)->Fr [] H H'->K (some ⟨b,0,none⟩) s.size c H'):
  cj P (convert src dst (.string s)) H λv H'=>∃a n c,v=.slice a n c/\K a n c H':=by
 intro E d
 have aA:=run_bytes_of_string (P:=P) (a8 E H d) src dst e s (En hs) (sA aO) he
 have gH:s.size<=grownCap (a8 E H d) s.size 0 e:=by simpa using grownCap_ge (a8 E H d) s.size 0 e
 refine⟨_,H.push (.cells (bytesRow s (grownCap (a8 E H d) s.size 0 e)) e ((bytesRow s (grownCap (a8 E H d) s.size 0 e)).size,(bytesRow s (grownCap (a8 E H d) s.size 0 e)).size+1)),⟨d.1+1,asN d.2⟩,aA,_,_,_,rfl,?_⟩
 refine hk H.size _ _ (nQ _) ⟨(c6 s).symm,gH,.inr ⟨H.size,0,rfl,λi x aa j v aI=> ?_⟩⟩ ⟨by simp,λk hk _=>by simp [ad7,asL hk]⟩
 have a':j=0/\v=.int .u8 x.toNat:=by
  match j,aI with
  |0,aI=>exact⟨rfl,by simpa [fQ]using aI.symm⟩
  |j+1,aI=>simp [fQ]at aI
 obtain⟨rfl,rfl⟩:=a'
 have az:i<s.data.size:=by
  have:=(qb.1 aa).1
  simpa using this
 unfold hM
 simp only [Array.getElem?_push_size]
 simp only [as9,vV,if_false,bytesRow]
 have eF:s.data[i]?=some x:=by simpa using aa
 rw [show 0+i*fQ.sz+0=i by show 0+i*1+0=i;omega,Array.getElem?_append_left (by simpa using az),Array.getElem?_map,eF]
 rfl
theorem Vy:∀(HN:List UInt8) (s:ByteArray),(HN.map λb=>(b.toNat:Int)).foldl (λr n=>r.push (apK n.toNat)) s=s++⟨HN.toArray⟩
 |[],s=>by apply ja;simp [bj]
 |b::HN,s=>by
  rw [qO,asn,Vy HN]
  apply ja
  simp [bj,ByteArray.push]
theorem zN{src dst e:TypeId}{a:Option Addr}{n c:Nat}{K:ByteArray->J->Prop}(hs:sliceB P src e=true)(aO:wK P dst=true)(he:P.underlying e=some (.int .u8))
  (aa:bk fQ H a n c xs) (hk:K ⟨xs.toArray⟩ H):
  cj P (convert src dst (.slice a n c)) H λv H'=>∃s,v=.string s/\K s H':=by
 intro E d
 cases a with
 |none=>
  have:xs=[]:=by
   rcases aa.arr with h|⟨b,off,e,_⟩
   ·exact h
   ·cases e
  subst this
  refine⟨.string .empty,H,d,?_,_,rfl,hk⟩
  simp [convert,eE (sA hs),eE (En aO),eE he,Conv.bytesToString]
 |some al=>
  have aH:=aa.len
  have apE:(loadCells al n).run P (a8 E H d)=.ok ((xs.map λb=>(b.toNat:Int)).map (asK .u8)).toArray (a8 E H d):=by
   rw [List.map_map]
   have dG:∀(j:Nat) (u:Value),(xs.map λb=>asK .u8 (b.toNat:Int))[j]?=some u->(a8 E H d).cell? (al.add j)=some u:= ?_
   ·have aD:=run_loadCells_list (P:=P) (a8 E H d) al _ dG
    rw [List.length_map,<-aH]at aD
    exact aD
   intro j u hu
   obtain⟨x,b0,rfl⟩:∃x,xs[j]?=some x/\u=.int .u8 x.toNat:=by
    rw [apN,Option.map_eq_some_iff]at hu
    obtain⟨x,h1,ae⟩:=hu
    exact⟨x,h1,ae.symm⟩
   obtain⟨b,off,bc,ak⟩:=aa.arr.at b0
   simp only [Option.some.injEq]at bc
   subst bc
   have:=ak 0 _ rfl
   rw [show off+j*fQ.sz+0=off+j by show off+j*1+0=off+j;omega]at this
   rw [xn,l']
   exact this
  have ah:=run_bytesToString (P:=P) (a8 E H d) al n c _ apE
  rw [Vy]at ah
  have fC:asI++⟨xs.toArray⟩=(⟨xs.toArray⟩:ByteArray):=by apply ja;simp [bj]
  rw [fC]at ah
  refine⟨_,H,d,?_,_,rfl,hk⟩
  simp [convert,eE (sA hs),eE (En aO),eE he,ah]
def l4(im:TypeId)(H:J)(b:Nat)(S:List Nat)(xs:List UInt8):Prop:=
 ∃p o n c eZ,H[b]?=some (.cells ⟨[.pointer p,.slice o n c]⟩ eZ (0,0))/\((p=none/\eZ=im)\/p=some ⟨b,0,none⟩)/\Own fQ 5 0 H o n c xs/\S=b::ax o/\b∉ax o
theorem l4.ag{H':J}{S T:List Nat}(h:l4 im H b S xs)(af:Fr T H H')(aO:∀k∈S,k∉T):l4 im H' b S xs:=by
 obtain⟨p,o,n,c,eZ,h1,au,a6,rfl,ca⟩:=h
 exact⟨p,o,n,c,eZ,af.get h1 (aO _ (by simp)),au,a6.ag af (λal e=>aO _ (by simp [e,ax])),rfl,ca⟩
theorem l4.ab{H':J}{S:List Nat}(h:l4 im H b S xs)(af:Fr [] H H'):l4 im H' b S xs:=h.ag af (by simp)
theorem l4.lt{S:List Nat}(h:l4 im H b S xs):∀k∈S,k<H.size:=by
 obtain⟨p,o,n,c,eZ,h1,au,a6,rfl,ca⟩:=h
 intro k hk
 rcases o3.1 hk with rfl|hk
 ·exact k2 h1
 ·exact(a6.ge k hk).2
theorem l4.new{H':J}(h:ds H b (.cells ⟨[.pointer none,.slice none 0 0]⟩ im) H'):l4 im H' b [b] []:=
 ⟨none,none,0,0,im,h.get,.inl ⟨rfl,rfl⟩,Own.nil _ _ _ _,rfl,by simp [ax]⟩
theorem HO{w:World}{r:Nat}{cs:Array Value}{t:TypeId}{oQ:Nat×Nat}(h:w.heap[r]?=some (.cells cs t oQ)):w.shape? r=some (t,cs.size):=by
 unfold World.shape?;rw [h]
structure CJ(P:Program)(im oI s4 rV vU nh:TypeId):Prop where
 ptr:P.underlying oI=some (.pointer im)
 uns:P.underlying s4=some .unsafePointer
 sz:hV P im=2
 inf:(P.info? im).isSome=true
 lies:liesAt P P.depth im (2/P.cellsOf im) 0 im 1=true
 bL:sliceB P rV 5=true
 str:wK P vU=true
 byte:HM P 5=true
 dw:P.underlying nh=some (.pointer 5)
 c5:P.cellsOf 5=1
 fD:hV P oI=1
 pi:(P.info? oI).isSome=true
 s1:hV P rV=1
 si:(P.info? rV).isSome=true
 ap:pN P oI=false
 sx:pN P rV=false
theorem acd{oI s4:TypeId}(T:CJ P im oI s4 rV vU nh){cs:Array Value}{oQ:Nat×Nat}{X:Value->J->Prop}(h1:H[b]?=some (.cells cs im oQ))(hF:cs.size=2)
  (hk:X (.pointer (some ⟨b,0,none⟩)) H):cj P (convert oI s4 (.pointer (some ⟨b,0,none⟩))) H X:=by
 intro E d
 have hs:=T.sz
 unfold hV at hs
 split at hs
 ·rename_i i az
  exact⟨_,H,d,Lib.run_to_unsafe (a8 E H d) ⟨b,0,none⟩ T.ptr T.uns az (by omega) (HO h1) (by rw [hF];exact Nat.zero_lt_succ 1),hk⟩
 ·cases hs
theorem ace{oI s4:TypeId}(T:CJ P im oI s4 rV vU nh){cs:Array Value}{oQ:Nat×Nat}{K:Option Addr->J->Prop}(h1:H[b]?=some (.cells cs im oQ))(hF:cs.size=2)
  (hk:K (some ⟨b,0,none⟩) H):cj P (convert s4 oI (.pointer (some ⟨b,0,none⟩))) H λv H'=>∃a,v=.pointer a/\K a H':=by
 intro E d
 have hs:=T.sz
 unfold hV at hs
 split at hs
 ·rename_i i az
  exact⟨_,H,d,Lib.run_from_unsafe (a8 E H d) ⟨b,0,none⟩ T.uns T.ptr az (HO h1) (by rw [hF];exact T.lies),_,rfl,hk⟩
 ·cases hs
theorem acf{oI s4:TypeId}(T:CJ P im oI s4 rV vU nh)(al:Addr)(x y:Nat):hD P (gm .neq oI (.tmp x) (.tmp y) (.pointer (some al)) (.pointer (some al))) (.bool false):=by
 intro w
 have hs:=T.sz
 unfold hV at hs
 split at hs
 ·rename_i i az
  have ae:=Lib.run_neq_ptr_same (P:=P) w al T.ptr az
  have aZ:eqGuard .neq oI (.tmp x) (.tmp y) (.pointer (some al)) (.pointer (some al))=pure ():=rfl
  unfold gm
  rw [aZ]
  simpa using ae
 ·cases hs
theorem ab'{k:FuncId}{fn:Func}{e:Array Value->Sem Value}{args:Array Value}{v:Value}{K:Value->J->Prop}(af:P.funcs[k]?=some fn)(IT:(fn.name== "runtime.NumGoroutine")=false)
  (ah:fn.body.isNone=true) (ay:Extern.findNext fn=none) (he:Extern.find fn=some e) (aA:∀w:World,(e args).run P w=.ok v w) (hk:K v H):qP P k args H K:=by
 intro E d
 refine⟨v,H,d,?_,hk⟩
 rw [run_callFunc_extern af IT ah ay he,aA]
 rfl
theorem aco{oI s4:TypeId}(T:CJ P im oI s4 rV vU nh){it sty:TypeId}{o:Option Addr}{n c:Nat}{K L:J->Prop}{ts:Array TypeId}(an:Own fQ 5 0 H o n c xs)
  (ay:n<=140737488355328) (gF:∀H',Fr [] H H'->L H') (hk:∀H',Fr (ax o) H H'->K H'):
  cj P (Builtin.unsafeSliceData_ ts nh ⟨[.slice o n c]⟩) H λv H'=>∃a,v=.pointer a/\L H'/\cj P (Builtin.unsafeString_ ⟨[nh,it]⟩ sty ⟨[.pointer a,.int .i64 n]⟩) H' λv H'=>∃s,v=.string s/\s=⟨xs.toArray⟩/\K H':=by
 intro E d
 obtain⟨aH,⟨rfl,rfl,rfl⟩|⟨g,cur,rfl,ah,aq,ak,hm,hF,e8⟩⟩:=an
 ·refine⟨_,H,d,Lib.run_unsafeSliceData_nil (a8 E H d) ts nh 0 0,_,rfl,gF H (Fr.refl _ _),?_⟩
  intro E d
  have:xs=[]:=asF aH.symm
  subst this
  exact⟨_,H,d,Lib.run_unsafeString_none (a8 E H d) nh it sty none,_,rfl,rfl,hk H (Fr.refl _ _)⟩
 ·have ko:∀j x,xs[j]?=some x->hM H ⟨g,j,none⟩=some (.int .u8 x.toNat):=by
   intro j x aa
   have h1:=wJ fQ xs j x aa 0 _ rfl
   rw [<-e8,Ep]at h1
   split at h1
   ·unfold hM
    rw [aq]
    simp only [as9,vV,if_false]
    rw [<-Array.getElem?_toList]
    rw [show j*fQ.sz+0=j by show j*1+0=j;omega]at h1
    exact h1
   ·cases h1
  by_cases vI:c=0
  ·subst vI
   have ns:n=0:=by omega
   subst ns
   have:xs=[]:=asF aH.symm
   subst this
   refine⟨_,H.push (.view ⟨g,0,none⟩ 5),d,Lib.run_unsafeSliceData_zero (a8 E H d) ts nh 5 T.dw ⟨g,0,none⟩ 0 _ (HO aq),_,rfl,gF _ (Ca _ _),?_⟩
   intro E d
   exact⟨_,_,d,Lib.run_unsafeString_none (a8 E _ d) nh it sty _,_,rfl,rfl,hk _ ((Ca _ _).mono (by simp))⟩
  ·refine⟨_,H,d,Lib.run_unsafeSliceData_row (a8 E H d) ts nh ⟨g,0,none⟩ n c vI,_,rfl,gF H (Fr.refl _ _),?_⟩
   intro E d
   by_cases ns:xs=[]
   ·subst ns
    have:n=0:=aH
    subst this
    exact⟨_,H,d,Lib.run_unsafeString_none (a8 E H d) nh it sty _,_,rfl,rfl,hk H (Fr.refl _ _)⟩
   ·have aA:=Lib.run_unsafeString_row (P:=P) (a8 E H d) nh it sty 5 T.dw T.c5 g cur.size (HO aq) xs ns (by rw [hF,<-aH];show n<=c*1;omega) (by rw [<-aH];omega) (λj x aa=>by rw [xn,l',zd];exact ko j x aa)
    rw [<-aH]at aA
    refine⟨_,((a8 E H d).freeze ⟨g,0,none⟩ n).heap,d,aA.trans ?_,_,rfl,rfl,hk _ ?_⟩
    ·unfold World.freeze
     split<;>rfl
    ·unfold World.freeze
     split
     ·exact Fr.refl _ _
     ·exact⟨by simp [a8],λk hk cH=>by
       have:g≠k:=λe=>cH (by simp [ax,e])
       simp [a8,asC,this]⟩
end Go.bs
end
namespace Go.Proofs
theorem zV(s:ByteArray):s.toList=bj s:=ByteArray.toList_eq s
theorem q6(s t:ByteArray):(s.toList==t.toList)=decide (s=t):=by
 rw [zV,zV]
 by_cases h:s=t
 ·subst h;simp
 ·have:¬bj s=bj t:=λe=>h (ja e)
  simp only [h,decide_false,beq_eq_false_iff_ne,ne_eq];exact this
theorem Rz:∀l:List UInt8,Op.bytesLess l l=false
 |[]=>rfl
 |a::l=>by
  unfold Op.bytesLess
  simp [Rz l]
theorem K5(a b:UInt8)(x y:List UInt8):Op.bytesLess (a::x) (b::y)=true↔a<b\/a=b/\Op.bytesLess x y=true:=by
 rw [Op.bytesLess];simp
theorem RA:∀{x y z:List UInt8},Op.bytesLess x y=true->Op.bytesLess y z=true->Op.bytesLess x z=true
 |[],_,[],h1,ae=>by cases‹List UInt8›<;>simp [Op.bytesLess]at ae
 |[],_,_::_,_,_=>rfl
 |_::_,[],_,h1,_=>by simp [Op.bytesLess]at h1
 |_::_,_::_,[],_,ae=>by simp [Op.bytesLess]at ae
 |a::x,b::y,c::z,h1,ae=>by
  rw [K5]at h1 ae⊢
  rcases h1 with h1|⟨rfl,h1⟩
  ·rcases ae with ae|⟨rfl,ae⟩
   ·exact .inl (UInt8.lt_trans h1 ae)
   ·exact .inl h1
  ·rcases ae with ae|⟨rfl,ae⟩
   ·exact .inl ae
   ·exact .inr ⟨rfl,RA h1 ae⟩
theorem RB:∀x y:List UInt8,Op.bytesLess x y=false->Op.bytesLess y x=false->x=y
 |[],[],_,_=>rfl
 |[],_::_,h,_=>by simp [Op.bytesLess]at h
 |_::_,[],_,h=>by simp [Op.bytesLess]at h
 |a::x,b::y,h1,ae=>by
  have g1:¬(a<b\/a=b/\Op.bytesLess x y=true):=λh=>by rw [<-K5]at h;rw [h]at h1;cases h1
  have g2:¬(b<a\/b=a/\Op.bytesLess y x=true):=λh=>by rw [<-K5]at h;rw [h]at ae;cases ae
  have qB:a=b:=by
   rcases ata (a:=a) (b:=b)|>λf=>Classical.em (a=b)with h|h
   ·exact h
   ·rcases ata h with h|h
    ·exact absurd (.inl h) g1
    ·exact absurd (.inl h) g2
  subst qB
  rw [RB x y (by cases aq:Op.bytesLess x y with|false=>rfl|true=>exact absurd (.inr ⟨rfl,aq⟩) g1) (by cases aq:Op.bytesLess y x with|false=>rfl|true=>exact absurd (.inr ⟨rfl,aq⟩) g2)]
def jn(s t:ByteArray):Bool:=Op.bytesLess (bj s) (bj t)
theorem acY(s t:ByteArray):Op.bytesLess s.toList t.toList=jn s t:=by rw [zV,zV];rfl
theorem CN(s:ByteArray):jn s s=false:=Rz _
variable{s:ByteArray}
theorem RC{t u:ByteArray}(h:jn s t=true)(h':jn t u=true):jn s u=true:=RA h h'
theorem ac0{t:ByteArray}(h:jn s t=false)(h':jn t s=false):s=t:=ja (RB _ _ h h')
theorem acZ{t:ByteArray}(h:jn s t=true):jn t s=false:=by
 cases h':jn t s with
 |false=>rfl
 |true=>have:=RC h h';rw [CN]at this;cases this
theorem ac3:jn asI s=decide (s.size≠0):=by
 unfold jn
 have:=c6 s
 rw [ag3]
 cases h:bj s with
 |nil=>rw [h]at this;simp at this;simp [Op.bytesLess,<-this]
 |cons a l=>rw [h]at this;simp at this;simp [Op.bytesLess,<-this]
def mT(c:Nat):Prop:=97<=c/\c<=122
def nF(c:Nat):Prop:=(97<=c/\c<=122)\/(48<=c/\c<=57)\/c=95
instance(c:Nat):Decidable (mT c):=inferInstanceAs (Decidable (_/\_))
instance(c:Nat):Decidable (nF c):=inferInstanceAs (Decidable (_\/_))
def kX(s:ByteArray):Prop:=1<=s.size/\s.size<=16/\mT (bl s 0)/\∀i,i<s.size->nF (bl s i)
instance(s:ByteArray):Decidable (kX s):=inferInstanceAs (Decidable (_/\_))
theorem J3{i:Nat}(az:i<s.size):i+gK s i<=s.size:=by
 unfold gK
 by_cases h1:bl s i<128
 ·rw [if_pos h1];omega
 rw [if_neg h1]
 simp only
 by_cases ae:hl (bl s i)=0\/s.size<i+hl (bl s i)
 ·rw [if_pos ae];omega
 rw [if_neg ae]
 by_cases au:∀k,k<hl (bl s i)-1->gf s i (k+1)
 ·rw [if_pos au]
  by_cases a6:mU (hl (bl s i)) (j2 s i (hl (bl s i)-1))
  ·rw [if_pos a6];omega
  ·rw [if_neg a6];omega
 ·rw [if_neg au];omega
def mj(s:ByteArray)(i:Nat):Bool:=
 if h:i<s.size then(if ae:gK s i=0 then false else mj s (i+gK s i))else true
termination_by s.size-i
theorem J2{i:Nat}(h:s.size<=i):mj s i=true:=by
 rw [mj,dif_neg (by omega)]
theorem P8{i:Nat}(h:i<s.size)(ae:gK s i=0):mj s i=false:=by
 rw [mj,dif_pos h,dif_pos ae]
theorem P9{i:Nat}(h:i<s.size)(ae:gK s i≠0):mj s i=mj s (i+gK s i):=by
 rw [mj,dif_pos h,dif_neg ae]
def kY(s:ByteArray):Prop:=s.size<=32/\mj s 0=true
instance(s:ByteArray):Decidable (kY s):=inferInstanceAs (Decidable (_/\_))
theorem GQ(s:ByteArray)(l i:Nat)(h:l+i<s.size):bl (s.extract l s.size) i=bl s (l+i):=by
 obtain⟨b,ah,he⟩:=ag4 h
 have:(s.extract l s.size)[i]?=some b:=by
  rw [yc,vc,<-c6,asM,VG,<-yc,ah]
 rw [B3 this,he]
theorem vd(s:ByteArray)(l:Nat):(s.extract l s.size).size=s.size-l:=by
 rw [<-c6,vc,asH,apH,c6];omega
theorem acW(s:ByteArray)(l i:Nat)(h:l+i<s.size):gK (s.extract l s.size) i=gK s (l+i):=by
 unfold gK
 rw [GQ s l i h,vd]
 by_cases h1:bl s (l+i)<128
 ·rw [if_pos h1,if_pos h1]
 rw [if_neg h1,if_neg h1]
 simp only
 by_cases ae:hl (bl s (l+i))=0\/s.size<l+i+hl (bl s (l+i))
 ·rw [if_pos ae,if_pos (by omega)]
 rw [if_neg ae,if_neg (by omega)]
 have RD:∀k,k<hl (bl s (l+i))-1->(gf (s.extract l s.size) i (k+1)↔gf s (l+i) (k+1)):=λk hk=>by
  unfold gf
  rw [GQ s l _ (by omega),show l+(i+(k+1))=l+i+(k+1) by omega]
 have Gi:∀k,k<=hl (bl s (l+i))-1->j2 (s.extract l s.size) i k=j2 s (l+i) k:=λk=>by
  induction k with
  |zero=>intro _;simp only [j2];rw [GQ s l i h]
  |succ k ih=>intro hk;simp only [j2];rw [ih (by omega),GQ s l _ (by omega),show l+(i+(k+1))=l+i+(k+1) by omega]
 rw [Gi _ (nQ _)]
 by_cases au:∀k,k<hl (bl s (l+i))-1->gf s (l+i) (k+1)
 ·rw [if_pos au,if_pos λk hk=>(RD k hk).2 (au k hk)]
 ·rw [if_neg au,if_neg λh=>au λk hk=>(RD k hk).1 (h k hk)]
theorem acX(s:ByteArray)(l i:Nat)(h:l+i<=s.size):(s.extract l s.size).extract i (s.extract l s.size).size=s.extract (l+i) s.size:=by
 apply ja
 rw [vc,vc,vc,vd,<-c6,asM,<-asH (i:=l) (l:=bj s),asM,List.drop_drop]
def cD(n:Nat):List UInt8:=if h:n<128 then [apK n]else apK (n % 128+128)::cD (n/128)
termination_by n
theorem qp{n:Nat}(h:n<128):cD n=[apK n]:=by rw [cD,dif_pos h]
theorem Ad{n:Nat}(h:¬n<128):cD n=apK (n % 128+128)::cD (n/128):=by rw [cD,dif_neg h]
theorem CK:∀(k n:Nat),n<128^(k+1)->(cD n).length<=k+1
 |0,n,h=>by rw [qp (by omega)];simp
 |k+1,n,h=>by
  by_cases h1:n<128
  ·rw [qp h1];simp
  ·rw [Ad h1,asE]
   have:=CK k (n/128) (by rw [Nat.div_lt_iff_lt_mul (by omega)];rw [Nat.pow_succ]at h;exact h)
   omega
theorem K6(n:Nat):1<=(cD n).length:=by
 by_cases h1:n<128
 ·rw [qp h1];simp
 ·rw [Ad h1];simp
def cx(s:ByteArray):List UInt8:=cD s.size++bj s
theorem RE{t:ByteArray}{x y:List UInt8}(hs:s.size<128)(bf:t.size<128)(h:cx s++x=cx t++y):s=t/\x=y:=by
 unfold cx at h
 rw [qp hs,qp bf]at h
 simp only [asx,as8,List.cons.injEq]at h
 have e:s.size=t.size:=by
  have h1:=congrArg UInt8.toNat h.1
  simp only [UInt8.toNat_ofNat']at h1
  omega
 have:=List.append_inj h.2 (by rw [c6,c6,e])
 exact⟨ja this.1,this.2⟩
abbrev gT:=ByteArray×ByteArray
def BK(l:List gT):Prop:=∀i x y,l[i]?=some x->l[i+1]?=some y->jn x.1 y.1=true
def pB(x:gT):Prop:=kX x.1/\kY x.2/\1<=x.2.size
def fE(l:List gT):Prop:=l.length<=8/\(∀x∈l,pB x)/\BK l
def hr(l:List gT):List UInt8:=l.flatMap λx=>cx x.1++cx x.2
theorem RF:∀{l m:List gT},(∀x∈l,pB x)->(∀x∈m,pB x)->hr l=hr m->l=m
 |[],[],_,_,_=>rfl
 |[],y::m,_,_,h=>by
  exfalso
  have:=congrArg List.length h
  simp only [hr,Er,atb,VH,atc,cx]at this
  have:=K6 y.1.size
  omega
 |x::l,[],_,_,h=>by
  exfalso
  have:=congrArg List.length h
  simp only [hr,Er,atb,VH,atc,cx]at this
  have:=K6 x.1.size
  omega
 |x::l,y::m,aH,hm,h=>by
  have aa:=aH x (by simp)
  have av:=hm y (by simp)
  unfold pB kX kY at aa av
  simp only [hr,Er,ar8]at h
  obtain⟨bc,h⟩:=RE (by omega) (by omega) h
  obtain⟨bN,h⟩:=RE (by omega) (by omega) h
  rw [RF (λz aC=>aH z (by simp [aC])) (λz aC=>hm z (by simp [aC])) h]
  rw [Prod.ext bc bN]
def ot(b:UInt8):List UInt8:=if b=34 then [92,34]else if b=92 then [92,92]else if b=10 then [92,110]else [b]
def ln(v:List UInt8):List UInt8:=v.flatMap ot
def pV(v:List UInt8):List UInt8:=34::ln v++[34]
theorem adj(b:UInt8)(v:List UInt8):ln (b::v)=ot b++ln v:=by simp [ln]
theorem adl(u v:List UInt8):ln (u++v)=ln u++ln v:=by simp [ln]
theorem adk(b:UInt8):(ot b=[b]/\b≠34/\b≠92/\b≠10)\/(b=34/\ot b=[92,34])\/(b=92/\ot b=[92,92])\/(b=10/\ot b=[92,110]):=by
 unfold ot
 by_cases h1:b=34
 ·subst h1;simp
 by_cases ae:b=92
 ·subst ae;simp
 by_cases au:b=10
 ·subst au;simp
 ·simp [h1,ae,au]
def w4(x:gT):List UInt8:=bj x.1++61::pV (bj x.2)
def Gn:List gT->List UInt8
 |[]=>[125]
 |x::l=>44::w4 x++Gn l
def ny:List gT->List UInt8
 |[]=>[123,125]
 |x::l=>123::w4 x++Gn l
end Go.Proofs
namespace Go.bs
def wo(P:Program)(k:FuncId)(args:Array Value)(H:J)(R:Value->J->Prop):Prop:=
 ∀E d u,CallsD P k args u (a8 E H d) (λe l3 w'=>l3=u/\∃v H' d',e=.returned v/\w'=a8 E H' d'/\R v H')
theorem E6{args:List Value}{fn:Func}{n:Nat}(ay:fn.ntmps=n)(hle:pt args.length n=true):
  {tmps:=args.toArray++apR (fn.ntmps-args.toArray.size) undef,defers:=[]}=cu [] n (qh args):=by
 have WD:args.length<=n:=MW hle
 unfold cu
 congr 1
 apply apL
 intro i
 have az:∀(l:List Value) (i:Nat),qh l i=l.getD i undef:=by
  intro l
  induction l with
  |nil=>intro i;rfl
  |cons v l ih=>intro i;cases i with|zero=>rfl|succ i=>exact ih i
 simp only [asT,M0,asA,HQ,ay,az,asz]
 by_cases h1:i<args.length
 ·have ae:i<n:=by omega
  simp [h1,ae,apS]
 ·by_cases ae:i<n
  ·have au:i-args.length<n-args.length:=by omega
   simp [h1,ae,au,apS]
  ·have au:¬i-args.length<n-args.length:=by omega
   simp [h1,ae,au]
theorem E7{P:Program}{Df:List Deferred}{fn:Func}{n:Nat}{rs:List ResultVar}(aA:fn.results.toList=rs){f:F}{H':J}{E:Env}{d':kb E}{X:Value->Prop}
  (h:nk P n f H' rs (λvs=>X (gD vs))):∃v,(results fn (cu Df n f).tmps).run P (a8 E H' d')=.ok v (a8 E H' d')/\X v:=by
 obtain⟨g,By,g1,g2⟩:=NX fn (cu Df n f).tmps
 obtain⟨vs,hG,hk⟩:=E4 (Df:=Df) g g1 g2 h
 refine⟨gD vs,?_,hk⟩
 have bc:=hG (a8 E H' d') rfl
 rw [By,bd,asq,asr,aA]
 rw [bc]
 simp only [bx]
 have bN:∀vs:List Value,(if h:vs.toArray.size=1 then vs.toArray[0]else .tuple vs.toArray)=gD vs:=by
  intro vs
  match vs with
  |[]=>rfl
  |[v]=>rfl
  |_::_::_=>simp [gD]
 rw [<-bN vs]
 rfl
theorem WE{P:Program}{k:FuncId}{fn:Func}{c:Code}{n:Nat}{args:List Value}{rs:List ResultVar}{H:J}{R:Value->J->Prop}(dD:List Nat->hE)(hm:P.follows .mixedOrders=true)
  (af:P.funcs[k]?=some fn) (ah:fn.body=some c) (ay:fn.ntmps=n) (aA:fn.results.toList=rs) (hle:pt args.length n=true)
  (h:gQ P n dD c [] (zp P n rs R) (qh args) H):wo P k args.toArray H R:=by
 intro E d u
 refine callsD_of_wp af ah ?_
 rw [E6 ay hle]
 refine oP hm c [] (λe f H' d' k=> ?_) _ H h d
 have fin:nk P n f H' rs (λvs=>R (gD vs) H')->∃v,(results fn (cu [] n f).tmps).run P (a8 E H' d')=.ok v (a8 E H' d')/\∃gr cG r3,Ending.returned v=.returned gr/\a8 E H' d'=a8 E cG r3/\R gr cG:=λh=>by
  obtain⟨v,h1,ae⟩:=E7 (Df:=[]) (fn:=fn) (d':=d') (X:=λv=>R v H') aA h
  exact⟨v,h1,v,H',d',rfl,rfl,ae⟩
 cases e with
 |normal=>exact⟨rfl,fin k⟩
 |ret=>exact⟨rfl,fin k⟩
 |exit i=>exact k.elim
def NY(P:Program)(n:Nat)(dD:List Nat->hE)(rs:List ResultVar)(R:Value->J->Prop)(c:Code)(f:F)(H:J):Prop:=
 match c with
 | .seq c0 (.seq (.region _ ops false) rest)=>gQ P n dD c0 [0] (λe f H=>match e with
  | .normal=>(match ops.toList with
   |[⟨some t,.makeFunc (.func j) first captured,_,_,_,none⟩,⟨none,.defer ⟨.value (.tmp t'),⟨[]⟩,_⟩,_,_,_,none⟩]=>
    da (nP t' t&&(qa t n&&xK P j)) (gQ P n dD rest [1,1] (λe bE H'=>match e with
     | .exit _=>False
     |_=>wo P j ⟨fv n f first.toList++fv n f captured.toList⟩ H' λ_ cG=>nk P n bE cG rs λvs=>R (gD vs) cG)
     (fc f t (.func (.func j) ⟨fv n f first.toList⟩ ⟨fv n f captured.toList⟩)) H)
   |_=>False)
  |_=>False) f H
 |_=>False
theorem WG{P:Program}{k:FuncId}{fn:Func}{c:Code}{n:Nat}{args:List Value}{rs:List ResultVar}{H:J}{R:Value->J->Prop}(dD:List Nat->hE)(hm:P.follows .mixedOrders=true)
  (af:P.funcs[k]?=some fn) (ah:fn.body=some c) (ay:fn.ntmps=n) (aA:fn.results.toList=rs) (hle:pt args.length n=true)
  (h:NY P n dD rs R c (qh args) H):aY P k args.toArray H R:=by
 intro E d
 refine calls_of_wp_defers af ah ?_
 rw [E6 ay hle]
 unfold NY at h
 split at h
 rotate_left
 ·exact h.elim
 rename_i c0 id ops rest
 refine wp_seq (oP hm c0 [0] (λe f H1 d1 h=> ?_) _ H h d)
 cases e with
 |exit i=>exact h.elim
 |ret=>exact h.elim
 |normal=>
 show(Code.seq (.region id ops false) rest).wp P _ (cu [] n f) (a8 E H1 d1)
 dsimp only at h
 split at h
 rotate_left
 ·exact h.elim
 rename_i t j first captured WH fD WI t' Io WJ jh WK WL
 obtain⟨bK,h⟩:=nV h
 simp only [oJ]at bK
 obtain⟨bf,WM,iT⟩:=bK
 have bf:t'=t:=oK bf
 subst bf
 refine wp_seq (wp_region_list ?_)
 rw [WL]
 let wq:Value:=.func (.func j) ⟨fv n f first.toList⟩ ⟨fv n f captured.toList⟩
 let dy:Deferred:={target:=.fn (.func j) ⟨fv n f captured.toList⟩,args:=⟨fv n f first.toList⟩}
 have main:rest.wp P (bodyPostD P fn λe w'=>∃v H' d',e=.returned v/\w'=a8 E H' d'/\R v H') (cu [dy] n (fc f t' wq)) (a8 E H1 d1):=by
  refine oP (Df:=[dy]) hm rest [1,1] (λe bE ao d2 ae=> ?_) _ H1 h d1
  have go:wo P j ⟨fv n f first.toList++fv n f captured.toList⟩ ao (λ_ cG=>nk P n bE cG rs λvs=>R (gD vs) cG)→
    Leaves P fn (cu [dy] n bE).tmps (λe w'=>∃v H' d',e=.returned v/\w'=a8 E H' d'/\R v H') [dy] .returning (a8 E ao d2):=λak=>by
   refine leaves_cons (f:=j) (args:=⟨fv n f first.toList++fv n f captured.toList⟩) (by intro e;cases e) ?_ ?_
   ·show(callFunc j _).run P _=_
    rw [Bo iT]
    congr 2
    simp
   ·refine(ak E d2 .returning).mono λe l3 w' au=> ?_
    obtain⟨rfl,v,aF,d3,rfl,rfl,a6⟩:=au
    show Leaves P fn (cu [dy] n bE).tmps _ [] (settle .returning) (a8 E aF d3)
    obtain⟨gr,bu,ca⟩:=E7 (Df:=[dy]) (fn:=fn) (d':=d3) (X:=λv=>R v aF) aA a6
    exact⟨gr,bu,gr,aF,d3,rfl,rfl,ca⟩
  cases e with
  |normal=>exact go ae
  |ret=>exact go ae
  |exit i=>exact ae.elim
 unfold wpList
 rw [if_pos (by unfold Region.wanted;rfl)]
 left
 unfold Oper.wp
 have bc:(execOp (cu [] n f).eval ⟨some t',.makeFunc (.func j) first captured,WH,fD,WI,none⟩).run P (a8 E H1 d1)=.ok (.value wq) (a8 E H1 d1):=by
  rw [vX]
  simp [execOp,Instr.makeFunc,wq,qV]
 rw [bc]
 show wpList P ops _ _ ((cu [] n f).put (some t') wq) (a8 E H1 d1)
 rw [jz]
 unfold wpList
 rw [if_pos (by unfold Region.wanted;rfl)]
 left
 unfold Oper.wp
 have bN:(execOp (cu [] n (eB f (some t') wq)).eval ⟨none,.defer ⟨.value (.tmp t'),⟨[]⟩,Io⟩,WJ,jh,WK,none⟩).run P (a8 E H1 d1)=.ok (.defer dy) (a8 E H1 d1):=by
  rw [vX]
  have WN:cd n (eB f (some t') wq) (.tmp t')=wq:=by
   simp [cd,eB,fc,WM]
  simp [execOp,resolve,WN,wq,Deferred.ofValue,dy]
 rw [bN]
 exact main
end Go.bs
