/- Part of a proof. -/
import Derived.WalkKit
import Derived.Laws.StructEq
import Derived.StillTail
import Derived.Deep.Quiet
import Derived.OrdersHeld
import Derived.ProofKit
import Derived.OpenShut
import Derived.Carry
import Derived.Deep.Slices
import Derived.Laws.Strings
import GoSem.Op.String
import Derived.Laws.MakeOwn
import Derived.Laws.OwnMore
import Derived.Lib.AppendStr
import Derived.Lib.UnsafeStr
import Derived.Lib.MakeNoZero
import Derived.Lib.Builder
import Derived.Laws.Externs
import Derived.Laws.IdiomStrings
import Derived.Laws.BytesString
open _root_.Go.Sem renaming run_bind→x3,run→axy,run_pure→axG,bind→axR
open _root_.Go.Result renaming andThen_ok→x4
open _root_.Nat renaming beq→LY,le_refl→axx,eq_of_beq_eq_true→axB,blt→axD,ble→axF,zero_add→axJ,add_mul→axK,lor→axP,mul_le_mul_right→axQ,blt_eq→axZ,pow→ax0,le_of_ble_eq_true→ax1,le_trans→ax4,le_of_eq→ayh,pow_succ→aym,mod_lt→ayq,zero_le→ayv,le_succ→ayy,add_assoc→ayG,zero_mul→ayM,testBit_or→ayN,lt_of_lt_of_le→ayQ,mul_comm→ayU,reduceSub→ayW,ne_of_lt→ay0,le_succ_of_le→ay1,ble_eq_true_of_le→ay3,testBit_two_pow→ay6,le_mul_of_pos_right→azg,div_lt_iff_lt_mul→azq
open _root_.Bool renaming and_eq_true→axz,false_eq_true→axH,true_and→ayb,false_and→ayc,not_eq_true'→ayd,or_eq_false_iff→ays,not_true→ayE,or_eq_true→ayO
open _root_.List renaming mem_cons→axA,getElem?_eq_some_iff→axC,map_cons→axE,mem_map_of_mem→axL,getElem?_take→axN,flatMap_cons→axO,getElem?_toArray→axS,filter_cons→axT,mem_cons_of_mem→axU,cons_append→axV,getElem?_cons_zero→axW,mem_filter→ax2,all_eq_true→ax3,getElem?_drop→ax5,length_append→ax6,append_assoc→ax7,mem_cons_self→aye,mem_map→ayf,length_cons→ayi,length_take→ayj,nodup_cons→ayk,nil_append→ayn,getElem?_append→ayo,getElem?_map→ayp,getElem?_cons_succ→ayu,mem_singleton→ayw,getElem?_eq_getElem→ayA,take_of_length_le→ayB,range→ayD,foldl_cons→ayF,mapM_cons→ayI,ext_getElem?→ayK,getElem?_eq_none→ayL,eq_nil_of_length_eq_zero→ayT,take_length→ayX,length_drop→ayY,forIn_cons→ay2,take_succ_cons→ay7,size_toArray→ay9,getD_eq_getElem?_getD→aza,mem_append→azb,drop_eq_nil_of_le→azc,getElem?_append_left→azd,getElem?_append_right→aze,flatMap_append→azf,append_nil→azh,mem_flatMap→azi,map_append→azj,nodup_append→azk,filter_sublist→azl,filter_eq_self→azm,mem_toArray→azo,flatMap_nil→azr,length_nil→azs,singleton_append→azt,take_append→azu
open _root_.Array renaming toList_map→axI,length_toList→axM,getD_eq_getD_getElem?→ax9,getElem?_ofFn→aya,getElem?_push→ayg,getElem?_eq_some_iff→ayt,mem_filter→ayz,ext_getElem?→ayC,ext'→ayH,range→ayJ,replicate→ayP,getElem?_modify→ayR,mapM_eq_mapM_toList→ay4,getElem?_eq_none→ay5,getElem?_replicate→ay8
open _root_.UInt8 renaming ofNat→axX,toNat_ofNat'→axY,lt_or_lt_of_ne→azp
open _root_.Go.Value renaming agg→ax8,ownBlock→ayx,int→ayZ
open _root_.ByteArray renaming mk→ayl,empty→ayV
open _root_.Option renaming map_some→ayr,map_none→azn,isSome_none→azv
open _root_.Int renaming toNat_natCast→ayS
set_option linter.unusedVariables false
set_option linter.unusedSimpArgs false
set_option maxRecDepth 100000
namespace Go.bk
theorem bh{p:Prop}[Decidable p](h:p):decide p=true:=decide_eq_true h
open Go
abbrev U:=Array Obj
structure Env where
 tape:Nat->Question->Nat
 os:Os
 output:Array (Nat×ByteArray)
 dH:Nat
abbrev kK(E:Env):={x:Nat//E.dH<=x}
abbrev up{E:Env}(d:kK E):kK E:=⟨d.1+1,ay1 d.2⟩
def bf(E:Env)(H:U)(d:kK E):World:={heap:=H,tape:=E.tape,drawn:=d.1,os:=E.os,output:=E.output}
theorem Sr(w:World):w=bf ⟨w.tape,w.os,w.output,w.drawn⟩ w.heap ⟨w.drawn,axx _⟩:=rfl
def fo(P:Program)(k:FuncId)(args:Array Value)(H:U)(R:Value->U->Prop):Prop:=
 ∀E d,Calls P k args (bf E H d) (λe w'=>∃v H' d',e=.returned v/\w'=bf E H' d'/\R v H')
def gD(P:Program)(s:Sem Value)(H:U)(K:Value->U->Prop):Prop:=
 ∀E d,∃v H' d',s.run P (bf E H d)=.ok v (bf E H' d')/\K v H'
def jc(P:Program)(s:Sem Unit)(H:U)(K:U->Prop):Prop:=
 ∀E d,∃H' d',s.run P (bf E H d)=.ok () (bf E H' d')/\K H'
def Rd(P:Program)(s:Sem Value)(H:U)(v:Value):Prop:=∀w:World,w.heap=H->s.run P w=.ok v w
def jS(P:Program)(t:TypeId)(H:U)(a:Addr)(v:Value):Prop:=Rd P (loadVar t a) H v
def oz(P:Program)(t:TypeId)(H:U)(a:Addr)(v:Value)(H':U):Prop:=
 ∀w:World,w.heap=H->(storeVar t a v).run P w=.ok () {w with heap:=H'}
def dV(H:U)(b:Nat)(ad:Obj)(H':U):Prop:=b=H.size/\H'=H.push ad
abbrev F:=Nat->Value
def gq(f:F)(d:Nat)(v:Value):F:=λi=>cond (LY i d) v (f i)
def eI(f:F):Option Nat->Value->F
 |some d,v=>gq f d v
 |none,_=>f
def cJ(Df:List Deferred)(n:Nat)(f:F):Act:={tmps:=Array.ofFn (n:=n) (λi=>f i.val),defers:=Df}
variable{Df:List Deferred}
def b8(n:Nat)(f:F):Operand->Value
 | .tmp t=>cond (axD t n) (f t) undef
 | .const v=>v
 | .global g=>.pointer (some ⟨g,0,none⟩)
 | .func k=>.func (.func k) #[] #[]
def fQ(n:Nat)(f:F):List Operand->List Value
 |[]=>[]
 |x::l=>b8 n f x::fQ n f l
def zi(n:Nat)(f:F):List (Nat×Operand)->List (Nat×Value)
 |[]=>[]
 |x::l=>(x.1,b8 n f x.2)::zi n f l
def Hc(n:Nat)(f:F):Option Operand->Option Value
 |none=>none
 |some x=>some (b8 n f x)
theorem vZ(n:Nat)(f:F)(x:Operand):(cJ Df n f).eval x=b8 n f x:=by
 cases x with
 |tmp t=>
  simp only [Act.eval,cJ,b8,ax9,aya]
  by_cases h:t<n
  ·have h':axD t n=true:=by simpa [axZ]using h
   simp [h,h']
  ·have h':axD t n=false:=by
    cases al:axD t n with
    |false=>rfl
    |true=>exact absurd (by simpa [axZ]using al) h
   simp [h,h']
 |const v=>rfl
 |global g=>rfl
 |func k=>rfl
theorem xG(n:Nat)(f:F):(cJ Df n f).eval=b8 n f:=funext (vZ n f)
theorem zj(n:Nat)(f:F)(l:List Operand):fQ n f l=l.map (b8 n f):=by
 induction l with
 |nil=>rfl
 |cons x l ih=>simp [fQ,ih]
theorem Ss(n:Nat)(f:F)(l:List (Nat×Operand)):zi n f l=l.map (λx=>(x.1,b8 n f x.2)):=by
 induction l with
 |nil=>rfl
 |cons x l ih=>simp [zi,ih]
theorem adO(n:Nat)(f:F)(x:Option Operand):Hc n f x=x.map (b8 n f):=by cases x<;>rfl
theorem DB(f:F)(d:Nat)(v:Value)(i:Nat):gq f d v i=if i=d then v else f i:=by
 unfold gq
 by_cases h:i=d
 ·subst h;simp
 ·have:LY i d=false:=by
   cases al:LY i d with
   |false=>rfl
   |true=>exact absurd (axB al) h
  simp [h,this]
variable{P:Program}{H H' dn:U}{t e dJ:TypeId}{n b r ck j c i m d:Nat}{v x y:Value}{K cc:Value->Prop}{f g:F}{ae:List Value}{a aC:Addr}{X Y:Prop}{S bef:List Nat}
theorem St(h:∀i,i<n->f i=g i):cJ Df n f=cJ Df n g:=by
 unfold cJ
 congr 1
 apply ayC
 intro i
 simp only [aya]
 split
 ·rename_i az;rw [h i az]
 ·rfl
theorem j9(n:Nat)(f:F)(d:Option Nat)(v:Value):(cJ Df n f).put d v=cJ Df n (eI f d v):=by
 cases d with
 |none=>rfl
 |some d=>
  simp only [Act.put,cJ,eI]
  congr 1
  apply ayC
  intro i
  simp only [Array.getElem?_setIfInBounds,aya,Array.size_ofFn,DB]
  by_cases aR:d=i
  ·subst aR
   by_cases az:d<n<;>simp [az]
  ·have:¬i=d:=λh=>aR h.symm
   simp [aR,this]
theorem Lg(n:Nat)(f:F)(i:Nat):(cJ Df n f).tmps[i]?=if i<n then some (f i)else none:=by
 simp only [cJ,aya]
 split<;>rfl
theorem xH(n:Nat)(f:F)(t:Nat):b8 n f (.tmp t)=if t<n then f t else undef:=by
 unfold b8
 by_cases h:t<n
 ·have h':axD t n=true:=by simpa [axZ]using h
  simp [h,h']
 ·have h':axD t n=false:=by
   cases al:axD t n with
   |false=>rfl
   |true=>exact absurd (by simpa [axZ]using al) h
  simp [h,h']
inductive B where
 |int (k:IntKind)|bool|str|ptr|zk|slice|map|any
inductive jj where
 |one (b:B)|agg (l:List B)
inductive Hd where
 |one (s:jj)|He (l:List jj)
def pZ:B->(Value->Prop)->Prop
 | .int k,K=>∃n:Int,K (.int k n)
 | .bool,K=>∃b:Bool,K (.bool b)
 | .str,K=>∃s:ByteArray,K (.string s)
 | .ptr,K=>∃a:Option Addr,K (.pointer a)
 | .zk,K=>∃a:Addr,K (.pointer (some a))
 | .slice,K=>∃(a:Option Addr) (n c:Nat),K (.slice a n c)
 | .map,K=>∃r:Option Nat,K (.map r)
 | .any,K=>∃v:Value,K v
def DC:List B->(List Value->Prop)->Prop
 |[],K=>K []
 |b::l,K=>pZ b λv=>DC l λae=>K (v::ae)
def zl:jj->(Value->Prop)->Prop
 | .one b,K=>pZ b K
 | .agg l,K=>DC l λae=>K (.agg ⟨ae⟩)
def DD:List jj->(List Value->Prop)->Prop
 |[],K=>K []
 |s::l,K=>zl s λv=>DD l λae=>K (v::ae)
def oA:Hd->(Value->Prop)->Prop
 | .one s,K=>zl s K
 | .He l,K=>DD l λae=>K (.tuple ⟨ae⟩)
def qL:B->(Value->Prop)->Prop
 | .int k,K=>∀n:Int,K (.int k n)
 | .bool,K=>∀b:Bool,K (.bool b)
 | .str,K=>∀s:ByteArray,K (.string s)
 | .ptr,K=>∀a:Option Addr,K (.pointer a)
 | .zk,K=>∀a:Addr,K (.pointer (some a))
 | .slice,K=>∀(a:Option Addr) (n c:Nat),K (.slice a n c)
 | .map,K=>∀r:Option Nat,K (.map r)
 | .any,K=>∀v:Value,K v
def xI:List B->(List Value->Prop)->Prop
 |[],K=>K []
 |b::l,K=>qL b λv=>xI l λae=>K (v::ae)
def Hf:jj->(Value->Prop)->Prop
 | .one b,K=>qL b K
 | .agg l,K=>xI l λae=>K (.agg ⟨ae⟩)
def p0:List jj->(List Value->Prop)->Prop
 |[],K=>K []
 |s::l,K=>Hf s λv=>p0 l λae=>K (v::ae)
theorem v7{b:B}(h:pZ b K):∃v,K v:=by
 cases b<;>simp only [pZ]at h
 case slice=>obtain⟨a,n,c,h⟩:=h;exact⟨_,h⟩
 all_goals(obtain⟨x,h⟩:=h;exact⟨_,h⟩)
theorem Su:∀{l:List B} {K:List Value->Prop},DC l K->∃ae,K ae
 |[],_,h=>⟨[],h⟩
 |_::_,_,h=>let⟨v,h1⟩:=v7 h;let⟨ae,ab⟩:=Su h1;⟨v::ae,ab⟩
theorem DE{s:jj}(h:zl s K):∃v,K v:=by
 cases s with
 |one b=>exact v7 h
 |agg l=>obtain⟨ae,h⟩:=Su h;exact⟨_,h⟩
theorem Sv:∀{l:List jj} {K:List Value->Prop},DD l K->∃ae,K ae
 |[],_,h=>⟨[],h⟩
 |_::_,_,h=>let⟨v,h1⟩:=DE h;let⟨ae,ab⟩:=Sv h1;⟨v::ae,ab⟩
theorem uz{t:Hd}(h:oA t K):∃v,K v:=by
 cases t with
 |one b=>exact DE h
 |He l=>obtain⟨ae,h⟩:=Sv h;exact⟨_,h⟩
theorem v8{b:B}(hk:∀v,K v->cc v)(h:pZ b K):pZ b cc:=by
 cases b<;>simp only [pZ]at h⊢
 case slice=>obtain⟨a,n,c,h⟩:=h;exact⟨a,n,c,hk _ h⟩
 all_goals(obtain⟨x,h⟩:=h;exact⟨x,hk _ h⟩)
theorem Sw:∀{l:List B} {K cc:List Value->Prop},(∀v,K v->cc v)->DC l K->DC l cc
 |[],_,_,hk,h=>hk _ h
 |_::_,_,_,hk,h=>v8 (λ_ h1=>Sw (λ_ ab=>hk _ ab) h1) h
theorem Hg{s:jj}(hk:∀v,K v->cc v)(h:zl s K):zl s cc:=by
 cases s with
 |one b=>exact v8 hk h
 |agg l=>exact Sw (λ_ h=>hk _ h) h
theorem Sx:∀{l:List jj} {K cc:List Value->Prop},(∀v,K v->cc v)->DD l K->DD l cc
 |[],_,_,hk,h=>hk _ h
 |_::_,_,_,hk,h=>Hg (λ_ h1=>Sx (λ_ ab=>hk _ ab) h1) h
theorem uA{t:Hd}(hk:∀v,K v->cc v)(h:oA t K):oA t cc:=by
 cases t with
 |one b=>exact Hg hk h
 |He l=>exact Sx (λ_ h=>hk _ h) h
theorem Sy{b:B}(hk:∀v,K v->cc v)(h:qL b K):qL b cc:=by
 cases b<;>simp only [qL]at h⊢<;>intros<;>exact hk _ (h ..)
theorem Sz:∀{l:List B} {K cc:List Value->Prop},(∀v,K v->cc v)->xI l K->xI l cc
 |[],_,_,hk,h=>hk _ h
 |_::_,_,_,hk,h=>Sy (λ_ h1=>Sz (λ_ ab=>hk _ ab) h1) h
theorem adP{s:jj}(hk:∀v,K v->cc v)(h:Hf s K):Hf s cc:=by
 cases s with
 |one b=>exact Sy hk h
 |agg l=>exact Sz (λ_ h=>hk _ h) h
theorem v':∀{l:List jj} {K cc:List Value->Prop},(∀v,K v->cc v)->p0 l K->p0 l cc
 |[],_,_,hk,h=>hk _ h
 |_::_,_,_,hk,h=>adP (λ_ h1=>v' (λ_ ab=>hk _ ab) h1) h
def adQ:Option Addr->Prop->Prop
 |some _,X=>X
 |none,_=>False
def okB:B->Value->Prop->Prop
 | .int k,.int eg _,X=>cond (decide (k=eg)) X False
 | .bool,.bool _,X=>X
 | .str,.string _,X=>X
 | .ptr,.pointer _,X=>X
 | .zk,.pointer kL,X=>adQ kL X
 | .slice,.slice _ _ _,X=>X
 | .map,.map _,X=>X
 | .any,_,X=>X
 |_,_,_=>False
def DF:List B->List Value->Prop->Prop
 |[],[],X=>X
 |b::l,v::ae,X=>okB b v (DF l ae X)
 |_,_,_=>False
def og:jj->Value->Prop->Prop
 | .one b,v,X=>okB b v X
 | .agg l,.agg cs,X=>DF l cs.toList X
 |_,_,_=>False
def oB:List jj->List Value->Prop->Prop
 |[],[],X=>X
 |s::l,v::ae,X=>og s v (oB l ae X)
 |_,_,_=>False
theorem SA{b:B}(h:X->Y)(aa:okB b v X):okB b v Y:=by
 cases b<;>cases v<;>simp only [okB]at aa⊢<;>first|exact h aa|skip
 case int.int k eg n=>by_cases hk:k=eg<;>simp [hk]at aa⊢;exact h aa
 case zk.pointer kL=>
  cases kL with
  |none=>exact aa.elim
  |some a=>exact h aa
theorem SB:∀{l:List B} {ae:List Value} {X Y:Prop},(X->Y)->DF l ae X->DF l ae Y
 |[],[],_,_,h,aa=>h aa
 |_::_,_::_,_,_,h,aa=>SA (SB h) aa
 |[],_::_,_,_,_,aa=>aa.elim
 |_::_,[],_,_,_,aa=>aa.elim
theorem adR{s:jj}(h:X->Y)(aa:og s v X):og s v Y:=by
 cases s with
 |one b=>exact SA h aa
 |agg l=>cases v<;>simp only [og]at aa⊢;exact SB h aa
theorem Lh:∀{l:List jj} {ae:List Value} {X Y:Prop},(X->Y)->oB l ae X->oB l ae Y
 |[],[],_,_,h,aa=>h aa
 |_::_,_::_,_,_,h,aa=>adR (Lh h) aa
 |[],_::_,_,_,_,aa=>aa.elim
 |_::_,[],_,_,_,aa=>aa.elim
theorem SC{b:B}(aa:okB b v X)(h:qL b K):K v/\X:=by
 cases b<;>cases v<;>simp only [okB]at aa<;>simp only [qL]at h
 case int.int k eg n=>by_cases hk:k=eg<;>simp [hk]at aa;subst hk;exact⟨h _,aa⟩
 case zk.pointer kL=>
  cases kL with
  |none=>exact aa.elim
  |some a=>exact⟨h _,aa⟩
 all_goals exact⟨h ..,aa⟩
theorem SD:∀{l:List B} {ae:List Value} {K:List Value->Prop} {X:Prop},DF l ae X->xI l K->K ae/\X
 |[],[],_,_,aa,h=>⟨h,aa⟩
 |_::_,v::_,K,_,aa,h=>let⟨h1,ab⟩:=SC aa h;SD (K:=λae=>K (v::ae)) ab h1
 |[],_::_,_,_,aa,_=>aa.elim
 |_::_,[],_,_,aa,_=>aa.elim
theorem adS{s:jj}(aa:og s v X)(h:Hf s K):K v/\X:=by
 cases s with
 |one b=>exact SC aa h
 |agg l=>cases v<;>simp only [og]at aa;exact SD aa h
theorem zm:∀{l:List jj} {ae:List Value} {K:List Value->Prop} {X:Prop},oB l ae X->p0 l K->K ae/\X
 |[],[],_,_,aa,h=>⟨h,aa⟩
 |_::_,v::_,K,_,aa,h=>let⟨h1,ab⟩:=adS aa h;zm (K:=λae=>K (v::ae)) ab h1
 |[],_::_,_,_,aa,_=>aa.elim
 |_::_,[],_,_,aa,_=>aa.elim
def SE:jj->List B
 | .one b=>[b]
 | .agg l=>l
def SF(l:List B):Nat->List B
 |0=>[]
 |n+1=>l++SF l n
def Bq(P:Program):Nat->TypeId->jj
 |0,_=>.one .any
 |m+1,t=>match P.underlying t with
  |some (.int k)=>.one (.int k)
  |some .bool=>.one .bool
  |some .string=>.one .str
  |some (.pointer _)=>.one .ptr
  |some (.slice _)=>.one .slice
  |some (.map _ _)=>.one .map
  |some (.struct e3)=>.agg (e3.toList.flatMap λx=>SE (Bq P m x.type))
  |some (.array len e)=>bif axD 16 len then .one .any else .agg (SF (SE (Bq P m e)) len)
  |_=>.one .any
def SG(P:Program):List TypeId->List jj
 |[]=>[]
 |t::l=>Bq P 8 t::SG P l
def qM(P:Program)(t:TypeId):Hd:=
 match P.underlying t with
 |some (.tuple ts)=>.He (SG P ts.toList)
 |_=>.one (Bq P 8 t)
def p1{α:Type}(P:Program):Sem α->Option α
 | .pure a=>some a
 | .program k=>p1 P (k P)
 |_=>none
theorem zn{α:Type}:∀{s:Sem α} {v:α},p1 P s=some v->∀w,s.run P w=.ok v w:=by
 intro s
 induction s with
 |pure a=>intro v h w;simp only [p1,Option.some.injEq]at h;subst h;rfl
 |program k ih=>intro v h w;simp only [p1]at h;simp only [axy];exact ih P h w
 |_=>intro v h;simp [p1]at h
def aU(c:Bool)(X Y:Prop):Prop:=match c with|true=>X|false=>Y
theorem au{c:Bool}(h1:c=true->X)(ab:c=false->Y):aU c X Y:=by cases c<;>simp_all [aU]
theorem Br{c:Bool}{X' kr:Prop}(h1:X->X')(ab:Y->kr)(h:aU c X Y):aU c X' kr:=by cases c<;>simp_all [aU]
def dB(c:Bool)(X:Prop):Prop:=match c with|true=>X|false=>False
theorem gK{p:Prop}[Decidable p](h:p)(x:X):dB (decide p) X:=by rw [decide_eq_true h];exact x
theorem cM{c:Bool}(h:c=true)(x:X):dB c X:=by subst h;exact x
theorem oC{c:Bool}(h:dB c X):c=true/\X:=by cases c with|true=>exact⟨rfl,h⟩|false=>exact h.elim
theorem pa{p:Prop}[Decidable p](h:dB (decide p) X):p/\X:=let⟨h1,ab⟩:=oC h;⟨of_decide_eq_true h1,ab⟩
theorem gr{c:Bool}(h:X->Y)(aa:dB c X):dB c Y:=by cases c with|true=>exact h aa|false=>exact aa
def fp(kL:Option Addr)(K:Addr->Prop):Prop:=match kL with|some a=>K a|none=>False
theorem w8{kL:Option Addr}{K:Addr->Prop}(h:kL=some a)(k:K a):fp kL K:=by subst h;exact k
theorem SH{kL:Option Addr}{K:Addr->Prop}(h:fp kL K):∃a,kL=some a/\K a:=by cases kL with|some a=>exact⟨a,rfl,h⟩|none=>exact h.elim
theorem SI{kL:Option Addr}{K cc:Addr->Prop}(hk:∀a,K a->cc a)(h:fp kL K):fp kL cc:=by cases kL with|some a=>exact hk _ h|none=>exact h.elim
def hy(P:Program)(t:TypeId):Nat:=match P.info? t with|some i=>i.size|none=>0
def zeroOf(P:Program)(t:TypeId):Option Value:=match P.info? t with|some i=>i.zero|none=>none
def zo(P:Program)(k:FuncId):Bool:=
 match P.funcs[k]? with
 |some fn=> !(fn.name== "runtime.NumGoroutine")&&fn.body.isSome
 |none=>false
def pX(P:Program)(k:FuncId)(args:Array Value)(H:U)(K:Value->U->Prop):Prop:=
 ∀E d,∃v H' d',(callFunc k args).run P (bf E H d)=.ok (.value v) (bf E H' d')/\K v H'
def Li(P:Program)(v:Value)(name:String)(args:List Value)(H:U)(K:Value->U->Prop):Prop:=
 ∃t x k r,v=.iface t x/\(∀w,(method (P.types.size+Made.depth) t x name).run P w=.ok (k,r) w)/\zo P k=true/\fo P k ⟨r::args⟩ H K
def dY(P:Program)(v:Value)(args:List Value)(H:U)(K:Value->U->Prop):Prop:=
 ∃k first captured,v=.func (.func k) first captured/\zo P k=true/\fo P k (first++args.toArray++captured) H K
def rJ:List Value->Nat->List Value->List Value
 |cs,_,[]=>cs
 |[],_,_=>[]
 |c::cs,off+1,ae=>c::rJ cs off ae
 |_::cs,0,v::ae=>v::rJ cs 0 ae
def zp(place:Nat->Option (Nat×Nat)):List Value->List (Nat×Value)->Option (List Value)
 |cs,[]=>some cs
 |cs,(i,v)::rest=>match place i with
  |none=>none
  |some (off,size)=>cond (LY v.cells.toList.length size&&axF (off+v.cells.toList.length) cs.length) (zp place (rJ cs off v.cells.toList) rest) none
def placesOf(P:Program):List Field->Option (List (Nat×Nat))
 |[]=>some []
 |x::l=>match P.info? x.type,placesOf P l with
  |some i,some r=>some ((x.offset,i.size)::r)
  |_,_=>none
def Bs:List (Nat×Nat)->Nat->Option (Nat×Nat)
 |[],_=>none
 |x::_,0=>some x
 |_::l,i+1=>Bs l i
def Lj(P:Program)(t:TypeId)(ps:List (Nat×Value)):Option Value:=
 match zeroOf P t,P.underlying t with
 |some z,some (.struct e3)=>(match placesOf P e3.toList with
  |some pl=>(match zp (Bs pl) z.cells.toList ps with|some cs=>some (.agg ⟨cs⟩)|none=>none)
  |none=>none)
 |some z,some (.array _ e)=>(match P.info? e with
  |some i=>(match zp (λk=>some (k*i.size,i.size)) z.cells.toList ps with|some cs=>some (.agg ⟨cs⟩)|none=>none)
  |none=>none)
 |_,_=>none
def wa(l:List Value):Nat->List Value
 |0=>[]
 |n+1=>l++wa l n
def Lk(P:Program)(t:TypeId)(len:Nat)(ps:List (Nat×Value)):Option (TypeId×List Value):=
 match P.underlying t with
 |some (.slice e)=>(match P.info? e with
  |some i=>(match i.zero with
   |some z=>cond (axF (len*i.size) 16777216&&LY z.cells.toList.length i.size&&axD 0 i.size)
     (match zp (λk=>some (k*i.size,i.size)) (wa z.cells.toList len) ps with|some cs=>some (e,cs)|none=>none) none
   |none=>none)
  |none=>none)
 |_=>none
def zq(P:Program)(t:TypeId)(a:Value)(H:U)(K:Value->Prop):Prop:=
 match a with
 | .pointer (some aC)=>zl (Bq P 8 t) λv=>jS P t H aC v/\K v
 |_=>False
def mX(P:Program)(s:Sem Value)(K:Value->Prop):Prop:=
 match p1 P s with
 |some v=>K v
 |none=>False
def kM(P:Program)(s:Sem Value)(v:Value):Prop:=∀w:World,s.run P w=.ok v w
def jk(op:BinOp)(t:TypeId)(ef ez:Operand)(x y:Value):Sem Value:=do eqGuard op t ef ez x y;binOp op t x y
def qN(P:Program)(t:TypeId)(b:B)(ef ez:Operand)(x y:Value)(op:BinOp)(r:Bool)(K:Value->Prop):Prop:=
 match b,P.underlying t with
 | .bool,some .bool=>K (.bool r)
 | .ptr,some (.pointer _)=>K (.bool r)
 | .slice,some (.slice _)=>K (.bool r)
 | .map,some (.map _ _)=>K (.bool r)
 |_,_=>∃r:Bool,kM P (jk op t ef ez x y) (.bool r)/\K (.bool r)
def Ll(P:Program)(rec:TypeId->Value->Value->Option Bool)(xs ys:Array Value):List Field->Option Bool
 |[]=>some true
 |f::l=>bif f.name== "_" then none else
  match p1 P (part f.type xs f.offset),p1 P (part f.type ys f.offset)with
  |some a,some b=>(match rec f.type a b,Ll P rec xs ys l with|some r,some s=>some (r&&s)|_,_=>none)
  |_,_=>none
def Lm(P:Program)(rec:TypeId->Value->Value->Option Bool)(e:TypeId)(sz:Nat)(xs ys:Array Value):List Nat->Option Bool
 |[]=>some true
 |i::l=>
  match p1 P (part e xs (i*sz)),p1 P (part e ys (i*sz))with
  |some a,some b=>(match rec e a b,Lm P rec e sz xs ys l with|some r,some s=>some (r&&s)|_,_=>none)
  |_,_=>none
def DG(P:Program):Nat->TypeId->Value->Value->Option Bool
 |0,_,_,_=>none
 |d+1,t,x,y=>
  match P.underlying t,x,y with
  |some .bool,.bool a,.bool b=>some (a==b)
  |some (.int _),.int k a,.int eg b=>bif decide (k=eg)then some (a==b)else none
  |some .string,.string a,.string b=>some (a==b)
  |some (.struct e3),.agg xs,.agg ys=>bif P.stoodInHeld t then none else Ll P (DG P d) xs ys e3.toList
  |some (.array len e),.agg xs,.agg ys=>(match P.info? e with|some i=>Lm P (DG P d) e i.size xs ys (ayD len)|none=>none)
  |_,_,_=>none
def Hh(rec:TypeId->Bool):List Field->Bool
 |[]=>false
 |f::l=>bif rec f.type then true else Hh rec l
def uB(P:Program):Nat->TypeId->Bool
 |0,_=>true
 |d+1,t=>match P.underlying t with
  |some (.interface _)=>true
  |some (.struct e3)=>Hh (uB P d) e3.toList
  |some (.array _ e)=>uB P d e
  |_=>false
theorem SJ{D:Nat}(ih:∀t,uB P d t=false->P.eqGuardType D t=false):∀l:List Field,Hh (uB P d) l=false->(l.any fun f=>f.name != "_" &&P.eqGuardType D f.type)=false
 |[],_=>rfl
 |f::l,h=>by
  unfold Hh at h
  cases ba:uB P d f.type with
  |true=>simp [ba]at h
  |false=>
   simp only [ba,cond_false]at h
   rw [List.any_cons,ih _ ba,SJ ih l h]
   simp
theorem Hi:∀(d D:Nat) (t:TypeId),d<=D->uB P d t=false->P.eqGuardType D t=false
 |0,_,_,_,h=>by cases h
 |d+1,0,_,aR,_=>by omega
 |d+1,D+1,t,aR,h=>by
  unfold uB at h
  unfold Program.eqGuardType
  split at h
  ·cases h
  ·rename_i e3 hu
   rw [hu]
   simp only
   rw [<-Array.any_toList]
   exact SJ (λt aW=>Hi d D t (by omega) aW) e3.toList h
  ·rename_i n e hu
   rw [hu]
   exact Hi d D e (by omega) h
  ·rename_i bb bK bw
   split
   ·rename_i hu;exact absurd hu (bb _)
   ·rename_i hu;exact absurd hu (bK _)
   ·rename_i hu;exact absurd hu (bw _ _)
   ·rfl
def DH(P:Program)(t:TypeId)(x y:Value):Option Bool:=match x,y with
 | .agg _,.agg _=>bif uB P 6 t then none else DG P 6 t x y
 |_,_=>none
def zr(P:Program)(op:BinOp)(t:TypeId)(ef ez:Operand)(x y:Value)(K:Value->Prop):Prop:=
 match DH P t x y with
 |some r=>(match op with| .neq=>K (.bool (!r))|_=>K (.bool r))
 |none=>∃r:Bool,kM P (jk op t ef ez x y) (.bool r)/\K (.bool r)
def Bu(P:Program)(op:BinOp)(t:TypeId)(ef ez:Operand)(x y:Value)(K:Value->Prop):Prop:=
 match op,x,y with
 | .shl,.int k a,.int _ b=>dB (decide (0<=b)) (K (.int k (k.wrap (a*2^min b.toNat k.bits))))
 | .shr,.int k a,.int _ b=>dB (decide (0<=b)) (K (.int k (a.fdiv (2^min b.toNat k.bits))))
 | .quo,.int k a,.int eg b=>dB (decide (k=eg)) (dB (decide (b≠0)) (K (.int k (k.wrap (a.tdiv b)))))
 | .rem,.int k a,.int eg b=>dB (decide (k=eg)) (dB (decide (b≠0)) (K (.int k (a.tmod b))))
 | .add,.string a,.string b=>dB (decide (a.size+b.size<=9223372036854775807)) (K (.string (a++b)))
 | .eql,.bool a,.bool b=>qN P t .bool ef ez (.bool a) (.bool b) .eql (a==b) K
 | .neq,.bool a,.bool b=>qN P t .bool ef ez (.bool a) (.bool b) .neq (!(a==b)) K
 | .eql,.pointer a,.pointer none=>qN P t .ptr ef ez (.pointer a) (.pointer none) .eql a.isNone K
 | .neq,.pointer a,.pointer none=>qN P t .ptr ef ez (.pointer a) (.pointer none) .neq (!a.isNone) K
 | .eql,.slice a n c,.slice none bn bg=>qN P t .slice ef ez (.slice a n c) (.slice none bn bg) .eql a.isNone K
 | .neq,.slice a n c,.slice none bn bg=>qN P t .slice ef ez (.slice a n c) (.slice none bn bg) .neq (!a.isNone) K
 | .eql,.map a,.map none=>qN P t .map ef ez (.map a) (.map none) .eql a.isNone K
 | .neq,.map a,.map none=>qN P t .map ef ez (.map a) (.map none) .neq (!a.isNone) K
 | .eql,.int k a,.int eg b=>mX P (binOp .eql t (.int k a) (.int eg b)) K
 | .neq,.int k a,.int eg b=>mX P (binOp .neq t (.int k a) (.int eg b)) K
 | .eql,.string a,.string b=>K (.bool (a.toList==b.toList))
 | .neq,.string a,.string b=>K (.bool (!(a.toList==b.toList)))
 | .eql,x,y=>zr P .eql t ef ez x y K
 | .neq,x,y=>zr P .neq t ef ez x y K
 |_,_,_=>mX P (do eqGuard op t ef ez x y;binOp op t x y) K
def Ln(P:Program)(t:TypeId):Bool:=match P.underlying t with|some (.interface _)=>true|_=>false
def Bv(P:Program)(op:BinOp)(t:TypeId)(ef ez:Operand)(x y:Value)(K:Value->Prop):Prop:=
 bif Ln P t then(match op with
  | .eql=>∃r:Bool,kM P (jk .eql t ef ez x y) (.bool r)/\K (.bool r)
  | .neq=>∃r:Bool,kM P (jk .neq t ef ez x y) (.bool r)/\K (.bool r)
  |_=>False)
 else Bu P op t ef ez x y K
def rK:Option Value->Option Int
 |none=>some 0
 |some (.int _ i)=>some i
 |_=>none
def zt(len:Nat):Option Value->Option Int
 |none=>some len
 |some (.int _ i)=>some i
 |_=>none
def df(cap l sz:Nat)(a:Option Addr):Option Addr:=match l with
 |0=>a
 |l+1=>if cap=l+1 then a else a.map (·.add ((l+1)*sz))
theorem vS(cap l sz:Nat)(a:Option Addr):df cap l sz a=if cap=l then a else a.map (·.add (l*sz)):=by
 cases l with
 |zero=>
  have:∀x:Addr,x.add 0=x:=λx=>by cases x;rfl
  simp [df,this]
 |succ l=>rfl
def Hj(P:Program)(t:TypeId)(x:Value)(dH az:Option Value)(oD:Value)(K:Value->Prop):Prop:=
 match P.underlying t,x,rK dH,az,oD with
 |some (.slice e),.slice a _ cap,some l,some (.int _ h),.int _ m=>
  (match P.info? e with
  |some inf=>dB (decide (0<=l/\l<=h/\h<=m/\m<=cap)) (K (.slice (df m.toNat l.toNat inf.size a) (h.toNat-l.toNat) (m.toNat-l.toNat)))
  |none=>False)
 |_,_,_,_,_=>False
def Bw(P:Program)(t:TypeId)(x:Value)(dH az oD:Option Value)(K:Value->Prop):Prop:=
 match oD with
 |some m=>Hj P t x dH az m K
 |none=>
  match P.underlying t,x with
  |some .string,.string s=>
   (match rK dH,zt s.size az with
   |some l,some h=>dB (decide (0<=l/\l<=h/\h<=s.size)) (K (.string (s.extract l.toNat h.toNat)))
   |_,_=>False)
  |some (.slice e),.slice a len cap=>
   (match rK dH,zt len az,P.info? e with
   |some l,some h,some inf=>dB (decide (0<=l/\l<=h/\h<=cap)) (K (.slice (df cap l.toNat inf.size a) (h.toNat-l.toNat) (cap-l.toNat)))
   |_,_,_=>False)
  |some (.array len e),.pointer (some aC)=>
   (match rK dH,zt len az,P.info? e with
   |some l,some h,some inf=>dB (decide (0<=l/\l<=h/\h<=len)) (K (.slice (df len l.toNat inf.size (some aC)) (h.toNat-l.toNat) (len-l.toNat)))
   |_,_,_=>False)
  |_,_=>False
def Bx(P:Program)(t:TypeId)(x i:Value)(K:Value->Prop):Prop:=
 match P.underlying t,x,i with
 |some (.slice e),.slice base len _,.int _ i=>(match P.info? e with|some inf=>fp base λaC=>dB (decide (0<=i/\i<len)) (K (.pointer (some (aC.add (i.toNat *inf.size)))))|none=>False)
 |some (.array len e),.pointer (some aC),.int _ i=>(match P.info? e with|some inf=>dB (decide (0<=i/\i<len)) (K (.pointer (some (aC.add (i.toNat *inf.size)))))|none=>False)
 |_,_,_=>False
def oZ(P:Program)(e:TypeId)(cs:List Value)(off:Nat)(v:Value):Prop:=p1 P (part e ⟨cs⟩ off)=some v
def bo(s:ByteArray)(i:Nat):Nat:=(s.get! i).toNat
theorem SK{s:ByteArray}(h:i<s.size):∃b:UInt8,s[i]?=some b/\b.toNat=bo s i:=by
 refine⟨s[i],getElem?_pos s i h,?_⟩
 cases s with|mk a=>
 simp only [bo]
 show(a[i]'_).toNat=(a[i]!).toNat
 rw [getElem!_pos a i h]
def By(P:Program)(t:TypeId)(x i:Value)(K:Value->Prop):Prop:=
 match P.underlying t,x,i with
 |some .string,.string s,.int _ i=>dB (decide (0<=i/\i<s.size)) (K (.int .u8 (bo s i.toNat)))
 |some (.array len e),.agg cs,.int _ i=>(match P.info? e with|some inf=>dB (decide (0<=i/\i<len)) (zl (Bq P 8 e) λv=>oZ P e cs.toList (i.toNat *inf.size) v/\K v)|none=>False)
 |_,_,_=>False
def DI(x:Value)(K:Value->Prop):Prop:=
 match x with
 | .pointer kL=>fp kL λa=>K (.pointer (some a))
 | .func (.func k) a b=>K (.func (.func k) a b)
 |_=>False
def Hk(P:Program)(ts:Array TypeId)(t:TypeId)(ae:List Value):Option Value:=match ae with
 |[.map _]=>none
 |ae=>p1 P (Builtin.len_ ts t ⟨ae⟩)
theorem adT{ts:Array TypeId}(h:Hk P ts t ae=some v):p1 P (Builtin.len_ ts t ⟨ae⟩)=some v:=by
 unfold Hk at h
 split at h
 ·cases h
 ·exact h
def qO(P:Program)(n:Nat)(f:F)(ad:Oper)(H:U)(K:Value->Prop):Prop:=
 match ad.op with
 | .move x| .assign x=>K (b8 n f x)
 | .pick c a b=>(match b8 n f c with| .bool c=>aU c (K (b8 n f a)) (K (b8 n f b))|_=>False)
 | .build t parts=>(match Lj P t (zi n f parts.toList)with|some v=>K v|none=>False)
 | .load t a=>zq P t (b8 n f a) H K
 | .nilCheck x=>DI (b8 n f x) K
 | .binOp op t x y _=>Bv P op t x y (b8 n f x) (b8 n f y) K
 | .unOp op _ x=>mX P (Op.unary op (b8 n f x)) K
 | .convert s t x=>mX P (convert s t (b8 n f x)) K
 | .makeInterface t x=>mX P (Instr.makeInterface t (b8 n f x)) K
 | .makeFunc fn first captured=>mX P (Instr.makeFunc fn ⟨fQ n f first.toList⟩ ⟨fQ n f captured.toList⟩) K
 | .slice t x dH az oD=>Bw P t (b8 n f x) (Hc n f dH) (Hc n f az) (Hc n f oD) K
 | .fieldAddr t x i=>mX P (Instr.fieldAt t (b8 n f x) i) K
 | .field t x i=>mX P (Instr.field t (b8 n f x) i) K
 | .indexAddr t x i=>Bx P t (b8 n f x) (b8 n f i) K
 | .index t x i=>By P t (b8 n f x) (b8 n f i) K
 | .lookup t m k ok=>oA (qM P ad.type) λv=>Rd P (Instr.lookup t (b8 n f m) (b8 n f k) ok) H v/\K v
 | .typeAssert x t u ok=>oA (qM P ad.type) λv=>Rd P (Instr.typeAssert (b8 n f x) t u ok) H v/\K v
 | .extract t i=>mX P (Instr.extract (b8 n f t) i) K
 | .call {callee:=.builtin .len,args,argTypes}=>
   (match Hk P argTypes ad.type (fQ n f args.toList)with
   |some v=>K v
   |none=>oA (qM P ad.type) λv=>Rd P (Builtin.len_ argTypes ad.type ⟨fQ n f args.toList⟩) H v/\K v)
 | .call {callee:=.builtin .cap,args,argTypes}=>mX P (Builtin.cap_ argTypes ad.type ⟨fQ n f args.toList⟩) K
 | .call {callee:=.builtin .min,args,argTypes}=>mX P (Builtin.min_ argTypes ad.type ⟨fQ n f args.toList⟩) K
 | .call {callee:=.builtin .max,args,argTypes}=>mX P (Builtin.max_ argTypes ad.type ⟨fQ n f args.toList⟩) K
 |_=>False
def Hl(P:Program):Op->Bool
 | .move _| .assign _| .pick .. | .build .. | .load .. | .nilCheck _| .binOp .. | .unOp .. | .makeInterface .. | .makeFunc .. | .slice .. | .fieldAddr .. | .field .. | .indexAddr .. | .index .. | .lookup ..
 | .typeAssert .. | .extract .. =>true
 | .convert s t _=>(match P.underlying s,P.underlying t with|some (.int _),some (.int _)=>true|some .string,some .string=>true|_,_=>false)
 | .call {callee:=.builtin .len,.. }| .call {callee:=.builtin .cap,.. }| .call {callee:=.builtin .min,.. }| .call {callee:=.builtin .max,.. }=>true
 |_=>false
def nW(P:Program)(n:Nat)(f:F)(ad:Oper)(H:U)(K:Value->U->Prop):Prop:=
 bif Hl P ad.op then qO P n f ad H λv=>K v H else
 match ad.op with
 | .alloc t=>(match zeroOf P t with|some z=>∀b H',dV H b (.cells z.cells t) H'->K (.pointer (some ⟨b,0,none⟩)) H'|none=>False)
 | .box t x=>∀b H',dV H b (.cells (b8 n f x).cells t) H'->K (.pointer (some ⟨b,0,none⟩)) H'
 | .buildSlice t len parts=>(match Lk P t len (zi n f parts.toList)with
  |some (e,cs)=>∀b H',dV H b (.cells ⟨cs⟩ e) H'->K (.slice (some ⟨b,0,none⟩) len len) H'
  |none=>False)
 | .store t a x=>(match b8 n f a with| .pointer (some aC)=>∃H',oz P t H aC (b8 n f x) H'/\K undef H'|_=>False)
 | .makeMap t r=>(match r with|none=>∀b H',dV H b (.map #[] 0) H'->K (.map (some b)) H' |some r=>gD P (Instr.makeMap t (some (b8 n f r))) H λv H'=>pZ .map λu=>v=u/\K u H')
 | .makeSlice t l c=>gD P (Instr.makeSlice t (b8 n f l) (b8 n f c)) H λv H'=>pZ .slice λu=>v=u/\K u H'
 | .convert s t x=>gD P (convert s t (b8 n f x)) H λv H'=>oA (qM P t) λu=>v=u/\K u H'
 | .mapUpdate t m k x| .insert t m k x=>jc P (Instr.mapUpdate t (b8 n f m) (b8 n f k) (b8 n f x)) H λH'=>K undef H'
 | .range t x=>gD P (Instr.range t (b8 n f x)) H λv H'=>pZ .ptr λu=>v=u/\K u H'
 | .next it str=>gD P (Instr.next (b8 n f it) str ad.type) H λv H'=>(v=.tuple #[.bool false]/\K (.tuple #[.bool false]) H')\/(∃k x,v=.tuple #[.bool true,k,x]/\K (.tuple #[.bool true,k,x]) H')
 | .entry it=>gD P (Instr.entry (b8 n f it)) H λv H'=>∃k x,v=.tuple #[k,x]/\K (.tuple #[k,x]) H'
 | .mapEntry t m k=>gD P (Instr.mapEntry t (b8 n f m) (b8 n f k)) H K
 | .entryStore t m s x=>jc P (Instr.entryStore t (b8 n f m) (b8 n f s) (b8 n f x)) H λH'=>K undef H'
 | .call {callee:=.builtin .append,args,argTypes}=>gD P (Builtin.append_ argTypes ad.type ⟨fQ n f args.toList⟩) H λv H'=>pZ .slice λu=>v=u/\K u H'
 | .call {callee:=.builtin .copy,args,argTypes}=>gD P (Builtin.copy_ argTypes ad.type ⟨fQ n f args.toList⟩) H λv H'=>pZ (.int .i64) λu=>v=u/\K u H'
 | .call {callee:=.builtin .delete,args,argTypes}=>gD P (Builtin.delete_ argTypes ad.type ⟨fQ n f args.toList⟩) H λv H'=>v=.tuple #[]/\K (.tuple #[]) H'
 | .call {callee:=.builtin .clear,args,argTypes}=>gD P (Builtin.clear_ argTypes ad.type ⟨fQ n f args.toList⟩) H λv H'=>v=.tuple #[]/\K (.tuple #[]) H'
 | .call {callee:=.builtin .unsafeString,args,argTypes}=>gD P (Builtin.unsafeString_ argTypes ad.type ⟨fQ n f args.toList⟩) H λv H'=>pZ .str λu=>v=u/\K u H'
 | .call {callee:=.builtin .unsafeSliceData,args,argTypes}=>gD P (Builtin.unsafeSliceData_ argTypes ad.type ⟨fQ n f args.toList⟩) H λv H'=>pZ .ptr λu=>v=u/\K u H'
 | .call {callee:=.value g,args,.. }=>
  (match g with
  | .func k=>aU (zo P k) (fo P k ⟨fQ n f args.toList⟩ H λv H'=>oA (qM P ad.type) λu=>v=u/\K u H') (pX P k ⟨fQ n f args.toList⟩ H λv H'=>oA (qM P ad.type) λu=>v=u/\K u H')
  |g=>dY P (b8 n f g) (fQ n f args.toList) H λv H'=>oA (qM P ad.type) λu=>v=u/\K u H')
 | .call {callee:=.invoke g name,args,.. }=>Li P (b8 n f g) name (fQ n f args.toList) H λv H'=>oA (qM P ad.type) λu=>v=u/\K u H'
 |_=>False
def uC(ops:List Oper)(j:Nat):Option Nat:=match ops[j]? with|some ad=>ad.dst|none=>none
def lj(P:Program)(n:Nat)(ops:List Oper):List Oper->F->U->(F->U->Prop)->Prop
 |[],f,H,K=>K f H
 |ad::rest,f,H,K=>
  match ad.guard with
  |none=>nW P n f ad H λv H'=>lj P n ops rest (eI f ad.dst v) H' K
  |some (j,want)=>
   match uC ops j with
   |none=>lj P n ops rest (eI f ad.dst undef) H K
   |some d=>
    match b8 n f (.tmp d)with
    | .bool c=>aU c
      (bif want then nW P n (gq f d (.bool true)) ad H λv H'=>lj P n ops rest (eI (gq f d (.bool true)) ad.dst v) H' K
       else lj P n ops rest (eI (gq f d (.bool true)) ad.dst undef) H K)
      (bif want then lj P n ops rest (eI (gq f d (.bool false)) ad.dst undef) H K
       else nW P n (gq f d (.bool false)) ad H λv H'=>lj P n ops rest (eI (gq f d (.bool false)) ad.dst v) H' K)
    |_=>lj P n ops rest (eI f ad.dst undef) H K
def mv(P:Program)(n:Nat)(ops:List Oper)(H:U):List Oper->F->(F->Prop)->Prop
 |[],f,K=>K f
 |ad::rest,f,K=>
  match ad.guard with
  |none=>qO P n f ad H λv=>mv P n ops H rest (eI f ad.dst v) K
  |some (j,want)=>
   match uC ops j with
   |none=>mv P n ops H rest (eI f ad.dst undef) K
   |some d=>
    match b8 n f (.tmp d)with
    | .bool c=>aU c
      (bif want then qO P n (gq f d (.bool true)) ad H λv=>mv P n ops H rest (eI (gq f d (.bool true)) ad.dst v) K
       else mv P n ops H rest (eI (gq f d (.bool true)) ad.dst undef) K)
      (bif want then mv P n ops H rest (eI (gq f d (.bool false)) ad.dst undef) K
       else qO P n (gq f d (.bool false)) ad H λv=>mv P n ops H rest (eI (gq f d (.bool false)) ad.dst v) K)
    |_=>mv P n ops H rest (eI f ad.dst undef) K
def guarded(ops:List Oper)(n:Nat)(ad:Oper)(f:F)(exec skip:F->Prop):Prop:=
 match ad.guard with
 |none=>exec f
 |some (j,want)=>
  match uC ops j with
  |none=>skip f
  |some d=>
   match b8 n f (.tmp d)with
   | .bool c=>aU c
     (bif want then exec (gq f d (.bool true))else skip (gq f d (.bool true)))
     (bif want then skip (gq f d (.bool false))else exec (gq f d (.bool false)))
   |_=>skip f
inductive e9 where
 |done
 |quiet (i:Nat) (s:e9)
 |pick (s:e9)
 |alt (i:Nat) (s r:e9)
 |stop
def e9.alts:e9->List Nat
 | .alt i _ r=>i::r.alts
 |_=>[]
def e9.rL:e9->Bool
 | .stop=>true
 |_=>false
def e9.zu:e9->Bool
 | .stop=>false
 | .alt .. =>false
 |_=>true
def e9.depth:e9->Nat
 | .done=>0
 | .quiet _ s=>s.depth+1
 | .pick s=>s.depth
 | .alt _ s r=>cond (axF (s.depth+1) r.depth) r.depth (s.depth+1)
 | .stop=>0
def gM(m i:Nat):Bool:=LY (Nat.mod (Nat.div m (ax0 2 i)) 2) 1
theorem rM(m i:Nat):gM m i=Nat.testBit m i:=by
 unfold gM
 rw [Nat.testBit_eq_decide_div_mod_eq]
 show LY (m/2^i % 2) 1=_
 cases h:LY (m/2^i % 2) 1 with
 |true=>simp [axB h]
 |false=>
  have:¬m/2^i % 2=1:=λe=>by rw [e]at h;cases h
  simp [this]
def mw(m i:Nat):Nat:=axP m (ax0 2 i)
def xJ(m:Nat)(ad:Oper):Bool:=ad.after.toList.all λe=> !Region.binds .any e||gM m e.on
def zv:List Oper->Nat->List (Oper×Nat)
 |[],_=>[]
 |ad::l,k=>(ad,k)::zv l (k+1)
def Hm(l:List Nat)(i:Nat):Bool:=match l with|[]=>false|x::r=>cond (LY x i) true (Hm r i)
def Hn(ops:List Oper)(m:Nat)(l:List Nat):Bool:=(zv ops 0).all λx=>gM m x.2|| !xJ m x.1||Hm l x.2
def DJ(ops:List Oper)(m i:Nat)(ad:Oper):Bool:=
 !gM m i&&xJ m ad&&(zv ops 0).all λx=>LY x.2 i||gM m x.2||(x.1.after.toList.any λe=>Region.binds .any e&&LY e.on i)||ad.apart ops.toArray x.1
def DK(ops:List Oper)(m:Nat):List Nat->Bool
 |[]=>false
 |i::_=>match ops[i]? with
  |some ad=> !gM m i&&xJ m ad
  |none=>false
def DL(ops:List Oper)(bef:List Nat):Bool:=
 (zv ops 0).all λx=>LY (Nat.land (bef.getD x.2 0) (x.1.after.toList.foldl (λs e=>cond (Region.binds .any e) (axP s (axP (ax0 2 e.on) (bef.getD e.on 0))) s) 0)) (bef.getD x.2 0)
abbrev lk:=List (Nat×(U->Prop))
def iE(bef:List Nat)(j:Nat):lk->lk
 |[]=>[]
 |(i,G)::l=>cond (gM (bef.getD j 0) i) (iE bef j l) ((i,G)::iE bef j l)
def uD:lk->U->Prop->Prop
 |[],_,X=>X
 |x::l,H,X=>x.2 H/\uD l H X
def SL(i:Nat)(ad:Option (U->Prop))(D:lk):lk:=match ad with
 |some F=>(i,F)::D
 |none=>D
def gS(P:Program)(n:Nat)(f:F)(ad:Oper)(v:Value):Option (U->Prop):=
 match ad.op with
 | .load t a=>(match b8 n f a with| .pointer (some aC)=>some λH'=>jS P t H' aC v|_=>none)
 | .lookup t m k ok=>some λH'=>Rd P (Instr.lookup t (b8 n f m) (b8 n f k) ok) H' v
 | .typeAssert x t u ok=>some λH'=>Rd P (Instr.typeAssert (b8 n f x) t u ok) H' v
 | .call {callee:=.builtin .len,args,argTypes}=>(match Hk P argTypes ad.type (fQ n f args.toList)with
  |some _=>none
  |none=>some λH'=>Rd P (Builtin.len_ argTypes ad.type ⟨fQ n f args.toList⟩) H' v)
 |_=>none
def Ho(P:Program)(ops:List Oper)(m i:Nat)(ad:Oper)(s:e9):Bool:=DJ ops m i ad&&Hl P ad.op&&s.zu
def Hp(ops:List Oper)(m:Nat)(s:e9):Bool:=Hn ops m s.alts&&DK ops m s.alts
def SM(ops:List Oper)(m:Nat):Bool:=Hn ops m []
def SN(s:e9):Bool:=s.zu
def il(P:Program)(n:Nat)(ops:List Oper)(bef:List Nat)(K:F->U->Prop):e9->Nat->lk->F->U->Prop
 | .done,m,_,f,H=>dB (SM ops m) (K f H)
 | .quiet i s,m,D,f,H=>
  match ops[i]? with
  |none=>False
  |some ad=>dB (Ho P ops m i ad s) (guarded ops n ad f
    (λf=>qO P n f ad H λv=>il P n ops bef K s (mw m i) (SL i (gS P n f ad v) D) (eI f ad.dst v) H)
    (λf=>il P n ops bef K s (mw m i) D (eI f ad.dst undef) H))
 | .pick s,m,D,f,H=>dB (Hp ops m s) (il P n ops bef K s m D f H)
 | .alt i s r,m,D,f,H=>
  match ops[i]? with
  |none=>False
  |some ad=>
   dB (SN s) (bif r.rL then guarded ops n ad f
     (λf=>nW P n f ad H λv H'=>uD (iE bef i D) H' (il P n ops bef K s (mw m i) (iE bef i D) (eI f ad.dst v) H'))
     (λf=>il P n ops bef K s (mw m i) (iE bef i D) (eI f ad.dst undef) H)
   else guarded ops n ad f
     (λf=>nW P n f ad H λv H'=>uD (iE bef i D) H' (il P n ops bef K s (mw m i) (iE bef i D) (eI f ad.dst v) H'))
     (λf=>il P n ops bef K s (mw m i) (iE bef i D) (eI f ad.dst undef) H)/\il P n ops bef K r m D f H)
 | .stop,_,_,_,_=>False
def Bz(ops:List Oper)(bef:List Nat)(s:e9):Bool:=DL ops bef&&Region.noSelect ops.toArray&&axF s.depth ops.length&&s.zu
inductive lV where
 |normal|exit (id:Nat)|ret
def lV.BA:lV->Exit
 | .normal=>.normal
 | .exit id=>.exit id
 | .ret=>.ret
def hl:List Oper->List Nat
 |[]=>[]
 |ad::l=>match ad.dst with
  |some d=>(match ad.guard with|some _=>d::hl l|none=>d::hl l)
  |none=>hl l
def writes:Code->List Nat
 | .region _ ops _=>hl ops.toList
 | .seq a b=>writes a++writes b
 | .cond _ a b=>writes a++writes b
 | .block _ c=>writes c
 | .loop c=>writes c
 |_=>[]
def mx(l:List Nat)(i:Nat):Bool:=match l with
 |[]=>false
 |x::r=>cond (LY i x) true (mx r i)
abbrev Live:=List (Nat×jj)
def gE(n:Nat)(f:F):Live->List Value
 |[]=>[]
 |s::l=>b8 n f (.tmp s.1)::gE n f l
def mY:Live->List jj
 |[]=>[]
 |s::l=>s.2::mY l
def DM:Live->List Value->Nat->Option Value
 |s::l,v::ae,i=>cond (LY i s.1) (some v) (DM l ae i)
 |_,_,_=>none
def patch(live:Live)(ae:List Value)(W:List Nat)(br f:F):F:=λi=>
 cond (mx W i) (match DM live ae i with|some v=>v|none=>br i) (f i)
inductive hE where
 |none
 |cut (live:Live)
 |tail (n:Nat)
 |et (bef:List Nat) (s:e9)
 |ext
 |dead (w:Bool)
def da(a:hE)(w:Bool)(X:Prop):Prop:=match a,w with
 | .dead true,true=>False
 | .dead false,false=>False
 |_,_=>X
theorem Hq{a:hE}{w:Bool}(h:da a w X):X:=by
 unfold da at h
 split at h
 ·exact h.elim
 ·exact h.elim
 ·exact h
theorem xK{a:hE}{w:Bool}(hk:X->Y)(h:da a w X):da a w Y:=by
 unfold da at h⊢
 split at h
 ·exact h
 ·exact h
 ·exact hk h
def zw(P:Program)(ad:Oper)(v:Value)(K:Value->Prop):Prop:=match ad.op with
 | .extract .. =>oA (qM P ad.type) λu=>v=u/\K u
 |_=>K v
theorem Hr{ad:Oper}(hk:∀v,K v->cc v)(h:zw P ad v K):zw P ad v cc:=by
 unfold zw at h⊢
 split at h
 ·exact uA (λu k=>⟨k.1,hk _ k.2⟩) h
 ·exact hk _ h
theorem SO{ad:Oper}(h:zw P ad v K):K v:=by
 unfold zw at h
 split at h
 ·obtain⟨u,rfl,h⟩:=uz h;exact h
 ·exact h
def rN(P:Program)(n:Nat):List Oper->F->U->(F->U->Prop)->Prop
 |[],f,H,K=>K f H
 |ad::rest,f,H,K=>
  match ad.guard with
  |none=>nW P n f ad H λv H'=>zw P ad v λv=>rN P n rest (eI f ad.dst v) H' K
  |some _=>False
def wb(P:Program)(n:Nat)(a:hE)(ops:List Oper)(f:F)(H:U)(K:F->U->Prop):Prop:=match a with
 | .ext=>rN P n ops f H K
 |_=>lj P n ops ops f H K
def hn(P:Program)(n:Nat)(dL:List Nat->hE):Code->List Nat->(lV->F->U->Prop)->F->U->Prop
 | .skip,_,K,f,H=>K .normal f H
 | .region _ ops draw,p,K,f,H=>
  bif draw then
   (match dL p with
   | .tail m=>dB (Region.lexTailB .any ops m)<|mv P n ops.toList H (ops.toList.take m) f λbL=>lj P n ops.toList (ops.toList.drop m) bL H λll dn=>K .normal ll dn
   | .et bef s=>dB (Bz ops.toList bef s)<|il P n ops.toList bef (λbL H'=>K .normal bL H') s 0 [] f H
   |_=>dB (Region.lexB .any ops)<|mv P n ops.toList H ops.toList f λbL=>K .normal bL H)
  else wb P n (dL p) ops.toList f H λbL H'=>K .normal bL H'
 | .seq a b,p,K,f,H=>
  match dL p with
  | .cut live=>∃M:List Value->U->Prop,hn P n dL a (0::p) (λe bL H'=>match e with| .normal=>oB (mY live) (gE n bL live) (M (gE n bL live) H')|e=>K e bL H') f H∧
    ∀br:F,p0 (mY live) λae=>∀H',M ae H'->hn P n dL b (1::p) K (patch live ae (writes a) br f) H'
  | .dead _=>hn P n dL a (0::p) (λe bL H'=>match e with| .normal=>False|e=>K e bL H') f H
  |_=>hn P n dL a (0::p) (λe bL H'=>match e with| .normal=>hn P n dL b (1::p) K bL H'|e=>K e bL H') f H
 | .cond c a b,p,K,f,H=>
  (match b8 n f c with| .bool c=>aU c (da (dL p) true (hn P n dL a (0::p) K f H)) (da (dL p) false (hn P n dL b (1::p) K f H))|_=>False)
 | .block id c,p,K,f,H=>hn P n dL c (0::p) (λe bL H'=>match e with| .exit i=>(bif LY i id then K .normal bL H' else K (.exit i) bL H')|e=>K e bL H') f H
 | .loop c,p,K,f,H=>
  match dL p with
  | .cut live=>∃(I:List Value->U->Prop) (ki:List Value->U->Nat),oB (mY live) (gE n f live) (I (gE n f live) H)∧
    ∀br:F,p0 (mY live) λae=>∀H',I ae H'->hn P n dL c (0::p) (λe ll dn=>match e with| .normal=>oB (mY live) (gE n ll live) (I (gE n ll live) dn/\ki (gE n ll live) dn<ki ae H')|e=>K e ll dn) (patch live ae (writes c) br f) H'
  |_=>False
 | .exit id,_,K,f,H=>K (.exit id) f H
 | .ret,_,K,f,H=>K .ret f H
 |_,_,_,_,_=>False
def nX(P:Program)(n:Nat)(f:F)(H:U):List ResultVar->(List Value->Prop)->Prop
 |[],K=>K []
 | .tmp t::l,K=>nX P n f H l λae=>K (b8 n f (.tmp t)::ae)
 | .cell a t::l,K=>zq P t (b8 n f (.tmp a)) H λv=>nX P n f H l λae=>K (v::ae)
def my:List Value->Value
 |[v]=>v
 |ae=>.tuple ⟨ae⟩
def Hs(P:Program)(n:Nat)(rs:List ResultVar)(R:Value->U->Prop):lV->F->U->Prop
 | .normal,f,H=>nX P n f H rs λae=>R (my ae) H
 | .ret,f,H=>nX P n f H rs λae=>R (my ae) H
 | .exit _,_,_=>False
def s6(args:List Value):F:=match args with
 |[]=>λ_=>undef
 |v::l=>λi=>match i with|0=>v|i+1=>s6 l i
def DN:List Nat->List Nat->Bool
 |[],[]=>true
 |a::l,b::m=>cond (LY a b) (DN l m) false
 |_,_=>false
def DO:List (List Nat×hE)->List Nat->hE
 |[],_=>.none
 |x::l,p=>cond (DN x.1 p) x.2 (DO l p)
theorem qP{s:Sem Value}(h:mX P s K):∃v,(∀w,s.run P w=.ok v w)/\K v:=by
 unfold mX at h
 split at h
 ·rename_i v aI;exact⟨v,λw=>zn aI w,h⟩
 ·exact h.elim
theorem eU{d:TypeDesc}(h:P.underlying t=some d)(w:World):(underlying t).run P w=.ok d w:=by
 simp [underlying,program,axy,bind,axR,h,pure]
theorem xL{b:B}{ef ez:Operand}{op:BinOp}{r:Bool}
  (h:qN P t b ef ez x y op r K)
  (h1:b=.bool->P.underlying t=some .bool->kM P (jk op t ef ez x y) (.bool r))
  (ab:b=.ptr->∀e,P.underlying t=some (.pointer e)->kM P (jk op t ef ez x y) (.bool r))
  (ar:b=.slice->∀e,P.underlying t=some (.slice e)->kM P (jk op t ef ez x y) (.bool r))
  (a7:b=.map->∀e dp,P.underlying t=some (.map e dp)->kM P (jk op t ef ez x y) (.bool r)):∃v,kM P (jk op t ef ez x y) v/\K v:=by
 unfold qN at h
 split at h
 ·rename_i hu;exact⟨_,h1 rfl hu,h⟩
 ·rename_i hu;exact⟨_,ab rfl _ hu,h⟩
 ·rename_i hu;exact⟨_,ar rfl _ hu,h⟩
 ·rename_i hu;exact⟨_,a7 rfl _ _ hu,h⟩
 ·obtain⟨r,aB,hk⟩:=h;exact⟨_,aB,hk⟩
theorem SP(hu:P.underlying t=some .bool)(a b:Bool)(d:Nat)(w:World):(Op.equalIn (d+1) t (.bool a) (.bool b)).run P w=.ok (a==b) w:=by
 simp [Op.equalIn,eU hu]
theorem SQ(hu:P.underlying t=some (.pointer e))(a:Option Addr)(d:Nat)(w:World):(Op.equalIn (d+1) t (.pointer a) (.pointer none)).run P w=.ok a.isNone w:=by
 cases a<;>simp [Op.equalIn,eU hu]
theorem SR(hu:P.underlying t=some (.slice e))(a:Option Addr)(n c bn bg:Nat)(d:Nat)(w:World):(Op.equalIn (d+1) t (.slice a n c) (.slice none bn bg)).run P w=.ok a.isNone w:=by
 cases a<;>simp [Op.equalIn,eU hu]
theorem SS{dp:TypeId}(hu:P.underlying t=some (.map e dp))(a:Option Nat)(d:Nat)(w:World):(Op.equalIn (d+1) t (.map a) (.map none)).run P w=.ok a.isNone w:=by
 cases a<;>simp [Op.equalIn,eU hu]
theorem Ht{ef ez:Operand}{r:Bool}(ba:eqGuard .eql t ef ez x y=pure ())(al:binOp .eql t x y=do pure (.bool (<-Op.equal t x y)))
  (h:∀d w,(Op.equalIn (d+1) t x y).run P w=.ok r w):kM P (jk .eql t ef ez x y) (.bool r):=by
 intro w
 unfold jk
 rw [ba,al,x3,axG,x4,x3]
 show((Op.equalIn (9999+1) t x y).run P w).andThen _=_
 rw [h 9999 w]
 rfl
theorem zx{ef ez:Operand}{r:Bool}(ba:eqGuard .neq t ef ez x y=pure ())(al:binOp .neq t x y=do pure (.bool (!(<-Op.equal t x y))))
  (h:∀d w,(Op.equalIn (d+1) t x y).run P w=.ok r w):kM P (jk .neq t ef ez x y) (.bool (!r)):=by
 intro w
 unfold jk
 rw [ba,al,x3,axG,x4,x3]
 show((Op.equalIn (9999+1) t x y).run P w).andThen _=_
 rw [h 9999 w]
 rfl
theorem SU:∀(d:Nat) {t:TypeId} {x y:Value} {r:Bool},DG P d t x y=some r->∀m w,d<=m->(Op.equalIn m t x y).run P w=.ok r w:=by
 intro d
 induction d with
 |zero=>intro t x y r h;cases h
 |succ d ih=>
  intro t x y r h m w hm
  obtain⟨m,rfl⟩:∃k,m=k+1:=⟨m-1,by omega⟩
  unfold DG at h
  split at h
  ·rename_i hu
   cases h
   simp [Op.equalIn,eU hu]
  ·rename_i hu
   rename_i k a eg b
   by_cases hk:k=eg
   ·simp [hk]at h
    subst h
    simp [Op.equalIn,eU hu,hk]
   ·simp [hk]at h
  ·rename_i hu
   cases h
   simp [Op.equalIn,eU hu]
  ·rename_i e3 xs ys hu
   cases dW:P.stoodInHeld t with
   |true=>simp [dW]at h
   |false=>
    simp only [dW,cond_false]at h
    simp only [Op.equalIn,x3,eU hu,x4,run_program,dW,axH,if_false]
    rw [<-Array.forIn_toList]
    generalize e3.toList=l at h
    clear hu
    induction l generalizing r with
    |nil=>cases h;simp
    |cons f l Lo=>
     unfold Ll at h
     by_cases ay:f.name= "_"
     ·simp [ay]at h
     ·have DP:(f.name== "_")=false:=by simpa using ay
      rw [DP,cond_false]at h
      split at h
      ·rename_i a b bW al
       split at h
       ·rename_i fB gj yW gC
        cases h
        simp only [ay2,x3,Sem.run_ite,ay,ne_eq,not_false_eq_true,if_true,zn bW,zn al,x4]
        rw [ih yW m w (by omega)]
        cases fB
        ·simp
        ·simp only [x4,ayE,axH,if_false,axG,ayb]
         exact Lo gC
       ·cases h
      ·cases h
  ·rename_i len e xs ys hu
   split at h
   ·rename_i i az
    have hs:(sizeOf e).run P w=.ok i.size w:=by
     simp [sizeOf,typeInfo,program,axy,bind,axR,az,pure]
    simp only [Op.equalIn,x3,eU hu,x4,hs]
    simp only [Std.Legacy.Range.forIn_eq_forIn_range',Std.Legacy.Range.size,Nat.sub_zero,Nat.add_one_sub_one,Nat.div_one,<-List.range_eq_range']
    generalize ayD len=l at h
    clear hu
    induction l generalizing r with
    |nil=>cases h;simp
    |cons f l Lo=>
     unfold Lm at h
     split at h
     ·rename_i a b bW al
      split at h
      ·rename_i fB gj yW gC
       cases h
       simp only [ay2,x3,Sem.run_ite,zn bW,zn al,x4]
       rw [ih yW m w (by omega)]
       cases fB
       ·simp
       ·simp only [x4,ayE,axH,if_false,axG,ayb]
        exact Lo gC
      ·cases h
     ·cases h
   ·cases h
  ·cases h
theorem adU{ef ez:Operand}{r:Bool}(h:DH P t x y=some r):kM P (jk .eql t ef ez x y) (.bool r):=by
 unfold DH at h
 split at h
 ·cases hg0:uB P 6 t with
  |true=>simp [hg0]at h
  |false=>
   simp only [hg0,cond_false]at h
   have ba:P.eqGuardType P.depth t=false:=Hi 6 P.depth t (by unfold Program.depth Made.depth;omega) hg0
   intro w
   unfold jk
   have aL:=run_eqGuard_agg (P:=P) w .eql t ef ez ‹Array Value› ‹Array Value› ba
   rename_i xs ys
   rw [x3,run_eqGuard_agg w .eql t ef ez xs ys ba,x4]
   rw [run_eql_struct,SU 6 h 10000 w (by decide)]
   rfl
 ·cases h
theorem adV{ef ez:Operand}{r:Bool}(h:DH P t x y=some r):kM P (jk .neq t ef ez x y) (.bool (!r)):=by
 unfold DH at h
 split at h
 ·cases hg0:uB P 6 t with
  |true=>simp [hg0]at h
  |false=>
   simp only [hg0,cond_false]at h
   have ba:P.eqGuardType P.depth t=false:=Hi 6 P.depth t (by unfold Program.depth Made.depth;omega) hg0
   intro w
   unfold jk
   rename_i xs ys
   rw [x3,run_eqGuard_agg w .neq t ef ez xs ys ba,x4]
   rw [run_neq_struct,SU 6 h 10000 w (by decide)]
   rfl
 ·cases h
theorem SV{op:BinOp}{ef ez:Operand}(aw:op=.eql\/op=.neq)(h:zr P op t ef ez x y K):∃v,kM P (jk op t ef ez x y) v/\K v:=by
 unfold zr at h
 split at h
 ·rename_i r aB
  rcases aw with rfl|rfl
  ·exact⟨_,adU aB,h⟩
  ·exact⟨_,adV aB,h⟩
 ·obtain⟨r,aB,hk⟩:=h;exact⟨_,aB,hk⟩
theorem adW{op:BinOp}{ef ez:Operand}(h:Bu P op t ef ez x y K):
  ∃v,(∀w,(do eqGuard op t ef ez x y;binOp op t x y:Sem Value).run P w=.ok v w)/\K v:=by
 unfold Bu at h
 split at h
 ·obtain⟨al,hk⟩:=pa h
  refine⟨_,λw=> ?_,hk⟩
  simp [eqGuard,binOp,Op.shift,show¬(_:Int)<0 from Int.not_lt.2 al]
 ·obtain⟨al,hk⟩:=pa h
  refine⟨_,λw=> ?_,hk⟩
  simp [eqGuard,binOp,Op.shift,show¬(_:Int)<0 from Int.not_lt.2 al]
 ·obtain⟨qH,h⟩:=pa h
  obtain⟨al,hk⟩:=pa h
  refine⟨_,λw=> ?_,hk⟩
  simp [eqGuard,binOp,Op.intDiv,qH,al]
 ·obtain⟨qH,h⟩:=pa h
  obtain⟨al,hk⟩:=pa h
  refine⟨_,λw=> ?_,hk⟩
  simp [eqGuard,binOp,Op.intDiv,qH,al]
 ·rename_i a b
  obtain⟨al,hk⟩:=pa h
  refine⟨_,λw=> ?_,hk⟩
  have:¬(((a.size+b.size:Nat):Int)>IntKind.i64.max):=by
   have e:IntKind.i64.max=9223372036854775807:=by decide
   rw [e];omega
  simp only [eqGuard,binOp,Op.stringOp,if_neg this]
  simp
 case h_6=>
  refine xL h ?_ ?_ ?_ ?_<;>intro al<;>first|(cases al;done)|skip
  intros
  rename_i hu
  exact Ht rfl rfl (SP hu _ _)
 case h_7=>
  refine xL h ?_ ?_ ?_ ?_<;>intro al<;>first|(cases al;done)|skip
  intros
  rename_i hu
  exact zx rfl rfl (SP hu _ _)
 case h_8=>
  refine xL h ?_ ?_ ?_ ?_<;>intro al<;>first|(cases al;done)|skip
  intros
  rename_i hu
  exact Ht rfl rfl (SQ hu _)
 case h_9=>
  refine xL h ?_ ?_ ?_ ?_<;>intro al<;>first|(cases al;done)|skip
  intros
  rename_i hu
  exact zx rfl rfl (SQ hu _)
 case h_10=>
  refine xL h ?_ ?_ ?_ ?_<;>intro al<;>first|(cases al;done)|skip
  intros
  rename_i hu
  exact Ht rfl rfl (SR hu _ _ _ _ _)
 case h_11=>
  refine xL h ?_ ?_ ?_ ?_<;>intro al<;>first|(cases al;done)|skip
  intros
  rename_i hu
  exact zx rfl rfl (SR hu _ _ _ _ _)
 case h_12=>
  refine xL h ?_ ?_ ?_ ?_<;>intro al<;>first|(cases al;done)|skip
  intros
  rename_i hu
  exact Ht rfl rfl (SS hu _)
 case h_13=>
  refine xL h ?_ ?_ ?_ ?_<;>intro al<;>first|(cases al;done)|skip
  intros
  rename_i hu
  exact zx rfl rfl (SS hu _)
 case h_14=>obtain⟨v,aB,hk⟩:=qP h;exact⟨v,λw=>by rw [x3];simp only [eqGuard];exact aB w,hk⟩
 case h_15=>obtain⟨v,aB,hk⟩:=qP h;exact⟨v,λw=>by rw [x3];simp only [eqGuard];exact aB w,hk⟩
 case h_16=>exact⟨_,λw=>by simp [eqGuard,binOp,Op.stringOp],h⟩
 case h_17=>exact⟨_,λw=>by simp [eqGuard,binOp,Op.stringOp],h⟩
 case h_18=>exact SV (.inl rfl) h
 case h_19=>exact SV (.inr rfl) h
 case h_20=>exact qP h
theorem adX{op:BinOp}{ef ez:Operand}(h:Bv P op t ef ez x y K):
  ∃v,(∀w,(do eqGuard op t ef ez x y;binOp op t x y:Sem Value).run P w=.ok v w)/\K v:=by
 unfold Bv at h
 cases az:Ln P t with
 |true=>
  simp only [az,cond_true]at h
  split at h
  ·obtain⟨r,aB,hk⟩:=h;exact⟨_,aB,hk⟩
  ·obtain⟨r,aB,hk⟩:=h;exact⟨_,aB,hk⟩
  ·exact h.elim
 |false=>simp only [az,cond_false]at h;exact adW h
theorem DQ(k:IntKind)(i:Int)(y:Nat)(code:BoundsCode)(aF:0<=i)(h1:i<=y)(w:World):
  (Instr.sliceBound (.int k i) y code).run P w=.ok i.toNat w:=by
 simp [Instr.sliceBound,asIntOf,aF,h1]
theorem Lp(b:Bool)(len cap:Nat){dH az:Option Value}{l h:Int}(aG:rK dH=some l)(aq:zt len az=some h)(aF:0<=l)(h1:l<=h)(ab:h<=cap)(w:World)
  :(Instr.sliceBounds b len cap dH az none).run P w=.ok (l.toNat,h.toNat,cap) w:=by
 have s7:∃ay:Nat,h=ay:=⟨h.toNat,by omega⟩
 obtain⟨ay,rfl⟩:=s7
 have aL:(match az with|some v=>Instr.sliceBound v cap (if b then .sliceAcap else .sliceAlen)|none=>pure len:Sem Nat).run P w=.ok ay w:=by
  cases az with
  |none=>simp only [zt,Option.some.injEq]at aq;simp;omega
  |some v=>
   cases v with
   |int k i=>
    simp only [zt,Option.some.injEq]at aq
    subst aq
    simp [DQ _ _ _ _ (show(0:Int)<=ay by omega) ab]
   |_=>simp [zt]at aq
 have a':(match dH with|some v=>Instr.sliceBound v ay .sliceB|none=>pure 0:Sem Nat).run P w=.ok l.toNat w:=by
  cases dH with
  |none=>simp only [rK,Option.some.injEq]at aG;subst aG;simp
  |some v=>
   cases v with
   |int k i=>
    simp only [rK,Option.some.injEq]at aG
    subst aG
    simp [DQ _ _ _ _ aF h1]
   |_=>simp [rK]at aG
 unfold Instr.sliceBounds
 cases az<;>cases dH<;>simp_all
theorem mu{i:TypeInfo}(h:P.info? t=some i)(w:World):(sizeOf t).run P w=.ok i.size w:=by
 simp [sizeOf,typeInfo,program,axy,bind,axR,h,pure]
theorem adY{w:World}(len cap:Nat){dH:Option Value}{l h m:Int}{k eg:IntKind}(aG:rK dH=some l)(aF:0<=l)(h1:l<=h)(ab:h<=m)(ar:m<=cap)
  :(Instr.sliceBounds true len cap dH (some (.int k h)) (some (.int eg m))).run P w=.ok (l.toNat,h.toNat,m.toNat) w:=by
 have ed:(Instr.sliceBound (.int eg m) cap .slice3Acap).run P w=.ok m.toNat w:=DQ _ _ _ _ (by omega) ar w
 have aL:(Instr.sliceBound (.int k h) m.toNat .slice3B).run P w=.ok h.toNat w:=DQ _ _ _ _ (by omega) (by omega) w
 have a':(match dH with|some v=>Instr.sliceBound v h.toNat .slice3C|none=>pure 0:Sem Nat).run P w=.ok l.toNat w:=by
  cases dH with
  |none=>simp only [rK,Option.some.injEq]at aG;subst aG;simp
  |some v=>
   cases v with
   |int k i=>
    simp only [rK,Option.some.injEq]at aG
    subst aG
    simp [DQ _ _ _ _ aF (show i<=(h.toNat:Int) by omega)]
   |_=>simp [rK]at aG
 unfold Instr.sliceBounds
 cases dH<;>simp_all
theorem adZ(aC:Addr)(w:World):(Instr.sureAddr (.pointer (some aC))).run P w=.ok aC w:=by
 simp [Instr.sureAddr]
theorem ad0{dH az:Option Value}{oD:Value}(h:Hj P t x dH az oD K):
  ∃v,(∀w,(Instr.sliceAt t x dH az (some oD)).run P w=.ok v w)/\K v:=by
 unfold Hj at h
 split at h
 ·rename_i e a len cap l k aq eg m hu aG
  split at h
  ·rename_i inf az
   obtain⟨⟨aF,h1,ab,ar⟩,hk⟩:=pa h
   refine⟨_,λw=> ?_,hk⟩
   simp [Instr.sliceAt,Instr.slice,eU hu,adY len cap aG aF h1 ab ar,mu az,vS]
  ·exact h.elim
 ·exact h.elim
theorem ad1{dH az oD:Option Value}(h:Bw P t x dH az oD K):
  ∃v,(∀w,(Instr.sliceAt t x dH az oD).run P w=.ok v w)/\K v:=by
 unfold Bw at h
 cases oD with
 |some _=>exact ad0 h
 |none=>
  simp only at h
  split at h
  ·rename_i s hu
   split at h
   ·rename_i l aq aG pW
    obtain⟨⟨aF,h1,ab⟩,hk⟩:=pa h
    refine⟨_,λw=> ?_,hk⟩
    simp [Instr.sliceAt,Instr.slice,eU hu,Lp false s.size s.size aG pW aF h1 ab]
   ·exact h.elim
  ·rename_i e a len cap hu
   split at h
   ·rename_i l aq inf aG pW az
    obtain⟨⟨aF,h1,ab⟩,hk⟩:=pa h
    refine⟨_,λw=> ?_,hk⟩
    simp [Instr.sliceAt,Instr.slice,eU hu,Lp true len cap aG pW aF h1 ab,mu az,vS]
   ·exact h.elim
  ·rename_i n e aC hu
   split at h
   ·rename_i l aq inf aG pW az
    obtain⟨⟨aF,h1,ab⟩,hk⟩:=pa h
    refine⟨_,λw=> ?_,hk⟩
    simp only [vS]
    simp [Instr.sliceAt,eU hu,adZ,Lp false n n aG pW aF h1 ab,mu az]
    split<;>rfl
   ·exact h.elim
  ·exact h.elim
theorem ad8{i:Value}(h:Bx P t x i K):
  ∃v,(∀w,(Instr.indexAt t x i).run P w=.ok v w)/\K v:=by
 unfold Bx at h
 split at h
 ·rename_i e base len cap k i hu
  split at h
  ·rename_i inf az
   obtain⟨aC,rfl,h⟩:=SH h
   obtain⟨⟨aF,h1⟩,hk⟩:=pa h
   refine⟨_,λw=> ?_,hk⟩
   simp [Instr.indexAt,asIntOf,eU hu,mu az,aF,h1]
  ·exact h.elim
 ·rename_i len e aC k i hu
  split at h
  ·rename_i inf az
   obtain⟨⟨aF,h1⟩,hk⟩:=pa h
   refine⟨_,λw=> ?_,hk⟩
   simp [Instr.indexAt,asIntOf,eU hu,mu az,aF,h1,Instr.sureAddr]
  ·exact h.elim
 ·exact h.elim
theorem ad9{i:Value}(h:By P t x i K):
  ∃v,(∀w,(Instr.index t x i).run P w=.ok v w)/\K v:=by
 unfold By at h
 split at h
 ·rename_i s k i hu
  obtain⟨⟨aF,h1⟩,hk⟩:=pa h
  obtain⟨b,al,e⟩:=SK (s:=s) (i:=i.toNat) (by omega)
  rw [<-e]at hk
  refine⟨_,λw=> ?_,hk⟩
  simp [Instr.index,asIntOf,eU hu,aF,al]
 ·rename_i len e cs k i hu
  split at h
  ·rename_i inf az
   obtain⟨⟨aF,h1⟩,h⟩:=pa h
   obtain⟨v,aH,hk⟩:=DE h
   have aH:p1 P (part e cs (i.toNat *inf.size))=some v:=aH
   refine⟨_,λw=> ?_,hk⟩
   simp [Instr.index,asIntOf,eU hu,aF,h1,mu az,zn aH]
  ·exact h.elim
 ·exact h.elim
theorem SX:∀(cs:List Value) (off:Nat) (v:Value) (ae:List Value),rJ cs off (v::ae)=rJ (cs.set off v) (off+1) ae
 |[],_,_,[]=>rfl
 |[],_,_,_::_=>rfl
 |c::cs,0,v,[]=>by cases cs<;>rfl
 |c::cs,0,v,u::ae=>rfl
 |c::cs,off+1,v,ae=>by
  show c::rJ cs off (v::ae)=rJ (c::cs.set off v) (off+1+1) ae
  rw [SX cs off v ae]
  cases ae with
  |nil=>cases av:cs.set off v<;>simp [rJ]
  |cons=>rfl
theorem SY(off:Nat):∀(ae:List Value) (k:Nat) (cs:Array Value),((ae.zipIdx k).foldl (fun(cs:Array Value) (x:Value×Nat)=>cs.setIfInBounds (off+x.2) x.1) cs).toList=rJ cs.toList (off+k) ae
 |[],k,cs=>by cases h:cs.toList<;>simp [rJ,h]
 |v::ae,k,cs=>by
  simp only [List.zipIdx_cons,ayF]
  rw [SY off ae (k+1) _,SX]
  simp [ayG]
theorem fill_eq(place:Nat->Option (Nat×Nat)):∀(ps:List (Nat×Value)) (cs:Array Value),Instr.fill place cs ps=(zp place cs.toList ps).map List.toArray
 |[],cs=>by simp [Instr.fill,zp]
 |(i,v)::rest,cs=>by
  simp only [Instr.fill,zp]
  cases aH:place i with
  |none=>rfl
  |some p=>
   obtain⟨off,size⟩:=p
   simp only
   have aE:(Array.foldl (fun(cs:Array Value) (x:Value×Nat)=>cs.setIfInBounds (off+x.2) x.1) cs v.cells.zipIdx)=(rJ cs.toList off v.cells.toList).toArray:=by
    apply ayH
    rw [<-Array.foldl_toList,Array.toList_zipIdx,SY off v.cells.toList 0 cs]
    rfl
   by_cases h1:v.cells.size=size
   ·by_cases ab:off+v.cells.size<=cs.size
    ·have aL:LY v.cells.toList.length size=true:=by rw [axM,h1];exact Nat.beq_refl _
     have a':axF (off+v.cells.toList.length) cs.toList.length=true:=by rw [axM,axM];exact ay3 ab
     rw [aL,a']
     have c:¬((v.cells.size≠size||decide (off+v.cells.size>cs.size))=true):=by simp [h1];omega
     rw [if_neg c]
     rw [show(Array.foldl (λcs x=>match x with|(c,j)=>cs.setIfInBounds (off+j) c) cs v.cells.zipIdx)=(rJ cs.toList off v.cells.toList).toArray from aE]
     rw [fill_eq place rest]
     rfl
    ·have a':axF (off+v.cells.toList.length) cs.toList.length=false:=by
      rw [axM,axM]
      cases al:axF (off+v.cells.size) cs.size with
      |false=>rfl
      |true=>exact absurd (ax1 al) ab
     rw [a',Bool.and_false]
     have c:((v.cells.size≠size||decide (off+v.cells.size>cs.size))=true):=by simp;omega
     rw [if_pos c]
     rfl
   ·have aL:LY v.cells.toList.length size=false:=by
     rw [axM]
     cases al:LY v.cells.size size with
     |false=>rfl
     |true=>exact absurd (axB al) h1
    rw [aL,ayc]
    have c:((v.cells.size≠size||decide (off+v.cells.size>cs.size))=true):=by simp [h1]
    rw [if_pos c]
    rfl
theorem ad'(l:List (Nat×Nat)):∀i,Bs l i=l[i]?:=by
 induction l with
 |nil=>intro i;simp [Bs]
 |cons x l ih=>intro i;cases i with|zero=>rfl|succ i=>simpa [Bs]using ih i
theorem SZ(w:World):∀(l:List Field) (pl:List (Nat×Nat)),placesOf P l=some pl->(l.mapM (λf=>do pure (f.offset,<-sizeOf f.type)):Sem (List (Nat×Nat))).run P w=.ok pl w
 |[],pl,h=>by simp only [placesOf,Option.some.injEq]at h;subst h;simp
 |x::l,pl,h=>by
  simp only [placesOf]at h
  split at h
  ·rename_i i r az aB
   simp only [Option.some.injEq]at h
   subst h
   have ih:=SZ w l r aB
   rw [ayI,x3,x3,mu az]
   simp only [x4,axG]
   rw [x3,ih]
   rfl
  ·cases h
theorem DR{z:Value}(h:zeroOf P t=some z)(w:World):(zeroValue t).run P w=.ok z w:=by
 unfold zeroOf at h
 cases az:P.info? t with
 |none=>simp [az]at h
 |some i=>simp only [az]at h;simp [zeroValue,typeInfo,program,axy,bind,axR,az,h,pure]
theorem aea{ps:List (Nat×Value)}(h:Lj P t ps=some v)(w:World):(Instr.build t ⟨ps⟩).run P w=.ok v w:=by
 unfold Lj at h
 split at h
 ·rename_i z e3 aE hu
  split at h
  ·rename_i pl j2
   split at h
   ·rename_i cs iF
    simp only [Option.some.injEq]at h
    subst h
    have e:(λi=>(pl.toArray)[i]?)=Bs pl:=funext λi=>by rw [ad'];simp
    have hm:(e3.mapM (λf=>do pure (f.offset,<-sizeOf f.type)):Sem (Array (Nat×Nat))).run P w=.ok pl.toArray w:=by
     rw [ay4,Sem.run_map,SZ w _ _ j2];rfl
    unfold Instr.build
    rw [x3,DR aE]
    simp only [x4]
    rw [x3,eU hu]
    simp only [x4]
    rw [x3,hm]
    simp only [x4,e,fill_eq,iF]
    rfl
   ·cases h
  ·cases h
 ·rename_i z len e aE hu
  split at h
  ·rename_i i az
   split at h
   ·rename_i cs iF
    simp only [Option.some.injEq]at h
    subst h
    unfold Instr.build
    rw [x3,DR aE]
    simp only [x4]
    rw [x3,eU hu]
    simp only [x4]
    rw [x3,mu az]
    simp only [x4,fill_eq,iF]
    rfl
   ·cases h
  ·cases h
 ·cases h
theorem S0(l:List Value)(aG:0<l.length):∀(n i:Nat),(wa l n)[i]?=if i<n*l.length then l[i % l.length]? else none
 |0,i=>by simp [wa]
 |n+1,i=>by
  rw [wa,ayo]
  by_cases h:i<l.length
  ·rw [if_pos h,if_pos (by rw [axK];omega),Nat.mod_eq_of_lt h]
  ·rw [if_neg h,S0 l aG n]
   have e:(i-l.length) % l.length=i % l.length:=by
    conv=>rhs;rw [show i=(i-l.length)+l.length by omega,Nat.add_mod_right]
   rw [e,axK]
   by_cases ab:i-l.length<n*l.length
   ·rw [if_pos ab,if_pos (by omega)]
   ·rw [if_neg ab,if_neg (by omega)]
theorem aeb(z:Value)(len:Nat)(aE:0<z.cells.size):((ayJ (len*z.cells.size)).map (λk=>z.cells[k % z.cells.size]!)).toList=wa z.cells.toList len:=by
 apply ayK
 intro i
 have vW:0<z.cells.toList.length:=by simpa using aE
 rw [S0 z.cells.toList vW,axI,Array.toList_range,ayp]
 by_cases h:i<len*z.cells.size
 ·have bQ:i % z.cells.size<z.cells.size:=ayq _ aE
  rw [List.getElem?_range h]
  simp [h,bQ]
 ·rw [ayL (by simpa using h)]
  simp [h]
theorem Hu(t:TypeId)(cs:Array Value)(E:Env)(H:U)(d:kK E):(newRow t cs).run P (bf E H d)=.ok ⟨H.size,0,none⟩ (bf E (H.push (.cells cs t)) d):=by
 simp [newRow,newObj,axy,bind,axR,pure,bf]
theorem aec{len:Nat}{ps:List (Nat×Value)}{cs:List Value}(h:Lk P t len ps=some (e,cs))(E:Env)(H:U)(d:kK E):
  (Instr.buildSlice t len ⟨ps⟩).run P (bf E H d)=.ok (.slice (some ⟨H.size,0,none⟩) len len) (bf E (H.push (.cells ⟨cs⟩ e)) d):=by
 unfold Lk at h
 split at h
 ·rename_i dp hu
  split at h
  ·rename_i i az
   split at h
   ·rename_i z aE
    cases av:(axF (len*i.size) 16777216&&LY z.cells.toList.length i.size&&axD 0 i.size)with
    |false=>rw [av]at h;cases h
    |true=>
     rw [av]at h
     simp only [cond_true]at h
     split at h
     ·rename_i avB iF
      simp only [Option.some.injEq,Prod.mk.injEq]at h
      obtain⟨rfl,rfl⟩:=h
      simp only [axz,axZ]at av
      obtain⟨⟨h1,ab⟩,ar⟩:=av
      have fc:len*i.size<=16777216:=ax1 h1
      have gF:z.cells.size=i.size:=by have:=axB ab;simpa using this
      have aed:zeroOf P dp=some z:=by simp [zeroOf,az,aE]
      unfold Instr.buildSlice
      rw [x3,eU hu]
      simp only [x4]
      rw [x3,mu az]
      simp only [x4]
      rw [if_neg (by omega)]
      have pb:0<z.cells.size:=by rw [gF];exact ar
      by_cases aF:len*i.size=0
      ·have aG:len=0:=by
        rcases Nat.mul_eq_zero.1 aF with h|h
        ·exact h
        ·omega
       subst aG
       simp only [ayM,if_true]
       rw [x3]
       simp only [axG,x4]
       have aL:(Array.map (λk=>(#[]:Array Value)[k %(#[]:Array Value).size]!) (ayJ 0)).toList=wa z.cells.toList 0:=by simp [wa]
       simp only [fill_eq,aL,iF,ayr]
       rw [x3,Hu]
       rfl
      ·rw [if_neg aF]
       rw [x3,DR aed]
       simp only [x4]
       rw [x3]
       simp only [axG,x4]
       have aL:(Array.map (λk=>z.cells[k % z.cells.size]!) (ayJ (len*i.size))).toList=wa z.cells.toList len:=by rw [<-gF];exact aeb z len pb
       simp only [fill_eq,aL,iF,ayr]
       rw [x3,Hu]
       rfl
     ·cases h
   ·cases h
  ·cases h
 ·cases h
def hF(ad:Option (U->Prop))(H:U):Prop:=match ad with
 |some F=>F H
 |none=>True
theorem Lq{ad:Oper}(h:qO P n f ad H K):
  ∃v,K v/\hF (gS P n f ad v) H/\∀w:World,hF (gS P n f ad v) w.heap->(execOp (b8 n f) ad).run P w=.ok (.value v) w:=by
 unfold qO at h
 split at h
 all_goals rename_i aw
 case h_1=>exact⟨_,h,by simp [gS,aw,hF],λw _=>by simp [execOp,aw]⟩
 case h_2=>exact⟨_,h,by simp [gS,aw,hF],λw _=>by simp [execOp,aw]⟩
 case h_3=>
  split at h
  ·rename_i c av
   cases c
   ·exact⟨_,h,by simp [gS,aw,hF],λw _=>by simp [execOp,aw,av,asBool]⟩
   ·exact⟨_,h,by simp [gS,aw,hF],λw _=>by simp [execOp,aw,av,asBool]⟩
  ·exact h.elim
 case h_4 t parts=>
  split at h
  ·rename_i v aI
   refine⟨v,h,by simp [gS,aw,hF],λw _=> ?_⟩
   have e:parts.map (fun(x:Nat×Operand)=>(x.1,b8 n f x.2))=⟨zi n f parts.toList⟩:=by rw [Ss,<-axI]
   simp [execOp,aw,e,aea aI]
  ·exact h.elim
 case h_5 t a=>
  unfold zq at h
  split at h
  ·rename_i aC bW
   obtain⟨v,aG,hk⟩:=DE h
   refine⟨v,hk,by simpa [gS,aw,hF,bW]using aG,λw hw=> ?_⟩
   have xM:jS P t w.heap aC v:=by simpa [gS,aw,hF,bW]using hw
   simp [execOp,aw,bW,Instr.loadAt,Instr.sureAddr,xM w rfl]
  ·exact h.elim
 case h_6 x=>
  unfold DI at h
  split at h
  ·rename_i kL bW
   obtain⟨a,rfl,hk⟩:=SH h
   exact⟨_,hk,by simp [gS,aw,hF],λw _=>by simp [execOp,aw,bW]⟩
  ·rename_i k a b bW
   exact⟨_,h,by simp [gS,aw,hF],λw _=>by simp [execOp,aw,bW]⟩
  ·exact h.elim
 case h_7 op t x y u=>
  obtain⟨v,aB,hk⟩:=adX h
  refine⟨v,hk,by simp [gS,aw,hF],λw _=> ?_⟩
  have e:=aB w
  simp only [execOp,aw]
  rw [x3,e]
  rfl
 case h_8=>
  obtain⟨v,aB,hk⟩:=qP h
  exact⟨v,hk,by simp [gS,aw,hF],λw _=>by simp [execOp,aw,aB]⟩
 case h_9=>
  obtain⟨v,aB,hk⟩:=qP h
  exact⟨v,hk,by simp [gS,aw,hF],λw _=>by simp [execOp,aw,aB]⟩
 case h_10=>
  obtain⟨v,aB,hk⟩:=qP h
  exact⟨v,hk,by simp [gS,aw,hF],λw _=>by simp [execOp,aw,aB]⟩
 case h_11 fn first captured=>
  obtain⟨v,aB,hk⟩:=qP h
  refine⟨v,hk,by simp [gS,aw,hF],λw _=> ?_⟩
  have aL:first.map (b8 n f)=⟨fQ n f first.toList⟩:=by rw [zj,<-axI]
  have a':captured.map (b8 n f)=⟨fQ n f captured.toList⟩:=by rw [zj,<-axI]
  simp [execOp,aw,aL,a',aB]
 case h_12=>
  obtain⟨v,aB,hk⟩:=ad1 h
  simp only [adO]at aB
  exact⟨v,hk,by simp [gS,aw,hF],λw _=>by simp [execOp,aw,aB]⟩
 case h_13=>
  obtain⟨v,aB,hk⟩:=qP h
  exact⟨v,hk,by simp [gS,aw,hF],λw _=>by simp [execOp,aw,aB]⟩
 case h_14=>
  obtain⟨v,aB,hk⟩:=qP h
  exact⟨v,hk,by simp [gS,aw,hF],λw _=>by simp [execOp,aw,aB]⟩
 case h_15=>
  obtain⟨v,aB,hk⟩:=ad8 h
  exact⟨v,hk,by simp [gS,aw,hF],λw _=>by simp [execOp,aw,aB]⟩
 case h_16=>
  obtain⟨v,aB,hk⟩:=ad9 h
  exact⟨v,hk,by simp [gS,aw,hF],λw _=>by simp [execOp,aw,aB]⟩
 case h_17=>
  obtain⟨v,aB,hk⟩:=uz h
  refine⟨v,hk,by simpa [gS,aw,hF]using aB,λw hw=> ?_⟩
  simp only [gS,aw,hF]at hw
  simp [execOp,aw,hw w rfl]
 case h_18=>
  obtain⟨v,aB,hk⟩:=uz h
  refine⟨v,hk,by simpa [gS,aw,hF]using aB,λw hw=> ?_⟩
  simp only [gS,aw,hF]at hw
  simp [execOp,aw,hw w rfl]
 case h_19=>
  obtain⟨v,aB,hk⟩:=qP h
  exact⟨v,hk,by simp [gS,aw,hF],λw _=>by simp [execOp,aw,aB]⟩
 case h_20 args argTypes=>
  have e:args.map (b8 n f)=⟨fQ n f args.toList⟩:=by rw [zj,<-axI]
  split at h
  ·rename_i v aI
   exact⟨v,h,by simp [gS,aw,hF,aI],λw _=>by simp [execOp,aw,resolve,invoke,builtin,e,zn (adT aI)]⟩
  ·rename_i aI
   obtain⟨v,aB,hk⟩:=uz h
   refine⟨v,hk,by simpa [gS,aw,hF,aI]using aB,λw hw=> ?_⟩
   simp only [gS,aw,hF,aI]at hw
   simp [execOp,aw,resolve,invoke,builtin,e,hw w rfl]
 case h_21 args argTypes=>
  have e:args.map (b8 n f)=⟨fQ n f args.toList⟩:=by rw [zj,<-axI]
  obtain⟨v,aB,hk⟩:=qP h
  exact⟨v,hk,by simp [gS,aw,hF],λw _=>by simp [execOp,aw,resolve,invoke,builtin,e,aB]⟩
 case h_22 args argTypes=>
  have e:args.map (b8 n f)=⟨fQ n f args.toList⟩:=by rw [zj,<-axI]
  obtain⟨v,aB,hk⟩:=qP h
  exact⟨v,hk,by simp [gS,aw,hF],λw _=>by simp [execOp,aw,resolve,invoke,builtin,e,aB]⟩
 case h_23 args argTypes=>
  have e:args.map (b8 n f)=⟨fQ n f args.toList⟩:=by rw [zj,<-axI]
  obtain⟨v,aB,hk⟩:=qP h
  exact⟨v,hk,by simp [gS,aw,hF],λw _=>by simp [execOp,aw,resolve,invoke,builtin,e,aB]⟩
 case h_24=>exact h.elim
theorem S1{ad:Oper}(h:qO P n f ad H K):
  ∃v,(∀w:World,w.heap=H->(execOp (b8 n f) ad).run P w=.ok (.value v) w)/\K v:=by
 obtain⟨v,hk,ai,aB⟩:=Lq h
 exact⟨v,λw hw=>aB w (by rw [hw];exact ai),hk⟩
def DS(Df:List Deferred)(n:Nat)(f:F)(ad:Oper)(K:Value->U->Prop)(E:Env)(next:Act->World->Prop):Prop:=
 ∀v H' d',K v H'->next (cJ Df n (eI f ad.dst v)) (bf E H' d')
theorem DT{k:FuncId}(h:zo P k=true)(args:Array Value)(w:World):(callFunc k args).run P w=.ok (.enter k args) w:=by
 unfold zo at h
 cases hk:P.funcs[k]? with
 |none=>simp [hk]at h
 |some fn=>
  simp only [hk,axz,ayd,beq_eq_false_iff_ne,ne_eq]at h
  obtain⟨h1,ab⟩:=h
  have ar:fn.body.isNone=false:=by cases al:fn.body<;>simp_all
  have a7:(fn.name== "runtime.NumGoroutine")=false:=by simpa using h1
  have e:callFunc k args=(program>>=λp=>match p.funcs[k]? with
   |none=>stuck "call: no such function"
   |some fn=>if fn.name== "runtime.NumGoroutine" then pure .numGoroutine else if fn.body.isNone then(do
      mark (.extern k)
      if let some e:=Extern.findNext fn then return<-e args
      match Extern.find fn with
      |some e=>pure (.value (<-e args))
      |none=>
       if fn.name.endsWith ".init" && !fn.name.startsWith "(" && !fn.name.startsWith "gosem." then pure (.value (.tuple #[]))
       else unsupported (.extern fn.name))else pure (.enter k args)):=rfl
  rw [e]
  show axy P (match P.funcs[k]? with
   |none=>stuck "call: no such function"
   |some fn=>_) w=_
  rw [hk]
  simp only [a7,ar,axH,if_false]
  rfl
theorem Lr{ad:Oper}{k:FuncId}{args:Array Value}{K:Value->U->Prop}{next:Act->World->Prop}{Q:Exit->Act->World->Prop}
  (h:fo P k args H K) (E:Env) (ba:DS Df n f ad K E next) (d:kK E):ad.upon P (cJ Df n f) next Q (.ok (.enter k args) (bf E H d)):=by
 rw [Oper.upon_enter]
 refine(h E d).mono λe w'=> ?_
 rintro⟨v,H',d',rfl,rfl,hk⟩
 show next ((cJ Df n f).put ad.dst v) _
 rw [j9]
 exact ba v H' d' hk
theorem mz{ad:Oper}{K:Value->U->Prop}{next:Act->World->Prop}{Q:Exit->Act->World->Prop}
  {E:Env} (ba:DS Df n f ad K E next) {d':kK E} (hk:K v H'):ad.upon P (cJ Df n f) next Q (.ok (.value v) (bf E H' d')):=by
 rw [Oper.upon_value,j9]
 exact ba v H' d' hk
theorem Hv{ad:Oper}{K:Value->U->Prop}{next:Act->World->Prop}{Q:Exit->Act->World->Prop}
  {E:Env} (ba:DS Df n f ad K E next) {d':kK E} (hk:K undef H'):ad.upon P (cJ Df n f) next Q (.ok .skip (bf E H' d')):=by
 rw [Oper.upon_skip,j9]
 exact ba undef H' d' hk
theorem rO(n:Nat)(f:F)(args:Array Operand):args.map (b8 n f)=⟨fQ n f args.toList⟩:=by rw [zj,<-axI]
theorem aee(n:Nat)(f:F)(args:Array (Nat×Operand)):args.map (λx=>(x.1,b8 n f x.2))=⟨zi n f args.toList⟩:=by rw [Ss,<-axI]
theorem BB{ad:Oper}{K:Value->U->Prop}{next:Act->World->Prop}{Q:Exit->Act->World->Prop}
  (h:nW P n f ad H K) (E:Env) (ba:DS Df n f ad K E next) (d:kK E):ad.wp P (cJ Df n f) (bf E H d) next Q:=by
 unfold Oper.wp
 rw [xG]
 unfold nW at h
 cases dW:Hl P ad.op with
 |true=>
  rw [dW]at h
  simp only [cond_true]at h
  obtain⟨v,aB,hk⟩:=S1 h
  rw [aB _ rfl]
  exact mz ba hk
 |false=>
  rw [dW]at h
  simp only [cond_false]at h
  split at h
  all_goals rename_i aw
  case h_1 t=>
   split at h
   ·rename_i z aE
    have vW:∀w,(zeroValue t).run P w=.ok z w:=by
     intro w
     unfold zeroOf at aE
     cases az:P.info? t with
     |none=>simp [az]at aE
     |some i=>simp only [az]at aE;simp [zeroValue,typeInfo,program,axy,bind,axR,az,aE,pure]
    have e:(execOp (b8 n f) ad).run P (bf E H d)=.ok (.value (.pointer (some ⟨H.size,0,none⟩))) (bf E (H.push (.cells z.cells t)) d):=by
     simp [execOp,aw,Instr.alloc,vW,newVar,Hu]
    rw [e]
    exact mz ba (h H.size _ ⟨rfl,rfl⟩)
   ·exact h.elim
  case h_2 t x=>
   have e:(execOp (b8 n f) ad).run P (bf E H d)=.ok (.value (.pointer (some ⟨H.size,0,none⟩))) (bf E (H.push (.cells (b8 n f x).cells t)) d):=by
    simp [execOp,aw,Instr.box,newVar,Hu]
   rw [e]
   exact mz ba (h H.size _ ⟨rfl,rfl⟩)
  case h_3 t len parts=>
   split at h
   ·rename_i e cs iF
    have e:(execOp (b8 n f) ad).run P (bf E H d)=.ok (.value (.slice (some ⟨H.size,0,none⟩) len len)) (bf E (H.push (.cells ⟨cs⟩ e)) d):=by
     simp [execOp,aw,aee,aec iF]
    rw [e]
    exact mz ba (h H.size _ ⟨rfl,rfl⟩)
   ·exact h.elim
  case h_4 t a x=>
   split at h
   ·rename_i aC bW
    obtain⟨H',hs,hk⟩:=h
    have e:(execOp (b8 n f) ad).run P (bf E H d)=.ok .skip (bf E H' d):=by
     have aL:(storeVar t aC (b8 n f x)).run P (bf E H d)=.ok () (bf E H' d):=hs (bf E H d) rfl
     simp [execOp,aw,bW,Instr.storeAt,Instr.sureAddr,aL]
    rw [e]
    exact Hv ba hk
   ·exact h.elim
  case h_5 t r=>
   split at h
   ·have e:(execOp (b8 n f) ad).run P (bf E H d)=.ok (.value (.map (some H.size))) (bf E (H.push (.map #[] 0)) d):=by
     simp [execOp,aw,Instr.makeMap,newObj,axy,bind,axR,pure,bf]
    rw [e]
    exact mz ba (h H.size _ ⟨rfl,rfl⟩)
   ·rename_i r
    obtain⟨v,H',d',aB,hk⟩:=h E d
    obtain⟨u,rfl,hk⟩:=v7 hk
    have e:(execOp (b8 n f) ad).run P (bf E H d)=.ok (.value v) (bf E H' d'):=by
     simp [execOp,aw,aB]
    rw [e]
    exact mz ba hk
  case h_6=>
   obtain⟨v,H',d',aB,hk⟩:=h E d
   obtain⟨u,rfl,hk⟩:=v7 hk
   have e:(execOp (b8 n f) ad).run P (bf E H d)=.ok (.value v) (bf E H' d'):=by
    simp [execOp,aw,aB]
   rw [e]
   exact mz ba hk
  case h_7=>
   obtain⟨v,H',d',aB,hk⟩:=h E d
   obtain⟨u,rfl,hk⟩:=uz hk
   have e:(execOp (b8 n f) ad).run P (bf E H d)=.ok (.value v) (bf E H' d'):=by
    simp [execOp,aw,aB]
   rw [e]
   exact mz ba hk
  case h_8 t m k x=>
   obtain⟨H',d',aB,hk⟩:=h E d
   have e:(execOp (b8 n f) ad).run P (bf E H d)=.ok .skip (bf E H' d'):=by
    simp [execOp,aw,aB]
   rw [e]
   exact Hv ba hk
  case h_9 t m k x=>
   obtain⟨H',d',aB,hk⟩:=h E d
   have e:(execOp (b8 n f) ad).run P (bf E H d)=.ok .skip (bf E H' d'):=by
    simp [execOp,aw,aB]
   rw [e]
   exact Hv ba hk
  case h_10=>
   obtain⟨v,H',d',aB,hk⟩:=h E d
   obtain⟨u,rfl,hk⟩:=v7 hk
   have e:(execOp (b8 n f) ad).run P (bf E H d)=.ok (.value v) (bf E H' d'):=by
    simp [execOp,aw,aB]
   rw [e]
   exact mz ba hk
  case h_11 it str=>
   obtain⟨v,H',d',aB,hk⟩:=h E d
   have e:(execOp (b8 n f) ad).run P (bf E H d)=.ok (.value v) (bf E H' d'):=by
    simp [execOp,aw,aB]
   rw [e]
   rcases hk with⟨rfl,hk⟩|⟨k,x,rfl,hk⟩<;>exact mz ba hk
  case h_12 it=>
   obtain⟨v,H',d',aB,k,x,rfl,hk⟩:=h E d
   have e:(execOp (b8 n f) ad).run P (bf E H d)=.ok (.value (.tuple #[k,x])) (bf E H' d'):=by
    simp [execOp,aw,aB]
   rw [e]
   exact mz ba hk
  case h_13=>
   obtain⟨v,H',d',aB,hk⟩:=h E d
   have e:(execOp (b8 n f) ad).run P (bf E H d)=.ok (.value v) (bf E H' d'):=by
    simp [execOp,aw,aB]
   rw [e]
   exact mz ba hk
  case h_14=>
   obtain⟨H',d',aB,hk⟩:=h E d
   have e:(execOp (b8 n f) ad).run P (bf E H d)=.ok .skip (bf E H' d'):=by
    simp [execOp,aw,aB]
   rw [e]
   exact Hv ba hk
  case h_15=>
   obtain⟨v,H',d',aB,hk⟩:=h E d
   obtain⟨u,rfl,hk⟩:=v7 hk
   have e:(execOp (b8 n f) ad).run P (bf E H d)=.ok (.value v) (bf E H' d'):=by
    simp [execOp,aw,resolve,invoke,builtin,rO,aB]
   rw [e]
   exact mz ba hk
  case h_16=>
   obtain⟨v,H',d',aB,hk⟩:=h E d
   obtain⟨u,rfl,hk⟩:=v7 hk
   have e:(execOp (b8 n f) ad).run P (bf E H d)=.ok (.value v) (bf E H' d'):=by
    simp [execOp,aw,resolve,invoke,builtin,rO,aB]
   rw [e]
   exact mz ba hk
  case h_17=>
   obtain⟨v,H',d',aB,hk⟩:=h E d
   obtain⟨rfl,hk⟩:=hk
   have e:(execOp (b8 n f) ad).run P (bf E H d)=.ok (.value (.tuple #[])) (bf E H' d'):=by
    simp [execOp,aw,resolve,invoke,builtin,rO,aB]
   rw [e]
   exact mz ba hk
  case h_18=>
   obtain⟨v,H',d',aB,hk⟩:=h E d
   obtain⟨rfl,hk⟩:=hk
   have e:(execOp (b8 n f) ad).run P (bf E H d)=.ok (.value (.tuple #[])) (bf E H' d'):=by
    simp [execOp,aw,resolve,invoke,builtin,rO,aB]
   rw [e]
   exact mz ba hk
  case h_19=>
   obtain⟨v,H',d',aB,hk⟩:=h E d
   obtain⟨u,rfl,hk⟩:=v7 hk
   have e:(execOp (b8 n f) ad).run P (bf E H d)=.ok (.value v) (bf E H' d'):=by
    simp [execOp,aw,resolve,invoke,builtin,rO,aB]
   rw [e]
   exact mz ba hk
  case h_20=>
   obtain⟨v,H',d',aB,hk⟩:=h E d
   obtain⟨u,rfl,hk⟩:=v7 hk
   have e:(execOp (b8 n f) ad).run P (bf E H d)=.ok (.value v) (bf E H' d'):=by
    simp [execOp,aw,resolve,invoke,builtin,rO,aB]
   rw [e]
   exact mz ba hk
  case h_21 g args argTypes=>
   split at h
   ·rename_i k
    cases e':zo P k with
    |true=>
     rw [e']at h
     simp only [aU]at h
     have e:(execOp (b8 n f) ad).run P (bf E H d)=.ok (.enter k ⟨fQ n f args.toList⟩) (bf E H d):=by
      simp [execOp,aw,resolve,Deferred.ofValue,b8,invoke,rO,DT e']
     rw [e]
     refine Lr (K:=λv H'=>oA (qM P ad.type) λu=>v=u/\K u H') h E (λv H' d' hk=> ?_) d
     obtain⟨u,rfl,hk⟩:=uz hk
     exact ba v H' d' hk
    |false=>
     rw [e']at h
     simp only [aU]at h
     obtain⟨v,H',d',aB,hk⟩:=h E d
     obtain⟨u,rfl,hk⟩:=uz hk
     have e:(execOp (b8 n f) ad).run P (bf E H d)=.ok (.value v) (bf E H' d'):=by
      simp [execOp,aw,resolve,Deferred.ofValue,b8,invoke,rO,aB]
     rw [e]
     exact mz ba hk
   ·obtain⟨k,first,captured,aI,e',h⟩:=h
    have e:(execOp (b8 n f) ad).run P (bf E H d)=.ok (.enter k (first++(fQ n f args.toList).toArray++captured)) (bf E H d):=by
     simp [execOp,aw,resolve,Deferred.ofValue,aI,invoke,rO,DT e']
    rw [e]
    refine Lr (K:=λv H'=>oA (qM P ad.type) λu=>v=u/\K u H') h E (λv H' d' hk=> ?_) d
    obtain⟨u,rfl,hk⟩:=uz hk
    exact ba v H' d' hk
  case h_22 g name args argTypes=>
   obtain⟨t,x,k,r,aI,hm,e',h⟩:=h
   have e:(execOp (b8 n f) ad).run P (bf E H d)=.ok (.enter k ⟨r::fQ n f args.toList⟩) (bf E H d):=by
    simp [execOp,aw,resolve,aI,invoke,rO,callMethod,hm,DT e']
   rw [e]
   refine Lr (K:=λv H'=>oA (qM P ad.type) λu=>v=u/\K u H') h E (λv H' d' hk=> ?_) d
   obtain⟨u,rfl,hk⟩:=uz hk
   exact ba v H' d' hk
  case h_23=>exact h.elim
theorem Hw{ad:Oper}{y:Nat->Option Bool}(h:ad.guard=none):Region.wanted ad y=true:=by simp [Region.wanted,h]
theorem Hx{ad:Oper}{ops:List Oper}{want c:Bool}(h:ad.guard=some (j,want))(aR:uC ops j=some d)(av:b8 n f (.tmp d)=.bool c):
  Region.wanted ad (yielded ops.toArray (cJ Df n f).tmps)=(c==want):=by
 unfold uC at aR
 cases aw:ops[j]? with
 |none=>simp [aw]at aR
 |some fu=>
  simp only [aw]at aR
  rw [xH]at av
  by_cases ay:d<n
  ·simp only [ay,if_true]at av
   simp [Region.wanted,h,yielded,aw,aR,Lg,ay,av]
  ·simp only [ay,if_false]at av
   simp [undef]at av
theorem xN{ad:Oper}{ops:List Oper}{want:Bool}(h:ad.guard=some (j,want))
  (aR:uC ops j=none\/∃d,uC ops j=some d/\∀c,b8 n f (.tmp d)≠.bool c):Region.wanted ad (yielded ops.toArray (cJ Df n f).tmps)=false:=by
 simp only [Region.wanted,h]
 have:yielded ops.toArray (cJ Df n f).tmps j=none:=by
  unfold yielded
  cases aw:ops[j]? with
  |none=>simp [aw]
  |some fu=>
   rcases aR with aR|⟨d,aR,av⟩
   ·simp only [uC,aw]at aR
    simp [aw,aR]
   ·simp only [uC,aw]at aR
    simp only [axS,aw,Option.bind_some,aR,Lg]
    by_cases ay:d<n
    ·simp only [ay,if_true]
     cases aI:f d with
     |bool c=>exact absurd (by rw [xH];simp [ay,aI]) (av c)
     |_=>rfl
    ·simp [ay]
 rw [this]
 rfl
theorem Ls(h:b8 n f (.tmp d)=v):cJ Df n (gq f d v)=cJ Df n f:=by
 refine St λi az=> ?_
 rw [DB]
 split
 ·rename_i aR;subst aR;rw [xH]at h;simp only [az,if_true]at h;exact h.symm
 ·rfl
theorem wc{ops:List Oper}{Q:Exit->Act->World->Prop}{K:F->U->Prop}
  {E:Env} (bV:∀f H d,K f H->Q .normal (cJ Df n f) (bf E H d)):∀(l:List Oper) (f:F) (H:U),lj P n ops l f H K->∀d,wpList P ops.toArray Q l (cJ Df n f) (bf E H d)
 |[],f,H,h,d=>bV f H d h
 |ad::rest,f,H,h,d=>by
  unfold lj at h
  unfold wpList
  split at h
  ·rename_i kN
   rw [if_pos (Hw kN)]
   exact .inl (BB h E (λv H' d' hk=>wc bV rest _ _ hk d') d)
  ·rename_i j want kN
   split at h
   ·rename_i hs
    rw [if_neg (by rw [xN kN (.inl hs)];simp),j9]
    exact wc bV rest _ _ h d
   ·rename_i da hs
    split at h
    ·rename_i c av
     have aL:cJ Df n (gq f da (.bool c))=cJ Df n f:=Ls av
     have hw:=Hx (Df:=Df) kN hs av
     have aef:b8 n (gq f da (.bool c)) (.tmp da)=.bool c:=by
      have:=vZ (Df:=Df) n (gq f da (.bool c)) (.tmp da)
      rw [aL,vZ]at this
      rw [<-this];exact av
     cases c<;>cases want<;>simp only [aU,cond_true,cond_false]at h
     ·rw [if_pos (by rw [hw];rfl),<-aL]
      exact .inl (BB h E (λv H' d' hk=>wc bV rest _ _ hk d') d)
     ·rw [if_neg (by rw [hw];simp),<-aL,j9]
      exact wc bV rest _ _ h d
     ·rw [if_neg (by rw [hw];simp),<-aL,j9]
      exact wc bV rest _ _ h d
     ·rw [if_pos (by rw [hw];rfl),<-aL]
      exact .inl (BB h E (λv H' d' hk=>wc bV rest _ _ hk d') d)
    ·rename_i av
     rw [if_neg (by rw [xN kN (.inr ⟨da,hs,av⟩)];simp),j9]
     exact wc bV rest _ _ h d
theorem Lt{ad:Oper}{w:World}{next:Act->Prop}(h:qO P n f ad w.heap K)
  (ba:∀v,K v->next (cJ Df n (eI f ad.dst v))):ad.still P (cJ Df n f) w next:=by
 obtain⟨v,aB,hk⟩:=S1 h
 unfold Oper.still
 rw [xG,aB w rfl,Oper.stillUpon_value,j9]
 exact ba v hk
theorem we{ops:List Oper}{w:World}{Q:Act->Prop}{K:F->Prop}
  (bV:∀f,K f->Q (cJ Df n f)):∀(l:List Oper) (f:F),mv P n ops w.heap l f K->wpStill P ops.toArray w Q l (cJ Df n f)
 |[],f,h=>bV f h
 |ad::rest,f,h=>by
  unfold mv at h
  unfold wpStill
  split at h
  ·rename_i kN
   rw [if_pos (Hw kN)]
   exact Lt h (λv hk=>we bV rest _ hk)
  ·rename_i j want kN
   split at h
   ·rename_i hs
    rw [if_neg (by rw [xN kN (.inl hs)];simp),j9]
    exact we bV rest _ h
   ·rename_i da hs
    split at h
    ·rename_i c av
     have aL:cJ Df n (gq f da (.bool c))=cJ Df n f:=Ls av
     have hw:=Hx (Df:=Df) kN hs av
     cases c<;>cases want<;>simp only [aU,cond_true,cond_false]at h
     ·rw [if_pos (by rw [hw];rfl),<-aL]
      exact Lt h (λv hk=>we bV rest _ hk)
     ·rw [if_neg (by rw [hw];simp),<-aL,j9]
      exact we bV rest _ h
     ·rw [if_neg (by rw [hw];simp),<-aL,j9]
      exact we bV rest _ h
     ·rw [if_pos (by rw [hw];rfl),<-aL]
      exact Lt h (λv hk=>we bV rest _ hk)
    ·rename_i av
     rw [if_neg (by rw [xN kN (.inr ⟨da,hs,av⟩)];simp),j9]
     exact we bV rest _ h
theorem S3{c:Bool}(h:b8 n f (.tmp d)=.bool c):gq f d (.bool c)=f:=by
 funext i
 rw [DB]
 split
 ·rename_i aR
  subst aR
  rw [xH]at h
  split at h
  ·exact h.symm
  ·simp [undef]at h
 ·rfl
theorem Hy{ops:List Oper}{ad:Oper}{exec skip:F->Prop}(h:guarded ops n ad f exec skip):
  (Region.wanted ad (yielded ops.toArray (cJ Df n f).tmps)=true/\exec f)\/(Region.wanted ad (yielded ops.toArray (cJ Df n f).tmps)=false/\skip f):=by
 unfold guarded at h
 split at h
 ·rename_i ba;exact .inl ⟨Hw ba,h⟩
 ·rename_i j want ba
  split at h
  ·rename_i hs;exact .inr ⟨xN ba (.inl hs),h⟩
  ·rename_i d hs
   split at h
   ·rename_i c av
    have e:=S3 av
    have hw:=Hx (Df:=Df) ba hs av
    cases c<;>cases want<;>simp only [aU,cond_true,cond_false,e]at h
    ·exact .inl ⟨by rw [hw];rfl,h⟩
    ·exact .inr ⟨by rw [hw];rfl,h⟩
    ·exact .inr ⟨by rw [hw];rfl,h⟩
    ·exact .inl ⟨by rw [hw];rfl,h⟩
   ·rename_i av;exact .inr ⟨xN ba (.inr ⟨d,hs,av⟩),h⟩
theorem rP{ops:List Oper}{ad:Oper}{exec skip S4 S5:F->Prop}(h1:exec f->S4 f)(ab:skip f->S5 f)(h:guarded ops n ad f exec skip):guarded ops n ad f S4 S5:=by
 unfold guarded at h⊢
 split at h
 ·exact h1 h
 ·rename_i j want ba
  split at h
  ·exact ab h
  ·split at h
   ·rename_i c av
    have e:=S3 av
    cases c<;>cases want<;>simp only [aU,cond_true,cond_false,e]at h⊢
    ·exact h1 h
    ·exact ab h
    ·exact ab h
    ·exact h1 h
   ·exact ab h
section
variable{P:Program}{ops:Array Oper}{Q:Exit->Act->World->Prop}{md:Region.Mode}
abbrev pc:=List (Nat×(World->Prop))
def jT(bef:Nat->Nat)(j:Nat)(D:pc):pc:=D.filter λx=> !gM (bef j) x.1
def xO(D:pc)(w:World):Prop:=∀x∈D,x.2 w
def uE(P:Program)(md:Region.Mode)(ops:Array Oper)(Q:Exit->Act->World->Prop)(bef:Nat->Nat):Nat->Array Bool->pc->Act->World->Prop
 |0,listed,_,a,w=>Region.ready md ops listed=[]/\Q .normal a w
 |fuel+1,listed,D,a,w=>
  (Region.ready md ops listed=[]->Q .normal a w)∧
  ∀i∈Region.ready md ops listed,wpOp P ops Q i (λaV w'=>xO (jT bef i D) w'/\uE P md ops Q bef fuel (listed.setIfInBounds i true) (jT bef i D) aV w') a w
variable{bef:Nat->Nat}
theorem S6:∀(fuel:Nat) (listed:Array Bool) (D:pc) (a:Act) (w:World),uE P md ops Q bef fuel listed D a w->wpAny P md ops Q fuel listed a w
 |0,_,_,_,_,h=>h
 |fuel+1,_,_,_,_,h=>⟨h.1,λi az=>wpOp_mono (λaV w' h'=>S6 fuel _ _ aV w' h'.2) (h.2 i az)⟩
theorem Hz{D xP:pc}(h:∀x∈xP,x∈D):∀x∈jT bef j xP,x∈jT bef j D:=by
 intro x aa
 have:=ax2.1 aa
 exact ax2.2 ⟨h x this.1,this.2⟩
theorem S7:∀(fuel:Nat) (listed:Array Bool) (D xP:pc) (a:Act) (w:World),(∀x∈xP,x∈D)->uE P md ops Q bef fuel listed D a w->uE P md ops Q bef fuel listed xP a w
 |0,_,_,_,_,_,_,h=>h
 |fuel+1,_,_,_,_,_,hs,h=>⟨h.1,λi az=>wpOp_mono (λaV w' h'=>⟨λx aa=>h'.1 x (Hz hs x aa),S7 fuel _ _ _ aV w' (Hz hs) h'.2⟩) (h.2 i az)⟩
theorem Lu{k:Nat}:∀(fuel:Nat) (listed:Array Bool) (D:pc) (a:Act) (w:World),uE P md ops Q bef fuel listed D a w->uE P md ops Q bef fuel listed ((k,λ_=>True)::D) a w
 |0,_,_,_,_,h=>h
 |fuel+1,_,D,_,_,h=>⟨h.1,λi az=>wpOp_mono (λaV w' h'=>by
   have e:jT bef i ((k,λ_=>True)::D)=if gM (bef i) k=true then jT bef i D else(k,λ_=>True)::jT bef i D:=by
    unfold jT
    rw [axT]
    cases gM (bef i) k<;>simp
   rw [e]
   split
   ·exact h'
   ·refine⟨λx aa=> ?_,Lu fuel _ _ aV w' h'.2⟩
    rcases axA.1 aa with rfl|aa
    ·trivial
    ·exact h'.1 x aa) (h.2 i az)⟩
def qQ(bef:Nat->Nat)(listed:Array Bool):Prop:=∀x,listed.getD x false=true->∀y,gM (bef x) y=true->listed.getD y false=true
def DU(md:Region.Mode)(ops:Array Oper)(bef:Nat->Nat):Prop:=∀(j:Nat) (fu:Oper),ops[j]?=some fu->∀y,gM (bef j) y=true->∃e∈fu.after,Region.binds md e=true/\(e.on=y\/gM (bef e.on) y=true)
theorem qQ.ready{listed:Array Bool}(h:qQ bef listed)(al:DU md ops bef)(bq:j∈Region.ready md ops listed){y:Nat}(aA:gM (bef j) y=true):listed.getD y false=true:=by
 obtain⟨_,fu,uF,fe⟩:=mem_ready.1 bq
 obtain⟨e,he,xQ,h1⟩:=al j fu uF y aA
 rcases h1 with rfl|h1
 ·exact fe e he xQ
 ·exact h _ (fe e he xQ) y h1
theorem qQ.set{listed:Array Bool}(h:qQ bef listed)(al:DU md ops bef)(bq:j∈Region.ready md ops listed):qQ bef (listed.setIfInBounds j true):=by
 intro x aa y aA
 by_cases BC:j=x
 ·subst BC;exact getD_set_true (h.ready al bq aA)
 ·rw [getD_set_ne false BC]at aa;exact getD_set_true (h x aa y aA)
theorem S8{iG:Oper}{S:World->Prop}(az:ops[i]?=some iG)(pd:∀(j:Nat) (ad:Oper) cs b,ops[j]?=some ad->ad.op≠.select cs b)
  (bV:∀c a w,Q (.panic c) (a.put iG.dst v) w->Q (.panic c) a w) (al:DU md ops bef):
  ∀(fuel:Nat) (listed:Array Bool) (D:pc) (a:Act) (w:World),
   (∀j fu,ops[j]?=some fu->j≠i->listed.getD j true=false->(∀e∈fu.after,Region.binds md e=true->e.on≠i)->iG.apart ops fu=true)→
   qQ bef listed->i∈Region.ready md ops listed->YieldsIf P ops S iG v a->S w->xO D w→
   uE P md ops Q bef fuel (listed.setIfInBounds i true) ((i,S)::D) (a.put iG.dst v) w->uE P md ops Q bef (fuel+1) listed D a w:=by
 intro fuel
 induction fuel with
 |zero=>
  intro listed D a w _ _ aB aA bB ee H
  refine⟨λh=>(by rw [h]at aB;cases aB),λj bq=> ?_⟩
  by_cases mA:j=i
  ·subst mA;exact aA.wpOp az bB ⟨λx aa=>ee x (ax2.1 aa).1,H⟩
  ·have:=ready_mono bq mA
   rw [H.1]at this
   cases this
 |succ fuel ih=>
  intro listed D a w zy iD aB aA bB ee H
  refine⟨λh=>(by rw [h]at aB;cases aB),λj bq=> ?_⟩
  by_cases mA:j=i
  ·subst mA
   exact aA.wpOp az bB ⟨λx aa=>ee x (ax2.1 aa).1,S7 _ _ _ _ _ _ (λx aa=>axU _ (ax2.1 aa).1) H⟩
  ·have h1:=H.2 j (ready_mono bq mA)
   obtain⟨DV,fu,uF,fe⟩:=mem_ready.1 bq
   have zz:=(mem_ready.1 aB).1
   have kq:listed.getD i false=false:=by
    rcases Nat.lt_or_ge i listed.size with h'|h'
    ·simp [h']at zz⊢;exact zz
    ·simp [ay5 h']at zz
   have DW:∀e∈fu.after,Region.binds md e=true->e.on≠i:=λe he al heq=>by
    have h1:=fe e he al
    rw [heq,kq]at h1
    cases h1
   have wg:gM (bef j) i=false:=by
    cases h4:gM (bef j) i with
    |false=>rfl
    |true=>have:=iD.ready al bq h4;rw [kq]at this;cases this
   have gR:jT bef j ((i,S)::D)=(i,S)::jT bef j D:=by
    unfold jT
    rw [axT,wg]
    rfl
   rw [gR]at h1
   have ab:=wpOp_putIf uF (zy j fu uF mA DV DW) (λcs b=>pd i iG cs b az) (λcs b=>pd j fu cs b uF) bV aA h1
   have Lv:∀k ok,ops[k]?=some ok->k≠i->(listed.setIfInBounds j true).getD k true=false→
     (∀e∈ok.after,Region.binds md e=true->e.on≠i)->iG.apart ops ok=true:=λk ok hk s8 xR cq=>by
    refine zy k ok hk s8 ?_ cq
    by_cases wh:j=k
    ·subst wh;exact DV
    ·rw [getD_set_ne true wh]at xR;exact xR
   refine wpOp_mono (λaV w' ar=>⟨λx aa=>ar.2.1 x (axU _ aa),ih (listed.setIfInBounds j true) _ aV w' Lv (iD.set al bq) (ready_mono aB (Ne.symm mA)) ar.1 (ar.2.1 (i,S) (aye ..)) (λx aa=>ar.2.1 x (axU _ aa)) ?_⟩) ab
   rw [Array.setIfInBounds_comm _ _ mA]
   exact ar.2.2
end
theorem S9(m i j:Nat):gM (mw m i) j=(gM m j||decide (i=j)):=by
 rw [rM,rM]
 unfold mw
 rw [show axP m (ax0 2 i)=m|||2^i from rfl,ayN,ay6]
structure Told(ops:List Oper)(m:Nat)(listed:Array Bool):Prop where
 size:listed.size=ops.length
 bit:∀i,i<ops.length->listed[i]?=some (gM m i)
 lt:∀i,gM m i=true->i<ops.length
theorem Told.getD{ops:List Oper}{listed:Array Bool}(h:Told ops m listed)(az:i<ops.length)(d:Bool):listed.getD i d=gM m i:=by
 rw [ax9,h.bit i az];rfl
theorem Told.set{ops:List Oper}{listed:Array Bool}(h:Told ops m listed)(bq:j<ops.length):Told ops (mw m j) (listed.setIfInBounds j true):=by
 refine⟨by simpa using h.size,λi az=> ?_,λi az=>by
  rw [S9]at az
  by_cases mn:j=i
  ·subst mn;exact bq
  ·exact h.lt i (by simpa [mn]using az)⟩
 rw [S9]
 by_cases mn:j=i
 ·subst mn
  rw [Array.getElem?_setIfInBounds_self_of_lt (by rw [h.size];exact az)]
  simp
 ·rw [Array.getElem?_setIfInBounds_ne mn,h.bit i az]
  simp [mn]
theorem HA:∀(l:List Oper) (k:Nat) (ad:Oper) (i:Nat),l[i]?=some ad->(ad,k+i)∈zv l k
 |[],_,_,_,h=>by simp at h
 |x::l,k,ad,0,h=>by simp at h;subst h;simp [zv]
 |x::l,k,ad,i+1,h=>by
  have:=HA l (k+1) ad i (by simpa using h)
  simp only [zv,axA]
  right
  rw [show k+(i+1)=k+1+i by omega]
  exact this
theorem aeg{l:List Nat}(h:Hm l i=true):i∈l:=by
 induction l with
 |nil=>cases h
 |cons x l ih=>
  unfold Hm at h
  cases al:LY x i with
  |true=>rw [axB al];exact aye ..
  |false=>rw [al]at h;exact axU _ (ih h)
theorem aeh{ops:List Oper}{listed:Array Bool}(h:Told ops m listed){ad:Oper}(hw:∀e∈ad.after,Region.binds .any e=true->listed.getD e.on false=true):xJ m ad=true:=by
 unfold xJ
 rw [ax3]
 intro e he
 cases al:Region.binds .any e with
 |false=>rfl
 |true=>
  have h1:=hw e (by simpa using he) al
  have bQ:e.on<ops.length:=by
   rcases Nat.lt_or_ge e.on listed.size with h'|h'
   ·rw [h.size]at h';exact h'
   ·rw [ax9,ay5 h']at h1;cases h1
  rw [h.getD bQ]at h1
  simp [h1]
theorem HB{ops:List Oper}{listed:Array Bool}(h:Told ops m listed){l:List Nat}(aB:Hn ops m l=true):∀i∈Region.ready .any ops.toArray listed,i∈l:=by
 intro i az
 obtain⟨aF,ad,aw,fe⟩:=mem_ready.1 az
 have jQ:ops[i]?=some ad:=by simpa using aw
 have bQ:i<ops.length:=(axC.1 jQ).1
 unfold Hn at aB
 rw [ax3]at aB
 have:=aB (ad,0+i) (HA ops 0 ad i jQ)
 rw [h.getD bQ]at aF
 simp only [axJ,aF,aeh h fe,ayE,Bool.false_or]at this
 exact aeg this
theorem Ta{ops:List Oper}{listed:Array Bool}(h:Told ops m listed){ad:Oper}(aw:ops[i]?=some ad)(aO:DJ ops m i ad=true):i∈Region.ready .any ops.toArray listed:=by
 simp only [DJ,axz,ayd]at aO
 obtain⟨⟨aF,h1⟩,_⟩:=aO
 have lh:i<ops.length:=(axC.1 aw).1
 refine mem_ready.2 ⟨by rw [h.getD lh];exact aF,ad,by simpa using aw,λe he wg=> ?_⟩
 unfold xJ at h1
 rw [ax3]at h1
 have:=h1 e (by simpa using he)
 rw [wg]at this
 have uG:gM m e.on=true:=by simpa using this
 rw [h.getD (h.lt _ uG)]
 exact uG
theorem HC{ops:List Oper}{listed:Array Bool}(h:Told ops m listed){ad:Oper}(aO:DJ ops m i ad=true):
  ∀j fu,ops.toArray[j]?=some fu->j≠i->listed.getD j true=false->(∀e∈fu.after,Region.binds .any e=true->e.on≠i)->ad.apart ops.toArray fu=true:=by
 intro j fu bq cP xR cq
 simp only [DJ,axz]at aO
 obtain⟨_,ab⟩:=aO
 rw [ax3]at ab
 have kO:ops[j]?=some fu:=by simpa using bq
 have HD:j<ops.length:=(axC.1 kO).1
 have ar:=ab (fu,0+j) (HA ops 0 fu j kO)
 rw [h.getD HD]at xR
 have aei:LY j i=false:=by
  cases al:LY j i with
  |false=>rfl
  |true=>exact absurd (axB al) cP
 have aej:(fu.after.toList.any λe=>Region.binds .any e&&LY e.on i)=false:=by
  rw [List.any_eq_false]
  intro e he
  simp only [axz,not_and]
  intro al xQ
  exact cq e (by simpa using he) al (axB xQ)
 simpa only [axJ,aei,xR,aej,Bool.false_or]using ar
theorem gD.mono{s:Sem Value}{K cc:Value->U->Prop}(h:gD P s H K)(hk:∀v H',K v H'->cc v H'):gD P s H cc:=
 λE d=>let⟨v,H',d',aB,k⟩:=h E d;⟨v,H',d',aB,hk _ _ k⟩
theorem jc.mono{s:Sem Unit}{K cc:U->Prop}(h:jc P s H K)(hk:∀H',K H'->cc H'):jc P s H cc:=
 λE d=>let⟨H',d',aB,k⟩:=h E d;⟨H',d',aB,hk _ k⟩
theorem fo.mono{k:FuncId}{args:Array Value}{R mZ:Value->U->Prop}(h:fo P k args H R)(aB:∀v H',R v H'->mZ v H'):fo P k args H mZ:=
 λE d=>(h E d).mono λ_ _ ⟨v,H',d',aL,a',r⟩=>⟨v,H',d',aL,a',aB _ _ r⟩
theorem pX.mono{k:FuncId}{args:Array Value}{R mZ:Value->U->Prop}(h:pX P k args H R)(aB:∀v H',R v H'->mZ v H'):pX P k args H mZ:=λE d=>by
 obtain⟨v,H',d',e,r⟩:=h E d
 exact⟨v,H',d',e,aB _ _ r⟩
theorem dY.mono{args:List Value}{R mZ:Value->U->Prop}(h:dY P v args H R)(aB:∀v H',R v H'->mZ v H'):dY P v args H mZ:=
 let⟨k,first,captured,h1,ab,ar⟩:=h;⟨k,first,captured,h1,ab,ar.mono aB⟩
theorem HE{s:Sem Value}(hk:∀v,K v->cc v)(h:mX P s K):mX P s cc:=by
 unfold mX at *
 split at h
 ·exact hk _ h
 ·exact h.elim
theorem xS{b:B}{ef ez:Operand}{op:BinOp}{r:Bool}(hk:∀v,K v->cc v)
  (h:qN P t b ef ez x y op r K):qN P t b ef ez x y op r cc:=by
 unfold qN at h⊢
 split at h
 ·exact hk _ h
 ·exact hk _ h
 ·exact hk _ h
 ·exact hk _ h
 ·obtain⟨r,aB,h⟩:=h;exact⟨r,aB,hk _ h⟩
theorem Tb{op:BinOp}{ef ez:Operand}(hk:∀v,K v->cc v)(h:zr P op t ef ez x y K):zr P op t ef ez x y cc:=by
 unfold zr at h⊢
 split at h
 ·cases op<;>exact hk _ h
 ·obtain⟨r,aB,h⟩:=h;exact⟨r,aB,hk _ h⟩
theorem aek{op:BinOp}{ef ez:Operand}(hk:∀v,K v->cc v)(h:Bu P op t ef ez x y K):Bu P op t ef ez x y cc:=by
 unfold Bu at h⊢
 split at h
 ·exact gr (hk _) h
 ·exact gr (hk _) h
 ·exact gr (gr (hk _)) h
 ·exact gr (gr (hk _)) h
 ·exact gr (hk _) h
 case h_6=>exact xS hk h
 case h_7=>exact xS hk h
 case h_8=>exact xS hk h
 case h_9=>exact xS hk h
 case h_10=>exact xS hk h
 case h_11=>exact xS hk h
 case h_12=>exact xS hk h
 case h_13=>exact xS hk h
 case h_14=>exact HE hk h
 case h_15=>exact HE hk h
 case h_16=>exact hk _ h
 case h_17=>exact hk _ h
 case h_18=>exact Tb hk h
 case h_19=>exact Tb hk h
 case h_20=>exact HE hk h
theorem ael{op:BinOp}{ef ez:Operand}(hk:∀v,K v->cc v)(h:Bv P op t ef ez x y K):Bv P op t ef ez x y cc:=by
 unfold Bv at h⊢
 cases az:Ln P t with
 |true=>
  simp only [az,cond_true]at h⊢
  split at h
  ·obtain⟨r,aB,h⟩:=h;exact⟨r,aB,hk _ h⟩
  ·obtain⟨r,aB,h⟩:=h;exact⟨r,aB,hk _ h⟩
  ·exact h
 |false=>simp only [az,cond_false]at h⊢;exact aek hk h
theorem aem{dH az oD:Option Value}(hk:∀v,K v->cc v)(h:Bw P t x dH az oD K):Bw P t x dH az oD cc:=by
 unfold Bw at h⊢
 cases oD with
 |some m=>
  simp only at h⊢
  unfold Hj at h⊢
  split at h
  ·split at h
   ·exact gr (hk _) h
   ·exact h.elim
  ·exact h.elim
 |none=>
  simp only at h⊢
  split at h
  ·split at h
   ·exact gr (hk _) h
   ·exact h.elim
  ·split at h
   ·exact gr (hk _) h
   ·exact h.elim
  ·split at h
   ·exact gr (hk _) h
   ·exact h.elim
  ·exact h.elim
theorem aen{i:Value}(hk:∀v,K v->cc v)(h:Bx P t x i K):Bx P t x i cc:=by
 unfold Bx at h⊢
 split at h
 ·split at h
  ·exact SI (λ_ h=>gr (hk _) h) h
  ·exact h.elim
 ·split at h
  ·exact gr (hk _) h
  ·exact h.elim
 ·exact h.elim
theorem aeo{i:Value}(hk:∀v,K v->cc v)(h:By P t x i K):By P t x i cc:=by
 unfold By at h⊢
 split at h
 ·exact gr (hk _) h
 ·split at h
  ·exact gr (λh=>Hg (λv h=>⟨h.1,hk _ h.2⟩) h) h
  ·exact h.elim
 ·exact h.elim
theorem aep(hk:∀v,K v->cc v)(h:DI x K):DI x cc:=by
 unfold DI at h⊢
 split at h
 ·exact SI (λ_ h=>hk _ h) h
 ·exact hk _ h
 ·exact h.elim
theorem aeq{a:Value}(hk:∀v,K v->cc v)(h:zq P t a H K):zq P t a H cc:=by
 unfold zq at h⊢
 split at h
 ·exact Hg (λv h=>⟨h.1,hk _ h.2⟩) h
 ·exact h.elim
theorem s9{ad:Oper}(hk:∀v,K v->cc v)(h:qO P n f ad H K):qO P n f ad H cc:=by
 unfold qO at h⊢
 split at h
 case h_1=>exact hk _ h
 case h_2=>exact hk _ h
 case h_3=>
  split at h
  ·exact Br (hk _) (hk _) h
  ·exact h.elim
 case h_4=>
  split at h
  ·exact hk _ h
  ·exact h.elim
 case h_5=>exact aeq hk h
 case h_6=>exact aep hk h
 case h_7=>exact ael hk h
 case h_12=>exact aem hk h
 case h_15=>exact aen hk h
 case h_16=>exact aeo hk h
 case h_17=>exact uA (λv h=>⟨h.1,hk _ h.2⟩) h
 case h_18=>exact uA (λv h=>⟨h.1,hk _ h.2⟩) h
 case h_20=>
  split at h
  ·exact hk _ h
  ·exact uA (λv h=>⟨h.1,hk _ h.2⟩) h
 case h_24=>exact h.elim
 all_goals exact HE hk h
theorem p2{ad:Oper}{K cc:Value->U->Prop}(hk:∀v H',K v H'->cc v H')(h:nW P n f ad H K):nW P n f ad H cc:=by
 unfold nW at h⊢
 cases dW:Hl P ad.op with
 |true=>rw [dW]at h;simp only [cond_true]at h⊢;exact s9 (λv=>hk v H) h
 |false=>
  rw [dW]at h
  simp only [cond_false]at h⊢
  split at h
  case h_1=>
   split at h
   ·intro b H' ay;exact hk _ _ (h b H' ay)
   ·exact h.elim
  case h_2=>intro b H' ay;exact hk _ _ (h b H' ay)
  case h_3=>
   split at h
   ·intro b H' ay;exact hk _ _ (h b H' ay)
   ·exact h.elim
  case h_4=>
   split at h
   ·obtain⟨H',hs,k⟩:=h;exact⟨H',hs,hk _ _ k⟩
   ·exact h.elim
  case h_5=>
   split at h
   ·intro b H' ay;exact hk _ _ (h b H' ay)
   ·exact h.mono λv H' k=>v8 (λu k=>⟨k.1,hk _ _ k.2⟩) k
  case h_6=>exact h.mono λv H' k=>v8 (λu k=>⟨k.1,hk _ _ k.2⟩) k
  case h_7=>exact h.mono λv H' k=>uA (λu k=>⟨k.1,hk _ _ k.2⟩) k
  case h_8=>exact h.mono λH' k=>hk _ _ k
  case h_9=>exact h.mono λH' k=>hk _ _ k
  case h_10=>exact h.mono λv H' k=>v8 (λu k=>⟨k.1,hk _ _ k.2⟩) k
  case h_11=>exact h.mono λv H' k=>k.imp (λk=>⟨k.1,hk _ _ k.2⟩) (fun⟨a,x,k⟩=>⟨a,x,k.1,hk _ _ k.2⟩)
  case h_12=>exact h.mono λv H' ⟨a,x,k⟩=>⟨a,x,k.1,hk _ _ k.2⟩
  case h_13=>exact h.mono hk
  case h_14=>exact h.mono λH' k=>hk _ _ k
  case h_15=>exact h.mono λv H' k=>v8 (λu k=>⟨k.1,hk _ _ k.2⟩) k
  case h_16=>exact h.mono λv H' k=>v8 (λu k=>⟨k.1,hk _ _ k.2⟩) k
  case h_17=>exact h.mono λv H' k=>⟨k.1,hk _ _ k.2⟩
  case h_18=>exact h.mono λv H' k=>⟨k.1,hk _ _ k.2⟩
  case h_19=>exact h.mono λv H' k=>v8 (λu k=>⟨k.1,hk _ _ k.2⟩) k
  case h_20=>exact h.mono λv H' k=>v8 (λu k=>⟨k.1,hk _ _ k.2⟩) k
  case h_21=>
   split at h
   ·exact Br (λh=>fo.mono h λv H' k=>uA (λu k=>⟨k.1,hk _ _ k.2⟩) k) (λh=>pX.mono h λv H' k=>uA (λu k=>⟨k.1,hk _ _ k.2⟩) k) h
   ·exact dY.mono h λv H' k=>uA (λu k=>⟨k.1,hk _ _ k.2⟩) k
  case h_22=>
   obtain⟨t,x,k,r,aI,hm,e',h⟩:=h
   exact⟨t,x,k,r,aI,hm,e',fo.mono h λv H' k=>uA (λu k=>⟨k.1,hk _ _ k.2⟩) k⟩
  case h_23=>exact h.elim
def eN(W:List Nat)(f bL:F):Prop:=∀i,mx W i=false->bL i=f i
theorem eN.refl(W:List Nat)(f:F):eN W f f:=λ_ _=>rfl
theorem Lw(a b:List Nat)(i:Nat):mx (a++b) i=(mx a i||mx b i):=by
 induction a with
 |nil=>rfl
 |cons x a ih=>
  simp only [axV,mx,ih]
  cases LY i x<;>rfl
theorem eN.trans{W W':List Nat}{h:F}(h1:eN W f g)(ab:eN W' g h):eN (W++W') f h:=λi az=>by
 rw [Lw,ays]at az
 rw [ab i az.2,h1 i az.1]
theorem eN.left{W:List Nat}(W':List Nat)(h:eN W f g):eN (W++W') f g:=λi az=>by
 rw [Lw,ays]at az
 exact h i az.1
theorem eN.right{W':List Nat}(W:List Nat)(h:eN W' f g):eN (W++W') f g:=λi az=>by
 rw [Lw,ays]at az
 exact h i az.2
theorem DX{ad:Oper}{rest:List Oper}(h:eN (hl rest) (eI f ad.dst v) g):eN (hl (ad::rest)) f g:=by
 intro i az
 cases aR:ad.dst with
 |none=>
  rw [aR]at h
  simp only [hl,aR]at az
  exact h i az
 |some d=>
  rw [aR]at h
  simp only [hl,aR]at az
  have nb:mx (d::hl rest) i=false:=by split at az<;>exact az
  simp only [mx]at nb
  cases al:LY i d with
  |true=>simp [al]at nb
  |false=>
   simp only [al,cond_false]at nb
   rw [h i nb]
   simp [eI,gq,al]
theorem Lx{c:Bool}(h:b8 n f (.tmp d)=.bool c):gq f d (.bool c)=f:=by
 funext i
 rw [DB]
 split
 ·rename_i aR
  subst aR
  rw [xH]at h
  split at h
  ·exact h.symm
  ·simp [undef]at h
 ·rfl
theorem ta{ops:List Oper}{K cc:F->U->Prop}(hk:∀f H,K f H->cc f H):∀(l:List Oper) (f:F) (H:U),lj P n ops l f H K->lj P n ops l f H cc
 |[],f,H,h=>hk _ _ h
 |ad::rest,f,H,h=>by
  unfold lj at h⊢
  split at h
  ·exact p2 (λv H' k=>ta hk rest _ _ k) h
  ·rename_i j want kN
   split at h
   ·exact ta hk rest _ _ h
   ·split at h
    ·rename_i c av
     cases c<;>cases want<;>simp only [aU,cond_true,cond_false]at h⊢
     ·exact p2 (λv H' k=>ta hk rest _ _ k) h
     ·exact ta hk rest _ _ h
     ·exact ta hk rest _ _ h
     ·exact p2 (λv H' k=>ta hk rest _ _ k) h
    ·exact ta hk rest _ _ h
theorem Ly{ops:List Oper}{K:F->U->Prop}:∀(l:List Oper) (f:F) (H:U),lj P n ops l f H K->lj P n ops l f H (λbL H'=>K bL H'/\eN (hl l) f bL)
 |[],f,H,h=>⟨h,eN.refl _ _⟩
 |ad::rest,f,H,h=>by
  have key:∀(v:Value) (H':U),lj P n ops rest (eI f ad.dst v) H' K->lj P n ops rest (eI f ad.dst v) H' λbL H'=>K bL H'/\eN (hl (ad::rest)) f bL:=by
   intro v H' hk
   exact ta (λbL H' k=>⟨k.1,DX k.2⟩) rest _ _ (Ly rest _ _ hk)
  unfold lj at h⊢
  split at h
  ·exact p2 (λv H' hk=>key v H' hk) h
  ·rename_i j want kN
   split at h
   ·exact key _ _ h
   ·rename_i da hs
    split at h
    ·rename_i c av
     have e:=Lx av
     cases c<;>cases want<;>simp only [aU,cond_true,cond_false,e]at h⊢
     ·exact p2 (λv H' hk=>key v H' hk) h
     ·exact key _ _ h
     ·exact key _ _ h
     ·exact p2 (λv H' hk=>key v H' hk) h
    ·exact key _ _ h
theorem Tc{ops:List Oper}{K:F->U->Prop}:∀(l:List Oper) (f:F) (H:U),rN P n l f H K->lj P n ops l f H K
 |[],_,_,h=>h
 |ad::rest,f,H,h=>by
  unfold rN at h
  unfold lj
  split at h
  ·rename_i ba
   rw [ba]
   exact p2 (λv H' k=>Tc rest _ _ (SO k)) h
  ·exact h.elim
theorem Lz{K cc:F->U->Prop}(hk:∀f H,K f H->cc f H):∀(l:List Oper) (f:F) (H:U),rN P n l f H K->rN P n l f H cc
 |[],f,H,h=>hk _ _ h
 |ad::rest,f,H,h=>by
  unfold rN at h⊢
  split at h
  ·exact p2 (λv H' k=>Hr (λv k=>Lz hk rest _ _ k) k) h
  ·exact h.elim
theorem Td{K:F->U->Prop}:∀(l:List Oper) (f:F) (H:U),rN P n l f H K->rN P n l f H (λbL H'=>K bL H'/\eN (hl l) f bL)
 |[],f,H,h=>⟨h,eN.refl _ _⟩
 |ad::rest,f,H,h=>by
  have key:∀(v:Value) (H':U),rN P n rest (eI f ad.dst v) H' K->rN P n rest (eI f ad.dst v) H' λbL H'=>K bL H'/\eN (hl (ad::rest)) f bL:=by
   intro v H' hk
   exact Lz (λbL H' k=>⟨k.1,DX k.2⟩) rest _ _ (Td rest _ _ hk)
  unfold rN at h⊢
  split at h
  ·exact p2 (λv H' hk=>Hr (λv hk=>key v H' hk) hk) h
  ·exact h.elim
theorem aer{a:hE}{ops:List Oper}{K:F->U->Prop}(h:wb P n a ops f H K):lj P n ops ops f H K:=by
 unfold wb at h
 split at h
 ·exact Tc _ _ _ h
 ·exact h
theorem aes{a:hE}{ops:List Oper}{K cc:F->U->Prop}(hk:∀f H,K f H->cc f H)(h:wb P n a ops f H K):wb P n a ops f H cc:=by
 unfold wb at h⊢
 split at h
 ·exact Lz hk _ _ _ h
 ·exact ta hk _ _ _ h
theorem aet{a:hE}{ops:List Oper}{K:F->U->Prop}(h:wb P n a ops f H K):wb P n a ops f H (λbL H'=>K bL H'/\eN (hl ops) f bL):=by
 unfold wb at h⊢
 split at h
 ·exact Td _ _ _ h
 ·exact Ly _ _ _ h
theorem tc{ops:List Oper}{K cc:F->Prop}(hk:∀f,K f->cc f):∀(l:List Oper) (f:F),mv P n ops H l f K->mv P n ops H l f cc
 |[],f,h=>hk _ h
 |ad::rest,f,h=>by
  unfold mv at h⊢
  split at h
  ·exact s9 (λv k=>tc hk rest _ k) h
  ·rename_i j want kN
   split at h
   ·exact tc hk rest _ h
   ·split at h
    ·rename_i c av
     cases c<;>cases want<;>simp only [aU,cond_true,cond_false]at h⊢
     ·exact s9 (λv k=>tc hk rest _ k) h
     ·exact tc hk rest _ h
     ·exact tc hk rest _ h
     ·exact s9 (λv k=>tc hk rest _ k) h
    ·exact tc hk rest _ h
theorem LA{ops:List Oper}{K:F->Prop}:∀(l:List Oper) (f:F),mv P n ops H l f K->mv P n ops H l f (λbL=>K bL/\eN (hl l) f bL)
 |[],f,h=>⟨h,eN.refl _ _⟩
 |ad::rest,f,h=>by
  have key:∀(v:Value),mv P n ops H rest (eI f ad.dst v) K->mv P n ops H rest (eI f ad.dst v) λbL=>K bL/\eN (hl (ad::rest)) f bL:=by
   intro v hk
   exact tc (λbL k=>⟨k.1,DX k.2⟩) rest _ (LA rest _ hk)
  unfold mv at h⊢
  split at h
  ·exact s9 (λv hk=>key v hk) h
  ·rename_i j want kN
   split at h
   ·exact key _ h
   ·rename_i da hs
    split at h
    ·rename_i c av
     have e:=Lx av
     cases c<;>cases want<;>simp only [aU,cond_true,cond_false,e]at h⊢
     ·exact s9 (λv hk=>key v hk) h
     ·exact key _ h
     ·exact key _ h
     ·exact s9 (λv hk=>key v hk) h
    ·exact key _ h
theorem aeu(l:List Oper)(m i:Nat):mx (hl l) i=(mx (hl (l.take m)) i||mx (hl (l.drop m)) i):=by
 induction l generalizing m with
 |nil=>simp [hl,mx]
 |cons ad l ih=>
  cases m with
  |zero=>simp [hl,mx]
  |succ m=>
   simp only [ay7,List.drop_succ_cons,hl]
   cases aR:ad.dst with
   |none=>exact ih m
   |some d=>
    cases ba:ad.guard<;>simp only [mx,ih m]<;>cases LY i d<;>rfl
theorem wi(h:X->Y):∀{D:lk},uD D H X->uD D H Y
 |[],aa=>h aa
 |_::_,aa=>⟨aa.1,wi h aa.2⟩
theorem HF:∀{D:lk},uD D H X->(∀x∈D,x.2 H)/\X
 |[],aa=>⟨by simp,aa⟩
 |y::D,aa=>⟨λx hm=>(axA.1 hm).elim (λe=>by rw [e];exact aa.1) ((HF aa.2).1 x),(HF aa.2).2⟩
theorem aev{ops:List Oper}{K cc:F->U->Prop}(hk:∀f H,K f H->cc f H):∀(s:e9) (m:Nat) (D:lk) (f:F) (H:U),il P n ops bef K s m D f H->il P n ops bef cc s m D f H:=by
 intro s
 induction s with
 |done=>intro m D f H h;unfold il at h⊢;exact gr (hk _ _) h
 |quiet i s ih=>
  intro m D f H h
  unfold il at h⊢
  split at h
  ·exact h
  ·exact gr (rP (λh=>s9 (λv h=>ih _ _ _ _ h) h) (λh=>ih _ _ _ _ h)) h
 |pick s ih=>intro m D f H h;unfold il at h⊢;exact gr (ih _ _ _ _) h
 |alt i s r ih td=>
  intro m D f H h
  unfold il at h⊢
  split at h
  ·exact h
  ·refine gr (λh=> ?_) h
   cases aB:r.rL with
   |true=>
    rw [aB]at h
    simp only [cond_true]at h⊢
    exact rP (λh=>p2 (λv H' h=>wi (ih _ _ _ _) h) h) (λh=>ih _ _ _ _ h) h
   |false=>
    rw [aB]at h
    simp only [cond_false]at h⊢
    exact⟨rP (λh=>p2 (λv H' h=>wi (ih _ _ _ _) h) h) (λh=>ih _ _ _ _ h) h.1,td _ _ _ _ h.2⟩
 |stop=>intro m D f H h;exact h
theorem Te:∀{ops:List Oper} {i d:Nat} {ad:Oper},ops[i]?=some ad->ad.dst=some d->mx (hl ops) d=true
 |[],i,_,_,h,_=>by simp at h
 |x::l,0,d,ad,h,aR=>by
  simp at h
  subst h
  simp only [hl,aR]
  have:LY d d=true:=Nat.beq_refl d
  cases x.guard<;>(unfold mx;rw [this];rfl)
 |x::l,i+1,d,ad,h,aR=>by
  have:=Te (ops:=l) (i:=i) (by simpa using h) aR
  simp only [hl]
  cases aa:x.dst with
  |none=>exact this
  |some d'=>
   cases x.guard<;>simp only [mx,this]<;>cases LY d d'<;>rfl
theorem rQ{ops:List Oper}{ad:Oper}{f0:F}(az:ops[i]?=some ad)(h:eN (hl ops) f0 f)(v:Value):eN (hl ops) f0 (eI f ad.dst v):=by
 intro k hk
 cases aR:ad.dst with
 |none=>exact h k hk
 |some d=>
  have Kg:k≠d:=λe=>by subst e;rw [Te az aR]at hk;cases hk
  simp only [eI,DB,if_neg Kg]
  exact h k hk
theorem aew{ops:List Oper}{K:F->U->Prop}{f0:F}:∀(s:e9) (m:Nat) (D:lk) (f:F) (H:U),eN (hl ops) f0 f->il P n ops bef K s m D f H->il P n ops bef (λbL H'=>K bL H'/\eN (hl ops) f0 bL) s m D f H:=by
 intro s
 induction s with
 |done=>intro m D f H aw h;unfold il at h⊢;exact gr (λh=>⟨h,aw⟩) h
 |quiet i s ih=>
  intro m D f H aw h
  unfold il at h⊢
  split at h
  ·exact h
  ·rename_i ad az
   exact gr (rP (λh=>s9 (λv h=>ih _ _ _ _ (rQ az aw _) h) h) (λh=>ih _ _ _ _ (rQ az aw _) h)) h
 |pick s ih=>intro m D f H aw h;unfold il at h⊢;exact gr (ih _ _ _ _ aw) h
 |alt i s r ih td=>
  intro m D f H aw h
  unfold il at h⊢
  split at h
  ·exact h
  ·rename_i ad az
   refine gr (λh=> ?_) h
   cases aB:r.rL with
   |true=>
    rw [aB]at h
    simp only [cond_true]at h⊢
    exact rP (λh=>p2 (λv H' h=>wi (ih _ _ _ _ (rQ az aw _)) h) h) (λh=>ih _ _ _ _ (rQ az aw _) h) h
   |false=>
    rw [aB]at h
    simp only [cond_false]at h⊢
    exact⟨rP (λh=>p2 (λv H' h=>wi (ih _ _ _ _ (rQ az aw _)) h) h) (λh=>ih _ _ _ _ (rQ az aw _) h) h.1,td _ _ _ _ aw h.2⟩
 |stop=>intro m D f H aw h;exact h
def lC(bef:List Nat)(j:Nat):Nat:=bef.getD j 0
def pe(D:lk):pc:=D.map λx=>(x.1,λw=>x.2 w.heap)
theorem LB(bef:List Nat)(j:Nat):∀D:lk,jT (lC bef) j (pe D)=pe (iE bef j D)
 |[]=>rfl
 |(HG,avC)::D=>by
  have ih:=LB bef j D
  unfold jT pe at ih⊢
  simp only [axE,axT,iE]
  show(if(!gM (lC bef j) HG)=true then _ else _)=_
  cases al:gM (bef.getD j 0) HG with
  |true=>rw [if_neg (by show¬(!gM (bef.getD j 0) HG)=true;rw [al];simp)];simpa using ih
  |false=>rw [if_pos (by show(!gM (bef.getD j 0) HG)=true;rw [al];rfl)];simpa using ih
theorem xT{D:lk}{E:Env}{d:kK E}:xO (pe D) (bf E H d)↔∀x∈D,x.2 H:=by
 unfold xO pe
 simp only [ayf,forall_exists_index,and_imp,forall_apply_eq_imp_iff₂]
 rfl
theorem Tf{y:Nat}:∀(l:List Edge) (s:Nat),gM (l.foldl (λs e=>cond (Region.binds .any e) (axP s (axP (ax0 2 e.on) (bef.getD e.on 0))) s) s) y=true→
  gM s y=true\/∃e∈l,Region.binds .any e=true/\(e.on=y\/gM (lC bef e.on) y=true)
 |[],s,h=>.inl h
 |e::l,s,h=>by
  rw [ayF]at h
  rcases Tf l _ h with h1|⟨dp,iH,r⟩
  ·cases al:Region.binds .any e with
   |false=>rw [al]at h1;exact .inl h1
   |true=>
    rw [al]at h1
    simp only [cond_true]at h1
    rw [rM]at h1
    rw [show axP s (axP (ax0 2 e.on) (bef.getD e.on 0))=s|||(2^e.on|||bef.getD e.on 0)from rfl,ayN,ayN,ay6]at h1
    simp only [ayO,decide_eq_true_eq]at h1
    rcases h1 with h1|h1|h1
    ·exact .inl (by rw [rM];exact h1)
    ·exact .inr ⟨e,aye ..,al,.inl h1⟩
    ·exact .inr ⟨e,aye ..,al,.inr (by unfold lC;rw [rM];exact h1)⟩
  ·exact .inr ⟨dp,axU _ iH,r⟩
theorem Tg{ops:List Oper}(h:DL ops bef=true):DU .any ops.toArray (lC bef):=by
 intro j fu bq y aA
 have kO:ops[j]?=some fu:=by simpa using bq
 unfold DL at h
 rw [ax3]at h
 have h1:=h (fu,0+j) (HA ops 0 fu j kO)
 simp only [axJ]at h1
 have ab:=axB h1
 have ar:gM (bef.getD j 0) y=true:=aA
 rw [<-ab]at ar
 rw [rM]at ar
 rw [show∀a b:Nat,Nat.land a b=a&&&b from λ_ _=>rfl,Nat.testBit_and]at ar
 simp only [axz]at ar
 rcases Tf fu.after.toList 0 (by rw [rM];exact ar.2)with a7|⟨e,he,r⟩
 ·simp [rM]at a7
 ·exact⟨e,by simpa using he,r⟩
theorem aex{ops:List Oper}{K:F->U->Prop}{E:Env}{Q:Act->World->Prop}(bV:∀f H d,K f H->Q (cJ Df n f) (bf E H d))(al:DL ops bef=true)(pd:Region.noSelect ops.toArray=true):
  ∀(s:e9),(∀(m:Nat) (D:lk) (listed:Array Bool) (fuel:Nat) (f:F) (H:U) (d:kK E),il P n ops bef K s m D f H->s.zu=true->Told ops m listed->qQ (lC bef) listed->s.depth<=fuel->(∀x∈D,x.2 H)→
    uE P .any ops.toArray (λe a w=>e=.normal/\Q a w) (lC bef) fuel listed (pe D) (cJ Df n f) (bf E H d))∧
   (∀(m:Nat) (D:lk) (listed:Array Bool) (fuel:Nat) (f:F) (H:U) (d:kK E),il P n ops bef K s m D f H->Told ops m listed->qQ (lC bef) listed->s.depth<=fuel+1->(∀x∈D,x.2 H)→
    ∀i∈s.alts,i∈Region.ready .any ops.toArray listed->wpOp P ops.toArray (λe a w=>e=.normal/\Q a w) i
     (λaV w'=>xO (jT (lC bef) i (pe D)) w'/\uE P .any ops.toArray (λe a w=>e=.normal/\Q a w) (lC bef) fuel (listed.setIfInBounds i true) (jT (lC bef) i (pe D)) aV w') (cJ Df n f) (bf E H d)):=by
 have bM:=Tg al
 intro s
 induction s with
 |done=>
  refine⟨λm D listed fuel f H d h _ aW av _ ee=> ?_,λm D listed fuel f H d h aW av _ ee i az=>by simp [e9.alts]at az⟩
  unfold il at h
  obtain⟨aB,h⟩:=oC h
  have te:Region.ready .any ops.toArray listed=[]:=by
   cases aG:Region.ready .any ops.toArray listed with
   |nil=>rfl
   |cons x l=>have:=HB aW aB x (by rw [aG];simp);simp at this
  cases fuel with
  |zero=>exact⟨te,rfl,bV _ _ _ h⟩
  |succ fuel=>exact⟨λ_=>⟨rfl,bV _ _ _ h⟩,by rw [te];simp⟩
 |quiet i s ih=>
  refine⟨λm D listed fuel f H d h _ aW av kP ee=> ?_,λm D listed fuel f H d h aW av _ ee i az=>by simp [e9.alts]at az⟩
  unfold il at h
  split at h
  ·exact h.elim
  ·rename_i ad az
   obtain⟨aO,h⟩:=oC h
   simp only [Ho,axz]at aO
   obtain⟨⟨aO,dW⟩,nY⟩:=aO
   have lh:i<ops.length:=(axC.1 az).1
   have aB:=Ta aW az aO
   cases fuel with
   |zero=>simp [e9.depth]at kP
   |succ fuel=>
    have zA:s.depth<=fuel:=by simp [e9.depth]at kP;exact kP
    have nb:ops.toArray[i]?=some ad:=by simpa using az
    have qR:=av.set bM aB
    rcases Hy h with⟨hw,h⟩|⟨hw,h⟩
    ·obtain⟨v,hk,ai,xU⟩:=Lq h
     have aA:YieldsIf P ops.toArray (λw=>hF (gS P n f ad v) w.heap) ad v (cJ Df n f):=.inl ⟨hw,λw hw=>by rw [xG];exact xU w hw⟩
     refine S8 nb (Region.noSelect_spec pd) (λc a w aH=>by cases aH.1) bM fuel listed (pe D) (cJ Df n f) (bf E H d) (HC aW aO) av aB aA ai (xT.2 ee) ?_
     rw [j9]
     cases bS:gS P n f ad v with
     |none=>
      rw [bS]at hk
      exact Lu _ _ _ _ _ (ih.1 _ _ _ _ _ _ d hk nY (aW.set lh) qR zA ee)
     |some F=>
      rw [bS]at hk ai
      refine ih.1 _ _ _ _ _ _ d hk nY (aW.set lh) qR zA λx aa=> ?_
      rcases axA.1 aa with rfl|aa
      ·exact ai
      ·exact ee x aa
    ·have aA:YieldsIf P ops.toArray (λ_=>True) ad undef (cJ Df n f):=.inr ⟨hw,rfl⟩
     refine S8 nb (Region.noSelect_spec pd) (λc a w aH=>by cases aH.1) bM fuel listed (pe D) (cJ Df n f) (bf E H d) (HC aW aO) av aB aA trivial (xT.2 ee) ?_
     rw [j9]
     exact Lu _ _ _ _ _ (ih.1 _ _ _ _ _ _ d h nY (aW.set lh) qR zA ee)
 |pick s ih=>
  refine⟨λm D listed fuel f H d h _ aW av kP ee=> ?_,λm D listed fuel f H d h aW av _ ee i az=>by simp [e9.alts]at az⟩
  unfold il at h
  obtain⟨aB,h⟩:=oC h
  simp only [Hp,axz]at aB
  obtain⟨aB,bW⟩:=aB
  have cP:Region.ready .any ops.toArray listed≠[]:=by
   cases nV:s.alts with
   |nil=>rw [nV]at bW;cases bW
   |cons i l=>
    rw [nV]at bW
    simp only [DK]at bW
    split at bW
    ·rename_i ad aw
     simp only [axz,ayd]at bW
     intro te
     have lh:i<ops.length:=(axC.1 aw).1
     have:i∈Region.ready .any ops.toArray listed:=by
      refine mem_ready.2 ⟨by rw [aW.getD lh];exact bW.1,ad,by simpa using aw,λe he wg=> ?_⟩
      have h1:=bW.2
      unfold xJ at h1
      rw [ax3]at h1
      have:=h1 e (by simpa using he)
      rw [wg]at this
      have uG:gM m e.on=true:=by simpa using this
      rw [aW.getD (aW.lt _ uG)]
      exact uG
     rw [te]at this
     cases this
    ·cases bW
  have j':s.depth<=fuel:=kP
  cases fuel with
  |zero=>
   exfalso
   cases s with
   |alt i s r=>
    simp only [e9.depth]at j'
    cases h4:axF (s.depth+1) r.depth with
    |true=>rw [h4]at j';have:=ax1 h4;simp only [cond_true]at j';omega
    |false=>rw [h4]at j';simp only [cond_false]at j';omega
   |_=>simp [e9.alts,DK]at bW
  |succ fuel=>
   refine⟨λaF=>absurd aF cP,λi az=> ?_⟩
   exact ih.2 m D listed fuel f H d h aW av j' ee i (HB aW aB i az) az
 |alt i s r ih td=>
  refine⟨λm D listed fuel f H d h hm=>by simp [e9.zu]at hm,λm D listed fuel f H d h aW av kP ee k hk yU=> ?_⟩
  unfold il at h
  split at h
  ·exact h.elim
  ·rename_i ad az
   obtain⟨nY,h⟩:=oC h
   have j':s.depth<=fuel/\r.depth<=fuel+1:=by
    simp only [e9.depth]at kP
    cases h4:axF (s.depth+1) r.depth with
    |true=>rw [h4]at kP;have:=ax1 h4;simp only [cond_true]at kP;omega
    |false=>
     rw [h4]at kP
     simp only [cond_false]at kP
     have:¬s.depth+1<=r.depth:=λhle=>by rw [ay3 hle]at h4;cases h4
     omega
   have here:guarded ops n ad f
     (λf=>nW P n f ad H λv H'=>uD (iE bef i D) H' (il P n ops bef K s (mw m i) (iE bef i D) (eI f ad.dst v) H'))
     (λf=>il P n ops bef K s (mw m i) (iE bef i D) (eI f ad.dst undef) H)/\(k≠i->il P n ops bef K r m D f H/\r.rL=false):=by
    cases qF:r.rL with
    |true=>
     rw [qF]at h
     refine⟨h,λcP=> ?_⟩
     exfalso
     cases r<;>simp [e9.rL]at qF
     simp [e9.alts]at hk
     exact cP hk
    |false=>rw [qF]at h;exact⟨h.1,λ_=>⟨h.2,rfl⟩⟩
   by_cases s8:k=i
   ·subst s8
    have lh:k<ops.length:=(axC.1 az).1
    have qR:=av.set bM yU
    rw [LB]
    unfold wpOp
    have nb:ops.toArray[k]?=some ad:=by simpa using az
    simp only [nb]
    have DY:∀x∈iE bef k D,x∈D:=by
     have aux:∀D:lk,∀x∈iE bef k D,x∈D:=by
      intro D
      induction D with
      |nil=>intro x aa;simp [iE]at aa
      |cons y D DZ=>
       obtain⟨LC,aey⟩:=y
       intro x aa
       simp only [iE]at aa
       cases h4:gM (bef.getD k 0) LC with
       |true=>rw [h4]at aa;exact axU _ (DZ x aa)
       |false=>
        rw [h4]at aa
        rcases axA.1 aa with rfl|aa
        ·exact aye ..
        ·exact axU _ (DZ x aa)
     exact aux D
    rcases Hy here.1 with⟨hw,h⟩|⟨hw,h⟩
    ·rw [if_pos hw]
     refine .inl (BB h E (λv H' d' fe=> ?_) d)
     obtain⟨h1,ab⟩:=HF fe
     exact⟨xT.2 h1,ih.1 _ _ _ _ _ _ d' ab nY (aW.set lh) qR j'.1 h1⟩
    ·rw [if_neg (by rw [hw];simp),j9]
     exact⟨xT.2 λx aa=>ee x (DY x aa),ih.1 _ _ _ _ _ _ d h nY (aW.set lh) qR j'.1 λx aa=>ee x (DY x aa)⟩
   ·obtain⟨ab,_⟩:=here.2 s8
    have dc:k∈r.alts:=by
     simp only [e9.alts,axA]at hk
     rcases hk with h|h
     ·exact absurd h s8
     ·exact h
    exact td.2 m D listed fuel f H d ab aW av j'.2 ee k dc yU
 |stop=>exact⟨λm D listed fuel f H d h=>h.elim,λm D listed fuel f H d h=>h.elim⟩
theorem aez{ops:List Oper}{s:e9}{K:F->U->Prop}{E:Env}{Q:Exit->Act->World->Prop}{id:Nat}(hm:P.follows .mixedOrders=true)(bV:∀f H d,K f H->Q .normal (cJ Df n f) (bf E H d))
  (bM:Bz ops bef s=true) (h:il P n ops bef K s 0 [] f H) (d:kK E):(Code.region id ops.toArray true).wp P Q (cJ Df n f) (bf E H d):=by
 simp only [Bz,axz]at bM
 obtain⟨⟨⟨al,pd⟩,j'⟩,nY⟩:=bM
 refine Code.wp_mono (Q:=λe a w=>e=.normal/\Q .normal a w) (λe a w aO=>by obtain⟨rfl,aO⟩:=aO;exact aO) ?_
 refine wp_region_any hm (S6 (bef:=lC bef) _ _ [] _ _ ?_)
 have cd:Told ops 0 (ayP ops.toArray.size false):=by
  refine⟨by simp,λi az=> ?_,λi az=>by simp [rM]at az⟩
  have:i<ops.toArray.size:=by simpa using az
  simp [rM,az]
 have dj:qQ (lC bef) (ayP ops.toArray.size false):=by
  intro x aa
  rw [ax9,ay8]at aa
  split at aa<;>simp at aa
 exact(aex (Q:=λa w=>Q .normal a w) bV al pd s).1 0 [] _ ops.toArray.size f H (up d) h nY cd dj (by simpa using ax1 j') (by simp)
theorem nd{dL:List Nat->hE}:∀(c:Code) (p:List Nat) {K cc:lV->F->U->Prop} (_hk:∀e f H,K e f H->cc e f H) (f:F) (H:U),hn P n dL c p K f H->hn P n dL c p cc f H
 | .skip,_,_,_,hk,_,_,h=>hk _ _ _ h
 | .region _ ops draw,p,K,cc,hk,f,H,h=>by
  unfold hn at h⊢
  cases draw with
  |false=>exact aes (λf H=>hk _ f H) h
  |true=>
   simp only [cond_true]at h⊢
   split at h
   ·exact gr (λh=>tc (λbL h=>ta (λf H=>hk _ f H) _ _ _ h) _ _ h) h
   ·exact gr (λh=>aev (λf H=>hk _ f H) _ _ _ _ _ h) h
   ·exact gr (λh=>tc (λbL h=>hk _ _ _ h) _ _ h) h
 | .seq a b,p,K,cc,hk,f,H,h=>by
  unfold hn at h⊢
  split at h
  ·obtain⟨M,h1,ab⟩:=h
   refine⟨M,nd a _ (λe f H k=> ?_) f H h1,λbr=>v' (λae h H' hm=>nd b _ hk _ _ (h H' hm)) (ab br)⟩
   cases e<;>first|exact k|exact hk _ _ _ k
  ·refine nd a _ (λe f H k=> ?_) f H h
   cases e<;>first|exact k.elim|exact hk _ _ _ k
  ·refine nd a _ (λe f H k=> ?_) f H h
   cases e<;>first|exact nd b _ hk _ _ k|exact hk _ _ _ k
 | .cond c a b,p,K,cc,hk,f,H,h=>by
  unfold hn at h⊢
  split at h
  ·exact Br (xK (nd a _ hk _ _)) (xK (nd b _ hk _ _)) h
  ·exact h.elim
 | .block id c,p,K,cc,hk,f,H,h=>by
  unfold hn at h⊢
  refine nd c _ (λe f H k=> ?_) f H h
  cases e with
  |exit i=>
   simp only at k⊢
   cases al:LY i id<;>rw [al]at k<;>exact hk _ _ _ k
  |_=>exact hk _ _ _ k
 | .loop c,p,K,cc,hk,f,H,h=>by
  unfold hn at h⊢
  split at h
  ·obtain⟨I,ki,h1,ab⟩:=h
   refine⟨I,ki,h1,λbr=>v' (λae h H' hm=>nd c _ (λe f H k=> ?_) _ _ (h H' hm)) (ab br)⟩
   cases e<;>first|exact k|exact hk _ _ _ k
  ·exact h.elim
 | .exit _,_,_,_,hk,_,_,h=>hk _ _ _ h
 | .ret,_,_,_,hk,_,_,h=>hk _ _ _ h
 | .rangeFunc ..,_,_,_,_,_,_,h=>h.elim
 | .scope _,_,_,_,_,_,_,h=>h.elim
 | .label _,_,_,_,_,_,_,h=>h.elim
 | .goto _,_,_,_,_,_,_,h=>h.elim
 | .refuse _,_,_,_,_,_,_,h=>h.elim
theorem BD(live:Live)(ae:List Value)(W:List Nat)(br f:F):eN W f (patch live ae W br f):=λi az=>by simp [patch,az]
theorem Th(n:Nat)(f:F):∀(live:Live) (i:Nat),DM live (gE n f live) i=none\/DM live (gE n f live) i=some (b8 n f (.tmp i))
 |[],_=>.inl rfl
 |s::l,i=>by
  simp only [gE,DM]
  cases al:LY i s.1 with
  |true=>right;rw [axB al];rfl
  |false=>exact Th n f l i
theorem HH{live:Live}{W:List Nat}{bL:F}(h:eN W f bL):cJ Df n (patch live (gE n bL live) W bL f)=cJ Df n bL:=by
 refine St λi az=> ?_
 unfold patch
 cases kI:mx W i with
 |false=>exact(h i kI).symm
 |true=>
  rcases Th n bL live i with e|e
  ·simp [e]
  ·simp only [e,cond_true]
   rw [xH]
   simp [az]
theorem tf{dL:List Nat->hE}:∀(c:Code) (p:List Nat) {K:lV->F->U->Prop} (f:F) (H:U),hn P n dL c p K f H->hn P n dL c p (λe bL H'=>K e bL H'/\eN (writes c) f bL) f H
 | .skip,_,_,_,_,h=>⟨h,eN.refl _ _⟩
 | .region _ ops draw,p,K,f,H,h=>by
  unfold hn at h⊢
  cases draw with
  |false=>exact aet h
  |true=>
   simp only [cond_true]at h⊢
   split at h
   ·rename_i m _
    refine gr (λh=> ?_) h
    refine tc (λbL h'=> ?_) _ _ (LA _ _ h)
    refine ta (λll dn k=>⟨k.1,λi az=> ?_⟩) _ _ _ (Ly _ _ _ h'.1)
    simp only [writes,aeu ops.toList m,ays]at az
    rw [k.2 i az.2,h'.2 i az.1]
   ·exact gr (λh=>aew _ _ _ _ _ (eN.refl _ _) h) h
   ·exact gr (λh=>LA _ _ h) h
 | .seq a b,p,K,f,H,h=>by
  unfold hn at h⊢
  split at h
  ·obtain⟨M,h1,ab⟩:=h
   refine⟨M,nd a _ (λe bL H' k=> ?_) f H (tf a _ f H h1),λbr=>v' (λae h H' hm=> ?_) (ab br)⟩
   ·cases e<;>first|exact k.1|exact⟨k.1,k.2.left _⟩
   ·exact nd b _ (λe bL H' k=>⟨k.1,(BD _ _ _ _ _).trans k.2⟩) _ _ (tf b _ _ _ (h H' hm))
  ·refine nd a _ (λe bL H' k=> ?_) f H (tf a _ f H h)
   cases e<;>first|exact k.1.elim|exact⟨k.1,k.2.left _⟩
  ·refine nd a _ (λe bL H' k=> ?_) f H (tf a _ f H h)
   cases e<;>first|exact nd b _ (λe ll dn eg=>⟨eg.1,k.2.trans eg.2⟩) _ _ (tf b _ _ _ k.1)|exact⟨k.1,k.2.left _⟩
 | .cond c a b,p,K,f,H,h=>by
  unfold hn at h⊢
  split at h
  ·exact Br (xK λh=>nd a _ (λe bL H' k=>⟨k.1,k.2.left _⟩) _ _ (tf a _ _ _ h)) (xK λh=>nd b _ (λe bL H' k=>⟨k.1,k.2.right _⟩) _ _ (tf b _ _ _ h)) h
  ·exact h.elim
 | .block id c,p,K,f,H,h=>by
  unfold hn at h⊢
  refine nd c _ (λe bL H' k=> ?_) f H (tf c _ f H h)
  cases e with
  |exit i=>
   obtain⟨fq,gT⟩:=k
   simp only at fq⊢
   cases al:LY i id<;>rw [al]at fq<;>exact⟨fq,gT⟩
  |_=>exact k
 | .loop c,p,K,f,H,h=>by
  unfold hn at h⊢
  split at h
  ·obtain⟨I,ki,h1,ab⟩:=h
   refine⟨I,ki,h1,λbr=>v' (λae h H' hm=>nd c _ (λe bL H' k=> ?_) _ _ (tf c _ _ _ (h H' hm))) (ab br)⟩
   have gT:eN (writes c) f bL:=λi az=>by rw [k.2 i az];exact BD _ _ _ _ _ i az
   cases e<;>first|exact k.1|exact⟨k.1,gT⟩
  ·exact h.elim
 | .exit _,_,_,_,_,h=>⟨h,eN.refl _ _⟩
 | .ret,_,_,_,_,h=>⟨h,eN.refl _ _⟩
 | .rangeFunc ..,_,_,_,_,h=>h.elim
 | .scope _,_,_,_,_,h=>h.elim
 | .label _,_,_,_,_,h=>h.elim
 | .goto _,_,_,_,_,h=>h.elim
 | .refuse _,_,_,_,_,h=>h.elim
theorem Ti(n:Nat)(g:F)(l:Live):gE n (λi=>(cJ Df n g).tmps.getD i undef) l=gE n g l:=by
 induction l with
 |nil=>rfl
 |cons s l ih=>
  simp only [gE]
  rw [ih]
  congr 1
  rw [xH,xH,ax9,Lg]
  split<;>simp_all
theorem pf{dL:List Nat->hE}(hm:P.follows .mixedOrders=true){E:Env}:∀(c:Code) (p:List Nat) {K:lV->F->U->Prop} {Q:Exit->Act->World->Prop}
  (_hQ:∀e f H d,K e f H->Q (lV.BA e) (cJ Df n f) (bf E H d)) (f:F) (H:U),hn P n dL c p K f H->∀d,c.wp P Q (cJ Df n f) (bf E H d)
 | .skip,_,_,_,bV,f,H,h,d=>wp_skip (bV .normal f H d h)
 | .region id ops draw,p,K,Q,bV,f,H,h,d=>by
  unfold hn at h
  cases draw with
  |false=>
   refine wp_region_list ?_
   have:=wc (Q:=Q) (λf H d k=>bV .normal f H d k) ops.toList f H (aer h) d
   simpa using this
  |true=>
   simp only [cond_true]at h
   split at h
   ·rename_i m _
    obtain⟨bM,h⟩:=oC h
    ·have e:Code.region id ops true=Code.region id ops.toList.toArray true:=by simp
     rw [e]
     refine wp_region_still_tail m hm (by simpa using bM) ?_
     refine we (w:=bf E H (up d)) (λbL h'=> ?_) _ f h
     exact wc (λf H d k=>bV .normal f H d k) _ bL H h' (up d)
   ·obtain⟨bM,h⟩:=oC h
    have e:Code.region id ops true=Code.region id ops.toList.toArray true:=by simp
    rw [e]
    exact aez hm (λf H d k=>bV .normal f H d k) bM h d
   ·obtain⟨bM,h⟩:=oC h
    ·refine wp_region_still hm bM ?_
     have e:ops.toList.toArray=ops:=by simp
     have:=we (P:=P) (n:=n) (ops:=ops.toList) (w:=bf E H (up d)) (Q:=λaV=>Q .normal aV (bf E H (up d))) (λbL h'=>bV .normal bL H (up d) h') _ f h
     rw [e]at this
     exact this
 | .seq a b,p,K,Q,bV,f,H,h,d=>by
  unfold hn at h
  refine wp_seq ?_
  split at h
  ·rename_i live _
   obtain⟨M,h1,ab⟩:=h
   refine pf hm a _ (λe bL H' d' k=> ?_) f H (tf a _ f H h1) d
   obtain⟨fq,gT⟩:=k
   cases e with
   |normal=>
    obtain⟨ar,a7⟩:=zm fq (ab bL)
    have:=pf hm b _ bV _ _ (ar H' a7) d'
    rw [HH gT]at this
    exact this
   |_=>exact bV _ _ _ _ fq
  ·refine pf hm a _ (λe bL H' d' k=> ?_) f H h d
   cases e with
   |normal=>exact k.elim
   |_=>exact bV _ _ _ _ k
  ·refine pf hm a _ (λe bL H' d' k=> ?_) f H h d
   cases e with
   |normal=>exact pf hm b _ bV _ _ k d'
   |_=>exact bV _ _ _ _ k
 | .cond c a b,p,K,Q,bV,f,H,h,d=>by
  unfold hn at h
  split at h
  ·rename_i c av
   refine wp_cond (t:=c) (by rw [vZ];exact av) ?_
   cases c
   ·exact pf hm b _ bV _ _ (Hq h) d
   ·exact pf hm a _ bV _ _ (Hq h) d
  ·exact h.elim
 | .block id c,p,K,Q,bV,f,H,h,d=>by
  unfold hn at h
  refine wp_block (pf hm c _ (λe bL H' d' k=> ?_) f H h d)
  cases e with
  |exit i=>
   simp only [lV.BA,Exit.inBlock]
   cases al:LY i id with
   |true=>
    rw [if_pos (axB al)]
    simp only [al,cond_true]at k
    exact bV .normal _ _ _ k
   |false=>
    rw [if_neg (λe=>by subst e;simp at al)]
    simp only [al,cond_false]at k
    exact bV (.exit i) _ _ _ k
  |normal=>exact bV .normal _ _ _ k
  |ret=>exact bV .ret _ _ _ k
 | .loop c,p,K,Q,bV,f,H,h,d=>by
  unfold hn at h
  split at h
  ·rename_i live _
   obtain⟨I,ki,h1,ab⟩:=h
   refine wp_loop (λa w=>∃bL H' d',a=cJ Df n bL/\w=bf E H' d'/\eN (writes c) f bL/\oB (mY live) (gE n bL live) (I (gE n bL live) H'))
    (λa w=>ki (gE n (λi=>a.tmps.getD i undef) live) w.heap) ⟨f,H,d,rfl,rfl,eN.refl _ _,h1⟩ ?_
   rintro a w ⟨bL,H',d',rfl,rfl,D0,dK⟩
   obtain⟨ar,a7⟩:=zm dK (ab bL)
   have bs:=tf c _ _ _ (ar H' a7)
   have b5:=pf (E:=E) hm c (0::p) (Q:=Exit.then (λaV w'=>(∃bL H' d',aV=cJ Df n bL/\w'=bf E H' d'/\eN (writes c) f bL/\oB (mY live) (gE n bL live) (I (gE n bL live) H'))∧
     ki (gE n (λi=>aV.tmps.getD i undef) live) w'.heap<ki (gE n (λi=>(cJ Df n bL).tmps.getD i undef) live) (bf E H' d').heap) Q) (λe ll dn tg k=> ?_) _ _ bs d'
   ·rw [HH D0]at b5
    exact b5
   ·obtain⟨fq,gT⟩:=k
    have aI:∀g:F,gE n (λi=>(cJ Df n g).tmps.getD i undef) live=gE n g live:=λg=>Ti n g live
    cases e with
    |normal=>
     refine⟨⟨ll,dn,tg,rfl,rfl,λi az=> ?_,Lh (λk=>k.1) fq⟩,?_⟩
     ·rw [gT i az];exact BD _ _ _ _ _ i az
     ·rw [aI,aI]
      have key:∀(l:List jj) (ae:List Value) (X:Prop),oB l ae X->X:=λl ae X h=>by
       have:p0 l λ_=>True:=by
        have aux:∀(l:List jj) (K:List Value->Prop),(∀ae,K ae)->p0 l K:=by
         intro l
         induction l with
         |nil=>intro K eL;exact eL _
         |cons s l ih=>
          intro K eL
          have D1:∀(b:B) (G:Value->Prop),(∀v,G v)->qL b G:=by
           intro b G cx;cases b<;>simp only [qL]<;>intros<;>exact cx _
          have LD:∀(cU:List B) (G:List Value->Prop),(∀ae,G ae)->xI cU G:=by
           intro cU
           induction cU with
           |nil=>intro G cx;exact cx _
           |cons b cU LF=>intro G cx;exact D1 b _ λv=>LF _ λae=>cx _
          cases s with
          |one b=>exact D1 b _ λv=>ih _ λae=>eL _
          |agg cU=>exact LD cU _ λv=>ih _ λae=>eL _
        exact aux l _ λ_=>trivial
       exact(zm h this).2
      exact(key _ _ _ fq).2
    |exit i=>exact bV (.exit i) _ _ _ fq
    |ret=>exact bV .ret _ _ _ fq
  ·exact h.elim
 | .exit id,_,_,_,bV,f,H,h,d=>wp_exit (bV (.exit id) f H d h)
 | .ret,_,_,_,bV,f,H,h,d=>wp_ret (bV .ret f H d h)
 | .rangeFunc ..,_,_,_,_,_,_,h,_=>h.elim
 | .scope _,_,_,_,_,_,_,h,_=>h.elim
 | .label _,_,_,_,_,_,_,h,_=>h.elim
 | .goto _,_,_,_,_,_,_,h,_=>h.elim
 | .refuse _,_,_,_,_,_,_,h,_=>h.elim
theorem HI(g:ResultVar->Sem Value)(g1:∀t,g (.tmp t)=pure ((cJ Df n f).tmps.getD t undef))
  (g2:∀a t,g (.cell a t)=do loadVar t (<-asAddr ((cJ Df n f).tmps.getD a undef))):∀{rs:List ResultVar} {K:List Value->Prop},nX P n f H rs K→
  ∃ae,(∀w:World,w.heap=H->(rs.mapM g:Sem (List Value)).run P w=.ok ae w)/\K ae
 |[],K,h=>⟨[],λw _=>by simp,h⟩
 | .tmp t::l,K,h=>by
  obtain⟨ae,aB,hk⟩:=HI g g1 g2 (rs:=l) h
  refine⟨_,λw hw=> ?_,hk⟩
  have e:(cJ Df n f).tmps.getD t undef=b8 n f (.tmp t):=vZ n f (.tmp t)
  simp only [ayI]
  rw [x3,g1,e]
  simp only [axG,x4]
  rw [x3,aB w hw]
  rfl
 | .cell a t::l,K,h=>by
  unfold nX zq at h
  split at h
  ·rename_i aC bW
   obtain⟨v,aG,h⟩:=DE h
   obtain⟨ae,aB,hk⟩:=HI g g1 g2 (rs:=l) h
   refine⟨_,λw hw=> ?_,hk⟩
   have e:(cJ Df n f).tmps.getD a undef=.pointer (some aC):=by rw [<-bW];exact vZ n f (.tmp a)
   simp only [ayI]
   rw [x3,g2,e]
   have a':(do loadVar t (<-asAddr (.pointer (some aC))):Sem Value).run P w=.ok v w:=by
    rw [x3]
    show(loadVar t aC).run P w=_
    exact aG w hw
   rw [a']
   simp only [x4]
   rw [x3,aB w hw]
   rfl
  ·exact h.elim
theorem Tj(fn:Func)(tmps:Array Value):∃g:ResultVar->Sem Value,(results fn tmps=do
   let ae<-fn.results.mapM g
   pure (if h:ae.size=1 then ae[0]else .tuple ae))/\(∀t,g (.tmp t)=pure (tmps.getD t undef))∧
  (∀a t,g (.cell a t)=do loadVar t (<-asAddr (tmps.getD a undef))):=⟨_,rfl,λ_=>rfl,λ_ _=>rfl⟩
theorem LG{k:FuncId}{fn:Func}{c:Code}{args:List Value}{rs:List ResultVar}{R:Value->U->Prop}(dL:List Nat->hE)(hm:P.follows .mixedOrders=true)
  (ai:P.funcs[k]?=some fn) (al:fn.body=some c) (ay:fn.ntmps=n) (aB:fn.results.toList=rs) (hle:axF args.length n=true)
  (h:hn P n dL c [] (Hs P n rs R) (s6 args) H):fo P k args.toArray H R:=by
 intro E d
 refine calls_of_wp ai al ?_
 have aF:{tmps:=args.toArray++ayP (fn.ntmps-args.toArray.size) undef,defers:=[]}=cJ [] n (s6 args):=by
  have aeA:args.length<=n:=ax1 hle
  unfold cJ
  congr 1
  apply ayC
  intro i
  have az:∀(l:List Value) (i:Nat),s6 l i=l.getD i undef:=by
   intro l
   induction l with
   |nil=>intro i;rfl
   |cons v l ih=>intro i;cases i with|zero=>rfl|succ i=>exact ih i
  simp only [Array.getElem?_append,aya,ay9,axS,ay,az,ay8]
  by_cases h1:i<args.length
  ·have ab:i<n:=by omega
   simp [h1,ab,aza]
  ·by_cases ab:i<n
   ·have ar:i-args.length<n-args.length:=by omega
    simp [h1,ab,ar,aza]
   ·have ar:¬i-args.length<n-args.length:=by omega
    simp [h1,ab,ar]
 rw [aF]
 refine pf hm c [] (λe f H' d' k=> ?_) _ H h d
 have fin:nX P n f H' rs (λae=>R (my ae) H')->∃v,(results fn (cJ [] n f).tmps).run P (bf E H' d')=.ok v (bf E H' d')/\∃gZ dn tg,Ending.returned v=.returned gZ/\bf E H' d'=bf E dn tg/\R gZ dn:=by
  intro h
  obtain⟨g,D2,g1,g2⟩:=Tj fn (cJ [] n f).tmps
  obtain⟨ae,ks,hk⟩:=HI g g1 g2 h
  refine⟨my ae,?_,_,_,_,rfl,rfl,hk⟩
  have aL:=ks (bf E H' d') rfl
  rw [D2,x3,ay4,Sem.run_map,aB]
  rw [aL]
  simp only [x4]
  have a':∀ae:List Value,(if h:ae.toArray.size=1 then ae.toArray[0]else .tuple ae.toArray)=my ae:=by
   intro ae
   match ae with
   |[]=>rfl
   |[v]=>rfl
   |_::_::_=>simp [my]
  rw [<-a' ae]
  rfl
 cases e with
 |normal=>exact⟨rfl,fin k⟩
 |ret=>exact⟨rfl,fin k⟩
 |exit i=>exact k.elim
def j5(H:U)(a:Addr):Option Value:=
 match H[a.block]? with
 |some (.cells c _ _)=>if a.spot.isSome then none else c[a.off]?
 |_=>none
theorem Au(w:World)(a:Addr):w.cell? a=j5 w.heap a:=rfl
@[simp] theorem lg(b ad n:Nat):(⟨b,ad,none⟩:Addr).add n=⟨b,ad+n,none⟩:=by
 unfold Addr.add
 split
 ·rename_i h;subst h;rfl
 ·rfl
structure Fr(S:List Nat)(H H':U):Prop where
 size:H.size<=H'.size
 block:∀k,k<H.size->k∉S->H'[k]?=H[k]?
theorem Fr.refl(S:List Nat)(H:U):Fr S H H:=⟨axx _,λ_ _ _=>rfl⟩
theorem Fr.mono{S':List Nat}(h:Fr S H H')(hs:∀k∈S,k∈S'):Fr S' H H':=⟨h.size,λk hk ay=>h.block k hk λdc=>ay (hs k dc)⟩
theorem Fr.trans{S':List Nat}(h:Fr S H H')(h':Fr S' H' dn):Fr (S++S') H dn:=
 ⟨ax4 h.size h'.size,λk hk ay=>by
  rw [azb,not_or]at ay
  rw [h'.block k (ayQ hk h.size) ay.2,h.block k hk ay.1]⟩
theorem Fr.trans'{S' T:List Nat}(h:Fr S H H')(h':Fr S' H' dn)(h1:∀k∈S,k<H.size->k∈T)(ab:∀k∈S',k<H.size->k∈T):Fr T H dn:=
 ⟨ax4 h.size h'.size,λk hk ay=>by
  rw [h'.block k (ayQ hk h.size) (λhs=>ay (ab k hs hk)),h.block k hk (λhs=>ay (h1 k hs hk))]⟩
theorem Fr.ag(h:Fr [] H H')(h':Fr S H' dn)(hs:∀k∈S,H.size<=k):Fr [] H dn:=
 h.trans' h' (by simp) λk hk bQ=>absurd (hs k hk) (by omega)
theorem Fr.aT(h:Fr [] H H')(h':Fr [] H' dn):Fr [] H dn:=h.ag h' (by simp)
theorem Fr.get(h:Fr S H H'){ad:Obj}(al:H[b]?=some ad)(ay:b∉S):H'[b]?=some ad:=by
 rw [h.block b (ayt.1 al).1 ay];exact al
theorem Fr.vE(h:Fr [] H H'){ad:Obj}(al:H[b]?=some ad):H'[b]?=some ad:=h.get al (by simp)
theorem Xx(h:j5 H a=some v):a.block<H.size:=by
 unfold j5 at h
 cases al:H[a.block]? with
 |none=>simp [al]at h
 |some ad=>exact(ayt.1 al).1
theorem Fr.cell(h:Fr S H H')(bW:j5 H a=some v)(ay:a.block∉S):j5 H' a=some v:=by
 unfold j5 at *
 rw [h.block a.block (Xx (H:=H) (a:=a) (v:=v) bW) ay]
 exact bW
theorem Fr.cell0(h:Fr [] H H')(bW:j5 H a=some v):j5 H' a=some v:=h.cell bW (by simp)
theorem dV.af{ad:Obj}(h:dV H b ad H'):Fr [] H H':=by
 obtain⟨rfl,rfl⟩:=h
 exact⟨by simp,λk hk _=>by rw [ayg,if_neg (by omega)]⟩
theorem dV.get{ad:Obj}(h:dV H b ad H'):H'[b]?=some ad:=by
 obtain⟨rfl,rfl⟩:=h
 simp
theorem dV.eq{ad:Obj}(h:dV H b ad H'):b=H.size:=h.1
theorem dV.size{ad:Obj}(h:dV H b ad H'):H'.size=H.size+1:=by
 obtain⟨rfl,rfl⟩:=h
 simp
theorem km{ad:Obj}(h:H[b]?=some ad):b<H.size:=(ayt.1 h).1
theorem tp{cs:Array Value}{mB:Nat×Nat}(h:H[b]?=some (.cells cs t mB))(off:Nat):j5 H ⟨b,off,none⟩=cs[off]?:=by
 simp [j5,h]
def nn(P:Program)(t:TypeId):Bool:=match P.underlying t with
 |some (.struct _)=>true|some (.array ..)=>true|some _=>false|none=>true
def q'(P:Program)(t:TypeId):Bool:=match P.underlying t with
 |some (.struct _)=>true|some (.array ..)=>true|_=>false
theorem OO{d:TypeDesc}(hu:P.underlying t=some d)(w:World):(isAgg t).run P w=.ok (q' P t) w:=by
 unfold isAgg
 rw [x3,eU hu]
 simp only [x4]
 unfold q'
 rw [hu]
 cases d<;>rfl
theorem x7(aW:nn P t=false)(h:j5 H a=some v):jS P t H a v:=by
 intro w hw
 unfold nn at aW
 cases hu:P.underlying t with
 |none=>simp [hu]at aW
 |some d=>
  have:q' P t=false:=by unfold q';rw [hu]at aW⊢;cases d<;>simp_all
  unfold loadVar
  rw [x3,OO hu,this]
  have av:w.cell? a=some v:=by rw [Au,hw];exact h
  simp [load,axy,av]
theorem EB(aW:q' P t=true)(hs:hy P t=ae.length)(h:∀i v,ae[i]?=some v->j5 H (a.add i)=some v):jS P t H a (.agg ⟨ae⟩):=by
 intro w hw
 have aa:=aW
 unfold q' at aa
 cases hu:P.underlying t with
 |none=>simp [hu]at aa
 |some d=>
  have az:∃i,P.info? t=some i:=by
   cases az:P.info? t with
   |some i=>exact⟨i,rfl⟩
   |none=>simp [Program.underlying,az]at hu
  obtain⟨i,az⟩:=az
  have cQ:i.size=ae.length:=by simpa [hy,az]using hs
  unfold loadVar
  rw [x3,OO hu,aW]
  simp only [x4,if_true]
  rw [x3,mu az,cQ]
  simp only [x4]
  rw [x3,run_loadCells_list w a ae (λj v aI=>by rw [Au,hw];exact h j v aI)]
  rfl
def vY(H:U)(g:Nat)(cs:Array Value):U:=H.modify g fun
 | .cells _ elem frozen=>.cells cs elem frozen
 |ad=>ad
theorem ap0(H:U)(g:Nat)(cs:Array Value):(vY H g cs).size=H.size:=by simp [vY]
theorem Ld{g:Nat}{gi cs:Array Value}{af:Nat×Nat}(h:H[g]?=some (.cells gi t af)):(vY H g cs)[g]?=some (.cells cs t af):=by
 simp [vY,ayR,h]
theorem Lc(H:U)(g:Nat)(cs:Array Value):Fr [g] H (vY H g cs):=
 ⟨by rw [ap0];exact axx _,λk hk ay=>by
  have:g≠k:=λe=>ay (by simp [e])
  simp [vY,ayR,this]⟩
theorem ap1{off:Nat}{cs:Array Value}(al:H[b]?=some (.cells cs dJ (0,0)))(hs:hy P t=v.cells.size)(az:(P.info? t).isSome=true)
  (h1:∀x∈v.cells.toList,x.oneCell'=true) (s4:off+v.cells.size<=cs.size):
  oz P t H ⟨b,off,none⟩ v (vY H b (cs.toList.take off++v.cells.toList++cs.toList.drop (off+v.cells.toList.length)).toArray):=by
 intro w hw
 cases nb:P.info? t with
 |none=>simp [nb]at az
 |some i=>
  have dF:i.size=v.cells.size:=by simpa [hy,nb]using hs
  unfold storeVar
  rw [x3,mu nb]
  simp only [x4]
  rw [if_neg (by simp [dF])]
  have ff:w.heap[b]?=some (.cells cs dJ (0,0)):=by rw [hw];exact al
  have:=run_storeCells_at P b off dJ v.cells.toList 0 cs w ff (by simpa using s4) h1
  rw [this,<-hw]
  rfl
theorem zG{off:Nat}{cs:List Value}{X:U->Prop}(al:H[b]?=some (.cells ⟨cs⟩ dJ (0,0)))(hs:hy P t=v.cells.size)(az:(P.info? t).isSome=true)
  (h1:∀x∈v.cells.toList,x.oneCell'=true) (s4:off+v.cells.size<=cs.length)
  (k:∀H',H'[b]?=some (.cells ⟨cs.take off++v.cells.toList++cs.drop (off+v.cells.toList.length)⟩ dJ (0,0))->Fr [b] H H'->X H'):∃H',oz P t H ⟨b,off,none⟩ v H'/\X H':=
 ⟨_,ap1 al hs az h1 (by simpa using s4),k _ (Ld al) (Lc H b _)⟩
theorem OP{off:Nat}{cs:List Value}{mB:Nat×Nat}(aW:nn P t=false)(al:H[b]?=some (.cells ⟨cs⟩ dJ mB))(h:cs[off]?=some v):jS P t H ⟨b,off,none⟩ v:=
 x7 aW (by rw [tp al];simpa using h)
theorem OQ{off:Nat}{cs:List Value}{mB:Nat×Nat}(aW:q' P t=true)(hs:hy P t=ae.length)(al:H[b]?=some (.cells ⟨cs⟩ dJ mB))
  (h:(cs.drop off).take ae.length=ae):jS P t H ⟨b,off,none⟩ (.agg ⟨ae⟩):=by
 refine EB aW hs λi v aI=> ?_
 rw [lg,tp al]
 rw [<-h,axN]at aI
 split at aI
 ·rw [ax5]at aI;simpa using aI
 ·cases aI
theorem ap2{zs:List Value}{K:Nat->U->Prop}(hs:hy P t=v.cells.size)(az:(P.info? t).isSome=true)
  (h1:∀x∈v.cells.toList,x.oneCell'=true) (aE:zs.length=v.cells.size)
  (k:∀b H',H.size<=b->H'[b]?=some (.cells ⟨v.cells.toList⟩ dJ (0,0))->Fr [] H H'->K b H'):
  ∀b H',dV H b (.cells ⟨zs⟩ dJ) H'->∃hv,oz P t H' ⟨b,0,none⟩ v hv/\K b hv:=by
 intro b H' ay
 refine zG ay.get hs az h1 (by simp [aE]) λao ba ai=> ?_
 refine k b ao (ayh ay.eq.symm) ?_ (ay.af.ag ai (by simp [ay.eq]))
 rw [ba]
 have:zs.drop (0+v.cells.toList.length)=[]:=azc (by simp [aE])
 rw [this]
 simp
def Grow(H:U)(S S':List Nat):Prop:=∀k∈S',k∈S\/H.size<=k
def er(S T:List Nat):Prop:=∀k∈S,k∉T
def In(H:U)(S:List Nat):Prop:=∀k∈S,k<H.size
theorem Grow.refl(H:U)(S:List Nat):Grow H S S:=λ_ h=>.inl h
theorem Grow.trans{S' Xy:List Nat}(h:Grow H S S')(hs:H.size<=H'.size)(h':Grow H' S' Xy):Grow H S Xy:=λk hk=>
 (h' k hk).elim (λh1=>h k h1) (λh1=>.inr (ax4 hs h1))
theorem er.symm{T:List Nat}(h:er S T):er T S:=λk hk dc=>h k dc hk
theorem In.le(h:In H S)(hs:H.size<=H'.size):In H' S:=λk hk=>ayQ (h k hk) hs
def a6(H:U)(a:Addr)(ae:List Value):Prop:=∃b dJ,a=⟨b,0,none⟩/\H[b]?=some (.cells ⟨ae⟩ dJ (0,0))
theorem dV.bz(h:dV H b (.cells ⟨ae⟩ t) H'):a6 H' ⟨b,0,none⟩ ae:=⟨b,t,rfl,h.get⟩
theorem a6.af(h:a6 H a ae)(ai:Fr S H H')(ay:a.block∉S):a6 H' a ae:=by
 obtain⟨b,dJ,rfl,h⟩:=h
 exact⟨b,dJ,rfl,ai.get h ay⟩
theorem a6.ag(h:a6 H a ae)(ai:Fr [] H H'):a6 H' a ae:=h.af ai (by simp)
theorem a6.lt(h:a6 H a ae):a.block<H.size:=by
 obtain⟨b,dJ,rfl,h⟩:=h
 exact km h
theorem a6.ld(aW:nn P t=false)(h:a6 H a ae)(aI:ae[j]?=some v):jS P t H (a.add j) v:=by
 obtain⟨b,dJ,rfl,h⟩:=h
 rw [lg]
 exact OP aW h (by simpa using aI)
theorem a6.tu(aW:nn P t=false)(h:a6 H a ae)(aI:ae[0]?=some v):jS P t H a v:=by
 obtain⟨b,dJ,rfl,h⟩:=h
 exact OP aW h aI
theorem a6.Rz{us:List Value}(aW:q' P t=true)(hs:hy P t=us.length)(h:a6 H a ae)(aI:(ae.drop j).take us.length=us):jS P t H (a.add j) (.agg ⟨us⟩):=by
 obtain⟨b,dJ,rfl,h⟩:=h
 rw [lg]
 exact OQ aW hs h (by simpa using aI)
theorem a6.B5{us:List Value}(aW:q' P t=true)(hs:hy P t=us.length)(h:a6 H a ae)(aI:ae.take us.length=us):jS P t H a (.agg ⟨us⟩):=by
 obtain⟨b,dJ,rfl,h⟩:=h
 exact OQ aW hs h (by simpa using aI)
theorem a6.st{X:U->Prop}(h:a6 H a ae)(hs:hy P t=v.cells.size)(az:(P.info? t).isSome=true)(h1:∀x∈v.cells.toList,x.oneCell'=true)
  (s4:j+v.cells.size<=ae.length) (k:∀H',a6 H' a (ae.take j++v.cells.toList++ae.drop (j+v.cells.toList.length))->Fr [a.block] H H'->X H'):∃H',oz P t H (a.add j) v H'/\X H':=by
 obtain⟨b,dJ,rfl,h⟩:=h
 rw [lg]
 refine zG h hs az h1 (by simpa using s4) λH' ba ai=>k H' ⟨b,dJ,rfl,?_⟩ ai
 rw [ba]
 simp
theorem a6.iQ{X:U->Prop}(h:a6 H a ae)(hs:hy P t=v.cells.size)(az:(P.info? t).isSome=true)(h1:∀x∈v.cells.toList,x.oneCell'=true)
  (s4:v.cells.size<=ae.length) (k:∀H',a6 H' a (v.cells.toList++ae.drop v.cells.toList.length)->Fr [a.block] H H'->X H'):∃H',oz P t H a v H'/\X H':=by
 obtain⟨b,dJ,rfl,h⟩:=h
 refine zG h hs az h1 (by simpa using s4) λH' ba ai=>k H' ⟨b,dJ,rfl,?_⟩ ai
 rw [ba]
 simp
theorem iS{zs:List Value}{K:Nat->U->Prop}(hs:hy P t=v.cells.size)(az:(P.info? t).isSome=true)
  (h1:∀x∈v.cells.toList,x.oneCell'=true) (aE:zs.length=v.cells.size)
  (k:∀b H',H.size<=b->a6 H' ⟨b,0,none⟩ v.cells.toList->Fr [] H H'->K b H'):
  ∀b H',dV H b (.cells ⟨zs⟩ dJ) H'->∃hv,oz P t H' ⟨b,0,none⟩ v hv/\K b hv:=
 ap2 hs az h1 aE λb H' al ba ai=>k b H' al ⟨b,dJ,rfl,ba⟩ ai
def eM(n:Int):Prop:= -9223372036854775808<=n/\n<=9223372036854775807
theorem cj{n:Int}(h1: -9223372036854775808<=n)(ab:n<=9223372036854775807):IntKind.i64.wrap n=n:=by
 have:=IntWalk.i64_in n ⟨h1,ab⟩
 exact this
structure di(α:Type) where
 cells:α->List Value
 sz:Nat
 len:∀x,(cells x).length=sz
 pos:0<sz
 one:∀x,∀v∈cells x,v.oneCell'=true
def cH:di Int:=⟨λn=>[.int .i64 n],1,λ_=>rfl,by decide,λ_ v h=>by simp at h;subst h;rfl⟩
def kt:di ByteArray:=⟨λs=>[.string s],1,λ_=>rfl,by decide,λ_ v h=>by simp at h;subst h;rfl⟩
def qw{α:Type}(E:di α)(H:U)(a:Option Addr)(xs:List α):Prop:=
 xs=[]\/∃b off,a=some ⟨b,off,none⟩/\∀i x,xs[i]?=some x->∀j v,(E.cells x)[j]?=some v->j5 H ⟨b,off+i*E.sz+j,none⟩=some v
theorem qw.ag{α:Type}{E:di α}{a:Option Addr}{xs:List α}(h:qw E H a xs)(ai:Fr [] H H'):qw E H' a xs:=by
 rcases h with h|⟨b,off,e,h⟩
 ·exact .inl h
 ·exact .inr ⟨b,off,e,λi x aa j v aI=>ai.cell0 (h i x aa j v aI)⟩
theorem qw.af{α:Type}{E:di α}{a:Option Addr}{xs:List α}(h:qw E H a xs)(ai:Fr S H H')(ay:∀aC,a=some aC->aC.block∉S):qw E H' a xs:=by
 rcases h with h|⟨b,off,e,h⟩
 ·exact .inl h
 ·exact .inr ⟨b,off,e,λi x aa j v aI=>ai.cell (h i x aa j v aI) (ay ⟨b,off,none⟩ e)⟩
theorem qw.lt{α:Type}{E:di α}{a:Option Addr}{xs:List α}(h:qw E H a xs)(aa:xs≠[]):∃b off,a=some ⟨b,off,none⟩/\b<H.size:=by
 rcases h with h|⟨b,off,e,h⟩
 ·exact absurd h aa
 ·cases xs with
  |nil=>exact absurd rfl aa
  |cons x xs=>
   have aH:=E.pos
   have aG:=E.len x
   have av:∃v,(E.cells x)[0]?=some v:=by
    cases aa:E.cells x with
    |nil=>simp [aa]at aG;omega
    |cons v l=>exact⟨v,rfl⟩
   obtain⟨v,aI⟩:=av
   exact⟨b,off,e,Xx (a:=⟨b,off+0*E.sz+0,none⟩) (h 0 x rfl 0 v aI)⟩
theorem qw.at{α:Type}{E:di α}{a:Option Addr}{xs:List α}(h:qw E H a xs){x:α}(aa:xs[i]?=some x):
  ∃b off,a=some ⟨b,off,none⟩/\∀j v,(E.cells x)[j]?=some v->j5 H ⟨b,off+i*E.sz+j,none⟩=some v:=by
 rcases h with h|⟨b,off,e,h⟩
 ·subst h;simp at aa
 ·exact⟨b,off,e,λj v aI=>h i x aa j v aI⟩
structure bt{α:Type}(E:di α)(H:U)(a:Option Addr)(n c:Nat)(xs:List α):Prop where
 len:n=xs.length
 cap:n<=c
 arr:qw E H a xs
theorem bt.ag{α:Type}{E:di α}{a:Option Addr}{xs:List α}(h:bt E H a n c xs)(ai:Fr [] H H'):bt E H' a n c xs:=⟨h.len,h.cap,h.arr.ag ai⟩
theorem bt.af{α:Type}{E:di α}{a:Option Addr}{xs:List α}(h:bt E H a n c xs)(ai:Fr S H H')(ay:∀aC,a=some aC->aC.block∉S):bt E H' a n c xs:=⟨h.len,h.cap,h.arr.af ai ay⟩
def gu(H:U)(aC:Addr)(ae:List Value):Prop:=∀j v,ae[j]?=some v->j5 H (aC.add j)=some v
theorem gu.af(h:gu H aC ae)(ai:Fr S H H')(ay:aC.block∉S):gu H' aC ae:=λj v aI=>ai.cell (h j v aI) (by unfold Addr.add;split<;>exact ay)
theorem gu.ag(h:gu H aC ae)(ai:Fr [] H H'):gu H' aC ae:=h.af ai (by simp)
theorem Uf(aW:nn P t=false)(h:gu H aC [v]):jS P t H aC v:=x7 aW (h 0 v rfl)
theorem vU(aW:q' P t=true)(hs:hy P t=ae.length)(h:gu H aC ae):jS P t H aC (.agg ⟨ae⟩):=EB aW hs h
theorem pC(aW:nn P t=false)(h:gu H aC ae)(aI:ae[j]?=some v):jS P t H (aC.add j) v:=x7 aW (h j v aI)
theorem bt.get{α:Type}{E:di α}{a:Option Addr}{xs:List α}(h:bt E H a n c xs){i:Int}{k:Nat}{x:α}{b:Bool}(az:i=k)(aa:xs[k]?=some x)(al:b=true){X:Addr->Prop}
  (hk:∀aC,a=some aC->gu H (aC.add (i.toNat *E.sz)) (E.cells x)->X aC):fp a λaC=>dB b (X aC):=by
 obtain⟨o4,off,rfl,av⟩:=h.arr.at aa
 subst az
 subst al
 refine w8 rfl (cM rfl ?_)
 refine hk _ rfl λj v aI=> ?_
 rw [ayS,lg,lg]
 exact av j v aI
def Own{α:Type}(E:di α)(t:TypeId)(base:Nat)(H:U)(a:Option Addr)(n c:Nat)(xs:List α):Prop:=
 n=xs.length/\((a=none/\n=0/\c=0)∨
  ∃b cur,a=some ⟨b,0,none⟩/\base<=b/\H[b]?=some (.cells cur t (0,0))/\n<=c/\c<=maxLen/\cur.size=c*E.sz/\cur.toList.take (n*E.sz)=xs.flatMap E.cells)
def an:Option Addr->List Nat
 |some a=>[a.block]
 |none=>[]
theorem s3{α:Type}(E:di α)(xs:List α):(xs.flatMap E.cells).length=xs.length*E.sz:=by
 induction xs with
 |nil=>simp
 |cons x xs ih=>rw [axO,ax6,ih,E.len,ayi,axK];omega
theorem x9{α:Type}(E:di α):∀(xs:List α) (i:Nat) (x:α),xs[i]?=some x->∀j v,(E.cells x)[j]?=some v->(xs.flatMap E.cells)[i*E.sz+j]?=some v
 |[],i,x,h,_,_,_=>by simp at h
 |y::ys,0,x,h,j,v,aI=>by
  simp only [axW,Option.some.injEq]at h
  subst h
  have bq:j<(E.cells y).length:=(axC.1 aI).1
  rw [axO,ayo,ayM,axJ,if_pos bq]
  exact aI
 |y::ys,i+1,x,h,j,v,aI=>by
  simp only [ayu]at h
  have ih:=x9 E ys i x h j v aI
  have aG:=E.len y
  rw [axO,ayo,if_neg (by rw [aG,axK];omega),aG,show(i+1)*E.sz+j-E.sz=i*E.sz+j by rw [axK];omega]
  exact ih
theorem Ha{α:Type}(E:di α):∀(xs:List α) (j:Nat) (u:Value),(xs.flatMap E.cells)[j]?=some u->∃i x k,xs[i]?=some x/\(E.cells x)[k]?=some u/\j=i*E.sz+k
 |[],j,u,h=>by simp at h
 |x::xs,j,u,h=>by
  rw [axO,ayo]at h
  have aG:=E.len x
  split at h
  ·exact⟨0,x,j,rfl,h,by simp⟩
  ·obtain⟨i,y,k,h1,ab,ar⟩:=Ha E xs _ u h
   exact⟨i+1,y,k,h1,ab,by rw [axK];omega⟩
theorem Own.nil{α:Type}(E:di α)(t:TypeId)(base:Nat)(H:U):Own E t base H none 0 0 []:=⟨rfl,.inl ⟨rfl,rfl,rfl⟩⟩
theorem Own.made{α:Type}(E:di α)(t:TypeId){base:Nat}(h:dV H b (.cells ⟨[]⟩ t) H')(al:base<=H.size):Own E t base H' (some ⟨b,0,none⟩) 0 0 []:=
 ⟨rfl,.inr ⟨b,_,rfl,by rw [h.eq];exact al,h.get,axx _,ayv _,by simp,by simp⟩⟩
theorem Own.bT{α:Type}{E:di α}{base:Nat}{a:Option Addr}{xs:List α}(h:Own E t base H a n c xs):bt E H a n c xs:=by
 obtain⟨aG,h⟩:=h
 rcases h with⟨rfl,rfl,rfl⟩|⟨b,cur,rfl,_,al,av,_,_,aW⟩
 ·exact⟨aG,axx _,.inl (ayT aG.symm)⟩
 ·refine⟨aG,av,.inr ⟨b,0,rfl,λi x aa j v aI=> ?_⟩⟩
  have h1:=x9 E xs i x aa j v aI
  rw [<-aW,axN]at h1
  split at h1
  ·rw [tp al,axJ]
   simpa using h1
  ·cases h1
theorem Own.af{α:Type}{E:di α}{base:Nat}{a:Option Addr}{xs:List α}(h:Own E t base H a n c xs)(ai:Fr S H H')(ay:∀aC,a=some aC->aC.block∉S):Own E t base H' a n c xs:=by
 obtain⟨aG,h⟩:=h
 refine⟨aG,?_⟩
 rcases h with h|⟨b,cur,rfl,h1,al,r⟩
 ·exact .inl h
 ·exact .inr ⟨b,cur,rfl,h1,ai.get al (ay _ rfl),r⟩
theorem Own.ag{α:Type}{E:di α}{base:Nat}{a:Option Addr}{xs:List α}(h:Own E t base H a n c xs)(ai:Fr [] H H'):Own E t base H' a n c xs:=h.af ai (by simp)
theorem Own.ge{α:Type}{E:di α}{base:Nat}{a:Option Addr}{xs:List α}(h:Own E t base H a n c xs):∀k∈an a,base<=k/\k<H.size:=by
 obtain⟨_,h⟩:=h
 rcases h with⟨rfl,_⟩|⟨b,cur,rfl,h1,al,_⟩
 ·simp [an]
 ·intro k hk
  simp only [an,ayw]at hk
  subst hk
  exact⟨h1,km al⟩
theorem Own.base{α:Type}{E:di α}{base base':Nat}{a:Option Addr}{xs:List α}(h:Own E t base H a n c xs)(al:base'<=base):Own E t base' H a n c xs:=by
 obtain⟨aG,h⟩:=h
 refine⟨aG,?_⟩
 rcases h with h|⟨b,cur,e,h1,r⟩
 ·exact .inl h
 ·exact .inr ⟨b,cur,e,ax4 al h1,r⟩
theorem OR{α:Type}(A B C:List α)(m:Nat):(A++(B++C))[m]?=if m<A.length then A[m]? else if m<A.length+B.length then B[m-A.length]? else C[m-A.length-B.length]?:=by
 by_cases h1:m<A.length
 ·rw [if_pos h1,azd h1]
 ·rw [if_neg h1,aze (by omega)]
  by_cases ab:m<A.length+B.length
  ·rw [if_pos ab,azd (by omega)]
  ·rw [if_neg ab,aze (by omega)]
theorem Fc{α:Type}{E:di α}{tt:TypeId}{base:Nat}{a:Option Addr}{xs:List α}{i:Int}{k:Nat}{x x':α}{X:U->Prop}
  (h:Own E t base H a n c xs) (bW:a=some aC) (az:i=k) (aa:xs[k]?=some x) (hs:hy P tt=v.cells.size) (OS:(P.info? tt).isSome=true) (h1:∀x∈v.cells.toList,x.oneCell'=true)
  (s4:j+v.cells.toList.length<=E.sz) (gw:E.cells x'=(E.cells x).take j++v.cells.toList++(E.cells x).drop (j+v.cells.toList.length))
  (eg:∀H',Own E t base H' a n c (xs.set k x')->Fr (an a) H H'->X H'):∃H',oz P tt H ((aC.add (i.toNat *E.sz)).add j) v H'/\X H':=by
 obtain⟨aG,aw⟩:=h
 have ap3:k<xs.length:=(axC.1 aa).1
 subst az
 rcases aw with⟨rfl,_,_⟩|⟨b,cur,rfl,al,aq,av,hm,dF,gv⟩
 ·cases bW
 ·cases bW
  rw [ayS,lg,lg]
  have eC:k*E.sz+E.sz<=n*E.sz:=by
   rw [<-Nat.add_one_mul]
   exact axQ _ (by omega)
  have wT:n*E.sz<=cur.size:=by rw [dF];exact axQ _ av
  have jV:v.cells.toList.length=v.cells.size:=by simp
  obtain⟨cl⟩:=cur
  simp only at gv dF wT
  refine zG aq hs OS h1 (by simp at wT;omega) λH' ba ai=> ?_
  refine eg H' ⟨by simpa using aG,.inr ⟨b,_,rfl,al,ba,av,hm,?_,?_⟩⟩ ai
  ·simp at dF wT⊢;omega
  ·apply ayK
   intro m
   have aw8:(xs.flatMap E.cells).length=n*E.sz:=by rw [s3,aG]
   have aw9:((xs.set k x').flatMap E.cells).length=n*E.sz:=by rw [s3,List.length_set,aG]
   by_cases Ce:m<n*E.sz
   ·have aH:=E.pos
    have aO:m/E.sz<xs.length:=by rw [<-aG];exact Nat.div_lt_of_lt_mul (by rw [ayU];exact Ce)
    have aB:m % E.sz<E.sz:=ayq _ aH
    have sR:m/E.sz*E.sz+m % E.sz=m:=by rw [ayU];exact Nat.div_add_mod m E.sz
    have Bp:∀u,(xs.flatMap E.cells)[m]?=some u->cl[m]?=some u:=by
     intro u hu
     rw [<-gv]at hu
     simp only [axN,Ce,if_true]at hu
     exact hu
    rw [axN,if_pos Ce]
    have aA:∃y,xs[m/E.sz]?=some y:=⟨xs[m/E.sz],by simp [aO]⟩
    obtain⟨y,aA⟩:=aA
    have hu:∃u,(E.cells y)[m % E.sz]?=some u:=⟨(E.cells y)[m % E.sz]'(by rw [E.len];exact aB),by simp⟩
    obtain⟨u,hu⟩:=hu
    have iO:=x9 E xs _ y aA _ u hu
    rw [sR]at iO
    have Dp:=Bp u iO
    by_cases hk:m/E.sz=k
    ·rw [hk,aa]at aA
     cases aA
     have qd:(xs.set k x')[k]?=some x':=by simp [ap3]
     have ap4:k*E.sz+m % E.sz=m:=by rw [<-hk];exact sR
     have JA:∃nZ,(E.cells x')[m % E.sz]?=some nZ:=⟨(E.cells x')[m % E.sz]'(by rw [E.len];exact aB),by simp⟩
     obtain⟨nZ,JA⟩:=JA
     have FL:=x9 E (xs.set k x') k x' qd _ nZ JA
     rw [ap4]at FL
     rw [FL,<-JA,gw]
     have hex:(E.cells x).length=E.sz:=E.len x
     have OT:(cl.take (0+k*E.sz+j)).length=k*E.sz+j:=by rw [ayj];simp at wT;omega
     have OU:((E.cells x).take j).length=j:=by rw [ayj];omega
     rw [ax7,ax7,OR,OR,OT,OU]
     by_cases h1:m % E.sz<j
     ·rw [if_pos (by omega),if_pos h1,axN,axN,if_pos (by omega),if_pos h1,Dp,hu]
     ·rw [if_neg (by omega),if_neg h1]
      by_cases ab:m % E.sz<j+v.cells.toList.length
      ·rw [if_pos (by omega),if_pos ab]
       congr 1
       omega
      ·rw [if_neg (by omega),if_neg ab,ax5,ax5]
       have aL:0+k*E.sz+j+v.cells.toList.length+(m-(k*E.sz+j)-v.cells.toList.length)=m:=by omega
       have a':j+v.cells.toList.length+(m % E.sz-j-v.cells.toList.length)=m % E.sz:=by omega
       rw [aL,a',Dp,hu]
    ·have qd:(xs.set k x')[m/E.sz]?=some y:=by rw [List.getElem?_set_ne (Ne.symm hk)];exact aA
     have FL:=x9 E (xs.set k x') _ y qd _ u hu
     rw [sR]at FL
     rw [FL,<-Dp]
     have OT:(cl.take (0+k*E.sz+j)).length=k*E.sz+j:=by rw [ayj];simp at wT;omega
     rw [ax7,OR,OT]
     rcases Nat.lt_or_gt_of_ne hk with h|h
     ·have:m<k*E.sz:=by
       have:=axQ E.sz h
       rw [Nat.succ_mul]at this
       omega
      rw [if_pos (by omega),axN,if_pos (by omega)]
     ·have:(k+1)*E.sz<=m:=by
       have:=axQ E.sz (show k+1<=m/E.sz from h)
       omega
      rw [Nat.add_one_mul]at this
      rw [if_neg (by omega),if_neg (by omega),ax5]
      congr 1
      omega
   ·rw [ayL (by simp at wT Ce⊢;omega),ayL (by omega)]
def j8(P:Program)(t:TypeId)(sz bytes:Nat):Bool:=
 match P.info? t with
 |some i=>(match i.zero with
  |some z=>LY i.size sz&&LY z.cells.toList.length sz&&axD 0 sz&&LY i.bytes bytes&&axD 0 bytes
  |none=>false)
 |none=>false
def sliceB(P:Program)(ts t:TypeId):Bool:=match P.underlying ts with|some (.slice e)=>LY e t|_=>false
theorem G'{sz bytes:Nat}(h:j8 P t sz bytes=true):∃i z,P.info? t=some i/\i.zero=some z/\i.size=sz/\z.cells.size=sz/\0<sz/\i.bytes=bytes/\0<bytes:=by
 unfold j8 at h
 split at h
 ·rename_i i az
  split at h
  ·rename_i z aE
   simp only [axz,axZ]at h
   obtain⟨⟨⟨⟨h1,ab⟩,ar⟩,a7⟩,bs⟩:=h
   exact⟨i,z,az,aE,axB h1,by have:=axB ab;simpa using this,ar,axB a7,bs⟩
  ·cases h
 ·cases h
theorem rI{ts:TypeId}(h:sliceB P ts t=true):P.underlying ts=some (.slice t):=by
 unfold sliceB at h
 split at h
 ·rename_i e he;rw [he,axB h]
 ·cases h
theorem ic{α:Type}{E:di α}{ts ty:TypeId}{bytes base:Nat}{a:Option Addr}{xs ys:List α}{a2:Option Addr}{c2:Nat}{K:Option Addr->Nat->Nat->U->Prop}
  (ji:sliceB P ts t=true) (aW:j8 P t E.sz bytes=true) (aw:Own E t base H a n c xs) (hs:bt E H a2 m c2 ys) (o8:base<=H.size) (dF:(n+m)*bytes<=140737488355328)
  (hk:∀aV bn bg H',Own E t base H' aV bn bg (xs++ys)->Fr (an a) H H'->Grow H (an a) (an aV)->K aV bn bg H'):
  gD P (Builtin.append_ ⟨[ts,ts]⟩ ty ⟨[.slice a n c,.slice a2 m c2]⟩) H λv H'=>∃a n c,v=.slice a n c/\K a n c H':=by
 intro e2 d
 obtain⟨i,z,az,aE,h1,ab,ar,a7,bs⟩:=G' aW
 have hu:=rI ji
 have FM:(bf e2 H d).ownsRow base t E.sz (.slice a n c) n (xs.flatMap E.cells):=by
  obtain⟨aG,aw⟩:=aw
  refine⟨by rw [s3,aG],?_⟩
  rcases aw with⟨rfl,rfl,rfl⟩|⟨b,cur,rfl,al,aq,av,hm,hs,aW⟩
  ·exact .inl ⟨rfl,rfl⟩
  ·exact .inr ⟨b,c,cur,rfl,al,aq,av,hm,hs,aW⟩
 have fin:∀gZ w',w'.ownsRow base t E.sz gZ (n+m) (xs.flatMap E.cells++ys.flatMap E.cells)->(bf e2 H d).grownBy w' (Value.slice a n c).ownBlock->(∀g hR,gZ=.slice (some ⟨g,0,none⟩) (n+m) hR->g∈an a\/H.size<=g)->d.1<=w'.drawn→
   ∃H' d',w'=bf e2 H' d'/\∃a n c,gZ=.slice a n c/\K a n c H':=by
  intro gZ w' jQ ba wU nK
  refine⟨w'.heap,⟨w'.drawn,ax4 d.2 nK⟩,?_,?_⟩
  ·have aL:=ba.os;have a':=ba.tape;have cX:=ba.output
   cases w'
   simp only [bf]at aL a' cX⊢
   subst aL a' cX
   rfl
  ·have qe:Fr (an a) H w'.heap:=⟨ba.size,λk hk ay=>ba.block k hk (by
    cases a with
    |none=>simp [ayx]
    |some aC=>simp only [ayx,ne_eq,Option.some.injEq];intro e;exact ay (by simp [an,e]))⟩
   obtain⟨hlen,jQ⟩:=jQ
   have OV:n+m=(xs++ys).length:=by rw [ax6,<-aw.1,<-hs.len]
   rcases jQ with⟨rfl,aF⟩|⟨g,cap,cur,rfl,al,aq,av,hm,iF,gv⟩
   ·exact⟨none,0,0,rfl,hk none 0 0 w'.heap ⟨by omega,.inl ⟨rfl,rfl,rfl⟩⟩ qe (λ_ h=>by cases h)⟩
   ·exact⟨_,_,_,rfl,hk _ _ _ w'.heap ⟨OV,.inr ⟨g,cur,rfl,al,aq,av,hm,iF,by rw [gv,azf]⟩⟩ qe (λk hk=>by simp [an]at hk;subst hk;exact wU _ _ rfl)⟩
 have FN:n+m<=maxLen:=by
  have:n+m<=(n+m)*bytes:=azg _ bs
  simp only [maxLen];omega
 cases a2 with
 |none=>
  have aA:ys=[]:=by
   rcases hs.arr with h|⟨b,off,e,_⟩
   ·exact h
   ·cases e
  subst aA
  have hm:m=0:=hs.len
  subst hm
  have eL:=hk a n c H (by rw [azh];exact aw) (Fr.refl _ _) (Grow.refl _ _)
  obtain⟨aG,fF⟩:=aw
  have wT:n<=c:=by
   rcases fF with⟨_,rfl,rfl⟩|⟨_,_,_,_,_,h,_⟩
   ·exact axx _
   ·exact h
  refine⟨.slice a n c,H,d,?_,a,n,c,rfl,eL⟩
  unfold Builtin.append_
  simp only [axS,axW,ayu]
  cases a with
  |none=>simp [eU hu,mu az,Builtin.lenOf,wT,Builtin.firstCells]
  |some aC=>simp [eU hu,mu az,Builtin.lenOf,wT,Builtin.firstCells,storeCells]
 |some aC=>
  have np:∀j u,(ys.flatMap E.cells)[j]?=some u->(bf e2 H d).cell? (aC.add j)=some u:=by
   intro j u hu
   obtain⟨i,x,k,h1,ab,rfl⟩:=Ha E ys j u hu
   obtain⟨b,off,e,av⟩:=hs.arr.at h1
   simp only [Option.some.injEq]at e
   subst e
   rw [lg,Au,<-ayG]
   exact av k u ab
  obtain⟨gZ,w',aB,jQ,ba,GY⟩:=run_append_own (P:=P) (bf e2 H d) base ts ty t i z E.sz bytes hu az aE h1 a7 ab ar _ n _ FM aC m c2 (ys.flatMap E.cells) (by rw [s3,hs.len]) np
   (λu hu=>by obtain⟨x,_,aa⟩:=azi.1 hu;exact E.one x u aa) FN dF o8
  have pV:(ys.flatMap E.cells).length=m*i.size:=by rw [s3,hs.len,h1]
  have DA:∀u∈ys.flatMap E.cells,u.oneCell'=true:=λu hu=>by obtain⟨x,_,aa⟩:=azi.1 hu;exact E.one x u aa
  have wU:(∀g hR,gZ=.slice (some ⟨g,0,none⟩) (n+m) hR->g∈an a\/H.size<=g)/\d.1<=w'.drawn:=by
   obtain⟨j6,⟨rfl,rfl,rfl⟩|⟨b,cur,rfl,al,aq,av,hm,iF,gv⟩⟩:=id aw
   ·by_cases jU:m=0
    ·subst jU
     have gC:(Builtin.append_ #[ts,ts] ty #[.slice none 0 0,.slice (some aC) 0 c2]).run P (bf e2 H d)=.ok (.slice none 0 0) (bf e2 H d):=by
      simp [Builtin.append_,eU hu,mu az,Builtin.lenOf,Builtin.firstCells,loadCells,loadCellsFrom]
     rw [aB]at gC
     injection gC with aL a'
     refine⟨λg hR aI=> ?_,by rw [a'];exact axx _⟩
     rw [aI]at aL
     cases aL
    ·have gC:=run_append_nil (P:=P) (bf e2 H d) ts ty t i z hu az aE aC m c2 (ys.flatMap E.cells) pV np (by omega) (by simp only [maxLen]at FN;omega) (by rw [a7];simp only [axJ]at dF;omega)
     rw [aB]at gC
     injection gC with aL a'
     refine⟨λg hR aI=> ?_,by rw [a'];exact ayy _⟩
     rw [aI]at aL
     injection aL with aL
     injection aL with aL
     injection aL with aL
     exact .inr (ayh aL.symm)
   ·by_cases x0:n+m<=c
    ·have gC:=run_append_room (P:=P) (bf e2 H d) ts ty t i hu az b n c cur aq aC m c2 (ys.flatMap E.cells) pV np DA x0 (by rw [pV,iF,h1,<-axK];exact axQ _ x0)
     rw [aB]at gC
     injection gC with aL a'
     refine⟨λg hR aI=> ?_,by rw [a'];exact axx _⟩
     rw [aI]at aL
     injection aL with aL
     injection aL with aL
     injection aL with aL
     exact .inl (by simp [an,aL])
    ·have holds:∀j u,(xs.flatMap E.cells)[j]?=some u->(bf e2 H d).cell? ((⟨b,0,none⟩:Addr).add j)=some u:=FM.cells (g:=b) rfl
     have gC:=run_append_grow (P:=P) (bf e2 H d) ts ty t i z hu az aE ⟨b,0,none⟩ n c (xs.flatMap E.cells) (by rw [s3,j6,h1]) holds aC m c2 (ys.flatMap E.cells) pV np (by omega) (by simp only [maxLen]at FN;omega) (growslice_fits (by omega) (by rw [a7];exact dF))
     rw [aB]at gC
     injection gC with aL a'
     refine⟨λg hR aI=> ?_,by rw [a'];exact ayy _⟩
     rw [aI]at aL
     injection aL with aL
     injection aL with aL
     injection aL with aL
     exact .inr (ayh aL.symm)
  obtain⟨H',d',hw,eL⟩:=fin gZ w' jQ ba wU.1 wU.2
  subst hw
  exact⟨gZ,H',d',aB,eL⟩
theorem ap5{α:Type}{E:di α}{ts ty:TypeId}{bytes base:Nat}{a:Option Addr}{xs ys:List α}{a2:Option Addr}{c2:Nat}{K:Option Addr->Nat->Nat->U->Prop}
  (ji:sliceB P ts t=true) (aW:j8 P t E.sz bytes=true) (aw:Own E t base H a n c xs) (hs:bt E H a2 m c2 ys) (o8:base<=H.size) (dF:(n+m)*bytes<=140737488355328)
  (hk:∀aV bn bg H',Own E t base H' aV bn bg (xs++ys)->Fr (an a) H H'->K aV bn bg H'):
  gD P (Builtin.append_ ⟨[ts,ts]⟩ ty ⟨[.slice a n c,.slice a2 m c2]⟩) H λv H'=>∃a n c,v=.slice a n c/\K a n c H':=
 ic ji aW aw hs o8 dF λaV bn bg H' h1 ab _=>hk aV bn bg H' h1 ab
theorem fy{α:Type}(E:di α)(x:α)(h:dV H b (.cells ⟨ae⟩ t) H')(aI:ae=E.cells x):bt E H' (some ⟨b,0,none⟩) 1 1 [x]:=by
 refine⟨rfl,axx _,.inr ⟨b,0,rfl,λi y aA j v bq=> ?_⟩⟩
 cases i with
 |zero=>
  simp only [axW,Option.some.injEq]at aA
  subst aA
  subst aI
  rw [tp h.get]
  simpa using bq
 |succ i=>simp at aA
structure nf(P:Program)(kA:TypeId)(c7:Type)[DecidableEq c7] where
 gR:c7->Value
 d:TypeDesc
 und:P.underlying kA=some d
 cmp:∀a b,Instr.sameNow d (gR a) (gR b)=some (decide (a=b))
 dB:∀e k w,(Instr.checkKey e 10000 kA (gR k)).run P w=.ok () w
 same:∀a,Instr.sameBits 10000 (gR a) (gR a)=true
theorem ap6{kA:TypeId}{q:IntKind}(h:P.underlying kA=some (.int q))(e:Bool)(n:Nat)(k:IntKind)(a:Int)(w:World):(Instr.checkKey e (n+1) kA (.int k a)).run P w=.ok () w:=by
 unfold Instr.checkKey
 rw [x3,eU h]
 rfl
theorem ap7{kA:TypeId}(h:P.underlying kA=some .string)(e:Bool)(n:Nat)(a:ByteArray)(w:World):(Instr.checkKey e (n+1) kA (.string a)).run P w=.ok () w:=by
 unfold Instr.checkKey
 rw [x3,eU h]
 rfl
theorem bytes_beq(a b:ByteArray):(a==b)=decide (a=b):=by
 have e:(a==b)=(a.data==b.data):=by cases a;cases b;rfl
 rw [e]
 by_cases h:a=b
 ·subst h;simp
 ·have:¬a.data=b.data:=λh'=>h (by cases a;cases b;simp_all)
  simp [h,this]
def TS{kA:TypeId}(h:P.underlying kA=some (.int .i64)):nf P kA Int where
 gR:=λn=>.int .i64 n
 d:=.int .i64
 und:=h
 cmp:=λa b=>rfl
 dB:=λe k w=>ap6 h e 9999 .i64 k w
 same:=λa=>by
  show(IntKind.i64==IntKind.i64&&a==a)=true
  simp
def Tn{kA:TypeId}(h:P.underlying kA=some .string):nf P kA ByteArray where
 gR:=λn=>.string n
 d:=.string
 und:=h
 cmp:=λa b=>by show some (a==b)=_;rw [bytes_beq]
 dB:=λe k w=>ap7 h e 9999 k w
 same:=λa=>by
  show(a==a)=true
  rw [bytes_beq];simp
section
variable{P:Program}{kA:TypeId}{c7:Type}[DecidableEq c7](T:nf P kA c7)
abbrev cR(c7:Type):=c7×Value×Nat
def nf.hb(x:cR c7):MapEntry:={key:=T.gR x.1,val:=x.2.1,born:=x.2.2}
structure tx(ck:Nat)(L:List (cR c7)):Prop where
 keys:(L.map (·.1)).Nodup
 born:(L.map (·.2.2)).Nodup
 lt:∀x∈L,x.2.2<ck
structure dN(H:U)(r:Nat)(ck:Nat)(L:List (cR c7)):Prop where
 bz:H[r]?=some (.map ⟨L.map T.hb⟩ ck)
 wf:tx ck L
def dm(k:c7):List (cR c7)->Option Value
 |[]=>none
 |x::l=>if x.1=k then some x.2.1 else dm k l
def mr(k:c7)(v:Value):List (cR c7)->List (cR c7)
 |[]=>[]
 |x::l=>if x.1=k then(k,v,x.2.2)::l else x::mr k v l
def tv(k:c7)(L:List (cR c7)):List (cR c7):=L.filter λx=>decide (x.1≠k)
def oq(k:c7)(v:Value)(ck:Nat)(L:List (cR c7)):List (cR c7):=match dm k L with|some _=>mr k v L|none=>L++[(k,v,ck)]
def FO(k:c7)(ck:Nat)(L:List (cR c7)):Nat:=match dm k L with|some _=>ck|none=>ck+1
def mM(k:c7):List (cR c7)->Nat->Option (Nat×Value)
 |[],_=>none
 |x::l,i=>if x.1=k then some (i,x.2.1)else mM k l (i+1)
theorem Xz(k:c7):∀(L:List (cR c7)) (i:Nat),Instr.findNow T.d (T.gR k) (L.map T.hb) i=some (mM k L i)
 |[],i=>rfl
 |x::l,i=>by
  simp only [axE,Instr.findNow,nf.hb,T.cmp,mM]
  by_cases h:x.1=k
  ·have h':decide (k=x.1)=true:=by simp [h]
   rw [h',if_pos h]
  ·have h':decide (k=x.1)=false:=by simp;exact λe=>h e.symm
   rw [h',if_neg h]
   exact Xz k l (i+1)
theorem CC(k:c7)(L:List (cR c7))(w:World):(Instr.findKey kA (T.gR k) (L.map T.hb)).run P w=.ok (mM k L 0) w:=by
 unfold Instr.findKey
 rw [x3,eU T.und]
 simp only [x4,Xz]
 rfl
theorem FP(k:c7):∀(L:List (cR c7)) (i:Nat),(mM k L i).map (·.2)=dm k L
 |[],_=>rfl
 |x::l,i=>by
  simp only [mM,dm]
  split
  ·rfl
  ·exact FP k l (i+1)
theorem yE{es:Array MapEntry}(h:H[r]?=some (.map es ck))(w:World)(hw:w.heap=H):(getObj r).run P w=.ok (.map es ck) w:=by
 simp [getObj,axy,hw,h]
theorem sQ{L:List (cR c7)}{mt:TypeId}{z:Value}(hm:P.underlying mt=some (.map kA e))(aE:zeroOf P e=some z)(h:dN T H r ck L)(k:c7):
  Rd P (Instr.lookup mt (.map (some r)) (T.gR k) false) H ((dm k L).getD z):=by
 intro w hw
 have ai:=FP k L 0
 unfold Instr.lookup
 rw [x3,eU hm]
 simp only [x4]
 rw [x3,yE h.bz w hw]
 simp only [x4]
 rw [x3]
 simp only [axG,x4]
 rw [x3,T.dB]
 simp only [x4]
 rw [x3,CC]
 simp only [x4]
 cases aa:mM k L 0 with
 |none=>rw [aa]at ai;simp at ai;simp [<-ai,DR aE]
 |some x=>rw [aa]at ai;simp at ai;simp [<-ai]
theorem Dg{L:List (cR c7)}{mt:TypeId}{z:Value}(hm:P.underlying mt=some (.map kA e))(aE:zeroOf P e=some z)(h:dN T H r ck L)(k:c7):
  Rd P (Instr.lookup mt (.map (some r)) (T.gR k) true) H (.tuple ⟨[(dm k L).getD z,.bool (dm k L).isSome]⟩):=by
 intro w hw
 have ai:=FP k L 0
 unfold Instr.lookup
 rw [x3,eU hm]
 simp only [x4]
 rw [x3,yE h.bz w hw]
 simp only [x4]
 rw [x3]
 simp only [axG,x4]
 rw [x3,T.dB]
 simp only [x4]
 rw [x3,CC]
 simp only [x4]
 cases aa:mM k L 0 with
 |none=>rw [aa]at ai;simp at ai;simp [<-ai,DR aE]
 |some x=>rw [aa]at ai;simp at ai;simp [<-ai]
theorem AO{k:c7}{L:List (cR c7)}:dm k L=none↔k∉L.map (·.1):=by
 induction L with
 |nil=>simp [dm]
 |cons x l ih=>
  simp only [dm,axE,axA,not_or]
  split
  ·rename_i h;simp [h]
  ·rename_i h;rw [ih];exact⟨λh'=>⟨λe=>h e.symm,h'⟩,λh'=>h'.2⟩
theorem ap8{k eg:c7}{L:List (cR c7)}:dm eg (mr k v L)=if eg=k then(dm k L).map (λ_=>v)else dm eg L:=by
 induction L with
 |nil=>simp [dm,mr]
 |cons x l ih=>
  simp only [mr]
  by_cases h:x.1=k
  ·rw [if_pos h]
   by_cases h':eg=k
   ·subst h';simp [dm,h]
   ·rw [if_neg h']
    have h1:¬k=eg:=λe=>h' e.symm
    have ab:¬x.1=eg:=by rw [h];exact h1
    simp [dm,h1,ab]
  ·rw [if_neg h]
   simp only [dm,ih]
   by_cases h':eg=k
   ·subst h';simp [h]
   ·simp [h']
theorem ap9(k:c7)(v:Value)(L:List (cR c7)):(mr k v L).map (·.1)=L.map (·.1)/\(mr k v L).map (·.2.2)=L.map (·.2.2):=by
 induction L with
 |nil=>simp [mr]
 |cons x l ih=>
  simp only [mr]
  split
  ·rename_i h;simp [h]
  ·simp [ih]
theorem ap'{k:c7}{L M:List (cR c7)}:dm k (L++M)=(dm k L).or (dm k M):=by
 induction L with
 |nil=>simp [dm]
 |cons x l ih=>
  simp only [axV,dm]
  split
  ·simp
  ·exact ih
theorem sC{k eg:c7}{L:List (cR c7)}:dm eg (oq k v ck L)=if eg=k then some v else dm eg L:=by
 unfold oq
 cases h:dm k L with
 |some u=>simp only;rw [ap8];simp [h]
 |none=>
  simp only [ap',dm]
  by_cases h':eg=k
  ·subst h';simp [h]
  ·have h1:¬k=eg:=λe=>h' e.symm
   simp [h',h1]
theorem ag1{k eg:c7}{L:List (cR c7)}:dm eg (tv k L)=if eg=k then none else dm eg L:=by
 induction L with
 |nil=>simp [dm,tv]
 |cons x l ih=>
  unfold tv at ih⊢
  rw [axT]
  by_cases h:x.1=k
  ·rw [if_neg (by simp [h]),ih]
   by_cases h':eg=k
   ·simp [h']
   ·have ab:¬x.1=eg:=by rw [h];exact λe=>h' e.symm
    simp [h',dm,ab]
  ·rw [if_pos (by simp [h])]
   simp only [dm,ih]
   by_cases h':eg=k
   ·subst h';simp [h]
   ·simp [h']
theorem tx.put{L:List (cR c7)}(h:tx ck L)(k:c7)(v:Value):tx (FO k ck L) (oq k v ck L):=by
 unfold FO oq
 cases ba:dm k L with
 |some u=>
  simp only
  have hm:=ap9 k v L
  refine⟨by rw [hm.1];exact h.keys,by rw [hm.2];exact h.born,λx aa=> ?_⟩
  have:x.2.2∈(mr k v L).map (·.2.2):=axL aa
  rw [hm.2]at this
  obtain⟨y,aA,e⟩:=ayf.1 this
  rw [<-e];exact h.lt y aA
 |none=>
  simp only
  refine⟨?_,?_,λx aa=> ?_⟩
  ·rw [azj,azk]
   refine⟨h.keys,by simp,λa bW b al=> ?_⟩
   simp only [axE,List.map_nil,ayw]at al
   subst al
   exact λe=>AO.1 ba (e▸bW)
  ·rw [azj,azk]
   refine⟨h.born,by simp,λa bW b al=> ?_⟩
   simp only [axE,List.map_nil,ayw]at al
   subst al
   obtain⟨y,aA,rfl⟩:=ayf.1 bW
   have:=h.lt y aA
   omega
  ·rcases azb.1 aa with aa|aa
   ·have:=h.lt x aa;omega
   ·simp only [ayw]at aa;subst aa;simp
theorem tx.del{L:List (cR c7)}(h:tx ck L)(k:c7):tx ck (tv k L):=
 ⟨h.keys.sublist (List.Sublist.map _ (azl ..)),h.born.sublist (List.Sublist.map _ (azl ..)),λx aa=>h.lt x (ax2.1 aa).1⟩
theorem FQ{k:c7}:∀{L:List (cR c7)} {i j:Nat} {v:Value},mM k L i=some (j,v)->∃m b,j=i+m/\L[m]?=some (k,v,b)
 |[],_,_,_,h=>by simp [mM]at h
 |x::l,i,j,v,h=>by
  simp only [mM]at h
  split at h
  ·rename_i hk
   simp only [Option.some.injEq,Prod.mk.injEq]at h
   exact⟨0,x.2.2,by omega,by obtain⟨h1,ab⟩:=h;subst ab;obtain⟨a,b,c⟩:=x;simp at hk⊢;exact hk⟩
  ·obtain⟨m,b,bq,hm⟩:=FQ h
   exact⟨m+1,b,by omega,by simpa using hm⟩
theorem XA{k:c7}:∀{L:List (cR c7)} {i j:Nat} {u:Value},mM k L i=some (j,u)->∀m,j=i+m->mr k v L=L.modify m (λx=>(k,v,x.2.2))
 |[],_,_,_,h,_,_=>by simp [mM]at h
 |x::l,i,j,u,h,m,hm=>by
  simp only [mM]at h
  simp only [mr]
  split at h
  ·rename_i hk
   simp only [Option.some.injEq,Prod.mk.injEq]at h
   have:m=0:=by omega
   subst this
   rw [if_pos hk]
   simp
  ·rename_i hk
   rw [if_neg hk]
   obtain⟨m',b,bq,_⟩:=FQ h
   have fv:m=m'+1:=by omega
   subst fv
   rw [XA h m' (by omega)]
   simp
theorem XB{k:c7}:∀{L:List (cR c7)} {i j:Nat} {u:Value},(L.map (·.1)).Nodup->mM k L i=some (j,u)->∀m,j=i+m->tv k L=L.eraseIdx m
 |[],_,_,_,_,h,_,_=>by simp [mM]at h
 |x::l,i,j,u,ay,h,m,hm=>by
  simp only [mM]at h
  simp only [axE,ayk]at ay
  unfold tv
  rw [axT]
  split at h
  ·rename_i hk
   simp only [Option.some.injEq,Prod.mk.injEq]at h
   have:m=0:=by omega
   subst this
   rw [if_neg (by simp [hk])]
   simp only [List.eraseIdx_cons_zero]
   rw [azm]
   intro y aA
   simp only [ne_eq,decide_not,ayd,decide_eq_false_iff_not]
   intro e
   exact ay.1 (by rw [hk,<-e];exact axL aA)
  ·rename_i hk
   rw [if_pos (by simp [hk])]
   obtain⟨m',b,bq,_⟩:=FQ h
   have fv:m=m'+1:=by omega
   subst fv
   have:=XB ay.2 h m' (by omega)
   unfold tv at this
   rw [this]
   rfl
def qx(H:U)(r:Nat)(ad:Obj):U:=H.setIfInBounds r ad
theorem FR{ad l':Obj}(h:H[r]?=some ad):(qx H r l')[r]?=some l':=by
 have:=km h
 simp [qx,this]
theorem FT(H:U)(r:Nat)(ad:Obj):Fr [r] H (qx H r ad):=
 ⟨by simp [qx],λk _ ay=>by
  have:r≠k:=λe=>ay (by simp [e])
  simp [qx,this]⟩
theorem JB{E:Env}{d:kK E}{es:Array MapEntry}(h:H[r]?=some (.map es ck))(ad:Obj):(setObj r ad).run P (bf E H d)=.ok () (bf E (qx H r ad) d):=by
 simp [setObj,axy,bf,h,qx]
theorem t'{L:List (cR c7)}{mt:TypeId}{K:U->Prop}(hm:P.underlying mt=some (.map kA e))(h:dN T H r ck L)(k:c7)
  (hk:∀H',dN T H' r (FO k ck L) (oq k v ck L)->Fr [r] H H'->K H'):jc P (Instr.mapUpdate mt (.map (some r)) (T.gR k) v) H K:=by
 intro E d
 have ai:=FP k L 0
 have ba:=yE h.bz (bf E H d) rfl (P:=P)
 cases aa:mM k L 0 with
 |none=>
  rw [aa]at ai
  simp only [azn]at ai
  refine⟨qx H r (.map ((L.map T.hb).toArray.push {key:=T.gR k,val:=v,born:=ck}) (ck+1)),d,?_,hk _ ⟨?_,h.wf.put k v⟩ (FT _ _ _)⟩
  ·unfold Instr.mapUpdate
   rw [x3,eU hm]
   simp only [x4]
   rw [x3,ba]
   simp only [x4]
   rw [x3,T.dB]
   simp only [x4]
   rw [x3,CC,aa]
   simp only [x4]
   exact JB h.bz _
  ·rw [FR h.bz]
   unfold FO oq
   rw [<-ai]
   simp [nf.hb]
 |some x=>
  obtain⟨j,u⟩:=x
  rw [aa]at ai
  simp only [ayr]at ai
  obtain⟨m,b,bq,sc⟩:=FQ aa
  have kO:j=m:=by omega
  subst kO
  refine⟨qx H r (.map ((L.map T.hb).toArray.modify j λe=>{e with key:=T.gR k,val:=v}) ck),d,?_,hk _ ⟨?_,h.wf.put k v⟩ (FT _ _ _)⟩
  ·unfold Instr.mapUpdate
   rw [x3,eU hm]
   simp only [x4]
   rw [x3,ba]
   simp only [x4]
   rw [x3,T.dB]
   simp only [x4]
   rw [x3,CC,aa]
   simp only [x4]
   have aqa:((({toList:=L.map T.hb}:Array MapEntry)[j]?).map (·.key)).getD (T.gR k)=T.gR k:=by
    simp [sc,nf.hb]
   rw [aqa]
   have dW:(Instr.keyThatStays (T.gR k) (T.gR k)).run P (bf E H d)=.ok (T.gR k) (bf E H d):=by
    unfold Instr.keyThatStays
    rw [T.same]
    rfl
   rw [x3,dW]
   simp only [x4]
   exact JB h.bz _
  ·rw [FR h.bz]
   unfold FO oq
   rw [<-ai]
   simp only [Option.some.injEq,Obj.map.injEq,and_true]
   rw [XA (v:=v) aa j (by omega)]
   apply ayH
   apply ayK
   intro i
   simp only [Array.toList_modify,ayp,List.getElem?_modify]
   by_cases az:j=i
   ·subst az
    simp [sc,nf.hb]
   ·simp [az]
theorem XC{α β:Type}(f:α->β):∀(l:List α) (i:Nat),(l.map f).eraseIdx i=(l.eraseIdx i).map f
 |[],i=>by simp
 |x::l,0=>rfl
 |x::l,i+1=>by simp [XC f l i]
theorem R4{L:List (cR c7)}{mt ty:TypeId}{K:U->Prop}(hm:P.underlying mt=some (.map kA e))(h:dN T H r ck L)(k:c7)
  (hk:∀H',dN T H' r ck (tv k L)->Fr [r] H H'->K H'):gD P (Builtin.delete_ ⟨[mt,kA]⟩ ty ⟨[.map (some r),T.gR k]⟩) H λv H'=>v=.tuple ⟨[]⟩/\K H':=by
 intro E d
 have ba:=yE h.bz (bf E H d) rfl (P:=P)
 cases aa:mM k L 0 with
 |none=>
  have ai:=FP k L 0
  rw [aa]at ai
  simp only [azn]at ai
  have aR:tv k L=L:=by
   unfold tv
   rw [azm]
   intro y aA
   simp only [ne_eq,decide_not,ayd,decide_eq_false_iff_not]
   intro e
   exact AO.1 ai.symm (by rw [<-e];exact axL aA)
  refine⟨.tuple ⟨[]⟩,qx H r (.map ⟨L.map T.hb⟩ ck),d,?_,rfl,hk _ ⟨by rw [FR h.bz,aR],h.wf.del k⟩ (FT _ _ _)⟩
  unfold Builtin.delete_
  simp only [axS,axW,ayu]
  rw [x3,eU hm]
  simp only [x4]
  rw [x3,ba]
  simp only [x4]
  rw [x3,T.dB]
  simp only [x4]
  rw [x3,CC,aa]
  simp only [x4]
  rw [x3,JB h.bz]
  rfl
 |some x=>
  obtain⟨j,u⟩:=x
  obtain⟨m,b,bq,sc⟩:=FQ aa
  have kO:j=m:=by omega
  subst kO
  refine⟨.tuple ⟨[]⟩,qx H r (.map ((L.map T.hb).toArray.eraseIdxIfInBounds j) ck),d,?_,rfl,hk _ ⟨?_,h.wf.del k⟩ (FT _ _ _)⟩
  ·unfold Builtin.delete_
   simp only [axS,axW,ayu]
   rw [x3,eU hm]
   simp only [x4]
   rw [x3,ba]
   simp only [x4]
   rw [x3,T.dB]
   simp only [x4]
   rw [x3,CC,aa]
   simp only [x4]
   rw [x3,JB h.bz]
   rfl
  ·rw [FR h.bz,XB h.wf.keys aa j (by omega)]
   simp only [Option.some.injEq,Obj.map.injEq,and_true]
   have bQ:j<L.length:=(axC.1 sc).1
   apply ayH
   simp [Array.eraseIdxIfInBounds,bQ,XC]
theorem Uj{L:List (cR c7)}{mt ty:TypeId}(hm:P.underlying mt=some (.map kA e))(h:dN T H r ck L):
  Rd P (Builtin.len_ ⟨[mt]⟩ ty ⟨[.map (some r)]⟩) H (.int .i64 L.length):=by
 intro w hw
 unfold Builtin.len_
 simp only [axS,axW]
 rw [x3,eU hm]
 simp only [x4]
 rw [x3,yE h.bz w hw]
 simp [goInt]
theorem dN.af{L:List (cR c7)}(h:dN T H r ck L)(ai:Fr S H H')(ay:r∉S):dN T H' r ck L:=⟨ai.get h.bz ay,h.wf⟩
theorem dN.ag{L:List (cR c7)}(h:dN T H r ck L)(ai:Fr [] H H'):dN T H' r ck L:=⟨ai.vE h.bz,h.wf⟩
theorem dN.new(h:dV H r (.map ⟨[]⟩ 0) H'):dN T H' r 0 []:=⟨h.get,⟨by simp,by simp,by simp⟩⟩
theorem dN.lt{L:List (cR c7)}(h:dN T H r ck L):r<H.size:=km h.bz
theorem CV{L:List (cR c7)}{mt:TypeId}{K:Option Addr->U->Prop}(hm:P.underlying mt=some (.map kA e))(h:dN T H r ck L)
  (hk:∀b H',dV H b (.mapIter (some r) ck #[] ck) H'->K (some ⟨b,0,none⟩) H'):
  gD P (Instr.range mt (.map (some r))) H λv H'=>∃a,v=.pointer a/\K a H':=by
 intro E d
 refine⟨_,H.push (.mapIter (some r) ck #[] ck),d,?_,some ⟨H.size,0,none⟩,rfl,hk H.size _ ⟨rfl,rfl⟩⟩
 unfold Instr.range
 rw [x3,eU hm]
 simp only [x4]
 rw [x3,yE h.bz (bf E H d) rfl]
 simp only [x4]
 rw [x3,axG]
 rfl
theorem Mp{ad:Obj}(h:H[r]?=some ad)(aw:∀c t z,ad≠.cells c t z)(w:World)(hw:w.heap=H):(getObj r).run P w=.ok ad w:=by
 cases ad with
 |cells c t z=>exact absurd rfl (aw c t z)
 |_=>simp [getObj,axy,hw,h]
theorem aqb{E:Env}{d:kK E}{ad:Obj}(h:H[r]?=some ad)(aw:∀c t z,ad≠.cells c t z)(l':Obj):(setObj r l').run P (bf E H d)=.ok () (bf E (qx H r l') d):=by
 cases ad with
 |cells c t z=>exact absurd rfl (aw c t z)
 |_=>simp [setObj,axy,bf,h,qx]
theorem CX{it:Nat}{L:List (cR c7)}{seen:Array Nat}{ty:TypeId}{XD:U->Prop}{XE:Value->Value->U->Prop}(h:dN T H r ck L)(az:H[it]?=some (.mapIter (some r) ck seen ck))
  (M0:(∀x∈L,x.2.2∈seen)->XD H)
  (hk:∀x∈L,x.2.2∉seen->∀H',H'[it]?=some (.mapIter (some r) ck (seen.push x.2.2) ck)->Fr [it] H H'->XE (T.gR x.1) x.2.1 H'):
  gD P (Instr.next (.pointer (some ⟨it,0,none⟩)) false ty) H λv H'=>(v=.tuple #[.bool false]/\XD H')\/(∃k x,v=.tuple #[.bool true,k,x]/\XE k x H'):=by
 intro E d
 have h1:=Mp (P:=P) az (by simp) (bf E H d) rfl
 have ab:=yE (P:=P) h.bz (bf E H d) rfl
 have DW:(!seen.isEmpty&& !(L.map T.hb).toArray.isEmpty&&(L.map T.hb).toArray.all (λe=>decide (e.born>=ck)))=false:=by
  cases L with
  |nil=>simp
  |cons x l=>
   have bQ:=h.wf.lt x (by simp)
   simp [nf.hb]
   omega
 let left:=(L.map T.hb).toArray.filter λe=> !seen.contains e.born
 let gi:=left.filter λe=>decide (e.born<ck)
 let new:=left.filter λe=>decide (e.born>=ck)
 let nz:Array (Option MapEntry):=(if gi.isEmpty then #[none]else #[])++(gi++new).map some
 have xU:(Instr.next (.pointer (some ⟨it,0,none⟩)) false ty).run P (bf E H d)=((do
   match nz[<-choose (.mapNext nz.size)]? with
   |some (some e)=>
    setObj it (.mapIter (some r) ck (seen.push e.born) ck)
    pure (.tuple #[.bool true,e.key,e.val])
   |some none=>pure (.tuple #[.bool false])
   |none=>stuck "Next: no such candidate" :Sem Value)).run P (bf E H d):=by
  unfold Instr.next
  simp only
  rw [x3,h1]
  simp only [x4]
  rw [x3,ab]
  simp only [x4]
  rw [DW]
  simp only [axH,if_false]
  rfl
 have iC:0<nz.size:=by
  by_cases aw:gi.isEmpty
  ·simp only [nz,aw,if_true];simp;omega
  ·have:0<gi.size:=by
    rcases Nat.eq_zero_or_pos gi.size with aF|aF
    ·exact absurd (by simpa [Array.isEmpty]using aF) aw
    ·exact aF
   simp only [nz,aw];simp;omega
 have Mg:∃j d',j<nz.size/\(choose (.mapNext nz.size)).run P (bf E H d)=.ok j (bf E H d'):=by
  by_cases ai:(Question.mapNext nz.size).forced=true
  ·refine⟨0,d,iC,?_⟩
   simp [choose,axy,ai]
  ·refine⟨E.tape d.1 (.mapNext nz.size) % nz.size,up d,ayq _ iC,?_⟩
   have eE:(Question.mapNext nz.size).forced=false:=by simpa using ai
   simp [choose,axy,eE,Question.cut,bf]
 obtain⟨j,d',bq,av⟩:=Mg
 rw [xU,x3,av]
 simp only [x4]
 have Gu:nz[j]?=some nz[j]:=by simp [bq]
 rw [Gu]
 have kl:nz[j]∈nz:=Array.getElem_mem bq
 cases he:nz[j]with
 |none=>
  refine⟨_,H,d',rfl,.inl ⟨rfl,M0 λx aa=> ?_⟩⟩
  rw [he]at kl
  have aqc:gi.isEmpty=true:=by
   cases aw:gi.isEmpty with
   |true=>rfl
   |false=>simp [nz,aw]at kl
  by_cases hs:x.2.2∈seen
  ·exact hs
  ·exfalso
   have bQ:=h.wf.lt x aa
   have:T.hb x∈gi:=by
    simp only [gi,left,ayz]
    refine⟨⟨by simp only [azo];exact axL aa,by simp [nf.hb,hs]⟩,by simp [nf.hb,bQ]⟩
   have aF:gi= #[]:=by simpa using aqc
   rw [aF]at this
   simp at this
 |some e=>
  rw [he]at kl
  have:e∈left:=by
   simp only [nz,Array.mem_append,Array.mem_map]at kl
   rcases kl with hm|⟨y,aA,aL⟩
   ·split at hm<;>simp at hm
   ·simp only [Option.some.injEq]at aL
    subst aL
    rcases aA with aA|aA
    ·exact(ayz.1 aA).1
    ·exact(ayz.1 aA).1
  simp only [left,ayz,azo,ayf]at this
  obtain⟨⟨x,aa,rfl⟩,gY⟩:=this
  have I1:x.2.2∉seen:=by simpa [nf.hb]using gY
  refine⟨_,qx H it (.mapIter (some r) ck (seen.push x.2.2) ck),d',?_,.inr ⟨_,_,rfl,hk x aa I1 _ (FR az) (FT _ _ _)⟩⟩
  rw [x3,aqb az (by simp)]
  rfl
theorem Gy{it:Nat}{L:List (cR c7)}{seen:Array Nat}{x:cR c7}{K:Value->Value->U->Prop}(h:dN T H r ck L)(az:H[it]?=some (.mapIter (some r) ck (seen.push b) ck))(aa:x∈L)(al:x.2.2=b)
  (hk:K (T.gR x.1) x.2.1 H):gD P (Instr.entry (.pointer (some ⟨it,0,none⟩))) H λv H'=>∃k x,v=.tuple #[k,x]/\K k x H':=by
 intro E d
 refine⟨_,H,d,?_,_,_,rfl,hk⟩
 have h1:=Mp (P:=P) az (by simp) (bf E H d) rfl
 have ab:=yE (P:=P) h.bz (bf E H d) rfl
 have aqd:(L.map T.hb).toArray.find? (λe=>e.born==b)=some (T.hb x):=by
  have ay:=h.wf.born
  clear h h1 ab az hk
  simp only [List.find?_toArray]
  induction L with
  |nil=>simp at aa
  |cons y l ih=>
   simp only [axE,List.find?_cons]
   simp only [axE,ayk]at ay
   rcases axA.1 aa with rfl|gw
   ·have:((T.hb x).born==b)=true:=by simp [nf.hb,al]
    rw [this]
   ·have:((T.hb y).born==b)=false:=by
     simp only [nf.hb,beq_eq_false_iff_ne,ne_eq]
     intro e
     exact ay.1 (by rw [e,<-al];exact axL gw)
    rw [this]
    exact ih gw ay.2
 unfold Instr.entry
 simp only
 rw [x3,h1]
 simp only [x4,Array.back?_push]
 rw [x3,ab]
 simp only [x4]
 rw [if_neg (by simp),aqd]
 rfl
def FU(seen:Array Nat)(l:List Nat):Nat:=(l.filter λb=> !seen.contains b).length
def pR(H:U)(r it:Nat):Nat:=match H[r]?,H[it]? with
 |some (.map es _),some (.mapIter _ _ seen _)=>FU seen (es.toList.map (·.born))
 |_,_=>0
theorem xg{it c1 c2:Nat}{L:List (cR c7)}{seen:Array Nat}{ad:Option Nat}(h:dN T H r ck L)(az:H[it]?=some (.mapIter ad c1 seen c2)):pR H r it=FU seen (L.map (·.2.2)):=by
 unfold pR
 rw [h.bz,az]
 simp only [List.map_map]
 rfl
theorem Gz{seen:Array Nat}{l:List Nat}(al:b∈l)(hs:b∉seen):FU (seen.push b) l<FU seen l:=by
 unfold FU
 have sub:∀l:List Nat,(l.filter λx=> !(seen.push b).contains x).length<=(l.filter λx=> !seen.contains x).length:=by
  intro l
  induction l with
  |nil=>simp
  |cons y l ih=>
   simp only [axT]
   by_cases h1:y∈seen
   ·have ab:y∈seen.push b:=by simp [h1]
    simpa [h1]using ih
   ·by_cases ar:y=b
    ·subst ar;simp [h1];simp at ih;omega
    ·simp [h1,ar];simp at ih;omega
 induction l with
 |nil=>cases al
 |cons y l ih=>
  simp only [axT]
  by_cases ar:y=b
  ·subst ar
   have:=sub l
   simp [hs];simp at this;omega
  ·have ff:b∈l:=by
    rcases axA.1 al with h|h
    ·exact absurd h.symm ar
    ·exact h
   have:=ih ff
   by_cases h1:y∈seen
   ·simp [h1];simp at this;omega
   ·simp [h1,ar];simp at this;omega
theorem Mr{k:c7}{L:List (cR c7)}(hw:tx ck L)(h:(k,v,b)∈L):dm k L=some v:=by
 have hk:=hw.keys
 clear hw
 induction L with
 |nil=>cases h
 |cons y l ih=>
  simp only [dm]
  simp only [axE,ayk]at hk
  rcases axA.1 h with h|h
  ·subst h;simp
  ·have:y.1≠k:=λe=>hk.1 (by rw [e];exact axL (f:=λx:cR c7=>x.1) h)
   rw [if_neg this]
   exact ih h hk.2
theorem Bn{k:c7}{L:List (cR c7)}(h:dm k L=some v):∃b,(k,v,b)∈L:=by
 induction L with
 |nil=>cases h
 |cons y l ih=>
  simp only [dm]at h
  split at h
  ·rename_i e
   cases h
   exact⟨y.2.2,by rw [<-e];simp⟩
  ·obtain⟨b,al⟩:=ih h;exact⟨b,by simp [al]⟩
end
theorem a6.bY(h:a6 H a ae)(aI:ae[0]?=some v)(aW:nn P t=false:=by kernel_rfl):jS P t H a v:=h.tu aW aI
theorem a6.fk(h:a6 H a ae)(j:Nat)(aI:ae[j]?=some v)(aW:nn P t=false:=by kernel_rfl):jS P t H (a.add j) v:=h.ld aW aI
theorem a6.f'{us:List Value}(h:a6 H a ae)(aI:ae.take us.length=us)(aW:q' P t=true:=by kernel_rfl)(hs:hy P t=us.length:=by kernel_rfl):jS P t H a (.agg ⟨us⟩):=h.B5 aW hs aI
theorem jb(h:gu H aC [v])(aW:nn P t=false:=by kernel_rfl):jS P t H aC v:=Uf aW h
open Go.ChangeShapes Go.WideShapes Go.RowKit
def jo(P:Program)(H:U):Nat->TypeId->List Value->Prop
 |0,_,_=>False
 |n+1,t,cs=>match P.underlying t with
  |some .bool=>∃b,cs=[.bool b]
  |some (.int k)=>∃x,cs=[.int k x]/\(Lit.int k x).wf=true
  |some .string=>∃s,cs=[.string s]/\s.size<=maxLen
  |some (.slice e)=>∃(a:Option Addr) (len cap:Nat) (rows:List (List Value)),cs=[.slice a len cap]/\len<=cap/\cap<=maxLen/\rows.length=len∧
    ∀i r,rows[i]?=some r->r.length=P.cellsOf e/\jo P H n e r/\∃aC,a=some aC/\gu H (aC.add (i*P.cellsOf e)) r
  |some (.struct e3)=>cs.length=P.cellsOf t/\∀(i:Nat) (f:Field),e3[i]?=some f->jo P H n f.type ((cs.drop f.offset).take (P.cellsOf f.type))
  |some (.array _ _)=>cs.length=P.cellsOf t
  |_=>True
theorem arq{X:Type}{enc:TypeId×Value->X}{w:World}{base:Nat}{sp:Nat->Bool}{held:Bool}:∀(n:Nat) (t:TypeId) (cs:List Value) (x:DataW X×List MemPlace),DataW.trod enc P w base sp held n t cs=some x->jo P w.heap n t cs:=by
 intro n
 induction n with
 |zero=>intro t cs x h;simp [DataW.trod]at h
 |succ n ih=>
  intro t cs x h
  unfold jo
  split
  ·rename_i hu
   obtain⟨b,h,_⟩:=DataW.trod_bool hu h
   exact⟨b,h⟩
  ·rename_i k hu
   obtain⟨b,h,_,hw⟩:=DataW.trod_int hu h
   exact⟨b,h,hw⟩
  ·rename_i hu
   obtain⟨b,h,_,hw⟩:=DataW.trod_string hu h
   exact⟨b,h,hw⟩
  ·rename_i e hu
   rcases DataW.trod_slice hu h with⟨rfl,rfl⟩|⟨a,len,cap,elems,rest,m,hm,rfl,rfl,al,aG,av,hlen,yi,qE,gY⟩
   ·exact⟨none,0,0,[],rfl,axx _,ayv _,rfl,λi r aB=>by simp at aB⟩
   ·have fv:m=n:=by omega
    subst fv
    have each:∀i,i<len->∃r,w.cells? base (a.add (i*P.cellsOf e)) (P.cellsOf e)=some r/\DataW.trod enc P w base sp held m e r=elems[i]?:=by
     intro i az
     have:=yi i az
     rw [ayA (by omega)]at this
     obtain⟨r,h1,ab⟩:=Option.bind_eq_some_iff.1 this
     exact⟨r,h1,by rw [ab,ayA (by omega)]⟩
    obtain⟨R,cp⟩:=Go.Deep.choose_lt each
    refine⟨some a,len,cap,(ayD len).map R,rfl,aG,av,by simp,λi r aB=> ?_⟩
    have az:i<len:=by
     have:=(axC.1 aB).1
     simpa using this
    have ks:r=R i:=by simp [az]at aB;exact aB.symm
    subst ks
    obtain⟨h1,ab⟩:=cp i az
    obtain⟨_,iD,np⟩:=World.cells?_some h1
    rw [ayA (by omega)]at ab
    refine⟨iD,ih e _ _ ab,a,rfl,λj v aI=> ?_⟩
    ·have bq:j<P.cellsOf e:=by
      have:=(axC.1 aI).1
      omega
     have:=np j bq
     rw [aI]at this
     exact this
  ·rename_i e3 hu
   obtain⟨xs,m,hm,rfl,iD,k5,ai⟩:=DataW.trod_struct hu h
   have fv:m=n:=by omega
   subst fv
   refine⟨iD,λi f X1=> ?_⟩
   have h1:=ai i f X1
   have az:i<xs.length:=by rw [k5];exact(ayt.1 X1).1
   rw [ayA az]at h1
   exact ih _ _ _ h1
  ·rename_i m e hu
   unfold DataW.trod at h
   rw [hu]at h
   simp only at h
   split at h
   ·assumption
   ·cases h
  ·trivial
def wW(P:Program)(H:U)(t:TypeId)(v:Value):Prop:=
 (∃n,jo P H n t v.cells.toList)/\(match P.underlying t with
  |some .bool|some (.int _)|some .string|some (.slice _)=>v.cells= #[v]
  |some (.struct _)=>∃cs,v=.agg cs
  |_=>True)
def FY(P:Program)(H:U):List TypeId->List Value->Prop
 |[],ae=>ae=[]
 |t::ts,ae=>∃v CF,ae=v::CF/\wW P H t v/\FY P H ts CF
theorem wW.bool(aW:P.underlying t=some .bool)(h:wW P H t v):∃x,v=.bool x:=by
 obtain⟨⟨n,h⟩,ab⟩:=h
 rw [aW]at ab
 cases n with
 |zero=>exact h.elim
 |succ n=>
  unfold jo at h
  rw [aW]at h
  obtain⟨x,h⟩:=h
  have ab:v.cells= #[v]:=ab
  rw [ab]at h
  exact⟨x,by simpa using h⟩
theorem jo.bT{α:Type}{E:di α}{cs:List Value}{G:α->Prop}(aW:P.underlying t=some (.slice e))(dF:P.cellsOf e=E.sz)(h:jo P H n t cs)
  (yi:∀m r,jo P H m e r->r.length=E.sz->∃x,E.cells x=r/\G x):∃a len cap xs,cs=[.slice a len cap]/\bt E H a len cap xs/\cap<=maxLen/\∀x∈xs,G x:=by
 cases n with
 |zero=>exact h.elim
 |succ n=>
  unfold jo at h
  rw [aW]at h
  obtain⟨a,len,cap,rows,rfl,aG,av,hlen,aB⟩:=h
  have key:∀(L:List (List Value)),(∀r∈L,∃x,E.cells x=r/\G x)->∃xs:List α,xs.map E.cells=L/\∀x∈xs,G x:=by
   intro L
   induction L with
   |nil=>intro _;exact⟨[],rfl,by simp⟩
   |cons r L ih=>
    intro bZ
    obtain⟨x,aa,ba⟩:=bZ r (by simp)
    obtain⟨xs,q2,nj⟩:=ih λr aB=>bZ r (by simp [aB])
    exact⟨x::xs,by simp [aa,q2],λy aA=>(axA.1 aA).elim (λe=>by rw [e];exact ba) (nj y)⟩
  obtain⟨xs,q2,nj⟩:=key rows λr ks=>by
   obtain⟨i,az⟩:=List.getElem?_of_mem ks
   obtain⟨h1,ab,_⟩:=aB i r az
   exact yi n r ab (by rw [h1,dF])
  have k5:xs.length=len:=by rw [<-hlen,<-q2];simp
  refine⟨a,len,cap,xs,rfl,⟨k5.symm,aG,?_⟩,av,nj⟩
  cases oy:xs with
  |nil=>exact .inl rfl
  |cons fj uN=>
   have aF:rows[0]?=some (E.cells fj):=by rw [<-q2,oy];rfl
   obtain⟨vx,_,aC,rfl,y9⟩:=aB 0 _ aF
   have iC:=E.pos
   have hex:∃v,(E.cells fj)[0]?=some v:=⟨(E.cells fj)[0]'(by rw [E.len];exact iC),by simp⟩
   obtain⟨v0,aoH⟩:=hex
   have np:=y9 0 v0 aoH
   obtain⟨b,off,spot⟩:=aC
   cases spot with
   |some s=>
    exfalso
    have ed:∀x:Addr,x.add 0=x:=λx=>by cases x;rfl
    rw [ayM,ed,ed]at np
    unfold j5 at np
    split at np<;>simp at np
   |none=>
    refine .inr ⟨b,off,rfl,λi x aa j v aI=> ?_⟩
    rw [<-oy]at aa
    have aaj:rows[i]?=some (E.cells x):=by rw [<-q2,ayp,aa];rfl
    obtain⟨_,_,aC,uM,av⟩:=aB i _ aaj
    simp only [Option.some.injEq]at uM
    subst uM
    have:=av j v aI
    rw [lg,lg,dF]at this
    exact this
theorem wW.bT{α:Type}{E:di α}{G:α->Prop}(aW:P.underlying t=some (.slice e))(dF:P.cellsOf e=E.sz)(h:wW P H t v)
  (yi:∀m r,jo P H m e r->r.length=E.sz->∃x,E.cells x=r/\G x):∃a len cap xs,v=.slice a len cap/\bt E H a len cap xs/\cap<=maxLen/\∀x∈xs,G x:=by
 obtain⟨⟨n,h⟩,ab⟩:=h
 rw [aW]at ab
 have ab:v.cells= #[v]:=ab
 obtain⟨a,len,cap,xs,iF,r⟩:=h.bT aW dF yi
 rw [ab]at iF
 exact⟨a,len,cap,xs,by simpa using iF,r⟩
theorem jo.int{k:IntKind}{r:List Value}(aW:P.underlying t=some (.int k))(h:jo P H n t r):∃x,r=[.int k x]/\(Lit.int k x).wf=true:=by
 cases n with
 |zero=>exact h.elim
 |succ n=>unfold jo at h;rw [aW]at h;exact h
theorem jo.str{r:List Value}(aW:P.underlying t=some .string)(h:jo P H n t r):∃x,r=[.string x]/\x.size<=maxLen:=by
 cases n with
 |zero=>exact h.elim
 |succ n=>unfold jo at h;rw [aW]at h;exact h
theorem jo.struct{e3:Array Field}{r:List Value}(aW:P.underlying t=some (.struct e3))(h:jo P H n t r):
  r.length=P.cellsOf t/\∀(i:Nat) (f:Field),e3[i]?=some f->∃m,jo P H m f.type ((r.drop f.offset).take (P.cellsOf f.type)):=by
 cases n with
 |zero=>exact h.elim
 |succ n=>unfold jo at h;rw [aW]at h;exact⟨h.1,λi f ai=>⟨n,h.2 i f ai⟩⟩
theorem ars{α:Type}{l:List α}(h:l.length=2):∃a b,l=[a,b]:=by
 match l,h with
 |[a,b],_=>exact⟨a,b,rfl⟩
theorem art{α:Type}{l:List α}(h:l.length=3):∃a b c,l=[a,b,c]:=by
 match l,h with
 |[a,b,c],_=>exact⟨a,b,c,rfl⟩
theorem wf_i64{x:Int}(h:(Lit.int .i64 x).wf=true):eM x:=by
 simp only [Lit.wf,axz,decide_eq_true_eq]at h
 exact h
theorem X2{X:Type}{enc:TypeId×Value->X}{W:World}{base:Nat}{sp:Nat->Bool}{held:Bool}{r:Reach}{im:Nat}:∀{ts:List TypeId} {ae:List Value} {cg:List (DataW X)} {ps:List MemPlace},
  DataW.TrodAll enc P W base sp held ts ae cg ps->(∀(j:Nat) t v,ts[j]?=some t->ae[j]?=some v->Value.okWide P W r im t v)->FY P W.heap ts ae
 |[],ae,cg,ps,h,_=>(trodAll_nil h).1
 |t::ts,ae,cg,ps,h,e'=>by
  obtain⟨v,CF,d,wS,p,q,rfl,rfl,rfl,h1,ab⟩:=trodAll_cons h
  refine⟨v,CF,rfl,⟨?_,?_⟩,X2 ab λj gk gZ aW aI=>e' (j+1) gk gZ (by simpa using aW) (by simpa using aI)⟩
  ·obtain⟨n,ay⟩:=h1
   exact⟨n,arq n _ _ _ ay⟩
  ·have aF:=e' 0 t v rfl rfl
   split
   ·rename_i hu;obtain⟨b,rfl⟩:=okWide_bool hu aF;rfl
   ·rename_i k hu;obtain⟨b,rfl⟩:=okWide_int hu aF;rfl
   ·rename_i hu;obtain⟨b,rfl⟩:=okWide_string hu aF;rfl
   ·rename_i e hu;obtain⟨b,c,d,rfl⟩:=okWide_slice hu aF;rfl
   ·rename_i e3 hu;obtain⟨b,al,_⟩:=okWide_struct hu aF;exact⟨b,al⟩
   ·trivial
theorem X3{X:Type}{enc:TypeId×Value->X}{W W':World}(aG:laidOutB P=true){X4:Nat->Bool}:∀{ts:List TypeId} {ae:List Value} {cg:List (DataW X)} {ps:List MemPlace},
  (∀t∈ts,P.readableRec t=true/\t<P.types.size)->DataW.TrodAll enc P W 0 (λ_=>true) true ts ae cg ps->(∀p∈ps,W.sameAt W' p)->(∀p∈ps,X4 p.block=true)->DataW.TrodAll enc P W' 0 X4 true ts ae cg ps
 |[],ae,cg,ps,_,h,_,_=>by
  obtain⟨rfl,rfl,rfl⟩:=trodAll_nil h
  exact trodAll_mk0
 |t::ts,ae,cg,ps,ji,h,hs,qE=>by
  obtain⟨v,CF,d,wS,p,q,rfl,rfl,rfl,h1,ab⟩:=trodAll_cons h
  obtain⟨a,b⟩:=ji t (by simp)
  exact trodAll_cons_mk (WideElems.Trod_stays aG a b h1 (λx aa=>hs x (by simp [aa])) (λx aa=>qE x (by simp [aa])))
   (X3 aG (λt aW=>ji t (by simp [aW])) ab (λx aa=>hs x (by simp [aa])) (λx aa=>qE x (by simp [aa])))
theorem aru{W W':World}(ai:Fr [] W.heap W'.heap){p:MemPlace}(aH:p.block<W.heap.size):W.sameAt W' p:=by
 have h:=ai.block p.block aH (by simp)
 cases p with
 |cell b off=>
  show W'.cell? ⟨b,off,none⟩=W.cell? ⟨b,off,none⟩
  simp only [MemPlace.block]at h
  rw [Au,Au]
  unfold j5
  rw [h]
 |map b=>exact h
theorem arv{W W':World}(aw:W'.os=W.os)(arw:W'.output=W.output)(ai:Fr [] W.heap W'.heap)(may:MemPlace->Prop):W.keptBut W' may:=by
 refine⟨aw,arw,λi az=> ?_⟩
 rw [ai.block i az (by simp)]
 cases h:W.heap[i]? with
 |none=>trivial
 |some ad=>
  cases ad with
  |cells c t af=>exact⟨rfl,rfl,rfl,λ_ _=>rfl⟩
  |map es ck=>exact .inr ⟨rfl,rfl⟩
  |_=>rfl
theorem X5{X:Type}{enc:TypeId×Value->X}{W:World}{base:Nat}{sp:Nat->Bool}{held:Bool}:∀{ts:List TypeId} {ae:List Value} {cg:List (DataW X)} {ps:List MemPlace},DataW.TrodAll enc P W base sp held ts ae cg ps->cg.length=ts.length
 |[],ae,cg,ps,h=>by obtain⟨rfl,rfl,rfl⟩:=trodAll_nil h;rfl
 |t::ts,ae,cg,ps,h=>by
  obtain⟨v,CF,d,wS,p,q,rfl,rfl,rfl,h1,ab⟩:=trodAll_cons h
  simp [X5 ab]
end Go.bk
open Go Go.bk
namespace Go.Proofs
abbrev bd(s:ByteArray):List UInt8:=s.data.toList
variable{s:ByteArray}{i n:Nat}
theorem iV{t:ByteArray}(h:bd s=bd t):s=t:=by
 cases s;cases t;simp [bd]at h;exact congrArg ayl (by simpa using h)
theorem dR(s:ByteArray):(bd s).length=s.size:=by cases s;simp [bd,ByteArray.size]
theorem kQ(s t:ByteArray):bd (s++t)=bd s++bd t:=by simp [bd]
theorem tE(s:ByteArray)(l h:Nat):bd (s.extract l h)=((bd s).take h).drop l:=by
 simp [bd,ByteArray.data_extract,List.drop_take]
theorem yl(s:ByteArray)(i:Nat):s[i]?=(bd s)[i]?:=by
 cases s with|mk a=>
 show(if h:i<(ayl a).size then some ((ayl a)[i])else none)=_
 simp only [bd]
 by_cases h:i<a.size
 ·have h':i<(ayl a).size:=h
  rw [dif_pos h'];simp [h];rfl
 ·have h':¬i<(ayl a).size:=h
  rw [dif_neg h'];simp;omega
theorem apM:bd ayV=[]:=rfl
theorem u5(s:ByteArray)(i:Nat):bo s i<256:=UInt8.toNat_lt _
theorem Ca{b:UInt8}(h:s[i]?=some b):bo s i=b.toNat:=by
 have:i<s.size:=by
  rw [yl]at h
  have:=(axC.1 h).1
  rwa [dR]at this
 have ab:s[i]?=some s[i]:=by exact getElem?_pos s i this
 rw [ab]at h
 injection h with h
 subst h
 cases s with|mk a=>
 simp only [bo]
 show(a[i]!).toNat=(a[i]'_).toNat
 rw [getElem!_pos a i this]
theorem apN(h:i<s.size):∃b:UInt8,s[i]?=some b/\b.toNat=bo s i:=⟨s[i],getElem?_pos s i h,(Ca (getElem?_pos s i h)).symm⟩
def hK(c:Nat):Nat:=if 192<=c/\c<224 then 2 else if 224<=c/\c<240 then 3 else if 240<=c/\c<248 then 4 else 0
def q1(c:Nat):Nat:=if 192<=c/\c<224 then c-192 else if 224<=c/\c<240 then c-224 else if 240<=c/\c<248 then c-240 else 0
def kv(s:ByteArray)(i:Nat):Nat->Nat
 |0=>q1 (bo s i)
 |k+1=>kv s i k*64+bo s (i+(k+1))-128
def gG(s:ByteArray)(i k:Nat):Prop:=128<=bo s (i+k)/\bo s (i+k)<192
instance(s:ByteArray)(i k:Nat):Decidable (gG s i k):=inferInstanceAs (Decidable (_/\_))
def ns(n r:Nat):Prop:=n=2/\r<128\/n=3/\r<2048\/n=4/\r<65536\/r>1114111\/(r>=55296/\r<57344)
instance(n r:Nat):Decidable (ns n r):=inferInstanceAs (Decidable (_\/_))
def ho(s:ByteArray)(i:Nat):Nat:=
 if bo s i<128 then 1 else
 let n:=hK (bo s i)
 if n=0\/s.size<i+n then 0 else
 if∀k,k<n-1->gG s i (k+1)then(if ns n (kv s i (n-1))then 0 else n)else 0
def tD(c:Nat):Nat:=if c<128 then 1 else if c<2048 then 2 else if 55296<=c/\c<57344 then 0 else if c<65536 then 3 else if c<=1114111 then 4 else 0
theorem apO{p:Nat->Prop}:(∀k,k<2-1->p k)↔p 0:=⟨λh=>h 0 (by omega),λh k hk=>by
 match k,hk with
 |0,_=>exact h⟩
theorem apP{p:Nat->Prop}:(∀k,k<3-1->p k)↔p 0/\p 1:=⟨λh=>⟨h 0 (by omega),h 1 (by omega)⟩,λh k hk=>by
 match k,hk with
 |0,_=>exact h.1
 |1,_=>exact h.2⟩
theorem apQ{p:Nat->Prop}:(∀k,k<4-1->p k)↔p 0/\p 1/\p 2:=⟨λh=>⟨h 0 (by omega),h 1 (by omega),h 2 (by omega)⟩,λh k hk=>by
 match k,hk with
 |0,_=>exact h.1
 |1,_=>exact h.2.1
 |2,_=>exact h.2.2⟩
theorem apR(s:ByteArray)(i:Nat):Utf8.decode s i=
  if bo s i<0x80 then(bo s i,1)
  else if(bo s i/32==6&&(i+1<s.size&&bo s (i+1)/64==2))=true then
   if(bo s i % 32)*64+bo s (i+1) % 64>=0x80 then((bo s i % 32)*64+bo s (i+1) % 64,2)else(0xFFFD,1)
  else if(bo s i/16==14&&(i+1<s.size&&bo s (i+1)/64==2)&&(i+2<s.size&&bo s (i+2)/64==2))=true then
   if((bo s i % 16)*4096+(bo s (i+1) % 64)*64+bo s (i+2) % 64>=0x800&&Utf8.valid (((bo s i % 16)*4096+(bo s (i+1) % 64)*64+bo s (i+2) % 64:Nat):Int))=true then((bo s i % 16)*4096+(bo s (i+1) % 64)*64+bo s (i+2) % 64,3)else(0xFFFD,1)
  else if(bo s i/8==30&&(i+1<s.size&&bo s (i+1)/64==2)&&(i+2<s.size&&bo s (i+2)/64==2)&&(i+3<s.size&&bo s (i+3)/64==2))=true then
   if((bo s i % 8)*262144+(bo s (i+1) % 64)*4096+(bo s (i+2) % 64)*64+bo s (i+3) % 64>=0x10000&&Utf8.valid (((bo s i % 8)*262144+(bo s (i+1) % 64)*4096+(bo s (i+2) % 64)*64+bo s (i+3) % 64:Nat):Int))=true then((bo s i % 8)*262144+(bo s (i+1) % 64)*4096+(bo s (i+2) % 64)*64+bo s (i+3) % 64,4)else(0xFFFD,1)
  else(0xFFFD,1):=by
 unfold Utf8.decode Utf8.runeError
 rfl
def OL(s:ByteArray)(i:Nat)(d:Nat×Nat):Prop:=(ho s i≠0->d.2=ho s i/\tD d.1=d.2)/\(ho s i=0->d.2=1/\d.1=65533)/\(d.1<128->d.1=bo s i/\d.2=1)/\(bo s i<128->d.1=bo s i)/\1<=d.2
theorem vm(c0:¬bo s i<128)(h:ho s i=0):OL s i (65533,1):=
 ⟨λh'=>absurd h h',λ_=>⟨rfl,rfl⟩,λh=>by have:(65533:Nat)<128:=h;omega,λh=>absurd h c0,axx _⟩
theorem OM{c w:Nat}(c0:¬bo s i<128)(h:ho s i=w)(hw:2<=w)(av:tD c=w)(h1:¬c<128):OL s i (c,w):=
 ⟨λ_=>⟨h.symm,av⟩,λh'=>by omega,λh=>absurd h h1,λh=>absurd h c0,by show 1<=w;omega⟩
theorem apS(cz:192<=bo s i/\bo s i<224):ho s i=if s.size<i+2 then 0 else if gG s i 1 then(if(bo s i-192)*64+bo s (i+1)-128<128 then 0 else 2)else 0:=by
 have ay:hK (bo s i)=2:=by unfold hK;rw [if_pos cz]
 have aB:kv s i 1=(bo s i-192)*64+bo s (i+1)-128:=by simp only [kv,q1,if_pos cz]
 have h1:=u5 s (i+1)
 unfold ho
 rw [if_neg (by omega)]
 simp only [ay,apO,axJ,ayW,aB]
 by_cases g1:s.size<i+2
 ·rw [if_pos (.inr g1),if_pos g1]
 ·rw [if_neg (by omega),if_neg g1]
  by_cases g2:gG s i 1
  ·rw [if_pos g2,if_pos g2]
   unfold gG at g2
   by_cases g3:(bo s i-192)*64+bo s (i+1)-128<128
   ·rw [if_pos g3,if_pos (.inl ⟨rfl,g3⟩)]
   ·rw [if_neg g3,if_neg (by unfold ns;omega)]
  ·rw [if_neg g2,if_neg g2]
theorem apT(ij:224<=bo s i/\bo s i<240):ho s i=if s.size<i+3 then 0 else if gG s i 1/\gG s i 2 then(if ns 3 (((bo s i-224)*64+bo s (i+1)-128)*64+bo s (i+2)-128)then 0 else 3)else 0:=by
 have cz:¬(192<=bo s i/\bo s i<224):=by omega
 have ay:hK (bo s i)=3:=by unfold hK;rw [if_neg cz,if_pos ij]
 have aB:kv s i 2=((bo s i-224)*64+bo s (i+1)-128)*64+bo s (i+2)-128:=by simp only [kv,q1,if_neg cz,if_pos ij]
 unfold ho
 rw [if_neg (by omega)]
 simp only [ay,apP,axJ,ayW,Nat.reduceAdd,aB]
 by_cases g1:s.size<i+3
 ·rw [if_pos (.inr g1),if_pos g1]
 ·rw [if_neg (by omega),if_neg g1]
theorem apU(nL:240<=bo s i/\bo s i<248):ho s i=if s.size<i+4 then 0 else if gG s i 1/\gG s i 2/\gG s i 3 then(if ns 4 ((((bo s i-240)*64+bo s (i+1)-128)*64+bo s (i+2)-128)*64+bo s (i+3)-128)then 0 else 4)else 0:=by
 have cz:¬(192<=bo s i/\bo s i<224):=by omega
 have ij:¬(224<=bo s i/\bo s i<240):=by omega
 have ay:hK (bo s i)=4:=by unfold hK;rw [if_neg cz,if_neg ij,if_pos nL]
 have aB:kv s i 3=(((bo s i-240)*64+bo s (i+1)-128)*64+bo s (i+2)-128)*64+bo s (i+3)-128:=by simp only [kv,q1,if_neg cz,if_neg ij,if_pos nL]
 unfold ho
 rw [if_neg (by omega)]
 simp only [ay,apQ,axJ,ayW,Nat.reduceAdd,aB]
 by_cases g1:s.size<i+4
 ·rw [if_pos (.inr g1),if_pos g1]
 ·rw [if_neg (by omega),if_neg g1]
theorem U9(s:ByteArray)(i:Nat)(az:i<s.size):OL s i (Utf8.decode s i):=by
 rw [apR]
 have aF:=u5 s i
 have h1:=u5 s (i+1)
 have ab:=u5 s (i+2)
 have ar:=u5 s (i+3)
 by_cases c0:bo s i<128
 ·rw [if_pos c0]
  have hw:ho s i=1:=by unfold ho;rw [if_pos c0]
  refine⟨λ_=>⟨hw.symm,?_⟩,λh=>by omega,λ_=>⟨rfl,rfl⟩,λ_=>rfl,axx _⟩
  show tD (bo s i)=1
  unfold tD;rw [if_pos c0]
 rw [if_neg c0]
 by_cases cz:192<=bo s i/\bo s i<224
 ·have hw:=apS cz
  have aL:(bo s i/32==6)=true:=by simp;omega
  have a':(bo s i/16==14)=false:=by simp;omega
  have cX:(bo s i/8==30)=false:=by simp;omega
  simp only [aL,a',cX,ayb,ayc,axz,decide_eq_true_eq,beq_iff_eq,if_false,axH]
  by_cases hs:i+1<s.size
  ·rw [if_neg (by omega)]at hw
   by_cases av:bo s (i+1)/64=2
   ·rw [if_pos ⟨hs,av⟩]
    rw [if_pos (show gG s i 1 by unfold gG;omega)]at hw
    by_cases al:bo s i % 32*64+bo s (i+1) % 64>=128
    ·rw [if_pos al]
     rw [if_neg (by omega)]at hw
     exact OM c0 hw (by omega) (by unfold tD;rw [if_neg (by omega),if_pos (by omega)]) (by omega)
    ·rw [if_neg al]
     rw [if_pos (by omega)]at hw
     exact vm c0 hw
   ·rw [if_neg (by omega)]
    rw [if_neg (show¬(gG s i 1) by unfold gG;omega)]at hw
    exact vm c0 hw
  ·rw [if_neg (by omega)]
   rw [if_pos (by omega)]at hw
   exact vm c0 hw
 by_cases ij:224<=bo s i/\bo s i<240
 ·have hw:=apT ij
  have aL:(bo s i/32==6)=false:=by simp;omega
  have a':(bo s i/16==14)=true:=by simp;omega
  have cX:(bo s i/8==30)=false:=by simp;omega
  simp only [aL,a',cX,ayb,ayc,axz,decide_eq_true_eq,beq_iff_eq,if_false,axH]
  by_cases hs:i+2<s.size
  ·rw [if_neg (by omega)]at hw
   by_cases av:bo s (i+1)/64=2/\bo s (i+2)/64=2
   ·rw [if_pos ⟨⟨by omega,av.1⟩,hs,av.2⟩]
    rw [if_pos (show gG s i 1/\gG s i 2 by unfold gG;omega)]at hw
    generalize aI:bo s i % 16*4096+bo s (i+1) % 64*64+bo s (i+2) % 64=v
    have oa:(v>=2048/\Utf8.valid (v:Int)=true)↔(2048<=v/\(v<55296\/57344<=v)/\v<=1114111):=by
     simp only [Utf8.valid,ayO,axz,decide_eq_true_eq];omega
    by_cases al:v>=2048/\Utf8.valid (v:Int)=true
    ·rw [if_pos al]
     rw [oa]at al
     rw [if_neg (by unfold ns;omega)]at hw
     exact OM c0 hw (by omega) (by unfold tD;rw [if_neg (by omega),if_neg (by omega),if_neg (by omega),if_pos (by omega)]) (by omega)
    ·rw [if_neg al]
     rw [oa]at al
     rw [if_pos (by unfold ns;omega)]at hw
     exact vm c0 hw
   ·rw [if_neg (by omega)]
    rw [if_neg (show¬(gG s i 1/\gG s i 2) by unfold gG;omega)]at hw
    exact vm c0 hw
  ·rw [if_neg (by omega)]
   rw [if_pos (by omega)]at hw
   exact vm c0 hw
 by_cases nL:240<=bo s i/\bo s i<248
 ·have hw:=apU nL
  have aL:(bo s i/32==6)=false:=by simp;omega
  have a':(bo s i/16==14)=false:=by simp;omega
  have cX:(bo s i/8==30)=true:=by simp;omega
  simp only [aL,a',cX,ayb,ayc,axz,decide_eq_true_eq,beq_iff_eq,if_false,axH]
  by_cases hs:i+3<s.size
  ·rw [if_neg (by omega)]at hw
   by_cases av:bo s (i+1)/64=2/\bo s (i+2)/64=2/\bo s (i+3)/64=2
   ·rw [if_pos ⟨⟨⟨by omega,av.1⟩,by omega,av.2.1⟩,hs,av.2.2⟩]
    rw [if_pos (show gG s i 1/\gG s i 2/\gG s i 3 by unfold gG;omega)]at hw
    generalize aI:bo s i % 8*262144+bo s (i+1) % 64*4096+bo s (i+2) % 64*64+bo s (i+3) % 64=v
    have oa:(v>=65536/\Utf8.valid (v:Int)=true)↔(65536<=v/\v<=1114111):=by
     simp only [Utf8.valid,ayO,axz,decide_eq_true_eq];omega
    by_cases al:v>=65536/\Utf8.valid (v:Int)=true
    ·rw [if_pos al]
     rw [oa]at al
     rw [if_neg (by unfold ns;omega)]at hw
     exact OM c0 hw (by omega) (by unfold tD;rw [if_neg (by omega),if_neg (by omega),if_neg (by omega),if_neg (by omega),if_pos (by omega)]) (by omega)
    ·rw [if_neg al]
     rw [oa]at al
     rw [if_pos (by unfold ns;omega)]at hw
     exact vm c0 hw
   ·rw [if_neg (by omega)]
    rw [if_neg (show¬(gG s i 1/\gG s i 2/\gG s i 3) by unfold gG;omega)]at hw
    exact vm c0 hw
  ·rw [if_neg (by omega)]
   rw [if_pos (by omega)]at hw
   exact vm c0 hw
 have ay:hK (bo s i)=0:=by unfold hK;rw [if_neg cz,if_neg ij,if_neg nL]
 have hw:ho s i=0:=by
  unfold ho
  rw [if_neg c0]
  simp only [ay,true_or,if_true]
 have aL:(bo s i/32==6)=false:=by simp;omega
 have a':(bo s i/16==14)=false:=by simp;omega
 have cX:(bo s i/8==30)=false:=by simp;omega
 simp only [aL,a',cX,ayc,axH,if_false]
 exact vm c0 hw
theorem BS(s:ByteArray):s.toList=bd s:=ByteArray.toList_eq s
theorem yV(s t:ByteArray):(s.toList==t.toList)=decide (s=t):=by
 rw [BS,BS]
 by_cases h:s=t
 ·subst h;simp
 ·have:¬bd s=bd t:=λe=>h (iV e)
  simp only [h,decide_false,beq_eq_false_iff_ne,ne_eq];exact this
theorem Xn:∀l:List UInt8,Op.bytesLess l l=false
 |[]=>rfl
 |a::l=>by
  unfold Op.bytesLess
  simp [Xn l]
theorem ON(a b:UInt8)(x y:List UInt8):Op.bytesLess (a::x) (b::y)=true↔a<b\/a=b/\Op.bytesLess x y=true:=by
 rw [Op.bytesLess];simp
theorem Xo:∀{x y z:List UInt8},Op.bytesLess x y=true->Op.bytesLess y z=true->Op.bytesLess x z=true
 |[],_,[],h1,ab=>by cases‹List UInt8›<;>simp [Op.bytesLess]at ab
 |[],_,_::_,_,_=>rfl
 |_::_,[],_,h1,_=>by simp [Op.bytesLess]at h1
 |_::_,_::_,[],_,ab=>by simp [Op.bytesLess]at ab
 |a::x,b::y,c::z,h1,ab=>by
  rw [ON]at h1 ab⊢
  rcases h1 with h1|⟨rfl,h1⟩
  ·rcases ab with ab|⟨rfl,ab⟩
   ·exact .inl (UInt8.lt_trans h1 ab)
   ·exact .inl h1
  ·rcases ab with ab|⟨rfl,ab⟩
   ·exact .inl ab
   ·exact .inr ⟨rfl,Xo h1 ab⟩
theorem Xp:∀x y:List UInt8,Op.bytesLess x y=false->Op.bytesLess y x=false->x=y
 |[],[],_,_=>rfl
 |[],_::_,h,_=>by simp [Op.bytesLess]at h
 |_::_,[],_,h=>by simp [Op.bytesLess]at h
 |a::x,b::y,h1,ab=>by
  have g1:¬(a<b\/a=b/\Op.bytesLess x y=true):=λh=>by rw [<-ON]at h;rw [h]at h1;cases h1
  have g2:¬(b<a\/b=a/\Op.bytesLess y x=true):=λh=>by rw [<-ON]at h;rw [h]at ab;cases ab
  have oj:a=b:=by
   rcases azp (a:=a) (b:=b)|>λf=>Classical.em (a=b)with h|h
   ·exact h
   ·rcases azp h with h|h
    ·exact absurd (.inl h) g1
    ·exact absurd (.inl h) g2
  subst oj
  rw [Xp x y (by cases aq:Op.bytesLess x y with|false=>rfl|true=>exact absurd (.inr ⟨rfl,aq⟩) g1) (by cases aq:Op.bytesLess y x with|false=>rfl|true=>exact absurd (.inr ⟨rfl,aq⟩) g2)]
def kx(s t:ByteArray):Bool:=Op.bytesLess (bd s) (bd t)
theorem ajp(s t:ByteArray):Op.bytesLess s.toList t.toList=kx s t:=by rw [BS,BS];rfl
theorem M4(s:ByteArray):kx s s=false:=Xn _
theorem Xq{t u:ByteArray}(h:kx s t=true)(h':kx t u=true):kx s u=true:=Xo h h'
theorem ajr{t:ByteArray}(h:kx s t=false)(h':kx t s=false):s=t:=iV (Xp _ _ h h')
theorem ajq{t:ByteArray}(h:kx s t=true):kx t s=false:=by
 cases h':kx t s with
 |false=>rfl
 |true=>have:=Xq h h';rw [M4]at this;cases this
theorem ajv:kx ayV s=decide (s.size≠0):=by
 unfold kx
 have:=dR s
 rw [apM]
 cases h:bd s with
 |nil=>rw [h]at this;simp at this;simp [Op.bytesLess,<-this]
 |cons a l=>rw [h]at this;simp at this;simp [Op.bytesLess,<-this]
def nq(c:Nat):Prop:=97<=c/\c<=122
def n4(c:Nat):Prop:=(97<=c/\c<=122)\/(48<=c/\c<=57)\/c=95
instance(c:Nat):Decidable (nq c):=inferInstanceAs (Decidable (_/\_))
instance(c:Nat):Decidable (n4 c):=inferInstanceAs (Decidable (_\/_))
def p4(s:ByteArray):Prop:=1<=s.size/\s.size<=16/\nq (bo s 0)/\∀i,i<s.size->n4 (bo s i)
instance(s:ByteArray):Decidable (p4 s):=inferInstanceAs (Decidable (_/\_))
theorem Va(az:i<s.size):i+ho s i<=s.size:=by
 unfold ho
 by_cases h1:bo s i<128
 ·rw [if_pos h1];omega
 rw [if_neg h1]
 simp only
 by_cases ab:hK (bo s i)=0\/s.size<i+hK (bo s i)
 ·rw [if_pos ab];omega
 rw [if_neg ab]
 by_cases ar:∀k,k<hK (bo s i)-1->gG s i (k+1)
 ·rw [if_pos ar]
  by_cases a7:ns (hK (bo s i)) (kv s i (hK (bo s i)-1))
  ·rw [if_pos a7];omega
  ·rw [if_neg a7];omega
 ·rw [if_neg ar];omega
def mI(s:ByteArray)(i:Nat):Bool:=
 if h:i<s.size then(if ab:ho s i=0 then false else mI s (i+ho s i))else true
termination_by s.size-i
theorem M1(h:s.size<=i):mI s i=true:=by
 rw [mI,dif_neg (by omega)]
theorem U'(h:i<s.size)(ab:ho s i=0):mI s i=false:=by
 rw [mI,dif_pos h,dif_pos ab]
theorem Vb(h:i<s.size)(ab:ho s i≠0):mI s i=mI s (i+ho s i):=by
 rw [mI,dif_pos h,dif_neg ab]
def jD(s:ByteArray):Prop:=s.size<=32/\mI s 0=true
instance(s:ByteArray):Decidable (jD s):=inferInstanceAs (Decidable (_/\_))
theorem Jy(s:ByteArray)(l i:Nat)(h:l+i<s.size):bo (s.extract l s.size) i=bo s (l+i):=by
 obtain⟨b,al,he⟩:=apN h
 have:(s.extract l s.size)[i]?=some b:=by
  rw [yl,tE,<-dR,ayX,ax5,<-yl,al]
 rw [Ca this,he]
theorem tF(s:ByteArray)(l:Nat):(s.extract l s.size).size=s.size-l:=by
 rw [<-dR,tE,ayY,ayj,dR];omega
theorem ajn(s:ByteArray)(l i:Nat)(h:l+i<s.size):ho (s.extract l s.size) i=ho s (l+i):=by
 unfold ho
 rw [Jy s l i h,tF]
 by_cases h1:bo s (l+i)<128
 ·rw [if_pos h1,if_pos h1]
 rw [if_neg h1,if_neg h1]
 simp only
 by_cases ab:hK (bo s (l+i))=0\/s.size<l+i+hK (bo s (l+i))
 ·rw [if_pos ab,if_pos (by omega)]
 rw [if_neg ab,if_neg (by omega)]
 have Xr:∀k,k<hK (bo s (l+i))-1->(gG (s.extract l s.size) i (k+1)↔gG s (l+i) (k+1)):=λk hk=>by
  unfold gG
  rw [Jy s l _ (by omega),show l+(i+(k+1))=l+i+(k+1) by omega]
 have IF:∀k,k<=hK (bo s (l+i))-1->kv (s.extract l s.size) i k=kv s (l+i) k:=λk=>by
  induction k with
  |zero=>intro _;simp only [kv];rw [Jy s l i h]
  |succ k ih=>intro hk;simp only [kv];rw [ih (by omega),Jy s l _ (by omega),show l+(i+(k+1))=l+i+(k+1) by omega]
 rw [IF _ (axx _)]
 by_cases ar:∀k,k<hK (bo s (l+i))-1->gG s (l+i) (k+1)
 ·rw [if_pos ar,if_pos λk hk=>(Xr k hk).2 (ar k hk)]
 ·rw [if_neg ar,if_neg λh=>ar λk hk=>(Xr k hk).1 (h k hk)]
theorem ajo(s:ByteArray)(l i:Nat)(h:l+i<=s.size):(s.extract l s.size).extract i (s.extract l s.size).size=s.extract (l+i) s.size:=by
 apply iV
 rw [tE,tE,tE,tF,<-dR,ayX,<-ayY (i:=l) (l:=bd s),ayX,List.drop_drop]
def cn(n:Nat):List UInt8:=if h:n<128 then [axX n]else axX (n % 128+128)::cn (n/128)
termination_by n
theorem qS(h:n<128):cn n=[axX n]:=by rw [cn,dif_pos h]
theorem B8(h:¬n<128):cn n=axX (n % 128+128)::cn (n/128):=by rw [cn,dif_neg h]
theorem oX:∀(k n:Nat),n<128^(k+1)->(cn n).length<=k+1
 |0,n,h=>by rw [qS (by omega)];simp
 |k+1,n,h=>by
  by_cases h1:n<128
  ·rw [qS h1];simp
  ·rw [B8 h1,ayi]
   have:=oX k (n/128) (by rw [azq (by omega)];rw [aym]at h;exact h)
   omega
theorem OA(n:Nat):1<=(cn n).length:=by
 by_cases h1:n<128
 ·rw [qS h1];simp
 ·rw [B8 h1];simp
def e6(s:ByteArray):List UInt8:=cn s.size++bd s
theorem Xs{t:ByteArray}{x y:List UInt8}(hs:s.size<128)(aW:t.size<128)(h:e6 s++x=e6 t++y):s=t/\x=y:=by
 unfold e6 at h
 rw [qS hs,qS aW]at h
 simp only [axV,ayn,List.cons.injEq]at h
 have e:s.size=t.size:=by
  have h1:=congrArg UInt8.toNat h.1
  simp only [axY]at h1
  omega
 have:=List.append_inj h.2 (by rw [dR,dR,e])
 exact⟨iV this.1,this.2⟩
abbrev hV:=ByteArray×ByteArray
def D'(l:List hV):Prop:=∀i x y,l[i]?=some x->l[i+1]?=some y->kx x.1 y.1=true
def p3(x:hV):Prop:=p4 x.1/\jD x.2/\1<=x.2.size
def fa(l:List hV):Prop:=l.length<=8/\(∀x∈l,p3 x)/\D' l
def hW(l:List hV):List UInt8:=l.flatMap λx=>e6 x.1++e6 x.2
theorem Xt:∀{l m:List hV},(∀x∈l,p3 x)->(∀x∈m,p3 x)->hW l=hW m->l=m
 |[],[],_,_,_=>rfl
 |[],y::m,_,_,h=>by
  exfalso
  have:=congrArg List.length h
  simp only [hW,axO,azr,ax6,azs,e6]at this
  have:=OA y.1.size
  omega
 |x::l,[],_,_,h=>by
  exfalso
  have:=congrArg List.length h
  simp only [hW,axO,azr,ax6,azs,e6]at this
  have:=OA x.1.size
  omega
 |x::l,y::m,aG,hm,h=>by
  have aa:=aG x (by simp)
  have aA:=hm y (by simp)
  unfold p3 p4 jD at aa aA
  simp only [hW,axO,ax7]at h
  obtain⟨aL,h⟩:=Xs (by omega) (by omega) h
  obtain⟨a',h⟩:=Xs (by omega) (by omega) h
  rw [Xt (λz aE=>aG z (by simp [aE])) (λz aE=>hm z (by simp [aE])) h]
  rw [Prod.ext aL a']
def oP(b:UInt8):List UInt8:=if b=34 then [92,34]else if b=92 then [92,92]else if b=10 then [92,110]else [b]
def lF(v:List UInt8):List UInt8:=v.flatMap oP
def u7(v:List UInt8):List UInt8:=34::lF v++[34]
theorem ajM(b:UInt8)(v:List UInt8):lF (b::v)=oP b++lF v:=by simp [lF]
theorem ajO(u v:List UInt8):lF (u++v)=lF u++lF v:=by simp [lF]
theorem ajN(b:UInt8):(oP b=[b]/\b≠34/\b≠92/\b≠10)\/(b=34/\oP b=[92,34])\/(b=92/\oP b=[92,92])\/(b=10/\oP b=[92,110]):=by
 unfold oP
 by_cases h1:b=34
 ·subst h1;simp
 by_cases ab:b=92
 ·subst ab;simp
 by_cases ar:b=10
 ·subst ar;simp
 ·simp [h1,ab,ar]
def ym(x:hV):List UInt8:=bd x.1++61::u7 (bd x.2)
def IK:List hV->List UInt8
 |[]=>[125]
 |x::l=>44::ym x++IK l
def lW:List hV->List UInt8
 |[]=>[123,125]
 |x::l=>123::ym x++IK l
def hp:List UInt8->Nat
 |[]=>0
 |c::r=>c.toNat % 128+128*hp r
theorem IM:∀(a b:List UInt8),hp (a++b)=hp a+128^a.length*hp b
 |[],b=>by simp [hp]
 |c::a,b=>by
  simp only [axV,hp,IM a b,ayi,aym]
  rw [Nat.mul_add,ayG]
  congr 2
  rw [<-Nat.mul_assoc,ayU 128]
theorem Vw:∀a:List UInt8,hp a<128^a.length
 |[]=>by simp [hp]
 |c::a=>by
  have:=Vw a
  simp only [hp,ayi,aym]
  omega
def va(l:List UInt8):Prop:=∀d∈l,128<=d.toNat
theorem Jz:∀(k n:Nat),n<128^(k+1)->∃cg c,cn n=cg++[c]/\va cg/\c.toNat<128/\(cg≠[]->c.toNat≠0)/\hp (cg++[c])=n
 |k,n,h=>by
  by_cases h1:n<128
  ·refine⟨[],axX n,by rw [qS h1];rfl,λd aR=>(by cases aR),?_,λh=>absurd rfl h,?_⟩
   ·rw [axY];omega
   ·simp only [ayn,hp];rw [axY];omega
  ·cases k with
   |zero=>simp at h;omega
   |succ k=>
    obtain⟨cg,c,e,ab,ar,a7,bs⟩:=Jz k (n/128) (by rw [azq (by omega)];rw [aym]at h;exact h)
    refine⟨axX (n % 128+128)::cg,c,by rw [B8 h1,e];rfl,λd aR=> ?_,ar,λ_=> ?_,?_⟩
    ·rcases axA.1 aR with h|h
     ·subst h;rw [axY];omega
     ·exact ab d h
    ·by_cases iL:cg=[]
     ·subst iL
      simp only [ayn,hp]at bs
      omega
     ·exact a7 iL
    ·simp only [axV,hp,bs]
     rw [axY];omega
theorem Xu(n:Nat):∃k,n<128^(k+1):=⟨n,by
 have:n<128^n:=Nat.lt_pow_self (by omega)
 rw [aym];omega⟩
theorem Vu:∀(cg:List UInt8) (c:UInt8),va cg->c.toNat<128->(cg≠[]->c.toNat≠0)->cn (hp (cg++[c]))=cg++[c]
 |[],c,_,h,_=>by
  simp only [ayn,hp]
  rw [qS (by omega)]
  congr 1
  apply UInt8.toNat.inj
  rw [axY];omega
 |d::cg,c,aq,h,aE=>by
  have aF:c.toNat≠0:=aE (by simp)
  have ih:=Vu cg c (λx aa=>aq x (by simp [aa])) h (λ_=>aF)
  have aH:1<=hp (cg++[c]):=by
   rw [IM]
   have:1<=128^cg.length:=Nat.pow_pos (by omega)
   have bs:1<=hp [c]:=by simp only [hp];omega
   have:=Nat.mul_le_mul this bs
   omega
  have aR:=aq d (by simp)
  have rS:=d.toNat_lt
  simp only [axV,hp]
  rw [B8 (by omega)]
  have aL:(d.toNat % 128+128*hp (cg++[c]))/128=hp (cg++[c]):=by omega
  rw [aL,ih]
  congr 1
  apply UInt8.toNat.inj
  rw [axY];omega
theorem Xv:∀{cg wS:List UInt8} {c bg:UInt8} {t gk:List UInt8},va cg->va wS->c.toNat<128->bg.toNat<128->cg++c::t=wS++bg::gk->cg=wS/\c=bg/\t=gk
 |[],[],c,bg,t,gk,_,_,_,_,e=>by simp at e;exact⟨rfl,e⟩
 |[],d::wS,c,bg,t,gk,_,h,h1,_,e=>by
  simp at e
  have:=h d (by simp)
  rw [e.1]at h1;omega
 |d::cg,[],c,bg,t,gk,h,_,_,h1,e=>by
  simp at e
  have:=h d (by simp)
  rw [<-e.1]at h1;omega
 |d::cg,d'::wS,c,bg,t,gk,h,h',h1,ab,e=>by
  simp only [axV,List.cons.injEq]at e
  obtain⟨aL,a',cX⟩:=Xv (λx aa=>h x (by simp [aa])) (λx aa=>h' x (by simp [aa])) h1 ab e.2
  exact⟨by rw [e.1,aL],a',cX⟩
theorem Nb{cg t gk:List UInt8}{c:UInt8}(aR:va cg)(av:c.toNat<128)(e:cg++c::t=cn n++gk):cn n=cg++[c]/\t=gk/\n=hp (cg++[c])/\(cg≠[]->c.toNat≠0):=by
 obtain⟨k,hk⟩:=Xu n
 obtain⟨wS,bg,aL,ab,ar,a7,bs⟩:=Jz k n hk
 rw [aL,ax7,azt]at e
 obtain⟨rfl,rfl,rfl⟩:=Xv aR ab av ar e
 exact⟨aL,rfl,bs.symm,a7⟩
theorem Vt{r t:List UInt8}(ay:n<18446744073709551616)(aB:∀d∈r.take 10,128<=d.toNat)(e:r=cn n++t):False:=by
 obtain⟨cg,c,aL,ab,ar,a7,bs⟩:=Jz 9 n (by omega)
 have aG:=oX 9 n (by omega)
 have:c∈r.take 10:=by
  rw [e,azu,ayB (by omega),aL];simp
 have:=aB c this
 omega
theorem tM{m:Nat}{x y:List UInt8}(e:cn n++x=cn m++y):n=m/\x=y:=by
 obtain⟨k,hk⟩:=Xu n
 obtain⟨cg,c,aL,ab,ar,a7,bs⟩:=Jz k n hk
 rw [aL,ax7,azt]at e
 obtain⟨b5,cT,fi,_⟩:=Nb ab ar e
 exact⟨by rw [<-bs,fi],cT⟩
def Cc(r:List UInt8):Prop:=r.length<10/\va r
def IL(r:List UInt8):Prop:=∀n,n<18446744073709551616->∀t,r≠cn n++t
theorem Cc.no{r:List UInt8}(h:Cc r):IL r:=λn ay t e=>Vt ay (λd aR=>h.2 d (List.mem_of_mem_take aR)) e
def nu(r:List UInt8)(a:Nat)(v next e:Int):Prop:=
 (∃n:Nat,v=n/\n<18446744073709551616/\r=cn n++r.drop (cn n).length/\(cn n).length<=r.length/\next=((a+(cn n).length:Nat):Int)/\e=0)\/(v=0/\next=0/\e=10/\Cc r)\/(v=0/\next=0/\e=11/\¬Cc r/\IL r)
theorem nu.same{r:List UInt8}{a:Nat}{v next e gZ next' dp:Int}(h:nu r a v next e)(h':nu r a gZ next' dp):v=gZ/\next=next'/\e=dp:=by
 rcases h with⟨n,rfl,h1,ab,_,rfl,rfl⟩|⟨rfl,rfl,rfl,h1⟩|⟨rfl,rfl,rfl,h1,ab⟩<;>rcases h' with⟨bn,rfl,fc,gF,_,rfl,rfl⟩|⟨rfl,rfl,rfl,fc⟩|⟨rfl,rfl,rfl,fc,gF⟩
 ·obtain⟨rfl,_⟩:=tM (ab.symm.trans gF)
  exact⟨rfl,rfl,rfl⟩
 ·exact absurd ab (fc.no n h1 _)
 ·exact absurd ab (gF n h1 _)
 ·exact absurd gF (h1.no bn fc _)
 ·exact⟨rfl,rfl,rfl⟩
 ·exact absurd h1 fc
 ·exact absurd gF (ab bn fc _)
 ·exact absurd fc h1
 ·exact⟨rfl,rfl,rfl⟩
theorem nu.of{r t:List UInt8}{a:Nat}{v next e:Int}(h:nu r a v next e)(ay:n<18446744073709551616)(aB:r=cn n++t):v=n/\next=((a+(cn n).length:Nat):Int)/\e=0:=by
 refine h.same (.inl ⟨n,rfl,ay,?_,?_,rfl,rfl⟩)
 ·rw [aB];simp
 ·rw [aB];simp
end Go.Proofs
namespace Go.bk
variable{H:U}{a:Option Addr}{c n:Nat}{t:TypeId}{P:Program}
theorem qw.cut{α:Type}{E:di α}{xs:List α}(h:qw E H a xs)(k m:Nat):qw E H (a.map (·.add (k*E.sz))) ((xs.take m).drop k):=by
 rcases h with rfl|⟨b,off,rfl,h⟩
 ·exact .inl (by simp)
 ·refine .inr ⟨b,off+k*E.sz,by simp [lg],λi x aa j v aI=> ?_⟩
  rw [ax5,axN]at aa
  split at aa
  ·have:=h (k+i) x aa j v aI
   rw [axK]at this
   rw [show off+k*E.sz+i*E.sz+j=off+(k*E.sz+i*E.sz)+j by omega]
   exact this
  ·cases aa
theorem bt.cut{α:Type}{E:di α}{xs:List α}(h:bt E H a n c xs){k m:Nat}(hk:k<=m)(hm:m<=n):bt E H (df c k E.sz a) (m-k) (c-k) ((xs.take m).drop k):=by
 have aG:=h.len
 have av:=h.cap
 refine⟨by simp;omega,by omega,?_⟩
 rw [vS]
 split
 ·refine .inl (azc (by simp;omega))
 ·exact h.arr.cut k m
theorem bt.drop{α:Type}{E:di α}{xs:List α}(h:bt E H a n c xs){k:Nat}(hk:k<=n):bt E H (df c k E.sz a) (n-k) (c-k) (xs.drop k):=by
 have:=h.cut hk (axx n)
 rwa [ayB (by have:=h.len;omega)]at this
theorem bt.zero{α:Type}{E:di α}:bt E H a 0 c ([]:List α):=⟨rfl,ayv _,.inl rfl⟩
theorem bt.head{α:Type}{E:di α}{x:α}{xs:List α}(h:bt E H a n c (x::xs)){b:Bool}(al:b=true){X:Addr->Prop}
  (hk:∀aC,a=some aC->gu H aC (E.cells x)->X aC):fp a λaC=>dB b (X aC):=by
 obtain⟨o4,off,rfl,av⟩:=h.arr.at (i:=0) rfl
 subst al
 refine w8 rfl (cM rfl ?_)
 refine hk _ rfl λj v aI=> ?_
 rw [lg]
 simpa using av j v aI
theorem Own.take{α:Type}{E:di α}{base:Nat}{xs:List α}(h:Own E t base H a n c xs){m:Nat}(hm:m<=n):Own E t base H a m c (xs.take m):=by
 obtain⟨aG,h⟩:=h
 refine⟨by simp;omega,?_⟩
 rcases h with⟨rfl,rfl,rfl⟩|⟨b,cur,rfl,al,aq,av,fv,hs,aW⟩
 ·exact .inl ⟨rfl,by omega,rfl⟩
 ·refine .inr ⟨b,cur,rfl,al,aq,by omega,fv,hs,?_⟩
  have e:(m*E.sz)<=n*E.sz:=axQ _ hm
  have:cur.toList.take (m*E.sz)=(xs.flatMap E.cells).take (m*E.sz):=by rw [<-aW,List.take_take,Nat.min_eq_left e]
  rw [this]
  clear this aW
  induction xs generalizing m n with
  |nil=>simp
  |cons x l ih=>
   cases m with
   |zero=>simp
   |succ m=>
    simp only [axO,ay7,axK,Nat.one_mul]
    rw [azu,E.len,ayB (by rw [E.len];omega)]
    congr 1
    rw [show m*E.sz+E.sz-E.sz=m*E.sz by omega]
    simp only [ayi]at aG
    exact ih (n:=n-1) (m:=m) (by omega) (by omega) (by omega) (axQ _ (by omega))
theorem uJ{α:Type}{E:di α}{ts ty:TypeId}{bytes:Nat}{cw:U}{xs ys:List α}{a2:Option Addr}{m c2:Nat}{K:Option Addr->Nat->Nat->U->Prop}
  (ji:sliceB P ts t=true) (aW:j8 P t E.sz bytes=true) (aw:Own E t cw.size H a n c xs) (ai:Fr [] cw H) (hs:bt E H a2 m c2 ys) (dF:(n+m)*bytes<=140737488355328)
  (hk:∀aV bn bg H',Own E t cw.size H' aV bn bg (xs++ys)->Fr [] cw H'->Fr (an a) H H'->K aV bn bg H'):
  gD P (Builtin.append_ ⟨[ts,ts]⟩ ty ⟨[.slice a n c,.slice a2 m c2]⟩) H λv H'=>∃a n c,v=.slice a n c/\K a n c H':=
 ap5 ji aW aw hs ai.size dF λaV bn bg H' h1 ab=>hk aV bn bg H' h1 (ai.ag ab λk hk=>(aw.ge k hk).1) ab
theorem pj{α:Type}{E:di α}{ts ty gk:TypeId}{bytes:Nat}{cw:U}{xs:List α}(x:α){ae:List Value}{K:Nat->Option Addr->Nat->Nat->U->Prop}
  (ji:sliceB P ts t=true) (aW:j8 P t E.sz bytes=true) (aw:Own E t cw.size H a n c xs) (ai:Fr [] cw H) (aI:ae=E.cells x) (dF:(n+1)*bytes<=140737488355328)
  (hk:∀b aV bn bg H',Own E t cw.size H' aV bn bg (xs++[x])->Fr [] cw H'->Fr (an a) H H'->K b aV bn bg H'):
  ∀b H1,dV H b (.cells ⟨ae⟩ gk) H1->gD P (Builtin.append_ ⟨[ts,ts]⟩ ty ⟨[.slice a n c,.slice (some ⟨b,0,none⟩) 1 1]⟩) H1 λv H'=>∃a n c,v=.slice a n c/\K b a n c H':=λb H1 ay=>
 uJ ji aW (aw.ag ay.af) (ai.aT ay.af) (fy E x ay aI) dF λaV bn bg H' h1 ab ar=>hk b aV bn bg H' h1 ab (ay.af.trans' ar (by simp) (λk hk _=>hk))
theorem IB{α:Type}{E:di α}{ts:TypeId}{bytes:Nat}{c:Int}{XF kG:IntKind}{K:Option Addr->Nat->Nat->U->Prop}
  (ji:sliceB P ts t=true) (aW:j8 P t E.sz bytes=true) (aF:0<=c) (dF:c.toNat *bytes<=140737488355328)
  (hk:∀b H',Own E t H.size H' (some ⟨b,0,none⟩) 0 c.toNat ([]:List α)->Fr [] H H'->K (some ⟨b,0,none⟩) 0 c.toNat H'):
  gD P (Instr.makeSlice ts (.int XF 0) (.int kG c)) H λv H'=>∃a n c,v=.slice a n c/\K a n c H':=by
 intro e2 d
 obtain⟨i,z,az,aE,h1,ab,ar,a7,bs⟩:=G' aW
 have hu:=rI ji
 obtain⟨qX,rfl⟩:∃qX:Nat,c=qX:=⟨c.toNat,by omega⟩
 simp only [ayS]at dF hk
 have Ex:qX<=qX*bytes:=azg _ bs
 have aB:=run_make (P:=P) (bf e2 H d) ts t i z hu az aE XF kG 0 qX (Int.le_refl _) (by omega) (by
  rw [a7,Int.mul_comm,<-Int.natCast_mul];omega) (by omega)
 refine⟨_,_,d,aB,_,_,_,rfl,hk H.size (H.push (.cells (madeCells z.cells (qX*i.size)) t)) ?_ ?_⟩
 ·exact⟨rfl,.inr ⟨H.size,madeCells z.cells (qX*i.size),rfl,axx _,by simp,ayv _,by simp only [maxLen];omega,by rw [size_madeCells,h1],by simp⟩⟩
 ·exact⟨by simp,λk hk _=>by simp [ayg];omega⟩
theorem VH{α:Type}{E:di α}{ts ty t base:Nat}{gL:List Value}{k:Nat}{xs:List α}{K:U->Prop}
  (ji:sliceB P ts t=true) (aE:zeroOf P t=some (.agg ⟨gL⟩)) (vT:gL.length=E.sz) (tw:∀v∈gL,v.oneCell'=true)
  (aw:Own E t base H a n c xs) (hk:k<=n) (eL:∀H',Own E t base H' a k c (xs.take k)->Fr (an a) H H'->K H'):
  gD P (Builtin.clear_ ⟨[ts]⟩ ty ⟨[.slice (df c k E.sz a) (n-k) (c-k)]⟩) H λv H'=>v=.tuple #[]/\K H':=by
 intro e2 d
 have hu:=rI ji
 have XG:=aw.take hk
 by_cases KX:n-k=0
 ·refine⟨_,H,d,?_,rfl,eL H XG (Fr.refl _ _)⟩
  rw [KX]
  unfold Builtin.clear_
  cases ev:df c k E.sz a with
  |none=>simp [eU hu]
  |some aC=>simp [eU hu]
 ·have hlen:=aw.1
  obtain⟨aG,fF⟩:=aw
  rcases fF with⟨rfl,aF,h1⟩|⟨b,cur,rfl,al,aq,av,hm,hs,aW⟩
  ·omega
  ·rw [vS,if_neg (by omega)]
   simp only [ayr,lg]
   obtain⟨i,az,aqe⟩:∃i,P.info? t=some i/\i.zero=some (.agg ⟨gL⟩):=by
    unfold zeroOf at aE
    split at aE
    ·exact⟨_,by assumption,aE⟩
    ·cases aE
   have dF:(Builtin.zeroCells (ax8 ⟨gL⟩).cells (n-k)).toList.length=(n-k)*E.sz:=by
    rw [axM,size_zeroCells]
    simp [Value.cells,vT]
   have s4:k*E.sz+(n-k)*E.sz<=cur.size:=by
    rw [hs,<-axK]
    exact axQ _ (by omega)
   have DA:∀v∈(Builtin.zeroCells (ax8 ⟨gL⟩).cells (n-k)).toList,v.oneCell'=true:=by
    intro v aI
    simp only [Builtin.zeroCells,Value.cells,axI,ayf]at aI
    obtain⟨j,_,rfl⟩:=aI
    have aH:=E.pos
    have:j % gL.length<gL.length:=ayq _ (by omega)
    have e:(⟨gL⟩:Array Value)[j %(⟨gL⟩:Array Value).size]! =gL[j % gL.length]'this:=by simp [this]
    rw [e]
    exact tw _ (List.getElem_mem _)
   refine⟨_,vY H b (cur.toList.take (k*E.sz)++(Builtin.zeroCells (ax8 ⟨gL⟩).cells (n-k)).toList++cur.toList.drop (k*E.sz+(n-k)*E.sz)).toArray,d,?_,rfl,eL _ ?_ (Lc H b _)⟩
   ·have dW:=run_storeCells_at P b (0+k*E.sz) t (Builtin.zeroCells (ax8 ⟨gL⟩).cells (n-k)).toList 0 cur (bf e2 H d) aq (by rw [dF];omega) DA
    unfold Builtin.clear_
    have:∃m,n-k=m+1:=⟨n-k-1,by omega⟩
    obtain⟨m,fv⟩:=this
    rw [fv]at dW dF⊢
    simp only [axS,axW]
    simp only [x3,eU hu,x4,zeroValue,typeInfo,program]
    simp only [axy,pure,x4,az,aqe]
    rw [dW,dF]
    simp only [axJ,Nat.add_zero]
    rfl
   ·refine⟨by simp;omega,.inr ⟨b,_,rfl,al,Ld aq,by omega,hm,?_,?_⟩⟩
    ·simp only [ay9,ax6,ayj,ayY,dF,axM]
     omega
    ·have ab:(cur.toList.take (k*E.sz)).length=k*E.sz:=by simp;omega
     rw [show(cur.toList.take (k*E.sz)++(Builtin.zeroCells (ax8 ⟨gL⟩).cells (n-k)).toList++cur.toList.drop (k*E.sz+(n-k)*E.sz)).toArray.toList=cur.toList.take (k*E.sz)++((Builtin.zeroCells (ax8 ⟨gL⟩).cells (n-k)).toList++cur.toList.drop (k*E.sz+(n-k)*E.sz)) by simp]
     rw [List.take_append_of_le_length (by omega),ayB (by omega)]
     obtain⟨_,h|⟨iR,aeO,e,_,s7,_,_,_,aqf⟩⟩:=XG
     ·cases h.1
     ·cases e
      rw [aq]at s7
      cases s7
      exact aqf
theorem Ms(aC:Addr):aC.add 0=aC:=by cases aC;rfl
theorem sU{α:Type}{E:di α}{tt:TypeId}{base:Nat}{xs:List α}{i:Int}{k:Nat}(x':α){v:Value}{b:Bool}{X:U->Prop}
  (h:Own E t base H a n c xs) (az:i=k) (eC:k<n) (al:b=true) (aI:v.cells.toList=E.cells x') (hs:hy P tt=E.sz) (OS:(P.info? tt).isSome=true)
  (eg:∀H',Own E t base H' a n c (xs.set k x')->Fr (an a) H H'->X H'):fp a λaC=>dB b (∃H',oz P tt H (aC.add (i.toNat *E.sz)) v H'/\X H'):=by
 have aG:=h.1
 have aa:xs[k]?=some (xs[k]'(by omega)):=by simp
 cases a with
 |none=>
  obtain⟨_,⟨_,aF,_⟩|⟨_,_,e,_⟩⟩:=h
  ·omega
  ·cases e
 |some aC=>
  refine w8 rfl (cM al ?_)
  have hlen:=E.len x'
  have dF:v.cells.size=E.sz:=by rw [<-axM,aI,hlen]
  have:=Fc (P:=P) (tt:=tt) (j:=0) (x':=x') (v:=v) (X:=X) h rfl az aa (by rw [hs,dF]) OS (by rw [aI];exact E.one x') (by rw [aI,hlen];omega) (by
   rw [aI,hlen]
   have ab:=E.len (xs[k]'(by omega))
   rw [List.take_zero,ayn,List.drop_of_length_le (by omega),azh]) eg
  rwa [Ms]at this
theorem a6.My{b j:Nat}{ae:List Value}{v:Value}(aW:nn P t=false)(h:a6 H ⟨b,0,none⟩ ae)(aI:ae[j]?=some v):jS P t H ⟨b,j,none⟩ v:=by
 obtain⟨iR,dJ,e,al⟩:=h
 cases e
 exact OP aW al aI
theorem a6.Ni{b j:Nat}{ae us:List Value}(aW:q' P t=true)(hs:hy P t=us.length)(h:a6 H ⟨b,0,none⟩ ae)(aI:(ae.drop j).take us.length=us):jS P t H ⟨b,j,none⟩ (.agg ⟨us⟩):=by
 obtain⟨iR,dJ,e,al⟩:=h
 cases e
 exact OQ aW hs al aI
theorem Ma{c7:Type}{ck:Nat}{L:List (cR c7)}(hw:tx ck L){x y:cR c7}(aa:x∈L)(aA:y∈L)(e:x.2.2=y.2.2):x=y:=by
 have al:=hw.born
 clear hw
 induction L with
 |nil=>cases aa
 |cons z l ih=>
  simp only [axE,ayk]at al
  rcases axA.1 aa with h1|h1<;>rcases axA.1 aA with ab|ab
  ·rw [h1,ab]
  ·exact absurd (by rw [<-h1,e];exact axL (f:=λx:cR c7=>x.2.2) ab) al.1
  ·exact absurd (by rw [<-ab,<-e];exact axL (f:=λx:cR c7=>x.2.2) h1) al.1
  ·exact ih h1 ab al.2
theorem Ei{c7:Type}{ck:Nat}{L:List (cR c7)}(hw:tx ck L){x y:cR c7}(aa:x∈L)(aA:y∈L)(e:x.1=y.1):x=y:=by
 have al:=hw.keys
 clear hw
 induction L with
 |nil=>cases aa
 |cons z l ih=>
  simp only [axE,ayk]at al
  rcases axA.1 aa with h1|h1<;>rcases axA.1 aA with ab|ab
  ·rw [h1,ab]
  ·exact absurd (by rw [<-h1,e];exact axL (f:=λx:cR c7=>x.1) ab) al.1
  ·exact absurd (by rw [<-ab,<-e];exact axL (f:=λx:cR c7=>x.1) h1) al.1
  ·exact ih h1 ab al.2
theorem a6.cF{b:Nat}{ae:List Value}{v:Value}(h:a6 H ⟨b,0,none⟩ ae)(j:Nat)(aI:ae[j]?=some v)(aW:nn P t=false:=by kernel_rfl):jS P t H ⟨b,j,none⟩ v:=h.My aW aI
end Go.bk
section
open Go.Proofs
variable{H:U}{P:Program}{iM sh w2 nE:TypeId}{xs:List UInt8}{b:Nat}
namespace Go.bk
def fb:di UInt8:=⟨λb=>[.int .u8 b.toNat],1,λ_=>rfl,by decide,λ_ v h=>by simp at h;subst h;rfl⟩
theorem ath(xs:List UInt8):xs.flatMap fb.cells=xs.map λb=>ayZ .u8 b.toNat:=by
 induction xs with
 |nil=>rfl
 |cons x l ih=>rw [axO,ih];rfl
theorem ati(s:ByteArray):Lib.strCells s=(bd s).flatMap fb.cells:=by rw [ath];rfl
def ya(P:Program)(t:TypeId):Bool:=match P.underlying t with|some .string=>true|_=>false
theorem F7{t:TypeId}(h:ya P t=true):P.underlying t=some .string:=by
 unfold ya at h
 split at h
 ·assumption
 ·cases h
def q7(P:Program)(t:TypeId):Bool:=match P.info? t with
 |some i=>(match i.zero with|some (.int .u8 z)=>decide (z=0)&&LY i.size 1&&LY i.bytes 1|_=>false)
 |none=>false
theorem Vg{t:TypeId}(h:q7 P t=true):∃i,P.info? t=some i/\i.zero=some (.int .u8 0)/\i.size=1/\i.bytes=1:=by
 unfold q7 at h
 split at h
 ·rename_i i az
  split at h
  ·rename_i z aE
   simp only [axz,decide_eq_true_eq]at h
   obtain⟨⟨rfl,h1⟩,ab⟩:=h
   exact⟨i,az,aE,axB h1,axB ab⟩
  ·cases h
 ·cases h
theorem aiR{ts Ay ty t:TypeId}{base:Nat}{a:Option Addr}{n c:Nat}{s:ByteArray}{K:Option Addr->Nat->Nat->U->Prop}
  (ji:sliceB P ts t=true) (atj:ya P Ay=true) (aW:q7 P t=true) (aw:Own fb t base H a n c xs) (o8:base<=H.size) (dF:n+s.size<=140737488355328)
  (hk:∀aV bn bg H',Own fb t base H' aV bn bg (xs++bd s)->Fr (an a) H H'->Grow H (an a) (an aV)->K aV bn bg H'):
  gD P (Builtin.append_ ⟨[ts,Ay]⟩ ty ⟨[.slice a n c,.string s]⟩) H λv H'=>∃a n c,v=.slice a n c/\K a n c H':=by
 intro e2 d
 obtain⟨i,az,aE,h1,a7⟩:=Vg aW
 have hu:=rI ji
 have aa:=F7 atj
 have FM:(bf e2 H d).ownsRow base t 1 (.slice a n c) n (xs.flatMap fb.cells):=by
  obtain⟨aG,aw⟩:=aw
  refine⟨by rw [s3,aG];rfl,?_⟩
  rcases aw with⟨rfl,rfl,rfl⟩|⟨b,cur,rfl,al,aq,av,hm,hs,aW⟩
  ·exact .inl ⟨rfl,rfl⟩
  ·exact .inr ⟨b,c,cur,rfl,al,aq,av,hm,hs,aW⟩
 have FN:n+s.size<=maxLen:=by simp only [maxLen];omega
 have fin:∀gZ w',w'.ownsRow base t 1 gZ (n+s.size) (xs.flatMap fb.cells++Lib.strCells s)->(bf e2 H d).grownBy w' (Value.slice a n c).ownBlock->(∀g hR,gZ=.slice (some ⟨g,0,none⟩) (n+s.size) hR->g∈an a\/H.size<=g)->d.1<=w'.drawn→
   ∃H' d',w'=bf e2 H' d'/\∃a n c,gZ=.slice a n c/\K a n c H':=by
  intro gZ w' jQ ba wU nK
  refine⟨w'.heap,⟨w'.drawn,ax4 d.2 nK⟩,?_,?_⟩
  ·have aL:=ba.os;have a':=ba.tape;have cX:=ba.output
   cases w'
   simp only [bf]at aL a' cX⊢
   subst aL a' cX
   rfl
  ·have qe:Fr (an a) H w'.heap:=⟨ba.size,λk hk ay=>ba.block k hk (by
    cases a with
    |none=>simp [ayx]
    |some aC=>simp only [ayx,ne_eq,Option.some.injEq];intro e;exact ay (by simp [an,e]))⟩
   rw [ati,<-azf]at jQ
   obtain⟨hlen,jQ⟩:=jQ
   have OV:n+s.size=(xs++bd s).length:=by rw [ax6,<-aw.1,dR]
   rcases jQ with⟨rfl,aF⟩|⟨g,cap,cur,rfl,al,aq,av,hm,iF,gv⟩
   ·exact⟨none,0,0,rfl,hk none 0 0 w'.heap ⟨by omega,.inl ⟨rfl,rfl,rfl⟩⟩ qe (λ_ h=>by cases h)⟩
   ·exact⟨_,_,_,rfl,hk _ _ _ w'.heap ⟨OV,.inr ⟨g,cur,rfl,al,aq,av,hm,iF,gv⟩⟩ qe (λk hk=>by simp [an]at hk;subst hk;exact wU _ _ rfl)⟩
 obtain⟨gZ,w',aB,jQ,ba,GY⟩:=Lib.run_append_own_string (P:=P) (bf e2 H d) base ts Ay ty t i hu aa az aE h1 a7 _ n _ FM s FN dF o8
 have wU:(∀g hR,gZ=.slice (some ⟨g,0,none⟩) (n+s.size) hR->g∈an a\/H.size<=g)/\d.1<=w'.drawn:=by
  obtain⟨j6,⟨rfl,rfl,rfl⟩|⟨b,cur,rfl,al,aq,av,hm,iF,gv⟩⟩:=id aw
  ·by_cases jU:s.size=0
   ·have gC:(Builtin.append_ #[ts,Ay] ty #[.slice none 0 0,.string s]).run P (bf e2 H d)=.ok (.slice none 0 0) (bf e2 H d):=by
     have ai:=Lib.run_firstCells_string (P:=P) (bf e2 H d) 1 s
     rw [jU]at ai
     simp [Builtin.append_,eU hu,eU aa,mu az,h1,Builtin.lenOf,jU,ai]
    rw [aB]at gC
    injection gC with aL a'
    refine⟨λg hR aI=> ?_,by rw [a'];exact axx _⟩
    rw [aI]at aL
    cases aL
   ·have gC:=run_append_nil_string (P:=P) (bf e2 H d) ts Ay ty t i (.int .u8 0) hu aa az aE s (by omega) (by omega) (by rw [a7];omega)
    rw [aB]at gC
    injection gC with aL a'
    refine⟨λg hR aI=> ?_,by rw [a'];exact ayy _⟩
    rw [aI]at aL
    injection aL with aL
    injection aL with aL
    injection aL with aL
    exact .inr (ayh aL.symm)
  ·by_cases x0:n+s.size<=c
   ·have gC:=Lib.run_append_room_string (P:=P) (bf e2 H d) ts Ay ty t i hu aa az h1 b n c cur aq s x0 (by rw [iF];show n+s.size<=c*1;omega)
    rw [aB]at gC
    injection gC with aL a'
    refine⟨λg hR aI=> ?_,by rw [a'];exact axx _⟩
    rw [aI]at aL
    injection aL with aL
    injection aL with aL
    injection aL with aL
    exact .inl (by simp [an,aL])
   ·have holds:∀j u,(xs.flatMap fb.cells)[j]?=some u->(bf e2 H d).cell? ((⟨b,0,none⟩:Addr).add j)=some u:=FM.cells (g:=b) rfl
    have gC:=Lib.run_append_grow_string (P:=P) (bf e2 H d) ts Ay ty t i (.int .u8 0) hu aa az aE ⟨b,0,none⟩ n c (xs.flatMap fb.cells) (by rw [s3,j6,h1];rfl) holds s (by omega) (by omega) (by rw [a7];exact growslice_fits (by omega) (by omega))
    rw [aB]at gC
    injection gC with aL a'
    refine⟨λg hR aI=> ?_,by rw [a'];exact ayy _⟩
    rw [aI]at aL
    injection aL with aL
    injection aL with aL
    injection aL with aL
    exact .inr (ayh aL.symm)
 obtain⟨H',d',hw,eL⟩:=fin gZ w' jQ ba wU.1 wU.2
 subst hw
 exact⟨gZ,H',d',aB,eL⟩
theorem U6{t:TypeId}{s:ByteArray}{K:Option Addr->U->Prop}(aW:ya P t=true)
  (hk:∀b H',H.size<=b->H'[b]?=some (.stringIter s 0)->Fr [] H H'->K (some ⟨b,0,none⟩) H'):
  gD P (Instr.range t (.string s)) H λv H'=>∃a,v=.pointer a/\K a H':=by
 intro E d
 have hu:=F7 aW
 refine⟨.pointer (some ⟨H.size,0,none⟩),H.push (.stringIter s 0),d,?_,_,rfl,hk _ _ (axx _) (by simp) ⟨by simp,λk hk _=>by simp [ayg,ay0 hk]⟩⟩
 simp [Instr.range,eU hu,bf]
 rfl
theorem Ek(H:U)(ad:Obj):Fr [] H (H.push ad):=⟨by simp,λk hk _=>by simp [ayg,ay0 hk]⟩
theorem Pl(H:U)(r:Nat)(ad:Obj):Fr [r] H (H.setIfInBounds r ad):=⟨by simp,λk hk ay=>by
 have:r≠k:=λe=>ay (by simp [e])
 simp [this]⟩
theorem U8{ty:TypeId}{s:ByteArray}{r pos:Nat}{X:Value->U->Prop}(h:H[r]?=some (.stringIter s pos))
  (aF:s.size<=pos->X (.tuple ⟨[.bool false]⟩) H)
  (h1:pos<s.size->∀H',H'[r]?=some (.stringIter s (pos+(Utf8.decode s pos).2))->Fr [r] H H'->X (.tuple ⟨[.bool true,.int .i64 pos,.int .i32 (Utf8.decode s pos).1]⟩) H'):
  gD P (Instr.next (.pointer (some ⟨r,0,none⟩)) true ty) H X:=by
 intro E d
 have aB:(bf E H d).heap[r]?=some (.stringIter s pos):=h
 have bQ:=km h
 by_cases aH:pos<s.size
 ·refine⟨_,H.setIfInBounds r (.stringIter s (pos+(Utf8.decode s pos).2)),d,?_,h1 aH _ (by simp [bQ]) (Pl _ _ _)⟩
  have cQ:r<(bf E H d).heap.size:=bQ
  simp [Instr.next,getObj,setObj,axy,aB,aH,goInt]
  simp [bf]
 ·refine⟨_,H,d,?_,aF (by omega)⟩
  simp [Instr.next,getObj,axy,aB,aH]
theorem H5{src dst e:TypeId}{s:ByteArray}{K:Option Addr->Nat->Nat->U->Prop}(hs:ya P src=true)(aR:sliceB P dst e=true)(he:P.underlying e=some (.int .u8))
  (hk:∀b c H',H.size<=b->bt fb H' (some ⟨b,0,none⟩) s.size c (bd s)->Fr [] H H'->K (some ⟨b,0,none⟩) s.size c H'):
  gD P (convert src dst (.string s)) H λv H'=>∃a n c,v=.slice a n c/\K a n c H':=by
 intro E d
 have aB:=run_bytes_of_string (P:=P) (bf E H d) src dst e s (F7 hs) (rI aR) he
 have eZ:s.size<=grownCap (bf E H d) s.size 0 e:=by simpa using grownCap_ge (bf E H d) s.size 0 e
 refine⟨_,H.push (.cells (bytesRow s (grownCap (bf E H d) s.size 0 e)) e ((bytesRow s (grownCap (bf E H d) s.size 0 e)).size,(bytesRow s (grownCap (bf E H d) s.size 0 e)).size+1)),⟨d.1+1,ay1 d.2⟩,aB,_,_,_,rfl,?_⟩
 refine hk H.size _ _ (axx _) ⟨(dR s).symm,eZ,.inr ⟨H.size,0,rfl,λi x aa j v aI=> ?_⟩⟩ ⟨by simp,λk hk _=>by simp [ayg,ay0 hk]⟩
 have bq:j=0/\v=.int .u8 x.toNat:=by
  match j,aI with
  |0,aI=>exact⟨rfl,by simpa [fb]using aI.symm⟩
  |j+1,aI=>simp [fb]at aI
 obtain⟨rfl,rfl⟩:=bq
 have az:i<s.data.size:=by
  have:=(axC.1 aa).1
  simpa using this
 unfold j5
 simp only [Array.getElem?_push_size]
 simp only [azv,axH,if_false,bytesRow]
 have gw:s.data[i]?=some x:=by simpa using aa
 rw [show 0+i*fb.sz+0=i by show 0+i*1+0=i;omega,Array.getElem?_append_left (by simpa using az),Array.getElem?_map,gw]
 rfl
theorem YS:∀(JT:List UInt8) (s:ByteArray),(JT.map λb=>(b.toNat:Int)).foldl (λr n=>r.push (axX n.toNat)) s=s++⟨JT.toArray⟩
 |[],s=>by apply iV;simp [bd]
 |b::JT,s=>by
  rw [axE,ayF,YS JT]
  apply iV
  simp [bd,ByteArray.push]
theorem wo{src dst e:TypeId}{a:Option Addr}{n c:Nat}{K:ByteArray->U->Prop}(hs:sliceB P src e=true)(aR:ya P dst=true)(he:P.underlying e=some (.int .u8))
  (aa:bt fb H a n c xs) (hk:K ⟨xs.toArray⟩ H):
  gD P (convert src dst (.slice a n c)) H λv H'=>∃s,v=.string s/\K s H':=by
 intro E d
 cases a with
 |none=>
  have:xs=[]:=by
   rcases aa.arr with h|⟨b,off,e,_⟩
   ·exact h
   ·cases e
  subst this
  refine⟨.string .empty,H,d,?_,_,rfl,hk⟩
  simp [convert,eU (rI hs),eU (F7 aR),eU he,Conv.bytesToString]
 |some aC=>
  have aG:=aa.len
  have atk:(loadCells aC n).run P (bf E H d)=.ok ((xs.map λb=>(b.toNat:Int)).map (ayZ .u8)).toArray (bf E H d):=by
   rw [List.map_map]
   have fe:∀(j:Nat) (u:Value),(xs.map λb=>ayZ .u8 (b.toNat:Int))[j]?=some u->(bf E H d).cell? (aC.add j)=some u:= ?_
   ·have aF:=run_loadCells_list (P:=P) (bf E H d) aC _ fe
    rw [List.length_map,<-aG]at aF
    exact aF
   intro j u hu
   obtain⟨x,cB,rfl⟩:∃x,xs[j]?=some x/\u=.int .u8 x.toNat:=by
    rw [ayp,Option.map_eq_some_iff]at hu
    obtain⟨x,h1,ab⟩:=hu
    exact⟨x,h1,ab.symm⟩
   obtain⟨b,off,aL,av⟩:=aa.arr.at cB
   simp only [Option.some.injEq]at aL
   subst aL
   have:=av 0 _ rfl
   rw [show off+j*fb.sz+0=off+j by show off+j*1+0=off+j;omega]at this
   rw [Au,lg]
   exact this
  have al:=run_bytesToString (P:=P) (bf E H d) aC n c _ atk
  rw [YS]at al
  have ed:ayV++⟨xs.toArray⟩=(⟨xs.toArray⟩:ByteArray):=by apply iV;simp [bd]
  rw [ed]at al
  refine⟨_,H,d,?_,_,rfl,hk⟩
  simp [convert,eU (rI hs),eU (F7 aR),eU he,al]
def mo(iM:TypeId)(H:U)(b:Nat)(S:List Nat)(xs:List UInt8):Prop:=
 ∃p ad n c dJ,H[b]?=some (.cells ⟨[.pointer p,.slice ad n c]⟩ dJ (0,0))/\((p=none/\dJ=iM)\/p=some ⟨b,0,none⟩)/\Own fb 5 0 H ad n c xs/\S=b::an ad/\b∉an ad
theorem mo.af{H':U}{S T:List Nat}(h:mo iM H b S xs)(ai:Fr T H H')(aR:∀k∈S,k∉T):mo iM H' b S xs:=by
 obtain⟨p,ad,n,c,dJ,h1,ar,a7,rfl,b5⟩:=h
 exact⟨p,ad,n,c,dJ,ai.get h1 (aR _ (by simp)),ar,a7.af ai (λaC e=>aR _ (by simp [e,an])),rfl,b5⟩
theorem mo.ag{H':U}{S:List Nat}(h:mo iM H b S xs)(ai:Fr [] H H'):mo iM H' b S xs:=h.af ai (by simp)
theorem mo.lt{S:List Nat}(h:mo iM H b S xs):∀k∈S,k<H.size:=by
 obtain⟨p,ad,n,c,dJ,h1,ar,a7,rfl,b5⟩:=h
 intro k hk
 rcases axA.1 hk with rfl|hk
 ·exact km h1
 ·exact(a7.ge k hk).2
theorem mo.new{H':U}(h:dV H b (.cells ⟨[.pointer none,.slice none 0 0]⟩ iM) H'):mo iM H' b [b] []:=
 ⟨none,none,0,0,iM,h.get,.inl ⟨rfl,rfl⟩,Own.nil _ _ _ _,rfl,by simp [an]⟩
theorem Cs{w:World}{r:Nat}{cs:Array Value}{t:TypeId}{mB:Nat×Nat}(h:w.heap[r]?=some (.cells cs t mB)):w.shape? r=some (t,cs.size):=by
 unfold World.shape?;rw [h]
structure EM(P:Program)(iM oV tU sh w2 nE:TypeId):Prop where
 ptr:P.underlying oV=some (.pointer iM)
 uns:P.underlying tU=some .unsafePointer
 sz:hy P iM=2
 inf:(P.info? iM).isSome=true
 lies:liesAt P P.depth iM (2/P.cellsOf iM) 0 iM 1=true
 bT:sliceB P sh 5=true
 str:ya P w2=true
 byte:q7 P 5=true
 dC:P.underlying nE=some (.pointer 5)
 c5:P.cellsOf 5=1
 eY:hy P oV=1
 pi:(P.info? oV).isSome=true
 s1:hy P sh=1
 si:(P.info? sh).isSome=true
 ap:nn P oV=false
 pB:nn P sh=false
theorem aiN{oV tU:TypeId}(T:EM P iM oV tU sh w2 nE){cs:Array Value}{mB:Nat×Nat}{X:Value->U->Prop}(h1:H[b]?=some (.cells cs iM mB))(iF:cs.size=2)
  (hk:X (.pointer (some ⟨b,0,none⟩)) H):gD P (convert oV tU (.pointer (some ⟨b,0,none⟩))) H X:=by
 intro E d
 have hs:=T.sz
 unfold hy at hs
 split at hs
 ·rename_i i az
  exact⟨_,H,d,Lib.run_to_unsafe (bf E H d) ⟨b,0,none⟩ T.ptr T.uns az (by omega) (Cs h1) (by rw [iF];exact Nat.zero_lt_succ 1),hk⟩
 ·cases hs
theorem aiO{oV tU:TypeId}(T:EM P iM oV tU sh w2 nE){cs:Array Value}{mB:Nat×Nat}{K:Option Addr->U->Prop}(h1:H[b]?=some (.cells cs iM mB))(iF:cs.size=2)
  (hk:K (some ⟨b,0,none⟩) H):gD P (convert tU oV (.pointer (some ⟨b,0,none⟩))) H λv H'=>∃a,v=.pointer a/\K a H':=by
 intro E d
 have hs:=T.sz
 unfold hy at hs
 split at hs
 ·rename_i i az
  exact⟨_,H,d,Lib.run_from_unsafe (bf E H d) ⟨b,0,none⟩ T.uns T.ptr az (Cs h1) (by rw [iF];exact T.lies),_,rfl,hk⟩
 ·cases hs
theorem U0{oV tU:TypeId}(T:EM P iM oV tU sh w2 nE)(aC:Addr)(x y:Nat):kM P (jk .neq oV (.tmp x) (.tmp y) (.pointer (some aC)) (.pointer (some aC))) (.bool false):=by
 intro w
 have hs:=T.sz
 unfold hy at hs
 split at hs
 ·rename_i i az
  have ab:=Lib.run_neq_ptr_same (P:=P) w aC T.ptr az
  have ba:eqGuard .neq oV (.tmp x) (.tmp y) (.pointer (some aC)) (.pointer (some aC))=pure ():=rfl
  unfold jk
  rw [ba]
  simpa using ab
 ·cases hs
theorem aiM{k:FuncId}{fn:Func}{e:Array Value->Sem Value}{args:Array Value}{v:Value}{K:Value->U->Prop}(ai:P.funcs[k]?=some fn)(atl:(fn.name== "runtime.NumGoroutine")=false)
  (al:fn.body.isNone=true) (ay:Extern.findNext fn=none) (he:Extern.find fn=some e) (aB:∀w:World,(e args).run P w=.ok v w) (hk:K v H):pX P k args H K:=by
 intro E d
 refine⟨v,H,d,?_,hk⟩
 rw [run_callFunc_extern ai atl al ay he,aB]
 rfl
theorem U5{oV tU:TypeId}(T:EM P iM oV tU sh w2 nE){it sty:TypeId}{ad:Option Addr}{n c:Nat}{K L:U->Prop}{ts:Array TypeId}(aw:Own fb 5 0 H ad n c xs)
  (ay:n<=140737488355328) (bZ:∀H',Fr [] H H'->L H') (hk:∀H',Fr (an ad) H H'->K H'):
  gD P (Builtin.unsafeSliceData_ ts nE ⟨[.slice ad n c]⟩) H λv H'=>∃a,v=.pointer a/\L H'/\gD P (Builtin.unsafeString_ ⟨[nE,it]⟩ sty ⟨[.pointer a,.int .i64 n]⟩) H' λv H'=>∃s,v=.string s/\s=⟨xs.toArray⟩/\K H':=by
 intro E d
 obtain⟨aG,⟨rfl,rfl,rfl⟩|⟨g,cur,rfl,al,aq,av,hm,iF,gv⟩⟩:=aw
 ·refine⟨_,H,d,Lib.run_unsafeSliceData_nil (bf E H d) ts nE 0 0,_,rfl,bZ H (Fr.refl _ _),?_⟩
  intro E d
  have:xs=[]:=ayT aG.symm
  subst this
  exact⟨_,H,d,Lib.run_unsafeString_none (bf E H d) nE it sty none,_,rfl,rfl,hk H (Fr.refl _ _)⟩
 ·have np:∀j x,xs[j]?=some x->j5 H ⟨g,j,none⟩=some (.int .u8 x.toNat):=by
   intro j x aa
   have h1:=x9 fb xs j x aa 0 _ rfl
   rw [<-gv,axN]at h1
   split at h1
   ·unfold j5
    rw [aq]
    simp only [azv,axH,if_false]
    rw [<-Array.getElem?_toList]
    rw [show j*fb.sz+0=j by show j*1+0=j;omega]at h1
    exact h1
   ·cases h1
  by_cases y9:c=0
  ·subst y9
   have ou:n=0:=by omega
   subst ou
   have:xs=[]:=ayT aG.symm
   subst this
   refine⟨_,H.push (.view ⟨g,0,none⟩ 5),d,Lib.run_unsafeSliceData_zero (bf E H d) ts nE 5 T.dC ⟨g,0,none⟩ 0 _ (Cs aq),_,rfl,bZ _ (Ek _ _),?_⟩
   intro E d
   exact⟨_,_,d,Lib.run_unsafeString_none (bf E _ d) nE it sty _,_,rfl,rfl,hk _ ((Ek _ _).mono (by simp))⟩
  ·refine⟨_,H,d,Lib.run_unsafeSliceData_row (bf E H d) ts nE ⟨g,0,none⟩ n c y9,_,rfl,bZ H (Fr.refl _ _),?_⟩
   intro E d
   by_cases ou:xs=[]
   ·subst ou
    have:n=0:=aG
    subst this
    exact⟨_,H,d,Lib.run_unsafeString_none (bf E H d) nE it sty _,_,rfl,rfl,hk H (Fr.refl _ _)⟩
   ·have aB:=Lib.run_unsafeString_row (P:=P) (bf E H d) nE it sty 5 T.dC T.c5 g cur.size (Cs aq) xs ou (by rw [iF,<-aG];show n<=c*1;omega) (by rw [<-aG];omega) (λj x aa=>by rw [Au,lg,axJ];exact np j x aa)
    rw [<-aG]at aB
    refine⟨_,((bf E H d).freeze ⟨g,0,none⟩ n).heap,d,aB.trans ?_,_,rfl,rfl,hk _ ?_⟩
    ·unfold World.freeze
     split<;>rfl
    ·unfold World.freeze
     split
     ·exact Fr.refl _ _
     ·exact⟨by simp [bf],λk hk cP=>by
       have:g≠k:=λe=>cP (by simp [an,e])
       simp [bf,ayR,this]⟩
end Go.bk
end
