/- A part of a proof: see the last text of this claim. -/
import Derived.Test.YtlafckjfkaldaaaGreatDoorP3
import Derived.Test.YtlafckjfkaldaaaGreatDoorP1
import Derived.Lib.Bytealg
import Derived.Test.YtlafckjfkaldaaaGreatDoorP2
import Derived.Sort.OwnSorted
import Derived.Shelf.SortM.Plain
import Derived.Shelf.SortM.SortNone
import Derived.Shelf.SlGeneric
import Derived.Shelf.SlSortCmp.WholeK
import Derived.Ground.SlgmProg
import Derived.Ground.SlsfProg
import Derived.Test.YtlafckjfkaldaaaGreatDoorProg
import Derived.Sort.OwnSortedInts
open _root_.Go.Proofs.Tryz renaming prog→atf,underlying3→atA,underlying9→atB,isAgg3→atD,sizeOf3→atE,zeroValue3→atF,isAgg9→atG,sizeOf9→atH,zeroValue9→atI,underlying141→atJ,underlying0→atN,isAgg0→atO,sizeOf0→atP,zeroValue0→atQ,underlying4→atS,isAgg4→atT,sizeOf4→atU,zeroValue4→atV,underlying5→atW,isAgg5→atX,sizeOf5→atY,zeroValue5→atZ,underlying249→at0,isAgg249→at1,sizeOf249→at2,zeroValue249→at3,underlying364→at4,isAgg364→at5,sizeOf364→at6,zeroValue364→at7,underlying365→aua,isAgg365→aub,sizeOf365→auc,zeroValue365→aud,underlying124→aue,isAgg124→auf,sizeOf124→aug,zeroValue124→auh,underlying371→aui,isAgg371→auj,sizeOf371→auk,zeroValue371→aul,underlying89→aum,isAgg89→aun,sizeOf89→auo,zeroValue89→aup,underlying438→auq,isAgg438→aur,sizeOf438→aus,zeroValue438→aut,underlying442→auu,isAgg442→auv,sizeOf442→auw,zeroValue442→auy,underlying488→auz,isAgg488→auA,sizeOf488→auB,zeroValue488→auC,underlying489→auD,isAgg489→auE,sizeOf489→auF,zeroValue489→auG,underlying142→auH,underlying114→au4,zeroValue114→au5,underlying132→au6,zeroValue132→au7,underlying245→avc
open _root_.BitVec renaming ofInt→atg,toNat→ati,ofNat→atC,ofInt_natCast→au1,toNat_ofNat→au2
open _root_.Go.Value renaming cells→atq,int→asK,bool→atp,slice→atK,string→auM
open _root_.List renaming length_append→VH,mem_singleton→ar7,length_cons→asE,mem_cons→o3,take_add_one→ats,take_of_length_le→asG,length_take→apH,mem_of_getElem?→att,mem_append→asU,flatMap_cons→Er,map_cons→qO,length_map→atw,eq_nil_of_length_eq_zero→asF,getElem?_eq_some_iff→qb,length_nil→atc,mem_nil_iff→aty,range→asl,append_assoc→ar8,nodup_iff_pairwise_ne→atL,map_append→as2,cons_append→asx,length_drop→asH,mem_map→ad6,findIdx?_cons→auK,mem_of_mem_take→auL,take_length→asM,take_append_drop→auP,sum_cons→auQ,nodup_append→as3,nil_append→as8,mergeSort_perm→auS,getElem?_cons_succ→arF,pairwise_map→auT,filter_append→auV,getElem?_eq_getElem→asj,findIdx?_append→auW,getElem?_take→Ep,flatMap_append→asY,append_nil→as0,singleton_append→auY,take_append→auZ,getElem?_append_left→asW,nodup_cons→apI,mem_erase_of_ne→au9,length_erase_of_mem→ava,length_pos_of_mem→avb,length_filter_le→avd,mem_cons_of_mem→MY
open _root_.UInt8 renaming ofNat→apK,toNat_ofNat'→atu
open _root_.Go.IntKind renaming wrap→atj,bits→ato,signed→atx
open _root_.Nat renaming lt_or_ge→atv,le_refl→nQ,pow_succ→atz,zero_add→zd,mul_one→atM,pow_le_pow_right→auJ,zero_le→apG,div_lt_iff_lt_mul→auN,le_trans→VF,mod_eq_of_lt→auR,xor_lt_two_pow→au0,le_add_right→au3
open _root_.ByteArray renaming size→ath,empty→asI,toList→atn
open _root_.Int renaming toNat_natCast→asD,fdiv→ate,toNat→atd,fdiv_eq_ediv_of_nonneg→auI,cast_ofNat_Int→auO,tdiv_eq_ediv_of_nonneg→auU
open _root_.Option renaming toList_some→auX
open _root_.Array renaming mem_push→au8
set_option linter.unusedVariables false
set_option maxRecDepth 100000
open Go Go.bs
namespace Go.Proofs
variable{H H':J}{b n k c a i m:Nat}{s:ByteArray}{v:Int}{al:Addr}
theorem b6(h:i<=1000000000000):IntKind.i64.wrap ((i:Int)+1)=((i+1:Nat):Int):=by
 rw [dv (by omega) (by omega)];omega
theorem pJ(h:i<=1000000000000)(aD:0<i):IntKind.i64.wrap ((i:Int)-1)=((i-1:Nat):Int):=by
 rw [dv (by omega) (by omega)];omega
theorem cJ(h:i<n):n-((i+1:Nat):Int).toNat<n-((i:Nat):Int).toNat:=by omega
theorem uT{n:Int}(h:0<=n):IntKind.u8.wrap n=n % 256:=by
 unfold atj
 simp [ato,atx]
theorem iY{n:Int}(h:0<=n)(ae:n<18446744073709551616):IntKind.u64.wrap n=n:=by
 unfold atj
 simp [ato,atx]
 omega
theorem acp:∀m:Nat,m<256->(atC 8 m|||atC 8 128).toNat=m % 128+128:=by decide+kernel
theorem acq(n:Nat)(h:n<256):(n:Int)=((apK n).toNat:Int):=by
 rw [atu]
 omega
theorem oT{K:ByteArray->J->Prop}(ay:n<18446744073709551616)(hk:∀H',Fr [] H H'->K ⟨(cD n).toArray⟩ H'):
  aY atf acr ⟨[.int .u64 n]⟩ H λv H'=>∃s,v=.string s/\K s H':=by
 apply acs
 have je:jC atf 5 1 1=true:=by kernel_rfl
 refine Gg (E:=fQ) ef.bL je (by omega) (by decide) λdU H1 fw b9=> ?_
 refine⟨λvs H'=>match vs with
   |[.int _ m,.slice o p q]=>∃(k:Nat) (xs:List UInt8) (j:Nat),m=k/\Own fQ 5 H.size H' o p q xs/\xs.length=j/\k<128^(10-j)/\j<10/\xs++cD k=cD n/\Fr [] H H'
   |_=>False,
  λvs _=>match vs with|[.int _ m,_]=>m.toNat|_=>0,⟨n,[],0,rfl,fw,rfl,by omega,by omega,rfl,b9⟩,?_⟩
 rintro bm m o p q ao ⟨k,xs,j,rfl,an,a',nz,acu,he,af⟩
 have bh:=an.1
 refine ai (λaD=> ?_) (λaD=> ?_)
 ·have bT:¬k<128:=by simp at aD;omega
  have ah:IntKind.u8.wrap ((ati (atg 8 (IntKind.u8.wrap (k:Int))|||atg 8 128):Nat):Int)=((apK (k % 128+128)).toNat:Int):=by
   rw [uT (n:=(k:Int)) (by omega)]
   have bc:atg 8 ((k:Int) % 256)=atC 8 (k % 256):=by
    rw [show(k:Int) % 256=((k % 256:Nat):Int) by omega];rfl
   have bN:atg 8 128=atC 8 128:=rfl
   rw [bc,bN,acp _ (Nat.mod_lt _ (by omega)),uT (by omega),atu]
   omega
  rw [ah]
  have acv:j<9:=by
   rcases atv j 9 with h|h
   ·exact h
   ·have:j=9:=by omega
    subst this
    simp at nz
    omega
  refine k3 (E:=fQ) (bytes:=1) (apK (k % 128+128)) ef.bL je an af rfl (by omega) λ_ jk jh dm aN fP bt _=> ?_
  have hdiv:ate (k:Int) (2^7)=((k/128:Nat):Int):=by
   rw [auI _ (by decide)]
   omega
  rw [hdiv]
  refine⟨⟨k/128,_,j+1,rfl,fP,by simp [a'],?_,by omega,?_,bt⟩,?_⟩
  ·rw [auN (by omega),<-atz]
   rw [show(10-(j+1)).succ=10-j by omega]
   exact nz
  ·rw [Ad bT]at he
   rw [<-he];simp
  ·show((k/128:Nat):Int).toNat<((k:Nat):Int).toNat
   omega
 ·have bT:k<128:=by simp at aD;omega
  have ah:IntKind.u8.wrap (k:Int)=((apK k).toNat:Int):=by
   rw [uT (by omega),atu]
   omega
  rw [ah]
  refine k3 (E:=fQ) (bytes:=1) (apK k) ef.bL je an af rfl (by omega) λ_ jk jh dm aN fP bt _=> ?_
  rw [qp bT]at he
  rw [he]at fP
  exact zN (e:=5) ef.bL ef.str (by kernel_rfl) fP.bL ⟨_,rfl,hk aN bt⟩
theorem hi(ay:n<18446744073709551616):(cD n).length<=10:=CK 9 n (by omega)
theorem te{K:ByteArray->J->Prop}(hs:s.size<=140737488355328)(hk:∀H',Fr [] H H'->K ⟨(cx s).toArray⟩ H'):
  aY atf acw ⟨[.string s]⟩ H λv H'=>∃s,v=.string s/\K s H':=by
 apply acx
 rw [iY (by omega) (by omega)]
 refine oT (n:=s.size) (by omega) λH' af=> ?_
 have:=hi (n:=s.size) (by omega)
 refine cb (decide_eq_true (by show(cD s.size).length+s.size<=_;omega)) ⟨_,rfl,?_⟩
 have e:(⟨(cD s.size).toArray⟩++s:ByteArray)=⟨(cx s).toArray⟩:=by apply ja;simp [bj,cx]
 rw [e]
 exact hk H' af
theorem acy{K:ByteArray->J->Prop}(ay:n<18446744073709551616)(hk:∀H',Fr [] H H'->K ⟨(cD n).toArray⟩ H'):
  aY atf acz ⟨[.int .u64 n]⟩ H λv H'=>∃s,v=.string s/\K s H':=by
 apply acA
 refine⟨λvs H'=>match vs with
   |[.int _ m,.string s]=>∃(k:Nat),m=k/\k<18446744073709551616/\k<128^(10-s.size)/\s.size<10/\bj s++cD k=cD n/\Fr [] H H'
   |_=>False,
  λvs _=>match vs with|[.int _ m,_]=>m.toNat|_=>0,⟨n,rfl,ay,by show n<128^(10-0);omega,by show 0<10;omega,rfl,Fr.refl _ _⟩,?_⟩
 rintro bm m s ao ⟨k,rfl,aqr,nz,acu,he,af⟩
 have one:∀(x:Nat) (b:Nat) (aF:J) (b3:ByteArray->J->Prop),x<256->ds ao b (.cells ⟨[.int .u8 x]⟩ 5) aF->b3 ⟨#[apK x]⟩ aF->cj atf (convert 209 9 (.slice (some ⟨b,0,none⟩) 1 1)) aF λv H'=>∃s,v=.string s/\b3 s H':=by
  intro x b aF b3 aa aB cP
  have e6:bk fQ aF (some ⟨b,0,none⟩) 1 1 [apK x]:=gd fQ _ aB (by rw [acq x aa];rfl)
  exact zN (e:=5) ef.bL ef.str (by kernel_rfl) e6 cP
 have dC:∀x:Nat,(s++⟨#[apK x]⟩:ByteArray).size=s.size+1:=λx=>by rw [<-c6,kF,VH,c6];rfl
 refine ai (λaD=> ?_) (λaD=> ?_)
 ·have bT:¬k<128:=by simp at aD;omega
  intro b aF aB
  have bc:IntKind.u8.wrap (IntKind.u64.wrap (Int.tmod (k:Int) 128+128))=((k % 128+128:Nat):Int):=by
   have:Int.tmod (k:Int) 128=((k % 128:Nat):Int):=by rw [Int.tmod_eq_emod_of_nonneg (by omega)];omega
   rw [this,iY (by omega) (by omega),uT (by omega)]
   omega
  rw [bc]at aB
  have bN:IntKind.u64.wrap (Int.tdiv (k:Int) 128)=((k/128:Nat):Int):=by
   have:Int.tdiv (k:Int) 128=((k/128:Nat):Int):=by rw [auU (by omega)];omega
   rw [this,iY (by omega) (by omega)]
  rw [bN]
  have acv:s.size<9:=by
   rcases atv s.size 9 with h|h
   ·exact h
   ·have:s.size=9:=by omega
    rw [this]at nz
    simp at nz
    omega
  refine one _ b aF _ (by omega) aB (cb (decide_eq_true (by show s.size+1<=_;omega)) ⟨⟨k/128,rfl,by omega,?_,by rw [dC];omega,?_,af.aw aB.ag⟩,?_⟩)
  ·rw [dC,auN (by omega),<-atz,show(10-(s.size+1)).succ=10-s.size by omega]
   exact nz
  ·rw [Ad bT]at he
   rw [<-he,kF];simp [bj]
  ·show((k/128:Nat):Int).toNat<((k:Nat):Int).toNat
   omega
 ·have bT:k<128:=by simp at aD;omega
  intro b aF aB
  rw [uT (by omega),show(k:Int) % 256=k by omega]at aB
  refine one _ b aF _ (by omega) aB (cb (decide_eq_true (by show s.size+1<=_;omega)) ⟨_,rfl,?_⟩)
  rw [qp bT]at he
  have e:(s++⟨#[apK k]⟩:ByteArray)=⟨(cD n).toArray⟩:=by apply ja;rw [kF];simpa [bj]using he
  rw [e]
  exact hk aF (af.aw aB.ag)
def CL(c:Int):Int:=if c<0 then -1 else if c<=127 then 1 else if c<=2047 then 2 else if 55296<=c/\c<=57343 then -1 else if c<=65535 then 3 else if c<=1114111 then 4 else -1
theorem acB{c:Int}{K:Int->J->Prop}(hk:K (CL c) H):aY atf acC ⟨[.int .i32 c]⟩ H λv H'=>∃n,v=.int .i64 n/\K n H':=by
 apply acD
 unfold CL at hk
 refine ai (λh=>⟨_,rfl,?_⟩) (λh=> ?_)
 ·rwa [if_pos (by simpa using h)]at hk
 rw [if_neg (by simpa using h)]at hk
 refine ai (λh=>⟨_,rfl,?_⟩) (λh=> ?_)
 ·rwa [if_pos (by simpa using h)]at hk
 rw [if_neg (by simpa using h)]at hk
 refine ai (λh=>⟨_,rfl,?_⟩) (λh=> ?_)
 ·rwa [if_pos (by simpa using h)]at hk
 rw [if_neg (by simpa using h)]at hk
 have rest:¬(55296<=c/\c<=57343)->aJ (decide (c<=65535)) (∃n,asK .i64 3=.int .i64 n/\K n H) (aJ (decide (c<=1114111)) (∃n,asK .i64 4=.int .i64 n/\K n H) (∃n,asK .i64 (-1)=.int .i64 n/\K n H)):=λbu=>by
  rw [if_neg bu]at hk
  refine ai (λh=>⟨_,rfl,?_⟩) (λh=> ?_)
  ·rwa [if_pos (by simpa using h)]at hk
  rw [if_neg (by simpa using h)]at hk
  refine ai (λh=>⟨_,rfl,?_⟩) (λh=>⟨_,rfl,?_⟩)
  ·rwa [if_pos (by simpa using h)]at hk
  ·rwa [if_neg (by simpa using h)]at hk
 refine ai (λau=>ai (λa6=>⟨_,rfl,?_⟩) (λa6=>rest ?_)) (λau=>rest ?_)
 ·rwa [if_pos ⟨by simpa using au,by simpa using a6⟩]at hk
 ·simp at a6;omega
 ·simp at au;omega
theorem acE(c:Nat)(h:¬(55296<=c/\c<=57343))(ae:c<=1114111):CL c=sy c:=by
 unfold CL sy
 repeat' split
 all_goals omega
def u'(r:Nat)(s:ByteArray)(H:J):Nat:=match H[r]? with|some (.stringIter _ p)=>s.size-p|_=>0
theorem Ae{r p:Nat}{t:ByteArray}(h:H[r]?=some (.stringIter t p)):u' r s H=s.size-p:=by unfold u';rw [h]
theorem OI{K:Bool->J->Prop}(hk:∀H',Fr [] H H'->K (decide (kX s)) H'):
  aY atf acF ⟨[.string s]⟩ H λv H'=>∃b,v=.bool b/\K b H':=by
 apply acG
 have no:∀H',Fr [] H H'->¬kX s->∃b,atp false=.bool b/\K b H':=λH' af h=>⟨_,rfl,by have:=hk H' af;rwa [decide_eq_false h]at this⟩
 refine⟨λvs H'=>H'=H/\1<=s.size/\s.size<=16,?_,?_⟩
 ·rw [q6]
  refine ai (λh=>no H (Fr.refl _ _) λh'=> ?_) (λh=>ai (λae=>no H (Fr.refl _ _) λh'=> ?_) (λae=>⟨rfl,?_,?_⟩))
  ·have:=of_decide_eq_true h;subst this;have:=h'.1;simp [ath]at this
  ·have:=h'.2.1;simp at ae;omega
  ·have:s.size≠0:=λe=>by
    have au:s=⟨#[]⟩:=by apply ja;show bj s=[];exact asF (by rw [c6];exact e)
    rw [decide_eq_true au]at h;cases h
   omega
  ·simp at ae;omega
 rintro bm H1 ⟨rfl,g1,g2⟩
 refine JZ ef.str λr ao aA ae bt=> ?_
 refine⟨λ_ H'=>∃p,H'[r]?=some (.stringIter s p)/\p<=s.size/\(∀i,i<p->nF (bl s i))/\(0<p->mT (bl s 0))/\Fr [] H1 H',λ_ H'=>u' r s H',⟨0,ae,by omega,λi h=>by omega,λh=>by omega,bt⟩,?_⟩
 rintro bm aF ⟨p,au,bh,dG,P7,bG⟩
 refine J0 au (λzH=>.inl ⟨rfl,_,rfl,?_⟩) (λcF aN a6 bU=>.inr ⟨_,_,rfl,_,rfl,_,rfl,?_⟩)
 ·have:kX s:=⟨g1,g2,P7 (by omega),λi az=>dG i (by omega)⟩
  have:=hk aF bG
  rwa [decide_eq_true ‹kX s›]at this
 have lG:Fr [] H1 aN:=bG.ab bU (λk hk=>by simp at hk;omega)
 have aO:=J1 s p cF
 have aqs:=va s p
 generalize Utf8.decode s p=d at aO a6⊢
 obtain⟨c,w⟩:=d
 obtain⟨_,_,mL,Af,yu⟩:=aO
 simp only at mL Af yu a6⊢
 have Cs:(c<128/\c=bl s p/\w=1)\/(128<=c/\128<=bl s p):=by
  rcases atv c 128 with h|h
  ·exact .inl ⟨h,mL h⟩
  ·refine .inr ⟨h,?_⟩
   rcases atv (bl s p) 128 with h'|h'
   ·have:=Af h';omega
   ·exact h'
 refine⟨λvs H'=>vs=[.bool (decide (mT c))]/\H'=aN,?_,?_⟩
 ·refine ai (λh=>⟨?_,rfl⟩) (λh=>⟨?_,rfl⟩)
  ·simp at h;congr 2;exact decide_eq_decide.2 (by unfold mT;omega)
  ·simp at h;congr 2;exact(decide_eq_false (by unfold mT;omega)).symm
 rintro bm b bw ⟨ah,rfl⟩
 simp only [List.cons.injEq,Value.bool.injEq,and_true]at ah
 subst ah
 have go:nF c->(p=0->mT c)->(∃p,bw[r]?=some (.stringIter s p)/\p<=s.size/\(∀i,i<p->nF (bl s i))/\(0<p->mT (bl s 0))/\Fr [] H1 bw)/\u' r s bw<u' r s aF:=by
  intro ay aH
  have ak:c<128:=by unfold nF at ay;omega
  rcases Cs with⟨_,bc,bN⟩|⟨h,_⟩
  ·subst bN
   refine⟨⟨p+1,a6,by omega,λi az=> ?_,λ_=> ?_,lG⟩,by rw [Ae a6,Ae au];omega⟩
   ·rcases atv i p with h|h
    ·exact dG i h
    ·have:i=p:=by omega
     subst this;rw [<-bc];exact ay
   ·rcases Nat.eq_zero_or_pos p with h|h
    ·subst h;rw [<-bc];exact aH rfl
    ·exact P7 h
  ·omega
 have bad:¬nF c->∃b,atp false=.bool b/\K b bw:=λh=>no bw lG λe1=>h (by
  have:=e1.2.2.2 p cF
  rcases Cs with⟨_,bc,_⟩|⟨_,h'⟩
  ·rwa [bc]
  ·unfold nF at this;omega)
 refine ai (λh=> ?_) (λh=>go ?_ ?_)
 ·have aH:¬mT c:=by simpa using h
  refine ai (λae=>no bw lG λe1=> ?_) (λae=> ?_)
  ·have Gh:p=0:=by
    have ae:(p:Int)=0:=by simpa using ae
    omega
   subst Gh
   have:=e1.2.2.1
   rcases Cs with⟨_,bc,_⟩|⟨_,h'⟩
   ·exact aH (by rwa [bc])
   ·unfold mT at this;omega
  have Gh:p≠0:=λe=>by subst e;simp at ae
  refine ai (λau=> ?_) (λau=>go ?_ (λe=>absurd e Gh))
  ·have au:(c:Int)≠95:=by simpa using au
   refine ai (λa6=>bad ?_) (λa6=>ai (λbu=>bad ?_) (λbu=>go ?_ (λe=>absurd e Gh)))
   ·simp at a6;unfold nF;unfold mT at aH;omega
   ·simp at bu;unfold nF;unfold mT at aH;omega
   ·simp at a6 bu;unfold nF;omega
  ·have au:(c:Int)=95:=by simpa using au
   unfold nF;omega
 ·have:mT c:=by simpa using h
  unfold nF;unfold mT at this;omega
 ·intro _;simpa using h
theorem IQ{K:Bool->J->Prop}(hk:∀H',Fr [] H H'->K (decide (kY s)) H'):
  aY atf acH ⟨[.string s]⟩ H λv H'=>∃b,v=.bool b/\K b H':=by
 apply acI
 refine ai (λh=>⟨_,rfl,?_⟩) (λh=> ?_)
 ·have:¬kY s:=λh'=>by have:=h'.1;simp at h;omega
  have ae:=hk H (Fr.refl _ _)
  rwa [decide_eq_false this]at ae
 have dC:s.size<=32:=by simp at h;omega
 refine JZ ef.str λr ao aA ae bt=> ?_
 refine⟨λvs H'=>match vs with
   |[.int _ n]=>∃(p m:Nat),n=m/\H'[r]?=some (.stringIter s p)/\p<=s.size/\m<=4*p/\((m=p/\mj s 0=mj s p)\/(p<m/\mj s 0=false))/\Fr [] H H'
   |_=>False,λ_ H'=>u' r s H',⟨0,0,rfl,ae,by omega,by omega,.inl ⟨rfl,rfl⟩,bt⟩,?_⟩
 rintro bm n aF ⟨p,m,rfl,au,bh,tv,hm,bG⟩
 refine J0 au (λzH=>.inl ⟨rfl,_,rfl,?_⟩) (λcF aN a6 bU=>.inr ⟨_,_,rfl,_,rfl,?_⟩)
 ·have acJ:p=s.size:=by omega
  have e:((m:Int)==(s.size:Int))=decide (kY s):=by
   rcases hm with⟨h1,ae⟩|⟨h1,ae⟩
   ·have:kY s:=⟨dC,by rw [ae];exact J2 (by omega)⟩
    rw [decide_eq_true this];simp;omega
   ·have:¬kY s:=λh=>by rw [h.2]at ae;cases ae
    rw [decide_eq_false this];simp;omega
  rw [e];exact hk aF bG
 have lG:Fr [] H aN:=bG.ab bU (λk hk=>by simp at hk;omega)
 have aO:=J1 s p cF
 generalize Utf8.decode s p=d at aO a6⊢
 obtain⟨c,w⟩:=d
 obtain⟨tM,mK,mL,Af,yu⟩:=aO
 simp only at tM mK mL Af yu a6⊢
 refine acB ?_
 have key:∃q:Nat,CL c=q/\q<=4/\p+w<=s.size/\((q=w/\mj s p=mj s (p+w))\/(w<q/\mj s p=false)):=by
  by_cases hw:gK s p=0
  ·obtain⟨rfl,rfl⟩:=mK hw
   exact⟨3,by decide,by omega,by omega,.inr ⟨by omega,P8 cF hw⟩⟩
  ·obtain⟨bu,ca⟩:=tM hw
   refine⟨w,?_,?_,by rw [bu];exact J3 cF,.inl ⟨rfl,by rw [bu];exact P9 cF hw⟩⟩
   ·have ak:¬(55296<=c/\c<=57343)/\c<=1114111:=by
     unfold sy at ca
     refine⟨λh=> ?_,?_⟩
     ·rw [if_neg (by omega),if_neg (by omega),if_pos (by omega)]at ca;omega
     ·by_cases ah:c<=1114111
      ·exact ah
      ·rw [if_neg (by omega),if_neg (by omega),if_neg (by omega),if_neg (by omega),if_neg (by omega)]at ca;omega
    rw [acE c ak.1 ak.2,ca]
   ·rw [<-ca];unfold sy;repeat' split
    all_goals omega
 obtain⟨q,a1,aqt,vb,P'⟩:=key
 rw [a1,dv (by omega) (by omega)]
 refine⟨⟨p+w,m+q,by omega,a6,vb,by omega,?_,lG⟩,?_⟩
 ·rcases hm with⟨h1,ae⟩|⟨h1,ae⟩
  ·rcases P' with⟨au,bu⟩|⟨au,bu⟩
   ·exact .inl ⟨by omega,by rw [ae,bu]⟩
   ·exact .inr ⟨by omega,by rw [ae,bu]⟩
  ·refine .inr ⟨?_,ae⟩
   rcases P' with⟨au,bu⟩|⟨au,bu⟩<;>omega
 ·rw [Ae a6,Ae au];omega
theorem acK{K:Bool->J->Prop}(hk:K (decide (kX s)) H):
  aY atf acL ⟨[.string s]⟩ H λv H'=>∃b,v=.bool b/\K b H':=by
 apply acM
 have no:¬kX s->∃b,atp false=.bool b/\K b H:=λh=>⟨_,rfl,by rwa [decide_eq_false h]at hk⟩
 refine⟨λvs H'=>H'=H/\1<=s.size/\s.size<=16/\mT (bl s 0),?_,?_⟩
 ·refine ai (λh=>no λh'=> ?_) (λh=>ai (λae=>no λh'=> ?_) (λae=> ?_))
  ·have:=h'.1;simp at h;omega
  ·have:=h'.2.1;simp at ae;omega
  have g1:1<=s.size:=by simp at h;omega
  refine cb (decide_eq_true (by omega)) (ai (λau=>no λh'=> ?_) (λau=>cb (decide_eq_true (by omega)) (ai (λa6=>no λh'=> ?_) (λa6=>⟨rfl,g1,by simp at ae;omega,?_⟩))))
  ·have:=h'.2.2.1;unfold mT at this;simp at au;omega
  ·have:=h'.2.2.1;unfold mT at this;simp at a6;omega
  ·simp at au a6;unfold mT;omega
 rintro bm H1 ⟨rfl,g1,g2,g3⟩
 refine⟨λvs H'=>match vs with|[.int _ i]=>∃k:Nat,i=k/\k<=s.size/\(∀j,j<k->nF (bl s j))/\H'=H1|_=>False,
  λvs _=>match vs with|[.int _ i]=>s.size-i.toNat|_=>0,⟨0,rfl,by omega,λj h=>by omega,rfl⟩,?_⟩
 rintro bm i ao ⟨k,rfl,hle,dG,rfl⟩
 refine ai (λaD=> ?_) (λaD=>⟨_,rfl,?_⟩)
 ·have bT:k<s.size:=by simpa using aD
  rw [b6 (by omega),asD]
  refine⟨λ_ H'=>H'=ao/\nF (bl s k),?_,?_⟩
  ·refine cb (decide_eq_true (by omega)) ?_
   have bad:¬nF (bl s k)->∃b,atp false=.bool b/\K b ao:=λh=>no λh'=>h (h'.2.2.2 k bT)
   refine ai (λh1=>ai (λae=>ai (λau=>bad ?_) (λau=>⟨rfl,?_⟩)) (λae=>ai (λau=>ai (λa6=>bad ?_) (λa6=>⟨rfl,?_⟩)) (λau=>⟨rfl,?_⟩)))
    (λh1=>ai (λbu=>ai (λae=>ai (λau=>bad ?_) (λau=>⟨rfl,?_⟩)) (λae=>ai (λau=>ai (λa6=>bad ?_) (λa6=>⟨rfl,?_⟩)) (λau=>⟨rfl,?_⟩))) (λbu=>⟨rfl,?_⟩))
   all_goals(simp at *;unfold nF;omega)
  ·rintro bm aF ⟨rfl,ay⟩
   refine⟨⟨k+1,rfl,by omega,λj a'=> ?_,rfl⟩,cJ bT⟩
   rcases atv j k with h|h
   ·exact dG j h
   ·have:j=k:=by omega
    subst this;exact ay
 ·have:kX s:=⟨g1,g2,g3,λi az=>dG i (by simp at aD;omega)⟩
  rwa [decide_eq_true this]at hk
theorem acN{c:Bool}{X Y:Prop}:aJ c X Y↔((c=true->X)/\(c=false->Y)):=by cases c<;>simp [aJ]
theorem acO{K:Int->J->Prop}(hs:0<s.size)(dC:s.size<=1000000000)(hk:K (gK s 0) H):
  aY atf acP ⟨[.string s]⟩ H λv H'=>∃n,v=.int .i64 n/\K n H':=by
 apply acQ
 have ah:=va s 0
 have kp:IntKind.i64.wrap ((bl s 0:Nat):Int)=((bl s 0:Nat):Int):=dv (by omega) (by omega)
 refine cb (decide_eq_true (by omega)) ?_
 simp only [Int.toNat_zero,kp]
 have zero:gK s 0=0->∃n,asK .i64 0=.int .i64 n/\K n H:=λh=>⟨_,rfl,by rw [h]at hk;exact hk⟩
 refine⟨λvs H'=>H'=H/\¬bl s 0<128/\vs=[.int .i64 (hl (bl s 0)),.int .i64 (qF (bl s 0))],?_,?_⟩
 ·refine ai (λh=>⟨_,rfl,?_⟩) (λh=> ?_)
  ·have:gK s 0=1:=by unfold gK;rw [if_pos (by simp at h;omega)]
   rw [this]at hk;exact hk
  have c0:¬bl s 0<128:=by simp at h;omega
  refine⟨λvs H'=>H'=H/\vs=[.bool (decide (192<=bl s 0/\bl s 0<224))],?_,?_⟩
  ·refine ai (λh1=>⟨rfl,?_⟩) (λh1=>⟨rfl,?_⟩)
   ·simp at h1;congr 2;exact decide_eq_decide.2 (by omega)
   ·simp at h1;congr 2;exact(decide_eq_false (by omega)).symm
  rintro bm b H' ⟨rfl,cI⟩
  simp only [List.cons.injEq,Value.bool.injEq,and_true]at cI
  subst cI
  refine ai (λh1=>⟨rfl,c0,?_⟩) (λh1=> ?_)
  ·have h1:=of_decide_eq_true h1
   unfold hl qF
   rw [if_pos h1,if_pos h1,dv (by omega) (by omega)]
   congr 3;omega
  have cW:=of_decide_eq_false h1
  refine⟨λvs cG=>cG=H'/\vs=[.bool (decide (224<=bl s 0/\bl s 0<240))],?_,?_⟩
  ·refine ai (λh1=>⟨rfl,?_⟩) (λh1=>⟨rfl,?_⟩)
   ·simp at h1;congr 2;exact decide_eq_decide.2 (by omega)
   ·simp at h1;congr 2;exact(decide_eq_false (by omega)).symm
  rintro bm b H' ⟨rfl,cI⟩
  simp only [List.cons.injEq,Value.bool.injEq,and_true]at cI
  subst cI
  refine ai (λh1=>⟨rfl,c0,?_⟩) (λh1=> ?_)
  ·have h1:=of_decide_eq_true h1
   unfold hl qF
   rw [if_neg cW,if_pos h1,if_neg cW,if_pos h1,dv (by omega) (by omega)]
   congr 3;omega
  have cr:=of_decide_eq_false h1
  have none:¬(240<=bl s 0/\bl s 0<248)->H'=H'/\¬bl s 0<128/\[asK .i64 0,asK .i64 0]=[.int .i64 (hl (bl s 0)),.int .i64 (qF (bl s 0))]:=λh=>by
   refine⟨rfl,c0,?_⟩
   unfold hl qF
   rw [if_neg cW,if_neg cr,if_neg h,if_neg cW,if_neg cr,if_neg h];rfl
  refine ai (λh1=>ai (λae=>⟨rfl,c0,?_⟩) (λae=>none ?_)) (λh1=>none ?_)
  ·have au:240<=bl s 0/\bl s 0<248:=by simp at h1 ae;omega
   unfold hl qF
   rw [if_neg cW,if_neg cr,if_pos au,if_neg cW,if_neg cr,if_pos au,dv (by omega) (by omega)]
   congr 3;omega
  ·simp at ae;omega
  ·simp at h1;omega
 rintro bm jE iH H1 ⟨rfl,c0,aI⟩
 simp only [List.cons.injEq,Value.int.injEq,true_and,and_true]at aI
 obtain⟨rfl,rfl⟩:=aI
 have cp:hl (bl s 0)<=4:=by
   unfold hl;repeat' split
   all_goals omega
 have aqu:qF (bl s 0)<64:=by
   unfold qF;repeat' split
   all_goals omega
 have qx:gK s 0=if hl (bl s 0)=0\/s.size<0+hl (bl s 0)then 0 else if∀k,k<hl (bl s 0)-1->gf s 0 (k+1)then(if mU (hl (bl s 0)) (j2 s 0 (hl (bl s 0)-1))then 0 else hl (bl s 0))else 0:=by
  unfold gK;rw [if_neg c0]
 generalize hl (bl s 0)=n at *
 refine⟨λ_ H'=>H'=H1/\n≠0/\n<=s.size,?_,?_⟩
 ·refine ai (λh=>zero ?_) (λh=>ai (λae=>zero ?_) (λae=>⟨rfl,?_,?_⟩))
  ·rw [qx,if_pos (.inl (by
    have h:(n:Int)=0:=by simpa using h
    omega))]
  ·rw [qx,if_pos (.inr (by simp at ae;omega))]
  ·intro e;subst e;simp at h
  ·simp at ae;omega
 rintro bm ao ⟨rfl,ns,jY⟩
 rw [if_neg (by omega)]at qx
 refine⟨λvs H'=>match vs with|[.int _ r,.int _ i]=>∃k:Nat,i=((k+1:Nat):Int)/\k+1<=n/\r=(j2 s 0 k:Nat)/\j2 s 0 k<64^(k+1)/\(∀j,j<k->gf s 0 (j+1))/\H'=ao|_=>False,
  λvs _=>match vs with|[_,.int _ i]=>n-i.toNat|_=>0,⟨0,rfl,by omega,rfl,by show qF (bl s 0)<64^1;omega,λj h=>by omega,rfl⟩,?_⟩
 rintro bm r i aF ⟨k,rfl,du,rfl,Gi,ak,rfl⟩
 have F0:k<=3:=by omega
 have acR:j2 s 0 k<16777216:=Nat.lt_of_lt_of_le Gi (by
  have:64^(k+1)<=64^4:=auJ (by omega) (by omega)
  omega)
 refine ai (λaD=> ?_) (λaD=> ?_)
 ·have bT:k+1<n:=by simp at aD;omega
  have cI:=va s (k+1)
  rw [b6 (by omega),asD]
  refine⟨λ_ H'=>H'=aF/\gf s 0 (k+1),?_,?_⟩
  ·have bad:¬gf s 0 (k+1)->∃n,asK .i64 0=.int .i64 n/\K n aF:=λh=>zero (by rw [qx,if_neg λh'=>h (h' k (by omega))])
   have CM:gf s 0 (k+1)↔(128<=bl s (k+1)/\bl s (k+1)<192):=by unfold gf;rw [zd]
   refine cb (decide_eq_true (by omega)) (ai (λh1=>bad ?_) (λh1=>cb (decide_eq_true (by omega)) (ai (λae=>bad ?_) (λae=>⟨rfl,?_⟩))))
   ·rw [CM];simp at h1;omega
   ·rw [CM];simp at ae;omega
   ·rw [CM];simp at h1 ae;omega
  ·rintro bm aN ⟨rfl,rp⟩
   have CM:128<=bl s (k+1)/\bl s (k+1)<192:=by unfold gf at rp;rwa [zd]at rp
   refine cb (decide_eq_true (by omega)) ?_
   have bc:IntKind.i64.wrap (IntKind.i64.wrap (IntKind.i64.wrap ((j2 s 0 k:Nat)*64)+IntKind.i64.wrap ((bl s (k+1):Nat):Int))-128)=((j2 s 0 (k+1):Nat):Int):=by
    rw [dv (n:=(j2 s 0 k:Nat)*64) (by omega) (by omega),dv (n:=(bl s (k+1):Nat)) (by omega) (by omega),dv (n:=(j2 s 0 k:Nat)*64+(bl s (k+1):Nat)) (by omega) (by omega),dv (by omega) (by omega)]
    show _=((j2 s 0 k*64+bl s (0+(k+1))-128:Nat):Int)
    rw [zd]
    omega
   rw [bc]
   refine⟨⟨k+1,rfl,by omega,rfl,?_,λj a'=> ?_,rfl⟩,by show n-((k+1+1:Nat):Int).toNat<n-((k+1:Nat):Int).toNat;omega⟩
   ·show j2 s 0 k*64+bl s (0+(k+1))-128<_
    rw [zd,atz]
    omega
   ·rcases atv j k with h|h
    ·exact ak j h
    ·have:j=k:=by omega
     subst this;exact rp
 ·have u7:k=n-1:=by simp at aD;omega
  subst u7
  rw [if_pos ak]at qx
  generalize j2 s 0 (n-1)=r at *
  have bad:mU n r->∃n,asK .i64 0=.int .i64 n/\K n aF:=λh=>zero (by rw [qx,if_pos h])
  refine⟨λ_ H'=>H'=aF/\¬mU n r,?_,?_⟩
  ·have rA:∀m:Nat,((n:Int)==(m:Int))=decide (n=m):=λm=>by
    by_cases e:n=m
    ·subst e;simp
    ·rw [decide_eq_false e];simp;omega
   have bN:=rA 2
   have dP:=rA 3
   have iZ:=rA 4
   simp only [auO]at bN dP iZ
   rw [bN,dP,iZ]
   clear bN dP iZ rA hk zero qx ak Gi acR kp
   generalize(∃n,asK .i64 0=.int .i64 n/\K n aF)=Z at *
   have acS:(aF=aF/\¬mU n r)↔¬mU n r:=⟨λh=>h.2,λh=>⟨rfl,h⟩⟩
   simp only [acN,decide_eq_true_eq,decide_eq_false_iff_not,acS]
   by_cases ah:mU n r
   ·have aC:=bad ah
    simp only [aC,ah,not_true,imp_false,implies_true,true_and,and_true]
    unfold mU at ah
    omega
   ·simp only [ah,not_false_iff,implies_true,true_and,and_true]
    unfold mU at ah
    clear bad
    refine⟨?_,?_⟩
    all_goals(intros;repeat' (first|apply And.intro|intro _))
    all_goals(exfalso;omega)
  ·rintro bm aN ⟨rfl,yt⟩
   rw [if_neg yt]at qx
   refine⟨_,rfl,?_⟩
   rw [qx]at hk;exact hk
theorem acT{K:Bool->J->Prop}(hk:K (decide (kY s)) H):
  aY atf acU ⟨[.string s]⟩ H λv H'=>∃b,v=.bool b/\K b H':=by
 apply acV
 have no:¬kY s->∃b,atp false=.bool b/\K b H:=λh=>⟨_,rfl,by rwa [decide_eq_false h]at hk⟩
 refine ai (λh=>no λh'=>by have:=h'.1;simp at h;omega) (λh=> ?_)
 have dC:s.size<=32:=by simp at h;omega
 refine⟨λvs H'=>match vs with|[.string t]=>∃p,t=s.extract p s.size/\p<=s.size/\mj s 0=mj s p/\H'=H|_=>False,
  λvs _=>match vs with|[.string t]=>t.size|_=>0,⟨0,by apply ja;rw [vc,<-c6,asM];rfl,by omega,rfl,rfl⟩,?_⟩
 rintro bm t H1 ⟨p,rfl,bh,an,rfl⟩
 refine ai (λaD=> ?_) (λaD=>⟨_,rfl,?_⟩)
 ·have bT:p<s.size:=by rw [vd]at aD;simp at aD;omega
  have hw:=acW s p 0 (by omega)
  rw [Nat.add_zero]at hw
  refine acO (by rw [vd];omega) (by rw [vd];omega) ?_
  rw [hw]
  have hle:=J3 bT
  refine ai (λh1=>no λh'=> ?_) (λh1=> ?_)
  ·have h1:((gK s p:Nat):Int)=0:=by simpa using h1
   have:=P8 bT (by omega)
   rw [<-an,h'.2]at this;cases this
  ·have h1:gK s p≠0:=λe=>by rw [e]at h1;simp at h1
   refine cb (decide_eq_true ?_) ?_
   ·rw [vd];omega
   rw [asD,asD,acX s p _ hle]
   refine⟨⟨_,rfl,hle,?_,rfl⟩,?_⟩
   ·rw [an,P9 bT h1]
   ·show(s.extract (p+gK s p) s.size).size<(s.extract p s.size).size
    rw [vd,vd];omega
 ·have acJ:p=s.size:=by rw [vd]at aD;simp at aD;omega
  have:kY s:=⟨dC,by rw [an];exact J2 (by omega)⟩
  rwa [decide_eq_true this]at hk
def gb:dd gT:=⟨λx=>[.string x.1,.string x.2],2,λ_=>rfl,by decide,λ_ v h=>by simp at h;rcases h with rfl|rfl<;>rfl⟩
theorem W1:jC atf 48 2 32=true:=by kernel_rfl
theorem W0:sliceB atf 44 48=true:=by kernel_rfl
abbrev nD(x:gT):Value:=.agg ⟨[.string x.1,.string x.2]⟩
theorem BA{x:gT}(h:eP H al (gb.cells x)):cR atf 48 H al (nD x):=r' (by kernel_rfl) (by kernel_rfl) h
theorem yv{x:gT}(h:eP H al (gb.cells x)):cR atf 9 H al (.string x.1):=n' (by kernel_rfl) (by have:=h 0 _ rfl;simpa [Addr.add]using this)
theorem w1{x:gT}(h:eP H al (gb.cells x)):cR atf 9 H (al.add 1) (.string x.2):=kt (by kernel_rfl) h (j:=1) rfl
theorem BB{x:gT}{zs:List Value}{K:Nat->J->Prop}(aC:zs.length=2)
  (k:∀b H',H.size<=b->aU H' ⟨b,0,none⟩ [.string x.1,.string x.2]->Fr [] H H'->K b H'):
  ∀b H',ds H b (.cells ⟨zs⟩ 48) H'->∃cv,fb atf 48 H' ⟨b,0,none⟩ (nD x) cv/\K b cv:=
 ia (by kernel_rfl) (by kernel_rfl) (λv h=>by simp [atq]at h;rcases h with rfl|rfl<;>rfl) aC k
theorem _root_.Go.bs.aU.hJ{x y:ByteArray}(h:aU H ⟨b,0,none⟩ [.string x,.string y]):cR atf 9 H ⟨b,0,none⟩ (.string x):=h.b5 (by kernel_rfl) rfl
theorem _root_.Go.bs.aU.s1{x y:ByteArray}(h:aU H ⟨b,0,none⟩ [.string x,.string y]):cR atf 9 H ⟨b,1,none⟩ (.string y):=h.bV (j:=1) (by kernel_rfl) rfl
theorem Gj(s:ByteArray):(s=⟨#[]⟩)↔s.size=0:=⟨λh=>by subst h;rfl,λe=>by apply ja;show bj s=[];exact asF (by rw [c6];exact e)⟩
theorem IS(s t:ByteArray):(Op.bytesLess s.toList t.toList||s.toList==t.toList)= !jn t s:=by
 rw [acY,q6]
 cases h:jn t s with
 |true=>
  rw [acZ h]
  have:¬s=t:=λe=>by subst e;rw [CN]at h;cases h
  simp [this]
 |false=>
  cases ae:jn s t with
  |true=>rfl
  |false=>simp [ac0 ae h]
noncomputable def Ag(l:List gT):Int:=open Classical in if fE l then 0 else 40
theorem zu{l:List gT}(h:¬fE l):Ag l=40:=if_neg h
theorem Bz{l:List gT}(h:fE l):Ag l=0:=if_pos h
theorem Qa{l:List gT}(hk:k=l.length)(h:∀i x y,i+1<k->l[i]?=some x->l[i+1]?=some y->jn x.1 y.1=true):BK l:=λi x y aa av=>h i x y (by
 have:=(qb.1 av).1;omega) aa av
theorem Iq{a:Option Addr}{xs:List gT}{K:Int->J->Prop}(aa:bk gb H a n c xs)(ay:n<=1000000000)(hk:∀H',Fr [] H H'->K (Ag xs) H'):
  aY atf ac1 ⟨[.slice a n c]⟩ H λv H'=>∃e,v=.int .i64 e/\K e H':=by
 apply ac2
 have gE:=aa.len
 have no:∀H',Fr [] H H'->¬fE xs->∃e,asK .i64 40=.int .i64 e/\K e H':=λH' af h=>⟨_,rfl,by have:=hk H' af;rwa [zu h]at this⟩
 refine⟨λvs H'=>match vs with
   |[.string last,.int _ i]=>∃k:Nat,i=k/\k<=n/\(∀x∈xs.take k,pB x)/\(∀i x y,i+1<k->xs[i]?=some x->xs[i+1]?=some y->jn x.1 y.1=true)/\((k=0/\last=⟨#[]⟩)\/∃x,0<k/\xs[k-1]?=some x/\last=x.1)/\Fr [] H H'
   |_=>False,
  λvs _=>match vs with|[_,.int _ i]=>n-i.toNat|_=>0,⟨0,rfl,by omega,by simp,λ_ _ _ h=>by omega,.inl ⟨rfl,rfl⟩,Fr.refl _ _⟩,?_⟩
 rintro bm last i H1 ⟨k,rfl,hle,dG,aA,uW,af⟩
 refine ai (λaD=> ?_) (λaD=> ?_)
 ·have bT:k<n:=by simpa using aD
  have b0:xs[k]?=some (xs[k]'(by omega)):=by simp
  generalize xs[k]'(by omega)=x at b0
  have eC:x∈xs:=att b0
  refine(aa.ab af).get rfl b0 (decide_eq_true (by omega)) λal bS ak=>⟨_,_,BA ak,?_⟩
  refine BB rfl λb ao ah aI bt=> ?_
  have k4:=af.aw bt
  refine⟨λ_ H'=>Fr [] H H'/\aU H' ⟨b,0,none⟩ [.string x.1,.string x.2]/\pB x/\jn last x.1=true,?_,?_⟩
  ·refine⟨_,aI.hJ,OI λaF bG=> ?_⟩
   have q9:=k4.aw bG
   refine ai (λh=>no aF q9 λh'=> ?_) (λh=>⟨_,(aI.ab bG).hJ,?_⟩)
   ·have:=(h'.2.1 x eC).1;simp [this]at h
   have e1:kX x.1:=by simpa using h
   rw [IS]
   refine ai (λh=>no aF q9 λh'=> ?_) (λh=>⟨_,(aI.ab bG).s1,?_⟩)
   ·rcases uW with⟨_,rfl⟩|⟨y,h1,ae,rfl⟩
    ·have au:jn asI x.1=decide (x.1.size≠0):=ac3
     have a6:x.1.size≠0:=by have:=e1.1;omega
     rw [decide_eq_true a6]at au
     have bu:(⟨#[]⟩:ByteArray)=asI:=rfl
     rw [bu,au]at h;cases h
    ·have:=h'.2.2 (k-1) y x ae (by rw [show k-1+1=k by omega];exact b0)
     rw [this]at h;cases h
   have cF:jn last x.1=true:=by simpa using h
   rw [q6]
   refine ai (λh=>no aF q9 λh'=> ?_) (λh=>⟨_,(aI.ab bG).s1,IQ λaN bU=> ?_⟩)
   ·have:=(h'.2.1 x eC).2.2;have h:=of_decide_eq_true h;rw [Gj]at h;omega
   have cH:1<=x.2.size:=by have h:=of_decide_eq_false h;rw [Gj]at h;omega
   refine ai (λh=>no aN (q9.aw bU) λh'=> ?_) (λh=>⟨q9.aw bU,(aI.ab bG).ab bU,⟨e1,by simpa using h,cH⟩,cF⟩)
   have:=(h'.2.1 x eC).2.1;simp [this]at h
  ·rintro bm aF ⟨bG,Gk,gF,cF⟩
   rw [b6 (by omega)]
   refine⟨_,Gk.hJ,⟨k+1,rfl,by omega,?_,?_,.inr ⟨x,by omega,by rw [show k+1-1=k by omega];exact b0,rfl⟩,bG⟩,cJ bT⟩
   ·intro y av
    rw [ats,b0]at av
    rcases asU.1 av with h|h
    ·exact dG y h
    ·simp at h;subst h;exact gF
   ·intro i u w az hu hw
    rcases atv (i+1) k with h|h
    ·exact aA i u w h hu hw
    ·have:i+1=k:=by omega
     subst this
     rw [b0]at hw;cases hw
     rcases uW with⟨h1,_⟩|⟨y,h1,ae,rfl⟩
     ·omega
     ·rw [show i+1-1=i by omega,hu]at ae;cases ae;exact cF
 ·have du:k=n:=by simp at aD;omega
  subst du
  rw [gE,asM]at dG
  refine ai (λh=>no H1 af λh'=> ?_) (λh=>⟨_,rfl,?_⟩)
  ·have:=h'.1;simp at h;omega
  ·have cL:fE xs:=⟨by simp at h;omega,dG,Qa gE aA⟩
   have:=hk H1 af
   rwa [Bz cL]at this
theorem ac4{a:Option Addr}{xs:List gT}{K:Int->J->Prop}(aa:bk gb H a n c xs)(hk:K (Ag xs) H):
  aY atf ac5 ⟨[.slice a n c]⟩ H λv H'=>∃e,v=.int .i64 e/\K e H':=by
 apply ac6
 have gE:=aa.len
 have no:¬fE xs->∃e,asK .i64 40=.int .i64 e/\K e H:=λh=>⟨_,rfl,by rwa [zu h]at hk⟩
 refine ai (λh=>no λh'=>by have:=h'.1;simp at h;omega) (λh=> ?_)
 have jB:n<=8:=by simp at h;omega
 refine⟨λvs H'=>match vs with
   |[.int _ i]=>∃k:Nat,i=k/\k<=n/\(∀x∈xs.take k,pB x)/\(∀i x y,i+1<k->xs[i]?=some x->xs[i+1]?=some y->jn x.1 y.1=true)/\H'=H
   |_=>False,
  λvs _=>match vs with|[.int _ i]=>n-i.toNat|_=>0,⟨0,rfl,by omega,by simp,λ_ _ _ h=>by omega,rfl⟩,?_⟩
 rintro bm i H1 ⟨k,rfl,hle,dG,aA,rfl⟩
 refine ai (λaD=> ?_) (λaD=>⟨_,rfl,?_⟩)
 ·have bT:k<n:=by simpa using aD
  have b0:xs[k]?=some (xs[k]'(by omega)):=by simp
  generalize xs[k]'(by omega)=x at b0
  have eC:x∈xs:=att b0
  refine⟨λ_ H'=>H'=H1/\pB x/\(0<k->∀y,xs[k-1]?=some y->jn y.1 x.1=true),?_,?_⟩
  ·refine aa.get rfl b0 (decide_eq_true (by omega)) λal bS ak=>⟨_,yv ak,acK ?_⟩
   refine ai (λh=>no λh'=> ?_) (λh=> ?_)
   ·have:=(h'.2.1 x eC).1;simp [this]at h
   have e1:kX x.1:=by simpa using h
   refine aa.get rfl b0 (decide_eq_true (by omega)) λal bS ak=>⟨_,w1 ak,acT ?_⟩
   refine ai (λh=>no λh'=> ?_) (λh=> ?_)
   ·have:=(h'.2.1 x eC).2.1;simp [this]at h
   have tn:kY x.2:=by simpa using h
   refine aa.get rfl b0 (decide_eq_true (by omega)) λal bS ak=>⟨_,w1 ak,?_⟩
   rw [q6]
   refine ai (λh=>no λh'=> ?_) (λh=> ?_)
   ·have:=(h'.2.1 x eC).2.2;have h:=of_decide_eq_true h;rw [Gj]at h;omega
   have gF:pB x:=⟨e1,tn,by have h:=of_decide_eq_false h;rw [Gj]at h;omega⟩
   refine ai (λh=> ?_) (λh=>⟨rfl,gF,λh'=>by simp at h;omega⟩)
   have wG:0<k:=by simpa using h
   have jZ:xs[k-1]?=some (xs[k-1]'(by omega)):=by simp
   generalize xs[k-1]'(by omega)=y at jZ
   rw [pJ (by omega) wG]
   refine aa.get rfl b0 (decide_eq_true (by omega)) λal bS ak=>⟨_,yv ak,?_⟩
   refine aa.get rfl jZ (decide_eq_true (by omega)) λbd kE aO=>⟨_,yv aO,?_⟩
   rw [IS]
   refine ai (λh=>no λh'=> ?_) (λh=>⟨rfl,gF,λ_ z aC=> ?_⟩)
   ·have:=h'.2.2 (k-1) y x jZ (by rw [show k-1+1=k by omega];exact b0)
    rw [this]at h;cases h
   ·rw [jZ]at aC;cases aC;simpa using h
  ·rintro bm aF ⟨rfl,gF,cF⟩
   rw [b6 (by omega)]
   refine⟨⟨k+1,rfl,by omega,?_,?_,rfl⟩,cJ bT⟩
   ·intro y av
    rw [ats,b0]at av
    rcases asU.1 av with h|h
    ·exact dG y h
    ·simp at h;subst h;exact gF
   ·intro i u w az hu hw
    rcases atv (i+1) k with h|h
    ·exact aA i u w h hu hw
    ·have:i+1=k:=by omega
     subst this
     rw [b0]at hw;cases hw
     exact cF (by omega) u hu
 ·have du:k=n:=by simp at aD;omega
  subst du
  rw [gE,asM]at dG
  have cL:fE xs:=⟨by omega,dG,Qa gE aA⟩
  rwa [Bz cL]at hk
theorem WR{l:List gT}(h:∀x∈l,pB x):(hr l).length<=50*l.length:=by
 induction l with
 |nil=>simp [hr]
 |cons x l ih=>
  have aa:=h x (by simp)
  have:=ih λy av=>h y (by simp [av])
  unfold pB kX kY at aa
  simp only [hr,Er,VH,asE,cx,c6]at this⊢
  rw [qp (by omega),qp (by omega)]
  simp only [asE,atc]
  omega
theorem ac7{K:Option Addr->Nat->Nat->J->Prop}(ay:n<=140737488355328)
  (hk:∀b (cs:Array Value) H',ds H b (.cells cs 5) H'->n<=cs.size->cs.size<=maxLen->K (some ⟨b,0,none⟩) n cs.size H'):
  qP atf 419 ⟨[.int .i64 (n:Int)]⟩ H λv H'=>∃a n c,v=.slice a n c/\K a n c H':=by
 intro E d
 obtain⟨cs,aA,h1,ae⟩:=Lib.run_makeNoZero (P:=atf) (a8 E H d) #[3] 209 5 (sA ef.bL) n (by omega)
 refine⟨_,H.push (.cells cs 5),⟨d.1+2,VF d.2 (by omega)⟩,?_,_,_,_,rfl,hk H.size cs _ ⟨rfl,rfl⟩ h1 (ae (by simp only [maxLen];omega))⟩
 rw [run_callFunc_extern (fn:=Tryz.f419) Tryz.func419 (by kernel_rfl) (by kernel_rfl) (by kernel_rfl) (e:=Extern.BytealgMakeNoZero.makeNoZero #[3] #[209]) (by kernel_rfl)]
 have hG:(Extern.BytealgMakeNoZero.makeNoZero #[3] #[209] ⟨[.int .i64 (n:Int)]⟩).run atf (a8 E H d)=_:=aA
 rw [hG]
 rfl
theorem ac8{a:Option Addr}{K:Int->J->Prop}(hk:K 0 H):
  cj atf (Builtin.copy_ ⟨[209,209]⟩ 3 ⟨[.slice a 0 c,.slice none 0 0]⟩) H λv H'=>∃n,v=.int .i64 n/\K n H':=by
 intro E d
 obtain⟨i,az,_⟩:=Qb ef.byte
 refine⟨.int .i64 0,H,d,?_,_,rfl,hk⟩
 cases a with
 |none=>simp [Builtin.copy_,eE (sA ef.bL),Builtin.lenOf,mC az,Builtin.firstCells,goInt]
 |some al=>simp [Builtin.copy_,eE (sA ef.bL),Builtin.lenOf,mC az,Builtin.firstCells,goInt,storeCells]
theorem ac9{K:J->Prop}(ah:H[b]?=some (.cells ⟨[.pointer none,.slice none 0 0]⟩ 211 (0,0)))(hm:m<=140737488355328)
  (hk:∀H' S,hI H' b S []->Fr [b] H H'->Grow H [b] S->K H'):
  aY atf ac' ⟨[.pointer (some ⟨b,0,none⟩),.int .i64 (m:Int)]⟩ H λv H'=>v=.tuple ⟨[]⟩/\K H':=by
 apply ada
 have aD:hI H b [b] []:=⟨none,none,0,0,211,ah,.inl ⟨rfl,rfl⟩,Own.nil _ _ _ _,rfl,by simp [ax]⟩
 refine JY aD λH1 o n c eZ h1 ae bI au b9=> ?_
 have an:o=none/\n=0/\c=0:=by
  obtain⟨a6,⟨bu,ca,dJ⟩|⟨g,cur,bu,_⟩⟩:=ae
  ·exact⟨bu,ca,dJ⟩
  ·subst bu;simp [ax]at bI
 obtain⟨rfl,rfl,rfl⟩:=an
 have bK:aU H1 ⟨b,0,none⟩ [.pointer (some ⟨b,0,none⟩),.slice none 0 0]:=⟨b,_,rfl,h1⟩
 refine ai (λh=>by simp at h;omega) (λ_=>⟨_,_,_,bK.ld ef.sx (j:=1) rfl,_,_,_,bK.ld ef.sx (j:=1) rfl,ai (λa6=> ?_) (λa6=> ?_)⟩)
 ·apply adb
  refine⟨_,_,_,bK.ld ef.sx (j:=1) rfl,_,_,_,bK.ld ef.sx (j:=1) rfl,?_⟩
  have e:IntKind.i64.wrap (IntKind.i64.wrap (2*((0:Nat):Int))+(m:Int))=((m:Nat):Int):=by
   rw [dv (n:=2*((0:Nat):Int)) (by omega) (by omega),dv (by omega) (by omega)];omega
  rw [e]
  refine ac7 hm λb2 cs ao bH w2 kL=> ?_
  have w3:=bK.ab bH.ag
  refine⟨w3.ld ef.sx (j:=1) rfl,gC ⟨by omega,by omega,by omega⟩ ⟨_,_,_,w3.ld ef.sx (j:=1) rfl,?_⟩⟩
  refine ac8 ?_
  refine w3.st (j:=1) (v:=.slice (some ⟨b2,0,none⟩) 0 cs.size) ef.s1 ef.si (λx aa=>by simp [atq]at aa;subst aa;rfl) (by simp [atq]) λaF dQ bG=>⟨rfl,rfl,?_⟩
  obtain⟨fO,yr,e,aZ⟩:=dQ
  cases e
  have cF:b<H1.size:=k2 h1
  have b8:b2=H1.size:=bH.eq
  have oX:aF[b2]?=some (.cells cs 5 (0,0)):=bG.get bH.get (by simp;omega)
  refine hk aF [b,b2] ⟨_,some ⟨b2,0,none⟩,0,cs.size,yr,aZ,.inr rfl,⟨rfl,.inr ⟨b2,cs,rfl,apG _,oX,apG _,kL,by show cs.size=cs.size*1;omega,by simp⟩⟩,rfl,by simp [ax];omega⟩ ?_ ?_
  ·exact(b9.trans' bH.ag (T:=[b]) (λk hk _=>hk) (by simp)).trans' bG (λk hk _=>hk) (λk hk _=>hk)
  ·intro k hk
   have:=b9.size
   simp at hk
   rcases hk with rfl|rfl
   ·exact .inl (by simp)
   ·exact .inr (by omega)
 ·exact⟨rfl,hk H1 [b] ⟨_,none,0,0,eZ,h1,.inr rfl,Own.nil _ _ _ _,rfl,by simp [ax]⟩ b9 (Grow.refl _ _)⟩
def nG(sep:List UInt8):List ByteArray->List UInt8
 |[]=>[]
 |x::l=>bj x++l.flatMap λs=>sep++bj s
def hA(l:List ByteArray):Nat:=(l.map ath).sum
theorem Qc{l:List ByteArray}{x:ByteArray}(h:l[k]?=some x):hA (l.take (k+1))=hA (l.take k)+x.size:=by
 unfold hA
 rw [ats,h];simp
theorem Gl(l:List ByteArray)(k:Nat):hA (l.take k)<=hA l:=by
 have:hA l=hA (l.take k)+hA (l.drop k):=by
  unfold hA
  rw [<-List.sum_append,<-as2,auP]
 omega
theorem Qd(sep:List UInt8)(l:List ByteArray):(l.flatMap λs=>sep++bj s).length=l.length*sep.length+hA l:=by
 induction l with
 |nil=>simp [hA]
 |cons x l ih=>
  rw [Er,VH,ih,VH,c6]
  unfold hA
  simp only [qO,auQ,asE,Nat.succ_mul]
  omega
theorem J4{a:Option Addr}{l:List ByteArray}{sep:ByteArray}{K:ByteArray->J->Prop}(aa:bk dT H a n c l)(ay:n<=1000000)(hs:sep.size=1)(q5:hA l<=1000000000)
  (hk:∀H',Fr [] H H'->K ⟨(nG (bj sep) l).toArray⟩ H'):
  aY atf ade ⟨[.slice a n c,.string sep]⟩ H λv H'=>∃s,v=.string s/\K s H':=by
 apply adf
 have gE:=aa.len
 have XD:=aa.cap
 refine ai (λh=> ?_) (λh=>ai (λh1=> ?_) (λh1=> ?_))
 ·have h:(n:Int)=0:=by simpa using h
  have:l=[]:=asF (by omega)
  subst this
  exact⟨_,rfl,hk H (Fr.refl _ _)⟩
 ·have h1:(n:Int)=1:=by simpa using h1
  have k1:l.length=1:=by omega
  match l,k1,aa,hk with
  |[x],_,aa,hk=>
   refine aa.head (decide_eq_true (by omega)) λal bS ak=>⟨_,iq (by kernel_rfl) ak,_,rfl,?_⟩
   have e:(⟨(nG (bj sep) [x]).toArray⟩:ByteArray)=x:=by apply ja;simp [nG,bj]
   have:=hk H (Fr.refl _ _)
   rwa [e]at this
 have bH:2<=n:=by
  have h:(n:Int)≠0:=by simpa using h
  have h1:(n:Int)≠1:=by simpa using h1
  omega
 refine⟨λvs H'=>∃m:Nat,vs=[.int .i64 m]/\m<=1000000/\H'=H,?_,?_⟩
 ·rw [hs]
  refine ai (λ_=> ?_) (λh=>by simp at h)
  have bc:IntKind.i64.wrap ((n:Int)-1)=((n-1:Nat):Int):=by rw [dv (by omega) (by omega)];omega
  rw [bc]
  refine gC (by omega) ?_
  have aO:Int.tdiv 9223372036854775807 ((n-1:Nat):Int)=((9223372036854775807/(n-1):Nat):Int):=by
   rw [auU (by decide)];rfl
  have a1:9223372036854<=9223372036854775807/(n-1):=by
   rw [Nat.le_div_iff_mul_le (by omega)]
   omega
  have Qe:9223372036854775807/(n-1)<=9223372036854775807:=Nat.div_le_self _ _
  rw [aO,dv (by omega) (by omega)]
  refine ai (λh=>by have h:=of_decide_eq_true h;generalize 9223372036854775807/(n-1)=q at *;omega) (λ_=>⟨n-1,?_,by omega,rfl⟩)
  rw [dv (n:=((1:Nat):Int)*((n-1:Nat):Int)) (by omega) (by omega),dv (by omega) (by omega)]
  congr 2;omega
 rintro bm m0 H1 ⟨m,e,hm,rfl⟩
 simp only [List.cons.injEq,Value.int.injEq,true_and,and_true]at e
 subst e
 refine⟨λvs H'=>match vs with|[.int _ t,.int _ i]=>∃(t' k:Nat),t=t'/\i=k/\k<=n/\t'=m+hA (l.take k)/\H'=H1|_=>False,
  λvs _=>match vs with|[_,.int _ i]=>n-i.toNat|_=>0,⟨m,0,rfl,rfl,by omega,by simp [hA],rfl⟩,?_⟩
 rintro bm t i ao ⟨t',k,rfl,rfl,hle,bf,rfl⟩
 have aqv:=Gl l k
 refine ai (λaD=> ?_) (λaD=> ?_)
 ·have bT:k<n:=by simpa using aD
  have b0:l[k]?=some (l[k]'(by omega)):=by simp
  generalize l[k]'(by omega)=x at b0
  have aqw:=Gl l (k+1)
  have eg:=Qc b0
  refine aa.get rfl b0 (decide_eq_true (by omega)) λal bS ak=>⟨_,iq (by kernel_rfl) ak,?_⟩
  rw [dv (n:=9223372036854775807-(t':Int)) (by omega) (by omega)]
  refine ai (λh=>by simp at h;omega) (λ_=> ?_)
  rw [dv (n:=(t':Int)+(x.size:Int)) (by omega) (by omega),b6 (by omega)]
  exact⟨⟨t'+x.size,k+1,by omega,rfl,by omega,by rw [eg,bf];omega,rfl⟩,cJ bT⟩
 ·intro b aF bF
  refine ac9 bF.get (by omega) λaN wM dY bU lD=> ?_
  have F7:b=ao.size:=bF.eq
  have kJ:Fr [] ao aN:=bF.ag.ab bU (λk hk=>by simp at hk;omega)
  have pU:∀k∈wM,ao.size<=k:=λk hk=>by
   rcases lD k hk with h|h
   ·simp at h;omega
   ·have:=bF.size;omega
  match l,gE,aa,hk,q5 with
  |[],gE,_,_,_=>simp at gE;omega
  |x::l,gE,aa,hk,q5=>
  refine(aa.ab kJ).head (decide_eq_true (by omega)) λal bS ak=>⟨_,iq (by kernel_rfl) ak,?_⟩
  have Fs:hA (x::l)=x.size+hA l:=by simp [hA]
  refine r4 dY (by simp;omega) λbw lM dI bW sB=>gC ⟨by omega,by omega,by omega⟩ ?_
  have adg:Fr [] ao bw:=kJ.ab bW pU
  have qG:∀k∈lM,ao.size<=k:=λk hk=>by
   rcases sB k hk with h|h
   ·exact pU k h
   ·have:=kJ.size;omega
  have J5:bk dT ao (dh c 1 1 a) (n-1) (c-1) l:=aa.drop (k:=1) (by omega)
  have oq:l.length=n-1:=by simp at gE;omega
  refine⟨λvs H'=>match vs with|[.int _ i]=>∃(k:Nat) (S:List Nat),i=k/\k<=n-1/\hI H' b S (bj x++(l.take k).flatMap λs=>bj sep++bj s)/\(∀j∈S,ao.size<=j)/\Fr [] ao H'|_=>False,
   λvs _=>match vs with|[.int _ i]=>n-1-i.toNat|_=>0,⟨0,lM,rfl,by omega,by simpa using dI,qG,adg⟩,?_⟩
  rintro bm i bY ⟨k,B',rfl,pH,gj,rB,cB⟩
  have iK:=Qd (bj sep) (l.take k)
  have eo:=Gl l k
  rw [apH,c6,hs]at iK
  have rA:atd (n:Int)-atd 1=n-1:=by omega
  have adh:atd (n:Int)-1=n-1:=by omega
  rw [rA,adh]
  refine ai (λdJ=> ?_) (λdJ=> ?_)
  ·have rC:k<n-1:=by simp at dJ;omega
   have jZ:l[k]?=some (l[k]'(by omega)):=by simp
   generalize l[k]'(by omega)=y at jZ
   have eg:=Qc jZ
   have aqx:=Gl l (k+1)
   refine(J5.ab cB).get rfl jZ (decide_eq_true (by omega)) λal bS ak=>⟨_,iq (by kernel_rfl) ak,?_⟩
   refine r4 gj (by rw [VH,iK,c6];omega) λcC BC ji eJ pC=> ?_
   have Qf:=cB.ab eJ rB
   have tN:∀k∈BC,ao.size<=k:=λk hk=>by
    rcases pC k hk with h|h
    ·exact rB k h
    ·have:=cB.size;omega
   refine r4 ji (by rw [VH,VH,iK,c6,c6];omega) λed J6 oa l8 adi=> ?_
   rw [b6 (by omega)]
   refine⟨⟨k+1,J6,rfl,by omega,?_,λj a'=> ?_,Qf.ab l8 tN⟩,cJ rC⟩
   ·rw [ats,jZ]
    simpa using oa
   ·rcases adi j a' with h|h
    ·exact tN j h
    ·have:=Qf.size;omega
  ·have du:l.take k=l:=asG (by simp at dJ;omega)
   rw [du]at gj iK
   exact r5 gj (by rw [VH,iK,c6];omega) λcC eJ=>⟨_,rfl,hk cC (cB.ab eJ rB)⟩
theorem mh(l:List UInt8):bj ⟨l.toArray⟩=l:=by simp [bj]
theorem eQ(l:List UInt8):(⟨l.toArray⟩:ByteArray).size=l.length:=by rw [<-c6,mh]
theorem qD(s t:ByteArray):(s++t).size=s.size+t.size:=by rw [<-c6,kF,VH,c6,c6]
theorem CO(v:List UInt8):v.length<=(ln v).length/\(ln v).length<=2*v.length:=by
 induction v with
 |nil=>simp [ln]
 |cons b v ih=>
  rw [adj,VH,asE]
  have:(ot b).length=1\/(ot b).length=2:=by
   rcases adk b with⟨e,_⟩|⟨_,e⟩|⟨_,e⟩|⟨_,e⟩<;>rw [e]<;>simp
  omega
theorem CP(v:List UInt8):(pV v).length<=2*v.length+2:=by
 have:=CO v
 unfold pV
 simp only [VH,asE,atc]
 omega
theorem Qg{l:List UInt8}{x:UInt8}(aa:l[k]?=some x):ln (l.take (k+1))=ln (l.take k)++ot x:=by
 rw [ats,aa,adl];simp [ln]
theorem adm{x:UInt8}(h:eP H al (fQ.cells x)):cR atf 5 H al (.int .u8 x.toNat):=iq (by kernel_rfl) h
theorem Ah(x:UInt8)(n:Nat)(h:n<256):((x.toNat:Int)==(n:Int))=decide (x=apK n):=by
 by_cases e:x=apK n
 ·rw [decide_eq_true e];subst e;simp;omega
 ·rw [decide_eq_false e]
  simp
  intro h'
  apply e
  apply UInt8.toNat_inj.1
  rw [atu]
  omega
theorem adn{α:Type}{E:dd α}{xs:List α}(h:bk E H (some ⟨b,0,none⟩) n c xs)(aa:xs≠[]):b<H.size:=by
 obtain⟨fO,off,e,cF⟩:=h.arr.lt aa
 cases e;exact cF
theorem J7{K:ByteArray->J->Prop}(hs:s.size<=1000000000)(hk:∀H',Fr [] H H'->K ⟨(pV (bj s)).toArray⟩ H'):
  aY atf ado ⟨[.string s]⟩ H λv H'=>∃t,v=.string t/\K t H':=by
 apply adp
 intro b H1 aB
 have F7:=aB.eq
 have fi:=c6 s
 refine u9 (x:=34) (l4.new aB) rfl (by simp) λao S2 b8 bt oX=> ?_
 have BT:Fr [] H ao:=aB.ag.ab bt (λk hk=>by simp at hk;omega)
 have tr:∀k∈S2,H.size<=k:=λk hk=>by
  rcases oX k hk with h|h
  ·simp at h;omega
  ·have:=aB.size;omega
 refine B0 ef.str ef.bL (by kernel_rfl) λcX c3 aF dQ B7 bG=> ?_
 have CQ:=b8.ab bG
 have adq:cX∉S2:=λhk=>by have:=b8.lt cX hk;omega
 refine⟨λvs H'=>match vs with|[.int _ i]=>∃(k:Nat) (S:List Nat),i=k/\k<=s.size/\hI H' b S (34::ln ((bj s).take k))/\(∀j∈S,H.size<=j)/\cX∉S/\bk fQ H' (some ⟨cX,0,none⟩) s.size c3 (bj s)/\Fr [] H H'|_=>False,
  λvs _=>match vs with|[.int _ i]=>s.size-i.toNat|_=>0,⟨0,S2,rfl,by omega,CQ,tr,adq,B7,BT.aw bG⟩,?_⟩
 rintro bm i aN ⟨k,wM,rfl,hle,dY,pU,J8,o9,bU⟩
 have Gm:=CO ((bj s).take k)
 rw [apH,fi]at Gm
 refine ai (λaD=> ?_) (λaD=> ?_)
 ·have bT:k<s.size:=by simpa using aD
  have b0:(bj s)[k]?=some ((bj s)[k]'(by omega)):=by simp
  generalize(bj s)[k]'(by omega)=x at b0
  have cH:bj s≠[]:=λe=>by rw [e]at b0;cases b0
  refine o9.get rfl b0 (decide_eq_true (by omega)) λal bS ak=>⟨_,adm ak,?_⟩
  rw [b6 (by omega)]
  have wr:∀{bw:J} {lM:List Nat} {H':J} {S:List Nat} {xs:List UInt8},hI H' b lM xs->(∀j∈S,H.size<=j)->cX∉S->bk fQ bw (some ⟨cX,0,none⟩) s.size c3 (bj s)->Fr [] H bw->Fr S bw H'->Grow bw S lM→
    (∀j∈lM,H.size<=j)/\cX∉lM/\bk fQ H' (some ⟨cX,0,none⟩) s.size c3 (bj s)/\Fr [] H H':=λ{bw lM H' S xs} _ bI Aa aa af dZ aZ=>⟨λj a'=>by
    rcases aZ j a' with h|h
    ·exact bI j h
    ·have:=af.size;omega,λhk=>by
    rcases aZ cX hk with h|h
    ·exact Aa h
    ·have:=adn aa cH;omega,aa.ag dZ (λal e=>by cases e;exact Aa),af.ab dZ bI⟩
  have fin:∀{H':J} {S:List Nat} {xs:List UInt8},hI H' b S xs->xs=34::ln ((bj s).take k)++ot x->((∀j∈S,H.size<=j)/\cX∉S/\bk fQ H' (some ⟨cX,0,none⟩) s.size c3 (bj s)/\Fr [] H H')→
    (∃(o':Nat) (S:List Nat),((k+1:Nat):Int)=o'/\o'<=s.size/\hI H' b S (34::ln ((bj s).take o'))/\(∀j∈S,H.size<=j)/\cX∉S/\bk fQ H' (some ⟨cX,0,none⟩) s.size c3 (bj s)/\Fr [] H H')/\s.size-((k+1:Nat):Int).toNat<s.size-((k:Nat):Int).toNat:=λ{H' S xs} bK e h=>by
   refine⟨⟨k+1,S,rfl,by omega,?_,h.1,h.2.1,h.2.2.1,h.2.2.2⟩,cJ bT⟩
   rw [Qg b0]
   rw [e]at bK
   exact bK
  have CR:=Ah x 10 (by omega)
  have CS:=Ah x 34 (by omega)
  have CT:=Ah x 92 (by omega)
  simp only [auO]at CR CS CT
  rw [CR,CS,CT]
  have Qh:ot x=[92,x]->aY atf 164 ⟨[.pointer (some ⟨b,0,none⟩),.int .u8 92]⟩ aN λv cv=>∃u5,v=u5/\aY atf 164 ⟨[.pointer (some ⟨b,0,none⟩),.int .u8 x.toNat]⟩ cv λv ft=>∃yp,v=yp∧
    (∃(o':Nat) (S:List Nat),((k+1:Nat):Int)=o'/\o'<=s.size/\hI ft b S (34::ln ((bj s).take o'))/\(∀j∈S,H.size<=j)/\cX∉S/\bk fQ ft (some ⟨cX,0,none⟩) s.size c3 (bj s)/\Fr [] H ft)/\s.size-((k+1:Nat):Int).toNat<s.size-((k:Nat):Int).toNat:=λa1=>by
   refine u9 (x:=92) dY rfl (by simp only [asE];omega) λbw lM dI bW sB=> ?_
   obtain⟨g1,g2,g3,g4⟩:=wr dI pU J8 o9 bU bW sB
   refine u9 (x:=x) dI rfl (by simp only [asE,VH,atc];omega) λbY B' gj cB IL=> ?_
   exact fin gj (by rw [a1];simp) (wr gj g1 g2 g3 g4 cB IL)
  have adr:ot x=[x]->aY atf 164 ⟨[.pointer (some ⟨b,0,none⟩),.int .u8 x.toNat]⟩ aN λv cv=>∃u5,v=u5∧
    (∃(o':Nat) (S:List Nat),((k+1:Nat):Int)=o'/\o'<=s.size/\hI cv b S (34::ln ((bj s).take o'))/\(∀j∈S,H.size<=j)/\cX∉S/\bk fQ cv (some ⟨cX,0,none⟩) s.size c3 (bj s)/\Fr [] H cv)/\s.size-((k+1:Nat):Int).toNat<s.size-((k:Nat):Int).toNat:=λa1=>by
   refine u9 (x:=x) dY rfl (by simp only [asE];omega) λbw lM dI bW sB=> ?_
   exact fin dI (by rw [a1]) (wr dI pU J8 o9 bU bW sB)
  refine ai (λh=> ?_) (λh=> ?_)
  ·have h:x=10:=of_decide_eq_true h
   refine r4 dY (by have:(⟨#[92,110]⟩:ByteArray).size=2:=rfl;simp;omega) λbw lM dI bW sB=> ?_
   refine fin dI ?_ (wr dI pU J8 o9 bU bW sB)
   subst h;rfl
  have n10:x≠10:=of_decide_eq_false h
  refine ai (λh=>ai (λh'=>Qh ?_) (λh'=>by rw [h]at h';cases h')) (λh=>ai (λh'=>Qh ?_) (λh'=>adr ?_))
  ·have h:x=34:=of_decide_eq_true h
   subst h;rfl
  ·have h:x=92:=of_decide_eq_true h'
   subst h;rfl
  ·have h1:x≠34:=of_decide_eq_false h
   have ae:x≠92:=of_decide_eq_false h'
   unfold ot
   rw [if_neg h1,if_neg ae,if_neg n10]
 ·have du:(bj s).take k=bj s:=asG (by simp at aD;omega)
  rw [du]at dY Gm
  refine u9 (x:=34) dY rfl (by simp;have:=CO (bj s);omega) λbw lM dI bW sB=> ?_
  have J9:=bU.ab bW pU
  have qG:∀j∈lM,H.size<=j:=λj a'=>by
   rcases sB j a' with h|h
   ·exact pU j h
   ·have:=bU.size;omega
  exact r5 dI (by have:=CO (bj s);simp;omega) λbY cB=>⟨_,rfl,hk bY (J9.ab cB qG)⟩
theorem ads{x:UInt8}(aa:(bj s)[k]?=some x):bj (s.extract k (k+1))=[x]:=by
 rw [vc,ats,aa,List.drop_append]
 have aH:=(qb.1 aa).1
 have h1:((bj s).take k).length=k:=by rw [apH];omega
 rw [List.drop_of_length_le (by omega),h1]
 simp
theorem Qi{K:ByteArray->J->Prop}(hs:s.size<=1000000000)(hk:K ⟨(pV (bj s)).toArray⟩ H):
  aY atf adt ⟨[.string s]⟩ H λv H'=>∃t,v=.string t/\K t H':=by
 apply adu
 have fi:=c6 s
 refine⟨λvs H'=>match vs with|[.string t,.int _ i]=>∃k:Nat,i=k/\k<=s.size/\bj t=ln ((bj s).take k)/\H'=H|_=>False,
  λvs _=>match vs with|[_,.int _ i]=>s.size-i.toNat|_=>0,⟨0,rfl,by omega,rfl,rfl⟩,?_⟩
 rintro bm t i H1 ⟨k,rfl,hle,bf,rfl⟩
 have Gm:=CO ((bj s).take k)
 rw [apH,fi,<-bf,c6]at Gm
 refine ai (λaD=> ?_) (λaD=> ?_)
 ·have bT:k<s.size:=by simpa using aD
  have b0:(bj s)[k]?=some ((bj s)[k]'(by omega)):=by simp
  generalize(bj s)[k]'(by omega)=x at b0
  have yw:bl s k=x.toNat:=B3 (by rw [yc];exact b0)
  rw [asD,yw,b6 (by omega)]
  have CR:=Ah x 10 (by omega)
  have CS:=Ah x 34 (by omega)
  have CT:=Ah x 92 (by omega)
  simp only [auO]at CR CS CT
  rw [CR,CS,CT]
  have fin:∀u:ByteArray,bj u=ot x->(∃o':Nat,((k+1:Nat):Int)=o'/\o'<=s.size/\bj (t++u)=ln ((bj s).take o')/\H1=H1)/\s.size-((k+1:Nat):Int).toNat<s.size-((k:Nat):Int).toNat:=λu hu=>
   ⟨⟨k+1,rfl,by omega,by rw [kF,hu,Qg b0,bf],rfl⟩,cJ bT⟩
  refine gC ⟨by omega,by omega⟩ (ai (λh=> ?_) (λh=>ai (λae=> ?_) (λae=>ai (λau=> ?_) (λau=> ?_))))
  ·have h:x=34:=of_decide_eq_true h
   exact cb (decide_eq_true (by omega)) (fin ⟨#[92,34]⟩ (by subst h;rfl))
  ·have h:x=92:=of_decide_eq_true ae
   exact cb (decide_eq_true (by omega)) (fin ⟨#[92,92]⟩ (by subst h;rfl))
  ·have h:x=10:=of_decide_eq_true au
   exact cb (decide_eq_true (by omega)) (fin ⟨#[92,110]⟩ (by subst h;rfl))
  ·refine gC ⟨by omega,by omega,by omega⟩ ?_
   rw [asD]
   have e:=ads b0
   have es:(s.extract k (k+1)).size=1:=by rw [<-c6,e];rfl
   refine cb (decide_eq_true (by omega)) (fin _ ?_)
   rw [e]
   have cW:x≠34:=of_decide_eq_false h
   have cr:x≠92:=of_decide_eq_false ae
   have fG:x≠10:=of_decide_eq_false au
   unfold ot
   rw [if_neg cW,if_neg cr,if_neg fG]
 ·have du:(bj s).take k=bj s:=asG (by simp at aD;omega)
  rw [du]at bf
  have aqy:(⟨#[34]⟩:ByteArray).size=1:=rfl
  refine cb (decide_eq_true (by omega)) (cb (decide_eq_true (by rw [qD];omega)) ⟨_,rfl,?_⟩)
  have e:(⟨#[34]⟩++t++⟨#[34]⟩:ByteArray)=⟨(pV (bj s)).toArray⟩:=by
   apply ja
   rw [kF,kF,bf,mh];rfl
  rw [e];exact hk
abbrev bX:=List gT
open Classical in
noncomputable def jD(L:List bX)(bP v:ByteArray):List Int:=(L.zipIdx.filter λp=>decide ((bP,v)∈p.1)).map λp=>(p.2:Int)
theorem N7(bP v:ByteArray):jD [] bP v=[]:=rfl
open Classical in
theorem N8(L:List bX)(l:bX)(bP v:ByteArray):jD (L++[l]) bP v=jD L bP v++if(bP,v)∈l then [(L.length:Int)]else []:=by
 unfold jD
 rw [List.zipIdx_append,auV,as2]
 congr 1
 simp only [List.zipIdx_cons,List.zipIdx_nil,zd]
 by_cases h:(bP,v)∈l
 ·simp [h]
 ·simp [h]
def qs(L:List bX)(s:ByteArray):Option Nat:=L.findIdx? λl=>decide (hr l=bj s)
structure q0(L:List bX):Prop where
 nodup:L.Nodup
 da:∀l∈L,fE l
 len:L.length<=200
theorem Fe{L:List bX}(hw:q0 L){l:bX}(aH:fE l):qs L ⟨(hr l).toArray⟩=L.findIdx? (λm=>decide (m=l)):=by
 unfold qs
 have:∀(M:List bX),(∀m∈M,fE m)->M.findIdx? (λm=>decide (hr m=bj ⟨(hr l).toArray⟩))=M.findIdx? (λm=>decide (m=l)):=by
  intro M
  induction M with
  |nil=>intro _;rfl
  |cons m M ih=>
   intro cQ
   have e:decide (hr m=bj ⟨(hr l).toArray⟩)=decide (m=l):=by
    have hm:=cQ m (by simp)
    refine decide_eq_decide.2 ⟨λh=>RF hm.2.1 aH.2.1 (by simpa [bj]using h),λh=>by subst h;simp [bj]⟩
   rw [auK,auK,e,ih λx aa=>cQ x (by simp [aa])]
 exact this L hw.da
noncomputable def ki(L:List bX)(l:bX):Option Nat:=L.findIdx? (λm=>decide (m=l))
noncomputable def BJ(L:List bX)(l:bX):Int:=match ki L l with|some i=>i|none=> -1
theorem Xg{L:List bX}{l:bX}(h:ki L l=some i):L[i]?=some l:=by
 unfold ki at h
 rw [List.findIdx?_eq_some_iff_getElem]at h
 obtain⟨az,h1,_⟩:=h
 rw [asj az]
 simpa using h1
theorem Iu{L:List bX}{l:bX}:ki L l=none↔l∉L:=by
 unfold ki
 rw [List.findIdx?_eq_none_iff]
 simp only [decide_eq_false_iff_not]
 exact⟨λh hm=>h l hm rfl,λh x aa e=>h (e▸aa)⟩
theorem Oc{L:List bX}{l:bX}(s:ByteArray)(cz:qs L ⟨(hr l).toArray⟩=none):qs (L++[l]) s=if s=⟨(hr l).toArray⟩then some L.length else qs L s:=by
 by_cases h:s=⟨(hr l).toArray⟩
 ·rw [if_pos h]
  subst h
  unfold qs at cz⊢
  rw [auW,cz]
  simp [bj,auK]
 ·rw [if_neg h]
  unfold qs
  rw [auW]
  have:decide (hr l=bj s)=false:=by
   refine decide_eq_false λe=>h ?_
   apply ja
   rw [<-e]
  simp only [auK,this,List.findIdx?_nil]
  cases List.findIdx? (λl=>decide (hr l=bj s)) L<;>rfl
open Classical in
noncomputable def q1(L:List bX)(l:bX):List bX:=if fE l/\l∉L/\L.length<200 then L++[l]else L
open Classical in
noncomputable def xY(L:List bX)(l:bX):Int:=if fE l then(match ki L l with|some i=>i|none=>if L.length<200 then L.length else 0)else 0
open Classical in
noncomputable def xZ(L:List bX)(l:bX):Int:=if fE l then(match ki L l with|some _=>0|none=>if L.length<200 then 0 else 2)else 40
theorem On{L:List bX}(hw:q0 L)(l:bX):q0 (q1 L l):=by
 unfold q1
 split
 ·rename_i h
  refine⟨?_,?_,by simp;omega⟩
  ·rw [as3]
   exact⟨hw.nodup,by simp,λa bQ b ah=>by simp at ah;subst ah;exact λe=>h.2.1 (e▸bQ)⟩
  ·intro m hm
   rcases asU.1 hm with h1|h1
   ·exact hw.da m h1
   ·simp at h1;subst h1;exact h.1
 ·exact hw
theorem q0.nil:q0 []:=⟨by simp,by simp,by simp⟩
theorem K7{l:List gT}(h:BK l):∀{i j:Nat} {x y:gT},i<j->l[i]?=some x->l[j]?=some y->jn x.1 y.1=true:=by
 intro i j x y mD aa av
 induction j generalizing y with
 |zero=>omega
 |succ j ih=>
  have a':j<l.length:=by have:=(qb.1 av).1;omega
  have aC:l[j]?=some l[j]:=by simp
  rcases atv i j with h1|h1
  ·exact RC (ih h1 aC) (h j _ _ aC av)
  ·have:i=j:=by omega
   subst this
   exact h i x y aa av
theorem Xb{l:List gT}(h:BK l){x y:gT}(aa:l[k]?=some x)(av:y∈l.take k):y.1≠x.1:=by
 intro e
 obtain⟨i,az⟩:=List.mem_iff_getElem?.1 av
 rw [Ep]at az
 split at az
 ·rename_i K2
  have:=K7 h K2 az aa
  rw [e,CN]at this;cases this
 ·cases az
theorem adv:sliceB atf 114 9=true:=by kernel_rfl
theorem FI:jC atf 9 1 16=true:=by kernel_rfl
def mV(x:gT):ByteArray:=⟨(w4 x).toArray⟩
theorem CU:∀l:bX,ny l=123::nG [44] (l.map mV)++[125]
 |[]=>rfl
 |x::l=>by
  have:∀m:bX,Gn m=((m.map mV).flatMap λs=>[44]++bj s)++[125]:=by
   intro m
   induction m with
   |nil=>rfl
   |cons y m ih=>simp only [Gn,ih,qO,Er,mV,mh];simp
  simp only [ny,this,qO,nG,mV,mh]
  simp
theorem adw(x:gT):(mV x).size=x.1.size+1+(pV (bj x.2)).length:=by
 unfold mV w4
 rw [eQ,VH,asE,c6];omega
theorem adx{x:gT}(h:pB x):(mV x).size<=83:=by
 have:=CP (bj x.2)
 rw [c6]at this
 rw [adw]
 have h1:=h.1.2.1
 have ae:=h.2.1.1
 omega
theorem Qj{l:bX}(h:∀x∈l,pB x):hA (l.map mV)<=83*l.length:=by
 induction l with
 |nil=>simp [hA]
 |cons x l ih=>
  have:=adx (h x (by simp))
  have:=ih λy av=>h y (by simp [av])
  unfold hA at *
  simp only [qO,auQ,asE]
  omega
theorem wH{l:bX}(h:fE l):(ny l).length<=700:=by
 have hx:=h.1
 have hs:=Qj h.2.1
 rw [CU]
 cases l with
 |nil=>simp [nG]
 |cons x l=>
  simp only [qO,nG,asE,VH,c6,atc]
  have:=Qd [44] (l.map mV)
  rw [this]
  simp only [atw,asE,atc]
  simp only [qO,asE,hA,auQ]at hs hx⊢
  omega
theorem OM{a:Option Addr}{l:bX}{K:ByteArray->Int->J->Prop}(aa:bk gb H a n c l)(ay:n<=1000000000)
  (cz:¬fE l->∀H',Fr [] H H'->K ⟨#[]⟩ 40 H') (ff:fE l->∀H',Fr [] H H'->K ⟨(ny l).toArray⟩ 0 H'):
  aY atf ady ⟨[.slice a n c]⟩ H λv H'=>∃s e,v=.tuple ⟨[.string s,.int .i64 e]⟩/\K s e H':=by
 apply adz
 have gE:=aa.len
 refine Iq aa ay λH1 b9=> ?_
 by_cases cL:¬fE l
 ·rw [zu cL]
  exact⟨_,_,rfl,cz cL H1 b9⟩
 have cL:=Classical.not_not.1 cL
 rw [Bz cL]
 have hx:=cL.1
 refine ai (λh=>by simp at h) (λ_=> ?_)
 refine⟨λvs H'=>match vs with
   |[.slice o p q,.int _ i]=>∃k:Nat,i=k/\k<=n/\Own dT 9 H.size H' o p q ((l.take k).map mV)/\Fr [] H H'
   |_=>False,
  λvs _=>match vs with|[_,.int _ i]=>n-i.toNat|_=>0,⟨0,rfl,by omega,Own.nil _ _ _ _,b9⟩,?_⟩
 rintro bm o p q i aF ⟨k,rfl,hle,an,af⟩
 refine ai (λaD=> ?_) (λaD=> ?_)
 ·have bT:k<n:=by simpa using aD
  have b0:l[k]?=some (l[k]'(by omega)):=by simp
  generalize l[k]'(by omega)=x at b0
  have gF:=cL.2.1 x (att b0)
  have a1:=CP (bj x.2)
  rw [c6]at a1
  have adA:=gF.1.2.1
  have adB:=gF.2.1.1
  refine(aa.ab af).get rfl b0 (decide_eq_true (by omega)) λal bS ak=>⟨_,_,BA ak,?_⟩
  refine BB rfl λb1 aN cI aI bU=>⟨_,aI.hJ,cb (decide_eq_true (by omega)) ⟨_,aI.s1,?_⟩⟩
  refine J7 (by omega) λbw bW=>⟨(aI.ab bW).hJ,cb (decide_eq_true ?_) ?_⟩
  ·have bc:(⟨#[61]⟩:ByteArray).size=1:=rfl
   have bN:=eQ (pV (bj x.2))
   have dP:=qD x.1 ⟨#[61]⟩
   omega
  have e:(x.1++⟨#[61]⟩++⟨(pV (bj x.2)).toArray⟩:ByteArray)=mV x:=by
   apply ja
   unfold mV w4
   rw [kF,kF,mh,mh]
   simp [bj]
  rw [e]
  have J9:=(af.aw bU).aw bW
  have dk:=an.1
  rw [atw,apH]at dk
  refine k3 (E:=dT) (mV x) adv FI ((an.ab bU).ab bW) J9 rfl (by omega) λ_ o6 p6 sC bY gw cB _=> ?_
  rw [b6 (by omega)]
  refine⟨⟨k+1,rfl,by omega,?_,cB⟩,cJ bT⟩
  rw [ats,b0,as2]
  exact gw
 ·have du:l.take k=l:=asG (by simp at aD;omega)
  rw [du]at an
  have dk:=an.1
  rw [atw]at dk
  have hs:=Qj cL.2.1
  have nm:=wH cL
  rw [CU]at nm
  simp only [asE,VH,atc]at nm
  refine J4 an.bL (by omega) rfl (by omega) λaN bU=> ?_
  have bc:(⟨#[123]⟩:ByteArray).size=1:=rfl
  have adC:bj (⟨#[44]⟩:ByteArray)=[44]:=rfl
  rw [adC]
  have Gp:=eQ (nG [44] (l.map mV))
  refine cb (decide_eq_true (by omega)) (cb (decide_eq_true (by rw [qD];omega)) ⟨_,_,rfl,?_⟩)
  have e:(⟨#[123]⟩++⟨(nG [44] (l.map mV)).toArray⟩++⟨#[125]⟩:ByteArray)=⟨(ny l).toArray⟩:=by
   apply ja
   rw [kF,kF,mh,mh,CU]
   rfl
  rw [e]
  exact ff cL aN (af.aw bU)
def Ai(l:bX):List UInt8:=123::nG [44] (l.map mV)
theorem Qk{l:bX}{x:gT}(aa:l[k]?=some x):Ai (l.take (k+1))=Ai (l.take k)++(if k=0 then []else [44])++w4 x:=by
 rw [ats,aa]
 unfold Ai
 by_cases hk:k=0
 ·subst hk
  simp [nG,mV,mh]
 ·rw [if_neg hk]
  have cH:l.take k≠[]:=λe=>by
   have:=congrArg List.length e
   rw [apH]at this
   have a6:=(qb.1 aa).1
   have fC:([]:bX).length=0:=rfl
   rw [fC]at this;omega
  cases h:l.take k with
  |nil=>exact absurd h cH
  |cons y m=>
   simp only [asx,qO,as2,nG,asY,auX,List.map_nil,Er,List.flatMap_nil,as0]
   simp [mV,mh]
theorem adD{a:Option Addr}{l:bX}{K:ByteArray->Int->J->Prop}(aa:bk gb H a n c l)
  (cz:¬fE l->K ⟨#[]⟩ 40 H) (ff:fE l->K ⟨(ny l).toArray⟩ 0 H):
  aY atf Ql ⟨[.slice a n c]⟩ H λv H'=>∃s e,v=.tuple ⟨[.string s,.int .i64 e]⟩/\K s e H':=by
 apply adE
 have gE:=aa.len
 refine ac4 aa ?_
 by_cases cL:¬fE l
 ·rw [zu cL]
  exact⟨_,_,rfl,cz cL⟩
 have cL:=Classical.not_not.1 cL
 rw [Bz cL]
 have hx:=cL.1
 have ff:=ff cL
 have bound:∀k,(Ai (l.take k)).length<=700:=λk=>by
  have adF:fE (l.take k):=⟨by rw [apH];omega,λx aa=>cL.2.1 x (auL aa),λi x y aa av=>by
   rw [Ep]at aa av
   split at aa
   ·split at av
    ·exact cL.2.2 i x y aa av
    ·cases av
   ·cases aa⟩
  have:=wH adF
  rw [CU]at this
  unfold Ai
  simp only [asE,VH,atc]at this⊢
  omega
 refine ai (λh=>by simp at h) (λ_=> ?_)
 refine⟨λvs H'=>match vs with
   |[.string t,.int _ i]=>∃k:Nat,i=k/\k<=n/\bj t=Ai (l.take k)/\H'=H
   |_=>False,
  λvs _=>match vs with|[_,.int _ i]=>n-i.toNat|_=>0,⟨0,rfl,by omega,rfl,rfl⟩,?_⟩
 rintro bm t i aF ⟨k,rfl,hle,bf,rfl⟩
 have hy:t.size<=700:=by rw [<-c6,bf];exact bound k
 refine ai (λaD=> ?_) (λaD=> ?_)
 ·have bT:k<n:=by simpa using aD
  have b0:l[k]?=some (l[k]'(by omega)):=by simp
  generalize l[k]'(by omega)=x at b0
  have gF:=cL.2.1 x (att b0)
  have a1:=CP (bj x.2)
  rw [c6]at a1
  have adA:=gF.1.2.1
  have adB:=gF.2.1.1
  have bc:(⟨#[44]⟩:ByteArray).size=1:=rfl
  have bN:(⟨#[61]⟩:ByteArray).size=1:=rfl
  have Gp:=eQ (pV (bj x.2))
  have Ac:∀{Q:Addr->Prop},(∀al,a=some al->eP aF (al.add ((k:Int).toNat *gb.sz)) (gb.cells x)->Q al)->eO a λal=>da (decide ((0:Int)<=k/\(k:Int)<n)) (Q al):=λcP=>aa.get rfl b0 (decide_eq_true (by omega)) cP
  rw [b6 (by omega)]
  refine ai (λh1=> ?_) (λh1=> ?_)
  ·have wG:k≠0:=by simp at h1;omega
   refine cb (decide_eq_true (by omega)) (Ac λal bS ak=>⟨_,yv ak,cb (decide_eq_true (by rw [qD];omega)) (cb (decide_eq_true (by rw [qD,qD];omega)) (Ac λad2 ea2 kL=>⟨_,w1 kL,Qi (by omega) ⟨yv ak,cb (decide_eq_true (by rw [qD,qD,qD];omega)) ⟨⟨k+1,rfl,by omega,?_,rfl⟩,cJ bT⟩⟩⟩))⟩)
   rw [Qk b0,if_neg wG,kF,kF,kF,kF,bf,mh]
   unfold w4
   simp [bj]
  ·have wG:k=0:=by simp at h1;omega
   subst wG
   refine Ac λal bS ak=>⟨_,yv ak,cb (decide_eq_true (by omega)) (cb (decide_eq_true (by rw [qD];omega)) (Ac λad2 ea2 kL=>⟨_,w1 kL,Qi (by omega) ⟨yv ak,cb (decide_eq_true (by rw [qD,qD];omega)) ⟨⟨0+1,rfl,by omega,?_,rfl⟩,cJ bT⟩⟩⟩))⟩
   rw [Qk b0,if_pos rfl,kF,kF,kF,bf,mh]
   unfold w4
   simp [bj]
 ·have du:l.take k=l:=asG (by simp at aD;omega)
  rw [du]at bf
  refine cb (decide_eq_true (by omega)) ⟨_,_,rfl,?_⟩
  have e:(t++⟨#[125]⟩:ByteArray)=⟨(ny l).toArray⟩:=by
   apply ja
   rw [kF,bf,mh,CU];rfl
  rw [e];exact ff
theorem eR{α:Type}{l:List α}(h:i<l.length):∃x,l[i]?=some x:=⟨l[i],asj h⟩
def gW:List UInt8->Nat
 |[]=>0
 |c::r=>c.toNat % 128+128*gW r
theorem Gr:∀(a b:List UInt8),gW (a++b)=gW a+128^a.length*gW b
 |[],b=>by simp [gW]
 |c::a,b=>by
  simp only [asx,gW,Gr a b,asE,atz]
  rw [Nat.mul_add,Nat.add_assoc]
  congr 2
  rw [<-Nat.mul_assoc,Nat.mul_comm 128]
theorem Qq:∀a:List UInt8,gW a<128^a.length
 |[]=>by simp [gW]
 |c::a=>by
  have:=Qq a
  simp only [gW,asE,atz]
  omega
def tO(l:List UInt8):Prop:=∀d∈l,128<=d.toNat
theorem GR:∀(k n:Nat),n<128^(k+1)->∃cT c,cD n=cT++[c]/\tO cT/\c.toNat<128/\(cT≠[]->c.toNat≠0)/\gW (cT++[c])=n
 |k,n,h=>by
  by_cases h1:n<128
  ·refine⟨[],apK n,by rw [qp h1];rfl,λd aO=>(by cases aO),?_,λh=>absurd rfl h,?_⟩
   ·rw [atu];omega
   ·simp only [as8,gW];rw [atu];omega
  ·cases k with
   |zero=>simp at h;omega
   |succ k=>
    obtain⟨cT,c,e,ae,au,a6,bu⟩:=GR k (n/128) (by rw [auN (by omega)];rw [atz]at h;exact h)
    refine⟨apK (n % 128+128)::cT,c,by rw [Ad h1,e];rfl,λd aO=> ?_,au,λ_=> ?_,?_⟩
    ·rcases o3.1 aO with h|h
     ·subst h;rw [atu];omega
     ·exact ae d h
    ·by_cases kq:cT=[]
     ·subst kq
      simp only [as8,gW]at bu
      omega
     ·exact a6 kq
    ·simp only [asx,gW,bu]
     rw [atu];omega
theorem RG(n:Nat):∃k,n<128^(k+1):=⟨n,by
 have:n<128^n:=Nat.lt_pow_self (by omega)
 rw [atz];omega⟩
theorem Qo:∀(cT:List UInt8) (c:UInt8),tO cT->c.toNat<128->(cT≠[]->c.toNat≠0)->cD (gW (cT++[c]))=cT++[c]
 |[],c,_,h,_=>by
  simp only [as8,gW]
  rw [qp (by omega)]
  congr 1
  apply UInt8.toNat.inj
  rw [atu];omega
 |d::cT,c,aq,h,aC=>by
  have aD:c.toNat≠0:=aC (by simp)
  have ih:=Qo cT c (λx aa=>aq x (by simp [aa])) h (λ_=>aD)
  have bh:1<=gW (cT++[c]):=by
   rw [Gr]
   have:1<=128^cT.length:=Nat.pow_pos (by omega)
   have bu:1<=gW [c]:=by simp only [gW];omega
   have:=Nat.mul_le_mul this bu
   omega
  have aO:=aq d (by simp)
  have mK:=d.toNat_lt
  simp only [asx,gW]
  rw [Ad (by omega)]
  have bc:(d.toNat % 128+128*gW (cT++[c]))/128=gW (cT++[c]):=by omega
  rw [bc,ih]
  congr 1
  apply UInt8.toNat.inj
  rw [atu];omega
theorem RH:∀{cT vu:List UInt8} {c aT:UInt8} {t t':List UInt8},tO cT->tO vu->c.toNat<128->aT.toNat<128->cT++c::t=vu++aT::t'->cT=vu/\c=aT/\t=t'
 |[],[],c,aT,t,t',_,_,_,_,e=>by simp at e;exact⟨rfl,e⟩
 |[],d::vu,c,aT,t,t',_,h,h1,_,e=>by
  simp at e
  have:=h d (by simp)
  rw [e.1]at h1;omega
 |d::cT,[],c,aT,t,t',h,_,_,h1,e=>by
  simp at e
  have:=h d (by simp)
  rw [<-e.1]at h1;omega
 |d::cT,d'::vu,c,aT,t,t',h,h',h1,ae,e=>by
  simp only [asx,List.cons.injEq]at e
  obtain⟨bc,bN,dP⟩:=RH (λx aa=>h x (by simp [aa])) (λx aa=>h' x (by simp [aa])) h1 ae e.2
  exact⟨by rw [e.1,bc],bN,dP⟩
theorem Ka{cT t t':List UInt8}{c:UInt8}(aO:tO cT)(ak:c.toNat<128)(e:cT++c::t=cD n++t'):cD n=cT++[c]/\t=t'/\n=gW (cT++[c])/\(cT≠[]->c.toNat≠0):=by
 obtain⟨k,hk⟩:=RG n
 obtain⟨vu,aT,bc,ae,au,a6,bu⟩:=GR k n hk
 rw [bc,ar8,auY]at e
 obtain⟨rfl,rfl,rfl⟩:=RH aO ae ak au e
 exact⟨bc,rfl,bu.symm,a6⟩
theorem Qn{r t:List UInt8}(ay:n<18446744073709551616)(aA:∀d∈r.take 10,128<=d.toNat)(e:r=cD n++t):False:=by
 obtain⟨cT,c,bc,ae,au,a6,bu⟩:=GR 9 n (by omega)
 have aH:=CK 9 n (by omega)
 have:c∈r.take 10:=by
  rw [e,auZ,asG (by omega),bc];simp
 have:=aA c this
 omega
theorem Qr{x y:List UInt8}(e:cD n++x=cD m++y):n=m/\x=y:=by
 obtain⟨k,hk⟩:=RG n
 obtain⟨cT,c,bc,ae,au,a6,bu⟩:=GR k n hk
 rw [bc,ar8,auY]at e
 obtain⟨ca,dJ,hx,_⟩:=Ka ae au e
 exact⟨by rw [<-bu,hx],dJ⟩
def w5(r:List UInt8):Prop:=r.length<10/\tO r
def CV(r:List UInt8):Prop:=∀n,n<18446744073709551616->∀t,r≠cD n++t
theorem w5.no{r:List UInt8}(h:w5 r):CV r:=λn ay t e=>Qn ay (λd aO=>h.2 d (auL aO)) e
def Kb(r:List UInt8)(a:Nat)(v next e:Int):Prop:=
 (∃n:Nat,v=n/\n<18446744073709551616/\r=cD n++r.drop (cD n).length/\(cD n).length<=r.length/\next=((a+(cD n).length:Nat):Int)/\e=0)\/(v=0/\next=0/\e=10/\w5 r)\/(v=0/\next=0/\e=11/\¬w5 r/\CV r)
theorem adG:∀m:Nat,m<256->(atC 8 m&&&atC 8 127).toNat=m % 128:=by decide+kernel
theorem Gq(h:m<18446744073709551616):(atg 64 (m:Int)).toNat=m:=by
 rw [BitVec.toNat_ofInt];omega
theorem J'(k:Nat):2^(7*k)=128^k:=by rw [Nat.pow_mul]
theorem Qm(hk:k<=9)(ak:c<256)(kI:k=9->c<=1):128^k*(c % 128)<9223372036854775808+1:=by
 by_cases h:k=9
 ·subst h
  have:=kI rfl
  omega
 ·have h1:128^k<=128^8:=auJ (by omega) (by omega)
  have ae:128^k*(c % 128)<=128^8*127:=Nat.mul_le_mul h1 (by omega)
  omega
theorem adH(hk:k<=9)(ak:c<256)(kI:k=9->c<=1)(ay:n<128^k):
  IntKind.u64.wrap ((ati (atg 64 (n:Int)|||atg 64 (IntKind.u64.wrap (IntKind.u64.wrap (IntKind.u8.wrap ((ati (atg 8 (c:Int)&&&atg 8 127):Nat):Int))*2^min (atd (IntKind.u64.wrap (IntKind.i64.wrap (7*(k:Int))))) 64))):Nat):Int)=((n+128^k*(c % 128):Nat):Int):=by
 have bc:(atg 8 (c:Int)&&&atg 8 127).toNat=c % 128:=adG c ak
 have bN:atd (IntKind.u64.wrap (IntKind.i64.wrap (7*(k:Int))))=7*k:=by
  rw [dv (by omega) (by omega),iY (by omega) (by omega)];omega
 have af:=Qm hk ak kI
 have adI:128^k<=128^9:=auJ (by omega) hk
 rw [bc,bN,uT (by omega),show((c % 128:Nat):Int) % 256=((c % 128:Nat):Int) by omega,iY (n:=((c % 128:Nat):Int)) (by omega) (by omega),Nat.min_eq_left (by omega)]
 have dP:((c % 128:Nat):Int)*2^(7*k)=((128^k*(c % 128):Nat):Int):=by
  rw [<-J']
  push_cast
  rw [Int.mul_comm]
 rw [dP,iY (n:=((128^k*(c % 128):Nat):Int)) (by omega) (by omega),BitVec.toNat_or,Gq (by omega),Gq (by omega)]
 have iZ:n|||128^k*(c % 128)=n+128^k*(c % 128):=by
  rw [Nat.or_comm,Nat.add_comm,<-J']
  rw [<-J']at ay
  exact(Nat.two_pow_add_eq_or_of_lt ay _).symm
 rw [iZ,iY (by omega) (by omega)]
theorem adJ{cT t:List UInt8}{c:UInt8}(aO:tO cT)(aH:cT.length=9)(ak:1<c.toNat):¬w5 (cT++c::t)/\CV (cT++c::t):=by
 refine⟨λh=>by have:=h.1;simp at this;omega,λn ay t' e=> ?_⟩
 by_cases h:c.toNat<128
 ·obtain⟨_,_,au,_⟩:=Ka aO h e
  rw [Gr,aH]at au
  simp only [gW]at au
  omega
 ·refine Qn ay (λd hd'=> ?_) e
  rw [show cT++c::t=(cT++[c])++t by simp,auZ,asG (by simp;omega)]at hd'
  rw [show 10-(cT++[c]).length=0 by simp;omega]at hd'
  simp at hd'
  rcases hd' with h|h
  ·exact aO d h
  ·subst h;omega
theorem adK{cT t:List UInt8}{c:UInt8}(aO:tO cT)(aH:cT≠[])(ak:c.toNat=0):¬w5 (cT++c::t)/\CV (cT++c::t):=by
 refine⟨λh=> ?_,λn ay t' e=> ?_⟩
 ·have:=h.2 c (by simp);omega
 ·obtain⟨_,_,_,a6⟩:=Ka aO (by omega) e
  exact a6 aH ak
theorem adL{cT t:List UInt8}{c:UInt8}(aO:tO cT)(ak:c.toNat<128)(aC:cT≠[]->c.toNat≠0)(aI:gW (cT++[c])<18446744073709551616):Kb (cT++c::t) a (gW (cT++[c]):Nat) ((a+cT.length+1:Nat):Int) 0:=by
 have e:=Qo cT c aO ak aC
 refine .inl ⟨gW (cT++[c]),rfl,aI,?_,?_,?_,rfl⟩
 ·rw [e];simp
 ·rw [e];simp
 ·rw [e];simp;omega
theorem adM(h:a+k<s.size):∃c:UInt8,(bj s).drop a=((bj s).drop a).take k++c::((bj s).drop a).drop (k+1)/\c.toNat=bl s (a+k)/\((bj s).drop a)[k]?=some c:=by
 obtain⟨c,h1,ae⟩:=Nq h
 rw [yc]at h1
 have au:((bj s).drop a)[k]?=some c:=by rw [List.getElem?_drop];exact h1
 refine⟨c,?_,ae,au⟩
 obtain⟨hk,e⟩:=qb.1 au
 rw [<-e,List.getElem_cons_drop,auP]
theorem Jn{at':Int}{K:Int->Int->Int->J->Prop}(hs:s.size<=100000000000)(Gs:¬(0<=at'/\at'<=s.size)->K 0 0 1 H)
  (hk:∀a:Nat,at'=a->a<=s.size->∀v n e,Kb ((bj s).drop a) a v n e->K v n e H):
  aY atf Qp ⟨[.string s,.int .i64 at']⟩ H λv H'=>∃n m e,v=.tuple ⟨[.int .u64 n,.int .i64 m,.int .i64 e]⟩/\K n m e H':=by
 apply adN
 refine⟨λvs H'=>vs=[.int .u64 0]/\H'=H/\0<=at'/\at'<=s.size,?_,?_⟩
 ·refine ai (λh=>⟨_,_,_,rfl,Gs ?_⟩) (λh=>ai (λae=>⟨_,_,_,rfl,Gs ?_⟩) (λae=>⟨rfl,rfl,?_,?_⟩))
  ·simp at h;omega
  ·simp at ae;omega
  ·simp at h;omega
  ·simp at ae;omega
 rintro bm m0 H1 ⟨fC,rfl,aD,aqz⟩
 simp only [List.cons.injEq,Value.int.injEq,true_and,and_true]at fC
 subst fC
 obtain⟨a,rfl⟩:∃a:Nat,at'=a:=⟨at'.toNat,by omega⟩
 have hk:=hk a rfl (by omega)
 have ry:((bj s).drop a).length=s.size-a:=by rw [asH,c6]
 generalize aA:(bj s).drop a=r at hk ry
 refine⟨λvs H'=>match vs with
   |[.int _ m,.int _ i]=>∃k:Nat,i=k/\k<=9/\k<=r.length/\m=((gW (r.take k):Nat):Int)/\tO (r.take k)/\H'=H1
   |_=>False,
  λvs _=>match vs with|[_,.int _ i]=>10-i.toNat|_=>0,⟨0,rfl,by omega,by omega,by simp [gW],λd aO=>by simp at aO,rfl⟩,?_⟩
 rintro bm m i ao ⟨k,rfl,Kc,uM,rfl,aq,rfl⟩
 have kp:IntKind.i64.wrap ((a:Int)+k)=((a+k:Nat):Int):=by rw [dv (by omega) (by omega)];omega
 rw [kp]
 refine ai (λ_=> ?_) (λh=>by simp at h;omega)
 refine ai (λh1=>⟨_,_,_,rfl,hk _ _ _ (.inr (.inl ⟨rfl,rfl,rfl,?_,?_⟩))⟩) (λh1=> ?_)
 ·have:a+k=s.size:=by simp at h1;omega
  omega
 ·have:a+k=s.size:=by simp at h1;omega
  rwa [asG (by omega)]at aq
 have cF:a+k<s.size:=by simp at h1;omega
 obtain⟨c,w2,kL,pa⟩:=adM cF
 rw [aA]at w2 pa
 refine cb (decide_eq_true (by omega)) ?_
 rw [asD,<-kL]
 have sv:(r.take k).length=k:=by rw [apH];omega
 have cH:0<k->r.take k≠[]:=λh e=>by rw [e]at sv;simp at sv;omega
 have kU:=c.toNat_lt
 refine⟨λvs H'=>vs=[.int .u64 ((gW (r.take k):Nat):Int)]/\H'=ao/\(k=9->c.toNat<=1)/\(0<k->c.toNat≠0),?_,?_⟩
 ·have zero:¬(k=9/\1<c.toNat)->aJ (((c.toNat:Int))==0) (aJ (decide ((k:Int)>0)) (∃n m e,Value.tuple ⟨[.int .u64 0,.int .i64 0,.int .i64 11]⟩=.tuple ⟨[.int .u64 n,.int .i64 m,.int .i64 e]⟩/\K n m e ao)
    ([asK .u64 ((gW (r.take k):Nat):Int)]=[.int .u64 ((gW (r.take k):Nat):Int)]/\ao=ao/\(k=9->c.toNat<=1)/\(0<k->c.toNat≠0)))
    ([asK .u64 ((gW (r.take k):Nat):Int)]=[.int .u64 ((gW (r.take k):Nat):Int)]/\ao=ao/\(k=9->c.toNat<=1)/\(0<k->c.toNat≠0)):=λcz=>by
   refine ai (λae=>ai (λau=>⟨_,_,_,rfl,hk _ _ _ ?_⟩) (λau=>⟨rfl,rfl,λ_=>by simp at ae;omega,λh=>by simp at au;omega⟩)) (λae=>⟨rfl,rfl,λ_=>by omega,λ_=>by simp at ae;omega⟩)
   rw [w2]
   have:=adK (t:=r.drop (k+1)) aq (cH (by simp at au;omega)) (c:=c) (by simp at ae;omega)
   exact .inr (.inr ⟨rfl,rfl,rfl,this⟩)
  refine ai (λae=>ai (λau=>⟨_,_,_,rfl,hk _ _ _ ?_⟩) (λau=>zero (by simp at au;omega))) (λae=>zero (by simp at ae;omega))
  rw [w2]
  have:=adJ (t:=r.drop (k+1)) aq (by simp at ae;omega) (c:=c) (by simp at au;omega)
  exact .inr (.inr ⟨rfl,rfl,rfl,this⟩)
 rintro bm m aF ⟨dP,rfl,kI,aC⟩
 simp only [List.cons.injEq,Value.int.injEq,true_and,and_true]at dP
 subst dP
 have qz:=Qq (r.take k)
 rw [sv]at qz
 rw [adH Kc kU kI qz]
 have tP:=Qm Kc kU kI
 have adI:128^k<=128^9:=auJ (by omega) Kc
 have iZ:gW (r.take k)+128^k*(c.toNat % 128)=gW (r.take k++[c]):=by
  rw [Gr,sv]
  simp [gW]
 rw [iZ]
 refine cb (decide_eq_true ?_) ?_
 ·rw [dv (n:=7*(k:Int)) (by omega) (by omega),iY (by omega) (by omega)];omega
 refine ai (λbu=> ?_) (λbu=> ?_)
 ·have yx:c.toNat<128:=by simp at bu;omega
  have:=adL (t:=r.drop (k+1)) (a:=a) aq yx (λh=>aC (by cases k with|zero=>simp at h|succ k=>omega)) (by rw [<-iZ];omega)
  rw [<-w2,sv]at this
  rw [b6 (by omega)]
  exact⟨_,_,_,rfl,hk _ _ _ this⟩
 ·have yx:128<=c.toNat:=by simp at bu;omega
  rw [b6 (by omega)]
  have je:r.take (k+1)=r.take k++[c]:=by rw [ats,pa];rfl
  refine⟨⟨k+1,rfl,by omega,by omega,by rw [je],?_,rfl⟩,cJ (by omega)⟩
  rw [je]
  intro d aO
  rcases asU.1 aO with h|h
  ·exact aq d h
  ·simp at h;subst h;exact yx
def Kd(r:List UInt8):Prop:=w5 r\/∃n,n<18446744073709551616/\∃t,r=cD n++t/\t.length<n
def GT(r:List UInt8)(a:Nat)(t:ByteArray)(next e:Int):Prop:=
 (r=cx t++r.drop (cx t).length/\(cx t).length<=r.length/\next=((a+(cx t).length:Nat):Int)/\e=0)\/(t=⟨#[]⟩/\next=0/\e=10/\Kd r)\/(t=⟨#[]⟩/\next=0/\e=11/\¬w5 r/\CV r)
theorem GT.bad{r:List UInt8}{next e:Int}(h:Kb r a v next e)(he:e≠0):GT r a ⟨#[]⟩ 0 e:=by
 rcases h with⟨n,_,_,_,_,_,h⟩|⟨_,_,h,h1⟩|⟨_,_,h,h1⟩
 ·exact absurd h he
 ·exact .inr (.inl ⟨rfl,rfl,h,.inl h1⟩)
 ·exact .inr (.inr ⟨rfl,rfl,h,h1⟩)
theorem Kd.no{r x:List UInt8}(h:Kd r)(t:ByteArray)(bf:t.size<18446744073709551616):r≠cx t++x:=by
 intro e
 unfold cx at e
 rw [ar8]at e
 rcases h with h|⟨n,ay,t',h1,ae⟩
 ·exact h.no _ bf _ e
 ·obtain⟨bc,bN⟩:=Qr (h1.symm.trans e)
  rw [bN,VH,c6]at ae
  omega
theorem OS{t:ByteArray}{x y:List UInt8}(h:cx s++x=cx t++y):s=t/\x=y:=by
 unfold cx at h
 rw [ar8,ar8]at h
 obtain⟨bc,bN⟩:=Qr h
 have:=List.append_inj bN (by rw [c6,c6,bc])
 exact⟨ja this.1,this.2⟩
theorem OW{t:ByteArray}{r:List UInt8}(h:(cx t).length<=r.length):t.size<=r.length:=by
 unfold cx at h
 rw [VH,c6]at h;omega
theorem OY{at':Int}{K:ByteArray->Int->Int->J->Prop}(hs:s.size<=100000000000)(Gs:¬(0<=at'/\at'<=s.size)->K ⟨#[]⟩ 0 1 H)
  (hk:∀a:Nat,at'=a->a<=s.size->∀t n e H',GT ((bj s).drop a) a t n e->Fr [] H H'->K t n e H'):
  aY atf adO ⟨[.string s,.int .i64 at']⟩ H λv H'=>∃t m e,v=.tuple ⟨[.string t,.int .i64 m,.int .i64 e]⟩/\K t m e H':=by
 apply adP
 refine Jn hs (λh=>ai (λ_=>⟨_,_,_,rfl,Gs h⟩) (λh=>by simp at h)) λa bS bQ v n e aZ=> ?_
 subst bS
 have hk:=λt n e h=>hk a rfl bQ t n e H h (Fr.refl _ _)
 have ry:((bj s).drop a).length=s.size-a:=by rw [asH,c6]
 generalize aA:(bj s).drop a=r at hk ry aZ
 refine ai (λh1=>⟨_,_,_,rfl,hk _ _ _ (GT.bad aZ (by simpa using h1))⟩) (λh1=> ?_)
 have fC:e=0:=by simpa using h1
 obtain⟨aQ,rfl,ae,au,a6,rfl,_⟩:∃aQ:Nat,v=aQ/\aQ<18446744073709551616/\r=cD aQ++r.drop (cD aQ).length/\(cD aQ).length<=r.length/\n=((a+(cD aQ).length:Nat):Int)/\e=0:=by
  rcases aZ with h|⟨_,_,h,_⟩|⟨_,_,h,_⟩
  ·exact h
  ·omega
  ·omega
 generalize hm:(cD aQ).length=m at *
 have kp:IntKind.u64.wrap (IntKind.i64.wrap ((s.size:Int)-((a+m:Nat):Int)))=((s.size-(a+m):Nat):Int):=by
  rw [dv (by omega) (by omega),iY (by omega) (by omega)];omega
 rw [kp]
 refine ai (λbu=>⟨_,_,_,rfl,hk _ _ _ (.inr (.inl ⟨rfl,rfl,rfl,.inr ⟨aQ,ae,_,au,?_⟩⟩))⟩) (λbu=> ?_)
 ·rw [asH];simp at bu;omega
 have aqA:aQ<=s.size-(a+m):=by simp at bu;omega
 have yy:IntKind.i64.wrap (((a+m:Nat):Int)+IntKind.i64.wrap (aQ:Int))=((a+m+aQ:Nat):Int):=by
  rw [dv (n:=(aQ:Int)) (by omega) (by omega),dv (by omega) (by omega)];omega
 rw [yy]
 refine cb (decide_eq_true (by omega)) ⟨_,_,_,rfl,hk _ _ _ (.inl ?_)⟩
 have kE:bj (s.extract (((a+m:Nat):Int)).toNat ((a+m+aQ:Nat):Int).toNat)=(r.drop m).take aQ:=by
  rw [vc,asD,asD,<-aA,List.drop_drop,List.drop_take,show a+m+aQ-(a+m)=aQ by omega]
 have el:(s.extract (((a+m:Nat):Int)).toNat ((a+m+aQ:Nat):Int).toNat).size=aQ:=by
  rw [<-c6,kE,apH,asH];omega
 have yz:cx (s.extract (((a+m:Nat):Int)).toNat ((a+m+aQ:Nat):Int).toNat)=cD aQ++(r.drop m).take aQ:=by
  unfold cx;rw [el,kE]
 have Qs:(cx (s.extract (((a+m:Nat):Int)).toNat ((a+m+aQ:Nat):Int).toNat)).length=m+aQ:=by
  rw [yz,VH,apH,asH,hm];omega
 refine⟨?_,?_,?_,rfl⟩
 ·rw [Qs,yz,ar8,<-List.drop_drop,auP]
  exact au
 ·omega
 ·rw [Qs];omega
def ve(v:Int):Nat:=if 0<=v then(2*v).toNat else(2*(-(v+1))+1).toNat
def oo(v:Int):List UInt8:=cD (ve v)
def dp(v:Int):Prop:= -9223372036854775808<=v/\v<=9223372036854775807
theorem CC(h:dp v):ve v<18446744073709551616:=by unfold ve dp at *;split<;>omega
theorem Ke{n:Int}(h: -18446744073709551616<=n)(ae:n<0):IntKind.u64.wrap n=n+18446744073709551616:=by
 unfold atj
 simp [ato,atx]
 omega
theorem adQ{n:Int}(h:9223372036854775808<=n)(ae:n<18446744073709551616):IntKind.i64.wrap n=n-18446744073709551616:=by
 unfold atj
 simp [ato,atx]
 omega
theorem adR(h:m<18446744073709551616):(atg 64 (m:Int)^^^atg 64 18446744073709551615).toNat=18446744073709551615-m:=by
 have e:atg 64 18446744073709551615=BitVec.allOnes 64:=by decide
 rw [e,BitVec.xor_allOnes,BitVec.toNat_not,Gq h]
theorem xor_zero(h:m<18446744073709551616):(atg 64 (m:Int)^^^atg 64 0).toNat=m:=by
 have e:atg 64 0=0#64:=by decide
 rw [e,BitVec.xor_zero,Gq h]
theorem adS{K:Int->J->Prop}(aI:dp v)(hk:K (ve v:Nat) H):aY atf adT ⟨[.int .i64 v]⟩ H λw H'=>∃n,w=.int .u64 n/\K n H':=by
 apply adU
 refine⟨_,rfl,?_⟩
 obtain⟨h1,ae⟩:=aI
 by_cases aD:0<=v
 ·have bc:ate v (2^63)=0:=by rw [auI _ (by decide)];omega
  have bN:IntKind.u64.wrap (IntKind.i64.wrap (v*2^1))=((2*v).toNat:Int):=by
   by_cases au:v*2<9223372036854775808
   ·rw [dv (by omega) (by omega),iY (by omega) (by omega)];omega
   ·rw [adQ (by omega) (by omega),Ke (by omega) (by omega)];omega
  rw [bc,bN,iY (n:=0) (by omega) (by omega),xor_zero (by omega),iY (by omega) (by omega)]
  unfold ve at hk
  rwa [if_pos aD]at hk
 ·have bc:ate v (2^63)= -1:=by rw [auI _ (by decide)];omega
  have bN:IntKind.u64.wrap (IntKind.i64.wrap (v*2^1))=((2*v+18446744073709551616).toNat:Int):=by
   by_cases au: -9223372036854775808<=v*2
   ·rw [dv (by omega) (by omega),Ke (by omega) (by omega)];omega
   ·have:IntKind.i64.wrap (v*2^1)=v*2+18446744073709551616:=by
     unfold atj
     simp [ato,atx]
     omega
    rw [this,iY (by omega) (by omega)];omega
  rw [bc,bN,Ke (n:= -1) (by omega) (by omega)]
  rw [show(-1:Int)+18446744073709551616=18446744073709551615 from rfl,adR (by omega),iY (by omega) (by omega)]
  unfold ve at hk
  rw [if_neg aD]at hk
  have dP:(18446744073709551615-(2*v+18446744073709551616).toNat:Nat)=(2*(-(v+1))+1).toNat:=by omega
  rw [dP];exact hk
theorem adV{K:Int->J->Prop}(aI:dp v)(hk:K (ve v:Nat) H):aY atf adW ⟨[.int .i64 v]⟩ H λw H'=>∃n,w=.int .u64 n/\K n H':=by
 apply adX
 obtain⟨h1,ae⟩:=aI
 unfold ve at hk
 refine ai (λh=>⟨_,rfl,?_⟩) (λh=>⟨_,rfl,?_⟩)
 ·have aD:0<=v:=by simpa using h
  rw [if_pos aD]at hk
  rw [iY (n:=v) (by omega) (by omega),iY (by omega) (by omega)]
  have:((2*v).toNat:Int)=2*v:=by omega
  rwa [this]at hk
 ·have aD:¬0<=v:=by simpa using h
  rw [if_neg aD]at hk
  rw [dv (n:=v+1) (by omega) (by omega),dv (by omega) (by omega),iY (n:=0-(v+1)) (by omega) (by omega),iY (n:=2*(0-(v+1))) (by omega) (by omega),iY (by omega) (by omega)]
  have:((2*(-(v+1))+1).toNat:Int)=2*(0-(v+1))+1:=by omega
  rwa [this]at hk
theorem P0{K:ByteArray->J->Prop}(aI:dp v)(hk:∀H',Fr [] H H'->K ⟨(oo v).toArray⟩ H'):aY atf adY ⟨[.int .i64 v]⟩ H λw H'=>∃s,w=.string s/\K s H':=by
 apply adZ
 exact adS aI (oT (CC aI) λH' af=>⟨_,rfl,hk H' af⟩)
theorem ad8{K:ByteArray->J->Prop}(aI:dp v)(hk:∀H',Fr [] H H'->K ⟨(oo v).toArray⟩ H'):aY atf ad9 ⟨[.int .i64 v]⟩ H λw H'=>∃s,w=.string s/\K s H':=by
 apply aea
 exact adV aI (acy (CC aI) λH' af=>⟨_,rfl,hk H' af⟩)
abbrev Row:=Int×Int×Int
def fp:dd Row:=⟨λx=>[.int .i64 x.1,.int .i64 x.2.1,.int .i64 x.2.2],3,λ_=>rfl,by decide,λ_ v h=>by simp at h;rcases h with rfl|rfl|rfl<;>rfl⟩
abbrev dH:=Option Addr×Nat×Nat
structure eK where
 k:Int
 l:bX
 rows:List Row
 fq:List Row
 at':Int
abbrev g':=Int×dH×dH×dH×Int
def fI(m:g'):List Value:=[.int .i64 m.1,.slice m.2.1.1 m.2.1.2.1 m.2.1.2.2,.slice m.2.2.1.1 m.2.2.1.2.1 m.2.2.1.2.2,.slice m.2.2.2.1.1 m.2.2.2.1.2.1 m.2.2.2.1.2.2,.int .i64 m.2.2.2.2]
structure lK(H:J)(m:g')(r:eK):Prop where
 k:m.1=r.k
 l:bk gb H m.2.1.1 m.2.1.2.1 m.2.1.2.2 r.l
 rows:bk fp H m.2.2.1.1 m.2.2.1.2.1 m.2.2.1.2.2 r.rows
 fq:bk fp H m.2.2.2.1.1 m.2.2.2.1.2.1 m.2.2.2.1.2.2 r.fq
 at':m.2.2.2.2=r.at'
theorem lK.ab{m:g'}{r:eK}(h:lK H m r)(af:Fr [] H H'):lK H' m r:=⟨h.k,h.l.ab af,h.rows.ab af,h.fq.ab af,h.at'⟩
def Cx(x:Row):Prop:=(0<=x.1/\x.1<=1099511627776)/\0<=x.2.1/\x.2.1<=199
def Cy(x:Row):Prop:=(0<=x.1/\x.1<=199)/\0<=x.2.1/\x.2.1<x.2.2/\x.2.2<=1099511627776
instance(x:Row):Decidable (Cx x):=inferInstanceAs (Decidable (_/\_))
instance(x:Row):Decidable (Cy x):=inferInstanceAs (Decidable (_/\_))
structure pQ(r:eK):Prop where
 k:0<=r.k/\r.k<=3
 l:r.l≠[]->r.k=0
 rows:r.rows≠[]->r.k=1
 fq:r.fq≠[]->r.k=2
 Ac:r.at'≠0->r.k=3
 at':0<=r.at'/\r.at'<=1099511627776
 nr:r.rows.length<=5000
 F5:r.fq.length<=5000
 row:∀x∈r.rows,Cx x
 tomb:∀x∈r.fq,Cy x
theorem wY{n u4:Int}{K:Bool->J->Prop}(hk:K (decide (0<=n/\n<=u4)) H):aY atf abu ⟨[.int .i64 n,.int .i64 u4]⟩ H λv H'=>∃b,v=.bool b/\K b H':=by
 apply abv
 refine ai (λh=>⟨_,rfl,?_⟩) (λh=>⟨_,rfl,?_⟩)
 ·have aD:0<=n:=by simpa using h
  rwa [show decide (0<=n/\n<=u4)=decide (n<=u4)from decide_eq_decide.2 ⟨λh=>h.2,λh=>⟨aD,h⟩⟩]at hk
 ·have aD:¬0<=n:=by simpa using h
  rwa [decide_eq_false λh=>aD h.1]at hk
theorem _root_.Go.bs.aU.iH{m:g'}(h:aU H ⟨b,0,none⟩ (fI m)):cR atf 3 H ⟨b,0,none⟩ (.int .i64 m.1):=h.b5 (by kernel_rfl) rfl
theorem _root_.Go.bs.aU.en{m:g'}(h:aU H ⟨b,0,none⟩ (fI m)):cR atf 44 H ⟨b,1,none⟩ (.slice m.2.1.1 m.2.1.2.1 m.2.1.2.2):=h.bV (j:=1) (by kernel_rfl) rfl
theorem _root_.Go.bs.aU.gY{m:g'}(h:aU H ⟨b,0,none⟩ (fI m)):cR atf 82 H ⟨b,2,none⟩ (.slice m.2.2.1.1 m.2.2.1.2.1 m.2.2.1.2.2):=h.bV (j:=2) (by kernel_rfl) rfl
theorem _root_.Go.bs.aU.wZ{m:g'}(h:aU H ⟨b,0,none⟩ (fI m)):cR atf 69 H ⟨b,3,none⟩ (.slice m.2.2.2.1.1 m.2.2.2.1.2.1 m.2.2.2.1.2.2):=h.bV (j:=3) (by kernel_rfl) rfl
theorem _root_.Go.bs.aU.Cz{m:g'}(h:aU H ⟨b,0,none⟩ (fI m)):cR atf 3 H ⟨b,4,none⟩ (.int .i64 m.2.2.2.2):=h.bV (j:=4) (by kernel_rfl) rfl
theorem _root_.Go.bs.aU.i0{x:Row}(h:aU H ⟨b,0,none⟩ (fp.cells x)):cR atf 3 H ⟨b,0,none⟩ (.int .i64 x.1):=h.b5 (by kernel_rfl) rfl
theorem _root_.Go.bs.aU.i1{x:Row}(h:aU H ⟨b,0,none⟩ (fp.cells x)):cR atf 3 H ⟨b,1,none⟩ (.int .i64 x.2.1):=h.bV (j:=1) (by kernel_rfl) rfl
theorem _root_.Go.bs.aU.i2{x:Row}(h:aU H ⟨b,0,none⟩ (fp.cells x)):cR atf 3 H ⟨b,2,none⟩ (.int .i64 x.2.2):=h.bV (j:=2) (by kernel_rfl) rfl
theorem JJ{x:Row}(h:eP H al (fp.cells x)):cR atf 128 H al (.agg ⟨fp.cells x⟩):=CA (by kernel_rfl) (by kernel_rfl) h
theorem PU{x:Row}(h:eP H al (fp.cells x)):cR atf 180 H al (.agg ⟨fp.cells x⟩):=CA (by kernel_rfl) (by kernel_rfl) h
theorem PV{x:Row}{zs:List Value}{K:Nat->J->Prop}(aC:zs.length=3)
  (k:∀b H',H.size<=b->aU H' ⟨b,0,none⟩ (fp.cells x)->Fr [] H H'->K b H'):
  ∀b H',ds H b (.cells ⟨zs⟩ 128) H'->∃cv,fb atf 128 H' ⟨b,0,none⟩ (.agg ⟨fp.cells x⟩) cv/\K b cv:=
 ia (by kernel_rfl) (by kernel_rfl) (λv h=>by simp [atq,fp]at h;rcases h with rfl|rfl|rfl<;>rfl) aC k
theorem PW{x:Row}{zs:List Value}{K:Nat->J->Prop}(aC:zs.length=3)
  (k:∀b H',H.size<=b->aU H' ⟨b,0,none⟩ (fp.cells x)->Fr [] H H'->K b H'):
  ∀b H',ds H b (.cells ⟨zs⟩ 180) H'->∃cv,fb atf 180 H' ⟨b,0,none⟩ (.agg ⟨fp.cells x⟩) cv/\K b cv:=
 ia (by kernel_rfl) (by kernel_rfl) (λv h=>by simp [atq,fp]at h;rcases h with rfl|rfl|rfl<;>rfl) aC k
def Small(m:g'):Prop:=m.2.1.2.1<=1000000000/\m.2.2.1.2.1<=1000000000/\m.2.2.2.1.2.1<=1000000000
theorem abw{m:g'}{r:eK}{K:Bool->J->Prop}(h:lK H m r)(hs:Small m)(ff:pQ r->∀H',Fr [] H H'->K true H')(cz:¬pQ r->∀H',Fr [] H H'->K false H'):
  aY atf abx ⟨[.agg ⟨fI m⟩]⟩ H λv H'=>∃b,v=.bool b/\K b H':=by
 apply aby
 intro b H1 aB
 have ah:aU H1 ⟨b,0,none⟩ (fI m):=aB.bo
 have h1:=h.ab aB.ag
 refine⟨_,_,_,ah.en,_,_,_,ah.gY,_,_,_,ah.wZ,_,ah.Cz,?_⟩
 have k1:=h.l.len
 have ru:=h.rows.len
 have JK:=h.fq.len
 obtain⟨s1,s2,qt⟩:=hs
 have bad:∀{H':J},Fr [] H H'->¬pQ r->∃b,atp false=.bool b/\K b H':=λaf ay=>⟨_,rfl,cz ay _ af⟩
 intro b1 ao bH
 have st:∀{vs:List Value} {zs:List Value} {X:J->Prop},ao=ao->vs.length=4->(∀v∈vs,∃x,v=.bool x)->(∀H',Fr [] H1 H'->aU H' ⟨b1,0,none⟩ vs->X H')->∃H',fb atf 351 ao ⟨b1,0,none⟩ (.agg ⟨vs⟩) H'/\X H':=λ{vs zs X} _ aI abz gU=>by
  refine bH.bo.jq (v:=.agg ⟨vs⟩) (by show hV atf 351=vs.length;rw [aI];kernel_rfl) (by kernel_rfl) (λx aa=> ?_) (by show vs.length<=4;omega) λH' e3 dZ=>gU H' (bH.ag.ab dZ (λk hk=>by simp at hk;have:=bH.eq;omega)) ?_
  ·have aa:x∈vs:=by simpa [atq]using aa
   obtain⟨y,rfl⟩:=abz x aa;rfl
  ·have e:((Value.agg ⟨vs⟩).cells.toList++[atp false,.bool false,.bool false,.bool false].drop (Value.agg ⟨vs⟩).cells.toList.length)=vs:=by
    show vs++[atp false,.bool false,.bool false,.bool false].drop vs.length=vs
    rw [aI];simp
   rw [e]at e3;exact e3
 refine st (zs:=[]) rfl rfl (λv aI=>by simp only [o3,List.not_mem_nil,or_false]at aI;rcases aI with rfl|rfl|rfl|rfl<;>exact⟨_,rfl⟩) λaF bG dQ=> ?_
 have jj:=aB.ag.aw bG
 have oh:=ah.ab bG
 refine⟨_,_,_,_,dQ.dX (by kernel_rfl) (by kernel_rfl) rfl,?_⟩
 have own:∀n:Nat,n<4->∃w,iB atf 4 [.bool (decide ((m.2.1.2.1:Int)>0)),.bool (decide ((m.2.2.1.2.1:Int)>0)),.bool (decide ((m.2.2.2.1.2.1:Int)>0)),.bool (m.2.2.2.2 !=0)] (atd (n:Int)*1) (.bool w)∧
   (w=true↔(n=0/\r.l≠[])\/(n=1/\r.rows≠[])\/(n=2/\r.fq≠[])\/(n=3/\r.at'≠0)):=λn ay=>by
  have bc:∀{α:Type} {l:List α} {k:Nat},k=l.length->(decide ((k:Int)>0)=true↔l≠[]):=λ{α l k} e=>by
   cases l<;>simp at e<;>simp [e]
  match n,ay with
  |0,_=>exact⟨decide ((m.2.1.2.1:Int)>0),by unfold iB;kernel_rfl,by rw [bc k1];simp⟩
  |1,_=>exact⟨decide ((m.2.2.1.2.1:Int)>0),by unfold iB;kernel_rfl,by rw [bc ru];simp⟩
  |2,_=>exact⟨decide ((m.2.2.2.1.2.1:Int)>0),by unfold iB;kernel_rfl,by rw [bc JK];simp⟩
  |3,_=>exact⟨m.2.2.2.2 !=0,by unfold iB;kernel_rfl,by rw [h.at'];simp⟩
 refine⟨λvs H'=>match vs with|[.int _ i]=>∃k:Nat,i=k/\k<=4/\(0<k->r.l≠[]->r.k=0)/\(1<k->r.rows≠[]->r.k=1)/\(2<k->r.fq≠[]->r.k=2)/\(3<k->r.at'≠0->r.k=3)/\H'=aF|_=>False,
  λvs _=>match vs with|[.int _ i]=>4-i.toNat|_=>0,⟨0,rfl,by omega,by omega,by omega,by omega,by omega,rfl⟩,?_⟩
 rintro bm i aN ⟨k,rfl,abA,g1,g2,g3,g4,rfl⟩
 refine ai (λaD=> ?_) (λaD=> ?_)
 ·have bT:k<4:=by simp at aD;omega
  refine cb (decide_eq_true (by omega)) ?_
  obtain⟨w,hw,JL⟩:=own k bT
  refine⟨w,hw,?_⟩
  rw [b6 (by omega)]
  refine ai (λae=>⟨_,oh.iH,?_⟩) (λae=> ?_)
  ·have ae:=JL.1 ae
   rw [h.k]
   refine ai (λau=>bad jj λcn=> ?_) (λau=>⟨⟨k+1,rfl,by omega,?_,?_,?_,?_,rfl⟩,cJ bT⟩)
   ·have au:(k:Int)≠r.k:=by simpa using au
    rcases ae with⟨e,ae⟩|⟨e,ae⟩|⟨e,ae⟩|⟨e,ae⟩
    ·exact au (by rw [cn.l ae,e];rfl)
    ·exact au (by rw [cn.rows ae,e];rfl)
    ·exact au (by rw [cn.fq ae,e];rfl)
    ·exact au (by rw [cn.Ac ae,e];rfl)
   all_goals
    have au:(k:Int)=r.k:=by simpa using au
    intro hk cH
   ·by_cases e:0<k
    ·exact g1 e cH
    ·omega
   ·by_cases e:1<k
    ·exact g2 e cH
    ·omega
   ·by_cases e:2<k
    ·exact g3 e cH
    ·omega
   ·by_cases e:3<k
    ·exact g4 e cH
    ·omega
  ·have ae:¬w=true:=by simpa using ae
   rw [JL]at ae
   refine⟨⟨k+1,rfl,by omega,λhk cH=> ?_,λhk cH=> ?_,λhk cH=> ?_,λhk cH=> ?_,rfl⟩,cJ bT⟩
   ·by_cases e:0<k
    ·exact g1 e cH
    ·exact absurd (.inl ⟨by omega,cH⟩) ae
   ·by_cases e:1<k
    ·exact g2 e cH
    ·exact absurd (.inr (.inl ⟨by omega,cH⟩)) ae
   ·by_cases e:2<k
    ·exact g3 e cH
    ·exact absurd (.inr (.inr (.inl ⟨by omega,cH⟩))) ae
   ·by_cases e:3<k
    ·exact g4 e cH
    ·exact absurd (.inr (.inr (.inr ⟨by omega,cH⟩))) ae
 have abB:k=4:=by simp at aD;omega
 subst abB
 refine⟨_,_,_,oh.gY,?_⟩
 refine⟨λvs H'=>match vs with|[.int _ i]=>∃k:Nat,i=k/\k<=m.2.2.1.2.1/\(∀x∈r.rows.take k,Cx x)/\Fr [] aN H'|_=>False,
  λvs _=>match vs with|[.int _ i]=>m.2.2.1.2.1-i.toNat|_=>0,⟨0,rfl,by omega,by simp,Fr.refl _ _⟩,?_⟩
 rintro bm i bw ⟨k,rfl,du,JM,bW⟩
 refine ai (λaD=> ?_) (λaD=> ?_)
 ·have bT:k<m.2.2.1.2.1:=by simpa using aD
  have b0:r.rows[k]?=some (r.rows[k]'(by omega)):=by simp
  generalize r.rows[k]'(by omega)=x at b0
  refine((h.rows.ab jj).ab bW).get rfl b0 (decide_eq_true (by omega)) λal bS ak=>⟨_,_,_,JJ ak,?_⟩
  refine PV rfl λbx bY hbx aI cB=>⟨_,aI.i0,wY ?_⟩
  have l7:=(jj.aw bW).aw cB
  refine ai (λae=>bad l7 λcn=> ?_) (λae=>⟨_,aI.i1,wY (ai (λau=>bad l7 λcn=> ?_) (λau=> ?_))⟩)
  ·have:=(cn.row x (att b0)).1
   simp [this]at ae
  ·have:=(cn.row x (att b0)).2
   simp [this]at au
  ·rw [b6 (by omega)]
   refine⟨⟨k+1,rfl,by omega,λy av=> ?_,bW.aw cB⟩,cJ bT⟩
   rw [ats,b0]at av
   rcases asU.1 av with av|av
   ·exact JM y av
   ·simp at av;subst av
    exact⟨of_decide_eq_true (by simpa using ae),of_decide_eq_true (by simpa using au)⟩
 rw [asG (by simp at aD;omega)]at JM
 have qy:=jj.aw bW
 have dI:=oh.ab bW
 refine⟨_,_,_,dI.wZ,?_⟩
 refine⟨λvs H'=>match vs with|[.int _ i]=>∃k:Nat,i=k/\k<=m.2.2.2.1.2.1/\(∀x∈r.fq.take k,Cy x)/\Fr [] bw H'|_=>False,
  λvs _=>match vs with|[.int _ i]=>m.2.2.2.1.2.1-i.toNat|_=>0,⟨0,rfl,by omega,by simp,Fr.refl _ _⟩,?_⟩
 rintro bm i bY ⟨k,rfl,du,JN,cB⟩
 have l7:=qy.aw cB
 refine ai (λaD=> ?_) (λaD=> ?_)
 ·have bT:k<m.2.2.2.1.2.1:=by simpa using aD
  have b0:r.fq[k]?=some (r.fq[k]'(by omega)):=by simp
  generalize r.fq[k]'(by omega)=x at b0
  have mP:=att b0
  refine⟨λ_ H'=>Fr [] bY H'/\Cy x,?_,?_⟩
  ·refine(h.fq.ab l7).get rfl b0 (decide_eq_true (by omega)) λal bS ak=>⟨_,_,_,PU ak,?_⟩
   refine PW rfl λbx cC hbx aI eJ=>⟨_,aI.i0,wY ?_⟩
   have ri:=l7.aw eJ
   refine ai (λae=>bad ri λcn=> ?_) (λae=>⟨_,aI.i1,ai (λau=>bad ri λcn=> ?_) (λau=>⟨_,aI.i2,_,aI.i1,ai (λa6=>bad ri λcn=> ?_) (λa6=>⟨_,aI.i2,ai (λbu=>bad ri λcn=> ?_) (λbu=>⟨eJ,?_⟩)⟩)⟩)⟩)
   ·have:=(cn.tomb x mP).1
    simp [this]at ae
   ·have:=(cn.tomb x mP).2.1
    simp at au;omega
   ·have:=(cn.tomb x mP).2.2.1
    simp at a6;omega
   ·have:=(cn.tomb x mP).2.2.2
    simp at bu;omega
   ·refine⟨of_decide_eq_true (by simpa using ae),?_,?_,?_⟩
    ·simp at au;omega
    ·simp at a6;omega
    ·simp at bu;omega
  ·rintro bm cC ⟨eJ,aa⟩
   rw [b6 (by omega)]
   refine⟨⟨k+1,rfl,by omega,λy av=> ?_,cB.aw eJ⟩,cJ bT⟩
   rw [ats,b0]at av
   rcases asU.1 av with av|av
   ·exact JN y av
   ·simp at av;subst av;exact aa
 rw [asG (by simp at aD;omega)]at JN
 have gj:=dI.ab cB
 refine⟨_,gj.iH,wY (ai (λae=>⟨_,gj.Cz,wY (ai (λau=>⟨_,_,_,gj.gY,ai (λa6=>⟨_,_,_,gj.wZ,?_⟩) (λa6=>bad l7 λcn=> ?_)⟩) (λau=>bad l7 λcn=> ?_))⟩) (λae=>bad l7 λcn=> ?_))⟩
 ·have ae:=of_decide_eq_true ae
  have au:=of_decide_eq_true au
  have a6:m.2.2.1.2.1<=5000:=by simp at a6;omega
  rw [h.k]at ae
  rw [h.at']at au
  by_cases bu:m.2.2.2.1.2.1<=5000
  ·rw [decide_eq_true (by omega)]
   exact⟨_,rfl,ff ⟨ae,g1 (by omega),g2 (by omega),g3 (by omega),g4 (by omega),au,by omega,by omega,JM,JN⟩ _ l7⟩
  ·rw [decide_eq_false (by omega)]
   exact⟨_,rfl,cz (λcn=>by have:=cn.F5;omega) _ l7⟩
 ·have:=cn.nr
  simp at a6;omega
 ·have:=cn.at'
  rw [h.at']at au
  exact absurd this (of_decide_eq_false au)
 ·have:=cn.k
  rw [h.k]at ae
  exact absurd this (of_decide_eq_false ae)
theorem sd(x y:List UInt8):((⟨x.toArray⟩:ByteArray)++⟨y.toArray⟩)=⟨(x++y).toArray⟩:=by
 apply ja
 rw [kF,mh,mh,mh]
def oS(l:bX):ByteArray:=⟨(ny l).toArray⟩
theorem IX(l:bX):bj (oS l)=ny l:=by unfold oS;rw [mh]
def yn(v:Int):Prop:=0<=v/\v<18446744073709551616
def hz(v:Int):List UInt8:=cD v.toNat
theorem tL(h:yn v):(hz v).length<=10:=hi (by unfold yn at h;omega)
theorem abC{xs:List Int}(h:∀x∈xs,yn x):(xs.flatMap hz).length<=10*xs.length:=by
 induction xs with
 |nil=>simp
 |cons x l ih=>
  have h1:=tL (h x (by simp))
  have ae:=ih λy av=>h y (by simp [av])
  simp only [Er,VH,asE];omega
theorem F6{a:Option Addr}{xs:List Int}{K:ByteArray->J->Prop}(aa:bk b' H a n c xs)(ay:n<=1000)(hu:∀x∈xs,yn x)
  (hk:∀H',Fr [] H H'->K ⟨(xs.flatMap hz).toArray⟩ H'):
  aY atf abD ⟨[.slice a n c]⟩ H λv H'=>∃s,v=.string s/\K s H':=by
 apply abE
 intro b H1 aB
 have F7:=aB.eq
 have jr:=aa.len
 have CB:=aB.size
 refine⟨λvs H'=>match vs with|[.int _ i]=>∃(k:Nat) (S:List Nat),i=k/\k<=n/\hI H' b S ((xs.take k).flatMap hz)/\(∀j∈S,H.size<=j)/\Fr [] H H'|_=>False,
  λvs _=>match vs with|[.int _ i]=>n-i.toNat|_=>0,⟨0,[b],rfl,by omega,l4.new aB,λj a'=>by simp at a';omega,aB.ag⟩,?_⟩
 rintro bm i ao ⟨k,S,rfl,du,ah,bI,af⟩
 have hlen:((xs.take k).flatMap hz).length<=10*k:=by
  have:=abC (xs:=xs.take k) λx aa=>hu x (auL aa)
  rw [apH]at this;omega
 refine ai (λaD=> ?_) (λaD=> ?_)
 ·have bT:k<n:=by simpa using aD
  have b0:xs[k]?=some (xs[k]'(by omega)):=by simp
  generalize xs[k]'(by omega)=x at b0
  have PX:=hu x (att b0)
  refine(aa.ab af).get rfl b0 (decide_eq_true (by omega)) λal bS ak=>⟨_,iq (by kernel_rfl) ak,?_⟩
  obtain⟨y,rfl⟩:∃y:Nat,x=y:=⟨x.toNat,by have:=PX.1;omega⟩
  have av:y<18446744073709551616:=by have:=PX.2;omega
  rw [iY (n:=(y:Int)) (by omega) (by omega)]
  refine oT av λaF bG=> ?_
  have k1:=hi av
  have dC:=eQ (cD y)
  refine r4 (ah.ab bG) (by omega) λaN wM dY bU lD=> ?_
  rw [b6 (by omega)]
  refine⟨⟨k+1,wM,rfl,by omega,?_,λj a'=> ?_,(af.aw bG).ab bU bI⟩,cJ bT⟩
  ·rw [ats,b0,asY]
   rw [mh]at dY
   simpa [hz]using dY
  ·rcases lD j a' with h|h
   ·exact bI j h
   ·have:=af.size;have:=bG.size;omega
 ·rw [asG (by simp at aD;omega)]at ah hlen
  exact r5 ah (by omega) λaF bG=>⟨_,rfl,hk aF (af.ab bG bI)⟩
def o5(x:Row):List UInt8:=hz x.1++(hz x.2.1++oo x.2.2)
def pR(x:Row):List UInt8:=hz x.1++(hz x.2.1++hz x.2.2)
def rv(r:eK):Prop:=∀x∈r.rows,dp x.2.2
open Classical in
def lh(r:eK):List UInt8:=if r.k=0 then cx (oS r.l)else if r.k=1 then cD r.rows.length++r.rows.flatMap o5 else if r.k=2 then cD r.fq.length++r.fq.flatMap pR else hz r.at'
def kr(r:eK):List UInt8:=hz r.k++lh r
theorem F8{x:Row}(h:Cx x)(ae:dp x.2.2):(o5 x).length<=30:=by
 unfold o5
 have h1:=tL (v:=x.1) ⟨h.1.1,by have:=h.1.2;omega⟩
 have au:=tL (v:=x.2.1) ⟨h.2.1,by have:=h.2.2;omega⟩
 have a6:(oo x.2.2).length<=10:=hi (CC ae)
 simp only [VH];omega
theorem F9{x:Row}(h:Cy x):(pR x).length<=30:=by
 unfold pR
 have h1:=tL (v:=x.1) ⟨h.1.1,by have:=h.1.2;omega⟩
 have au:=tL (v:=x.2.1) ⟨h.2.1,by have:=h.2.2;omega⟩
 have a6:=tL (v:=x.2.2) ⟨by have:=h.2;omega,by have:=h.2;omega⟩
 simp only [VH];omega
theorem JO{f:Row->List UInt8}{l:List Row}(h:∀x∈l,(f x).length<=30):(l.flatMap f).length<=30*l.length:=by
 induction l with
 |nil=>simp
 |cons x l ih=>
  have h1:=h x (by simp)
  have ae:=ih λy av=>h y (by simp [av])
  simp only [Er,VH,asE];omega
def qC(f:Row->List UInt8)(l:List Row)(k:Nat):List UInt8:=cD l.length++(l.take k).flatMap f
theorem Ga{f:Row->List UInt8}{l:List Row}(h:∀x∈l,(f x).length<=30)(ae:l.length<=5000)(k:Nat):(qC f l k).length<=200000:=by
 unfold qC
 have h1:=hi (n:=l.length) (by omega)
 have au:=JO (l:=l.take k) λx aa=>h x (auL aa)
 rw [apH]at au
 rw [VH];omega
theorem PY{f:Row->List UInt8}{l:List Row}{x:Row}(h:l[k]?=some x):qC f l (k+1)=qC f l k++f x:=by
 unfold qC
 rw [ats,h];simp
theorem Gb{f:Row->List UInt8}{l:List Row}(h:l.length<=k):qC f l k=cD l.length++l.flatMap f:=by
 unfold qC;rw [asG h]
theorem PZ{t:TypeId}(xs:List Int){vs:List Value}(h:ds H b (.cells ⟨vs⟩ t) H')(aI:vs=xs.map (asK .i64)):bk b' H' (some ⟨b,0,none⟩) xs.length xs.length xs:=by
 refine⟨rfl,nQ _,.inr ⟨b,0,rfl,λi y av j v a'=> ?_⟩⟩
 have JP:j=0:=by
  have:(b'.cells y).length=1:=rfl
  have:=(qb.1 a').1
  omega
 subst JP
 have JQ:v=.int .i64 y:=by simpa [b']using a'.symm
 subst JQ
 rw [re h.get]
 subst aI
 have e:b'.sz=1:=rfl
 simp [e,av]
theorem one_num{K:ByteArray->J->Prop}(hu:yn v)(hk:∀H',Fr [] H H'->K ⟨(hz v).toArray⟩ H'):∀b H1,ds H b (.cells ⟨[.int .i64 v]⟩ 3) H1->aY atf 217 ⟨[.slice (some ⟨b,0,none⟩) 1 1]⟩ H1 λv H'=>∃s,v=.string s/\K s H':=λb H1 aB=>
 F6 (gd b' v aB rfl) (by omega) (λx aa=>by simp at aa;subst aa;exact hu) λH' af=>by
  have:[v].flatMap hz=hz v:=by simp
  rw [this];exact hk H' (aB.ag.aw af)
theorem abF{m:g'}{r:eK}{K:ByteArray->Int->J->Prop}(ah:aU H ⟨b,0,none⟩ (fI m))(h:lK H m r)(hs:Small m)
  (cz:¬fE r.l->∀s H',s.size<=1000->Fr [] H H'->K s 40 H') (ff:fE r.l->∀H',Fr [] H H'->K ⟨(cx (oS r.l)).toArray⟩ 0 H'):
  aY atf abG ⟨[.pointer (some ⟨b,0,none⟩)]⟩ H λv H'=>∃s e,v=.tuple ⟨[.string s,.int .i64 e]⟩/\K s e H':=by
 apply abH
 refine⟨_,_,_,ah.en,OM h.l hs.1 (λcL H1 b9=> ?_) λcL H1 b9=> ?_⟩
 ·refine te (s:=⟨#[]⟩) (by simp [ath]) λao bt=>⟨_,_,rfl,cz cL _ _ ?_ (b9.aw bt)⟩
  rw [eQ]
  unfold cx
  rw [VH,c6]
  have:=hi (n:=(⟨#[]⟩:ByteArray).size) (by simp [ath])
  have fC:(⟨#[]⟩:ByteArray).size=0:=rfl
  omega
 ·have:=wH cL
  have ae:=eQ (ny r.l)
  exact te (by omega) λao bt=>⟨_,_,rfl,ff cL ao (b9.aw bt)⟩
theorem abI{m:g'}{r:eK}{K:ByteArray->Int->J->Prop}(ah:aU H ⟨b,0,none⟩ (fI m))(h:lK H m r)(cn:pQ r)
  (hk:∀H',Fr [] H H'->K ⟨(hz r.at').toArray⟩ 0 H'):
  aY atf abJ ⟨[.pointer (some ⟨b,0,none⟩)]⟩ H λv H'=>∃s e,v=.tuple ⟨[.string s,.int .i64 e]⟩/\K s e H':=by
 apply abK
 refine⟨_,ah.Cz,?_⟩
 rw [h.at']
 exact one_num ⟨cn.at'.1,by have:=cn.at'.2;omega⟩ λH' af=>⟨_,_,rfl,hk H' af⟩
theorem abL{m:g'}{r:eK}{K:ByteArray->Int->J->Prop}(ah:aU H ⟨b,0,none⟩ (fI m))(h:lK H m r)(cn:pQ r)
  (hk:∀H',Fr [] H H'->K ⟨(cD r.fq.length++r.fq.flatMap pR).toArray⟩ 0 H'):
  aY atf abM ⟨[.pointer (some ⟨b,0,none⟩)]⟩ H λv H'=>∃s e,v=.tuple ⟨[.string s,.int .i64 e]⟩/\K s e H':=by
 apply abN
 have aH:=h.fq.len
 have JR:=cn.F5
 refine⟨_,_,_,ah.wZ,?_⟩
 refine one_num ⟨by omega,by omega⟩ λH1 b9=> ?_
 have cI:=ah.ab b9
 refine⟨_,_,_,cI.wZ,?_⟩
 have hlen:=Ga (f:=pR) (l:=r.fq) (λx aa=>F9 (cn.tomb x aa)) JR
 refine⟨λvs H'=>match vs with
   |[.string s,.int _ i]=>∃k:Nat,i=k/\k<=m.2.2.2.1.2.1/\s=⟨(qC pR r.fq k).toArray⟩/\Fr [] H H'
   |_=>False,
  λvs _=>match vs with|[_,.int _ i]=>m.2.2.2.1.2.1-i.toNat|_=>0,⟨0,rfl,by omega,by unfold qC hz;simp [aH],b9⟩,?_⟩
 rintro bm s i ao ⟨k,rfl,hle,rfl,bt⟩
 refine ai (λaD=> ?_) (λaD=> ?_)
 ·have bT:k<m.2.2.2.1.2.1:=by simpa using aD
  have b0:r.fq[k]?=some (r.fq[k]'(by omega)):=by simp
  generalize r.fq[k]'(by omega)=x at b0
  have dc:=cn.tomb x (att b0)
  refine(h.fq.ab bt).get rfl b0 (decide_eq_true (by omega)) λal bS ak=>⟨_,_,_,PU ak,?_⟩
  refine PW rfl λbx aF hbx aI bG=>⟨_,aI.i0,_,aI.i1,_,aI.i2,?_⟩
  intro fz aN cp
  have rh:bk b' aN (some ⟨fz,0,none⟩) 3 3 [x.1,x.2.1,x.2.2]:=PZ [x.1,x.2.1,x.2.2] cp rfl
  refine F6 rh (by omega) (λy av=> ?_) λbw bW=> ?_
  ·simp at av
   unfold yn
   have:=dc.1;have:=dc.2
   rcases av with rfl|rfl|rfl<;>omega
  ·have e:[x.1,x.2.1,x.2.2].flatMap hz=pR x:=by simp [pR]
   rw [e]
   have h1:=hlen k
   have ae:=F9 dc
   have au:=eQ (qC pR r.fq k)
   have a6:=eQ (pR x)
   refine cb (decide_eq_true (by omega)) ⟨⟨k+1,by rw [b6 (by omega)],by omega,?_,((bt.aw bG).aw cp.ag).aw bW⟩,by rw [b6 (by omega)];exact cJ bT⟩
   rw [sd,PY b0]
 ·rw [Gb (by simp at aD;omega)]
  exact⟨_,_,rfl,hk ao bt⟩
def yO:List Nat:=[0,4129,8258,12387,16516,20645,24774,28903,33032,37161,41290,45419,49548,53677,57806,61935]
def tp(k:Nat):Nat:=yO.getD k 0
def wI(c h:Nat):Nat:=(c*16 % 65536)^^^tp ((c/4096)^^^h)
def B1(c b:Nat):Nat:=wI (wI c (b/16)) (b % 16)
def k9(l:List UInt8):Nat:=l.foldl (λc b=>B1 c b.toNat) 65535
theorem I1(k:Nat):tp k<65536:=by
 unfold tp
 by_cases h:k<16
 ·have:∀k:Fin 16,yO.getD k.val 0<65536:=by decide
  exact this ⟨k,h⟩
 ·have:yO[k]?=none:=List.getElem?_eq_none (by simp [yO];omega)
  rw [List.getD,this];decide
theorem ahc(bQ:a<65536)(ah:b<65536):a^^^b<65536:=au0 (n:=16) bQ ah
theorem FG(bQ:a<16)(ah:b<16):a^^^b<16:=au0 (n:=4) bQ ah
theorem FH{h:Nat}:wI c h<65536:=ahc (Nat.mod_lt _ (by decide)) (I1 _)
theorem ahd:B1 c b<65536:=FH
theorem RI:∀(l:List UInt8) (c:Nat),c<65536->l.foldl (λc b=>B1 c b.toNat) c<65536
 |[],_,h=>h
 |b::l,c,_=>RI l _ ahd
theorem FF(l:List UInt8):k9 l<65536:=RI l _ (by decide)
theorem Y0{l:List UInt8}{b:UInt8}(h:l[k]?=some b):k9 (l.take (k+1))=B1 (k9 (l.take k)) b.toNat:=by
 unfold k9
 rw [ats,h]
 simp
def hW(s:ByteArray):List UInt8:=cx s++[apK (k9 (bj s)/256),apK (k9 (bj s) % 256)]
theorem yb(s:ByteArray):(hW s).length=(cx s).length+2:=by simp [hW]
def k8(H:J):Prop:=∀k,k<16->hM H ⟨0,k,none⟩=some (.int .u16 (tp k))
theorem k8.ab(h:k8 H)(af:Fr [] H H'):k8 H':=λk hk=>af.cell0 (h k hk)
theorem k8.ld(h:k8 H)(hk:k<16):cR atf 348 H (Addr.add ⟨0,0,none⟩ (((k:Nat):Int).toNat *1)) (.int .u16 (tp k)):=by
 refine n' (by kernel_rfl) ?_
 have:(Addr.add ⟨0,0,none⟩ (((k:Nat):Int).toNat *1):Addr)=⟨0,k,none⟩:=by
  rw [l'];congr 1;omega
 rw [this];exact h k hk
theorem I0{n:Int}(h:0<=n):IntKind.u16.wrap n=n % 65536:=by
 unfold atj
 simp [ato,atx]
theorem zM{n:Int}(h:0<=n)(ae:n<65536):IntKind.u16.wrap n=n:=by
 rw [I0 h];omega
theorem FD(bQ:a<65536)(ah:b<65536):(atg 16 (a:Int)^^^atg 16 (b:Int)).toNat=a^^^b:=by
 simp only [BitVec.toNat_xor,au1,au2]
 rw [auR (by omega),auR (by omega)]
theorem ON(bQ:a<256):(atg 8 (a:Int)&&&atg 8 15).toNat=a % 16:=by
 have:(atg 8 15).toNat=15:=rfl
 simp only [BitVec.toNat_and,au1,au2,this]
 rw [auR (by omega)]
 exact Nat.and_two_pow_sub_one_eq_mod a 4
theorem fd(a k:Nat)(hk:k≠0):ate (a:Int) (k:Int)=((a/k:Nat):Int):=by
 rw [auI _ (by omega)];rfl
theorem OO{K:Int->J->Prop}(dc:k8 H)(hs:s.size<=1000000000000)(hk:∀H',Fr [] H H'->K (k9 (bj s):Nat) H'):
  aY atf YY ⟨[.string s]⟩ H λv H'=>∃n,v=.int .i64 n/\K n H':=by
 apply YZ
 refine B0 ef.str ef.bL (by kernel_rfl) λq c H1 a1 eo f1=> ?_
 have hlen:=c6 s
 refine⟨λvs ao=>match vs with|[.int _ x,.int _ i]=>∃j:Nat,i=j/\j<=s.size/\x=(k9 ((bj s).take j):Nat)/\ao=H1|_=>False,
  λvs _=>match vs with|[_,.int _ i]=>s.size-i.toNat|_=>0,⟨0,rfl,by omega,rfl,rfl⟩,?_⟩
 rintro bm x i ao ⟨j,rfl,a',rfl,rfl⟩
 have FE:=dc.ab f1
 refine ai (λaD=> ?_) (λaD=> ?_)
 ·have bT:j<s.size:=by simpa using aD
  obtain⟨b,ah⟩:=eR (l:=bj s) (i:=j) (by omega)
  refine eo.get rfl ah (by simp;omega) λal e ak=>⟨b.toNat,iq (by kernel_rfl) ak,?_⟩
  have oa:b.toNat<256:=UInt8.toNat_lt _
  have kU:=FF ((bj s).take j)
  have se:=Y0 ah
  generalize OP:k9 ((bj s).take j)=oU at *
  generalize b.toNat=kj at *
  have bc:IntKind.u16.wrap ((ati (atg 16 (ate (oU:Int) (2^12))^^^atg 16 (IntKind.u16.wrap (ate (kj:Int) (2^4)))):Nat):Int)=((oU/4096^^^kj/16:Nat):Int):=by
   rw [show((2:Int)^12)=((4096:Nat):Int) by rfl,show((2:Int)^4)=((16:Nat):Int) by rfl,fd _ _ (by decide),fd _ _ (by decide),zM (n:=((kj/16:Nat):Int)) (by omega) (by omega),FD (by omega) (by omega)]
   have:=FG (a:=oU/4096) (b:=kj/16) (by omega) (by omega)
   exact zM (by omega) (by omega)
  rw [bc]
  have pH:=FG (a:=oU/4096) (b:=kj/16) (by omega) (by omega)
  refine cb (decide_eq_true (by omega)) ⟨_,FE.ld pH,?_⟩
  have bN:IntKind.u16.wrap ((ati (atg 16 (IntKind.u16.wrap ((oU:Int)*2^4))^^^atg 16 (tp (oU/4096^^^kj/16):Int)):Nat):Int)=(wI oU (kj/16):Nat):=by
   have hw:IntKind.u16.wrap ((oU:Int)*2^4)=((oU*16 % 65536:Nat):Int):=by
    rw [I0 (by omega)];omega
   have:=I1 (oU/4096^^^kj/16)
   rw [hw,FD (by omega) this]
   have ae:=FH (c:=oU) (h:=kj/16)
   unfold wI at ae⊢
   exact zM (by omega) (by omega)
  rw [bN]
  have ay:=FH (c:=oU) (h:=kj/16)
  generalize aO:wI oU (kj/16)=tq at *
  have dP:IntKind.u16.wrap ((ati (atg 16 (ate (tq:Int) (2^12))^^^atg 16 (IntKind.u16.wrap (IntKind.u8.wrap ((ati (atg 8 (kj:Int)&&&atg 8 15):Nat):Int)))):Nat):Int)=((tq/4096^^^kj % 16:Nat):Int):=by
   have hx:IntKind.u8.wrap ((kj % 16:Nat):Int)=((kj % 16:Nat):Int):=by
    rw [uT (by omega)];omega
   rw [ON oa,hx,show((2:Int)^12)=((4096:Nat):Int) by rfl,fd _ _ (by decide),zM (n:=((kj % 16:Nat):Int)) (by omega) (by omega),FD (by omega) (by omega)]
   have:=FG (a:=tq/4096) (b:=kj % 16) (by omega) (by omega)
   exact zM (by omega) (by omega)
  rw [dP]
  have nz:=FG (a:=tq/4096) (b:=kj % 16) (by omega) (by omega)
  refine cb (decide_eq_true (by omega)) ⟨_,FE.ld nz,?_⟩
  have iZ:IntKind.u16.wrap ((ati (atg 16 (IntKind.u16.wrap (IntKind.u16.wrap ((ati (atg 16 (IntKind.u16.wrap ((oU:Int)*2^4))^^^atg 16 (tp (oU/4096^^^kj/16):Int)):Nat):Int)*2^4))^^^atg 16 (tp (tq/4096^^^kj % 16):Int)):Nat):Int)=(wI tq (kj % 16):Nat):=by
   rw [bN]
   have hw:IntKind.u16.wrap ((tq:Int)*2^4)=((tq*16 % 65536:Nat):Int):=by
    rw [I0 (by omega)];omega
   have:=I1 (tq/4096^^^kj % 16)
   rw [hw,FD (by omega) this]
   have ae:=FH (c:=tq) (h:=kj % 16)
   unfold wI at ae⊢
   exact zM (by omega) (by omega)
  first
   |rw [iZ]
   |(rw [bN]at iZ;rw [iZ])
  refine⟨⟨j+1,b6 (by omega),by omega,?_,rfl⟩,?_⟩
  ·rw [se];unfold B1;rw [aO]
  ·show s.size-(IntKind.i64.wrap ((j:Int)+1)).toNat<s.size-((j:Nat):Int).toNat
   rw [b6 (by omega)]
   exact cJ bT
 ·have I2:j=s.size:=by simp at aD;omega
  subst I2
  rw [asG (by omega)]
  have:=FF (bj s)
  rw [dv (by omega) (by omega)]
  exact⟨_,rfl,hk _ f1⟩
theorem OQ{t:TypeId}(xs:List UInt8){vs:List Value}(h:ds H b (.cells ⟨vs⟩ t) H')(aI:vs=xs.map λx=>asK .u8 (x.toNat:Int)):bk fQ H' (some ⟨b,0,none⟩) xs.length xs.length xs:=by
 refine⟨rfl,nQ _,.inr ⟨b,0,rfl,λi y av j v a'=> ?_⟩⟩
 rw [re h.get,aI]
 have:=wJ fQ xs i y av j v a'
 have e:xs.flatMap fQ.cells=xs.map λx=>asK .u8 (x.toNat:Int):=by
  clear this a' av aI
  induction xs with
  |nil=>rfl
  |cons x l ih=>rw [Er,ih];rfl
 rw [e]at this
 simpa using this
theorem two_bytes(h:n<65536):[asK .u8 (IntKind.u8.wrap (ate (n:Int) (2^8))),asK .u8 (IntKind.u8.wrap (n:Int))]=[apK (n/256),apK (n % 256)].map λx=>asK .u8 (x.toNat:Int):=by
 rw [show((2:Int)^8)=((256:Nat):Int) by rfl,fd _ _ (by decide),uT (by omega),uT (by omega)]
 simp only [qO,List.map_nil,atu]
 rw [show(2:Nat)^8=256 by rfl]
 have bc:((n/256:Nat):Int) % 256=((n/256 % 256:Nat):Int):=by omega
 have bN:(n:Int) % 256=((n % 256 % 256:Nat):Int):=by omega
 rw [bc,bN]
theorem OR{K:ByteArray->J->Prop}(dc:k8 H)(hs:s.size<=1000000000000)(hk:∀H',Fr [] H H'->K ⟨(hW s).toArray⟩ H'):
  aY atf Y1 ⟨[.string s]⟩ H λv H'=>∃s,v=.string s/\K s H':=by
 apply Y2
 have ak:=FF (bj s)
 have I3:∀H',Fr [] H H'->da (decide (ath (⟨(cx s).toArray⟩:ByteArray)+ath (⟨[apK (k9 (bj s)/256),apK (k9 (bj s) % 256)].toArray⟩:ByteArray)<=9223372036854775807)) (∃oV,auM ((⟨(cx s).toArray⟩:ByteArray)++⟨[apK (k9 (bj s)/256),apK (k9 (bj s) % 256)].toArray⟩)=.string oV/\K oV H'):=λH' af=>by
  have h1:=hi (n:=s.size) (by omega)
  have ae:(cx s).length<=10+s.size:=by unfold cx;rw [VH,c6];omega
  refine cb (decide_eq_true ?_) ⟨_,rfl,?_⟩
  ·rw [eQ (cx s),eQ [apK (k9 (bj s)/256),apK (k9 (bj s) % 256)]]
   simp only [asE,atc]
   omega
  ·rw [sd (cx s)]
   exact hk H' af
 refine OO dc hs λH1 f1=>⟨?_,λb ao bH=> ?_⟩
 ·refine te (by omega) λao f2 b aF bF=> ?_
  refine zN ef.bL ef.str (by kernel_rfl) (OQ _ bF (two_bytes ak)) ?_
  exact I3 aF ((f1.aw f2).aw bF.ag)
 ·have eo:=OQ _ bH (two_bytes ak)
  refine⟨te (by omega) λaF f3=> ?_,?_⟩
  ·refine zN ef.bL ef.str (by kernel_rfl) (eo.ab f3) ?_
   exact I3 aF ((f1.aw bH.ag).aw f3)
  ·refine zN ef.bL ef.str (by kernel_rfl) eo ?_
   refine te (by omega) λaF f3=> ?_
   exact I3 aF ((f1.aw bH.ag).aw f3)
theorem abO{m:g'}{r:eK}{K:ByteArray->Int->J->Prop}(ah:aU H ⟨b,0,none⟩ (fI m))(h:lK H m r)(cn:pQ r)(dc:rv r)
  (hk:∀H',Fr [] H H'->K ⟨(cD r.rows.length++r.rows.flatMap o5).toArray⟩ 0 H'):
  aY atf abP ⟨[.pointer (some ⟨b,0,none⟩)]⟩ H λv H'=>∃s e,v=.tuple ⟨[.string s,.int .i64 e]⟩/\K s e H':=by
 apply abQ
 have aH:=h.rows.len
 have JR:=cn.nr
 refine⟨_,_,_,ah.gY,?_⟩
 refine one_num ⟨by omega,by omega⟩ λH1 b9=> ?_
 have cI:=ah.ab b9
 refine⟨_,_,_,cI.gY,?_⟩
 have hlen:=Ga (f:=o5) (l:=r.rows) (λx aa=>F8 (cn.row x aa) (dc x aa)) JR
 refine⟨λvs H'=>match vs with
   |[.string s,.int _ i]=>∃k:Nat,i=k/\k<=m.2.2.1.2.1/\s=⟨(qC o5 r.rows k).toArray⟩/\Fr [] H H'
   |_=>False,
  λvs _=>match vs with|[_,.int _ i]=>m.2.2.1.2.1-i.toNat|_=>0,⟨0,rfl,by omega,by unfold qC hz;simp [aH],b9⟩,?_⟩
 rintro bm s i ao ⟨k,rfl,hle,rfl,bt⟩
 refine ai (λaD=> ?_) (λaD=> ?_)
 ·have bT:k<m.2.2.1.2.1:=by simpa using aD
  have b0:r.rows[k]?=some (r.rows[k]'(by omega)):=by simp
  generalize r.rows[k]'(by omega)=x at b0
  have hh:=cn.row x (att b0)
  have eI:=dc x (att b0)
  refine(h.rows.ab bt).get rfl b0 (decide_eq_true (by omega)) λal bS ak=>⟨_,_,_,JJ ak,?_⟩
  refine PV rfl λbx aF hbx aI bG=>⟨_,aI.i0,_,aI.i1,_,aI.i2,?_⟩
  intro fz aN cp
  have rh:bk b' aN (some ⟨fz,0,none⟩) 2 2 [x.1,x.2.1]:=PZ [x.1,x.2.1] cp rfl
  have yo:=aI.ab cp.ag
  refine⟨yo.i2,F6 rh (by omega) (λy av=> ?_) λbw bW=>⟨(yo.ab bW).i2,P0 eI λbY cB=> ?_⟩⟩
  ·simp at av
   unfold yn
   have:=hh.1;have:=hh.2
   rcases av with rfl|rfl<;>omega
  ·have e:[x.1,x.2.1].flatMap hz=hz x.1++hz x.2.1:=by simp
   rw [e]
   have h1:=hlen k
   have ae:=F8 hh eI
   have au:=eQ (qC o5 r.rows k)
   have a6:=eQ (hz x.1++hz x.2.1)
   have bu:=eQ (oo x.2.2)
   have ca:(hz x.1++hz x.2.1).length+(oo x.2.2).length=(o5 x).length:=by unfold o5;simp only [VH];omega
   refine cb (decide_eq_true (by omega)) (cb (decide_eq_true (by rw [qD];omega)) ⟨⟨k+1,by rw [b6 (by omega)],by omega,?_,(((bt.aw bG).aw cp.ag).aw bW).aw cB⟩,by rw [b6 (by omega)];exact cJ bT⟩)
   rw [sd,sd,PY b0]
   unfold o5;simp
 ·rw [Gb (by simp at aD;omega)]
  exact⟨_,_,rfl,hk ao bt⟩
theorem abR{K:Value->Value->Value->Value->Value->Value->Value->Value->J->Prop}(hk:∀H',Fr [] H H'->K (.func (.func 214) ⟨[]⟩ ⟨[]⟩) (.func (.func 215) ⟨[]⟩ ⟨[]⟩) (.func (.func 216) ⟨[]⟩ ⟨[]⟩) (.func (.func 219) ⟨[]⟩ ⟨[]⟩) (.func (.func 221) ⟨[]⟩ ⟨[]⟩) (.func (.func 222) ⟨[]⟩ ⟨[]⟩) (.func (.func 223) ⟨[]⟩ ⟨[]⟩) (.func (.func 224) ⟨[]⟩ ⟨[]⟩) H'):
  aY atf abS ⟨[]⟩ H λv H'=>∃jG u5 yp CD x5 CE CF CG,v=.agg ⟨[jG,u5,yp,CD,x5,CE,CF,CG]⟩/\K jG u5 yp CD x5 CE CF CG H':=by
 apply abT
 intro b H1 aB
 refine aB.bo.jq (v:=.agg ⟨_⟩) (by kernel_rfl) (by kernel_rfl) (λx aa=> ?_) (by simp [atq]) λao b8 bt=> ?_
 ·simp [atq]at aa
  rcases aa with rfl|rfl|rfl|rfl|rfl|rfl|rfl|rfl<;>rfl
 ·have od:aU ao ⟨b,0,none⟩ [.func (.func 214) ⟨[]⟩ ⟨[]⟩,.func (.func 215) ⟨[]⟩ ⟨[]⟩,.func (.func 216) ⟨[]⟩ ⟨[]⟩,.func (.func 219) ⟨[]⟩ ⟨[]⟩,.func (.func 221) ⟨[]⟩ ⟨[]⟩,.func (.func 222) ⟨[]⟩ ⟨[]⟩,.func (.func 223) ⟨[]⟩ ⟨[]⟩,.func (.func 224) ⟨[]⟩ ⟨[]⟩]:=by simpa [atq]using b8
  exact⟨_,_,_,_,_,_,_,_,od.dX (by kernel_rfl) (by kernel_rfl) rfl,_,_,_,_,_,_,_,_,rfl,hk ao (aB.ag.ab bt (λk hk=>by simp at hk;have:=aB.eq;omega))⟩
theorem abU{r:eK}(cn:pQ r)(dc:rv r)(cL:r.k=0->fE r.l):(lh r).length<=200000:=by
 unfold lh
 split
 ·rename_i h
  have:=wH (cL h)
  unfold cx
  rw [VH,IX]
  have ae:(oS r.l).size<=700:=by rw [<-c6,IX];exact this
  have:=hi (n:=(oS r.l).size) (by omega)
  omega
 ·split
  ·have:=Ga (f:=o5) (l:=r.rows) (λx aa=>F8 (cn.row x aa) (dc x aa)) cn.nr r.rows.length
   rwa [Gb (nQ _)]at this
  ·split
   ·have:=Ga (f:=pR) (l:=r.fq) (λx aa=>F9 (cn.tomb x aa)) cn.F5 r.fq.length
    rwa [Gb (nQ _)]at this
   ·have:=tL (v:=r.at') ⟨cn.at'.1,by have:=cn.at'.2;omega⟩
    omega
theorem P1{b1 b2:Nat}{e:Int}{K:Value->J->Prop}(h1:aU H ⟨b1,0,none⟩ [.string s])(ae:aU H ⟨b2,0,none⟩ [.int .i64 e])(cH:b1≠b2)
  (hk:∀H',aU H' ⟨b1,0,none⟩ [.string (if e=0 then s else⟨#[]⟩)]->aU H' ⟨b2,0,none⟩ [.int .i64 e]->Fr [b1] H H'->K (.tuple ⟨[]⟩) H'):
  wo atf 257 ⟨[.pointer (some ⟨b2,0,none⟩),.pointer (some ⟨b1,0,none⟩)]⟩ H K:=by
 apply abV
 refine⟨_,ae.b5 (by kernel_rfl) rfl,ai (λh=> ?_) (λh=> ?_)⟩
 ·have h:e≠0:=by simpa using h
  rw [if_neg h]at hk
  refine h1.jq (v:=.string ⟨#[]⟩) (by kernel_rfl) (by kernel_rfl) (λx aa=>by simp [atq]at aa;subst aa;rfl) (by simp [atq]) λH' ah af=>hk H' ah (ae.ag af (by simp;exact λe=>cH e.symm)) af
 ·have h:e=0:=by simpa using h
  rw [if_pos h]at hk
  exact hk H h1 ae (Fr.refl _ _)
theorem st1{P:Program}{t:TypeId}{v w:Value}{X:J->Prop}(h:aU H ⟨b,0,none⟩ [v])(hs:hV P t=w.cells.size)(az:(P.info? t).isSome=true)(h1:∀x∈w.cells.toList,x.oneCell'=true)(hw:w.cells.toList=[w])
  (k:∀H',aU H' ⟨b,0,none⟩ [w]->Fr [b] H H'->X H'):∃H',fb P t H ⟨b,0,none⟩ w H'/\X H':=
 h.jq (v:=w) hs az h1 (by have:=congrArg List.length hw;simp at this;simp [this]) λH' ah af=>k H' (by rw [hw]at ah;simpa using ah) af
theorem IY{m:g'}{r:eK}{K:ByteArray->Int->J->Prop}(h:lK H m r)(hs:Small m)(dc:rv r)
  (abW:¬pQ r->∀H',Fr [] H H'->K ⟨#[]⟩ 1 H') (abX:pQ r->r.k=0->¬fE r.l->∀H',Fr [] H H'->K ⟨#[]⟩ 40 H')
  (ff:pQ r->(r.k=0->fE r.l)->∀H',Fr [] H H'->K ⟨(kr r).toArray⟩ 0 H'):
  aY atf P2 ⟨[.agg ⟨fI m⟩]⟩ H λv H'=>∃s e,v=.tuple ⟨[.string s,.int .i64 e]⟩/\K s e H':=by
 apply abY
 intro b H1 aB b1 ao bH b2 aF bF
 have dN:=aB.eq
 have dm:=bH.eq
 have hQ:=bF.eq
 have hR:=aB.size
 have z2:=bH.size
 have z3:=bF.size
 have ah:aU aF ⟨b,0,none⟩ (fI m):=(aB.bo.ab bH.ag).ab bF.ag
 have h1:aU aF ⟨b1,0,none⟩ [.string ⟨#[]⟩]:=bH.bo.ab bF.ag
 have ae:aU aF ⟨b2,0,none⟩ [.int .i64 0]:=bF.bo
 have bG:Fr [] H aF:=(aB.ag.aw bH.ag).aw bF.ag
 have au:=h.ab bG
 have fe:∀k∈[b1],H.size<=k:=λk hk=>by simp at hk;omega
 have gq:∀k∈[b2],H.size<=k:=λk hk=>by simp at hk;omega
 refine⟨_,_,_,_,_,_,_,_,_,_,_,ah.dX (us:=fI m) (by kernel_rfl) (by kernel_rfl) rfl,?_⟩
 refine abw au hs (λcn aN bU=> ?_) λcn aN bU=> ?_
 rotate_left
 ·
  refine ai (λ_=> ?_) (λh=>by cases h)
  refine st1 (h1.ab bU) (by kernel_rfl) (by kernel_rfl) (λx aa=>by simp [atq]at aa;subst aa;rfl) rfl λbw g1 f5=> ?_
  refine st1 ((ae.ab bU).ag f5 (by simp;omega)) (by kernel_rfl) (by kernel_rfl) (λx aa=>by simp [atq]at aa;subst aa;rfl) rfl λbY g2 f6=> ?_
  refine P1 (g1.ag f6 (by simp;omega)) g2 (by omega) λcC g3 g4 f7=>⟨_,g3.b5 (by kernel_rfl) rfl,_,g4.b5 (by kernel_rfl) rfl,_,_,rfl,?_⟩
  rw [if_neg (by decide)]
  exact abW cn cC ((((bG.aw bU).ab f5 fe).ab f6 gq).ab f7 fe)
 have dY:=ah.ab bU
 have Gc:=bG.aw bU
 have hk:=cn.k
 refine ai (λh=>by cases h) (λ_=>⟨_,dY.iH,abR λbw bW=> ?_⟩)
 have dI:=dY.ab bW
 have qy:=Gc.aw bW
 have bu:=h.ab qy
 refine⟨dI.iH,cb (decide_eq_true (by rw [h.k];omega)) ?_⟩
 have tail:∀{s:ByteArray} {e:Int} {H':J},Fr [] bw H'->s.size<=300000->(∀H',Fr [] H H'->K (if e=0 then⟨(hz r.k).toArray⟩++s else⟨#[]⟩) e H')→
   ∃ft,fb atf 32 H' ⟨b2,0,none⟩ (.int .i64 e) ft/\∃n,cR atf 3 ft ⟨b,0,none⟩ (.int .i64 n)/\∃hZ,cR atf 32 ft ⟨b2,0,none⟩ (.int .i64 hZ)/\∀(b:Nat) (H':J),ds ft b (.cells ⟨[.int .i64 n]⟩ 3) H'->cR atf 32 H' ⟨b2,0,none⟩ (.int .i64 hZ)/\aY atf 217 ⟨[.slice (some ⟨b,0,none⟩) 1 1]⟩ H' λv H'=>∃yq,v=.string yq/\cR atf 32 H' ⟨b2,0,none⟩ (.int .i64 hZ)∧
    da (decide (ath yq+ath s<=9223372036854775807)) (∃hS,fb atf 9 H' ⟨b1,0,none⟩ (.string (yq++s)) hS/\cR atf 32 hS ⟨b2,0,none⟩ (.int .i64 hZ)/\∃H',fb atf 32 hS ⟨b2,0,none⟩ (.int .i64 hZ) H'/\wo atf 257 ⟨[.pointer (some ⟨b2,0,none⟩),.pointer (some ⟨b1,0,none⟩)]⟩ H' λx cG=>∃s,cR atf 9 cG ⟨b1,0,none⟩ (.string s)/\∃n,cR atf 32 cG ⟨b2,0,none⟩ (.int .i64 n)/\∃oV e,Value.tuple ⟨[.string s,.int .i64 n]⟩=.tuple ⟨[.string oV,.int .i64 e]⟩/\K oV e cG):=by
  intro s e bY cB JS cP
  have l7:=qy.aw cB
  have g1:aU bY ⟨b1,0,none⟩ [.string ⟨#[]⟩]:=((h1.ab bU).ab bW).ab cB
  have g2:aU bY ⟨b2,0,none⟩ [.int .i64 0]:=((ae.ab bU).ab bW).ab cB
  refine st1 g2 (by kernel_rfl) (by kernel_rfl) (λx aa=>by simp [atq]at aa;subst aa;rfl) rfl λcC g2 f7=> ?_
  have ji:=(dI.ab cB).ag f7 (by simp;omega)
  have g1:=g1.ag f7 (by simp;omega)
  refine⟨_,ji.iH,_,g2.b5 (by kernel_rfl) rfl,?_⟩
  rw [h.k]
  intro ks ed jB
  have g2:=g2.ab jB.ag
  have g1:=g1.ab jB.ag
  refine⟨g2.b5 (by kernel_rfl) rfl,?_⟩
  refine F6 (gd b' r.k jB rfl) (by omega) (λx aa=>by simp at aa;subst aa;exact⟨hk.1,by have:=hk.2;omega⟩) λee pF=> ?_
  have g2:=g2.ab pF
  have g1:=g1.ab pF
  have abZ:[r.k].flatMap hz=hz r.k:=by simp
  rw [abZ]
  have z8:=tL (v:=r.k) ⟨hk.1,by have:=hk.2;omega⟩
  have dC:=eQ (hz r.k)
  refine⟨g2.b5 (by kernel_rfl) rfl,cb (decide_eq_true (by omega)) ?_⟩
  refine st1 g1 (by kernel_rfl) (by kernel_rfl) (λx aa=>by simp [atq]at aa;subst aa;rfl) rfl λfx g1 f10=> ?_
  have g2:=g2.ag f10 (by simp;omega)
  refine⟨g2.b5 (by kernel_rfl) rfl,?_⟩
  refine st1 g2 (by kernel_rfl) (by kernel_rfl) (λx aa=>by simp [atq]at aa;subst aa;rfl) rfl λlE g2 f11=> ?_
  refine P1 (g1.ag f11 (by simp;omega)) g2 (by omega) λn1 g3 g4 f12=>⟨_,g3.b5 (by kernel_rfl) rfl,_,g4.b5 (by kernel_rfl) rfl,_,_,rfl,?_⟩
  exact cP n1 ((((((l7.ab f7 gq).aw jB.ag).aw pF).ab f10 fe).ab f11 gq).ab f12 fe)
 have yes:(r.k=0->fE r.l)->∀H',Fr [] H H'->K (⟨(hz r.k).toArray⟩++⟨(lh r).toArray⟩) 0 H':=λcL H' dZ=>by
  rw [sd];exact ff cn cL H' dZ
 have fi:=λcL=>abU cn dc cL
 have CB:=eQ (lh r)
 rcases(by omega:r.k=0\/r.k=1\/r.k=2\/r.k=3)with e|e|e|e
 ·rw [h.k,e]
  refine⟨.func (.func 214) ⟨[]⟩ ⟨[]⟩,.func (.func 215) ⟨[]⟩ ⟨[]⟩,by unfold iB;kernel_rfl,214,⟨[]⟩,⟨[]⟩,rfl,by kernel_rfl,?_⟩
  refine abF dI bu hs (λcL s bY JS cB=> ?_) λcL bY cB=> ?_
  ·exact tail (s:=s) (e:=40) cB (by omega) λH' dZ=>by rw [if_neg (by decide)];exact abX cn e cL H' dZ
  ·have kE:lh r=cx (oS r.l):=by unfold lh;rw [if_pos e]
   rw [<-kE]
   have:=fi λ_=>cL
   exact tail (s:=⟨(lh r).toArray⟩) (e:=0) cB (by omega) λH' dZ=>by rw [if_pos rfl];exact yes (λ_=>cL) H' dZ
 ·rw [h.k,e]
  refine⟨.func (.func 216) ⟨[]⟩ ⟨[]⟩,.func (.func 219) ⟨[]⟩ ⟨[]⟩,by unfold iB;kernel_rfl,216,⟨[]⟩,⟨[]⟩,rfl,by kernel_rfl,?_⟩
  refine abO dI bu cn dc λbY cB=> ?_
  have kE:lh r=cD r.rows.length++r.rows.flatMap o5:=by unfold lh;rw [if_neg (by omega),if_pos e]
  rw [<-kE]
  have:=fi λh=>by omega
  exact tail (s:=⟨(lh r).toArray⟩) (e:=0) cB (by omega) λH' dZ=>by rw [if_pos rfl];exact yes (λh=>by omega) H' dZ
 ·rw [h.k,e]
  refine⟨.func (.func 221) ⟨[]⟩ ⟨[]⟩,.func (.func 222) ⟨[]⟩ ⟨[]⟩,by unfold iB;kernel_rfl,221,⟨[]⟩,⟨[]⟩,rfl,by kernel_rfl,?_⟩
  refine abL dI bu cn λbY cB=> ?_
  have kE:lh r=cD r.fq.length++r.fq.flatMap pR:=by unfold lh;rw [if_neg (by omega),if_neg (by omega),if_pos e]
  rw [<-kE]
  have:=fi λh=>by omega
  exact tail (s:=⟨(lh r).toArray⟩) (e:=0) cB (by omega) λH' dZ=>by rw [if_pos rfl];exact yes (λh=>by omega) H' dZ
 ·rw [h.k,e]
  refine⟨.func (.func 223) ⟨[]⟩ ⟨[]⟩,.func (.func 224) ⟨[]⟩ ⟨[]⟩,by unfold iB;kernel_rfl,223,⟨[]⟩,⟨[]⟩,rfl,by kernel_rfl,?_⟩
  refine abI dI bu cn λbY cB=> ?_
  have kE:lh r=hz r.at':=by unfold lh;rw [if_neg (by omega),if_neg (by omega),if_neg (by omega)]
  rw [<-kE]
  have:=fi λh=>by omega
  exact tail (s:=⟨(lh r).toArray⟩) (e:=0) cB (by omega) λH' dZ=>by rw [if_pos rfl];exact yes (λh=>by omega) H' dZ
def pT:dd g':=⟨fI,5,λ_=>rfl,by decide,λm v h=>by simp [fI]at h;rcases h with rfl|rfl|rfl|rfl|rfl<;>rfl⟩
def qE(H:J)(ms:List g')(rs:List eK):Prop:=ms.length=rs.length/\∀(i:Nat) m r,ms[i]?=some m->rs[i]?=some r->lK H m r
theorem qE.at{ms:List g'}{rs:List eK}(h:qE H ms rs){m:g'}(hm:ms[i]?=some m):∃r,rs[i]?=some r/\lK H m r:=by
 have az:=(qb.1 hm).1
 have aA:rs[i]?=some (rs[i]'(by have:=h.1;omega)):=by simp
 exact⟨_,aA,h.2 i m _ hm aA⟩
theorem qE.one{m:g'}{r:eK}(h:lK H m r):qE H [m] [r]:=⟨rfl,λi m' eU hm aA=>by
 cases i with
 |zero=>simp at hm aA;subst hm aA;exact h
 |succ i=>simp at hm⟩
theorem P3{m:g'}(h:eP H al (pT.cells m)):cR atf 84 H al (.agg ⟨fI m⟩):=CA (by kernel_rfl) (by kernel_rfl) h
structure pS(r:eK):Prop where
 u6:pQ r
 typ:rv r
 da:r.k=0->fE r.l
def m0(k:Int):g':=(k,(none,0,0),(none,0,0),(none,0,0),0)
theorem Gd{m m':g'}{X:J->Prop}(h:aU H ⟨b,0,none⟩ (fI m'))(k:∀H',aU H' ⟨b,0,none⟩ (fI m)->Fr [b] H H'->X H'):∃H',fb atf 84 H ⟨b,0,none⟩ (.agg ⟨fI m⟩) H'/\X H':=
 h.jq (v:=.agg ⟨fI m⟩) (by kernel_rfl) (by kernel_rfl) (λx aa=>by simp [atq,fI]at aa;rcases aa with rfl|rfl|rfl|rfl|rfl<;>rfl) (by simp [atq,fI]) λH' ah af=>k H' (by simpa [atq,fI]using ah) af
end Go.Proofs
namespace Go.bs
variable{l D t:Nat}{H0 H':J}
theorem fa.ag{H:J}{bM:Loop}{st:LoopState}{j:Option Code}{T:List Nat}(h:fa H l bM st j)(af:Fr T H H')(ay:l∉T):fa H' l bM st j:=af.get h ay
theorem fa.lt{H:J}{bM:Loop}{st:LoopState}{j:Option Code}(h:fa H l bM st j):l<H.size:=k2 h
theorem tx(H:J)(l:Nat)(bM:Loop)(st:LoopState)(j:Option Code):Fr [l] H (dR H l bM st j):=MN H l _
theorem HI{H:J}{bM:Loop}{st:LoopState}{j:Option Code}(h:l<H.size):fa (dR H l bM st j) l bM st j:=by
 simp [fa,dR,h]
theorem HJ(H:J)(l:Nat)(bM:Loop)(st:LoopState)(j:Option Code):(dR H l bM st j).size=H.size:=by simp [dR]
theorem lU.ag{H:J}{T:List Nat}(h:lU H D)(af:Fr T H H')(ay:D∉T):lU H' D:=af.get h ay
theorem Vq(H:J)(D:Nat):Fr [D] H (mx H D):=MN H D _
theorem vT.out{H:J}{bM:Loop}(h:vT H D l bM H'):Fr [] H H'/\fa H' l bM .ready none/\lU H' D/\D=H.size/\l=H.size+1/\H'.size=H.size+2:=by
 obtain⟨rfl,rfl,rfl⟩:=h
 refine⟨(Ca _ _).aw (Ca _ _),?_,?_,rfl,rfl,by simp⟩
 ·unfold fa
  rw [show H.size+1=(H.push (.deferred (some []))).size by simp]
  exact Array.getElem?_push_size
 ·simp [lU,Array.getElem?_push]
def wL{α:Type}(P:Program)(enc:α->Value)(seq:Value)(A F:List α->Prop)(Q:List Nat)(G:J->Prop):Prop:=
 ∀(l:Nat) (H:J) (cc:List α->List Nat->J->Prop) (K:J->Prop) (S:List Nat),G H->In H S->e2 S Q->cc [] S H→
  (∀ys S H1 ao T,cc ys S H1->Fr T H1 ao->e2 S T->(∀k∈T,H.size<=k)->cc ys S ao)→
  (∀ys x S H1,A (ys++[x])->In H1 S->cc ys S H1->rR P l [enc x] H1 λv ao=>v=.bool true/\∃S2,cc (ys++[x]) S2 ao/\Fr S H1 ao/\Grow H1 S S2/\In ao S2)→
  (∀xs dn H1,F xs->cc xs dn H1->In H1 dn->Fr S H H1->Grow H S dn->K H1)→
  dO P seq [.func (.yield l) #[] #[]] H λv H'=>v=.tuple ⟨[]⟩/\K H'
structure nB{α:Type}(E:dd α)(t base:Nat)(l D b:Nat)(bM:Loop)(H0:J)(ys:List α)(S:List Nat)(H:J):Prop where
 ag:Fr [] H0 H
 mz:fa H l bM .ready none
 dq:lU H D
 it:∃a n c,aU H ⟨b,0,none⟩ [.slice a n c]/\Own E t base H a n c ys/\S=b::l::D::ax a/\b∉ax a/\l∉ax a/\D∉ax a
 bj:b≠l
 bD:b≠D
 a7:l≠D
 er:∀k∈S,H0.size<=k
theorem Pc{α:Type}{P:Program}{E:dd α}{enc:α->Value}{ts bytes:Nat}{seq:Value}{A F:List α->Prop}{Q:List Nat}{G:J->Prop}{K:Option Addr->Nat->Nat->J->Prop}
  (eo:sliceB P ts t=true) (rz:jC P t E.sz bytes=true) (qB:pN P ts=false) (dC:hV P ts=1) (AZ:(P.info? ts).isSome=true) (MO:∀x,E.cells x=[enc x]) (a1:wL P enc seq A F Q G)
  (e0:∀ys,A ys->ys.length*bytes<=140737488355328) (b4:∀H',Fr [] H0 H'->G H') (cg:∀k∈Q,k<H0.size)
  (hk:∀xs a n c H',F xs->Own E t H0.size H' a n c xs->Fr [] H0 H'->K a n c H'):
  ∀(b:Nat) (H':J),ds H0 b (.cells ⟨[.slice none 0 0]⟩ ts) H'->∀(D l:Nat) (bM:Loop) (H1:J),vT H' D l bM H1→
   (∀(x:α) (ao:J) (ju:Value->J->Prop),fa ao l bM .ready none→
    (fa ao l bM .ready none/\∃a n c,cR P ts (dR ao l bM .busy none) ⟨b,0,none⟩ (.slice a n c)∧
     ∀(b1:Nat) (H':J),ds (dR ao l bM .busy none) b1 (.cells ⟨[enc x]⟩ t) H'→
      cj P (Builtin.append_ ⟨[ts,ts]⟩ ts ⟨[.slice a n c,.slice (some ⟨b1,0,none⟩) 1 1]⟩) H' λv H'=>∃a n c,v=.slice a n c∧
       ∃aF,fb P ts H' ⟨b,0,none⟩ (.slice a n c) aF/\fa aF l bM .busy none/\ju (.bool true) (dR aF l bM .ready none))→
    rR P l [enc x] ao λa fh=>ju a fh)→
   dO P seq [.func (.yield l) ⟨[]⟩ ⟨[]⟩] H1 λx aN=>
    (fa aN l bM .ready none/\∃a n c,cR P ts (dR aN l bM .exhausted none) ⟨b,0,none⟩ (.slice a n c)/\lU (dR aN l bM .exhausted none) D/\K a n c (mx (dR aN l bM .exhausted none) D))∨
    fa aN l bM .done (some .ret)/\lU (dR aN l bM .exhausted (some .ret)) D/\K none 0 0 (mx (dR aN l bM .exhausted (some .ret)) D):=by
 intro b H' ay D l bM H1 kV sh
 obtain⟨b9,MP,MQ,dz,aH,e6⟩:=kV.out
 have ah:=ay.eq
 have ij:=ay.size
 have Vr:Fr [] H0 H1:=ay.ag.aw b9
 have hblk:aU H1 ⟨b,0,none⟩ [.slice none 0 0]:=ay.bo.ab b9
 refine dO.mono (a1 l H1 (nB E t H0.size l D b bM H0) (λaN=>_) [b,l,D] (b4 H1 Vr) ?_ ?_ ?_ ?_ ?_ λxs dn aN cn eI eC lJ aZ=> ?_) λv aN h=>h.2
 ·intro k hk
  simp only [o3,aty,or_false]at hk
  omega
 ·intro k hk Jh
  have:=cg k Jh
  simp only [o3,aty,or_false]at hk
  omega
 ·exact⟨Vr,MP,MQ,⟨none,0,0,hblk,Own.nil ..,rfl,by simp [ax],by simp [ax],by simp [ax]⟩,by omega,by omega,by omega,λk hk=>by
   simp only [o3,aty,or_false]at hk
   omega⟩
 ·intro ys S wP B9 T eI af aO dc
  obtain⟨h1,ae,au,⟨a,n,c,fR,an,bI,cW,cr,fG⟩,dN,dm,hQ,hC⟩:=eI
  have m:∀k∈S,k∉T:=aO
  have DE:b∉T:=m b (by simp [bI])
  have MR:l∉T:=m l (by simp [bI])
  have MS:D∉T:=m D (by simp [bI])
  refine⟨h1.ab af λk hk=>by have:=dc k hk;omega,ae.ag af MR,au.ag af MS,⟨a,n,c,fR.ag af DE,an.ag af λal e=>m _ (by simp [bI,e,ax]),bI,cW,cr,fG⟩,dN,dm,hQ,hC⟩
 ·intro ys x S ao apa eC eI
  obtain⟨h1,ae,au,⟨a,n,c,fR,an,bI,cW,cr,fG⟩,dN,dm,hQ,hC⟩:=eI
  subst bI
  refine sh x ao _ ae ⟨ae,a,n,c,?_,λb1 aF bF=> ?_⟩
  ·have:=(fR.ag (tx ao l bM .busy none) (by simp [dN])).b5 (t:=ts) qB rfl
   exact this
  ·have rP:=tx ao l bM .busy none
   have apb:=HJ ao l bM .busy none
   have de:=an.ag rP (λal e aq=>cr (by simp only [ar7]at aq;simp [e,ax,aq]))
   have tY:H0.size<=aF.size:=by have:=h1.size;have:=bF.size;omega
   have hlen:=e0 _ apa
   refine iD eo rz (de.ab bF.ag) (gd E x bF (MO x).symm) tY (by rw [an.1];simpa using hlen) λaK aQ aT aN eV bU lD=> ?_
   have dQ:=((fR.ag rP (by simp [dN])).ab bF.ag).ag bU cW
   refine dQ.jq (v:=.slice aK aQ aT) dC AZ (λx aa=>by simp [atq]at aa;subst aa;rfl) (by simp [atq]) λbw dI bW=> ?_
   have cF:=ae.lt
   have l5:∀k∈ax aK,k∈ax a\/ao.size<=k:=λk hk=>(lD k hk).imp id λh=>by have:=bF.size;omega
   have fi:b<ao.size:=eC b (by simp)
   have apc:D<ao.size:=eC D (by simp)
   have ub:b∉ax aK:=λhk=>(l5 b hk).elim cW λh=>by omega
   have nl:l∉ax aK:=λhk=>(l5 l hk).elim cr λh=>by omega
   have MT:D∉ax aK:=λhk=>(l5 D hk).elim fG λh=>by omega
   have MU:fa aF l bM .busy none:=(HI cF).ag bF.ag (by simp)
   have y1:fa bw l bM .busy none:=(MU.ag bU cr).ag bW (by simp;exact λe=>dN e.symm)
   have lW:=tx bw l bM .ready none
   have f25:Fr (b::l::D::ax a) ao bw:=by
    have g1:Fr (b::l::D::ax a) ao aF:=rP.trans' bF.ag (λk hk _=>by simp at hk;simp [hk]) (by simp)
    have g2:Fr (b::l::D::ax a) ao aN:=g1.trans' bU (λk hk _=>hk) (λk hk _=>by simp [hk])
    exact g2.trans' bW (λk hk _=>hk) (λk hk _=>by simp at hk;simp [hk])
   have f26:Fr (b::l::D::ax a) ao (dR bw l bM .ready none):=f25.trans' lW (λk hk _=>hk) (λk hk _=>by simp at hk;simp [hk])
   refine⟨y1,rfl,b::l::D::ax aK,?_,f26,?_,?_⟩
   ·refine⟨h1.ab f26 hC,HI y1.lt,?_,⟨aK,aQ,aT,?_,?_,rfl,ub,nl,MT⟩,dN,dm,hQ,?_⟩
    ·refine((((au.ag rP (by simp;exact λe=>hQ e.symm)).ag bF.ag (by simp)).ag bU fG).ag bW (by simp;exact λe=>dm e.symm)).ag lW (by simp;exact λe=>hQ e.symm)
    ·have gj:=dI.ag lW (by simp [dN])
     simpa [atq]using gj
    ·refine(eV.ag bW λal e aq=>ub (by simp only [ar7]at aq;simp [e,ax,aq])).ag lW λal e aq=>nl (by simp only [ar7]at aq;simp [e,ax,aq])
    ·intro k hk
     simp only [o3]at hk
     rcases hk with rfl|rfl|rfl|hk
     ·exact hC _ (by simp)
     ·exact hC _ (by simp)
     ·exact hC _ (by simp)
     ·exact(eV.ge k hk).1
   ·intro k hk
    simp only [o3]at hk
    rcases hk with rfl|rfl|rfl|hk
    ·exact .inl (by simp)
    ·exact .inl (by simp)
    ·exact .inl (by simp)
    ·exact(l5 k hk).imp (λh=>by simp [h]) id
   ·intro k hk
    have nO:=HJ bw l bM .ready none
    have je:=f25.size
    have apd:=bW.size
    simp only [o3]at hk
    rcases hk with rfl|rfl|rfl|hk
    ·omega
    ·omega
    ·omega
    ·have:=(eV.ge k hk).2;omega
 ·obtain⟨h1,ae,au,⟨a,n,c,fR,an,bI,cW,cr,fG⟩,dN,dm,hQ,hC⟩:=eI
  subst bI
  have lW:=tx aN l bM .exhausted none
  have A0:=Vq (dR aN l bM .exhausted none) D
  refine .inl ⟨ae,a,n,c,(fR.ag lW (by simp [dN])).b5 qB rfl,au.ag lW (by simp;exact λe=>hQ e.symm),hk xs a n c _ cn ?_ ?_⟩
  ·exact(an.ag lW λal e aq=>cr (by simp only [ar7]at aq;simp [e,ax,aq])).ag A0 λal e aq=>fG (by simp only [ar7]at aq;simp [e,ax,aq])
  ·refine(h1.ab lW λk hk=> ?_).ab A0 λk hk=> ?_
   ·simp at hk;subst hk;exact hC _ (by simp)
   ·simp at hk;subst hk;exact hC _ (by simp)
theorem nB.stay{α:Type}{E:dd α}{base b:Nat}{bM:Loop}{wP B9:J}{ys:List α}{S T:List Nat}(eI:nB E t base l D b bM H0 ys S wP)(af:Fr T wP B9)(aO:e2 S T)(dc:∀k∈T,H0.size<=k):nB E t base l D b bM H0 ys S B9:=by
 obtain⟨h1,ae,au,⟨a,n,c,fR,an,bI,cW,cr,fG⟩,dN,dm,hQ,hC⟩:=eI
 have m:∀k∈S,k∉T:=aO
 have DE:b∉T:=m b (by simp [bI])
 have MR:l∉T:=m l (by simp [bI])
 have MS:D∉T:=m D (by simp [bI])
 exact⟨h1.ab af dc,ae.ag af MR,au.ag af MS,⟨a,n,c,fR.ag af DE,an.ag af λal e=>m _ (by simp [bI,e,ax]),bI,cW,cr,fG⟩,dN,dm,hQ,hC⟩
theorem nB.start{α:Type}{E:dd α}{b:Nat}{bM:Loop}{H1:J}(wX:Fr [] H0 H')(ah:aU H' ⟨b,0,none⟩ [.slice none 0 0])(KG:H0.size<=b)(kV:vT H' D l bM H1):nB E t H0.size l D b bM H0 ([]:List α) [b,l,D] H1/\In H1 [b,l,D]:=by
 obtain⟨b9,MP,MQ,dz,aH,e6⟩:=kV.out
 have cF:=ah.lt
 have ij:=wX.size
 refine⟨⟨wX.aw b9,MP,MQ,⟨none,0,0,ah.ab b9,Own.nil ..,rfl,by simp [ax],by simp [ax],by simp [ax]⟩,by simp at cF;omega,by simp at cF;omega,by omega,λk hk=> ?_⟩,λk hk=> ?_⟩
 ·simp only [o3,aty,or_false]at hk
  omega
 ·simp only [o3,aty,or_false]at hk
  simp at cF
  omega
theorem nB.more{α:Type}{P:Program}{E:dd α}{vs:List Value}{ts bytes b:Nat}{bM:Loop}{ao sj:J}{ys:List α}{x:α}{S:List Nat}{a:Option Addr}{n c:Nat}{K:J->Prop}
  (eo:sliceB P ts t=true) (rz:jC P t E.sz bytes=true) (dC:hV P ts=1) (AZ:(P.info? ts).isSome=true) (MO:E.cells x=vs)
  (eI:nB E t H0.size l D b bM H0 ys S ao) (eC:In ao S) (fR:aU ao ⟨b,0,none⟩ [.slice a n c]) (an:Own E t H0.size ao a n c ys) (bI:S=b::l::D::ax a) (cW:b∉ax a) (cr:l∉ax a) (fG:D∉ax a) (hlen:(ys.length+1)*bytes<=140737488355328)
  (aa:Fr [] (dR ao l bM .busy none) sj)
  (hk:∀bw S2,fa bw l bM .busy none->nB E t H0.size l D b bM H0 (ys++[x]) S2 (dR bw l bM .ready none)->Fr S ao (dR bw l bM .ready none)->Grow ao S S2->In (dR bw l bM .ready none) S2->K bw):
  ∀b1 aF,ds sj b1 (.cells ⟨vs⟩ t) aF->cj P (Builtin.append_ ⟨[ts,ts]⟩ ts ⟨[.slice a n c,.slice (some ⟨b1,0,none⟩) 1 1]⟩) aF λv H'=>∃a n c,v=.slice a n c/\∃bw,fb P ts H' ⟨b,0,none⟩ (.slice a n c) bw/\K bw:=by
 intro b1 aF bF
 obtain⟨h1,ae,au,_,dN,dm,hQ,hC⟩:=eI
 subst bI
 have rP:=tx ao l bM .busy none
 have apb:=HJ ao l bM .busy none
 have zb:Fr [] (dR ao l bM .busy none) aF:=aa.aw bF.ag
 have de:=an.ag rP (λal e aq=>cr (by simp only [ar7]at aq;simp [e,ax,aq]))
 have tY:H0.size<=aF.size:=by have:=h1.size;have:=zb.size;omega
 refine iD eo rz (de.ab zb) (gd E x bF MO.symm) tY (by rw [an.1];exact hlen) λaK aQ aT aN eV bU lD=> ?_
 have dQ:=((fR.ag rP (by simp [dN])).ab zb).ag bU cW
 refine dQ.jq (v:=.slice aK aQ aT) dC AZ (λx aa=>by simp [atq]at aa;subst aa;rfl) (by simp [atq]) λbw dI bW=> ?_
 have cF:=ae.lt
 have qt:=zb.size
 have l5:∀k∈ax aK,k∈ax a\/ao.size<=k:=λk hk=>(lD k hk).imp id λh=>by omega
 have fi:b<ao.size:=eC b (by simp)
 have apc:D<ao.size:=eC D (by simp)
 have ub:b∉ax aK:=λhk=>(l5 b hk).elim cW λh=>by omega
 have nl:l∉ax aK:=λhk=>(l5 l hk).elim cr λh=>by omega
 have MT:D∉ax aK:=λhk=>(l5 D hk).elim fG λh=>by omega
 have MU:fa aF l bM .busy none:=(HI cF).ag zb (by simp)
 have y1:fa bw l bM .busy none:=(MU.ag bU cr).ag bW (by simp;exact λe=>dN e.symm)
 have lW:=tx bw l bM .ready none
 have f25:Fr (b::l::D::ax a) ao bw:=by
  have g1:Fr (b::l::D::ax a) ao aF:=rP.trans' zb (λk hk _=>by simp at hk;simp [hk]) (by simp)
  have g2:Fr (b::l::D::ax a) ao aN:=g1.trans' bU (λk hk _=>hk) (λk hk _=>by simp [hk])
  exact g2.trans' bW (λk hk _=>hk) (λk hk _=>by simp at hk;simp [hk])
 have f26:Fr (b::l::D::ax a) ao (dR bw l bM .ready none):=f25.trans' lW (λk hk _=>hk) (λk hk _=>by simp at hk;simp [hk])
 refine hk bw (b::l::D::ax aK) y1 ?_ f26 ?_ ?_
 ·refine⟨h1.ab f26 hC,HI y1.lt,?_,⟨aK,aQ,aT,?_,?_,rfl,ub,nl,MT⟩,dN,dm,hQ,?_⟩
  ·refine((((au.ag rP (by simp;exact λe=>hQ e.symm)).ag zb (by simp)).ag bU fG).ag bW (by simp;exact λe=>dm e.symm)).ag lW (by simp;exact λe=>hQ e.symm)
  ·have gj:=dI.ag lW (by simp [dN])
   simpa [atq]using gj
  ·refine(eV.ag bW λal e aq=>ub (by simp only [ar7]at aq;simp [e,ax,aq])).ag lW λal e aq=>nl (by simp only [ar7]at aq;simp [e,ax,aq])
  ·intro k hk
   simp only [o3]at hk
   rcases hk with rfl|rfl|rfl|hk
   ·exact hC _ (by simp)
   ·exact hC _ (by simp)
   ·exact hC _ (by simp)
   ·exact(eV.ge k hk).1
 ·intro k hk
  simp only [o3]at hk
  rcases hk with rfl|rfl|rfl|hk
  ·exact .inl (by simp)
  ·exact .inl (by simp)
  ·exact .inl (by simp)
  ·exact(l5 k hk).imp (λh=>by simp [h]) id
 ·intro k hk
  have nO:=HJ bw l bM .ready none
  have je:=f25.size
  have apd:=bW.size
  simp only [o3]at hk
  rcases hk with rfl|rfl|rfl|hk
  ·omega
  ·omega
  ·omega
  ·have:=(eV.ge k hk).2;omega
theorem nB.done{α:Type}{P:Program}{E:dd α}{ts b:Nat}{bM:Loop}{aN:J}{ys:List α}{S:List Nat}{K:Option Addr->Nat->Nat->J->Prop}(qB:pN P ts=false)(eI:nB E t H0.size l D b bM H0 ys S aN)
  (hk:∀a n c H',Own E t H0.size H' a n c ys->Fr [] H0 H'->Fr S aN H'->K a n c H'):
  fa aN l bM .ready none/\∃a n c,cR P ts (dR aN l bM .exhausted none) ⟨b,0,none⟩ (.slice a n c)/\lU (dR aN l bM .exhausted none) D/\K a n c (mx (dR aN l bM .exhausted none) D):=by
 obtain⟨h1,ae,au,⟨a,n,c,fR,an,bI,cW,cr,fG⟩,dN,dm,hQ,hC⟩:=eI
 subst bI
 have lW:=tx aN l bM .exhausted none
 have A0:=Vq (dR aN l bM .exhausted none) D
 refine⟨ae,a,n,c,(fR.ag lW (by simp [dN])).b5 qB rfl,au.ag lW (by simp;exact λe=>hQ e.symm),hk a n c _ ?_ ?_ ?_⟩
 ·exact(an.ag lW λal e aq=>cr (by simp only [ar7]at aq;simp [e,ax,aq])).ag A0 λal e aq=>fG (by simp only [ar7]at aq;simp [e,ax,aq])
 ·refine(h1.ab lW λk hk=> ?_).ab A0 λk hk=> ?_
  ·simp at hk;subst hk;exact hC _ (by simp)
  ·simp at hk;subst hk;exact hC _ (by simp)
 ·exact lW.trans' A0 (λk hk _=>by simp at hk;simp [hk]) (λk hk _=>by simp at hk;simp [hk])
end Go.bs
section
open Go.Proofs Go.Shelf
namespace Go.bs
theorem Vw(xs:List ByteArray):xs.flatMap bs.dT.cells=(xs.map bj).map Go.Proofs.encStr:=by
 induction xs with
 |nil=>rfl
 |cons x l ih=>
  rw [Er,ih,qO,qO]
  have:Go.Proofs.encStr (bj x)=.string x:=by
   show auM ⟨(bj x).toArray⟩=_
   congr 1
  rw [this];rfl
theorem Vx(ys:List (List UInt8)):(ys.map λl=>(⟨l.toArray⟩:ByteArray)).map bj=ys:=by
 rw [List.map_map]
 conv=>rhs;rw [<-List.map_id ys]
 apply List.map_congr_left
 intro l _
 simp [bj]
theorem Zy{P:Program}{hT:Ren}(L:SlLaysM.n6 P hT){k:FuncId}(lA:hT.f 6=k){t:TypeId}{base:Nat}{H:J}{a:Option Addr}{n c:Nat}{xs:List ByteArray}{K:J->Prop}(an:Own bs.dT t base H a n c xs)(ay:n<4611686018427387904)
  (hk:∀H' ys,Own bs.dT t base H' a n c ys->ys.map bj=(xs.map bj).mergeSort (λx y=>decide (x<=y))->Fr (ax a) H H'->K H'):
  aY P k ⟨[.slice a n c]⟩ H λv H'=>v=.tuple ⟨[]⟩/\K H':=by
 subst lA
 intro E d
 have aH:=an.1
 obtain⟨_,⟨rfl,aD,vI⟩|⟨b,cur,rfl,ah,aq,ak,hm,hs,bf⟩⟩:=id an
 ·have:=AnyM.slices_Sort_string_none L none c (a8 E H d)
  rw [aD]
  refine this.mono ?_
  rintro e w' ⟨rfl,rfl⟩
  have aa:xs=[]:=asF (by omega)
  subst aa
  exact⟨_,H,d,rfl,rfl,rfl,hk H [] an (by simp) (Fr.refl _ _)⟩
 ·rw [Vw]at bf
  have e3:(a8 E H d).heap[b]?=some (.cells cur t (0,0)):=aq
  have dC:bs.dT.sz=1:=rfl
  rw [dC,atM]at bf hs
  rw [aH,<-atw (f:=bj)]at bf
  have hH:Go.Sort.Holds Go.Proofs.encStr (a8 E H d) b 0 (xs.map bj).toArray:=holds_of_block e3 bf
  have:=AnyM.slices_Sort_string L b 0 c (xs.map bj) (a8 E H d) hH (k2 aq) (by rw [atw];omega)
  rw [atw,<-aH]at this
  refine this.mono ?_
  rintro e w' ⟨rfl,m,os,rfl⟩
  have yB:=auS (xs.map bj) (λx y=>decide (x<=y))
  have hlen:((xs.map bj).mergeSort λx y=>decide (x<=y)).length=xs.length:=by rw [yB.length_eq,atw]
  generalize aZ:((xs.map bj).mergeSort λx y=>decide (x<=y))=ys at hk hlen
  refine⟨_,(Go.Sort.grow (Go.Sort.putRow Go.Proofs.encStr (Go.Sort.ahead (a8 E H d) m) b 0 ys.toArray) os).heap,⟨d.1+m,VF d.2 (au3 _ _)⟩,rfl,rfl,rfl,hk _ (ys.map λl=>⟨l.toArray⟩) ?_ (Vx ys) ?_⟩
  ·refine⟨by rw [atw];omega,.inr ⟨b,_,rfl,ah,heap_sorted _ e3,by omega,hm,by simp [Go.Sort.putCells,hs,dC],?_⟩⟩
   rw [Vw,Vx,dC,atM,aH,<-hlen]
   exact take_putCells cur ys (by omega)
  ·have Em:=grownBy_sorted (w:=a8 E H d) (g:=b) (n:=m) (os:=os) ys.toArray
   exact⟨Em.size,λk hk ay=>Em.block k hk (by simp [ax]at ay;simpa using ay)⟩
end Go.bs
end
namespace Go.Proofs.bg
noncomputable abbrev dB:mI atf 3 Int:=O1 atA
theorem Y9:zeroOf atf 114=some (.slice none 0 0):=by kernel_rfl
theorem I4:sliceB atf 114 9=true:=by kernel_rfl
theorem wu:jC atf 3 1 8=true:=by kernel_rfl
theorem I5:sliceB atf 132 3=true:=by kernel_rfl
theorem Y'(al:Addr)(i j:Nat)(h:al.off=0)(bh:al=⟨al.block,0,none⟩):(al.add i).add j=al.add (i+j):=by
 rw [bh];simp [l']
variable{H:J}{d:Addr}{S:List Nat}{r ck N:Nat}
theorem aU.Za{a:Addr}{vs:List Value}(h:aU H a vs):a=⟨a.block,0,none⟩:=by
 obtain⟨b,eZ,rfl,_⟩:=h;rfl
theorem aU.set{P:Program}{t:TypeId}{a:Addr}{vs:List Value}{j:Nat}{v:Value}{X:J->Prop}(h:aU H a vs)(hs:hV P t=1)(az:(P.info? t).isSome=true)(aI:v.cells= #[v])(h1:v.oneCell'=true)(a':j<vs.length)
  (k:∀H',aU H' a (vs.set j v)->Fr [a.block] H H'->X H'):∃H',fb P t H (a.add j) v H'/\X H':=by
 have ak:v.cells.toList=[v]:=by rw [aI]
 refine h.st (by rw [hs,aI];rfl) az (by rw [ak];simpa using h1) (by rw [aI];simp;omega) λH' ah af=>k H' ?_ af
 rw [ak]at ah
 have e:vs.take j++[v]++vs.drop (j+[v].length)=vs.set j v:=by
  rw [List.set_eq_take_append_cons_drop,if_pos a'];simp
 rwa [e]at ah
structure ei where
 size:Int
 is:Nat->ByteArray
 wait:Int->List ByteArray
 off:Bool
 left:Int
 ab:Int
 calls:Int
def O2(m:ei)(r:Nat):List Value:=[.map (some r),.bool m.off,.int .i64 m.left,.int .u64 m.ab,.int .i64 m.calls]
def B4(f:Nat->ByteArray)(n:Nat):List Value:=(asl n).map λi=>auM (f i)
theorem I6(f:Nat->ByteArray)(n:Nat):(B4 f n).length=n:=by simp [B4]
theorem Zb(f:Nat->ByteArray){n i:Nat}(h:i<n):(B4 f n)[i]?=some (.string (f i)):=by simp [B4,h]
def zO(m:ei)(r:Nat):List Value:=.int .i64 m.size::(B4 m.is 512++O2 m r)
theorem O3(m:ei)(r t:Nat):(zO m r)[513+t]?=(O2 m r)[t]?:=by
 rw [zO,show 513+t=(512+t)+1 by omega,arF,List.getElem?_append_right (by rw [I6];omega),I6,Nat.add_sub_cancel_left]
theorem Zc(m:ei)(r:Nat){i:Nat}(h:i<512):(zO m r)[1+i]?=some (.string (m.is i)):=by
 rw [zO,Nat.add_comm,arF,asW (by rw [I6];exact h),Zb _ h]
def O4:Value->List Nat
 | .slice a _ _=>ax a
 |_=>[]
structure rf(H:J)(d:Addr)(r ck:Nat)(L:List (cS Int))(S:List Nat)(m:ei):Prop where
 bo:aU H d (zO m r)
 map:dM dB H r ck L
 ne:d.block≠r
 ents:∀x∈L,∃a n c,x.2.1=.slice a n c/\Own bs.dT 9 0 H a n c (m.wait x.1)/\(∀k∈ax a,k∈S/\k≠d.block/\k≠r)
 apart:∀x∈L,∀y∈L,x.1≠y.1->e2 (O4 x.2.1) (O4 y.2.1)
 Zd:∀x∈L,m.wait x.1≠[]/\0<=x.1/\x.1<m.size
 rest:∀k,dA k L=none->m.wait k=[]
 size:8<=m.size/\m.size<=512
 I7:d.block∈S/\r∈S
structure ob(H:J)(d:Addr)(S:List Nat)(m:ei)(N:Nat):Prop where
 it:∃r ck L,rf H d r ck L S m
 left:0<=m.left/\m.left<=9223372036854775807
 calls:0<=m.calls/\m.calls<=N
 wlen:∀k,(m.wait k).length<=N
 oW:In H S
theorem rf.ag{H':J}{L:List (cS Int)}{T:List Nat}{m:ei}(h:rf H d r ck L S m)(af:Fr T H H')(ay:e2 S T):rf H' d r ck L S m:=by
 refine⟨h.bo.ag af (ay _ h.I7.1),h.map.ag dB af (ay _ h.I7.2),h.ne,λx aa=> ?_,h.apart,h.Zd,h.rest,h.size,h.I7⟩
 obtain⟨a,n,c,e,an,hk⟩:=h.ents x aa
 exact⟨a,n,c,e,an.ag af (λal bS=>ay _ (hk al.block (by simp [ax,bS])).1),hk⟩
theorem ob.ag{H':J}{T:List Nat}{m:ei}(h:ob H d S m N)(af:Fr T H H')(ay:e2 S T):ob H' d S m N:=by
 obtain⟨r,ck,L,aO⟩:=h.it
 exact⟨⟨r,ck,L,aO.ag af ay⟩,h.left,h.calls,h.wlen,h.oW.le af.size⟩
theorem ob.ab{H':J}{m:ei}(h:ob H d S m N)(af:Fr [] H H'):ob H' d S m N:=h.ag af (λ_ _=>by simp)
theorem rf.Ft{L:List (cS Int)}{m:ei}(h:rf H d r ck L S m):cR atf 87 H (d.add 513) (.map (some r)):=h.bo.ld (by kernel_rfl) (O3 m r 0)
theorem rf.O5{L:List (cS Int)}{m:ei}(h:rf H d r ck L S m):cR atf 4 H (d.add 514) (.bool m.off):=h.bo.ld (by kernel_rfl) (O3 m r 1)
theorem rf.O6{L:List (cS Int)}{m:ei}(h:rf H d r ck L S m):cR atf 3 H d (.int .i64 m.size):=h.bo.b5 (by kernel_rfl) rfl
theorem Ze{m:ei}{K:Bool->J->Prop}(h:ob H d S m N)(hk:K m.off H):aY atf Zf ⟨[.pointer (some d)]⟩ H λv H'=>∃b,v=.bool b/\K b H':=by
 apply Zg
 obtain⟨r,ck,L,aO⟩:=h.it
 exact⟨_,aO.O5,_,rfl,hk⟩
theorem O7{m:ei}{K:Int->J->Prop}(h:ob H d S m N)(hk:K m.size H):aY atf Zh ⟨[.pointer (some d)]⟩ H λv H'=>∃b,v=.int .i64 b/\K b H':=by
 apply Zi
 obtain⟨r,ck,L,aO⟩:=h.it
 exact⟨_,aO.O6,_,rfl,hk⟩
theorem rf.look{L:List (cS Int)}{m:ei}(h:rf H d r ck L S m)(k:Int):
  ∃a n c,Rd atf (Instr.lookup 87 (.map (some r)) (.int .i64 k) false) H (.slice a n c)/\Own bs.dT 9 0 H a n c (m.wait k)/\(∀b∈ax a,b∈S/\b≠d.block/\b≠r)/\(dA k L=some (.slice a n c)\/(dA k L=none/\a=none))/\(dA k L).getD (.slice none 0 0)=.slice a n c:=by
 have aH:=r6 dB (mt:=87) (e:=114) Tryz.underlying87 Y9 h.map k
 cases aZ:dA k L with
 |none=>
  rw [aZ]at aH
  refine⟨none,0,0,aH,?_,λ_ h=>(by cases h),.inr ⟨rfl,rfl⟩,rfl⟩
  rw [h.rest k aZ]
  exact Own.nil _ _ _ _
 |some v=>
  rw [aZ]at aH
  obtain⟨b,ah⟩:=zI aZ
  obtain⟨a,n,c,e,an,hk⟩:=h.ents _ ah
  have e:v=.slice a n c:=e
  subst e
  exact⟨a,n,c,aH,an,hk,.inl rfl,rfl⟩
def ye(m:ei)(i:Int):ByteArray×Int:=
 if m.off then(⟨#[]⟩,90)else if i<0\/m.size<=i then(⟨#[]⟩,91)else(((m.wait i).getLast?).getD (m.is i.toNat),0)
theorem Zj{m:ei}{i:Int}{K:ByteArray->Int->J->Prop}(h:ob H d S m N)(e1:N<=1000000)(hk:K (ye m i).1 (ye m i).2 H):
  aY atf Zk ⟨[.pointer (some d),.int .i64 i]⟩ H λv H'=>∃s n,v=.tuple ⟨[.string s,.int .i64 n]⟩/\K s n H':=by
 apply Zl
 obtain⟨r,ck,L,aO⟩:=h.it
 unfold ye at hk
 refine⟨λ_ H'=>H'=H/\m.off=false/\0<=i/\i<m.size,⟨_,aO.O5,ai (λaD=>⟨_,_,rfl,?_⟩) (λaD=>ai (λh1=>⟨_,_,rfl,?_⟩) (λh1=>⟨_,aO.O6,ai (λae=>⟨_,_,rfl,?_⟩) (λae=> ?_)⟩))⟩,?_⟩
 ·rw [if_pos aD]at hk;exact hk
 ·rw [if_neg (by simp [aD]),if_pos (.inl (by simpa using h1))]at hk;exact hk
 ·rw [if_neg (by simp [aD]),if_pos (.inr (by simpa using ae))]at hk;exact hk
 ·exact⟨rfl,aD,by simpa using h1,by simpa using ae⟩
 ·rintro bm H' ⟨rfl,aD,h1,ae⟩
  rw [if_neg (by simp [aD]),if_neg (by omega)]at hk
  have dC:=aO.size
  obtain⟨a,n,c,aH,an,_,_,_⟩:=aO.look i
  have ay:=an.1
  have hw:=h.wlen i
  refine⟨_,aO.Ft,a,n,c,aH,ai (λau=> ?_) (λau=> ?_)⟩
  ·have uH:0<n:=by simpa using au
   rw [pJ (by omega) uH]
   have aa:(m.wait i)[n-1]?=some ((m.wait i)[n-1]'(by omega)):=by simp
   refine an.bL.get rfl aa (decide_eq_true (by omega)) λal bS ak=>⟨_,iq (by kernel_rfl) ak,_,_,rfl,?_⟩
   rw [List.getLast?_eq_getElem?,<-ay,aa]at hk
   exact hk
  ·refine gC ⟨by omega,by omega⟩ ?_
   have qx:m.wait i=[]:=asF (by simp at au;omega)
   rw [qx]at hk
   have fi:=aU.Za aO.bo
   rw [Y' d 1 _ (by rw [fi]) fi]
   refine⟨_,aO.bo.ld (by kernel_rfl) (Zc m r (i:=i.toNat *1) (by omega)),_,_,rfl,?_⟩
   rw [atM]
   exact hk
structure Zm:Prop where
 bL:sliceB atf 209 5=true
 str:wK atf 9=true
theorem ef:Zm:=⟨by kernel_rfl,by kernel_rfl⟩
end Go.Proofs.bg
namespace Go.Proofs
open Go.Shelf
def Tryz.ape:Go.Shelf.Ren:=⟨fun|6=>426|8=>158|9=>437|19=>247|20=>248|21=>442|22=>443|23=>444|24=>445|25=>446|26=>447|27=>448|28=>449|29=>450|36=>451|31=>329|32=>330|37=>452|38=>453|39=>454|41=>455|n=>n,fun|27=>114|29=>9|3=>3|32=>249|26=>114|0=>0|44=>371|46=>89|4=>4|36=>365|35=>364|41=>124|5=>5|9=>9|53=>438|57=>442|63=>488|64=>489|n=>n,fun|n=>n⟩
theorem Tryz.Zz:Go.Proofs.SlLaysM.n6 atf Tryz.ape:={
 mixed:=by kernel_rfl
 f6:=⟨Tryz.f426.name,by decide,Tryz.func426.trans (congrArg some (by kernel_rfl))⟩
 f8:=Tryz.func158.trans (congrArg some (by kernel_rfl))
 f9:=⟨Tryz.f437.name,by decide,Tryz.func437.trans (congrArg some (by kernel_rfl))⟩
 f19:=Tryz.func247.trans (congrArg some (by kernel_rfl))
 f20:=Tryz.func248.trans (congrArg some (by kernel_rfl))
 f21:=⟨Tryz.f442.name,by decide,Tryz.func442.trans (congrArg some (by kernel_rfl))⟩
 f22:=⟨Tryz.f443.name,by decide,Tryz.func443.trans (congrArg some (by kernel_rfl))⟩
 f23:=⟨Tryz.f444.name,by decide,Tryz.func444.trans (congrArg some (by kernel_rfl))⟩
 f24:=⟨Tryz.f445.name,by decide,Tryz.func445.trans (congrArg some (by kernel_rfl))⟩
 f25:=⟨Tryz.f446.name,by decide,Tryz.func446.trans (congrArg some (by kernel_rfl))⟩
 f26:=⟨Tryz.f447.name,by decide,Tryz.func447.trans (congrArg some (by kernel_rfl))⟩
 f27:=⟨Tryz.f448.name,by decide,Tryz.func448.trans (congrArg some (by kernel_rfl))⟩
 f28:=⟨Tryz.f449.name,by decide,Tryz.func449.trans (congrArg some (by kernel_rfl))⟩
 f29:=⟨Tryz.f450.name,by decide,Tryz.func450.trans (congrArg some (by kernel_rfl))⟩
 f31:=Tryz.func329.trans (congrArg some (by kernel_rfl))
 f32:=Tryz.func330.trans (congrArg some (by kernel_rfl))
 f36:=⟨Tryz.f451.name,by decide,Tryz.func451.trans (congrArg some (by kernel_rfl))⟩
 f37:=⟨Tryz.f452.name,by decide,Tryz.func452.trans (congrArg some (by kernel_rfl))⟩
 f38:=⟨Tryz.f453.name,by decide,Tryz.func453.trans (congrArg some (by kernel_rfl))⟩
 f39:=⟨Tryz.f454.name,by decide,Tryz.func454.trans (congrArg some (by kernel_rfl))⟩
 f41:=⟨Tryz.f455.name,by decide,Tryz.func455.trans (congrArg some (by kernel_rfl))⟩
 t0:=atN
 a0:=atO
 z0:=atP
 v0:=atQ
 t3:=atA
 a3:=atD
 z3:=atE
 v3:=atF
 t4:=atS
 a4:=atT
 z4:=atU
 v4:=atV
 t5:=atW
 a5:=atX
 z5:=atY
 v5:=atZ
 t9:=atB
 a9:=atG
 z9:=atH
 v9:=atI
 t26:=au4
 a26:=Tryz.isAgg114
 z26:=Tryz.sizeOf114
 v26:=au5
 t27:=au4
 a27:=Tryz.isAgg114
 z27:=Tryz.sizeOf114
 v27:=au5
 t29:=atB
 a29:=atG
 z29:=atH
 v29:=atI
 t32:=at0
 a32:=at1
 z32:=at2
 v32:=at3
 t35:=at4
 a35:=at5
 z35:=at6
 v35:=at7
 t36:=aua
 a36:=aub
 z36:=auc
 v36:=aud
 t41:=aue
 a41:=auf
 z41:=aug
 v41:=auh
 t44:=aui
 a44:=auj
 z44:=auk
 v44:=aul
 t46:=aum
 a46:=aun
 z46:=auo
 v46:=aup
 t53:=auq
 a53:=aur
 z53:=aus
 v53:=aut
 t57:=auu
 a57:=auv
 z57:=auw
 v57:=auy
 t63:=auz
 a63:=auA
 z63:=auB
 v63:=auC
 t64:=auD
 a64:=auE
 z64:=auF
 v64:=auG}
def Tryz.apf:Go.Shelf.Ren:=⟨fun|5=>104|8=>158|7=>190|19=>247|20=>248|10=>278|11=>279|12=>280|13=>281|14=>282|15=>283|16=>276|17=>284|18=>285|30=>351|31=>329|32=>330|33=>352|34=>353|35=>159|40=>393|n=>n,fun|23=>132|25=>3|3=>3|32=>249|22=>132|0=>0|44=>371|46=>89|4=>4|36=>365|35=>364|41=>124|5=>5|9=>9|53=>438|57=>442|63=>488|64=>489|n=>n,fun|n=>n⟩
theorem Tryz.anm:Go.Proofs.SlLaysM.n5 atf Tryz.apf:={
 mixed:=by kernel_rfl
 f5:=⟨Tryz.f104.name,by decide,Tryz.func104.trans (congrArg some (by kernel_rfl))⟩
 f7:=⟨Tryz.f190.name,by decide,Tryz.func190.trans (congrArg some (by kernel_rfl))⟩
 f8:=Tryz.func158.trans (congrArg some (by kernel_rfl))
 f10:=⟨Tryz.f278.name,by decide,Tryz.func278.trans (congrArg some (by kernel_rfl))⟩
 f11:=⟨Tryz.f279.name,by decide,Tryz.func279.trans (congrArg some (by kernel_rfl))⟩
 f12:=⟨Tryz.f280.name,by decide,Tryz.func280.trans (congrArg some (by kernel_rfl))⟩
 f13:=⟨Tryz.f281.name,by decide,Tryz.func281.trans (congrArg some (by kernel_rfl))⟩
 f14:=⟨Tryz.f282.name,by decide,Tryz.func282.trans (congrArg some (by kernel_rfl))⟩
 f15:=⟨Tryz.f283.name,by decide,Tryz.func283.trans (congrArg some (by kernel_rfl))⟩
 f16:=⟨Tryz.f276.name,by decide,Tryz.func276.trans (congrArg some (by kernel_rfl))⟩
 f17:=⟨Tryz.f284.name,by decide,Tryz.func284.trans (congrArg some (by kernel_rfl))⟩
 f18:=⟨Tryz.f285.name,by decide,Tryz.func285.trans (congrArg some (by kernel_rfl))⟩
 f19:=Tryz.func247.trans (congrArg some (by kernel_rfl))
 f20:=Tryz.func248.trans (congrArg some (by kernel_rfl))
 f30:=⟨Tryz.f351.name,by decide,Tryz.func351.trans (congrArg some (by kernel_rfl))⟩
 f31:=Tryz.func329.trans (congrArg some (by kernel_rfl))
 f32:=Tryz.func330.trans (congrArg some (by kernel_rfl))
 f33:=⟨Tryz.f352.name,by decide,Tryz.func352.trans (congrArg some (by kernel_rfl))⟩
 f34:=⟨Tryz.f353.name,by decide,Tryz.func353.trans (congrArg some (by kernel_rfl))⟩
 f35:=⟨Tryz.f159.name,by decide,Tryz.func159.trans (congrArg some (by kernel_rfl))⟩
 f40:=⟨Tryz.f393.name,by decide,Tryz.func393.trans (congrArg some (by kernel_rfl))⟩
 t0:=atN
 a0:=atO
 z0:=atP
 v0:=atQ
 t3:=atA
 a3:=atD
 z3:=atE
 v3:=atF
 t4:=atS
 a4:=atT
 z4:=atU
 v4:=atV
 t5:=atW
 a5:=atX
 z5:=atY
 v5:=atZ
 t9:=atB
 a9:=atG
 z9:=atH
 v9:=atI
 t22:=au6
 a22:=Tryz.isAgg132
 z22:=Tryz.sizeOf132
 v22:=au7
 t23:=au6
 a23:=Tryz.isAgg132
 z23:=Tryz.sizeOf132
 v23:=au7
 t25:=atA
 a25:=atD
 z25:=atE
 v25:=atF
 t32:=at0
 a32:=at1
 z32:=at2
 v32:=at3
 t35:=at4
 a35:=at5
 z35:=at6
 v35:=at7
 t36:=aua
 a36:=aub
 z36:=auc
 v36:=aud
 t41:=aue
 a41:=auf
 z41:=aug
 v41:=auh
 t44:=aui
 a44:=auj
 z44:=auk
 v44:=aul
 t46:=aum
 a46:=aun
 z46:=auo
 v46:=aup
 t53:=auq
 a53:=aur
 z53:=aus
 v53:=aut
 t57:=auu
 a57:=auv
 z57:=auw
 v57:=auy
 t63:=auz
 a63:=auA
 z63:=auB
 v63:=auC
 t64:=auD
 a64:=auE
 z64:=auF
 v64:=auG}
def Tryz.apg:Go.Shelf.Ren:=⟨fun|6=>136|15=>158|14=>227|28=>247|29=>248|20=>308|21=>309|22=>310|23=>311|24=>312|25=>313|26=>314|27=>315|46=>379|47=>329|48=>330|49=>380|50=>381|57=>416|n=>n,fun|22=>50|24=>57|25=>278|3=>3|39=>249|0=>0|53=>371|55=>89|4=>4|46=>365|45=>364|50=>124|5=>5|9=>9|66=>438|70=>442|76=>488|77=>489|n=>n,fun|n=>n⟩
theorem Tryz.agC:Go.Proofs.SlLaysF0.n6 atf Tryz.apg:={
 mixed:=by kernel_rfl
 f6:=⟨Tryz.f136.name,by decide,Tryz.func136.trans (congrArg some (by kernel_rfl))⟩
 f14:=⟨Tryz.f227.name,by decide,Tryz.func227.trans (congrArg some (by kernel_rfl))⟩
 f15:=Tryz.func158.trans (congrArg some (by kernel_rfl))
 f20:=⟨Tryz.f308.name,by decide,Tryz.func308.trans (congrArg some (by kernel_rfl))⟩
 f21:=⟨Tryz.f309.name,by decide,Tryz.func309.trans (congrArg some (by kernel_rfl))⟩
 f22:=⟨Tryz.f310.name,by decide,Tryz.func310.trans (congrArg some (by kernel_rfl))⟩
 f23:=⟨Tryz.f311.name,by decide,Tryz.func311.trans (congrArg some (by kernel_rfl))⟩
 f24:=⟨Tryz.f312.name,by decide,Tryz.func312.trans (congrArg some (by kernel_rfl))⟩
 f25:=⟨Tryz.f313.name,by decide,Tryz.func313.trans (congrArg some (by kernel_rfl))⟩
 f26:=⟨Tryz.f314.name,by decide,Tryz.func314.trans (congrArg some (by kernel_rfl))⟩
 f27:=⟨Tryz.f315.name,by decide,Tryz.func315.trans (congrArg some (by kernel_rfl))⟩
 f28:=Tryz.func247.trans (congrArg some (by kernel_rfl))
 f29:=Tryz.func248.trans (congrArg some (by kernel_rfl))
 f46:=⟨Tryz.f379.name,by decide,Tryz.func379.trans (congrArg some (by kernel_rfl))⟩
 f47:=Tryz.func329.trans (congrArg some (by kernel_rfl))
 f48:=Tryz.func330.trans (congrArg some (by kernel_rfl))
 f49:=⟨Tryz.f380.name,by decide,Tryz.func380.trans (congrArg some (by kernel_rfl))⟩
 f50:=⟨Tryz.f381.name,by decide,Tryz.func381.trans (congrArg some (by kernel_rfl))⟩
 f57:=⟨Tryz.f416.name,by decide,Tryz.func416.trans (congrArg some (by kernel_rfl))⟩
 t0:=atN
 a0:=atO
 z0:=atP
 v0:=atQ
 t3:=atA
 a3:=atD
 z3:=atE
 v3:=atF
 t4:=atS
 a4:=atT
 z4:=atU
 v4:=atV
 t5:=atW
 a5:=atX
 z5:=atY
 v5:=atZ
 t9:=atB
 a9:=atG
 z9:=atH
 v9:=atI
 t22:=Tryz.underlying50
 a22:=Tryz.isAgg50
 z22:=Tryz.sizeOf50
 v22:=Tryz.zeroValue50
 t25:=Tryz.underlying278
 a25:=Tryz.isAgg278
 z25:=Tryz.sizeOf278
 v25:=Tryz.zeroValue278
 t39:=at0
 a39:=at1
 z39:=at2
 v39:=at3
 t45:=at4
 a45:=at5
 z45:=at6
 v45:=at7
 t46:=aua
 a46:=aub
 z46:=auc
 v46:=aud
 t50:=aue
 a50:=auf
 z50:=aug
 v50:=auh
 t53:=aui
 a53:=auj
 z53:=auk
 v53:=aul
 t55:=aum
 a55:=aun
 z55:=auo
 v55:=aup
 t66:=auq
 a66:=aur
 z66:=aus
 v66:=aut
 t70:=auu
 a70:=auv
 z70:=auw
 v70:=auy
 t76:=auz
 a76:=auA
 z76:=auB
 v76:=auC
 t77:=auD
 a77:=auE
 z77:=auF
 v77:=auG}
def Tryz.aph:Go.Shelf.Ren:=⟨fun|6=>144|15=>158|14=>230|28=>247|29=>248|20=>316|21=>317|22=>318|23=>319|24=>320|25=>321|26=>322|27=>323|46=>382|47=>329|48=>330|49=>383|50=>384|57=>417|n=>n,fun|22=>69|24=>180|25=>288|3=>3|39=>249|0=>0|53=>371|55=>89|4=>4|46=>365|45=>364|50=>124|5=>5|9=>9|66=>438|70=>442|76=>488|77=>489|n=>n,fun|n=>n⟩
theorem Tryz.aey:Go.Proofs.SlLaysF0.n6 atf Tryz.aph:={
 mixed:=by kernel_rfl
 f6:=⟨Tryz.f144.name,by decide,Tryz.func144.trans (congrArg some (by kernel_rfl))⟩
 f14:=⟨Tryz.f230.name,by decide,Tryz.func230.trans (congrArg some (by kernel_rfl))⟩
 f15:=Tryz.func158.trans (congrArg some (by kernel_rfl))
 f20:=⟨Tryz.f316.name,by decide,Tryz.func316.trans (congrArg some (by kernel_rfl))⟩
 f21:=⟨Tryz.f317.name,by decide,Tryz.func317.trans (congrArg some (by kernel_rfl))⟩
 f22:=⟨Tryz.f318.name,by decide,Tryz.func318.trans (congrArg some (by kernel_rfl))⟩
 f23:=⟨Tryz.f319.name,by decide,Tryz.func319.trans (congrArg some (by kernel_rfl))⟩
 f24:=⟨Tryz.f320.name,by decide,Tryz.func320.trans (congrArg some (by kernel_rfl))⟩
 f25:=⟨Tryz.f321.name,by decide,Tryz.func321.trans (congrArg some (by kernel_rfl))⟩
 f26:=⟨Tryz.f322.name,by decide,Tryz.func322.trans (congrArg some (by kernel_rfl))⟩
 f27:=⟨Tryz.f323.name,by decide,Tryz.func323.trans (congrArg some (by kernel_rfl))⟩
 f28:=Tryz.func247.trans (congrArg some (by kernel_rfl))
 f29:=Tryz.func248.trans (congrArg some (by kernel_rfl))
 f46:=⟨Tryz.f382.name,by decide,Tryz.func382.trans (congrArg some (by kernel_rfl))⟩
 f47:=Tryz.func329.trans (congrArg some (by kernel_rfl))
 f48:=Tryz.func330.trans (congrArg some (by kernel_rfl))
 f49:=⟨Tryz.f383.name,by decide,Tryz.func383.trans (congrArg some (by kernel_rfl))⟩
 f50:=⟨Tryz.f384.name,by decide,Tryz.func384.trans (congrArg some (by kernel_rfl))⟩
 f57:=⟨Tryz.f417.name,by decide,Tryz.func417.trans (congrArg some (by kernel_rfl))⟩
 t0:=atN
 a0:=atO
 z0:=atP
 v0:=atQ
 t3:=atA
 a3:=atD
 z3:=atE
 v3:=atF
 t4:=atS
 a4:=atT
 z4:=atU
 v4:=atV
 t5:=atW
 a5:=atX
 z5:=atY
 v5:=atZ
 t9:=atB
 a9:=atG
 z9:=atH
 v9:=atI
 t22:=Tryz.underlying69
 a22:=Tryz.isAgg69
 z22:=Tryz.sizeOf69
 v22:=Tryz.zeroValue69
 t25:=Tryz.underlying288
 a25:=Tryz.isAgg288
 z25:=Tryz.sizeOf288
 v25:=Tryz.zeroValue288
 t39:=at0
 a39:=at1
 z39:=at2
 v39:=at3
 t45:=at4
 a45:=at5
 z45:=at6
 v45:=at7
 t46:=aua
 a46:=aub
 z46:=auc
 v46:=aud
 t50:=aue
 a50:=auf
 z50:=aug
 v50:=auh
 t53:=aui
 a53:=auj
 z53:=auk
 v53:=aul
 t55:=aum
 a55:=aun
 z55:=auo
 v55:=aup
 t66:=auq
 a66:=aur
 z66:=aus
 v66:=aut
 t70:=auu
 a70:=auv
 z70:=auw
 v70:=auy
 t76:=auz
 a76:=auA
 z76:=auB
 v76:=auC
 t77:=auD
 a77:=auE
 z77:=auF
 v77:=auG}
def Tryz.api:Go.Shelf.Ren:=⟨fun|6=>78|15=>158|14=>157|28=>247|29=>248|20=>239|21=>240|22=>241|23=>242|24=>243|25=>244|26=>245|27=>246|46=>328|47=>329|48=>330|49=>331|50=>332|57=>387|n=>n,fun|22=>99|24=>187|25=>191|3=>3|39=>249|0=>0|53=>371|55=>89|4=>4|46=>365|45=>364|50=>124|5=>5|9=>9|66=>438|70=>442|76=>488|77=>489|n=>n,fun|n=>n⟩
theorem Tryz.ak9:Go.Proofs.SlLaysF0.n6 atf Tryz.api:={
 mixed:=by kernel_rfl
 f6:=⟨Tryz.f78.name,by decide,Tryz.func78.trans (congrArg some (by kernel_rfl))⟩
 f14:=⟨Tryz.f157.name,by decide,Tryz.func157.trans (congrArg some (by kernel_rfl))⟩
 f15:=Tryz.func158.trans (congrArg some (by kernel_rfl))
 f20:=⟨Tryz.f239.name,by decide,Tryz.func239.trans (congrArg some (by kernel_rfl))⟩
 f21:=⟨Tryz.f240.name,by decide,Tryz.func240.trans (congrArg some (by kernel_rfl))⟩
 f22:=⟨Tryz.f241.name,by decide,Tryz.func241.trans (congrArg some (by kernel_rfl))⟩
 f23:=⟨Tryz.f242.name,by decide,Tryz.func242.trans (congrArg some (by kernel_rfl))⟩
 f24:=⟨Tryz.f243.name,by decide,Tryz.func243.trans (congrArg some (by kernel_rfl))⟩
 f25:=⟨Tryz.f244.name,by decide,Tryz.func244.trans (congrArg some (by kernel_rfl))⟩
 f26:=⟨Tryz.f245.name,by decide,Tryz.func245.trans (congrArg some (by kernel_rfl))⟩
 f27:=⟨Tryz.f246.name,by decide,Tryz.func246.trans (congrArg some (by kernel_rfl))⟩
 f28:=Tryz.func247.trans (congrArg some (by kernel_rfl))
 f29:=Tryz.func248.trans (congrArg some (by kernel_rfl))
 f46:=⟨Tryz.f328.name,by decide,Tryz.func328.trans (congrArg some (by kernel_rfl))⟩
 f47:=Tryz.func329.trans (congrArg some (by kernel_rfl))
 f48:=Tryz.func330.trans (congrArg some (by kernel_rfl))
 f49:=⟨Tryz.f331.name,by decide,Tryz.func331.trans (congrArg some (by kernel_rfl))⟩
 f50:=⟨Tryz.f332.name,by decide,Tryz.func332.trans (congrArg some (by kernel_rfl))⟩
 f57:=⟨Tryz.f387.name,by decide,Tryz.func387.trans (congrArg some (by kernel_rfl))⟩
 t0:=atN
 a0:=atO
 z0:=atP
 v0:=atQ
 t3:=atA
 a3:=atD
 z3:=atE
 v3:=atF
 t4:=atS
 a4:=atT
 z4:=atU
 v4:=atV
 t5:=atW
 a5:=atX
 z5:=atY
 v5:=atZ
 t9:=atB
 a9:=atG
 z9:=atH
 v9:=atI
 t22:=Tryz.underlying99
 a22:=Tryz.isAgg99
 z22:=Tryz.sizeOf99
 v22:=Tryz.zeroValue99
 t25:=Tryz.underlying191
 a25:=Tryz.isAgg191
 z25:=Tryz.sizeOf191
 v25:=Tryz.zeroValue191
 t39:=at0
 a39:=at1
 z39:=at2
 v39:=at3
 t45:=at4
 a45:=at5
 z45:=at6
 v45:=at7
 t46:=aua
 a46:=aub
 z46:=auc
 v46:=aud
 t50:=aue
 a50:=auf
 z50:=aug
 v50:=auh
 t53:=aui
 a53:=auj
 z53:=auk
 v53:=aul
 t55:=aum
 a55:=aun
 z55:=auo
 v55:=aup
 t66:=auq
 a66:=aur
 z66:=aus
 v66:=aut
 t70:=auu
 a70:=auv
 z70:=auw
 v70:=auy
 t76:=auz
 a76:=auA
 z76:=auB
 v76:=auC
 t77:=auD
 a77:=auE
 z77:=auF
 v77:=auG}
end Go.Proofs
namespace Go.Proofs.bg
noncomputable abbrev ea:mI atf 9 ByteArray:=N1 atB
def O9(L:List (cS ByteArray))(ys:List ByteArray):Prop:=ys.Nodup/\∀y∈ys,∃x∈L,x.1=y
def O'(L:List (cS ByteArray))(ys:List ByteArray):Prop:=ys.Nodup/\∀y,y∈ys↔∃x∈L,x.1=y
variable{H H':J}{r:Nat}
theorem Zn{b ck:Nat}{L:List (cS ByteArray)}:wL atf (λs=>.string s) (.func (.func 427) ⟨[]⟩ ⟨[.pointer (some ⟨b,0,none⟩)]⟩) (O9 L) (O' L) [b,r]
  (λH=>aU H ⟨b,0,none⟩ [.map (some r)]/\dM ea H r ck L):=by
 intro l H cc K S b4 eC aO aD zP step fin
 obtain⟨ah,hm⟩:=b4
 refine⟨427,⟨[]⟩,_,rfl,by kernel_rfl,?_⟩
 apply Zo
 have Zp:b∉S:=λh=>aO b h (by simp)
 have Pa:r∉S:=λh=>aO r h (by simp)
 refine⟨some r,ah.b5 (by kernel_rfl) rfl,x6 ea (mt:=141) (e:=9) atJ hm λit H1 aB=> ?_⟩
 have hit:=aB.eq
 have e6:=aB.size
 refine⟨λ_ ao=>∃(ys:List ByteArray) (seen:Array Nat) (S2:List Nat),cc ys S2 ao/\ys.Nodup/\(∀k,k∈ys↔∃x∈L,x.1=k/\x.2.2∈seen)/\ao[it]?=some (.mapIter (some r) ck seen ck)/\it∉S2/\Fr S H ao/\Grow H S S2/\In ao S2,
  λ_ ao=>lF ao r it,⟨[], #[],S,zP _ _ _ _ [] aD aB.ag (λ_ _=>by simp) (by simp),by simp,by simp,aB.get,λh=>by have:=eC it h;omega,aB.ag.mono (by simp),Grow.refl _ _,eC.le aB.ag.size⟩,?_⟩
 rintro bm ao ⟨ys,seen,S2,eI,iF,mP,BW,I8,bt,oX,uV⟩
 have pK:=hm.ag ea bt Pa
 have b8:=ah.ag bt Zp
 refine wE ea pK BW (λdG=>⟨rfl,?_⟩) λx aa jY aF hi3 bG=> ?_
 ·refine fin ys S2 ao ⟨iF,λy=> ?_⟩ eI uV bt oX
  rw [mP]
  exact⟨fun⟨x,aa,e,_⟩=>⟨x,aa,e⟩,fun⟨x,aa,e⟩=>⟨x,aa,e,dG x aa⟩⟩
 ·have Zq:r≠it:=λe=>by have:=hm.lt;omega
  have tu:=pK.ag ea bG (by simp;exact Zq)
  have B5:=zP ys S2 ao aF [it] eI bG (λk hk=>by simp;exact λe=>I8 (e▸hk)) (λk hk=>by simp at hk;omega)
  have B6:In aF S2:=uV.le bG.size
  refine zJ ea tu hi3 aa rfl ⟨x.1,rfl,.inr ⟨l,rfl,(step ys x.1 S2 aF ?_ B6 B5).mono λv aN=> ?_⟩⟩
  ·constructor
   ·rw [as3]
    refine⟨iF,by simp,λa bQ fO e3=> ?_⟩
    simp only [ar7]at e3
    subst e3
    intro e
    subst e
    obtain⟨z,aC,e,hs⟩:=(mP _).1 bQ
    have:=zK hm.wf aC aa e
    subst this
    exact jY hs
   ·intro y av
    rcases asU.1 av with av|av
    ·obtain⟨z,aC,e,_⟩:=(mP y).1 av;exact⟨z,aC,e⟩
    ·simp only [ar7]at av;exact⟨x,aa,av.symm⟩
  ·rintro⟨rfl,wM,Zr,bU,lD,Zs⟩
   have ap5:it<aF.size:=k2 hi3
   have uR:aN[it]?=some (.mapIter (some r) ck (seen.push x.2.2) ck):=bU.get hi3 I8
   have kJ:Fr S H aF:=bt.trans' bG (λk hk _=>hk) (λk hk cF=>by simp at hk;omega)
   have Pb:Fr S H aN:=kJ.trans' bU (λk hk _=>hk) (λk hk cF=>by
    rcases oX k hk with h|h
    ·exact h
    ·omega)
   have tv:=hm.ag ea Pb Pa
   refine⟨true,rfl,ai (λh=>by simp at h) λ_=>⟨⟨ys++[x.1],seen.push x.2.2,wM,Zr,?_,?_,uR,?_,Pb,?_,Zs⟩,?_⟩⟩
   ·rw [as3]
    refine⟨iF,by simp,λa bQ fO e3=> ?_⟩
    simp only [ar7]at e3
    subst e3
    intro e
    subst e
    obtain⟨z,aC,e,hs⟩:=(mP _).1 bQ
    have:=zK hm.wf aC aa e
    subst this
    exact jY hs
   ·intro k
    rw [asU,mP]
    constructor
    ·rintro(⟨z,aC,e,hs⟩|h)
     ·exact⟨z,aC,e,by simp [hs]⟩
     ·simp only [ar7]at h;exact⟨x,aa,h.symm,by simp⟩
    ·rintro⟨z,aC,e,hs⟩
     simp only [au8]at hs
     rcases hs with hs|hs
     ·exact .inl ⟨z,aC,e,hs⟩
     ·right
      have:=BY hm.wf aC aa hs
      subst this
      simp [e]
   ·intro h
    rcases lD it h with h|h
    ·exact I8 h
    ·omega
   ·exact oX.trans (by have:=bt.size;exact this) (λk hk=>(lD k hk).imp id λh=>by have:=bG.size;omega)
   ·show lF aN r it<lF ao r it
    rw [sa ea pK BW,sa ea tv uR]
    exact BX (ad6.2 ⟨x,aa,rfl⟩) jY
theorem Zt{seq:Value}{A F:List ByteArray->Prop}{Q:List Nat}{G:J->Prop}{K:Option Addr->Nat->Nat->J->Prop}(a1:wL atf (λs=>.string s) seq A F Q G)
  (e0:∀ys,A ys->ys.length<=1000000000000) (b4:∀H',Fr [] H H'->G H') (cg:∀k∈Q,k<H.size)
  (hk:∀xs a n c H',F xs->Own bs.dT 9 H.size H' a n c xs->Fr [] H H'->K a n c H'):
  aY atf 425 ⟨[seq]⟩ H λv H'=>∃a n c,v=.slice a n c/\K a n c H':=by
 apply Zu
 apply Zv
 exact Pc (K:=λa n c H'=>∃aK aQ aT,atK a n c=.slice aK aQ aT/\∃lI mb mc,atK aK aQ aT=.slice lI mb mc/\K lI mb mc H') (E:=bs.dT) (t:=9) (bytes:=16) I4 FI (by kernel_rfl) (by kernel_rfl) (by kernel_rfl) (λ_=>rfl) a1 (λys h=>by have:=e0 ys h;omega) b4 cg λxs a n c H' h1 ae au=>⟨_,_,_,rfl,_,_,_,rfl,hk xs a n c H' h1 ae au⟩
theorem Zw{seq:Value}{A F:List ByteArray->Prop}{Q:List Nat}{G:J->Prop}{K:Option Addr->Nat->Nat->J->Prop}(a1:wL atf (λs=>.string s) seq A F Q G)
  (e0:∀ys,A ys->ys.length<=1000000000000) (cn:∀ys,F ys->ys.length<=1000000000000) (b4:∀H',Fr [] H H'->G H') (cg:∀k∈Q,k<H.size)
  (hk:∀xs ys a n c H',F xs->ys.map bj=(xs.map bj).mergeSort (λx y=>decide (x<=y))->Own bs.dT 9 H.size H' a n c ys->Fr [] H H'->K a n c H'):
  aY atf 403 ⟨[seq]⟩ H λv H'=>∃a n c,v=.slice a n c/\K a n c H':=by
 apply Zx
 refine Zt a1 e0 b4 cg λxs a n c H1 aa an af=> ?_
 refine Zy Tryz.Zz (k:=426) rfl an (by have:=cn xs aa;have:=an.1;omega) λao ys de he bt=>⟨a,n,c,rfl,?_⟩
 exact hk xs ys a n c ao aa he de (af.ab bt λk hk=>(an.ge k hk).1)
def Pd(L:List (cS ByteArray))(ys:List ByteArray):Prop:=(ys.map bj).Pairwise (·<·)/\∀y,y∈ys↔∃x∈L,x.1=y
theorem I9{L:List (cS ByteArray)}{ys:List ByteArray}(h:O9 L ys):ys.length<=L.length:=by
 have:∀(l k:List (List UInt8)),l.Nodup->(∀x∈l,x∈k)->l.length<=k.length:=by
  intro l
  induction l with
  |nil=>intro k _ _;exact apG _
  |cons a l ih=>
   intro k ay hs
   rw [apI]at ay
   have bQ:a∈k:=hs a (by simp)
   have:=ih (k.erase a) ay.2 λx aa=>by
    rw [au9 (λe=>ay.1 (by rw [<-e];exact aa))]
    exact hs x (by simp [aa])
   rw [ava bQ]at this
   have aD:0<k.length:=avb bQ
   simp only [asE]
   omega
 have:=this (ys.map bj) (L.map (λx=>bj x.1)) (by
  rw [atL,auT]
  exact(atL.1 h.1).imp λcH e=>cH (ja e)) λx aa=>by
   obtain⟨y,av,rfl⟩:=ad6.1 aa
   obtain⟨z,aC,e⟩:=h.2 y av
   exact ad6.2 ⟨z,aC,by rw [e]⟩
 simpa using this
theorem ZA{L:List (cS ByteArray)}{xs ys:List ByteArray}(h:O' L xs)(he:ys.map bj=(xs.map bj).mergeSort (λx y=>decide (x<=y))):Pd L ys:=by
 have bh:(ys.map bj).Perm (xs.map bj):=by rw [he];exact auS _ _
 have iF:(ys.map bj).Nodup:=bh.nodup_iff.2 (by
  rw [atL,auT]
  exact(atL.1 h.1).imp λcH e=>cH (ja e))
 have hs:(ys.map bj).Pairwise (·<=·):=by
  rw [he]
  have:=List.pairwise_mergeSort (le:=λx y:List UInt8=>decide (x<=y)) (λa b c h1 ae=>by simp only [decide_eq_true_eq]at *;exact List.le_trans h1 ae) (λa b=>by simp only [Bool.or_eq_true,decide_eq_true_eq];exact List.le_total a b) (xs.map bj)
  exact this.imp λh=>by simpa using h
 refine⟨?_,λy=> ?_⟩
 ·have:=hs.and (atL.1 iF)
  exact this.imp λh=>by
   rcases List.le_iff_lt_or_eq.1 h.1 with h1|h1
   ·exact h1
   ·exact absurd h1 h.2
 ·rw [<-h.2]
  have:bj y∈ys.map bj↔bj y∈xs.map bj:=bh.mem_iff
  simp only [ad6]at this
  exact⟨λav=>by obtain⟨z,aC,e⟩:=this.1 ⟨y,av,rfl⟩;rw [<-ja e];exact aC,λav=>by obtain⟨z,aC,e⟩:=this.2 ⟨y,av,rfl⟩;rw [<-ja e];exact aC⟩
theorem ZB{ck:Nat}{L:List (cS ByteArray)}{K:Option Addr->Nat->Nat->J->Prop}(hm:dM ea H r ck L)(gF:L.length<=1000000000000)
  (hk:∀ys a n c H',Pd L ys->Own bs.dT 9 H.size H' a n c ys->Fr [] H H'->K a n c H'):
  aY atf 404 ⟨[.map (some r)]⟩ H λv H'=>∃jG,v=jG/\aY atf 403 ⟨[jG]⟩ H' λv H'=>∃a n c,v=.slice a n c/\K a n c H':=by
 apply ZC
 intro b H1 ay
 refine⟨_,rfl,?_⟩
 have hs:=ay.size
 have he:=ay.eq
 refine Zw (Zn (b:=b) (r:=r) (ck:=ck) (L:=L)) (λys h=>by have:=I9 h;omega) (λys h=>by have:=I9 (L:=L) ⟨h.1,λy av=>(h.2 y).1 av⟩;omega) (λH' af=>⟨ay.bo.ab af,(hm.ab ea ay.ag).ab ea af⟩) (λk hk=> ?_) λxs ys a n c ao cn av an af=> ?_
 ·have:=hm.lt
  simp at hk
  omega
 ·exact hk ys a n c ao (ZA cn av) (an.base (by omega)) (ay.ag.aw af)
def kK(H:J)(r:Nat)(T:Int->Prop):Prop:=∃ck L,dM dB H r ck L/\∀k,(T k/\dA k L=some (.bool true))\/(¬T k/\dA k L=none)
theorem kK.ag{T:Int->Prop}{S:List Nat}(h:kK H r T)(af:Fr S H H')(ay:r∉S):kK H' r T:=by
 obtain⟨ck,L,hm,hk⟩:=h
 exact⟨ck,L,hm.ag dB af ay,hk⟩
theorem kK.lt{T:Int->Prop}(h:kK H r T):r<H.size:=by
 obtain⟨ck,L,hm,hk⟩:=h
 exact hm.lt
theorem kK.iff{T I':Int->Prop}(h:kK H r T)(he:∀k,T k↔I' k):kK H r I':=by
 have:T=I':=funext λk=>propext (he k)
 subst this;exact h
theorem kK.new(h:ds H r (.map ⟨[]⟩ 0) H'):kK H' r λ_=>False:=⟨0,[],dM.new dB h,λk=>.inr ⟨id,rfl⟩⟩
theorem kK.put{T:Int->Prop}{K:J->Prop}(h:kK H r T)(x:Int)(hk:∀H',kK H' r (λk=>T k\/k=x)->Fr [r] H H'->K H'):
  iQ atf (Instr.mapUpdate 245 (.map (some r)) (.int .i64 x) (.bool true)) H K:=by
 obtain⟨ck,L,hm,aZ⟩:=h
 refine uN dB (mt:=245) (e:=4) avc hm x λH' ev af=>hk H' ⟨_,_,ev,λk=> ?_⟩ af
 rw [uO]
 by_cases e:k=x
 ·exact .inl ⟨.inr e,by rw [if_pos e]⟩
 ·rw [if_neg e]
  rcases aZ k with⟨h1,ae⟩|⟨h1,ae⟩
  ·exact .inl ⟨.inl h1,ae⟩
  ·exact .inr ⟨λh=>h.elim h1 e,ae⟩
theorem ZD:zeroOf atf 4=some (.bool false):=by kernel_rfl
theorem kK.look{T:Int->Prop}(h:kK H r T)(x:Int):∃b,Rd atf (Instr.lookup 245 (.map (some r)) (.int .i64 x) false) H (.bool b)/\(b=true↔T x):=by
 obtain⟨ck,L,hm,aZ⟩:=h
 have aH:=r6 dB (mt:=245) (e:=4) avc ZD hm x
 rcases aZ x with⟨h1,ae⟩|⟨h1,ae⟩
 ·rw [ae]at aH
  exact⟨true,aH,⟨λ_=>h1,λ_=>rfl⟩⟩
 ·rw [ae]at aH
  exact⟨false,aH,⟨(λh=>by cases h),λh=>absurd h h1⟩⟩
def mQ(H:J)(r:Nat)(Q:List Nat)(last:ByteArray->Option (ByteArray×List Int)):Prop:=
 ∃ck L,dM ea H r ck L/\(∀x∈L,∃d a n c xs,x.2.1=.agg ⟨[.string d,.slice a n c]⟩/\bk b' H a n c xs/\(∀k∈ax a,k∈Q)/\last x.1=some (d,xs))/\∀k,dA k L=none->last k=none
theorem mQ.ag{Q T:List Nat}{last:ByteArray->Option (ByteArray×List Int)}(h:mQ H r Q last)(af:Fr T H H')(aA:r∉T)(aO:e2 Q T):mQ H' r Q last:=by
 obtain⟨ck,L,hm,he,ay⟩:=h
 refine⟨ck,L,hm.ag ea af aA,λx aa=> ?_,ay⟩
 obtain⟨d,a,n,c,xs,e,hs,a1,aH⟩:=he x aa
 exact⟨d,a,n,c,xs,e,hs.ag af (λal e=>aO _ (a1 _ (by simp [e,ax]))),a1,aH⟩
theorem mQ.ab{Q:List Nat}{last:ByteArray->Option (ByteArray×List Int)}(h:mQ H r Q last)(af:Fr [] H H'):mQ H' r Q last:=h.ag af (by simp) (λ_ _=>by simp)
def ic(H:J)(r:Nat)(now:ByteArray->Option ByteArray)(N:Nat):Prop:=
 ∃ck L,dM ea H r ck L/\L.length<=N/\∀k,dA k L=(now k).map auM
theorem ic.ag{T:List Nat}{now:ByteArray->Option ByteArray}{N:Nat}(h:ic H r now N)(af:Fr T H H')(aA:r∉T):ic H' r now N:=by
 obtain⟨ck,L,hm,he,ay⟩:=h
 exact⟨ck,L,hm.ag ea af aA,he,ay⟩
theorem ic.lt{now:ByteArray->Option ByteArray}{N:Nat}(h:ic H r now N):r<H.size:=by
 obtain⟨ck,L,hm,_⟩:=h
 exact hm.lt
def pL(last:ByteArray->Option (ByteArray×List Int))(dir:List Int)(k:Int):Prop:=k∈dir\/∃bP d xs,last bP=some (d,xs)/\k∈xs
theorem ZE{s:Addr}{cs:List Value}{cy:Nat}{Q:List Nat}{last:ByteArray->Option (ByteArray×List Int)}{a:Option Addr}{n c:Nat}{dir:List Int}{K:Nat->J->Prop}(hs:aU H s cs)
  (ae:cs[2]?=some (.map (some cy))) (au:cs[3]?=some (.slice a n c)) (aH:mQ H cy Q last) (aO:bk b' H a n c dir) (ay:n<=1000000000)
  (a1:∀bP d xs,last bP=some (d,xs)->xs.length<=1000000000)
  (hk:∀r H',kK H' r (pL last dir)->H.size<=r->Fr [] H H'->K r H'):
  aY atf ZF ⟨[.pointer (some s)]⟩ H λv H'=>∃r,v=.map r/\∃eU,r=some eU/\K eU H':=by
 apply ZG
 intro b H1 aB
 have ah:=aB.eq
 have e6:=aB.size
 refine⟨a,n,c,(hs.ab aB.ag).ld (by kernel_rfl) au,λvs ao=>match vs with|[.int _ i]=>∃j:Nat,i=j/\j<=n/\kK ao b (λk=>k∈dir.take j)/\Fr [] H ao|_=>False,
  λvs _=>match vs with|[.int _ i]=>n-i.toNat|_=>0,⟨0,rfl,by omega,(kK.new aB).iff (by simp),aB.ag⟩,?_⟩
 rintro bm i ao ⟨j,rfl,a',pM,bt⟩
 have hlen:=aO.len
 refine ai (λaD=> ?_) (λaD=> ?_)
 ·have bT:j<n:=by simpa using aD
  have aa:dir[j]?=some (dir[j]'(by omega)):=by simp
  generalize dir[j]'(by omega)=x at aa
  refine(aO.ab bt).get rfl aa (by simp;omega) λal e ak=> ?_
  refine⟨x,iq (by kernel_rfl) ak,pM.put x λaF au bG=>⟨⟨j+1,b6 (by omega),by omega,au.iff λk=> ?_,bt.ab bG (by simp;omega)⟩,?_⟩⟩
  ·rw [ats,aa]
   simp
  ·show n-(IntKind.i64.wrap ((j:Int)+1)).toNat<n-((j:Nat):Int).toNat
   rw [b6 (by omega)]
   exact cJ bT
 ·have zQ:j=n:=by simp at aD;omega
  subst zQ
  have pM:kK ao b (λk=>k∈dir):=pM.iff λk=>by rw [asG (by omega)]
  obtain⟨ck,L,jl,ZH,ZI⟩:=aH
  have hm:=jl.ab ea bt
  have ap6:=jl.lt
  refine⟨some cy,(hs.ab bt).ld (by kernel_rfl) ae,x6 ea (mt:=142) (e:=148) auH hm λit aF bF=> ?_⟩
  have hit:=bF.eq
  have rh:=bF.size
  have b8:=pM.lt
  have Pe:it≠b:=by omega
  have bG:Fr [] H aF:=bt.aw bF.ag
  refine⟨λ_ aN=>∃(seen:Array Nat),kK aN b (λk=>k∈dir\/∃x∈L,x.2.2∈seen/\∃d xs,last x.1=some (d,xs)/\k∈xs)/\aN[it]?=some (.mapIter (some cy) ck seen ck)/\Fr [] H aN,
   λ_ aN=>lF aN cy it,⟨#[],(pM.ag bF.ag (by simp)).iff (by simp),bF.get,bG⟩,?_⟩
  rintro dF aN ⟨seen,Pf,uR,bU⟩
  have tv:dM ea aN cy ck L:=jl.ab ea bU
  refine wE ea tv uR (λdG=>⟨_,rfl,_,rfl,?_⟩) λx aa jY bw ra bW=> ?_
  ·refine hk b aN (Pf.iff λk=> ?_) (by omega) bU
   unfold pL
   constructor
   ·rintro(h|⟨x,aa,_,d,xs,h1,ae⟩)
    ·exact .inl h
    ·exact .inr ⟨x.1,d,xs,h1,ae⟩
   ·rintro(h|⟨bP,d,xs,h1,ae⟩)
    ·exact .inl h
    ·refine .inr ?_
     cases aZ:dA bP L with
     |none=>rw [ZI bP aZ]at h1;cases h1
     |some v=>
      obtain⟨fO,e3⟩:=zI aZ
      exact⟨_,e3,dG _ e3,d,xs,h1,ae⟩
  ·obtain⟨d,a2,cr,c2,xs,e,eo,_,uW⟩:=ZH x aa
   have la:dM ea bw cy ck L:=tv.ag ea bW (by simp;exact λe=>by have:=hm.lt;omega)
   refine zJ ea la ra aa rfl ⟨d,a2,cr,c2,e,?_⟩
   have qy:Fr [] H bw:=bU.ab bW (by simp;omega)
   have ZJ:=Pf.ag bW (by simp;exact λe=>Pe e.symm)
   refine ia (by kernel_rfl) (by kernel_rfl) (λx aa=>by simp [atq]at aa;rcases aa with rfl|rfl<;>rfl) (by rfl) λb1 bY cI fR cB=> ?_
   have l7:=qy.aw cB
   have ZK:=ZJ.ag cB (by simp)
   have bH:=eo.len
   have zR:=a1 _ _ _ uW
   have tl:bY[it]?=some (.mapIter (some cy) ck (seen.push x.2.2) ck):=cB.nw ra
   refine⟨a2,cr,c2,fR.bV (j:=1) (by kernel_rfl) rfl,λvs cC=>match vs with|[.int _ i]=>∃j:Nat,i=j/\j<=cr/\kK cC b (λk=>(k∈dir\/∃x∈L,x.2.2∈seen/\∃d xs,last x.1=some (d,xs)/\k∈xs)\/k∈xs.take j)/\Fr [b] bY cC|_=>False,
    λvs _=>match vs with|[.int _ i]=>cr-i.toNat|_=>0,⟨0,rfl,by omega,ZK.iff (by simp),Fr.refl _ _⟩,?_⟩
   rintro hX i7 cC ⟨j,rfl,a',Pg,eJ⟩
   have ri:Fr [] H cC:=l7.ab eJ (by simp;omega)
   refine ai (λaD=> ?_) (λaD=> ?_)
   ·have bT:j<cr:=by simpa using aD
    have B7:xs[j]?=some (xs[j]'(by omega)):=by simp
    generalize xs[j]'(by omega)=y at B7
    have ZL:bk b' cC a2 cr c2 xs:=by
     exact eo.ab ri
    refine ZL.get rfl B7 (by simp;omega) λal e ak=> ?_
    refine⟨y,iq (by kernel_rfl) ak,Pg.put y λed hx l8=>⟨⟨j+1,b6 (by omega),by omega,hx.iff λk=> ?_,eJ.trans' l8 (λk hk _=>hk) (λk hk _=>hk)⟩,?_⟩⟩
    ·rw [ats,B7]
     simp [or_assoc]
    ·show cr-(IntKind.i64.wrap ((j:Int)+1)).toNat<cr-((j:Nat):Int).toNat
     rw [b6 (by omega)]
     exact cJ bT
   ·have zQ:j=cr:=by simp at aD;omega
    subst zQ
    have B8:cC[it]?=some (.mapIter (some cy) ck (seen.push x.2.2) ck):=eJ.get tl (by simp;exact Pe)
    have uX:dM ea cC cy ck L:=(la.ab ea cB).ag ea eJ (by simp;exact λe=>by omega)
    refine⟨⟨seen.push x.2.2,Pg.iff λk=> ?_,B8,ri⟩,?_⟩
    ·rw [asG (by omega)]
     constructor
     ·rintro((h|⟨z,aC,h1,ae⟩)|h)
      ·exact .inl h
      ·exact .inr ⟨z,aC,by simp [h1],ae⟩
      ·exact .inr ⟨x,aa,by simp,d,xs,uW,h⟩
     ·rintro(h|⟨z,aC,h1,d',n2,ae,au⟩)
      ·exact .inl (.inl h)
      ·simp only [au8]at h1
       rcases h1 with h1|h1
       ·exact .inl (.inr ⟨z,aC,h1,d',n2,ae,au⟩)
       ·have:=BY hm.wf aC aa h1
        subst this
        rw [uW]at ae
        cases ae
        exact .inr au
    ·show lF cC cy it<lF aN cy it
     rw [sa ea tv uR,sa ea uX B8]
     exact BX (ad6.2 ⟨x,aa,rfl⟩) jY
end Go.Proofs.bg
section
open Go.Proofs Go.Shelf
namespace Go.bs
theorem Vs(xs:List Int):xs.flatMap b'.cells=xs.map (asK .i64):=by
 induction xs with
 |nil=>rfl
 |cons x l ih=>rw [Er,ih];rfl
theorem anl{P:Program}{hT:Ren}(L:SlLaysM.n5 P hT){k:FuncId}(lA:hT.f 5=k){t:TypeId}{base:Nat}{H:J}{a:Option Addr}{n c:Nat}{xs:List Int}{K:J->Prop}(an:Own b' t base H a n c xs)(ay:n<4611686018427387904)
  (hk:∀H',Own b' t base H' a n c (xs.mergeSort λx y=>decide (x<=y))->Fr (ax a) H H'->K H'):
  aY P k ⟨[.slice a n c]⟩ H λv H'=>v=.tuple ⟨[]⟩/\K H':=by
 subst lA
 intro E d
 have aH:=an.1
 obtain⟨_,⟨rfl,aD,vI⟩|⟨b,cur,rfl,ah,aq,ak,hm,hs,bf⟩⟩:=id an
 ·have:=AnyM.slices_Sort_int_none L none c (a8 E H d)
  rw [aD]
  refine this.mono ?_
  rintro e w' ⟨rfl,rfl⟩
  have aa:xs=[]:=asF (by omega)
  subst aa
  exact⟨_,H,d,rfl,rfl,rfl,hk H (by simpa using an) (Fr.refl _ _)⟩
 ·rw [Vs]at bf
  have e3:(a8 E H d).heap[b]?=some (.cells cur t (0,0)):=aq
  have dC:b'.sz=1:=rfl
  rw [dC,atM]at bf hs
  rw [aH]at bf
  have hH:Go.Sort.Holds (asK .i64) (a8 E H d) b 0 xs.toArray:=holds_of_blockI e3 bf
  have:=AnyM.slices_Sort_int L b 0 c xs (a8 E H d) hH (k2 aq) (by omega)
  rw [aH]
  refine this.mono ?_
  rintro e w' ⟨rfl,m,os,rfl⟩
  have yB:=auS xs (λx y=>decide (x<=y))
  have hlen:(xs.mergeSort λx y=>decide (x<=y)).length=xs.length:=yB.length_eq
  generalize aZ:(xs.mergeSort λx y=>decide (x<=y))=ys at hk hlen
  refine⟨_,(Go.Sort.grow (Go.Sort.putRow (asK .i64) (Go.Sort.ahead (a8 E H d) m) b 0 ys.toArray) os).heap,⟨d.1+m,VF d.2 (au3 _ _)⟩,rfl,rfl,rfl,hk _ ?_ ?_⟩
  ·refine⟨by omega,.inr ⟨b,_,rfl,ah,heap_sortedI _ e3,by omega,hm,by simp [Go.Sort.putCells,hs,dC],?_⟩⟩
   rw [Vs,dC,atM,aH,<-hlen]
   exact take_putCellsI cur ys (by omega)
  ·have Em:=grownBy_sortedI (w:=a8 E H d) (g:=b) (n:=m) (os:=os) ys.toArray
   exact⟨Em.size,λk hk ay=>Em.block k hk (by simp [ax]at ay;simpa using ay)⟩
end Go.bs
end
namespace Go.Proofs.bg
theorem FJ:∀(l k:List Int),l.Nodup->(∀x∈l,x∈k)->l.length<=k.length
 |[],_,_,_=>apG _
 |x::l,k,h,hs=>by
  have h':=apI.1 h
  have aa:=hs x (by simp)
  have:=FJ l (k.erase x) h'.2 λy av=>by
   have cH:y≠x:=λe=>h'.1 (by rw [<-e];exact av)
   exact(au9 cH).2 (hs y (by simp [av]))
  rw [ava aa]at this
  have bh:=avb aa
  simp only [asE]
  omega
theorem O8{n:Int}(h1:0<=n)(ae:n<18446744073709551616):IntKind.u64.wrap n=n:=by
 have:IntKind.u64.wrap n=n % 18446744073709551616:=by
  simp [atj,ato,atx]
 rw [this];omega
open Classical in
noncomputable def jo(T:Int->Prop)(n:Nat):List Int:=((asl n).filter λk:Nat=>decide (2<=k/\¬T (k:Int))).map λk:Nat=>(k:Int)
theorem zS(T:Int->Prop)(n:Nat):jo T (n+1)=jo T n++(open Classical in if 2<=n/\¬T (n:Int)then [(n:Int)]else []):=by
 unfold jo
 rw [List.range_succ,auV,as2]
 congr 1
 by_cases h:2<=n/\¬T (n:Int)
 ·simp [h]
 ·simp [h]
variable{H:J}{N r n c dw df b cy:Nat}{vs:List Value}{d:Addr}{Sd ie:List Nat}
theorem ZM(T:Int->Prop){m:Nat}(h:n<=m):jo T n<+:jo T m:=by
 obtain⟨k,rfl⟩:=Nat.exists_eq_add_of_le h
 clear h
 induction k with
 |zero=>exact List.prefix_refl _
 |succ k ih=>rw [<-Nat.add_assoc,zS];exact ih.trans (List.prefix_append _ _)
theorem ZN(T:Int->Prop):jo T 2=[]:=by
 rw [zS,zS]
 simp [jo]
theorem ZO(T:Int->Prop)(n:Nat):(jo T n).length<=n:=by
 unfold jo
 rw [atw]
 have:=avd (λk:Nat=>(open Classical in decide (2<=k/\¬T (k:Int)))) (asl n)
 rw [List.length_range]at this
 exact this
theorem ZP{b1 rt:Nat}{s:Addr}{cs:List Value}{T:Int->Prop}{m:ei}{sz:Nat}(ak:cs[0]?=some (.pointer (some d)))(dC:m.size=sz)(ap7:sz<=512)(ae:8<=sz):
  wL atf (λn=>.int .i64 n) (.func (.func 424) ⟨[]⟩ ⟨[.pointer (some ⟨b,0,none⟩),.pointer (some ⟨b1,0,none⟩)]⟩) (λys=>ys<+:jo T sz) (λys=>ys=jo T sz) (b::b1::rt::s.block::Sd)
  (λH=>aU H ⟨b,0,none⟩ [.pointer (some s)]/\aU H ⟨b1,0,none⟩ [.map (some rt)]/\kK H rt T/\aU H s cs/\ob H d Sd m N):=by
 intro l H cc K S b4 eC aO aD zP step fin
 obtain⟨ah,cI,pM,hs,zT⟩:=b4
 refine⟨424,⟨[]⟩,_,rfl,by kernel_rfl,?_⟩
 apply ZQ
 refine⟨λvs ao=>match vs with|[.int _ i]=>∃(j:Nat) (S2:List Nat),i=j/\2<=j/\j<=sz/\cc (jo T j) S2 ao/\Fr S H ao/\Grow H S S2/\In ao S2|_=>False,
  λvs _=>match vs with|[.int _ i]=>sz-i.toNat|_=>0,⟨2,S,rfl,by omega,by omega,by rw [ZN];exact aD,Fr.refl _ _,Grow.refl _ _,eC⟩,?_⟩
 rintro bm i ao ⟨j,S2,rfl,ZR,a',eI,af,aZ,uV⟩
 have m1:∀k∈(b::b1::rt::s.block::Sd),k∉S:=λk hk tw=>aO k tw hk
 have b8:=ah.ag af (m1 b (by simp))
 have uY:=cI.ag af (m1 b1 (by simp))
 have ZS:=pM.ag af (m1 rt (by simp))
 have gZ:=hs.ag af (m1 _ (by simp))
 have ZT:=zT.ag af λk hk=>m1 k (by simp [hk])
 have Ph:sz-(IntKind.i64.wrap ((j:Int)+1)).toNat<sz-((j:Nat):Int).toNat↔j<sz:=by
  rw [b6 (by omega)];omega
 refine⟨_,b8.b5 (by kernel_rfl) rfl,_,gZ.b5 (by kernel_rfl) ak,O7 ZT ?_⟩
 show aJ (decide ((j:Int)<m.size)) _ _
 refine ai (λcF=> ?_) (λgH=> ?_)
 ·have cF:j<sz:=by rw [dC]at cF;simpa using cF
  obtain⟨fj,wN,dc⟩:=ZS.look (j:Int)
  refine⟨_,uY.b5 (by kernel_rfl) rfl,fj,wN,ai (λau=> ?_) (λau=> ?_)⟩
  ·have ZU:¬T (j:Int):=λh=>by rw [dc.2 h]at au;cases au
   have se:jo T (j+1)=jo T j++[(j:Int)]:=by rw [zS,if_pos ⟨ZR,ZU⟩]
   refine .inr ⟨l,rfl,(step (jo T j) (j:Int) S2 ao (by rw [<-se];exact ZM T cF) uV eI).mono λv aF=> ?_⟩
   rintro⟨rfl,lb,B5,bG,sg,B6⟩
   refine⟨true,rfl,ai (λh=>by simp at h) λ_=>⟨⟨j+1,lb,b6 (by omega),by omega,by omega,by rw [se];exact B5,?_,?_,B6⟩,Ph.2 cF⟩⟩
   ·exact af.trans' bG (λk hk _=>hk) (λk hk aH=>(aZ k hk).elim id λh=>by omega)
   ·exact aZ.trans af.size sg
  ·have ZV:T (j:Int):=by
    cases fj with
    |true=>exact dc.1 rfl
    |false=>cases au
   have se:jo T (j+1)=jo T j:=by rw [zS,if_neg (λh=>h.2 ZV),as0]
   exact⟨⟨j+1,S2,b6 (by omega),by omega,by omega,by rw [se];exact eI,af,aZ,uV⟩,Ph.2 cF⟩
 ·have gH:j=sz:=by rw [dC]at gH;simp at gH;omega
  subst gH
  exact⟨rfl,fin _ S2 ao rfl eI uV af aZ⟩
theorem ZW{seq:Value}{A F:List Int->Prop}{Q:List Nat}{G:J->Prop}{K:Option Addr->Nat->Nat->J->Prop}(a1:wL atf (λn=>.int .i64 n) seq A F Q G)
  (e0:∀ys,A ys->ys.length<=1000000000000) (b4:∀H',Fr [] H H'->G H') (cg:∀k∈Q,k<H.size)
  (hk:∀xs a n c H',F xs->Own b' 3 H.size H' a n c xs->Fr [] H H'->K a n c H'):
  aY atf 400 ⟨[seq]⟩ H λv H'=>∃a n c,v=.slice a n c/\K a n c H':=by
 apply ZX
 apply ZY
 exact Pc (K:=λa n c H'=>∃aK aQ aT,atK a n c=.slice aK aQ aT/\∃lI mb mc,atK aK aQ aT=.slice lI mb mc/\K lI mb mc H') (E:=b') (t:=3) (bytes:=8) I5 wu (by kernel_rfl) (by kernel_rfl) (by kernel_rfl) (λ_=>rfl) a1 (λys h=>by have:=e0 ys h;omega) b4 cg λxs a n c H' h1 ae au=>⟨_,_,_,rfl,_,_,_,rfl,hk xs a n c H' h1 ae au⟩
theorem ZZ{s:Addr}{cs:List Value}{Q:List Nat}{m:ei}{last:ByteArray->Option (ByteArray×List Int)}{a:Option Addr}{dir:List Int}{K:Option Addr->Nat->Nat->J->Prop}(hs:aU H s cs)
  (aD:cs[0]?=some (.pointer (some d))) (ae:cs[2]?=some (.map (some cy))) (au:cs[3]?=some (.slice a n c)) (zT:ob H d Sd m N) (aH:mQ H cy Q last) (aO:bk b' H a n c dir) (ay:n<=1000000000)
  (a1:∀bP d xs,last bP=some (d,xs)->xs.length<=1000000000)
  (hk:∀a n c H',Own b' 3 H.size H' a n c (jo (pL last dir) m.size.toNat)->Fr [] H H'->K a n c H'):
  aY atf 401 ⟨[.pointer (some s)]⟩ H λv H'=>∃jG,v=jG/\aY atf 400 ⟨[jG]⟩ H' λv H'=>∃a n c,v=.slice a n c/\K a n c H':=by
 apply Z0
 intro b H1 aB
 have ah:=aB.eq
 have e6:=aB.size
 have f1:=aB.ag
 refine⟨_,aB.bo.b5 (by kernel_rfl) rfl,?_⟩
 have:=ZE (K:=λr H'=>∀(ir:Nat) (cv:J),ds H' ir (.cells ⟨[.map none]⟩ 245) cv->∃cG,fb atf 245 cv ⟨ir,0,none⟩ (.map (some r)) cG/\∃jG,Value.func (.func 424) ⟨[]⟩ ⟨[.pointer (some ⟨b,0,none⟩),.pointer (some ⟨ir,0,none⟩)]⟩=jG/\aY atf 400 ⟨[jG]⟩ cG λv H'=>∃a n c,v=.slice a n c/\K a n c H')
  (hs.ab f1) ae au (aH.ab f1) (aO.ab f1) ay a1 λr ao pM aA f2=> ?_
 ·refine aY.mono this λv H'=> ?_
  rintro⟨r,rfl,eU,rfl,h⟩
  exact⟨_,rfl,h⟩
 ·refine ia (by kernel_rfl) (by kernel_rfl) (λx aa=>by simp [atq]at aa;subst aa;rfl) (by rfl) λb1 aF cI fR f3=>⟨_,rfl,?_⟩
  have Z1:=f1.aw f2
  have nA:=Z1.aw f3
  have dC:8<=m.size/\m.size<=512:=by
   obtain⟨iH,Z2,jb,sf⟩:=zT.it
   exact sf.size
  have eC:In H Sd:=zT.oW
  refine ZW (ZP (b:=b) (b1:=b1) (rt:=r) (s:=s) (d:=d) (cs:=cs) (T:=pL last dir) (Sd:=Sd) (m:=m) (N:=N) (sz:=m.size.toNat) aD (by omega) (by omega) (by omega)) (λys h=> ?_) (λH' af=> ?_) (λk cA=> ?_) λxs a n c aN cn an af=> ?_
  ·have:=h.length_le
   have:=ZO (pL last dir) m.size.toNat
   omega
  ·exact⟨((aB.bo.ab f2).ab f3).ab af,fR.ab af,(pM.ag f3 (by simp)).ag af (by simp),(hs.ab nA).ab af,(zT.ab nA).ab af⟩
  ·simp only [o3]at cA
   have s2:=f2.size
   have qt:=f3.size
   have Z3:=fR.lt
   have ap8:=pM.lt
   have ss:=hs.lt
   rcases cA with rfl|rfl|rfl|rfl|h
   ·omega
   ·exact Z3
   ·omega
   ·omega
   ·have:=eC k h;omega
  ·subst cn
   exact hk a n c aN (an.base (by have:=nA.size;omega)) (nA.aw af)
def me(n:Nat):Nat:=(n+63)/64
def piece(a:Option Addr)(n i:Nat):Option Addr×Nat×Nat:=(dh (min (64*i+64) n) (64*i) 1 a,min (64*i+64) n-64*i,min (64*i+64) n-64*i)
def pieces(a:Option Addr)(n:Nat):List (Option Addr×Nat×Nat):=(asl (me n)).map (piece a n)
def Z4(x:Option Addr×Nat×Nat):Value:=.slice x.1 x.2.1 x.2.2
def Ja(l:List UInt8):List (List UInt8):=(asl (me l.length)).map λi=>(l.take (min (64*i+64) l.length)).drop (64*i)
def eS(s:ByteArray):List ByteArray:=(Ja (bj s)).map λl=>⟨l.toArray⟩
theorem Jb(a:Option Addr)(n:Nat):(pieces a n).length=me n:=by simp [pieces]
theorem wO(s:ByteArray):(eS s).length=me s.size:=by simp [eS,Ja,c6]
theorem Pj{α:Type}(f:Nat->α){k:Nat}(h:k<n):((asl n).map f).take (k+1)=((asl n).map f).take k++[f k]:=by
 rw [ats]
 simp [h]
theorem Z5{b1:Nat}{a:Option Addr}(ay:n<=1000000000000)(ak:n<=c):
  wL atf Z4 (.func (.func 438) ⟨[]⟩ ⟨[.pointer (some ⟨b,0,none⟩),.pointer (some ⟨b1,0,none⟩)]⟩) (λys=>ys<+:pieces a n) (λys=>ys=pieces a n) [b,b1]
  (λH=>aU H ⟨b,0,none⟩ [.slice a n c]/\aU H ⟨b1,0,none⟩ [.int .i64 64]):=by
 intro l H cc K S b4 eC aO aD zP step fin
 obtain⟨ah,cI⟩:=b4
 refine⟨438,⟨[]⟩,_,rfl,by kernel_rfl,?_⟩
 apply Z6
 refine⟨λvs ao=>match vs with|[.int _ i]=>∃(j:Nat) (S2:List Nat),i=((64*j:Nat):Int)/\j<=me n/\cc ((pieces a n).take j) S2 ao/\Fr S H ao/\Grow H S S2/\In ao S2|_=>False,
  λvs _=>match vs with|[.int _ i]=>n+64-i.toNat|_=>0,⟨0,S,rfl,by omega,by simpa using aD,Fr.refl _ _,Grow.refl _ _,eC⟩,?_⟩
 rintro bm i ao ⟨j,S2,rfl,a',eI,af,aZ,uV⟩
 have m1:∀k∈[b,b1],k∉S:=λk hk tw=>aO k tw hk
 have b8:=ah.ag af (m1 b (by simp))
 have uY:=cI.ag af (m1 b1 (by simp))
 have Jc:me n=(n+63)/64:=rfl
 refine⟨a,n,c,b8.b5 (by kernel_rfl) rfl,ai (λh=> ?_) (λh=> ?_)⟩
 ·have cF:64*j<n:=by
   have h1:((64*j:Nat):Int)<(n:Int):=by simpa using h
   omega
  have mE:j<me n:=by omega
  refine⟨64,uY.b5 (by kernel_rfl) rfl,a,n,c,b8.b5 (by kernel_rfl) rfl,cb (decide_eq_true (by omega)) ⟨a,n,c,b8.b5 (by kernel_rfl) rfl,?_⟩⟩
  have fC:(((64*j:Nat):Int)+if(((n:Int).toNat-((64*j:Nat):Int).toNat:Nat):Int)<64 then(((n:Int).toNat-((64*j:Nat):Int).toNat:Nat):Int)else 64)=((min (64*j+64) n:Nat):Int):=by
   split<;>omega
  have bc:IntKind.i64.wrap (((64*j:Nat):Int)+if(((n:Int).toNat-((64*j:Nat):Int).toNat:Nat):Int)<64 then(((n:Int).toNat-((64*j:Nat):Int).toNat:Nat):Int)else 64)=((min (64*j+64) n:Nat):Int):=by
   rw [fC,dv (by omega) (by omega)]
  rw [bc]
  refine cb (decide_eq_true (by omega)) ?_
  have se:(pieces a n).take (j+1)=(pieces a n).take j++[piece a n j]:=Pj _ mE
  refine .inr ⟨l,rfl,(step ((pieces a n).take j) (piece a n j) S2 ao (by rw [<-se];exact List.take_prefix _ _) uV eI).mono λv aF=> ?_⟩
  rintro⟨rfl,lb,B5,bG,sg,B6⟩
  have dZ:Fr S H aF:=af.trans' bG (λk hk _=>hk) (λk hk aH=>(aZ k hk).elim id λh=>by omega)
  refine⟨true,rfl,ai (λh=>by simp at h) λ_=>⟨64,(cI.ag dZ (m1 b1 (by simp))).b5 (by kernel_rfl) rfl,⟨j+1,lb,?_,by omega,by rw [se];exact B5,dZ,aZ.trans af.size sg,B6⟩,?_⟩⟩
  ·rw [dv (by omega) (by omega)];omega
  ·show n+64-(IntKind.i64.wrap (((64*j:Nat):Int)+64)).toNat<n+64-(((64*j:Nat):Int)).toNat
   rw [dv (by omega) (by omega)];omega
 ·have gH:n<=64*j:=by
   have h1:¬((64*j:Nat):Int)<(n:Int):=by simpa using h
   omega
  have Jd:j=me n:=by omega
  subst Jd
  refine⟨rfl,fin _ S2 ao ?_ eI uV af aZ⟩
  rw [asG (by rw [Jb];exact nQ _)]
theorem Je{s:ByteArray}{K:Option Addr->Nat->Nat->J->Prop}(hs:s.size<=1000000000)
  (hk:∀a n c H',Own bs.dT 9 H.size H' a n c (eS s)->Fr [] H H'->K a n c H'):
  aY atf Z7 ⟨[.string s]⟩ H λv H'=>∃a n c,v=.slice a n c/\K a n c H':=by
 apply Z8
 intro b H1 aB
 have ah:=aB.eq
 have e6:=aB.size
 refine B0 ef.str ef.bL (by kernel_rfl) λq qc ao a1 eo f2=> ?_
 apply Z9
 intro b2 aF bF cX aN cp
 have rh:=bF.size
 have Jf:=cp.size
 have dP:=bF.eq
 have iZ:=cp.eq
 have s2:=f2.size
 have f13:Fr [] H1 aF:=f2.aw bF.ag
 have f14:Fr [] H1 aN:=f13.aw cp.ag
 refine⟨64,cp.bo.b5 (by kernel_rfl) rfl,ai (λh=>by simp at h) λ_=>⟨_,rfl,λD l bM bw kV sh=> ?_⟩⟩
 have hblk:=aB.bo.ab f14
 obtain⟨Jg,FK⟩:=nB.start (E:=bs.dT) (t:=9) (aB.ag.aw f14) hblk (by omega) kV
 obtain⟨f45,_,_,ap9,el,tj⟩:=kV.out
 have x4:=eo.cap
 have Z':=f45.size
 have FL:0<s.size->q<ao.size:=λh=>by
  obtain⟨fO,off,e,cF⟩:=eo.arr.lt (by intro e;have:=c6 s;rw [e]at this;simp at this;omega)
  cases e
  exact cF
 have hF:eS s=(asl (me s.size)).map λi=>(⟨((bj s).take (min (64*i+64) s.size)|>.drop (64*i)).toArray⟩:ByteArray):=by
  unfold eS Ja
  rw [List.map_map,c6]
  rfl
 refine dO.mono ((Z5 (b:=b2) (b1:=cX) (a:=some ⟨q,0,none⟩) (n:=s.size) (c:=qc) (by omega) x4) l bw
  (λys S sj=>nB bs.dT 9 H.size l D b bM H ((eS s).take ys.length) S sj/\(0<s.size->bk fQ sj (some ⟨q,0,none⟩) s.size qc (bj s)/\q∉S))
  (λaN=>_) [b,l,D] ⟨(bF.bo.ab cp.ag).ab f45,cp.bo.ab f45⟩ FK ?_ ⟨Jg,λaD=>⟨(eo.ab (bF.ag.aw cp.ag)).ab f45,?_⟩⟩ ?_ ?_ ?_) λv H' h=>h.2
 ·intro k hk Jh
  simp only [o3,aty,or_false]at hk Jh
  omega
 ·have:=FL aD
  intro h
  simp only [o3,aty,or_false]at h
  omega
 ·rintro ys S wP B9 T ⟨eI,aa⟩ af aO dc
  refine⟨eI.stay af aO λk hk=>by have:=dc k hk;have:=aB.ag.size;omega,λaD=>⟨(aa aD).1.ag af λal e aq=> ?_,(aa aD).2⟩⟩
  cases e
  have h1:bw.size<=q:=dc _ aq
  have ae:=FL aD
  omega
 ·rintro ys x S sj e0 eC ⟨eI,aa⟩
  have a':ys.length<me s.size:=by
   have:=e0.length_le
   rw [Jb]at this
   simp at this
   omega
  have Jc:me s.size=(s.size+63)/64:=rfl
  have aD:0<s.size:=by omega
  have aaa:x=piece (some ⟨q,0,none⟩) s.size ys.length:=by
   obtain⟨zs,aC⟩:=e0
   have h1:(pieces (some ⟨q,0,none⟩) s.size)[ys.length]?=some x:=by rw [<-aC];simp
   unfold pieces at h1
   simp [a']at h1
   exact h1.symm
  subst aaa
  obtain⟨Ji,Jj⟩:=aa aD
  obtain⟨a2,cr,c2,fR,an,bI,m1,m2,m3⟩:=eI.it
  have aab:q≠l:=λe=>Jj (by simp [bI,e])
  refine sh _ _ _ sj _ eI.mz ⟨eI.mz,a2,cr,c2,(fR.ag (tx sj l bM .busy none) (by simp [eI.bj])).b5 (by kernel_rfl) rfl,?_⟩
  have hlen:=c6 s
  have zU:=(Ji.ag (tx sj l bM .busy none) (λal e aq=>by cases e;simp at aq;exact aab aq)).cut (k:=64*ys.length) (m:=min (64*ys.length+64) s.size) (by omega) (by omega)
  have aac:dh qc (64*ys.length) 1 (some ⟨q,0,none⟩)=dh (min (64*ys.length+64) s.size) (64*ys.length) 1 (some ⟨q,0,none⟩):=by
   rw [v7,v7,if_neg (by omega),if_neg (by omega)]
  have aad:bk fQ (dR sj l bM .busy none) (piece (some ⟨q,0,none⟩) s.size ys.length).1 (piece (some ⟨q,0,none⟩) s.size ys.length).2.1 (piece (some ⟨q,0,none⟩) s.size ys.length).2.2 (((bj s).take (min (64*ys.length+64) s.size)).drop (64*ys.length)):=by
   refine⟨zU.len,nQ _,?_⟩
   have h1:=zU.arr
   rw [show fQ.sz=1 from rfl,aac]at h1
   exact h1
  have se:(eS s).take (ys.length+1)=(eS s).take ys.length++[⟨(((bj s).take (min (64*ys.length+64) s.size)).drop (64*ys.length)).toArray⟩]:=by
   rw [hF];exact Pj _ a'
  refine zN (e:=5) ef.bL ef.str (by kernel_rfl) aad ?_
  refine eI.more (E:=bs.dT) (bytes:=16) (x:=⟨(((bj s).take (min (64*ys.length+64) s.size)).drop (64*ys.length)).toArray⟩) I4 FI (by kernel_rfl) (by kernel_rfl) rfl eC fR an bI m1 m2 m3 ?_ (Fr.refl _ _) λbY B' lp6 Jk f6 g6 in6=>⟨lp6,rfl,B',⟨?_,λ_=>⟨?_,?_⟩⟩,f6,g6,in6⟩
  ·rw [apH,wO];omega
  ·rw [VH,List.length_singleton,se];exact Jk
  ·exact Ji.ag f6 λal e aq=>by cases e;exact Jj aq
  ·intro h
   have h1:=FL aD
   have ae:=FK b (by simp)
   rcases g6 q h with h|h
   ·exact Jj h
   ·have:=eI.ag.size
    have au:q<sj.size:=by
     obtain⟨fO,off,e,cF⟩:=Ji.arr.lt (by intro e;rw [e]at hlen;simp at hlen;omega)
     cases e
     exact cF
    omega
 ·rintro xs dn bY rfl ⟨eI,_⟩ eC af aZ
  refine .inl (eI.done (P:=atf) (ts:=41) (K:=λa n c H'=>∃fh eh fZ,atK a n c=atK fh eh fZ/\K fh eh fZ H') (by kernel_rfl) λa n c cC an eJ _=>⟨_,_,_,rfl,hk a n c cC ?_ eJ⟩)
  rw [Jb,asG (by rw [wO];exact nQ _)]at an
  exact an
def wQ(x:Int):Prop:=(97<=x/\x<=122)\/(48<=x/\x<=57)\/x=46\/x=45
instance(x:Int):Decidable (wQ x):=by unfold wQ;infer_instance
def mf(s:ByteArray):Prop:=(∀b∈bj s,wQ (b.toNat:Int))/\s.size≠0/\s.size<=16
instance(s:ByteArray):Decidable (mf s):=by unfold mf;infer_instance
theorem Pk{s:ByteArray}{K:Bool->J->Prop}(hs:s.size<=1000000000000)(hk:∀H',Fr [] H H'->K (decide (mf s)) H'):
  aY atf aae ⟨[.string s]⟩ H λv H'=>∃b,v=.bool b/\K b H':=by
 apply aaf
 refine B0 ef.str ef.bL (by kernel_rfl) λq c H1 a1 eo f1=> ?_
 have hlen:=c6 s
 refine⟨λvs ao=>match vs with|[.int _ i]=>∃j:Nat,i=j/\j<=s.size/\(∀b∈(bj s).take j,wQ (b.toNat:Int))/\Fr [] H ao/\Fr [] H1 ao|_=>False,
  λvs _=>match vs with|[.int _ i]=>s.size-i.toNat|_=>0,⟨0,rfl,by omega,by simp,f1,Fr.refl _ _⟩,?_⟩
 rintro bm i ao ⟨j,rfl,a',iT,af,b9⟩
 refine ai (λaD=> ?_) (λaD=> ?_)
 ·have bT:j<s.size:=by simpa using aD
  have aa:(bj s)[j]?=some ((bj s)[j]'(by omega)):=by simp
  generalize(bj s)[j]'(by omega)=x at aa
  refine(eo.ab b9).get rfl aa (by simp;omega) λal e ak=>⟨x.toNat,iq (by kernel_rfl) ak,?_⟩
  have stop:¬wQ (x.toNat:Int)->∃b,atp false=atp b/\K b ao:=λcz=>by
   refine⟨_,rfl,?_⟩
   have:decide (mf s)=false:=by
    simp only [decide_eq_false_iff_not]
    exact λh=>cz (h.1 x (att aa))
   rw [<-this]
   exact hk ao af
  have cont:wQ (x.toNat:Int)->(fun(vs:List Value) (ao:J)=>match vs with|[.int _ i]=>∃j:Nat,i=j/\j<=s.size/\(∀b∈(bj s).take j,wQ (b.toNat:Int))/\Fr [] H ao/\Fr [] H1 ao|_=>False) [.int .i64 (atj .i64 ((j:Int)+1))] ao∧
    (fun(vs:List Value) (_:J)=>match vs with|[.int _ i]=>s.size-i.toNat|_=>0) [.int .i64 (atj .i64 ((j:Int)+1))] ao<(fun(vs:List Value) (_:J)=>match vs with|[.int _ i]=>s.size-i.toNat|_=>0) [.int .i64 (j:Int)] ao:=λff=>by
   refine⟨⟨j+1,b6 (by omega),by omega,λb ah=> ?_,af,b9⟩,?_⟩
   ·rw [ats,aa]at ah
    simp only [auX,asU,ar7]at ah
    rcases ah with ah|rfl
    ·exact iT b ah
    ·exact ff
   ·show s.size-(IntKind.i64.wrap ((j:Int)+1)).toNat<s.size-((j:Nat):Int).toNat
    rw [b6 (by omega)]
    exact cJ bT
  generalize(x.toNat:Int)=z at stop cont⊢
  refine ai (λh1=>ai (λae=>ai (λau=>ai (λa6=>stop ?_) (λa6=>cont ?_)) (λau=>cont ?_)) (λae=>ai (λau=>ai (λa6=>ai (λbu=>stop ?_) (λbu=>cont ?_)) (λa6=>cont ?_)) (λau=>cont ?_)))
   (λh1=>ai (λae=>ai (λau=>ai (λa6=>ai (λbu=>stop ?_) (λbu=>cont ?_)) (λa6=>cont ?_)) (λau=>ai (λa6=>ai (λbu=>ai (λca=>stop ?_) (λca=>cont ?_)) (λbu=>cont ?_)) (λa6=>cont ?_))) (λae=>cont ?_))
  all_goals(unfold wQ;simp at *;omega)
 ·have I2:j=s.size:=by simp at aD;omega
  subst I2
  rw [asG (by omega)]at iT
  refine ai (λh1=>⟨_,rfl,?_⟩) (λh1=>⟨_,rfl,?_⟩)
  ·have cH:s.size≠0:=λe=>by
    have:bj s=[]:=asF (by omega)
    have bN:s=⟨#[]⟩:=ja this
    rw [bN]at h1
    simp at h1
   have:decide ((s.size:Int)<=16)=decide (mf s):=by
    rw [decide_eq_decide]
    exact⟨λh=>⟨iT,cH,by omega⟩,λh=>by have:=h.2.2;omega⟩
   rw [this]
   exact hk ao af
  ·have:decide (mf s)=false:=by
    simp only [decide_eq_false_iff_not]
    intro h
    have ae:=h.2.1
    have e:atn s=atn ⟨#[]⟩:=by simpa using h1
    rw [zV,zV]at e
    have bN:(bj s).length=0:=by rw [e];rfl
    omega
   rw [<-this]
   exact hk ao af
theorem aU.cast{a:Addr}{ws:List Value}(h:aU H a vs)(e:vs=ws):aU H a ws:=e▸h
def oc(n:Int):ei:={size:=if(if 512<n then 512 else n)>8 then if 512<n then 512 else n else 8,is:=λ_=>⟨#[]⟩,wait:=λ_=>[],off:=false,left:=0,ab:=0,calls:=0}
theorem It{n:Int}{K:Option Addr->J->Prop}(hk:∀b H' S,(∀k∈S,H.size<=k)->ob H' ⟨b,0,none⟩ S (oc n) 0->Fr [] H H'->K (some ⟨b,0,none⟩) H'):
  aY atf Pl ⟨[.int .i64 n]⟩ H λv H'=>∃a,v=.pointer a/\K a H':=by
 apply aag
 intro b H1 aB b1 ao bH
 have ah:=aU.cast (ws:=zO (oc n) b) bH.bo (by kernel_rfl)
 have bc:=aB.eq
 have bN:=bH.eq
 have s1:=aB.size
 have s2:=bH.size
 refine⟨_,rfl,hk b1 ao [b1,b] (by simp;omega) ⟨⟨b,0,[],ah,(dM.new dB aB).ab dB bH.ag,by simp;omega,by simp,by simp,by simp,λ_ _=>rfl,?_,by simp⟩,by simp [oc],by simp [oc],λ_=>by simp [oc],?_⟩ (aB.ag.aw bH.ag)⟩
 ·simp only [oc]
  split<;>(repeat' split)<;>omega
 ·intro k hk
  simp at hk
  omega
theorem aah{ck:Nat}{L:List (cS ByteArray)}{K:Value->J->Prop}(hm:dM ea H r ck L)(hk:∀eU H',H.size<=eU->dM ea H' eU ck L->Fr [] H H'->K (.iface 141 (.map (some eU))) H'):
  qP atf 399 ⟨[.iface 141 (.map (some r))]⟩ H K:=by
 intro E d
 refine⟨_,H.push (.map ⟨L.map ea.gI⟩ ck),d,?_,hk H.size _ (nQ _) ⟨by simp,hm.wf⟩ (Ca _ _)⟩
 rw [run_callFunc_extern (e:=Extern.MapsClone.clone) Tryz.func399 (by kernel_rfl) (by kernel_rfl) (by kernel_rfl) (by kernel_rfl)]
 have h1:=Jl (P:=atf) hm.bo (by simp) (a8 E H d) rfl
 have e:(Extern.MapsClone.clone ⟨[.iface 141 (.map (some r))]⟩).run atf (a8 E H d)=.ok (.iface 141 (.map (some H.size))) (a8 E (H.push (.map ⟨L.map ea.gI⟩ ck)) d):=by
  have ak:Extern.MapsClone.clone ⟨[.iface 141 (.map (some r))]⟩=(do
    let .map entries clock<-getObj r|stuck "maps.clone: a map expected"
    pure (.iface 141 (.map (some (<-newObj (.map entries clock)))))):=rfl
  rw [ak]
  simp only [Sem.run_bind,h1,Result.andThen_ok,run_newObj_alloc]
  rfl
 rw [e]
 rfl
theorem aai{r:Option Nat}:Rd atf (Instr.typeAssert (.iface 141 (.map r)) 20 141 false) H (.map r):=by
 intro w hw
 unfold Instr.typeAssert
 simp [eE atJ]
theorem r9{ck:Nat}{L:List (cS ByteArray)}{K:Nat->J->Prop}(hm:dM ea H r ck L)(hk:∀eU H',H.size<=eU->dM ea H' eU ck L->Fr [] H H'->K eU H'):
  aY atf 361 ⟨[.map (some r)]⟩ H λv H'=>∃m,v=.map m/\∃eU,m=some eU/\K eU H':=by
 apply aaj
 refine ai (λh=>by simp at h) λ_=>aah hm λeU H' h1 ae au=>⟨_,rfl,_,aai,_,rfl,_,rfl,hk eU H' h1 ae au⟩
theorem ic.clone{now:ByteArray->Option ByteArray}{K:Nat->J->Prop}(h:ic H r now N)(hk:∀eU H',H.size<=eU->ic H' eU now N->Fr [] H H'->K eU H'):
  aY atf 361 ⟨[.map (some r)]⟩ H λv H'=>∃m,v=.map m/\∃eU,m=some eU/\K eU H':=by
 obtain⟨ck,L,hm,aH,aZ⟩:=h
 exact r9 hm λeU H' h1 ae au=>hk eU H' h1 ⟨ck,L,ae,aH,aZ⟩ au
def oY(now:ByteArray->Option ByteArray)(k v:ByteArray):ByteArray->Option ByteArray:=λx=>if x=k then some v else now x
def tz(now:ByteArray->Option ByteArray)(k:ByteArray):ByteArray->Option ByteArray:=λx=>if x=k then none else now x
theorem FC{cO:Type}[DecidableEq cO](k:cO)(v:Value)(L:List (cS cO)):(bs.mR k v L).length=L.length:=by
 induction L with
 |nil=>rfl
 |cons x l ih=>
  unfold bs.mR
  split
  ·rfl
  ·simp [ih]
theorem Pm{cO:Type}[DecidableEq cO](k:cO)(v:Value)(ck:Nat)(L:List (cS cO)):(oZ k v ck L).length<=L.length+1:=by
 unfold oZ
 split
 ·rw [FC];omega
 ·simp
theorem ic.put{now:ByteArray->Option ByteArray}{K:J->Prop}(h:ic H r now N)(k v:ByteArray)(hk:∀H',ic H' r (oY now k v) (N+1)->Fr [r] H H'->K H'):
  iQ atf (Instr.mapUpdate 141 (.map (some r)) (.string k) (.string v)) H K:=by
 obtain⟨ck,L,hm,aH,aZ⟩:=h
 refine uN ea (mt:=141) (e:=9) atJ hm k λH' ev af=>hk H' ⟨_,_,ev,?_,λx=> ?_⟩ af
 ·have:=Pm k (.string v) ck L
  omega
 ·rw [uO]
  unfold oY
  split
  ·rfl
  ·exact aZ x
theorem ic.del{ty:TypeId}{now:ByteArray->Option ByteArray}{K:J->Prop}(h:ic H r now N)(k:ByteArray)(hk:∀H',ic H' r (tz now k) N->Fr [r] H H'->K H'):
  cj atf (Builtin.delete_ ⟨[141,9]⟩ ty ⟨[.map (some r),.string k]⟩) H λv H'=>v=.tuple ⟨[]⟩/\K H':=by
 obtain⟨ck,L,hm,aH,aZ⟩:=h
 refine aak ea (mt:=141) (e:=9) atJ hm k λH' ev af=>hk H' ⟨_,_,ev,?_,λx=> ?_⟩ af
 ·have:(sk k L).length<=L.length:=avd _ _
  omega
 ·rw [aal]
  unfold tz
  split
  ·rfl
  ·exact aZ x
theorem Pn:zeroOf atf 9=some (.string ⟨#[]⟩):=by kernel_rfl
theorem ic.look{now:ByteArray->Option ByteArray}(h:ic H r now N)(k:ByteArray):Rd atf (Instr.lookup 141 (.map (some r)) (.string k) false) H (.string ((now k).getD ⟨#[]⟩)):=by
 obtain⟨ck,L,hm,aH,aZ⟩:=h
 have:=r6 ea (mt:=141) (e:=9) atJ Pn hm k
 rw [aZ k]at this
 cases ay:now k<;>rw [ay]at this<;>exact this
theorem ic.FM{now:ByteArray->Option ByteArray}(h:ic H r now N)(k:ByteArray):Rd atf (Instr.lookup 141 (.map (some r)) (.string k) true) H (.tuple ⟨[.string ((now k).getD ⟨#[]⟩),.bool (now k).isSome]⟩):=by
 obtain⟨ck,L,hm,aH,aZ⟩:=h
 have:=E9 ea (mt:=141) (e:=9) atJ Pn hm k
 rw [aZ k]at this
 cases ay:now k<;>rw [ay]at this<;>exact this
structure f' where
 now:ByteArray->Option ByteArray
 last:ByteArray->Option (ByteArray×List Int)
 dir:List Int
 gen:Int
 bad:Bool
structure hN(H:J)(s d:Addr)(cK cy:Nat)(a:Option Addr)(n c:Nat)(Q Sd:List Nat)(st:f')(m:ei)(N M:Nat):Prop where
 bo:aU H s [.pointer (some d),.map (some cK),.map (some cy),.slice a n c,.int .i64 st.gen,.bool st.bad]
 now:ic H cK st.now M
 last:mQ H cy Q st.last
 dir:bk b' H a n c st.dir
 Cb:∀k∈ax a,k∈Q
 uZ:ob H d Sd m N
 own:s.block∉cK::cy::Q
 apart:e2 (s.block::cK::cy::Q) Sd
 FN:In H Q
theorem hN.ag{H':J}{s:Addr}{cK:Nat}{a:Option Addr}{Q T:List Nat}{st:f'}{m:ei}{M:Nat}(h:hN H s d cK cy a n c Q Sd st m N M)(af:Fr T H H')(h1:e2 (s.block::cK::cy::Q) T)(ae:e2 Sd T):hN H' s d cK cy a n c Q Sd st m N M:=
 ⟨h.bo.ag af (h1 _ (by simp)),h.now.ag af (h1 _ (by simp)),h.last.ag af (h1 _ (by simp)) λk hk=>h1 _ (by simp [hk]),h.dir.ag af λal e=>h1 _ (by simp [h.Cb al.block (by simp [e,ax])]),h.Cb,h.uZ.ag af ae,h.own,h.apart,h.FN.le af.size⟩
theorem hN.ab{H':J}{s:Addr}{cK:Nat}{a:Option Addr}{Q:List Nat}{st:f'}{m:ei}{M:Nat}(h:hN H s d cK cy a n c Q Sd st m N M)(af:Fr [] H H'):hN H' s d cK cy a n c Q Sd st m N M:=h.ag af (λ_ _=>by simp) (λ_ _=>by simp)
theorem yf{s:Addr}{cK:Nat}{a:Option Addr}{Q:List Nat}{st:f'}{m:ei}{M:Nat}{name:ByteArray}{K:ByteArray->Bool->J->Prop}(h:hN H s d cK cy a n c Q Sd st m N M)
  (hk:K ((st.now name).getD ⟨#[]⟩) (st.now name).isSome H):
  aY atf Jm ⟨[.pointer (some s),.string name]⟩ H λv H'=>∃t b,v=.tuple ⟨[.string t,.bool b]⟩/\K t b H':=by
 apply aam
 exact⟨_,h.bo.ld (by kernel_rfl) rfl,_,_,h.now.FM name,_,_,rfl,hk⟩
def zW(now:ByteArray->Option ByteArray)(ys:List ByteArray):Prop:=(ys.map bj).Pairwise (·<·)/\∀y,y∈ys↔(now y).isSome
theorem ic.names{now:ByteArray->Option ByteArray}{K:Option Addr->Nat->Nat->J->Prop}(h:ic H r now N)(e1:N<=1000000000000)
  (hk:∀ys a n c H',zW now ys->ys.length<=N->Own bs.dT 9 H.size H' a n c ys->Fr [] H H'->K a n c H'):
  aY atf 404 ⟨[.map (some r)]⟩ H λv H'=>∃jG,v=jG/\aY atf 403 ⟨[jG]⟩ H' λv H'=>∃a n c,v=.slice a n c/\K a n c H':=by
 obtain⟨ck,L,hm,aH,aZ⟩:=h
 refine ZB hm (by omega) λys a n c H' av an af=>hk ys a n c H' ⟨av.1,λy=> ?_⟩ ?_ an af
 ·rw [av.2]
  constructor
  ·rintro⟨x,aa,rfl⟩
   have:=Fx hm.wf (k:=x.1) (v:=x.2.1) (b:=x.2.2) aa
   rw [aZ]at this
   cases ay:now x.1 with
   |none=>rw [ay]at this;cases this
   |some v=>rfl
  ·intro h
   cases ay:now y with
   |none=>rw [ay]at h;cases h
   |some v=>
    have:=aZ y
    rw [ay]at this
    obtain⟨b,ah⟩:=zI this
    exact⟨_,ah,rfl⟩
 ·have iF:ys.Nodup:=by
   rw [atL]
   have:=av.1
   rw [auT]at this
   exact this.imp λh e=>by rw [e]at h;exact(List.lt_irrefl _) h
  have:=I9 (L:=L) ⟨iF,λy h=>(av.2 y).1 h⟩
  omega
def FO:dd (Int×ByteArray):=⟨λx=>[.int .i64 x.1,.string x.2],2,λ_=>rfl,by decide,λ_ v h=>by simp at h;rcases h with rfl|rfl<;>rfl⟩
theorem aan:jC atf 509 2 24=true:=by kernel_rfl
theorem aao:sliceB atf 469 509=true:=by kernel_rfl
structure gJ where
 free:List Int
 mg:List (Int×ByteArray)
 hY:Nat
 fits:Bool
def jH(t:gJ)(c:ByteArray):gJ×Int:=match t.free with
 |[]=>({t with hY:=t.hY+1,fits:=false},500)
 |x::r=>({t with free:=r,mg:=t.mg++[(x,c)],hY:=t.hY+1},x)
def tA(a:Option Addr)(n c:Nat)(vs:List Value)(t:gJ):List Value:=.slice a n c::(vs++[.int .i64 t.hY,.bool t.fits])
structure kk(H:J)(dw df base:Nat)(vs:List Value)(ie S:List Nat)(t:gJ):Prop where
 vl:vs.length=4
 it:∃a n c hj fn jc,aU H ⟨dw,0,none⟩ (tA a n c vs t)/\Own FO 509 base H a n c t.mg/\aU H ⟨df,0,none⟩ [.slice hj fn jc]/\bk b' H hj fn jc t.free/\(∀k∈ax hj,k∈ie)/\S=dw::df::ax a/\dw∉ax a/\df∉ax a
 ne:dw≠df
 iI:e2 ie S
 inF:In H ie
 oW:In H S
theorem kk.ag{H':J}{base:Nat}{S T:List Nat}{t:gJ}(h:kk H dw df base vs ie S t)(af:Fr T H H')(h1:e2 ie T)(ae:e2 S T):kk H' dw df base vs ie S t:=by
 obtain⟨aI,⟨a,n,c,hj,fn,jc,ah,an,b8,hs,a1,bI,cW,cr⟩,ne,iI,tB,rj⟩:=h
 exact⟨aI,⟨a,n,c,hj,fn,jc,ah.ag af (ae _ (by simp [bI])),an.ag af (λal e=>ae _ (by simp [bI,e,ax])),b8.ag af (ae _ (by simp [bI])),hs.ag af (λal e=>h1 _ (a1 _ (by simp [e,ax]))),a1,bI,cW,cr⟩,ne,iI,tB.le af.size,rj.le af.size⟩
theorem aap{l sz:Nat}{a:Option Addr}:∀k∈ax (dh c l sz a),k∈ax a:=by
 intro k hk
 rw [v7]at hk
 split at hk
 ·exact hk
 ·cases a with
  |none=>simp [ax]at hk
  |some al=>
   have e:(al.add (l*sz)).block=al.block:=by
    cases al
    unfold Addr.add
    split<;>rfl
   simp only [Option.map_some,ax,ar7]at hk⊢
   rw [hk,e]
theorem Po{base:Nat}{S:List Nat}{t:gJ}{c:ByteArray}{K:Int->J->Prop}(h:kk H dw df base vs ie S t)(ah:base<=H.size)(ay:t.hY<=1000000000)(bh:t.mg.length<=1000000000)
  (hk:∀H' iJ,kk H' dw df base vs ie iJ (jH t c).1->Fr S H H'->Grow H S iJ->K (jH t c).2 H'):
  dO atf (.func (.func 402) ⟨[]⟩ ⟨[.pointer (some ⟨dw,0,none⟩),.pointer (some ⟨df,0,none⟩)]⟩) [.string c] H λv H'=>∃n,v=.int .i64 n/\K n H':=by
 refine⟨402,⟨[]⟩,_,rfl,by kernel_rfl,?_⟩
 apply aaq
 obtain⟨aI,⟨a,n,aT,hj,fn,jc,fR,an,b8,hs,a1,bI,cW,cr⟩,ne,iI,tB,rj⟩:=h
 subst bI
 obtain⟨v1,v2,v3,v4,rfl⟩:∃v1 v2 v3 v4,vs=[v1,v2,v3,v4]:=by
  match vs,aI with
  |[v1,v2,v3,v4],_=>exact⟨v1,v2,v3,v4,rfl⟩
 have iK:=hs.len
 refine⟨t.hY,fR.ld (j:=5) (by kernel_rfl) rfl,Go.Proofs.bg.aU.set fR (j:=5) (v:=.int .i64 (IntKind.i64.wrap ((t.hY:Int)+1))) (by kernel_rfl) (by kernel_rfl) rfl rfl (by simp [tA]) λH1 cI b9=> ?_⟩
 rw [b6 (by omega)]at cI
 have sl:aU H1 ⟨dw,0,none⟩ (tA a n aT [v1,v2,v3,v4] {t with hY:=t.hY+1}):=cI
 have zX:∀{x:Nat},x≠dw->x∉[dw]:=λh=>by simpa using h
 have Cc:=b8.ag b9 (zX (Ne.symm ne))
 have fw:=an.ag b9 (λal e aq=>cW (by simp only [ar7]at aq;simp [e,ax,aq]))
 have zY:∀k∈ie,k≠dw/\k≠df/\k∉ax a:=λk hk=>by
  have:=iI k hk
  simp only [o3,not_or]at this
  exact this
 have e6:=hs.ag b9 (λal e=>zX (zY _ (a1 _ (by simp [e,ax]))).1)
 refine⟨hj,fn,jc,Cc.b5 (by kernel_rfl) rfl,?_⟩
 unfold jH at hk
 cases lJ:t.free with
 |nil=>
  rw [lJ]at hk iK e6
  refine ai (λ_=> ?_) (λh=>by simp at iK;subst iK;simp at h)
  refine Go.Proofs.bg.aU.set sl (j:=6) (v:=.bool false) (by kernel_rfl) (by kernel_rfl) rfl rfl (by simp [tA]) λao od bt=>⟨_,rfl,?_⟩
  have af:Fr (dw::df::ax a) H ao:=b9.trans' bt (λk hk _=>by simp at hk;simp [hk]) (λk hk _=>by simp at hk;simp [hk])
  refine hk ao (dw::df::ax a) ⟨rfl,⟨a,n,aT,hj,fn,jc,od,fw.ag bt (λal e aq=>cW (by simp only [ar7]at aq;simp [e,ax,aq])),Cc.ag bt (zX (Ne.symm ne)),?_,a1,rfl,cW,cr⟩,ne,iI,tB.le af.size,rj.le af.size⟩ af (Grow.refl _ _)
  have:=e6.ag bt (λal e=>zX (zY _ (a1 _ (by simp [e,ax]))).1)
  exact this
 |cons x r=>
  rw [lJ]at hk iK e6
  refine ai (λh=>by simp at iK;subst iK;simp at h;omega) λ_=> ?_
  refine⟨hj,fn,jc,Cc.b5 (by kernel_rfl) rfl,e6.get (i:=0) (k:=0) rfl rfl (by simp at iK⊢;omega) λal e ak=>⟨x,?_,hj,fn,jc,Cc.b5 (by kernel_rfl) rfl,cb (decide_eq_true (by have:=hs.cap;simp at iK;omega)) ?_⟩⟩
  ·have:=iq (P:=atf) (t:=3) (by kernel_rfl) ak
   simpa [zZ]using this
  have gZ:=e6.drop (k:=1) (by simp at iK;omega)
  refine Cc.jq (v:=.slice (dh jc 1 1 hj) ((fn:Int).toNat-1) (jc-1)) (by kernel_rfl) (by kernel_rfl) (λx aa=>by simp [atq]at aa;subst aa;rfl) (by simp [atq]) λao hb22 bt=> ?_
  have aar:aU ao ⟨df,0,none⟩ [.slice (dh jc 1 1 hj) ((fn:Int).toNat-1) (jc-1)]:=by simpa [atq]using hb22
  have Cd:∀{x:Nat},x≠df->x∉[df]:=λh=>by simpa using h
  have uY:=sl.ag bt (Cd ne)
  have de:=fw.ag bt (λal e aq=>cr (by simp only [ar7]at aq;simp [e,ax,aq]))
  have FP:∀k∈ax (dh jc 1 1 hj),k∈ie:=λk hk=>a1 k (aap k hk)
  have rh:=gZ.ag bt (λal e=>Cd (zY _ (FP _ (by rw [show dh jc 1 1 hj=some al from e];simp [ax]))).2.1)
  have ap':base<=ao.size:=by have:=b9.size;have:=bt.size;omega
  refine⟨a,n,aT,uY.b5 (by kernel_rfl) rfl,λcX aF bF=> ?_⟩
  have aqa:=bF.size
  have sn:=b9.size
  have aqb:=bt.size
  refine iD (E:=FO) (bytes:=24) aao aan (de.ab bF.ag) (gd FO (x,c) bF rfl) (by omega) (by rw [an.1];omega) λa4 k5 c4 aN eV bU lD=> ?_
  have aas:=(uY.ab bF.ag).ag bU cW
  have aat:=(aar.ab bF.ag).ag bU cr
  have l5:∀k∈ax a4,k∈ax a\/H.size<=k:=λk hk=>(lD k hk).imp id λh=>by omega
  have Ce:dw∉ax a4:=λhk=>(l5 dw hk).elim cW λh=>by have:=rj dw (by simp);omega
  have aau:df∉ax a4:=λhk=>(l5 df hk).elim cr λh=>by have:=rj df (by simp);omega
  refine aas.jq (v:=.slice a4 k5 c4) (by kernel_rfl) (by kernel_rfl) (λx aa=>by simp [atq]at aa;subst aa;rfl) (by simp [atq,tA]) λbw hb15 bW=>⟨_,rfl,?_⟩
  have f12:Fr (dw::df::ax a) H ao:=b9.trans' bt (λk hk _=>by simp at hk;simp [hk]) (λk hk _=>by simp at hk;simp [hk])
  have f13:Fr (dw::df::ax a) H aF:=f12.trans' bF.ag (λk hk _=>hk) (by simp)
  have f14:Fr (dw::df::ax a) H aN:=f13.trans' bU (λk hk _=>hk) (λk hk _=>by simp [hk])
  have f15:Fr (dw::df::ax a) H bw:=f14.trans' bW (λk hk _=>hk) (λk hk _=>by simp at hk;simp [hk])
  refine hk bw (dw::df::ax a4) ⟨rfl,⟨a4,k5,c4,_,_,_,?_,eV.ag bW (λal e aq=>Ce (by simp only [ar7]at aq;simp [e,ax,aq])),aat.ag bW (zX (Ne.symm ne)),?_,?_,rfl,Ce,aau⟩,ne,?_,tB.le f15.size,?_⟩ f15 ?_
  ·simpa [atq,tA]using hb15
  ·have a6:=(((rh.ab bF.ag).ag bU ?_).ag bW ?_)
   ·exact a6
   ·intro al e aq
    exact(zY _ (FP _ (by rw [show dh jc 1 1 hj=some al from e];simp [ax]))).2.2 aq
   ·intro al e aq
    simp only [ar7]at aq
    exact(zY _ (FP _ (by rw [show dh jc 1 1 hj=some al from e];simp [ax]))).1 aq
  ·exact FP
  ·intro k hk
   have:=zY k hk
   simp only [o3,not_or]
   refine⟨this.1,this.2.1,λh=>(l5 k h).elim this.2.2 λh=>by have:=tB k hk;omega⟩
  ·intro k hk
   simp only [o3]at hk
   have:=f15.size
   rcases hk with hk|hk|hk
   ·have:=rj dw (by simp);omega
   ·have:=rj df (by simp);omega
   ·have:=(eV.ge k hk).2;have:=bW.size;omega
  ·intro k hk
   simp only [o3]at hk
   rcases hk with hk|hk|hk
   ·exact .inl (by simp [hk])
   ·exact .inl (by simp [hk])
   ·exact(l5 k hk).imp (λh=>by simp [h]) id
theorem Pp{x:Addr}{v0 v4:Value}{aav:Bool}{K:Int->J->Prop}(h:aU H x [v0,.string ⟨#[]⟩,.int .i64 0,.bool aav,v4])
  (hk:∀H',aU H' x [v0,.string ⟨#[]⟩,.int .i64 0,.bool false,v4]->Fr [x.block] H H'->K 0 H'):
  aY atf aaw ⟨[.pointer (some x)]⟩ H λv H'=>∃n,v=.int .i64 n/\K n H':=by
 apply aax
 refine⟨_,h.ld (by kernel_rfl) rfl,_,h.ld (by kernel_rfl) rfl,Jn (by simp [ath]) (λah=>absurd ⟨by omega,by simp [ath]⟩ ah) λa bS bQ v n e aZ=> ?_⟩
 have he:e≠0:=by
  have qm:(bj ⟨#[]⟩).drop a=[]:=by simp [bj]
  rw [qm]at aZ
  rcases aZ with⟨n,rfl,h1,ae,au,a6,bu⟩|⟨_,_,h,_⟩|⟨_,_,h,_⟩
  ·exfalso
   have:cD n=[]:=asF (by simpa using au)
   unfold cD at this
   split at this<;>cases this
  ·omega
  ·omega
 refine⟨λ_ _=>False,⟨λvs H'=>vs=[.bool true]/\H'=H,ai (λ_=>⟨rfl,rfl⟩) (λh=>by simp at h;exact absurd h he),?_⟩,λbm H' h=>h.elim⟩
 rintro bm b H' ⟨ah,rfl⟩
 cases ah
 refine ai (λ_=> ?_) (λh=>by simp at h)
 exact Go.Proofs.bg.aU.set h (j:=3) (by kernel_rfl) (by kernel_rfl) rfl rfl (by simp) λH' e3 af=>⟨_,rfl,hk H' e3 af⟩
theorem aay{m:ei}{slot:Int}{K:J->Prop}(h:ob H d Sd m N)(e1:N<=1000000)(he:(ye m slot).1=⟨#[]⟩)(hk:∀H',Fr [] H H'->K H'):
  aY atf aaz ⟨[.pointer (some d),.int .i64 slot]⟩ H λv H'=>∃g r a n c,v=.tuple ⟨[.int .i64 g,.map r,.slice a n c]⟩/\g=0/\K H':=by
 apply aaA
 refine Zj h e1 λb H1 aB b1 ao bH=> ?_
 rw [he]at bH
 have f2:=aB.ag.aw bH.ag
 have bc:=aB.eq
 have bN:=bH.eq
 have s1:=aB.size
 refine Pp bH.bo λaF dQ f3=>Pp dQ λaN dY f4=> ?_
 have f24:Fr [] H aN:=(f2.ab f3 (by simp;omega)).ab f4 (by simp;omega)
 refine⟨λvs H'=>vs=[.bool true]/\H'=aN,⟨false,dY.ld (j:=3) (by kernel_rfl) rfl,ai (λ_=>⟨rfl,rfl⟩) (λh=>by simp at h)⟩,?_⟩
 rintro bm fj H' ⟨ah,rfl⟩
 cases ah
 exact ai (λ_=>⟨_,_,_,_,_,rfl,rfl,hk _ f24⟩) (λh=>by simp at h)
def nC:f':={now:=λ_=>none,last:=λ_=>none,dir:=[],gen:=0,bad:=false}
theorem aaB{m:ei}{K:Option Addr->Int->J->Prop}(h:ob H d Sd m N)(e1:N<=1000000)(Bw:m.off=false)(he:∀i:Int,0<=i->i<2->(ye m i).1=⟨#[]⟩)
  (hk:∀s cK cy H',(∀k∈[s.block,cK,cy],H.size<=k/\k<H'.size)->hN H' s d cK cy none 0 0 [] Sd nC m N 0->Fr [] H H'->K (some s) 0 H'):
  aY atf aaC ⟨[.pointer (some d)]⟩ H λv H'=>∃a e,v=.tuple ⟨[.pointer a,.int .i64 e]⟩/\K a e H':=by
 apply aaD
 refine Ze h ?_
 show aJ m.off _ _
 refine ai (λh=>by rw [Bw]at h;cases h) λ_=>λb H1 aB b1 ao bH b2 aF bF=> ?_
 have bc:=aB.eq
 have bN:=bH.eq
 have dP:=bF.eq
 have s1:=aB.size
 have s2:=bH.size
 have f3:=(aB.ag.aw bH.ag).aw bF.ag
 refine⟨λvs H'=>match vs with|[.int _ i]=>∃j:Nat,i=j/\j<=2/\Fr [] aF H'|_=>False,λvs _=>match vs with|[.int _ i]=>2-i.toNat|_=>0,⟨0,rfl,by omega,Fr.refl _ _⟩,?_⟩
 rintro bm i aN ⟨j,rfl,a',af⟩
 have f4:=f3.aw af
 refine ai (λaD=> ?_) (λaD=> ?_)
 ·have bT:j<2:=by simp at aD;omega
  refine aY.mono (aay (K:=λH'=>Fr [] aN H') (h.ab f4) e1 (he j (by omega) (by omega)) (λH' dZ=>dZ)) λv bw=> ?_
  rintro⟨g,r,a,n,c,rfl,rfl,bW⟩
  refine⟨_,_,_,_,_,rfl,0,((bF.bo.ab af).ab bW).bV (j:=4) (by kernel_rfl) rfl,ai (λh=>by simp at h) λ_=>⟨⟨j+1,b6 (by omega),by omega,af.aw bW⟩,?_⟩⟩
  show 2-(IntKind.i64.wrap ((j:Int)+1)).toNat<2-((j:Nat):Int).toNat
  rw [b6 (by omega)]
  exact cJ bT
 ·have ah:=bF.bo.ab af
  have iE:dM ea aN b1 0 []:=((dM.new ea bH).ab ea bF.ag).ab ea af
  have jl:dM ea aN b 0 []:=(((dM.new ea aB).ab ea bH.ag).ab ea bF.ag).ab ea af
  refine⟨some b1,ah.bV (j:=2) (by kernel_rfl) rfl,x6 ea (mt:=142) (e:=148) auH iE λit bw e7=>⟨λ_ H'=>Fr [] aN H'/\H'[it]?=some (.mapIter (some b1) 0 #[] 0),λ_ _=>0,⟨e7.ag,e7.get⟩,?_⟩⟩
  rintro dF bY ⟨cB,tl⟩
  refine wE ea (iE.ab ea cB) tl (λ_=>⟨_,_,rfl,?_⟩) λx aa=>by simp at aa
  have Jo:=af.aw cB
  refine hk ⟨b2,0,none⟩ b b1 bY (λk hk=>by have:=Jo.size;have:=bF.size;simp at hk;rcases hk with rfl|rfl|rfl<;>omega) ⟨ah.ab cB,⟨0,[],jl.ab ea cB,by simp,λ_=>rfl⟩,⟨0,[],iE.ab ea cB,by simp,λ_ _=>rfl⟩,bk.zero,by simp [ax],h.ab (f3.aw Jo),by simp;omega,λk hk cA=> ?_,by intro k hk;simp at hk⟩ (f3.aw Jo)
  have:=h.oW k cA
  simp only [o3,aty,or_false]at hk
  omega
def Jp(FQ:Value)(G:J->Prop)(ch:(ByteArray->Option ByteArray)->ByteArray->Option ByteArray):Prop:=
 ∀(r N:Nat) (now:ByteArray->Option ByteArray) (H:J) (K:J->Prop),G H->ic H r now N->(∀H',ic H' r (ch now) (N+1)->Fr [r] H H'->K H')->dO atf FQ [.map (some r)] H λv H'=>v=.tuple ⟨[]⟩/\K H'
theorem ic.mono{Cf:Nat}{now:ByteArray->Option ByteArray}(h:ic H r now N)(e1:N<=Cf):ic H r now Cf:=by
 obtain⟨ck,L,hm,aH,aZ⟩:=h
 exact⟨ck,L,hm,by omega,aZ⟩
theorem aaE{b1:Nat}{name data:ByteArray}:Jp (.func (.func 296) ⟨[]⟩ ⟨[.pointer (some ⟨b1,0,none⟩),.pointer (some ⟨b,0,none⟩)]⟩) (λH=>aU H ⟨b1,0,none⟩ [.string data]/\aU H ⟨b,0,none⟩ [.string name]) λnow=>oY now name data:=by
 intro r N now H K b4 h hk
 obtain⟨h1,ae⟩:=b4
 refine⟨296,⟨[]⟩,_,rfl,by kernel_rfl,?_⟩
 apply aaF
 exact⟨_,ae.b5 (by kernel_rfl) rfl,_,h1.b5 (by kernel_rfl) rfl,h.put name data λH' h' af=>⟨rfl,hk H' h' af⟩⟩
theorem aaG{name:ByteArray}:Jp (.func (.func 297) ⟨[]⟩ ⟨[.pointer (some ⟨b,0,none⟩)]⟩) (λH=>aU H ⟨b,0,none⟩ [.string name]) λnow=>tz now name:=by
 intro r N now H K b4 h hk
 refine⟨297,⟨[]⟩,_,rfl,by kernel_rfl,?_⟩
 apply aaH
 exact⟨_,b4.b5 (by kernel_rfl) rfl,h.del name λH' h' af=>⟨rfl,hk H' (h'.mono (by omega)) af⟩⟩
theorem Pq:zeroOf atf 148=some (.agg ⟨[.string ⟨#[]⟩,.slice none 0 0]⟩):=by kernel_rfl
theorem mQ.FM{Q:List Nat}{last:ByteArray->Option (ByteArray×List Int)}(h:mQ H r Q last)(k:ByteArray):
  ∃d a n c xs,Rd atf (Instr.lookup 142 (.map (some r)) (.string k) true) H (.tuple ⟨[.agg ⟨[.string d,.slice a n c]⟩,.bool (last k).isSome]⟩)/\Rd atf (Instr.lookup 142 (.map (some r)) (.string k) false) H (.agg ⟨[.string d,.slice a n c]⟩)∧
   (last k).getD (⟨#[]⟩,[])=(d,xs)/\bk b' H a n c xs/\(∀k∈ax a,k∈Q):=by
 obtain⟨ck,L,hm,he,ay⟩:=h
 have fy:=E9 ea (mt:=142) (e:=148) auH Pq hm k
 have hv:=r6 ea (mt:=142) (e:=148) auH Pq hm k
 cases aZ:dA k L with
 |none=>
  rw [aZ]at fy hv
  rw [ay k aZ]
  exact⟨_,none,0,0,[],fy,hv,rfl,bk.zero,by simp [ax]⟩
 |some v=>
  obtain⟨b,ah⟩:=zI aZ
  obtain⟨d,a,n,c,xs,e,hs,a1,aH⟩:=he _ ah
  rw [aZ]at fy hv
  simp only at e
  subst e
  rw [aH]
  exact⟨d,a,n,c,xs,fy,hv,rfl,hs,a1⟩
def kn(gu:List ByteArray)(ws:List Int):List ByteArray->Nat->gJ->gJ×List Int
 |[],_,t=>(t,[])
 |c::l,j,t=>
  let x:=if gu[j]?=some c then(t,ws.getD j 0)else jH t c
  let y:=kn gu ws l (j+1) x.1
  (y.1,x.2::y.2)
def lf(last:ByteArray->Option (ByteArray×List Int))(now:ByteArray->Option ByteArray):List ByteArray->gJ->gJ×List (ByteArray×ByteArray×List Int)
 |[],t=>(t,[])
 |y::l,t=>
  let w:=(last y).getD (⟨#[]⟩,[])
  let dat:=(now y).getD ⟨#[]⟩
  let x:=kn (eS w.1) w.2 (eS dat) 0 t
  let z:=lf last now l x.1
  (z.1,(y,dat,x.2)::z.2)
def oe:List ByteArray->gJ->gJ×List Int
 |[],t=>(t,[])
 |c::l,t=>
  let x:=jH t c
  let y:=oe l x.1
  (y.1,x.2::y.2)
def rl(eT:List (ByteArray×ByteArray×List Int)):List UInt8:=
 cD eT.length++eT.flatMap λf=>cx f.1++cD f.2.1.size++f.2.2.flatMap λn=>cD (IntKind.u64.wrap n).toNat
structure PR where
 tH:gJ
 files:List (ByteArray×ByteArray×List Int)
 Ju:List UInt8
 dirS:List Int
 all:Nat
 fits:Bool
noncomputable def og(size:Int)(last:ByteArray->Option (ByteArray×List Int))(dir:List Int)(now:ByteArray->Option ByteArray)(ys:List ByteArray):PR:=
 let t0:gJ:={free:=jo (pL last dir) size.toNat,mg:=[],hY:=0,fits:=true}
 let x:=lf last now ys t0
 let dy:=rl x.2
 let y:=oe (eS ⟨dy.toArray⟩) x.1
 let all:=(x.2.map λf=>f.2.2.length).sum
 {tH:=y.1,files:=x.2,Ju:=dy,dirS:=y.2,all:=all,fits:=y.1.fits&&decide (y.2.length<=20)&&decide ((all:Int)+2*y.2.length<=size-2)}
theorem Ro(gu:List ByteArray)(ws:List Int):∀(l:List ByteArray) (j:Nat) (t:gJ),(kn gu ws l j t).2.length=l.length
 |[],_,_=>rfl
 |c::l,j,t=>by simp only [kn,asE];rw [Ro gu ws l]
theorem Rp:∀(l:List ByteArray) (t:gJ),(oe l t).2.length=l.length
 |[],_=>rfl
 |c::l,t=>by simp only [oe,asE];rw [Rp l]
theorem aU.Jq{P:Program}{t:TypeId}{j:Nat}{v:Value}{X:J->Prop}(h:aU H ⟨b,0,none⟩ vs)(hs:hV P t=1)(az:(P.info? t).isSome=true)(aI:v.cells= #[v])(h1:v.oneCell'=true)(a':j<vs.length)
  (k:∀H',aU H' ⟨b,0,none⟩ (vs.set j v)->Fr [b] H H'->X H'):∃H',fb P t H ⟨b,j,none⟩ v H'/\X H':=by
 have:=Go.Proofs.bg.aU.set h hs az aI h1 a' k
 rwa [l',zd]at this
theorem aaI{k:ByteArray}{v:Value}{ck:Nat}{L:List (cS ByteArray)}(hw:so ck L){y:cS ByteArray}(h:y∈oZ k v ck L):(y.1=k/\y.2.1=v)\/(y.1≠k/\y∈L):=by
 have bh:=hw.put k v
 have aZ:=Fx bh (k:=y.1) (v:=y.2.1) (b:=y.2.2) h
 rw [uO]at aZ
 by_cases e:y.1=k
 ·rw [if_pos e]at aZ
  injection aZ with aZ
  exact .inl ⟨e,aZ.symm⟩
 ·refine .inr ⟨e,?_⟩
  unfold oZ at h
  split at h
  ·have:∀M:List (cS ByteArray),y∈bs.mR k v M->y∈M:=by
    intro M
    induction M with
    |nil=>exact id
    |cons x l ih=>
     unfold bs.mR
     split
     ·intro h
      rcases o3.1 h with h|h
      ·exact absurd (by rw [h]) e
      ·exact MY _ h
     ·intro h
      rcases o3.1 h with h|h
      ·rw [h];exact List.mem_cons_self
      ·exact MY _ (ih h)
   exact this L h
  ·rcases asU.1 h with h|h
   ·exact h
   ·exact absurd (by rw [ar7.1 h]) e
def Cg(last:ByteArray->Option (ByteArray×List Int))(k:ByteArray)(v:ByteArray×List Int):ByteArray->Option (ByteArray×List Int):=λx=>if x=k then some v else last x
theorem mQ.put{Q:List Nat}{last:ByteArray->Option (ByteArray×List Int)}{K:J->Prop}(h:mQ H r Q last){d:ByteArray}{a:Option Addr}{xs:List Int}(k:ByteArray)(hs:bk b' H a n c xs)(aA:r∉Q++ax a)
  (hk:∀H',mQ H' r (Q++ax a) (Cg last k (d,xs))->Fr [r] H H'->K H'):
  iQ atf (Instr.mapUpdate 142 (.map (some r)) (.string k) (.agg ⟨[.string d,.slice a n c]⟩)) H K:=by
 obtain⟨ck,L,hm,he,ay⟩:=h
 refine uN ea (mt:=142) (e:=148) auH hm k λH' ev af=>hk H' ⟨_,_,ev,λx aa=> ?_,λy av=> ?_⟩ af
 ·have a1:∀k∈Q++ax a,k∉[r]:=λk hk e=>by simp only [ar7]at e;exact aA (e▸hk)
  unfold Cg
  rcases aaI hm.wf aa with⟨bc,bN⟩|⟨bc,bN⟩
  ·exact⟨d,a,n,c,xs,bN,hs.ag af (λal e=>a1 _ (by simp [e,ax])),λk hk=>by simp [hk],by rw [if_pos bc]⟩
  ·obtain⟨d',aK,aQ,aT,n2,e,hs',kl,iS⟩:=he x bN
   exact⟨d',aK,aQ,aT,n2,e,hs'.ag af (λal e=>a1 _ (by simp [kl al.block (by simp [e,ax])])),λk hk=>by simp [kl k hk],by rw [if_neg bc];exact iS⟩
 ·rw [uO]at av
  unfold Cg
  split at av
  ·cases av
  ·rename_i h;rw [if_neg h];exact ay y av
def yg(eT:List (ByteArray×ByteArray×List Int)):ByteArray->Option (ByteArray×List Int):=eT.foldl (λf x=>Cg f x.1 x.2) λ_=>none
theorem aaJ(eT:List (ByteArray×ByteArray×List Int))(x:ByteArray×ByteArray×List Int):yg (eT++[x])=Cg (yg eT) x.1 x.2:=by
 unfold yg;rw [List.foldl_append];rfl
theorem kk.aaK{base:Nat}{S:List Nat}{t:gJ}(h:kk H dw df base vs ie S t):dw∈S/\df∈S:=by
 obtain⟨_,⟨a,n,c,hj,fn,jc,_,_,_,_,_,bI,_⟩,_⟩:=h
 subst bI;simp
theorem kk.Jr{base:Nat}{S:List Nat}{t:gJ}(h:kk H dw df base vs ie S t){ty:TypeId}{j:Nat}{v:Value}{X:J->Prop}(hs:hV atf ty=1)(az:(Tryz.prog.info? ty).isSome=true)(aI:v.cells= #[v])(h1:v.oneCell'=true)(a':j<4)
  (k:∀H',kk H' dw df base (vs.set j v) ie S t->Fr [dw] H H'->X H'):∃H',fb atf ty H ⟨dw,j+1,none⟩ v H'/\X H':=by
 obtain⟨qz,⟨a,n,c,hj,fn,jc,fR,an,b8,eo,a1,bI,cW,cr⟩,ne,iI,tB,rj⟩:=h
 refine aU.Jq fR hs az aI h1 (by simp [tA,qz];omega) λH' ah af=>k H' ⟨by simpa using qz,⟨a,n,c,hj,fn,jc,?_,an.ag af ?_,b8.ag af ?_,eo.ag af ?_,a1,bI,cW,cr⟩,ne,iI,tB.le af.size,rj.le af.size⟩ af
 ·refine Go.Proofs.bg.aU.cast ah ?_
  unfold tA
  rw [List.set_cons_succ,List.set_append_left _ _ (by omega)]
 ·intro al e aq;exact cW (by simp only [ar7]at aq;simp [e,ax,aq])
 ·simpa using Ne.symm ne
 ·intro al e aq
  have:=iI _ (a1 al.block (by simp [e,ax]))
  rw [bI]at this
  simp only [ar7]at aq
  rw [aq]at this
  simp at this
theorem kk.aaL{base:Nat}{S:List Nat}{t:gJ}(h:kk H dw df base vs ie S t){b:Bool}{X:J->Prop}
  (k:∀H',kk H' dw df base vs ie S {t with fits:=b}->Fr [dw] H H'->X H'):∃H',fb atf 4 H ⟨dw,6,none⟩ (.bool b) H'/\X H':=by
 obtain⟨qz,⟨a,n,c,hj,fn,jc,fR,an,b8,eo,a1,bI,cW,cr⟩,ne,iI,tB,rj⟩:=h
 refine aU.Jq fR (by kernel_rfl) (by kernel_rfl) rfl rfl (by simp [tA,qz]) λH' ah af=>k H' ⟨qz,⟨a,n,c,hj,fn,jc,?_,an.ag af ?_,b8.ag af ?_,eo.ag af ?_,a1,bI,cW,cr⟩,ne,iI,tB.le af.size,rj.le af.size⟩ af
 ·refine Go.Proofs.bg.aU.cast ah ?_
  obtain⟨v1,v2,v3,v4,rfl⟩:∃v1 v2 v3 v4,vs=[v1,v2,v3,v4]:=by
   match vs,qz with
   |[v1,v2,v3,v4],_=>exact⟨v1,v2,v3,v4,rfl⟩
  rfl
 ·intro al e aq;exact cW (by simp only [ar7]at aq;simp [e,ax,aq])
 ·simpa using Ne.symm ne
 ·intro al e aq
  have:=iI _ (a1 al.block (by simp [e,ax]))
  rw [bI]at this
  simp only [ar7]at aq
  rw [aq]at this
  simp at this
theorem kk.wR{base:Nat}{S:List Nat}{t:gJ}(h:kk H dw df base vs ie S t){ty:TypeId}{j:Nat}{v:Value}(bf:pN atf ty=false)(aI:vs[j]?=some v):cR atf ty H ⟨dw,j+1,none⟩ v:=by
 obtain⟨qz,⟨a,n,c,hj,fn,jc,fR,_⟩,_⟩:=h
 refine fR.bV bf ?_
 unfold tA
 have:j<vs.length:=(qb.1 aI).1
 rw [arF,asW this];exact aI
theorem kk.aaM{base:Nat}{S:List Nat}{t:gJ}(h:kk H dw df base vs ie S t):cR atf 4 H ⟨dw,6,none⟩ (.bool t.fits):=by
 obtain⟨qz,⟨a,n,c,hj,fn,jc,fR,_⟩,_⟩:=h
 obtain⟨v1,v2,v3,v4,rfl⟩:∃v1 v2 v3 v4,vs=[v1,v2,v3,v4]:=by
  match vs,qz with
  |[v1,v2,v3,v4],_=>exact⟨v1,v2,v3,v4,rfl⟩
 exact fR.bV (by kernel_rfl) rfl
structure tC(t:gJ)(B:Nat):Prop where
 hY:t.hY<=B
 mg:t.mg.length<=B
theorem tC.take{t:gJ}{B:Nat}(h:tC t B)(c:ByteArray):tC (jH t c).1 (B+1):=by
 obtain⟨h1,ae⟩:=h
 unfold jH
 split
 ·exact⟨by simp;omega,by simp;omega⟩
 ·exact⟨by simp;omega,by simp;omega⟩
theorem tC.mono{t:gJ}{B Js:Nat}(h:tC t B)(ah:B<=Js):tC t Js:=⟨by have:=h.hY;omega,by have:=h.mg;omega⟩
theorem Jt(n:Int):0<=IntKind.u64.wrap n/\IntKind.u64.wrap n<18446744073709551616:=by
 have:IntKind.u64.wrap n=n % 18446744073709551616:=by
  simp [atj,ato,atx]
 rw [this];omega
theorem sd(x y:List UInt8):((⟨x.toArray⟩:ByteArray)++⟨y.toArray⟩)=⟨(x++y).toArray⟩:=by
 apply ja
 simp [bj]
def tD(l:List Int):List UInt8:=l.flatMap λn=>cD (IntKind.u64.wrap n).toNat
def rk(f:ByteArray×ByteArray×List Int):List UInt8:=cx f.1++cD f.2.1.size++tD f.2.2
theorem Pr(eT:List (ByteArray×ByteArray×List Int)):rl eT=cD eT.length++eT.flatMap rk:=rfl
theorem Ps(l:List Int):(tD l).length<=10*l.length:=by
 induction l with
 |nil=>simp [tD]
 |cons x l ih=>
  have:=Jt x
  have:=hi (n:=(IntKind.u64.wrap x).toNat) (by omega)
  unfold tD at ih⊢
  simp only [Er,VH,asE];omega
theorem aaN(l:List Int)(x:Int):tD (l++[x])=tD l++cD (IntKind.u64.wrap x).toNat:=by simp [tD]
end Go.Proofs.bg
