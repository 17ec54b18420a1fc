/- Part of a proof. -/
import Derived.Test.YtilgmbcmbapbkaaGreatDoorP3
import Derived.Sort.OwnSorted
import Derived.Shelf.SortM.Plain
import Derived.Shelf.SortM.SortNone
import Derived.Shelf.SlGeneric
import Derived.Ground.SlgmProg
import Derived.Test.YtilgmbcmbapbkaaGreatDoorProg
import Derived.Sort.OwnSortedInts
import Derived.Lib.Bytealg
import Derived.Shelf.Strconv.AtoiInnerAll
import Derived.Below
import Derived.Lib.AtoiErrMem
import Derived.Shelf.Strconv.Itoa3
import Derived.Shelf.Strings.LastIndex
import Derived.Shelf.Strings.Prefix
import Derived.Shelf.Strings.Cut
import Derived.Shelf.Small.Wraps
import Derived.Ground.NamesProg
open _root_.Go.Proofs.Tryz renaming prog→azB,underlying125→azW,underlying126→az0,underlying9→aAi,underlying209→aAl
open _root_.List renaming length_append→ax6,mem_cons→axA,mem_singleton→ayw,length_cons→ayi,map_cons→axE,take_add_one→azP,take_of_length_le→ayB,mem_of_getElem?→azR,mem_append→azb,flatMap_cons→axO,mem_nil_iff→azS,sum_cons→azT,length_take→ayj,getElem?_eq_some_iff→axC,length_map→azU,range→ayD,mem_map→ayf,eq_nil_of_length_eq_zero→ayT,length_nil→azs,nodup_iff_pairwise_ne→azX,mem_cons_of_mem→axU,map_append→azj,flatMap_append→azf,append_nil→azh,mem_of_mem_take→azY,lt_irrefl→az1,drop_of_length_le→az2,findIdx?_cons→az3,getElem?_append_left→azd,pairwise_map→az5,drop_eq_getElem_cons→az6,nodup_append→azk,map_map→az7,mergeSort_perm→az8,getElem?_cons_succ→ayu,getElem?_append_right→aze,nodup_cons→ayk,getElem?_eq_none→ayL,sum_append→aAc,take_append_drop→aAd,filter_append→aAf,getElem?_eq_getElem→ayA,findIdx?_append→aAg,getElem?_take→axN,flatMap_nil→azr,mem_erase_of_ne→aAk,length_filter_le→aAm,mem_map_of_mem→axL,getD_eq_getElem?_getD→aza
open _root_.Go.Value renaming cells→azI,slice→azV,int→ayZ,bool→azD,string→az4,agg→ax8
open _root_.BitVec renaming ofInt→azx,toNat→azz,allOnes→aAo,xor_allOnes→aAp,toNat_not→aAq,toNat_and→aAr,ofInt_natCast→aAt,toNat_ofNat→aAu
open _root_.UInt8 renaming ofNat→axX,toNat_ofNat'→axY
open _root_.ByteArray renaming size→azC,toList→azL
open _root_.Nat renaming le_refl→axx,le_trans→ax4,mul_one→azZ,zero_le→ayv,le_add_right→az9,mod_eq_of_lt→aAb,xor_lt_two_pow→aAs
open _root_.Go.IntKind renaming wrap→azQ,bits→azF,signed→azO
open _root_.Int renaming fdiv→azy,toNat→azw,fdiv_eq_ediv_of_nonneg→aAa,cast_ofNat_Int→aAe,toNat_natCast→ayS
open _root_.Option renaming toList_some→aAh,getD_some→aAn
open _root_.Array renaming mem_push→aAj
set_option linter.unusedVariables false
set_option linter.unusedSimpArgs false
set_option maxRecDepth 100000
open Go Go.bk
namespace Go.Proofs
variable{H:U}{n c k:Nat}
theorem ajA{K:Option Addr->Nat->Nat->U->Prop}(ay:n<=140737488355328)
  (hk:∀b (cs:Array Value) H',dV H b (.cells cs 5) H'->n<=cs.size->cs.size<=maxLen->K (some ⟨b,0,none⟩) n cs.size H'):
  pX azB 376 ⟨[.int .i64 (n:Int)]⟩ H λv H'=>∃a n c,v=.slice a n c/\K a n c H':=by
 intro E d
 obtain⟨cs,aB,h1,ab⟩:=Lib.run_makeNoZero (P:=azB) (bf E H d) #[3] 168 5 (rI dt.bT) n (by omega)
 refine⟨_,H.push (.cells cs 5),⟨d.1+2,ax4 d.2 (by omega)⟩,?_,_,_,_,rfl,hk H.size cs _ ⟨rfl,rfl⟩ h1 (ab (by simp only [maxLen];omega))⟩
 rw [run_callFunc_extern (fn:=Tryz.f376) Tryz.func376 (by kernel_rfl) (by kernel_rfl) (by kernel_rfl) (e:=Extern.BytealgMakeNoZero.makeNoZero #[3] #[168]) (by kernel_rfl)]
 have ks:(Extern.BytealgMakeNoZero.makeNoZero #[3] #[168] ⟨[.int .i64 (n:Int)]⟩).run azB (bf E H d)=_:=aB
 rw [ks]
 rfl
theorem ajB{a:Option Addr}{K:Int->U->Prop}(hk:K 0 H):
  bO (Builtin.copy_ ⟨[168,168]⟩ 3 ⟨[.slice a 0 c,.slice none 0 0]⟩) H λv H'=>∃n,v=.int .i64 n/\K n H':=by
 intro E d
 obtain⟨i,az,_⟩:=Vg dt.byte
 refine⟨.int .i64 0,H,d,?_,_,rfl,hk⟩
 cases a with
 |none=>simp [Builtin.copy_,eU (rI dt.bT),Builtin.lenOf,mu az,Builtin.firstCells,goInt]
 |some aC=>simp [Builtin.copy_,eU (rI dt.bT),Builtin.lenOf,mu az,Builtin.firstCells,goInt,storeCells]
theorem ajC{b m:Nat}{K:U->Prop}(al:H[b]?=some (.cells ⟨[.pointer none,.slice none 0 0]⟩ 170 (0,0)))(hm:m<=140737488355328)
  (hk:∀H' S,jR H' b S []->Fr [b] H H'->Grow H [b] S->K H'):
  dQ ajD [ax (some (ak b)),o (m:Int)] H K:=by
 apply ajE
 have aF:jR H b [b] []:=⟨none,none,0,0,170,al,.inl ⟨rfl,rfl⟩,Own.nil _ _ _ _,rfl,by simp [an]⟩
 refine MY aF λH1 ad n c dJ h1 ab bB ar cv=> ?_
 have aw:ad=none/\n=0/\c=0:=by
  obtain⟨a7,⟨bs,b5,cT⟩|⟨g,cur,bs,_⟩⟩:=ab
  ·exact⟨bs,b5,cT⟩
  ·subst bs;simp [an]at bB
 obtain⟨rfl,rfl,rfl⟩:=aw
 have bM:a6 H1 ⟨b,0,none⟩ [.pointer (some ⟨b,0,none⟩),.slice none 0 0]:=⟨b,_,rfl,h1⟩
 refine au (λh=>by simp at h;omega) (λ_=>⟨_,_,_,bM.ld dt.pB (j:=1) rfl,_,_,_,bM.ld dt.pB (j:=1) rfl,au (λa7=> ?_) (λa7=> ?_)⟩)
 ·apply ajF
  refine⟨_,_,_,bM.ld dt.pB (j:=1) rfl,_,_,_,bM.ld dt.pB (j:=1) rfl,?_⟩
  have e:IntKind.i64.wrap (IntKind.i64.wrap (2*((0:Nat):Int))+(m:Int))=((m:Nat):Int):=by
   rw [cj (n:=2*((0:Nat):Int)) (by omega) (by omega),cj (by omega) (by omega)];omega
  rw [e]
  refine ajA hm λbI cs ao bK zb mc=> ?_
  have k8:=bM.ag bK.af
  refine⟨k8.ld dt.pB (j:=1) rfl,gK ⟨by omega,by omega,by omega⟩ ⟨_,_,_,k8.ld dt.pB (j:=1) rfl,?_⟩⟩
  refine ajB ?_
  refine k8.st (j:=1) (v:=.slice (some ⟨bI,0,none⟩) 0 cs.size) dt.s1 dt.si (λx aa=>by simp [azI]at aa;subst aa;rfl) (by simp [azI]) λaP fm bP=>⟨rfl,rfl,?_⟩
  obtain⟨iR,tC,e,ba⟩:=fm
  cases e
  have bQ:b<H1.size:=km h1
  have cO:bI=H1.size:=bK.eq
  have ln:aP[bI]?=some (.cells cs 5 (0,0)):=bP.get bK.get (by simp;omega)
  refine hk aP [b,bI] ⟨_,some ⟨bI,0,none⟩,0,cs.size,tC,ba,.inr rfl,⟨rfl,.inr ⟨bI,cs,rfl,ayv _,ln,ayv _,mc,by show cs.size=cs.size*1;omega,by simp⟩⟩,rfl,by simp [an];omega⟩ ?_ ?_
  ·exact(cv.trans' bK.af (T:=[b]) (λk hk _=>hk) (by simp)).trans' bP (λk hk _=>hk) (λk hk _=>hk)
  ·intro k hk
   have:=cv.size
   simp at hk
   rcases hk with rfl|rfl
   ·exact .inl (by simp)
   ·exact .inr (by omega)
 ·exact⟨rfl,hk H1 [b] ⟨_,none,0,0,dJ,h1,.inr rfl,Own.nil _ _ _ _,rfl,by simp [an]⟩ cv (Grow.refl _ _)⟩
def r7(sep:List UInt8):List ByteArray->List UInt8
 |[]=>[]
 |x::l=>bd x++l.flatMap λs=>sep++bd s
def lr(l:List ByteArray):Nat:=(l.map azC).sum
theorem Vh{l:List ByteArray}{x:ByteArray}(h:l[k]?=some x):lr (l.take (k+1))=lr (l.take k)+x.size:=by
 unfold lr
 rw [azP,h];simp
theorem II(l:List ByteArray)(k:Nat):lr (l.take k)<=lr l:=by
 have:lr l=lr (l.take k)+lr (l.drop k):=by
  unfold lr
  rw [<-aAc,<-azj,aAd]
 omega
theorem Vi(sep:List UInt8)(l:List ByteArray):(l.flatMap λs=>sep++bd s).length=l.length*sep.length+lr l:=by
 induction l with
 |nil=>simp [lr]
 |cons x l ih=>
  rw [axO,ax6,ih,ax6,dR]
  unfold lr
  simp only [axE,azT,ayi,Nat.succ_mul]
  omega
theorem ajG{a:Option Addr}{l:List ByteArray}{sep:ByteArray}{K:ByteArray->U->Prop}(aa:bt kt H a n c l)(ay:n<=1000000)(hs:sep.size=1)(M5:lr l<=1000000000)
  (hk:∀H',Fr [] H H'->K ⟨(r7 (bd sep) l).toArray⟩ H'):
  dv ajH [J a n c,aj sep] H K:=by
 apply ajI
 have j6:=aa.len
 have afu:=aa.cap
 refine au (λh=> ?_) (λh=>au (λh1=> ?_) (λh1=> ?_))
 ·have h:(n:Int)=0:=by simpa using h
  have:l=[]:=ayT (by omega)
  subst this
  exact⟨_,rfl,hk H (Fr.refl _ _)⟩
 ·have h1:(n:Int)=1:=by simpa using h1
  have kp:l.length=1:=by omega
  match l,kp,aa,hk with
  |[x],_,aa,hk=>
   refine aa.head (bh (by omega)) λaC b4 av=>⟨_,jb av,_,rfl,?_⟩
   have e:(⟨(r7 (bd sep) [x]).toArray⟩:ByteArray)=x:=by apply iV;simp [r7,bd]
   have:=hk H (Fr.refl _ _)
   rwa [e]at this
 have bK:2<=n:=by
  have h:(n:Int)≠0:=by simpa using h
  have h1:(n:Int)≠1:=by simpa using h1
  omega
 refine⟨λae H'=>∃m:Nat,ae=[.int .i64 m]/\m<=1000000/\H'=H,?_,?_⟩
 ·rw [hs]
  refine au (λ_=> ?_) (λh=>by simp at h)
  have aL:IntKind.i64.wrap ((n:Int)-1)=((n-1:Nat):Int):=by rw [cj (by omega) (by omega)];omega
  rw [aL]
  refine gK (by omega) ?_
  have aR:Int.tdiv 9223372036854775807 ((n-1:Nat):Int)=((9223372036854775807/(n-1):Nat):Int):=by
   rw [Int.tdiv_eq_ediv_of_nonneg (by decide)];rfl
  have aO:9223372036854<=9223372036854775807/(n-1):=by
   rw [Nat.le_div_iff_mul_le (by omega)]
   omega
  have Gh:9223372036854775807/(n-1)<=9223372036854775807:=Nat.div_le_self _ _
  rw [aR,cj (by omega) (by omega)]
  refine au (λh=>by have h:=of_decide_eq_true h;generalize 9223372036854775807/(n-1)=q at *;omega) (λ_=>⟨n-1,?_,by omega,rfl⟩)
  rw [cj (n:=((1:Nat):Int)*((n-1:Nat):Int)) (by omega) (by omega),cj (by omega) (by omega)]
  congr 2;omega
 rintro br m0 H1 ⟨m,e,hm,rfl⟩
 simp only [List.cons.injEq,Value.int.injEq,true_and,and_true]at e
 subst e
 refine⟨λae H'=>match ae with|[.int _ t,.int _ i]=>∃(gk k:Nat),t=gk/\i=k/\k<=n/\gk=m+lr (l.take k)/\H'=H1|_=>False,
  λae _=>match ae with|[_,.int _ i]=>n-i.toNat|_=>0,⟨m,0,rfl,rfl,by omega,by simp [lr],rfl⟩,?_⟩
 rintro br t i ao ⟨gk,k,rfl,rfl,hle,aW,rfl⟩
 have av5:=II l k
 refine au (λaF=> ?_) (λaF=> ?_)
 ·have b':k<n:=by simpa using aF
  have cB:l[k]?=some (l[k]'(by omega)):=by simp
  generalize l[k]'(by omega)=x at cB
  have av6:=II l (k+1)
  have dW:=Vh cB
  refine aa.get rfl cB (bh (by omega)) λaC b4 av=>⟨_,jb av,?_⟩
  rw [cj (n:=9223372036854775807-(gk:Int)) (by omega) (by omega)]
  refine au (λh=>by simp at h;omega) (λ_=> ?_)
  rw [cj (n:=(gk:Int)+(x.size:Int)) (by omega) (by omega),cE (by omega)]
  exact⟨⟨gk+x.size,k+1,by omega,rfl,by omega,by rw [dW,aW];omega,rfl⟩,dU b'⟩
 ·intro b aP bw
  refine ajC bw.get (by omega) λa8 yb gm cm ko=> ?_
  have Iu:b=ao.size:=bw.eq
  have oJ:Fr [] ao a8:=bw.af.ag cm (λk hk=>by simp at hk;omega)
  have qm:∀k∈yb,ao.size<=k:=λk hk=>by
   rcases ko k hk with h|h
   ·simp at h;omega
   ·have:=bw.size;omega
  match l,j6,aa,hk,M5 with
  |[],j6,_,_,_=>simp at j6;omega
  |x::l,j6,aa,hk,M5=>
  refine(aa.ag oJ).head (bh (by omega)) λaC b4 av=>⟨_,jb av,?_⟩
  have Vj:lr (x::l)=x.size+lr l:=by simp [lr]
  refine sT gm (by simp;omega) λbA mq dI cb tG=>gK ⟨by omega,by omega,by omega⟩ ?_
  have ajJ:Fr [] ao bA:=oJ.ag cb qm
  have jK:∀k∈mq,ao.size<=k:=λk hk=>by
   rcases tG k hk with h|h
   ·exact qm k h
   ·have:=oJ.size;omega
  have M6:bt kt ao (df c 1 1 a) (n-1) (c-1) l:=aa.drop (k:=1) (by omega)
  have rA:l.length=n-1:=by simp at j6;omega
  refine⟨λae H'=>match ae with|[.int _ i]=>∃(k:Nat) (S:List Nat),i=k/\k<=n-1/\jR H' b S (bd x++(l.take k).flatMap λs=>bd sep++bd s)/\(∀j∈S,ao.size<=j)/\Fr [] ao H'|_=>False,
   λae _=>match ae with|[.int _ i]=>n-1-i.toNat|_=>0,⟨0,mq,rfl,by omega,by simpa using dI,jK,ajJ⟩,?_⟩
  rintro br i ct ⟨k,Mo,rfl,A0,jN,nM,de⟩
  have iO:=Vi (bd sep) (l.take k)
  have eo:=II l k
  rw [ayj,dR,hs]at iO
  have jM:azw (n:Int)-azw 1=n-1:=by omega
  have ajK:azw (n:Int)-1=n-1:=by omega
  rw [jM,ajK]
  refine au (λcT=> ?_) (λcT=> ?_)
  ·have yk:k<n-1:=by simp at cT;omega
   have oO:l[k]?=some (l[k]'(by omega)):=by simp
   generalize l[k]'(by omega)=y at oO
   have dW:=Vh oO
   have av7:=II l (k+1)
   refine(M6.ag de).get rfl oO (bh (by omega)) λaC b4 av=>⟨_,jb av,?_⟩
   refine sT jN (by rw [ax6,iO,dR];omega) λdx D3 mQ e4 th=> ?_
   have Vk:=de.ag e4 nM
   have ES:∀k∈D3,ao.size<=k:=λk hk=>by
    rcases th k hk with h|h
    ·exact nM k h
    ·have:=de.size;omega
   refine sT mQ (by rw [ax6,ax6,iO,dR,dR];omega) λeQ K5 uo jl ajL=> ?_
   rw [cE (by omega)]
   refine⟨⟨k+1,K5,rfl,by omega,?_,λj bq=> ?_,Vk.ag jl ES⟩,dU yk⟩
   ·rw [azP,oO]
    simpa using uo
   ·rcases ajL j bq with h|h
    ·exact ES j h
    ·have:=Vk.size;omega
  ·have eC:l.take k=l:=ayB (by simp at cT;omega)
   rw [eC]at jN iO
   exact xD jN (by rw [ax6,iO,dR];omega) λdx e4=>⟨_,rfl,hk dx (de.ag e4 nM)⟩
theorem jW(l:List UInt8):bd ⟨l.toArray⟩=l:=by simp [bd]
theorem fD(l:List UInt8):(⟨l.toArray⟩:ByteArray).size=l.length:=by rw [<-dR,jW]
theorem q0(s t:ByteArray):(s++t).size=s.size+t.size:=by rw [<-dR,kQ,ax6,dR,dR]
theorem ET(v:List UInt8):v.length<=(lF v).length/\(lF v).length<=2*v.length:=by
 induction v with
 |nil=>simp [lF]
 |cons b v ih=>
  rw [ajM,ax6,ayi]
  have:(oP b).length=1\/(oP b).length=2:=by
   rcases ajN b with⟨e,_⟩|⟨_,e⟩|⟨_,e⟩|⟨_,e⟩<;>rw [e]<;>simp
  omega
theorem M7(v:List UInt8):(u7 v).length<=2*v.length+2:=by
 have:=ET v
 unfold u7
 simp only [ax6,ayi,azs]
 omega
theorem Vl{l:List UInt8}{x:UInt8}(aa:l[k]?=some x):lF (l.take (k+1))=lF (l.take k)++oP x:=by
 rw [azP,aa,ajO];simp [lF]
theorem ajP{aC:Addr}{x:UInt8}(h:gu H aC (fb.cells x)):ah 5 H aC (.int .u8 x.toNat):=jb h
theorem B'(x:UInt8)(n:Nat)(h:n<256):((x.toNat:Int)==(n:Int))=decide (x=axX n):=by
 by_cases e:x=axX n
 ·rw [bh e];subst e;simp;omega
 ·rw [decide_eq_false e]
  simp
  intro h'
  apply e
  apply UInt8.toNat_inj.1
  rw [axY]
  omega
theorem ajQ{α:Type}{E:di α}{b:Nat}{xs:List α}(h:bt E H (some ⟨b,0,none⟩) n c xs)(aa:xs≠[]):b<H.size:=by
 obtain⟨iR,off,e,bQ⟩:=h.arr.lt aa
 cases e;exact bQ
theorem ajR{s:ByteArray}{K:ByteArray->U->Prop}(hs:s.size<=1000000000)(hk:∀H',Fr [] H H'->K ⟨(u7 (bd s)).toArray⟩ H'):
  dv ajS [aj s] H K:=by
 apply ajT
 intro b H1 bb
 have Iu:=bb.eq
 have fh:=dR s
 refine EN (x:=34) (mo.new bb) rfl (by simp) λao S2 cO bG ln=> ?_
 have Ef:Fr [] H ao:=bb.af.ag bG (λk hk=>by simp at hk;omega)
 have tH:∀k∈S2,H.size<=k:=λk hk=>by
  rcases ln k hk with h|h
  ·simp at h;omega
  ·have:=bb.size;omega
 refine H5 dt.str dt.bT (by kernel_rfl) λdz c3 aP fm yO bP=> ?_
 have Vm:=cO.ag bP
 have ajU:dz∉S2:=λhk=>by have:=cO.lt dz hk;omega
 refine⟨λae H'=>match ae with|[.int _ i]=>∃(k:Nat) (S:List Nat),i=k/\k<=s.size/\jR H' b S (34::lF ((bd s).take k))/\(∀j∈S,H.size<=j)/\dz∉S/\bt fb H' (some ⟨dz,0,none⟩) s.size c3 (bd s)/\Fr [] H H'|_=>False,
  λae _=>match ae with|[.int _ i]=>s.size-i.toNat|_=>0,⟨0,S2,rfl,by omega,Vm,tH,ajU,yO,Ef.aT bP⟩,?_⟩
 rintro br i a8 ⟨k,yb,rfl,hle,gm,qm,M8,u9,cm⟩
 have IJ:=ET ((bd s).take k)
 rw [ayj,fh]at IJ
 refine au (λaF=> ?_) (λaF=> ?_)
 ·have b':k<s.size:=by simpa using aF
  have cB:(bd s)[k]?=some ((bd s)[k]'(by omega)):=by simp
  generalize(bd s)[k]'(by omega)=x at cB
  have cP:bd s≠[]:=λe=>by rw [e]at cB;cases cB
  refine u9.get rfl cB (bh (by omega)) λaC b4 av=>⟨_,ajP av,?_⟩
  rw [cE (by omega)]
  have wr:∀{bA:U} {mq:List Nat} {H':U} {S:List Nat} {xs:List UInt8},jR H' b mq xs->(∀j∈S,H.size<=j)->dz∉S->bt fb bA (some ⟨dz,0,none⟩) s.size c3 (bd s)->Fr [] H bA->Fr S bA H'->Grow bA S mq→
    (∀j∈mq,H.size<=j)/\dz∉mq/\bt fb H' (some ⟨dz,0,none⟩) s.size c3 (bd s)/\Fr [] H H':=λ{bA mq H' S xs} _ bB Bi aa ai eE ba=>⟨λj bq=>by
    rcases ba j bq with h|h
    ·exact bB j h
    ·have:=ai.size;omega,λhk=>by
    rcases ba dz hk with h|h
    ·exact Bi h
    ·have:=ajQ aa cP;omega,aa.af eE (λaC e=>by cases e;exact Bi),ai.ag eE bB⟩
  have fin:∀{H':U} {S:List Nat} {xs:List UInt8},jR H' b S xs->xs=34::lF ((bd s).take k)++oP x->((∀j∈S,H.size<=j)/\dz∉S/\bt fb H' (some ⟨dz,0,none⟩) s.size c3 (bd s)/\Fr [] H H')→
    (∃(pD:Nat) (S:List Nat),((k+1:Nat):Int)=pD/\pD<=s.size/\jR H' b S (34::lF ((bd s).take pD))/\(∀j∈S,H.size<=j)/\dz∉S/\bt fb H' (some ⟨dz,0,none⟩) s.size c3 (bd s)/\Fr [] H H')/\s.size-((k+1:Nat):Int).toNat<s.size-((k:Nat):Int).toNat:=λ{H' S xs} bM e h=>by
   refine⟨⟨k+1,S,rfl,by omega,?_,h.1,h.2.1,h.2.2.1,h.2.2.2⟩,dU b'⟩
   rw [Vl cB]
   rw [e]at bM
   exact bM
  have EU:=B' x 10 (by omega)
  have EV:=B' x 34 (by omega)
  have EW:=B' x 92 (by omega)
  simp only [aAe]at EU EV EW
  rw [EU,EV,EW]
  have Vn:oP x=[92,x]->aK 184 [ax (some (ak b)),.int .u8 92] a8 λv hv=>∃wz,v=wz/\aK 184 [ax (some (ak b)),.int .u8 x.toNat] hv λv je=>∃z1,v=z1∧
    (∃(pD:Nat) (S:List Nat),((k+1:Nat):Int)=pD/\pD<=s.size/\jR je b S (34::lF ((bd s).take pD))/\(∀j∈S,H.size<=j)/\dz∉S/\bt fb je (some ⟨dz,0,none⟩) s.size c3 (bd s)/\Fr [] H je)/\s.size-((k+1:Nat):Int).toNat<s.size-((k:Nat):Int).toNat:=λaO=>by
   refine EN (x:=92) gm rfl (by simp only [ayi];omega) λbA mq dI cb tG=> ?_
   obtain⟨g1,g2,g3,g4⟩:=wr dI qm M8 u9 cm cb tG
   refine EN (x:=x) dI rfl (by simp only [ayi,ax6,azs];omega) λct Mo jN de hg6=> ?_
   exact fin jN (by rw [aO];simp) (wr jN g1 g2 g3 g4 de hg6)
  have ajV:oP x=[x]->aK 184 [ax (some (ak b)),.int .u8 x.toNat] a8 λv hv=>∃wz,v=wz∧
    (∃(pD:Nat) (S:List Nat),((k+1:Nat):Int)=pD/\pD<=s.size/\jR hv b S (34::lF ((bd s).take pD))/\(∀j∈S,H.size<=j)/\dz∉S/\bt fb hv (some ⟨dz,0,none⟩) s.size c3 (bd s)/\Fr [] H hv)/\s.size-((k+1:Nat):Int).toNat<s.size-((k:Nat):Int).toNat:=λaO=>by
   refine EN (x:=x) gm rfl (by simp only [ayi];omega) λbA mq dI cb tG=> ?_
   exact fin dI (by rw [aO]) (wr dI qm M8 u9 cm cb tG)
  refine au (λh=> ?_) (λh=> ?_)
  ·have h:x=10:=of_decide_eq_true h
   refine sT gm (by have:(⟨#[92,110]⟩:ByteArray).size=2:=rfl;simp;omega) λbA mq dI cb tG=> ?_
   refine fin dI ?_ (wr dI qm M8 u9 cm cb tG)
   subst h;rfl
  have n10:x≠10:=of_decide_eq_false h
  refine au (λh=>au (λh'=>Vn ?_) (λh'=>by rw [h]at h';cases h')) (λh=>au (λh'=>Vn ?_) (λh'=>ajV ?_))
  ·have h:x=34:=of_decide_eq_true h
   subst h;rfl
  ·have h:x=92:=of_decide_eq_true h'
   subst h;rfl
  ·have h1:x≠34:=of_decide_eq_false h
   have ab:x≠92:=of_decide_eq_false h'
   unfold oP
   rw [if_neg h1,if_neg ab,if_neg n10]
 ·have eC:(bd s).take k=bd s:=ayB (by simp at aF;omega)
  rw [eC]at gm IJ
  refine EN (x:=34) gm rfl (by simp;have:=ET (bd s);omega) λbA mq dI cb tG=> ?_
  have M9:=cm.ag cb qm
  have jK:∀j∈mq,H.size<=j:=λj bq=>by
   rcases tG j bq with h|h
   ·exact qm j h
   ·have:=cm.size;omega
  exact xD dI (by have:=ET (bd s);simp;omega) λct de=>⟨_,rfl,hk ct (M9.ag de jK)⟩
theorem ajW{s:ByteArray}{x:UInt8}(aa:(bd s)[k]?=some x):bd (s.extract k (k+1))=[x]:=by
 rw [tE,azP,aa,List.drop_append]
 have aG:=(axC.1 aa).1
 have h1:((bd s).take k).length=k:=by rw [ayj];omega
 rw [az2 (by omega),h1]
 simp
theorem Vo{s:ByteArray}{K:ByteArray->U->Prop}(hs:s.size<=1000000000)(hk:K ⟨(u7 (bd s)).toArray⟩ H):
  dv ajX [aj s] H K:=by
 apply ajY
 have fh:=dR s
 refine⟨λae H'=>match ae with|[.string t,.int _ i]=>∃k:Nat,i=k/\k<=s.size/\bd t=lF ((bd s).take k)/\H'=H|_=>False,
  λae _=>match ae with|[_,.int _ i]=>s.size-i.toNat|_=>0,⟨0,rfl,by omega,rfl,rfl⟩,?_⟩
 rintro br t i H1 ⟨k,rfl,hle,aW,rfl⟩
 have IJ:=ET ((bd s).take k)
 rw [ayj,fh,<-aW,dR]at IJ
 refine au (λaF=> ?_) (λaF=> ?_)
 ·have b':k<s.size:=by simpa using aF
  have cB:(bd s)[k]?=some ((bd s)[k]'(by omega)):=by simp
  generalize(bd s)[k]'(by omega)=x at cB
  have ajZ:bo s k=x.toNat:=Ca (by rw [yl];exact cB)
  rw [ayS,ajZ,cE (by omega)]
  have EU:=B' x 10 (by omega)
  have EV:=B' x 34 (by omega)
  have EW:=B' x 92 (by omega)
  simp only [aAe]at EU EV EW
  rw [EU,EV,EW]
  have fin:∀u:ByteArray,bd u=oP x->(∃pD:Nat,((k+1:Nat):Int)=pD/\pD<=s.size/\bd (t++u)=lF ((bd s).take pD)/\H1=H1)/\s.size-((k+1:Nat):Int).toNat<s.size-((k:Nat):Int).toNat:=λu hu=>
   ⟨⟨k+1,rfl,by omega,by rw [kQ,hu,Vl cB,aW],rfl⟩,dU b'⟩
  refine gK ⟨by omega,by omega⟩ (au (λh=> ?_) (λh=>au (λab=> ?_) (λab=>au (λar=> ?_) (λar=> ?_))))
  ·have h:x=34:=of_decide_eq_true h
   exact cM (bh (by omega)) (fin ⟨#[92,34]⟩ (by subst h;rfl))
  ·have h:x=92:=of_decide_eq_true ab
   exact cM (bh (by omega)) (fin ⟨#[92,92]⟩ (by subst h;rfl))
  ·have h:x=10:=of_decide_eq_true ar
   exact cM (bh (by omega)) (fin ⟨#[92,110]⟩ (by subst h;rfl))
  ·refine gK ⟨by omega,by omega,by omega⟩ ?_
   rw [ayS]
   have e:=ajW cB
   have es:(s.extract k (k+1)).size=1:=by rw [<-dR,e];rfl
   refine cM (bh (by omega)) (fin _ ?_)
   rw [e]
   have cD:x≠34:=of_decide_eq_false h
   have cz:x≠92:=of_decide_eq_false ab
   have ij:x≠10:=of_decide_eq_false ar
   unfold oP
   rw [if_neg cD,if_neg cz,if_neg ij]
 ·have eC:(bd s).take k=bd s:=ayB (by simp at aF;omega)
  rw [eC]at aW
  have av8:(⟨#[34]⟩:ByteArray).size=1:=rfl
  refine cM (bh (by omega)) (cM (bh (by rw [q0];omega)) ⟨_,rfl,?_⟩)
  have e:(⟨#[34]⟩++t++⟨#[34]⟩:ByteArray)=⟨(u7 (bd s)).toArray⟩:=by
   apply iV
   rw [kQ,kQ,aW,jW];rfl
  rw [e];exact hk
abbrev bR:=List hV
open Classical in
noncomputable def rU(L:List bR)(bX v:ByteArray):List Int:=(L.zipIdx.filter λp=>decide ((bX,v)∈p.1)).map λp=>(p.2:Int)
theorem aeS(bX v:ByteArray):rU [] bX v=[]:=rfl
open Classical in
theorem ae5(L:List bR)(l:bR)(bX v:ByteArray):rU (L++[l]) bX v=rU L bX v++if(bX,v)∈l then [(L.length:Int)]else []:=by
 unfold rU
 rw [List.zipIdx_append,aAf,azj]
 congr 1
 simp only [List.zipIdx_cons,List.zipIdx_nil,Nat.zero_add]
 by_cases h:(bX,v)∈l
 ·simp [h]
 ·simp [h]
def qV(L:List bR)(s:ByteArray):Option Nat:=L.findIdx? λl=>decide (hW l=bd s)
structure tk(L:List bR):Prop where
 nodup:L.Nodup
 dB:∀l∈L,fa l
 len:L.length<=200
theorem HT{L:List bR}(hw:tk L){l:bR}(aG:fa l):qV L ⟨(hW l).toArray⟩=L.findIdx? (λm=>decide (m=l)):=by
 unfold qV
 have:∀(M:List bR),(∀m∈M,fa m)->M.findIdx? (λm=>decide (hW m=bd ⟨(hW l).toArray⟩))=M.findIdx? (λm=>decide (m=l)):=by
  intro M
  induction M with
  |nil=>intro _;rfl
  |cons m M ih=>
   intro cV
   have e:decide (hW m=bd ⟨(hW l).toArray⟩)=decide (m=l):=by
    have hm:=cV m (by simp)
    refine decide_eq_decide.2 ⟨λh=>Xt hm.2.1 aG.2.1 (by simpa [bd]using h),λh=>by subst h;simp [bd]⟩
   rw [az3,az3,e,ih λx aa=>cV x (by simp [aa])]
 exact this L hw.dB
noncomputable def hY(L:List bR)(l:bR):Option Nat:=L.findIdx? (λm=>decide (m=l))
noncomputable def D9(L:List bR)(l:bR):Int:=match hY L l with|some i=>i|none=> -1
theorem Tv{L:List bR}{l:bR}{i:Nat}(h:hY L l=some i):L[i]?=some l:=by
 unfold hY at h
 rw [List.findIdx?_eq_some_iff_getElem]at h
 obtain⟨az,h1,_⟩:=h
 rw [ayA az]
 simpa using h1
theorem HS{L:List bR}{l:bR}:hY L l=none↔l∉L:=by
 unfold hY
 rw [List.findIdx?_eq_none_iff]
 simp only [decide_eq_false_iff_not]
 exact⟨λh hm=>h l hm rfl,λh x aa e=>h (e▸aa)⟩
theorem TB{L:List bR}{l:bR}(s:ByteArray)(cq:qV L ⟨(hW l).toArray⟩=none):qV (L++[l]) s=if s=⟨(hW l).toArray⟩then some L.length else qV L s:=by
 by_cases h:s=⟨(hW l).toArray⟩
 ·rw [if_pos h]
  subst h
  unfold qV at cq⊢
  rw [aAg,cq]
  simp [bd,az3]
 ·rw [if_neg h]
  unfold qV
  rw [aAg]
  have:decide (hW l=bd s)=false:=by
   refine decide_eq_false λe=>h ?_
   apply iV
   rw [<-e]
  simp only [az3,this,List.findIdx?_nil]
  cases List.findIdx? (λl=>decide (hW l=bd s)) L<;>rfl
open Classical in
noncomputable def oF(L:List bR)(l:bR):List bR:=if fa l/\l∉L/\L.length<200 then L++[l]else L
open Classical in
noncomputable def zE(L:List bR)(l:bR):Int:=if fa l then(match hY L l with|some i=>i|none=>if L.length<200 then L.length else 0)else 0
open Classical in
noncomputable def zF(L:List bR)(l:bR):Int:=if fa l then(match hY L l with|some _=>0|none=>if L.length<200 then 0 else 2)else 40
theorem TL{L:List bR}(hw:tk L)(l:bR):tk (oF L l):=by
 unfold oF
 split
 ·rename_i h
  refine⟨?_,?_,by simp;omega⟩
  ·rw [azk]
   exact⟨hw.nodup,by simp,λa bW b al=>by simp at al;subst al;exact λe=>h.2.1 (e▸bW)⟩
  ·intro m hm
   rcases azb.1 hm with h1|h1
   ·exact hw.dB m h1
   ·simp at h1;subst h1;exact h.1
 ·exact hw
theorem tk.nil:tk []:=⟨by simp,by simp,by simp⟩
theorem apV{l:List hV}(h:D' l):∀{i j:Nat} {x y:hV},i<j->l[i]?=some x->l[j]?=some y->kx x.1 y.1=true:=by
 intro i j x y mn aa aA
 induction j generalizing y with
 |zero=>omega
 |succ j ih=>
  have bq:j<l.length:=by have:=(axC.1 aA).1;omega
  have aE:l[j]?=some l[j]:=by simp
  rcases Nat.lt_or_ge i j with h1|h1
  ·exact Xq (ih h1 aE) (h j _ _ aE aA)
  ·have:i=j:=by omega
   subst this
   exact h i x y aa aA
theorem ae7{l:List hV}(h:D' l){x y:hV}(aa:l[k]?=some x)(aA:y∈l.take k):y.1≠x.1:=by
 intro e
 obtain⟨i,az⟩:=List.mem_iff_getElem?.1 aA
 rw [axN]at az
 split at az
 ·rename_i NT
  have:=apV h NT az aa
  rw [e,M4]at this;cases this
 ·cases az
theorem aj0:sliceB azB 112 9=true:=by kernel_rfl
theorem Mb:j8 azB 9 1 16=true:=by kernel_rfl
def nt(x:hV):ByteArray:=⟨(ym x).toArray⟩
theorem EX:∀l:bR,lW l=123::r7 [44] (l.map nt)++[125]
 |[]=>rfl
 |x::l=>by
  have:∀m:bR,IK m=((m.map nt).flatMap λs=>[44]++bd s)++[125]:=by
   intro m
   induction m with
   |nil=>rfl
   |cons y m ih=>simp only [IK,ih,axE,axO,nt,jW];simp
  simp only [lW,this,axE,r7,nt,jW]
  simp
theorem aj1(x:hV):(nt x).size=x.1.size+1+(u7 (bd x.2)).length:=by
 unfold nt ym
 rw [fD,ax6,ayi,dR];omega
theorem aj2{x:hV}(h:p3 x):(nt x).size<=83:=by
 have:=M7 (bd x.2)
 rw [dR]at this
 rw [aj1]
 have h1:=h.1.2.1
 have ab:=h.2.1.1
 omega
theorem Vp{l:bR}(h:∀x∈l,p3 x):lr (l.map nt)<=83*l.length:=by
 induction l with
 |nil=>simp [lr]
 |cons x l ih=>
  have:=aj2 (h x (by simp))
  have:=ih λy aA=>h y (by simp [aA])
  unfold lr at *
  simp only [axE,azT,ayi]
  omega
theorem x6{l:bR}(h:fa l):(lW l).length<=700:=by
 have fi:=h.1
 have hs:=Vp h.2.1
 rw [EX]
 cases l with
 |nil=>simp [r7]
 |cons x l=>
  simp only [axE,r7,ayi,ax6,dR,azs]
  have:=Vi [44] (l.map nt)
  rw [this]
  simp only [azU,ayi,azs]
  simp only [axE,ayi,lr,azT]at hs fi⊢
  omega
theorem TO{a:Option Addr}{l:bR}{K:ByteArray->Int->U->Prop}(aa:bt g' H a n c l)(ay:n<=1000000000)
  (cq:¬fa l->∀H',Fr [] H H'->K ⟨#[]⟩ 40 H') (eV:fa l->∀H',Fr [] H H'->K ⟨(lW l).toArray⟩ 0 H'):
  aK aj3 [J a n c] H λv H'=>∃s e,v=.tuple ⟨[.string s,.int .i64 e]⟩/\K s e H':=by
 apply aj4
 have j6:=aa.len
 refine LI aa ay λH1 cv=> ?_
 by_cases dj:¬fa l
 ·rw [zB dj]
  exact⟨_,_,rfl,cq dj H1 cv⟩
 have dj:=Classical.not_not.1 dj
 rw [BE dj]
 have fi:=dj.1
 refine au (λh=>by simp at h) (λ_=> ?_)
 refine⟨λae H'=>match ae with
   |[.slice ad p q,.int _ i]=>∃k:Nat,i=k/\k<=n/\Own kt 9 H.size H' ad p q ((l.take k).map nt)/\Fr [] H H'
   |_=>False,
  λae _=>match ae with|[_,.int _ i]=>n-i.toNat|_=>0,⟨0,rfl,by omega,Own.nil _ _ _ _,cv⟩,?_⟩
 rintro br ad p q i aP ⟨k,rfl,hle,aw,ai⟩
 refine au (λaF=> ?_) (λaF=> ?_)
 ·have b':k<n:=by simpa using aF
  have cB:l[k]?=some (l[k]'(by omega)):=by simp
  generalize l[k]'(by omega)=x at cB
  have bZ:=dj.2.1 x (azR cB)
  have aO:=M7 (bd x.2)
  rw [dR]at aO
  have aj5:=bZ.1.2.1
  have aj6:=bZ.2.1.1
  refine(aa.ag ai).get rfl cB (bh (by omega)) λaC b4 av=>⟨_,_,HM av,?_⟩
  refine HN rfl λb1 a8 dA aI cm=>⟨_,aI.hh,cM (bh (by omega)) ⟨_,aI.s1,?_⟩⟩
  refine ajR (by omega) λbA cb=>⟨(aI.ag cb).hh,cM (bh ?_) ?_⟩
  ·have aL:(⟨#[61]⟩:ByteArray).size=1:=rfl
   have a':=fD (u7 (bd x.2))
   have cX:=q0 x.1 ⟨#[61]⟩
   omega
  have e:(x.1++⟨#[61]⟩++⟨(u7 (bd x.2)).toArray⟩:ByteArray)=nt x:=by
   apply iV
   unfold nt ym
   rw [kQ,kQ,jW,jW]
   simp [bd]
  rw [e]
  have M9:=(ai.aT cm).aT cb
  have ea:=aw.1
  rw [azU,ayj]at ea
  refine pj (E:=kt) (nt x) aj0 Mb ((aw.ag cm).ag cb) M9 rfl (by omega) λ_ o6 p6 hr ct hf de _=> ?_
  rw [cE (by omega)]
  refine⟨⟨k+1,rfl,by omega,?_,de⟩,dU b'⟩
  rw [azP,cB,azj]
  exact hf
 ·have eC:l.take k=l:=ayB (by simp at aF;omega)
  rw [eC]at aw
  have ea:=aw.1
  rw [azU]at ea
  have hs:=Vp dj.2.1
  have j2:=x6 dj
  rw [EX]at j2
  simp only [ayi,ax6,azs]at j2
  refine ajG aw.bT (by omega) rfl (by omega) λa8 cm=> ?_
  have aL:(⟨#[123]⟩:ByteArray).size=1:=rfl
  have aj7:bd (⟨#[44]⟩:ByteArray)=[44]:=rfl
  rw [aj7]
  have M':=fD (r7 [44] (l.map nt))
  refine cM (bh (by omega)) (cM (bh (by rw [q0];omega)) ⟨_,_,rfl,?_⟩)
  have e:(⟨#[123]⟩++⟨(r7 [44] (l.map nt)).toArray⟩++⟨#[125]⟩:ByteArray)=⟨(lW l).toArray⟩:=by
   apply iV
   rw [kQ,kQ,jW,jW,EX]
   rfl
  rw [e]
  exact eV dj a8 (ai.aT cm)
def Cb(l:bR):List UInt8:=123::r7 [44] (l.map nt)
theorem Vq{l:bR}{x:hV}(aa:l[k]?=some x):Cb (l.take (k+1))=Cb (l.take k)++(if k=0 then []else [44])++ym x:=by
 rw [azP,aa]
 unfold Cb
 by_cases hk:k=0
 ·subst hk
  simp [r7,nt,jW]
 ·rw [if_neg hk]
  have cP:l.take k≠[]:=λe=>by
   have:=congrArg List.length e
   rw [ayj]at this
   have a7:=(axC.1 aa).1
   have ed:([]:bR).length=0:=rfl
   rw [ed]at this;omega
  cases h:l.take k with
  |nil=>exact absurd h cP
  |cons y m=>
   simp only [List.cons_append,axE,azj,r7,azf,aAh,List.map_nil,axO,azr,azh]
   simp [nt,jW]
theorem aj8{a:Option Addr}{l:bR}{K:ByteArray->Int->U->Prop}(aa:bt g' H a n c l)
  (cq:¬fa l->K ⟨#[]⟩ 40 H) (eV:fa l->K ⟨(lW l).toArray⟩ 0 H):
  aK Vr [J a n c] H λv H'=>∃s e,v=.tuple ⟨[.string s,.int .i64 e]⟩/\K s e H':=by
 apply aj9
 have j6:=aa.len
 refine ajx aa ?_
 by_cases dj:¬fa l
 ·rw [zB dj]
  exact⟨_,_,rfl,cq dj⟩
 have dj:=Classical.not_not.1 dj
 rw [BE dj]
 have fi:=dj.1
 have eV:=eV dj
 have bound:∀k,(Cb (l.take k)).length<=700:=λk=>by
  have aj':fa (l.take k):=⟨by rw [ayj];omega,λx aa=>dj.2.1 x (azY aa),λi x y aa aA=>by
   rw [axN]at aa aA
   split at aa
   ·split at aA
    ·exact dj.2.2 i x y aa aA
    ·cases aA
   ·cases aa⟩
  have:=x6 aj'
  rw [EX]at this
  unfold Cb
  simp only [ayi,ax6,azs]at this⊢
  omega
 refine au (λh=>by simp at h) (λ_=> ?_)
 refine⟨λae H'=>match ae with
   |[.string t,.int _ i]=>∃k:Nat,i=k/\k<=n/\bd t=Cb (l.take k)/\H'=H
   |_=>False,
  λae _=>match ae with|[_,.int _ i]=>n-i.toNat|_=>0,⟨0,rfl,by omega,rfl,rfl⟩,?_⟩
 rintro br t i aP ⟨k,rfl,hle,aW,rfl⟩
 have ji:t.size<=700:=by rw [<-dR,aW];exact bound k
 refine au (λaF=> ?_) (λaF=> ?_)
 ·have b':k<n:=by simpa using aF
  have cB:l[k]?=some (l[k]'(by omega)):=by simp
  generalize l[k]'(by omega)=x at cB
  have bZ:=dj.2.1 x (azR cB)
  have aO:=M7 (bd x.2)
  rw [dR]at aO
  have aj5:=bZ.1.2.1
  have aj6:=bZ.2.1.1
  have aL:(⟨#[44]⟩:ByteArray).size=1:=rfl
  have a':(⟨#[61]⟩:ByteArray).size=1:=rfl
  have M':=fD (u7 (bd x.2))
  have B6:∀{Q:Addr->Prop},(∀aC,a=some aC->gu aP (aC.add ((k:Int).toNat *g'.sz)) (g'.cells x)->Q aC)->fp a λaC=>dB (decide ((0:Int)<=k/\(k:Int)<n)) (Q aC):=λeL=>aa.get rfl cB (bh (by omega)) eL
  rw [cE (by omega)]
  refine au (λh1=> ?_) (λh1=> ?_)
  ·have zf:k≠0:=by simp at h1;omega
   refine cM (bh (by omega)) (B6 λaC b4 av=>⟨_,z' av,cM (bh (by rw [q0];omega)) (cM (bh (by rw [q0,q0];omega)) (B6 λad2 ea2 mc=>⟨_,IG mc,Vo (by omega) ⟨z' av,cM (bh (by rw [q0,q0,q0];omega)) ⟨⟨k+1,rfl,by omega,?_,rfl⟩,dU b'⟩⟩⟩))⟩)
   rw [Vq cB,if_neg zf,kQ,kQ,kQ,kQ,aW,jW]
   unfold ym
   simp [bd]
  ·have zf:k=0:=by simp at h1;omega
   subst zf
   refine B6 λaC b4 av=>⟨_,z' av,cM (bh (by omega)) (cM (bh (by rw [q0];omega)) (B6 λad2 ea2 mc=>⟨_,IG mc,Vo (by omega) ⟨z' av,cM (bh (by rw [q0,q0];omega)) ⟨⟨0+1,rfl,by omega,?_,rfl⟩,dU b'⟩⟩⟩))⟩
   rw [Vq cB,if_pos rfl,kQ,kQ,kQ,aW,jW]
   unfold ym
   simp [bd]
 ·have eC:l.take k=l:=ayB (by simp at aF;omega)
  rw [eC]at aW
  refine cM (bh (by omega)) ⟨_,_,rfl,?_⟩
  have e:(t++⟨#[125]⟩:ByteArray)=⟨(lW l).toArray⟩:=by
   apply iV
   rw [kQ,aW,jW,EX];rfl
  rw [e];exact eV
theorem fM{α:Type}{l:List α}{i:Nat}(h:i<l.length):∃x,l[i]?=some x:=⟨l[i],ayA h⟩
end Go.Proofs
namespace Go.bk
variable{l D t:Nat}{cw H':U}
theorem dO.af{H:U}{bc:Loop}{st:LoopState}{j:Option Code}{T:List Nat}(h:dO H l bc st j)(ai:Fr T H H')(ay:l∉T):dO H' l bc st j:=ai.get h ay
theorem dO.lt{H:U}{bc:Loop}{st:LoopState}{j:Option Code}(h:dO H l bc st j):l<H.size:=km h
theorem mW(H:U)(l:Nat)(bc:Loop)(st:LoopState)(j:Option Code):Fr [l] H (cC H l bc st j):=Pl H l _
theorem vV{H:U}{bc:Loop}{st:LoopState}{j:Option Code}(h:l<H.size):dO (cC H l bc st j) l bc st j:=by
 simp [dO,cC,h]
theorem sY(H:U)(l:Nat)(bc:Loop)(st:LoopState)(j:Option Code):(cC H l bc st j).size=H.size:=by simp [cC]
theorem hT.af{H:U}{T:List Nat}(h:hT H D)(ai:Fr T H H')(ay:D∉T):hT H' D:=ai.get h ay
theorem G9(H:U)(D:Nat):Fr [D] H (ir H D):=Pl H D _
theorem tS.out{H:U}{bc:Loop}(h:tS H D l bc H'):Fr [] H H'/\dO H' l bc .ready none/\hT H' D/\D=H.size/\l=H.size+1/\H'.size=H.size+2:=by
 obtain⟨rfl,rfl,rfl⟩:=h
 refine⟨(Ek _ _).aT (Ek _ _),?_,?_,rfl,rfl,by simp⟩
 ·unfold dO
  rw [show H.size+1=(H.push (.deferred (some []))).size by simp]
  exact Array.getElem?_push_size
 ·simp [hT,Array.getElem?_push]
def zN{α:Type}(P:Program)(enc:α->Value)(seq:Value)(A F:List α->Prop)(Q:List Nat)(G:U->Prop):Prop:=
 ∀(l:Nat) (H:U) (I:List α->List Nat->U->Prop) (K:U->Prop) (S:List Nat),G H->In H S->er S Q->I [] S H→
  (∀ys S H1 ao T,I ys S H1->Fr T H1 ao->er S T->(∀k∈T,H.size<=k)->I ys S ao)→
  (∀ys x S H1,A (ys++[x])->In H1 S->I ys S H1->oR P l [enc x] H1 λv ao=>v=.bool true/\∃S2,I (ys++[x]) S2 ao/\Fr S H1 ao/\Grow H1 S S2/\In ao S2)→
  (∀xs e0 H1,F xs->I xs e0 H1->In H1 e0->Fr S H H1->Grow H S e0->K H1)→
  dY P seq [.func (.yield l) #[] #[]] H λv H'=>v=.tuple ⟨[]⟩/\K H'
structure qY{α:Type}(E:di α)(t base:Nat)(l D b:Nat)(bc:Loop)(cw:U)(ys:List α)(S:List Nat)(H:U):Prop where
 af:Fr [] cw H
 Mn:dO H l bc .ready none
 dq:hT H D
 it:∃a n c,a6 H ⟨b,0,none⟩ [.slice a n c]/\Own E t base H a n c ys/\S=b::l::D::an a/\b∉an a/\l∉an a/\D∉an a
 bd:b≠l
 bD:b≠D
 ah:l≠D
 dH:∀k∈S,cw.size<=k
theorem T4{α:Type}{P:Program}{E:di α}{enc:α->Value}{ts bytes:Nat}{seq:Value}{A F:List α->Prop}{Q:List Nat}{G:U->Prop}{K:Option Addr->Nat->Nat->U->Prop}
  (eo:sliceB P ts t=true) (yi:j8 P t E.sz bytes=true) (oj:nn P ts=false) (dF:hy P ts=1) (CI:(P.info? ts).isSome=true) (Pm:∀x,E.cells x=[enc x]) (aO:zN P enc seq A F Q G)
  (ev:∀ys,A ys->ys.length*bytes<=140737488355328) (cx:∀H',Fr [] cw H'->G H') (bV:∀k∈Q,k<cw.size)
  (hk:∀xs a n c H',F xs->Own E t cw.size H' a n c xs->Fr [] cw H'->K a n c H'):
  ∀(b:Nat) (H':U),dV cw b (.cells ⟨[.slice none 0 0]⟩ ts) H'->∀(D l:Nat) (bc:Loop) (H1:U),tS H' D l bc H1→
   (∀(x:α) (ao:U) (fY:Value->U->Prop),dO ao l bc .ready none→
    (dO ao l bc .ready none/\∃a n c,jS P ts (cC ao l bc .busy none) ⟨b,0,none⟩ (.slice a n c)∧
     ∀(b1:Nat) (H':U),dV (cC ao l bc .busy none) b1 (.cells ⟨[enc x]⟩ t) H'→
      gD P (Builtin.append_ ⟨[ts,ts]⟩ ts ⟨[.slice a n c,.slice (some ⟨b1,0,none⟩) 1 1]⟩) H' λv H'=>∃a n c,v=.slice a n c∧
       ∃aP,oz P ts H' ⟨b,0,none⟩ (.slice a n c) aP/\dO aP l bc .busy none/\fY (.bool true) (cC aP l bc .ready none))→
    oR P l [enc x] ao λa ie=>fY a ie)→
   dY P seq [.func (.yield l) ⟨[]⟩ ⟨[]⟩] H1 λx a8=>
    (dO a8 l bc .ready none/\∃a n c,jS P ts (cC a8 l bc .exhausted none) ⟨b,0,none⟩ (.slice a n c)/\hT (cC a8 l bc .exhausted none) D/\K a n c (ir (cC a8 l bc .exhausted none) D))∨
    dO a8 l bc .done (some .ret)/\hT (cC a8 l bc .exhausted (some .ret)) D/\K none 0 0 (ir (cC a8 l bc .exhausted (some .ret)) D):=by
 intro b H' ay D l bc H1 kq lU
 obtain⟨cv,Dv,zh,ee,aG,gh⟩:=kq.out
 have al:=ay.eq
 have hx:=ay.size
 have YL:Fr [] cw H1:=ay.af.aT cv
 have hblk:a6 H1 ⟨b,0,none⟩ [.slice none 0 0]:=ay.bz.ag cv
 refine dY.mono (aO l H1 (qY E t cw.size l D b bc cw) (λa8=>_) [b,l,D] (cx H1 YL) ?_ ?_ ?_ ?_ ?_ λxs e0 a8 bS dK dT qe ba=> ?_) λv a8 h=>h.2
 ·intro k hk
  simp only [axA,azS,or_false]at hk
  omega
 ·intro k hk Mk
  have:=bV k Mk
  simp only [axA,azS,or_false]at hk
  omega
 ·exact⟨YL,Dv,zh,⟨none,0,0,hblk,Own.nil ..,rfl,by simp [an],by simp [an],by simp [an]⟩,by omega,by omega,by omega,λk hk=>by
   simp only [axA,azS,or_false]at hk
   omega⟩
 ·intro ys S Dw Dx T dK ai aR cd
  obtain⟨h1,ab,ar,⟨a,n,c,gl,aw,bB,cD,cz,ij⟩,ca,b0,cY,eP⟩:=dK
  have m:∀k∈S,k∉T:=aR
  have Pn:b∉T:=m b (by simp [bB])
  have Po:l∉T:=m l (by simp [bB])
  have Pp:D∉T:=m D (by simp [bB])
  refine⟨h1.ag ai λk hk=>by have:=cd k hk;omega,ab.af ai Po,ar.af ai Pp,⟨a,n,c,gl.af ai Pn,aw.af ai λaC e=>m _ (by simp [bB,e,an]),bB,cD,cz,ij⟩,ca,b0,cY,eP⟩
 ·intro ys x S ao as3 dT dK
  obtain⟨h1,ab,ar,⟨a,n,c,gl,aw,bB,cD,cz,ij⟩,ca,b0,cY,eP⟩:=dK
  subst bB
  refine lU x ao _ ab ⟨ab,a,n,c,?_,λb1 aP bw=> ?_⟩
  ·have:=(gl.af (mW ao l bc .busy none) (by simp [ca])).tu (t:=ts) oj rfl
   exact this
  ·have iW:=mW ao l bc .busy none
   have Bo:=sY ao l bc .busy none
   have dk:=aw.af iW (λaC e aq=>cz (by simp only [ayw]at aq;simp [e,an,aq]))
   have o8:cw.size<=aP.size:=by have:=h1.size;have:=bw.size;omega
   have hlen:=ev _ as3
   refine ic eo yi (dk.ag bw.af) (fy E x bw (Pm x).symm) o8 (by rw [aw.1];simpa using hlen) λaV bn bg a8 gg cm ko=> ?_
   have fm:=((gl.af iW (by simp [ca])).ag bw.af).af cm cD
   refine fm.iQ (v:=.slice aV bn bg) dF CI (λx aa=>by simp [azI]at aa;subst aa;rfl) (by simp [azI]) λbA dI cb=> ?_
   have bQ:=ab.lt
   have mC:∀k∈an aV,k∈an a\/ao.size<=k:=λk hk=>(ko k hk).imp id λh=>by have:=bw.size;omega
   have fh:b<ao.size:=dT b (by simp)
   have RF:D<ao.size:=dT D (by simp)
   have pY:b∉an aV:=λhk=>(mC b hk).elim cD λh=>by omega
   have nl:l∉an aV:=λhk=>(mC l hk).elim cz λh=>by omega
   have Fv:D∉an aV:=λhk=>(mC D hk).elim ij λh=>by omega
   have Fw:dO aP l bc .busy none:=(vV bQ).af bw.af (by simp)
   have yA:dO bA l bc .busy none:=(Fw.af cm cz).af cb (by simp;exact λe=>ca e.symm)
   have e1:=mW bA l bc .ready none
   have f25:Fr (b::l::D::an a) ao bA:=by
    have g1:Fr (b::l::D::an a) ao aP:=iW.trans' bw.af (λk hk _=>by simp at hk;simp [hk]) (by simp)
    have g2:Fr (b::l::D::an a) ao a8:=g1.trans' cm (λk hk _=>hk) (λk hk _=>by simp [hk])
    exact g2.trans' cb (λk hk _=>hk) (λk hk _=>by simp at hk;simp [hk])
   have f26:Fr (b::l::D::an a) ao (cC bA l bc .ready none):=f25.trans' e1 (λk hk _=>hk) (λk hk _=>by simp at hk;simp [hk])
   refine⟨yA,rfl,b::l::D::an aV,?_,f26,?_,?_⟩
   ·refine⟨h1.ag f26 eP,vV yA.lt,?_,⟨aV,bn,bg,?_,?_,rfl,pY,nl,Fv⟩,ca,b0,cY,?_⟩
    ·refine((((ar.af iW (by simp;exact λe=>cY e.symm)).af bw.af (by simp)).af cm ij).af cb (by simp;exact λe=>b0 e.symm)).af e1 (by simp;exact λe=>cY e.symm)
    ·have jN:=dI.af e1 (by simp [ca])
     simpa [azI]using jN
    ·refine(gg.af cb λaC e aq=>pY (by simp only [ayw]at aq;simp [e,an,aq])).af e1 λaC e aq=>nl (by simp only [ayw]at aq;simp [e,an,aq])
    ·intro k hk
     simp only [axA]at hk
     rcases hk with rfl|rfl|rfl|hk
     ·exact eP _ (by simp)
     ·exact eP _ (by simp)
     ·exact eP _ (by simp)
     ·exact(gg.ge k hk).1
   ·intro k hk
    simp only [axA]at hk
    rcases hk with rfl|rfl|rfl|hk
    ·exact .inl (by simp)
    ·exact .inl (by simp)
    ·exact .inl (by simp)
    ·exact(mC k hk).imp (λh=>by simp [h]) id
   ·intro k hk
    have sW:=sY bA l bc .ready none
    have kg:=f25.size
    have as4:=cb.size
    simp only [axA]at hk
    rcases hk with rfl|rfl|rfl|hk
    ·omega
    ·omega
    ·omega
    ·have:=(gg.ge k hk).2;omega
 ·obtain⟨h1,ab,ar,⟨a,n,c,gl,aw,bB,cD,cz,ij⟩,ca,b0,cY,eP⟩:=dK
  subst bB
  have e1:=mW a8 l bc .exhausted none
  have sZ:=G9 (cC a8 l bc .exhausted none) D
  refine .inl ⟨ab,a,n,c,(gl.af e1 (by simp [ca])).tu oj rfl,ar.af e1 (by simp;exact λe=>cY e.symm),hk xs a n c _ bS ?_ ?_⟩
  ·exact(aw.af e1 λaC e aq=>cz (by simp only [ayw]at aq;simp [e,an,aq])).af sZ λaC e aq=>ij (by simp only [ayw]at aq;simp [e,an,aq])
  ·refine(h1.ag e1 λk hk=> ?_).ag sZ λk hk=> ?_
   ·simp at hk;subst hk;exact eP _ (by simp)
   ·simp at hk;subst hk;exact eP _ (by simp)
theorem qY.stay{α:Type}{E:di α}{base b:Nat}{bc:Loop}{Dw Dx:U}{ys:List α}{S T:List Nat}(dK:qY E t base l D b bc cw ys S Dw)(ai:Fr T Dw Dx)(aR:er S T)(cd:∀k∈T,cw.size<=k):qY E t base l D b bc cw ys S Dx:=by
 obtain⟨h1,ab,ar,⟨a,n,c,gl,aw,bB,cD,cz,ij⟩,ca,b0,cY,eP⟩:=dK
 have m:∀k∈S,k∉T:=aR
 have Pn:b∉T:=m b (by simp [bB])
 have Po:l∉T:=m l (by simp [bB])
 have Pp:D∉T:=m D (by simp [bB])
 exact⟨h1.ag ai cd,ab.af ai Po,ar.af ai Pp,⟨a,n,c,gl.af ai Pn,aw.af ai λaC e=>m _ (by simp [bB,e,an]),bB,cD,cz,ij⟩,ca,b0,cY,eP⟩
theorem qY.start{α:Type}{E:di α}{b:Nat}{bc:Loop}{H1:U}(vy:Fr [] cw H')(al:a6 H' ⟨b,0,none⟩ [.slice none 0 0])(nU:cw.size<=b)(kq:tS H' D l bc H1):qY E t cw.size l D b bc cw ([]:List α) [b,l,D] H1/\In H1 [b,l,D]:=by
 obtain⟨cv,Dv,zh,ee,aG,gh⟩:=kq.out
 have bQ:=al.lt
 have hx:=vy.size
 refine⟨⟨vy.aT cv,Dv,zh,⟨none,0,0,al.ag cv,Own.nil ..,rfl,by simp [an],by simp [an],by simp [an]⟩,by simp at bQ;omega,by simp at bQ;omega,by omega,λk hk=> ?_⟩,λk hk=> ?_⟩
 ·simp only [axA,azS,or_false]at hk
  omega
 ·simp only [axA,azS,or_false]at hk
  simp at bQ
  omega
theorem qY.more{α:Type}{P:Program}{E:di α}{ae:List Value}{ts bytes b:Nat}{bc:Loop}{ao hG:U}{ys:List α}{x:α}{S:List Nat}{a:Option Addr}{n c:Nat}{K:U->Prop}
  (eo:sliceB P ts t=true) (yi:j8 P t E.sz bytes=true) (dF:hy P ts=1) (CI:(P.info? ts).isSome=true) (Pm:E.cells x=ae)
  (dK:qY E t cw.size l D b bc cw ys S ao) (dT:In ao S) (gl:a6 ao ⟨b,0,none⟩ [.slice a n c]) (aw:Own E t cw.size ao a n c ys) (bB:S=b::l::D::an a) (cD:b∉an a) (cz:l∉an a) (ij:D∉an a) (hlen:(ys.length+1)*bytes<=140737488355328)
  (aa:Fr [] (cC ao l bc .busy none) hG)
  (hk:∀bA S2,dO bA l bc .busy none->qY E t cw.size l D b bc cw (ys++[x]) S2 (cC bA l bc .ready none)->Fr S ao (cC bA l bc .ready none)->Grow ao S S2->In (cC bA l bc .ready none) S2->K bA):
  ∀b1 aP,dV hG b1 (.cells ⟨ae⟩ t) aP->gD P (Builtin.append_ ⟨[ts,ts]⟩ ts ⟨[.slice a n c,.slice (some ⟨b1,0,none⟩) 1 1]⟩) aP λv H'=>∃a n c,v=.slice a n c/\∃bA,oz P ts H' ⟨b,0,none⟩ (.slice a n c) bA/\K bA:=by
 intro b1 aP bw
 obtain⟨h1,ab,ar,_,ca,b0,cY,eP⟩:=dK
 subst bB
 have iW:=mW ao l bc .busy none
 have Bo:=sY ao l bc .busy none
 have Ax:Fr [] (cC ao l bc .busy none) aP:=aa.aT bw.af
 have dk:=aw.af iW (λaC e aq=>cz (by simp only [ayw]at aq;simp [e,an,aq]))
 have o8:cw.size<=aP.size:=by have:=h1.size;have:=Ax.size;omega
 refine ic eo yi (dk.ag Ax) (fy E x bw Pm.symm) o8 (by rw [aw.1];exact hlen) λaV bn bg a8 gg cm ko=> ?_
 have fm:=((gl.af iW (by simp [ca])).ag Ax).af cm cD
 refine fm.iQ (v:=.slice aV bn bg) dF CI (λx aa=>by simp [azI]at aa;subst aa;rfl) (by simp [azI]) λbA dI cb=> ?_
 have bQ:=ab.lt
 have qA:=Ax.size
 have mC:∀k∈an aV,k∈an a\/ao.size<=k:=λk hk=>(ko k hk).imp id λh=>by omega
 have fh:b<ao.size:=dT b (by simp)
 have RF:D<ao.size:=dT D (by simp)
 have pY:b∉an aV:=λhk=>(mC b hk).elim cD λh=>by omega
 have nl:l∉an aV:=λhk=>(mC l hk).elim cz λh=>by omega
 have Fv:D∉an aV:=λhk=>(mC D hk).elim ij λh=>by omega
 have Fw:dO aP l bc .busy none:=(vV bQ).af Ax (by simp)
 have yA:dO bA l bc .busy none:=(Fw.af cm cz).af cb (by simp;exact λe=>ca e.symm)
 have e1:=mW bA l bc .ready none
 have f25:Fr (b::l::D::an a) ao bA:=by
  have g1:Fr (b::l::D::an a) ao aP:=iW.trans' Ax (λk hk _=>by simp at hk;simp [hk]) (by simp)
  have g2:Fr (b::l::D::an a) ao a8:=g1.trans' cm (λk hk _=>hk) (λk hk _=>by simp [hk])
  exact g2.trans' cb (λk hk _=>hk) (λk hk _=>by simp at hk;simp [hk])
 have f26:Fr (b::l::D::an a) ao (cC bA l bc .ready none):=f25.trans' e1 (λk hk _=>hk) (λk hk _=>by simp at hk;simp [hk])
 refine hk bA (b::l::D::an aV) yA ?_ f26 ?_ ?_
 ·refine⟨h1.ag f26 eP,vV yA.lt,?_,⟨aV,bn,bg,?_,?_,rfl,pY,nl,Fv⟩,ca,b0,cY,?_⟩
  ·refine((((ar.af iW (by simp;exact λe=>cY e.symm)).af Ax (by simp)).af cm ij).af cb (by simp;exact λe=>b0 e.symm)).af e1 (by simp;exact λe=>cY e.symm)
  ·have jN:=dI.af e1 (by simp [ca])
   simpa [azI]using jN
  ·refine(gg.af cb λaC e aq=>pY (by simp only [ayw]at aq;simp [e,an,aq])).af e1 λaC e aq=>nl (by simp only [ayw]at aq;simp [e,an,aq])
  ·intro k hk
   simp only [axA]at hk
   rcases hk with rfl|rfl|rfl|hk
   ·exact eP _ (by simp)
   ·exact eP _ (by simp)
   ·exact eP _ (by simp)
   ·exact(gg.ge k hk).1
 ·intro k hk
  simp only [axA]at hk
  rcases hk with rfl|rfl|rfl|hk
  ·exact .inl (by simp)
  ·exact .inl (by simp)
  ·exact .inl (by simp)
  ·exact(mC k hk).imp (λh=>by simp [h]) id
 ·intro k hk
  have sW:=sY bA l bc .ready none
  have kg:=f25.size
  have as4:=cb.size
  simp only [axA]at hk
  rcases hk with rfl|rfl|rfl|hk
  ·omega
  ·omega
  ·omega
  ·have:=(gg.ge k hk).2;omega
theorem qY.done{α:Type}{P:Program}{E:di α}{ts b:Nat}{bc:Loop}{a8:U}{ys:List α}{S:List Nat}{K:Option Addr->Nat->Nat->U->Prop}(oj:nn P ts=false)(dK:qY E t cw.size l D b bc cw ys S a8)
  (hk:∀a n c H',Own E t cw.size H' a n c ys->Fr [] cw H'->Fr S a8 H'->K a n c H'):
  dO a8 l bc .ready none/\∃a n c,jS P ts (cC a8 l bc .exhausted none) ⟨b,0,none⟩ (.slice a n c)/\hT (cC a8 l bc .exhausted none) D/\K a n c (ir (cC a8 l bc .exhausted none) D):=by
 obtain⟨h1,ab,ar,⟨a,n,c,gl,aw,bB,cD,cz,ij⟩,ca,b0,cY,eP⟩:=dK
 subst bB
 have e1:=mW a8 l bc .exhausted none
 have sZ:=G9 (cC a8 l bc .exhausted none) D
 refine⟨ab,a,n,c,(gl.af e1 (by simp [ca])).tu oj rfl,ar.af e1 (by simp;exact λe=>cY e.symm),hk a n c _ ?_ ?_ ?_⟩
 ·exact(aw.af e1 λaC e aq=>cz (by simp only [ayw]at aq;simp [e,an,aq])).af sZ λaC e aq=>ij (by simp only [ayw]at aq;simp [e,an,aq])
 ·refine(h1.ag e1 λk hk=> ?_).ag sZ λk hk=> ?_
  ·simp at hk;subst hk;exact eP _ (by simp)
  ·simp at hk;subst hk;exact eP _ (by simp)
 ·exact e1.trans' sZ (λk hk _=>by simp at hk;simp [hk]) (λk hk _=>by simp at hk;simp [hk])
end Go.bk
section
open Go.Proofs Go.Shelf
namespace Go.bk
theorem YQ(xs:List ByteArray):xs.flatMap bk.kt.cells=(xs.map bd).map Go.Proofs.encStr:=by
 induction xs with
 |nil=>rfl
 |cons x l ih=>
  rw [axO,ih,axE,axE]
  have:Go.Proofs.encStr (bd x)=.string x:=by
   show az4 ⟨(bd x).toArray⟩=_
   congr 1
  rw [this];rfl
theorem YR(ys:List (List UInt8)):(ys.map λl=>(⟨l.toArray⟩:ByteArray)).map bd=ys:=by
 rw [az7]
 conv=>rhs;rw [<-List.map_id ys]
 apply List.map_congr_left
 intro l _
 simp [bd]
theorem agf{P:Program}{l6:Ren}(L:SlLaysM.n6 P l6){k:FuncId}(tP:l6.f 6=k){t:TypeId}{base:Nat}{H:U}{a:Option Addr}{n c:Nat}{xs:List ByteArray}{K:U->Prop}(aw:Own bk.kt t base H a n c xs)(ay:n<4611686018427387904)
  (hk:∀H' ys,Own bk.kt t base H' a n c ys->ys.map bd=(xs.map bd).mergeSort (λx y=>decide (x<=y))->Fr (an a) H H'->K H'):
  fo P k ⟨[.slice a n c]⟩ H λv H'=>v=.tuple ⟨[]⟩/\K H':=by
 subst tP
 intro E d
 have aG:=aw.1
 obtain⟨_,⟨rfl,aF,y9⟩|⟨b,cur,rfl,al,aq,av,hm,hs,aW⟩⟩:=id aw
 ·have:=AnyM.slices_Sort_string_none L none c (bf E H d)
  rw [aF]
  refine this.mono ?_
  rintro e w' ⟨rfl,rfl⟩
  have aa:xs=[]:=ayT (by omega)
  subst aa
  exact⟨_,H,d,rfl,rfl,rfl,hk H [] aw (by simp) (Fr.refl _ _)⟩
 ·rw [YQ]at aW
  have ff:(bf E H d).heap[b]?=some (.cells cur t (0,0)):=aq
  have dF:bk.kt.sz=1:=rfl
  rw [dF,azZ]at aW hs
  rw [aG,<-azU (f:=bd)]at aW
  have hH:Go.Sort.Holds Go.Proofs.encStr (bf E H d) b 0 (xs.map bd).toArray:=holds_of_block ff aW
  have:=AnyM.slices_Sort_string L b 0 c (xs.map bd) (bf E H d) hH (km aq) (by rw [azU];omega)
  rw [azU,<-aG]at this
  refine this.mono ?_
  rintro e w' ⟨rfl,m,os,rfl⟩
  have F5:=az8 (xs.map bd) (λx y=>decide (x<=y))
  have hlen:((xs.map bd).mergeSort λx y=>decide (x<=y)).length=xs.length:=by rw [F5.length_eq,azU]
  generalize ba:((xs.map bd).mergeSort λx y=>decide (x<=y))=ys at hk hlen
  refine⟨_,(Go.Sort.grow (Go.Sort.putRow Go.Proofs.encStr (Go.Sort.ahead (bf E H d) m) b 0 ys.toArray) os).heap,⟨d.1+m,ax4 d.2 (az9 _ _)⟩,rfl,rfl,rfl,hk _ (ys.map λl=>⟨l.toArray⟩) ?_ (YR ys) ?_⟩
  ·refine⟨by rw [azU];omega,.inr ⟨b,_,rfl,al,heap_sorted _ ff,by omega,hm,by simp [Go.Sort.putCells,hs,dF],?_⟩⟩
   rw [YQ,YR,dF,azZ,aG,<-hlen]
   exact take_putCells cur ys (by omega)
  ·have F6:=grownBy_sorted (w:=bf E H d) (g:=b) (n:=m) (os:=os) ys.toArray
   exact⟨F6.size,λk hk ay=>F6.block k hk (by simp [an]at ay;simpa using ay)⟩
end Go.bk
end
namespace Go.Proofs.aZ
noncomputable abbrev du:nf azB 3 Int:=TS Tryz.underlying3
theorem afP:zeroOf azB 112=some (.slice none 0 0):=by kernel_rfl
theorem TT:sliceB azB 112 9=true:=by kernel_rfl
theorem zC:j8 azB 3 1 8=true:=by kernel_rfl
theorem L6:sliceB azB 117 3=true:=by kernel_rfl
theorem afQ(aC:Addr)(i j:Nat)(h:aC.off=0)(aH:aC=⟨aC.block,0,none⟩):(aC.add i).add j=aC.add (i+j):=by
 rw [aH];simp [lg]
variable{H:U}{d:Addr}{S:List Nat}{r ck N:Nat}
theorem a6.afR{a:Addr}{ae:List Value}(h:a6 H a ae):a=⟨a.block,0,none⟩:=by
 obtain⟨b,dJ,rfl,_⟩:=h;rfl
theorem a6.set{P:Program}{t:TypeId}{a:Addr}{ae:List Value}{j:Nat}{v:Value}{X:U->Prop}(h:a6 H a ae)(hs:hy P t=1)(az:(P.info? t).isSome=true)(aI:v.cells= #[v])(h1:v.oneCell'=true)(bq:j<ae.length)
  (k:∀H',a6 H' a (ae.set j v)->Fr [a.block] H H'->X H'):∃H',oz P t H (a.add j) v H'/\X H':=by
 have av:v.cells.toList=[v]:=by rw [aI]
 refine h.st (by rw [hs,aI];rfl) az (by rw [av];simpa using h1) (by rw [aI];simp;omega) λH' al ai=>k H' ?_ ai
 rw [av]at al
 have e:ae.take j++[v]++ae.drop (j+[v].length)=ae.set j v:=by
  rw [List.set_eq_take_append_cons_drop,if_pos bq];simp
 rwa [e]at al
structure eX where
 size:Int
 is:Nat->ByteArray
 wait:Int->List ByteArray
 off:Bool
 left:Int
 ag:Int
 calls:Int
def TU(m:eX)(r:Nat):List Value:=[.map (some r),.bool m.off,.int .i64 m.left,.int .u64 m.ag,.int .i64 m.calls]
def Eh(f:Nat->ByteArray)(n:Nat):List Value:=(ayD n).map λi=>az4 (f i)
theorem L7(f:Nat->ByteArray)(n:Nat):(Eh f n).length=n:=by simp [Eh]
theorem afS(f:Nat->ByteArray){n i:Nat}(h:i<n):(Eh f n)[i]?=some (.string (f i)):=by simp [Eh,h]
def BO(m:eX)(r:Nat):List Value:=.int .i64 m.size::(Eh m.is 512++TU m r)
theorem TV(m:eX)(r t:Nat):(BO m r)[513+t]?=(TU m r)[t]?:=by
 rw [BO,show 513+t=(512+t)+1 by omega,ayu,aze (by rw [L7];omega),L7,Nat.add_sub_cancel_left]
theorem afT(m:eX)(r:Nat){i:Nat}(h:i<512):(BO m r)[1+i]?=some (.string (m.is i)):=by
 rw [BO,Nat.add_comm,ayu,azd (by rw [L7];exact h),afS _ h]
def TW:Value->List Nat
 | .slice a _ _=>an a
 |_=>[]
structure rX(H:U)(d:Addr)(r ck:Nat)(L:List (cR Int))(S:List Nat)(m:eX):Prop where
 bz:a6 H d (BO m r)
 map:dN du H r ck L
 ne:d.block≠r
 ents:∀x∈L,∃a n c,x.2.1=.slice a n c/\Own bk.kt 9 0 H a n c (m.wait x.1)/\(∀k∈an a,k∈S/\k≠d.block/\k≠r)
 apart:∀x∈L,∀y∈L,x.1≠y.1->er (TW x.2.1) (TW y.2.1)
 afU:∀x∈L,m.wait x.1≠[]/\0<=x.1/\x.1<m.size
 rest:∀k,dm k L=none->m.wait k=[]
 size:8<=m.size/\m.size<=512
 L8:d.block∈S/\r∈S
structure oI(H:U)(d:Addr)(S:List Nat)(m:eX)(N:Nat):Prop where
 it:∃r ck L,rX H d r ck L S m
 left:0<=m.left/\m.left<=9223372036854775807
 calls:0<=m.calls/\m.calls<=N
 wlen:∀k,(m.wait k).length<=N
 po:In H S
theorem rX.af{H':U}{L:List (cR Int)}{T:List Nat}{m:eX}(h:rX H d r ck L S m)(ai:Fr T H H')(ay:er S T):rX H' d r ck L S m:=by
 refine⟨h.bz.af ai (ay _ h.L8.1),h.map.af du ai (ay _ h.L8.2),h.ne,λx aa=> ?_,h.apart,h.afU,h.rest,h.size,h.L8⟩
 obtain⟨a,n,c,e,aw,hk⟩:=h.ents x aa
 exact⟨a,n,c,e,aw.af ai (λaC b4=>ay _ (hk aC.block (by simp [an,b4])).1),hk⟩
theorem oI.af{H':U}{T:List Nat}{m:eX}(h:oI H d S m N)(ai:Fr T H H')(ay:er S T):oI H' d S m N:=by
 obtain⟨r,ck,L,aR⟩:=h.it
 exact⟨⟨r,ck,L,aR.af ai ay⟩,h.left,h.calls,h.wlen,h.po.le ai.size⟩
theorem oI.ag{H':U}{m:eX}(h:oI H d S m N)(ai:Fr [] H H'):oI H' d S m N:=h.af ai (λ_ _=>by simp)
theorem rX.afV{L:List (cR Int)}{m:eX}(h:rX H d r ck L S m):ah 87 H (d.add 513) (.map (some r)):=h.bz.ld (by kernel_rfl) (TV m r 0)
theorem rX.TX{L:List (cR Int)}{m:eX}(h:rX H d r ck L S m):ah 4 H (d.add 514) (.bool m.off):=h.bz.ld (by kernel_rfl) (TV m r 1)
theorem rX.TY{L:List (cR Int)}{m:eX}(h:rX H d r ck L S m):ah 3 H d (.int .i64 m.size):=h.bz.bY rfl
theorem afW{m:eX}{K:Bool->U->Prop}(h:oI H d S m N)(hk:K m.off H):eu afX [ax (some d)] H K:=by
 apply afY
 obtain⟨r,ck,L,aR⟩:=h.it
 exact⟨_,aR.TX,_,rfl,hk⟩
theorem TZ{m:eX}{K:Int->U->Prop}(h:oI H d S m N)(hk:K m.size H):cG afZ [ax (some d)] H K:=by
 apply af0
 obtain⟨r,ck,L,aR⟩:=h.it
 exact⟨_,aR.TY,_,rfl,hk⟩
theorem rX.look{L:List (cR Int)}{m:eX}(h:rX H d r ck L S m)(k:Int):
  ∃a n c,Rd azB (Instr.lookup 87 (.map (some r)) (.int .i64 k) false) H (.slice a n c)/\Own bk.kt 9 0 H a n c (m.wait k)/\(∀b∈an a,b∈S/\b≠d.block/\b≠r)/\(dm k L=some (.slice a n c)\/(dm k L=none/\a=none))/\(dm k L).getD (.slice none 0 0)=.slice a n c:=by
 have aG:=sQ du (mt:=87) (e:=112) Tryz.underlying87 afP h.map k
 cases ba:dm k L with
 |none=>
  rw [ba]at aG
  refine⟨none,0,0,aG,?_,λ_ h=>(by cases h),.inr ⟨rfl,rfl⟩,rfl⟩
  rw [h.rest k ba]
  exact Own.nil _ _ _ _
 |some v=>
  rw [ba]at aG
  obtain⟨b,al⟩:=Bn ba
  obtain⟨a,n,c,e,aw,hk⟩:=h.ents _ al
  have e:v=.slice a n c:=e
  subst e
  exact⟨a,n,c,aG,aw,hk,.inl rfl,rfl⟩
def zM(m:eX)(i:Int):ByteArray×Int:=
 if m.off then(⟨#[]⟩,90)else if i<0\/m.size<=i then(⟨#[]⟩,91)else(((m.wait i).getLast?).getD (m.is i.toNat),0)
theorem af1{m:eX}{i:Int}{K:ByteArray->Int->U->Prop}(h:oI H d S m N)(fl:N<=1000000)(hk:K (zM m i).1 (zM m i).2 H):
  aK af2 [ax (some d),o i] H λv H'=>∃s n,v=.tuple ⟨[.string s,.int .i64 n]⟩/\K s n H':=by
 apply af3
 obtain⟨r,ck,L,aR⟩:=h.it
 unfold zM at hk
 refine⟨λ_ H'=>H'=H/\m.off=false/\0<=i/\i<m.size,⟨_,aR.TX,au (λaF=>⟨_,_,rfl,?_⟩) (λaF=>au (λh1=>⟨_,_,rfl,?_⟩) (λh1=>⟨_,aR.TY,au (λab=>⟨_,_,rfl,?_⟩) (λab=> ?_)⟩))⟩,?_⟩
 ·rw [if_pos aF]at hk;exact hk
 ·rw [if_neg (by simp [aF]),if_pos (.inl (by simpa using h1))]at hk;exact hk
 ·rw [if_neg (by simp [aF]),if_pos (.inr (by simpa using ab))]at hk;exact hk
 ·exact⟨rfl,aF,by simpa using h1,by simpa using ab⟩
 ·rintro br H' ⟨rfl,aF,h1,ab⟩
  rw [if_neg (by simp [aF]),if_neg (by omega)]at hk
  have dF:=aR.size
  obtain⟨a,n,c,aG,aw,_,_,_⟩:=aR.look i
  have ay:=aw.1
  have hw:=h.wlen i
  refine⟨_,aR.afV,a,n,c,aG,au (λar=> ?_) (λar=> ?_)⟩
  ·have pb:0<n:=by simpa using ar
   rw [uQ (by omega) pb]
   have aa:(m.wait i)[n-1]?=some ((m.wait i)[n-1]'(by omega)):=by simp
   refine aw.bT.get rfl aa (bh (by omega)) λaC b4 av=>⟨_,jb av,_,_,rfl,?_⟩
   rw [List.getLast?_eq_getElem?,<-ay,aa]at hk
   exact hk
  ·refine gK ⟨by omega,by omega⟩ ?_
   have tq:m.wait i=[]:=ayT (by simp at ar;omega)
   rw [tq]at hk
   have fh:=a6.afR aR.bz
   rw [afQ d 1 _ (by rw [fh]) fh]
   refine⟨_,aR.bz.ld (by kernel_rfl) (afT m r (i:=i.toNat *1) (by omega)),_,_,rfl,?_⟩
   rw [azZ]
   exact hk
structure af4:Prop where
 bT:sliceB azB 168 5=true
 str:ya azB 9=true
theorem dt:af4:=⟨by kernel_rfl,by kernel_rfl⟩
end Go.Proofs.aZ
namespace Go.Proofs
open Go.Shelf
def Tryz.as5:Go.Shelf.Ren:=⟨fun|6=>373|8=>148|9=>386|19=>221|20=>222|21=>391|22=>392|23=>393|24=>394|25=>395|26=>396|27=>397|28=>398|29=>399|36=>400|31=>286|32=>287|37=>401|38=>402|39=>403|41=>404|n=>n,fun|27=>112|29=>9|3=>3|32=>213|26=>112|0=>0|44=>326|46=>89|4=>4|36=>320|35=>319|41=>99|5=>5|9=>9|53=>376|57=>380|63=>428|64=>429|n=>n,fun|n=>n⟩
theorem Tryz.agh:Go.Proofs.SlLaysM.n6 azB Tryz.as5:=by
 constructor
 case f6=>exact⟨Tryz.f373.name,by decide,Tryz.func373.trans (congrArg some (by kernel_rfl))⟩
 case f9=>exact⟨Tryz.f386.name,by decide,Tryz.func386.trans (congrArg some (by kernel_rfl))⟩
 case f21=>exact⟨Tryz.f391.name,by decide,Tryz.func391.trans (congrArg some (by kernel_rfl))⟩
 case f22=>exact⟨Tryz.f392.name,by decide,Tryz.func392.trans (congrArg some (by kernel_rfl))⟩
 case f23=>exact⟨Tryz.f393.name,by decide,Tryz.func393.trans (congrArg some (by kernel_rfl))⟩
 case f24=>exact⟨Tryz.f394.name,by decide,Tryz.func394.trans (congrArg some (by kernel_rfl))⟩
 case f25=>exact⟨Tryz.f395.name,by decide,Tryz.func395.trans (congrArg some (by kernel_rfl))⟩
 case f26=>exact⟨Tryz.f396.name,by decide,Tryz.func396.trans (congrArg some (by kernel_rfl))⟩
 case f27=>exact⟨Tryz.f397.name,by decide,Tryz.func397.trans (congrArg some (by kernel_rfl))⟩
 case f28=>exact⟨Tryz.f398.name,by decide,Tryz.func398.trans (congrArg some (by kernel_rfl))⟩
 case f29=>exact⟨Tryz.f399.name,by decide,Tryz.func399.trans (congrArg some (by kernel_rfl))⟩
 case f36=>exact⟨Tryz.f400.name,by decide,Tryz.func400.trans (congrArg some (by kernel_rfl))⟩
 case f37=>exact⟨Tryz.f401.name,by decide,Tryz.func401.trans (congrArg some (by kernel_rfl))⟩
 case f38=>exact⟨Tryz.f402.name,by decide,Tryz.func402.trans (congrArg some (by kernel_rfl))⟩
 case f39=>exact⟨Tryz.f403.name,by decide,Tryz.func403.trans (congrArg some (by kernel_rfl))⟩
 case f41=>exact⟨Tryz.f404.name,by decide,Tryz.func404.trans (congrArg some (by kernel_rfl))⟩
 repeat' first|kernel_rfl|(intro w;kernel_rfl)|constructor
def Tryz.as6:Go.Shelf.Ren:=⟨fun|5=>73|8=>148|7=>147|19=>221|20=>222|10=>212|11=>213|12=>214|13=>215|14=>216|15=>217|16=>218|17=>219|18=>220|30=>285|31=>286|32=>287|33=>288|34=>289|35=>198|40=>333|n=>n,fun|23=>117|25=>3|3=>3|32=>213|22=>117|0=>0|44=>326|46=>89|4=>4|36=>320|35=>319|41=>99|5=>5|9=>9|53=>376|57=>380|63=>428|64=>429|n=>n,fun|n=>n⟩
theorem Tryz.aa8:Go.Proofs.SlLaysM.n5 azB Tryz.as6:=by
 constructor
 case f5=>exact⟨Tryz.f73.name,by decide,Tryz.func73.trans (congrArg some (by kernel_rfl))⟩
 case f7=>exact⟨Tryz.f147.name,by decide,Tryz.func147.trans (congrArg some (by kernel_rfl))⟩
 case f10=>exact⟨Tryz.f212.name,by decide,Tryz.func212.trans (congrArg some (by kernel_rfl))⟩
 case f11=>exact⟨Tryz.f213.name,by decide,Tryz.func213.trans (congrArg some (by kernel_rfl))⟩
 case f12=>exact⟨Tryz.f214.name,by decide,Tryz.func214.trans (congrArg some (by kernel_rfl))⟩
 case f13=>exact⟨Tryz.f215.name,by decide,Tryz.func215.trans (congrArg some (by kernel_rfl))⟩
 case f14=>exact⟨Tryz.f216.name,by decide,Tryz.func216.trans (congrArg some (by kernel_rfl))⟩
 case f15=>exact⟨Tryz.f217.name,by decide,Tryz.func217.trans (congrArg some (by kernel_rfl))⟩
 case f16=>exact⟨Tryz.f218.name,by decide,Tryz.func218.trans (congrArg some (by kernel_rfl))⟩
 case f17=>exact⟨Tryz.f219.name,by decide,Tryz.func219.trans (congrArg some (by kernel_rfl))⟩
 case f18=>exact⟨Tryz.f220.name,by decide,Tryz.func220.trans (congrArg some (by kernel_rfl))⟩
 case f30=>exact⟨Tryz.f285.name,by decide,Tryz.func285.trans (congrArg some (by kernel_rfl))⟩
 case f33=>exact⟨Tryz.f288.name,by decide,Tryz.func288.trans (congrArg some (by kernel_rfl))⟩
 case f34=>exact⟨Tryz.f289.name,by decide,Tryz.func289.trans (congrArg some (by kernel_rfl))⟩
 case f35=>exact⟨Tryz.f198.name,by decide,Tryz.func198.trans (congrArg some (by kernel_rfl))⟩
 case f40=>exact⟨Tryz.f333.name,by decide,Tryz.func333.trans (congrArg some (by kernel_rfl))⟩
 repeat' first|kernel_rfl|(intro w;kernel_rfl)|constructor
end Go.Proofs
namespace Go.Proofs.aZ
noncomputable abbrev ej:nf azB 9 ByteArray:=Tn aAi
def T0(L:List (cR ByteArray))(ys:List ByteArray):Prop:=ys.Nodup/\∀y∈ys,∃x∈L,x.1=y
def T1(L:List (cR ByteArray))(ys:List ByteArray):Prop:=ys.Nodup/\∀y,y∈ys↔∃x∈L,x.1=y
variable{H H':U}{r:Nat}
theorem af5{b ck:Nat}{L:List (cR ByteArray)}:zN azB (λs=>.string s) (.func (.func 374) ⟨[]⟩ ⟨[.pointer (some ⟨b,0,none⟩)]⟩) (T0 L) (T1 L) [b,r]
  (λH=>a6 H ⟨b,0,none⟩ [.map (some r)]/\dN ej H r ck L):=by
 intro l H I K S cx dT aR aF uR step fin
 obtain⟨al,hm⟩:=cx
 refine⟨374,⟨[]⟩,_,rfl,by kernel_rfl,?_⟩
 apply af6
 have af7:b∉S:=λh=>aR b h (by simp)
 have C4:r∉S:=λh=>aR r h (by simp)
 refine⟨some r,al.bY rfl,CV ej (mt:=125) (e:=9) azW hm λit H1 bb=> ?_⟩
 have hit:=bb.eq
 have gh:=bb.size
 refine⟨λ_ ao=>∃(ys:List ByteArray) (seen:Array Nat) (S2:List Nat),I ys S2 ao/\ys.Nodup/\(∀k,k∈ys↔∃x∈L,x.1=k/\x.2.2∈seen)/\ao[it]?=some (.mapIter (some r) ck seen ck)/\it∉S2/\Fr S H ao/\Grow H S S2/\In ao S2,
  λ_ ao=>pR ao r it,⟨[], #[],S,uR _ _ _ _ [] aF bb.af (λ_ _=>by simp) (by simp),by simp,by simp,bb.get,λh=>by have:=dT it h;omega,bb.af.mono (by simp),Grow.refl _ _,dT.le bb.af.size⟩,?_⟩
 rintro br ao ⟨ys,seen,S2,dK,iA,kl,T2,L9,bG,ln,pq⟩
 have rY:=hm.af ej bG C4
 have cO:=al.af bG af7
 refine CX ej rY T2 (λfe=>⟨rfl,?_⟩) λx aa gY aP hi3 bP=> ?_
 ·refine fin ys S2 ao ⟨iA,λy=> ?_⟩ dK pq bG ln
  rw [kl]
  exact⟨fun⟨x,aa,e,_⟩=>⟨x,aa,e⟩,fun⟨x,aa,e⟩=>⟨x,aa,e,fe x aa⟩⟩
 ·have af8:r≠it:=λe=>by have:=hm.lt;omega
  have rG:=rY.af ej bP (by simp;exact af8)
  have wq:=uR ys S2 ao aP [it] dK bP (λk hk=>by simp;exact λe=>L9 (e▸hk)) (λk hk=>by simp at hk;omega)
  have wu:In aP S2:=pq.le bP.size
  refine Gy ej rG hi3 aa rfl ⟨x.1,rfl,.inr ⟨l,rfl,(step ys x.1 S2 aP ?_ wu wq).mono λv a8=> ?_⟩⟩
  ·constructor
   ·rw [azk]
    refine⟨iA,by simp,λa bW iR ff=> ?_⟩
    simp only [ayw]at ff
    subst ff
    intro e
    subst e
    obtain⟨z,aE,e,hs⟩:=(kl _).1 bW
    have:=Ei hm.wf aE aa e
    subst this
    exact gY hs
   ·intro y aA
    rcases azb.1 aA with aA|aA
    ·obtain⟨z,aE,e,_⟩:=(kl y).1 aA;exact⟨z,aE,e⟩
    ·simp only [ayw]at aA;exact⟨x,aa,aA.symm⟩
  ·rintro⟨rfl,yb,af9,cm,ko,af'⟩
   have avF:it<aP.size:=km hi3
   have Ej:a8[it]?=some (.mapIter (some r) ck (seen.push x.2.2) ck):=cm.get hi3 L9
   have oJ:Fr S H aP:=bG.trans' bP (λk hk _=>hk) (λk hk bQ=>by simp at hk;omega)
   have T3:Fr S H a8:=oJ.trans' cm (λk hk _=>hk) (λk hk bQ=>by
    rcases ln k hk with h|h
    ·exact h
    ·omega)
   have ub:=hm.af ej T3 C4
   refine⟨true,rfl,au (λh=>by simp at h) λ_=>⟨⟨ys++[x.1],seen.push x.2.2,yb,af9,?_,?_,Ej,?_,T3,?_,af'⟩,?_⟩⟩
   ·rw [azk]
    refine⟨iA,by simp,λa bW iR ff=> ?_⟩
    simp only [ayw]at ff
    subst ff
    intro e
    subst e
    obtain⟨z,aE,e,hs⟩:=(kl _).1 bW
    have:=Ei hm.wf aE aa e
    subst this
    exact gY hs
   ·intro k
    rw [azb,kl]
    constructor
    ·rintro(⟨z,aE,e,hs⟩|h)
     ·exact⟨z,aE,e,by simp [hs]⟩
     ·simp only [ayw]at h;exact⟨x,aa,h.symm,by simp⟩
    ·rintro⟨z,aE,e,hs⟩
     simp only [aAj]at hs
     rcases hs with hs|hs
     ·exact .inl ⟨z,aE,e,hs⟩
     ·right
      have:=Ma hm.wf aE aa hs
      subst this
      simp [e]
   ·intro h
    rcases ko it h with h|h
    ·exact L9 h
    ·omega
   ·exact ln.trans (by have:=bG.size;exact this) (λk hk=>(ko k hk).imp id λh=>by have:=bP.size;omega)
   ·show pR a8 r it<pR ao r it
    rw [xg ej rY T2,xg ej ub Ej]
    exact Gz (ayf.2 ⟨x,aa,rfl⟩) gY
theorem aga{seq:Value}{A F:List ByteArray->Prop}{Q:List Nat}{G:U->Prop}{K:Option Addr->Nat->Nat->U->Prop}(aO:zN azB (λs=>.string s) seq A F Q G)
  (ev:∀ys,A ys->ys.length<=1000000000000) (cx:∀H',Fr [] H H'->G H') (bV:∀k∈Q,k<H.size)
  (hk:∀xs a n c H',F xs->Own bk.kt 9 H.size H' a n c xs->Fr [] H H'->K a n c H'):
  dy 372 [seq] H K:=by
 apply agb
 apply agc
 exact T4 (K:=λa n c H'=>∃aV bn bg,azV a n c=.slice aV bn bg/\∃nk pr lT,azV aV bn bg=.slice nk pr lT/\K nk pr lT H') (E:=bk.kt) (t:=9) (bytes:=16) TT Mb (by kernel_rfl) (by kernel_rfl) (by kernel_rfl) (λ_=>rfl) aO (λys h=>by have:=ev ys h;omega) cx bV λxs a n c H' h1 ab ar=>⟨_,_,_,rfl,_,_,_,rfl,hk xs a n c H' h1 ab ar⟩
theorem agd{seq:Value}{A F:List ByteArray->Prop}{Q:List Nat}{G:U->Prop}{K:Option Addr->Nat->Nat->U->Prop}(aO:zN azB (λs=>.string s) seq A F Q G)
  (ev:∀ys,A ys->ys.length<=1000000000000) (bS:∀ys,F ys->ys.length<=1000000000000) (cx:∀H',Fr [] H H'->G H') (bV:∀k∈Q,k<H.size)
  (hk:∀xs ys a n c H',F xs->ys.map bd=(xs.map bd).mergeSort (λx y=>decide (x<=y))->Own bk.kt 9 H.size H' a n c ys->Fr [] H H'->K a n c H'):
  dy 344 [seq] H K:=by
 apply age
 refine aga aO ev cx bV λxs a n c H1 aa aw ai=> ?_
 refine agf Tryz.agh (k:=373) rfl aw (by have:=bS xs aa;have:=aw.1;omega) λao ys dk he bG=>⟨a,n,c,rfl,?_⟩
 exact hk xs ys a n c ao aa he dk (ai.ag bG λk hk=>(aw.ge k hk).1)
def T5(L:List (cR ByteArray))(ys:List ByteArray):Prop:=(ys.map bd).Pairwise (·<·)/\∀y,y∈ys↔∃x∈L,x.1=y
theorem Mc{L:List (cR ByteArray)}{ys:List ByteArray}(h:T0 L ys):ys.length<=L.length:=by
 have:∀(l k:List (List UInt8)),l.Nodup->(∀x∈l,x∈k)->l.length<=k.length:=by
  intro l
  induction l with
  |nil=>intro k _ _;exact ayv _
  |cons a l ih=>
   intro k ay hs
   rw [ayk]at ay
   have bW:a∈k:=hs a (by simp)
   have:=ih (k.erase a) ay.2 λx aa=>by
    rw [aAk (λe=>ay.1 (by rw [<-e];exact aa))]
    exact hs x (by simp [aa])
   rw [List.length_erase_of_mem bW]at this
   have aF:0<k.length:=List.length_pos_of_mem bW
   simp only [ayi]
   omega
 have:=this (ys.map bd) (L.map (λx=>bd x.1)) (by
  rw [azX,az5]
  exact(azX.1 h.1).imp λcP e=>cP (iV e)) λx aa=>by
   obtain⟨y,aA,rfl⟩:=ayf.1 aa
   obtain⟨z,aE,e⟩:=h.2 y aA
   exact ayf.2 ⟨z,aE,by rw [e]⟩
 simpa using this
theorem Qe{L:List (cR ByteArray)}{xs ys:List ByteArray}(h:T1 L xs)(he:ys.map bd=(xs.map bd).mergeSort (λx y=>decide (x<=y))):T5 L ys:=by
 have aH:(ys.map bd).Perm (xs.map bd):=by rw [he];exact az8 _ _
 have iA:(ys.map bd).Nodup:=aH.nodup_iff.2 (by
  rw [azX,az5]
  exact(azX.1 h.1).imp λcP e=>cP (iV e))
 have hs:(ys.map bd).Pairwise (·<=·):=by
  rw [he]
  have:=List.pairwise_mergeSort (le:=λx y:List UInt8=>decide (x<=y)) (λa b c h1 ab=>by simp only [decide_eq_true_eq]at *;exact List.le_trans h1 ab) (λa b=>by simp only [Bool.or_eq_true,decide_eq_true_eq];exact List.le_total a b) (xs.map bd)
  exact this.imp λh=>by simpa using h
 refine⟨?_,λy=> ?_⟩
 ·have:=hs.and (azX.1 iA)
  exact this.imp λh=>by
   rcases List.le_iff_lt_or_eq.1 h.1 with h1|h1
   ·exact h1
   ·exact absurd h1 h.2
 ·rw [<-h.2]
  have:bd y∈ys.map bd↔bd y∈xs.map bd:=aH.mem_iff
  simp only [ayf]at this
  exact⟨λaA=>by obtain⟨z,aE,e⟩:=this.1 ⟨y,aA,rfl⟩;rw [<-iV e];exact aE,λaA=>by obtain⟨z,aE,e⟩:=this.2 ⟨y,aA,rfl⟩;rw [<-iV e];exact aE⟩
theorem agi{ck:Nat}{L:List (cR ByteArray)}{K:Option Addr->Nat->Nat->U->Prop}(hm:dN ej H r ck L)(bZ:L.length<=1000000000000)
  (hk:∀ys a n c H',T5 L ys->Own bk.kt 9 H.size H' a n c ys->Fr [] H H'->K a n c H'):
  aK 345 [.map (some r)] H λv H'=>∃lD,v=lD/\dy 344 [lD] H' K:=by
 apply agj
 intro b H1 ay
 refine⟨_,rfl,?_⟩
 have hs:=ay.size
 have he:=ay.eq
 refine agd (af5 (b:=b) (r:=r) (ck:=ck) (L:=L)) (λys h=>by have:=Mc h;omega) (λys h=>by have:=Mc (L:=L) ⟨h.1,λy aA=>(h.2 y).1 aA⟩;omega) (λH' ai=>⟨ay.bz.ag ai,(hm.ag ej ay.af).ag ej ai⟩) (λk hk=> ?_) λxs ys a n c ao bS aA aw ai=> ?_
 ·have:=hm.lt
  simp at hk
  omega
 ·exact hk ys a n c ao (Qe bS aA) (aw.base (by omega)) (ay.af.aT ai)
def lo(H:U)(r:Nat)(T:Int->Prop):Prop:=∃ck L,dN du H r ck L/\∀k,(T k/\dm k L=some (.bool true))\/(¬T k/\dm k L=none)
theorem lo.af{T:Int->Prop}{S:List Nat}(h:lo H r T)(ai:Fr S H H')(ay:r∉S):lo H' r T:=by
 obtain⟨ck,L,hm,hk⟩:=h
 exact⟨ck,L,hm.af du ai ay,hk⟩
theorem lo.lt{T:Int->Prop}(h:lo H r T):r<H.size:=by
 obtain⟨ck,L,hm,hk⟩:=h
 exact hm.lt
theorem lo.iff{T Md:Int->Prop}(h:lo H r T)(he:∀k,T k↔Md k):lo H r Md:=by
 have:T=Md:=funext λk=>propext (he k)
 subst this;exact h
theorem lo.new(h:dV H r (.map ⟨[]⟩ 0) H'):lo H' r λ_=>False:=⟨0,[],dN.new du h,λk=>.inr ⟨id,rfl⟩⟩
theorem lo.put{T:Int->Prop}{K:U->Prop}(h:lo H r T)(x:Int)(hk:∀H',lo H' r (λk=>T k\/k=x)->Fr [r] H H'->K H'):
  jc azB (Instr.mapUpdate 209 (.map (some r)) (.int .i64 x) (.bool true)) H K:=by
 obtain⟨ck,L,hm,ba⟩:=h
 refine t' du (mt:=209) (e:=4) aAl hm x λH' fv ai=>hk H' ⟨_,_,fv,λk=> ?_⟩ ai
 rw [sC]
 by_cases e:k=x
 ·exact .inl ⟨.inr e,by rw [if_pos e]⟩
 ·rw [if_neg e]
  rcases ba k with⟨h1,ab⟩|⟨h1,ab⟩
  ·exact .inl ⟨.inl h1,ab⟩
  ·exact .inr ⟨λh=>h.elim h1 e,ab⟩
theorem agk:zeroOf azB 4=some (.bool false):=by kernel_rfl
theorem lo.look{T:Int->Prop}(h:lo H r T)(x:Int):∃b,Rd azB (Instr.lookup 209 (.map (some r)) (.int .i64 x) false) H (.bool b)/\(b=true↔T x):=by
 obtain⟨ck,L,hm,ba⟩:=h
 have aG:=sQ du (mt:=209) (e:=4) aAl agk hm x
 rcases ba x with⟨h1,ab⟩|⟨h1,ab⟩
 ·rw [ab]at aG
  exact⟨true,aG,⟨λ_=>h1,λ_=>rfl⟩⟩
 ·rw [ab]at aG
  exact⟨false,aG,⟨(λh=>by cases h),λh=>absurd h h1⟩⟩
def nm(H:U)(r:Nat)(Q:List Nat)(last:ByteArray->Option (ByteArray×List Int)):Prop:=
 ∃ck L,dN ej H r ck L/\(∀x∈L,∃d a n c xs,x.2.1=.agg ⟨[.string d,.slice a n c]⟩/\bt cH H a n c xs/\(∀k∈an a,k∈Q)/\last x.1=some (d,xs))/\∀k,dm k L=none->last k=none
theorem nm.af{Q T:List Nat}{last:ByteArray->Option (ByteArray×List Int)}(h:nm H r Q last)(ai:Fr T H H')(aB:r∉T)(aR:er Q T):nm H' r Q last:=by
 obtain⟨ck,L,hm,he,ay⟩:=h
 refine⟨ck,L,hm.af ej ai aB,λx aa=> ?_,ay⟩
 obtain⟨d,a,n,c,xs,e,hs,aO,aG⟩:=he x aa
 exact⟨d,a,n,c,xs,e,hs.af ai (λaC e=>aR _ (aO _ (by simp [e,an]))),aO,aG⟩
theorem nm.ag{Q:List Nat}{last:ByteArray->Option (ByteArray×List Int)}(h:nm H r Q last)(ai:Fr [] H H'):nm H' r Q last:=h.af ai (by simp) (λ_ _=>by simp)
def hC(H:U)(r:Nat)(now:ByteArray->Option ByteArray)(N:Nat):Prop:=
 ∃ck L,dN ej H r ck L/\L.length<=N/\∀k,dm k L=(now k).map az4
theorem hC.af{T:List Nat}{now:ByteArray->Option ByteArray}{N:Nat}(h:hC H r now N)(ai:Fr T H H')(aB:r∉T):hC H' r now N:=by
 obtain⟨ck,L,hm,he,ay⟩:=h
 exact⟨ck,L,hm.af ej ai aB,he,ay⟩
theorem hC.lt{now:ByteArray->Option ByteArray}{N:Nat}(h:hC H r now N):r<H.size:=by
 obtain⟨ck,L,hm,_⟩:=h
 exact hm.lt
def oY(last:ByteArray->Option (ByteArray×List Int))(dir:List Int)(k:Int):Prop:=k∈dir\/∃bX d xs,last bX=some (d,xs)/\k∈xs
theorem agl{s:Addr}{cs:List Value}{cu:Nat}{Q:List Nat}{last:ByteArray->Option (ByteArray×List Int)}{a:Option Addr}{n c:Nat}{dir:List Int}{K:Nat->U->Prop}(hs:a6 H s cs)
  (ab:cs[2]?=some (.map (some cu))) (ar:cs[3]?=some (.slice a n c)) (aG:nm H cu Q last) (aR:bt cH H a n c dir) (ay:n<=1000000000)
  (aO:∀bX d xs,last bX=some (d,xs)->xs.length<=1000000000)
  (hk:∀r H',lo H' r (oY last dir)->H.size<=r->Fr [] H H'->K r H'):
  aK agm [ax (some s)] H λv H'=>∃r,v=.map r/\∃fS,r=some fS/\K fS H':=by
 apply agn
 intro b H1 bb
 have al:=bb.eq
 have gh:=bb.size
 refine⟨a,n,c,(hs.ag bb.af).ld (by kernel_rfl) ar,λae ao=>match ae with|[.int _ i]=>∃j:Nat,i=j/\j<=n/\lo ao b (λk=>k∈dir.take j)/\Fr [] H ao|_=>False,
  λae _=>match ae with|[.int _ i]=>n-i.toNat|_=>0,⟨0,rfl,by omega,(lo.new bb).iff (by simp),bb.af⟩,?_⟩
 rintro br i ao ⟨j,rfl,bq,qd,bG⟩
 have hlen:=aR.len
 refine au (λaF=> ?_) (λaF=> ?_)
 ·have b':j<n:=by simpa using aF
  have aa:dir[j]?=some (dir[j]'(by omega)):=by simp
  generalize dir[j]'(by omega)=x at aa
  refine(aR.ag bG).get rfl aa (by simp;omega) λaC e av=> ?_
  refine⟨x,jb av,qd.put x λaP ar bP=>⟨⟨j+1,cE (by omega),by omega,ar.iff λk=> ?_,bG.ag bP (by simp;omega)⟩,?_⟩⟩
  ·rw [azP,aa]
   simp
  ·show n-(IntKind.i64.wrap ((j:Int)+1)).toNat<n-((j:Nat):Int).toNat
   rw [cE (by omega)]
   exact dU b'
 ·have zO:j=n:=by simp at aF;omega
  subst zO
  have qd:lo ao b (λk=>k∈dir):=qd.iff λk=>by rw [ayB (by omega)]
  obtain⟨ck,L,jU,ago,KQ⟩:=aG
  have hm:=jU.ag ej bG
  have avG:=jU.lt
  refine⟨some cu,(hs.ag bG).ld (by kernel_rfl) ab,CV ej (mt:=126) (e:=132) az0 hm λit aP bw=> ?_⟩
  have hit:=bw.eq
  have zP:=bw.size
  have cO:=qd.lt
  have T6:it≠b:=by omega
  have bP:Fr [] H aP:=bG.aT bw.af
  refine⟨λ_ a8=>∃(seen:Array Nat),lo a8 b (λk=>k∈dir\/∃x∈L,x.2.2∈seen/\∃d xs,last x.1=some (d,xs)/\k∈xs)/\a8[it]?=some (.mapIter (some cu) ck seen ck)/\Fr [] H a8,
   λ_ a8=>pR a8 cu it,⟨#[],(qd.af bw.af (by simp)).iff (by simp),bw.get,bP⟩,?_⟩
  rintro ek a8 ⟨seen,T7,Ej,cm⟩
  have ub:dN ej a8 cu ck L:=jU.ag ej cm
  refine CX ej ub Ej (λfe=>⟨_,rfl,_,rfl,?_⟩) λx aa gY bA hi5 cb=> ?_
  ·refine hk b a8 (T7.iff λk=> ?_) (by omega) cm
   unfold oY
   constructor
   ·rintro(h|⟨x,aa,_,d,xs,h1,ab⟩)
    ·exact .inl h
    ·exact .inr ⟨x.1,d,xs,h1,ab⟩
   ·rintro(h|⟨bX,d,xs,h1,ab⟩)
    ·exact .inl h
    ·refine .inr ?_
     cases ba:dm bX L with
     |none=>rw [KQ bX ba]at h1;cases h1
     |some v=>
      obtain⟨iR,ff⟩:=Bn ba
      exact⟨_,ff,fe _ ff,d,xs,h1,ab⟩
  ·obtain⟨d,a2,cz,c2,xs,e,eo,_,tr⟩:=ago x aa
   have mS:dN ej bA cu ck L:=ub.af ej cb (by simp;exact λe=>by have:=hm.lt;omega)
   refine Gy ej mS hi5 aa rfl ⟨d,a2,cz,c2,e,?_⟩
   have yc:Fr [] H bA:=cm.ag cb (by simp;omega)
   have agp:=T7.af cb (by simp;exact λe=>T6 e.symm)
   refine iS (by kernel_rfl) (by kernel_rfl) (λx aa=>by simp [azI]at aa;rcases aa with rfl|rfl<;>rfl) (by rfl) λb1 ct dA gl de=> ?_
   have n1:=yc.aT de
   have agq:=agp.af de (by simp)
   have bK:=eo.len
   have wv:=aO _ _ _ tr
   have AQ:ct[it]?=some (.mapIter (some cu) ck (seen.push x.2.2) ck):=de.vE hi5
   refine⟨a2,cz,c2,gl.cF 1 rfl,λae dx=>match ae with|[.int _ i]=>∃j:Nat,i=j/\j<=cz/\lo dx b (λk=>(k∈dir\/∃x∈L,x.2.2∈seen/\∃d xs,last x.1=some (d,xs)/\k∈xs)\/k∈xs.take j)/\Fr [b] ct dx|_=>False,
    λae _=>match ae with|[.int _ i]=>cz-i.toNat|_=>0,⟨0,rfl,by omega,agq.iff (by simp),Fr.refl _ _⟩,?_⟩
   rintro lp i7 dx ⟨j,rfl,bq,T8,e4⟩
   have rZ:Fr [] H dx:=n1.ag e4 (by simp;omega)
   refine au (λaF=> ?_) (λaF=> ?_)
   ·have b':j<cz:=by simpa using aF
    have yO:xs[j]?=some (xs[j]'(by omega)):=by simp
    generalize xs[j]'(by omega)=y at yO
    have agr:bt cH dx a2 cz c2 xs:=by
     exact eo.ag rZ
    refine agr.get rfl yO (by simp;omega) λaC e av=> ?_
    refine⟨y,jb av,T8.put y λeQ fi jl=>⟨⟨j+1,cE (by omega),by omega,fi.iff λk=> ?_,e4.trans' jl (λk hk _=>hk) (λk hk _=>hk)⟩,?_⟩⟩
    ·rw [azP,yO]
     simp [or_assoc]
    ·show cz-(IntKind.i64.wrap ((j:Int)+1)).toNat<cz-((j:Nat):Int).toNat
     rw [cE (by omega)]
     exact dU b'
   ·have zO:j=cz:=by simp at aF;omega
    subst zO
    have T9:dx[it]?=some (.mapIter (some cu) ck (seen.push x.2.2) ck):=e4.get AQ (by simp;exact T6)
    have Kn:dN ej dx cu ck L:=(mS.ag ej de).af ej e4 (by simp;exact λe=>by omega)
    refine⟨⟨seen.push x.2.2,T8.iff λk=> ?_,T9,rZ⟩,?_⟩
    ·rw [ayB (by omega)]
     constructor
     ·rintro((h|⟨z,aE,h1,ab⟩)|h)
      ·exact .inl h
      ·exact .inr ⟨z,aE,by simp [h1],ab⟩
      ·exact .inr ⟨x,aa,by simp,d,xs,tr,h⟩
     ·rintro(h|⟨z,aE,h1,d',oH,ab,ar⟩)
      ·exact .inl (.inl h)
      ·simp only [aAj]at h1
       rcases h1 with h1|h1
       ·exact .inl (.inr ⟨z,aE,h1,d',oH,ab,ar⟩)
       ·have:=Ma hm.wf aE aa h1
        subst this
        rw [tr]at ab
        cases ab
        exact .inr ar
    ·show pR dx cu it<pR a8 cu it
     rw [xg ej ub Ej,xg ej Kn T9]
     exact Gz (ayf.2 ⟨x,aa,rfl⟩) gY
end Go.Proofs.aZ
section
open Go.Proofs Go.Shelf
namespace Go.bk
theorem YM(xs:List Int):xs.flatMap cH.cells=xs.map (ayZ .i64):=by
 induction xs with
 |nil=>rfl
 |cons x l ih=>rw [axO,ih];rfl
theorem aa7{P:Program}{l6:Ren}(L:SlLaysM.n5 P l6){k:FuncId}(tP:l6.f 5=k){t:TypeId}{base:Nat}{H:U}{a:Option Addr}{n c:Nat}{xs:List Int}{K:U->Prop}(aw:Own cH t base H a n c xs)(ay:n<4611686018427387904)
  (hk:∀H',Own cH t base H' a n c (xs.mergeSort λx y=>decide (x<=y))->Fr (an a) H H'->K H'):
  fo P k ⟨[.slice a n c]⟩ H λv H'=>v=.tuple ⟨[]⟩/\K H':=by
 subst tP
 intro E d
 have aG:=aw.1
 obtain⟨_,⟨rfl,aF,y9⟩|⟨b,cur,rfl,al,aq,av,hm,hs,aW⟩⟩:=id aw
 ·have:=AnyM.slices_Sort_int_none L none c (bf E H d)
  rw [aF]
  refine this.mono ?_
  rintro e w' ⟨rfl,rfl⟩
  have aa:xs=[]:=ayT (by omega)
  subst aa
  exact⟨_,H,d,rfl,rfl,rfl,hk H (by simpa using aw) (Fr.refl _ _)⟩
 ·rw [YM]at aW
  have ff:(bf E H d).heap[b]?=some (.cells cur t (0,0)):=aq
  have dF:cH.sz=1:=rfl
  rw [dF,azZ]at aW hs
  rw [aG]at aW
  have hH:Go.Sort.Holds (ayZ .i64) (bf E H d) b 0 xs.toArray:=holds_of_blockI ff aW
  have:=AnyM.slices_Sort_int L b 0 c xs (bf E H d) hH (km aq) (by omega)
  rw [aG]
  refine this.mono ?_
  rintro e w' ⟨rfl,m,os,rfl⟩
  have F5:=az8 xs (λx y=>decide (x<=y))
  have hlen:(xs.mergeSort λx y=>decide (x<=y)).length=xs.length:=F5.length_eq
  generalize ba:(xs.mergeSort λx y=>decide (x<=y))=ys at hk hlen
  refine⟨_,(Go.Sort.grow (Go.Sort.putRow (ayZ .i64) (Go.Sort.ahead (bf E H d) m) b 0 ys.toArray) os).heap,⟨d.1+m,ax4 d.2 (az9 _ _)⟩,rfl,rfl,rfl,hk _ ?_ ?_⟩
  ·refine⟨by omega,.inr ⟨b,_,rfl,al,heap_sortedI _ ff,by omega,hm,by simp [Go.Sort.putCells,hs,dF],?_⟩⟩
   rw [YM,dF,azZ,aG,<-hlen]
   exact take_putCellsI cur ys (by omega)
  ·have F6:=grownBy_sortedI (w:=bf E H d) (g:=b) (n:=m) (os:=os) ys.toArray
   exact⟨F6.size,λk hk ay=>F6.block k hk (by simp [an]at ay;simpa using ay)⟩
end Go.bk
end
namespace Go.Proofs.aZ
open Classical in
noncomputable def ja(T:Int->Prop)(n:Nat):List Int:=((ayD n).filter λk:Nat=>decide (2<=k/\¬T (k:Int))).map λk:Nat=>(k:Int)
theorem BP(T:Int->Prop)(n:Nat):ja T (n+1)=ja T n++(open Classical in if 2<=n/\¬T (n:Int)then [(n:Int)]else []):=by
 unfold ja
 rw [List.range_succ,aAf,azj]
 congr 1
 by_cases h:2<=n/\¬T (n:Int)
 ·simp [h]
 ·simp [h]
variable{H:U}{N n c r cu cA M dC ew b j:Nat}{d s:Addr}{Sd Q iJ:List Nat}{a:Option Addr}{ae:List Value}
theorem ags(T:Int->Prop){m:Nat}(h:n<=m):ja T n<+:ja T m:=by
 obtain⟨k,rfl⟩:=Nat.exists_eq_add_of_le h
 clear h
 induction k with
 |zero=>exact List.prefix_refl _
 |succ k ih=>rw [<-Nat.add_assoc,BP];exact ih.trans (List.prefix_append _ _)
theorem agt(T:Int->Prop):ja T 2=[]:=by
 rw [BP,BP]
 simp [ja]
theorem agu(T:Int->Prop)(n:Nat):(ja T n).length<=n:=by
 unfold ja
 rw [azU]
 have:=aAm (λk:Nat=>(open Classical in decide (2<=k/\¬T (k:Int)))) (ayD n)
 rw [List.length_range]at this
 exact this
theorem agv{b1 rt:Nat}{cs:List Value}{T:Int->Prop}{m:eX}{sz:Nat}(av:cs[0]?=some (.pointer (some d)))(dF:m.size=sz)(avH:sz<=512)(ab:8<=sz):
  zN azB (λn=>.int .i64 n) (.func (.func 371) ⟨[]⟩ ⟨[.pointer (some ⟨b,0,none⟩),.pointer (some ⟨b1,0,none⟩)]⟩) (λys=>ys<+:ja T sz) (λys=>ys=ja T sz) (b::b1::rt::s.block::Sd)
  (λH=>a6 H ⟨b,0,none⟩ [.pointer (some s)]/\a6 H ⟨b1,0,none⟩ [.map (some rt)]/\lo H rt T/\a6 H s cs/\oI H d Sd m N):=by
 intro l H I K S cx dT aR aF uR step fin
 obtain⟨al,dA,qd,hs,BQ⟩:=cx
 refine⟨371,⟨[]⟩,_,rfl,by kernel_rfl,?_⟩
 apply agw
 refine⟨λae ao=>match ae with|[.int _ i]=>∃(j:Nat) (S2:List Nat),i=j/\2<=j/\j<=sz/\I (ja T j) S2 ao/\Fr S H ao/\Grow H S S2/\In ao S2|_=>False,
  λae _=>match ae with|[.int _ i]=>sz-i.toNat|_=>0,⟨2,S,rfl,by omega,by omega,by rw [agt];exact aF,Fr.refl _ _,Grow.refl _ _,dT⟩,?_⟩
 rintro br i ao ⟨j,S2,rfl,T',bq,dK,ai,ba,pq⟩
 have m1:∀k∈(b::b1::rt::s.block::Sd),k∉S:=λk hk uS=>aR k uS hk
 have cO:=al.af ai (m1 b (by simp))
 have xF:=dA.af ai (m1 b1 (by simp))
 have agx:=qd.af ai (m1 rt (by simp))
 have mh:=hs.af ai (m1 _ (by simp))
 have agy:=BQ.af ai λk hk=>m1 k (by simp [hk])
 have lX:sz-(IntKind.i64.wrap ((j:Int)+1)).toNat<sz-((j:Nat):Int).toNat↔j<sz:=by
  rw [cE (by omega)];omega
 refine⟨_,cO.bY rfl,_,mh.tu (by kernel_rfl) av,TZ agy ?_⟩
 show aU (decide ((j:Int)<m.size)) _ _
 refine au (λbQ=> ?_) (λeZ=> ?_)
 ·have bQ:j<sz:=by rw [dF]at bQ;simpa using bQ
  obtain⟨o4,yd,cd⟩:=agx.look (j:Int)
  refine⟨_,xF.bY rfl,o4,yd,au (λar=> ?_) (λar=> ?_)⟩
  ·have agz:¬T (j:Int):=λh=>by rw [cd.2 h]at ar;cases ar
   have tn:ja T (j+1)=ja T j++[(j:Int)]:=by rw [BP,if_pos ⟨T',agz⟩]
   refine .inr ⟨l,rfl,(step (ja T j) (j:Int) S2 ao (by rw [<-tn];exact ags T bQ) pq dK).mono λv aP=> ?_⟩
   rintro⟨rfl,jC,wq,bP,pt,wu⟩
   refine⟨true,rfl,au (λh=>by simp at h) λ_=>⟨⟨j+1,jC,cE (by omega),by omega,by omega,by rw [tn];exact wq,?_,?_,wu⟩,lX.2 bQ⟩⟩
   ·exact ai.trans' bP (λk hk _=>hk) (λk hk aG=>(ba k hk).elim id λh=>by omega)
   ·exact ba.trans ai.size pt
  ·have agA:T (j:Int):=by
    cases o4 with
    |true=>exact cd.1 rfl
    |false=>cases ar
   have tn:ja T (j+1)=ja T j:=by rw [BP,if_neg (λh=>h.2 agA),azh]
   exact⟨⟨j+1,S2,cE (by omega),by omega,by omega,by rw [tn];exact dK,ai,ba,pq⟩,lX.2 bQ⟩
 ·have eZ:j=sz:=by rw [dF]at eZ;simp at eZ;omega
  subst eZ
  exact⟨rfl,fin _ S2 ao rfl dK pq ai ba⟩
theorem agB{seq:Value}{A F:List Int->Prop}{G:U->Prop}{K:Option Addr->Nat->Nat->U->Prop}(aO:zN azB (λn=>.int .i64 n) seq A F Q G)
  (ev:∀ys,A ys->ys.length<=1000000000000) (cx:∀H',Fr [] H H'->G H') (bV:∀k∈Q,k<H.size)
  (hk:∀xs a n c H',F xs->Own cH 3 H.size H' a n c xs->Fr [] H H'->K a n c H'):
  dy 341 [seq] H K:=by
 apply agC
 apply agD
 exact T4 (K:=λa n c H'=>∃aV bn bg,azV a n c=.slice aV bn bg/\∃nk pr lT,azV aV bn bg=.slice nk pr lT/\K nk pr lT H') (E:=cH) (t:=3) (bytes:=8) L6 zC (by kernel_rfl) (by kernel_rfl) (by kernel_rfl) (λ_=>rfl) aO (λys h=>by have:=ev ys h;omega) cx bV λxs a n c H' h1 ab ar=>⟨_,_,_,rfl,_,_,_,rfl,hk xs a n c H' h1 ab ar⟩
theorem agE{cs:List Value}{m:eX}{last:ByteArray->Option (ByteArray×List Int)}{dir:List Int}{K:Option Addr->Nat->Nat->U->Prop}(hs:a6 H s cs)
  (aF:cs[0]?=some (.pointer (some d))) (ab:cs[2]?=some (.map (some cu))) (ar:cs[3]?=some (.slice a n c)) (BQ:oI H d Sd m N) (aG:nm H cu Q last) (aR:bt cH H a n c dir) (ay:n<=1000000000)
  (aO:∀bX d xs,last bX=some (d,xs)->xs.length<=1000000000)
  (hk:∀a n c H',Own cH 3 H.size H' a n c (ja (oY last dir) m.size.toNat)->Fr [] H H'->K a n c H'):
  aK 342 [ax (some s)] H λv H'=>∃lD,v=lD/\dy 341 [lD] H' K:=by
 apply agF
 intro b H1 bb
 have al:=bb.eq
 have gh:=bb.size
 have f1:=bb.af
 refine⟨_,bb.bz.bY rfl,?_⟩
 have:=agl (K:=λr H'=>∀(pv:Nat) (hv:U),dV H' pv (.cells ⟨[.map none]⟩ 209) hv->∃dn,bp 209 hv ⟨pv,0,none⟩ (.map (some r)) dn/\∃lD,Value.func (.func 371) ⟨[]⟩ ⟨[.pointer (some ⟨b,0,none⟩),.pointer (some ⟨pv,0,none⟩)]⟩=lD/\dy 341 [lD] dn K)
  (hs.ag f1) ab ar (aG.ag f1) (aR.ag f1) ay aO λr ao qd aB f2=> ?_
 ·refine fo.mono this λv H'=> ?_
  rintro⟨r,rfl,fS,rfl,h⟩
  exact⟨_,rfl,h⟩
 ·refine iS (by kernel_rfl) (by kernel_rfl) (λx aa=>by simp [azI]at aa;subst aa;rfl) (by rfl) λb1 aP dA gl f3=>⟨_,rfl,?_⟩
  have agG:=f1.aT f2
  have n3:=agG.aT f3
  have dF:8<=m.size/\m.size<=512:=by
   obtain⟨nT,agH,ju,uT⟩:=BQ.it
   exact uT.size
  have dT:In H Sd:=BQ.po
  refine agB (agv (b:=b) (b1:=b1) (rt:=r) (s:=s) (d:=d) (cs:=cs) (T:=oY last dir) (Sd:=Sd) (m:=m) (N:=N) (sz:=m.size.toNat) aF (by omega) (by omega) (by omega)) (λys h=> ?_) (λH' ai=> ?_) (λk dc=> ?_) λxs a n c a8 bS aw ai=> ?_
  ·have:=h.length_le
   have:=agu (oY last dir) m.size.toNat
   omega
  ·exact⟨((bb.bz.ag f2).ag f3).ag ai,gl.ag ai,(qd.af f3 (by simp)).af ai (by simp),(hs.ag n3).ag ai,(BQ.ag n3).ag ai⟩
  ·simp only [axA]at dc
   have s2:=f2.size
   have qA:=f3.size
   have agI:=gl.lt
   have avI:=qd.lt
   have ss:=hs.lt
   rcases dc with rfl|rfl|rfl|rfl|h
   ·omega
   ·exact agI
   ·omega
   ·omega
   ·have:=dT k h;omega
  ·subst bS
   exact hk a n c a8 (aw.base (by have:=n3.size;omega)) (n3.aT ai)
def js(n:Nat):Nat:=(n+63)/64
def piece(a:Option Addr)(n i:Nat):Option Addr×Nat×Nat:=(df (min (64*i+64) n) (64*i) 1 a,min (64*i+64) n-64*i,min (64*i+64) n-64*i)
def pieces(a:Option Addr)(n:Nat):List (Option Addr×Nat×Nat):=(ayD (js n)).map (piece a n)
def agJ(x:Option Addr×Nat×Nat):Value:=.slice x.1 x.2.1 x.2.2
def Me(l:List UInt8):List (List UInt8):=(ayD (js l.length)).map λi=>(l.take (min (64*i+64) l.length)).drop (64*i)
def eT(s:ByteArray):List ByteArray:=(Me (bd s)).map λl=>⟨l.toArray⟩
theorem Mf(a:Option Addr)(n:Nat):(pieces a n).length=js n:=by simp [pieces]
theorem w5(s:ByteArray):(eT s).length=js s.size:=by simp [eT,Me,dR]
theorem Ua{α:Type}(f:Nat->α){k:Nat}(h:k<n):((ayD n).map f).take (k+1)=((ayD n).map f).take k++[f k]:=by
 rw [azP]
 simp [h]
theorem agK{b1:Nat}(ay:n<=1000000000000)(av:n<=c):
  zN azB agJ (.func (.func 387) ⟨[]⟩ ⟨[.pointer (some ⟨b,0,none⟩),.pointer (some ⟨b1,0,none⟩)]⟩) (λys=>ys<+:pieces a n) (λys=>ys=pieces a n) [b,b1]
  (λH=>a6 H ⟨b,0,none⟩ [.slice a n c]/\a6 H ⟨b1,0,none⟩ [.int .i64 64]):=by
 intro l H I K S cx dT aR aF uR step fin
 obtain⟨al,dA⟩:=cx
 refine⟨387,⟨[]⟩,_,rfl,by kernel_rfl,?_⟩
 apply agL
 refine⟨λae ao=>match ae with|[.int _ i]=>∃(j:Nat) (S2:List Nat),i=((64*j:Nat):Int)/\j<=js n/\I ((pieces a n).take j) S2 ao/\Fr S H ao/\Grow H S S2/\In ao S2|_=>False,
  λae _=>match ae with|[.int _ i]=>n+64-i.toNat|_=>0,⟨0,S,rfl,by omega,by simpa using aF,Fr.refl _ _,Grow.refl _ _,dT⟩,?_⟩
 rintro br i ao ⟨j,S2,rfl,bq,dK,ai,ba,pq⟩
 have m1:∀k∈[b,b1],k∉S:=λk hk uS=>aR k uS hk
 have cO:=al.af ai (m1 b (by simp))
 have xF:=dA.af ai (m1 b1 (by simp))
 have Mg:js n=(n+63)/64:=rfl
 refine⟨a,n,c,cO.bY rfl,au (λh=> ?_) (λh=> ?_)⟩
 ·have bQ:64*j<n:=by
   have h1:((64*j:Nat):Int)<(n:Int):=by simpa using h
   omega
  have kO:j<js n:=by omega
  refine⟨64,xF.bY rfl,a,n,c,cO.bY rfl,cM (bh (by omega)) ⟨a,n,c,cO.bY rfl,?_⟩⟩
  have ed:(((64*j:Nat):Int)+if(((n:Int).toNat-((64*j:Nat):Int).toNat:Nat):Int)<64 then(((n:Int).toNat-((64*j:Nat):Int).toNat:Nat):Int)else 64)=((min (64*j+64) n:Nat):Int):=by
   split<;>omega
  have aL:IntKind.i64.wrap (((64*j:Nat):Int)+if(((n:Int).toNat-((64*j:Nat):Int).toNat:Nat):Int)<64 then(((n:Int).toNat-((64*j:Nat):Int).toNat:Nat):Int)else 64)=((min (64*j+64) n:Nat):Int):=by
   rw [ed,cj (by omega) (by omega)]
  rw [aL]
  refine cM (bh (by omega)) ?_
  have tn:(pieces a n).take (j+1)=(pieces a n).take j++[piece a n j]:=Ua _ kO
  refine .inr ⟨l,rfl,(step ((pieces a n).take j) (piece a n j) S2 ao (by rw [<-tn];exact List.take_prefix _ _) pq dK).mono λv aP=> ?_⟩
  rintro⟨rfl,jC,wq,bP,pt,wu⟩
  have eE:Fr S H aP:=ai.trans' bP (λk hk _=>hk) (λk hk aG=>(ba k hk).elim id λh=>by omega)
  refine⟨true,rfl,au (λh=>by simp at h) λ_=>⟨64,(dA.af eE (m1 b1 (by simp))).bY rfl,⟨j+1,jC,?_,by omega,by rw [tn];exact wq,eE,ba.trans ai.size pt,wu⟩,?_⟩⟩
  ·rw [cj (by omega) (by omega)];omega
  ·show n+64-(IntKind.i64.wrap (((64*j:Nat):Int)+64)).toNat<n+64-(((64*j:Nat):Int)).toNat
   rw [cj (by omega) (by omega)];omega
 ·have eZ:n<=64*j:=by
   have h1:¬((64*j:Nat):Int)<(n:Int):=by simpa using h
   omega
  have Mh:j=js n:=by omega
  subst Mh
  refine⟨rfl,fin _ S2 ao ?_ dK pq ai ba⟩
  rw [ayB (by rw [Mf];exact axx _)]
theorem Mi{s:ByteArray}{K:Option Addr->Nat->Nat->U->Prop}(hs:s.size<=1000000000)
  (hk:∀a n c H',Own bk.kt 9 H.size H' a n c (eT s)->Fr [] H H'->K a n c H'):
  dy agM [aj s] H K:=by
 apply agN
 intro b H1 bb
 have al:=bb.eq
 have gh:=bb.size
 refine H5 dt.str dt.bT (by kernel_rfl) λq qc ao aO eo f2=> ?_
 apply agO
 intro bI aP bw dz a8 cS
 have zP:=bw.size
 have PW:=cS.size
 have cX:=bw.eq
 have gQ:=cS.eq
 have s2:=f2.size
 have f13:Fr [] H1 aP:=f2.aT bw.af
 have f14:Fr [] H1 a8:=f13.aT cS.af
 refine⟨64,cS.bz.bY rfl,au (λh=>by simp at h) λ_=>⟨_,rfl,λD l bc bA kq lU=> ?_⟩⟩
 have hblk:=bb.bz.ag f14
 obtain⟨agP,Ub⟩:=qY.start (E:=bk.kt) (t:=9) (bb.af.aT f14) hblk (by omega) kq
 obtain⟨f45,_,_,Sa,el,HZ⟩:=kq.out
 have Bf:=eo.cap
 have agQ:=f45.size
 have Mj:0<s.size->q<ao.size:=λh=>by
  obtain⟨iR,off,e,bQ⟩:=eo.arr.lt (by intro e;have:=dR s;rw [e]at this;simp at this;omega)
  cases e
  exact bQ
 have iF:eT s=(ayD (js s.size)).map λi=>(⟨((bd s).take (min (64*i+64) s.size)|>.drop (64*i)).toArray⟩:ByteArray):=by
  unfold eT Me
  rw [az7,dR]
  rfl
 refine dY.mono ((agK (b:=bI) (b1:=dz) (a:=some ⟨q,0,none⟩) (n:=s.size) (c:=qc) (by omega) Bf) l bA
  (λys S hG=>qY bk.kt 9 H.size l D b bc H ((eT s).take ys.length) S hG/\(0<s.size->bt fb hG (some ⟨q,0,none⟩) s.size qc (bd s)/\q∉S))
  (λa8=>_) [b,l,D] ⟨(bw.bz.ag cS.af).ag f45,cS.bz.ag f45⟩ Ub ?_ ⟨agP,λaF=>⟨(eo.ag (bw.af.aT cS.af)).ag f45,?_⟩⟩ ?_ ?_ ?_) λv H' h=>h.2
 ·intro k hk Mk
  simp only [axA,azS,or_false]at hk Mk
  omega
 ·have:=Mj aF
  intro h
  simp only [axA,azS,or_false]at h
  omega
 ·rintro ys S Dw Dx T ⟨dK,aa⟩ ai aR cd
  refine⟨dK.stay ai aR λk hk=>by have:=cd k hk;have:=bb.af.size;omega,λaF=>⟨(aa aF).1.af ai λaC e aq=> ?_,(aa aF).2⟩⟩
  cases e
  have h1:bA.size<=q:=cd _ aq
  have ab:=Mj aF
  omega
 ·rintro ys x S hG ev dT ⟨dK,aa⟩
  have bq:ys.length<js s.size:=by
   have:=ev.length_le
   rw [Mf]at this
   simp at this
   omega
  have Mg:js s.size=(s.size+63)/64:=rfl
  have aF:0<s.size:=by omega
  have agR:x=piece (some ⟨q,0,none⟩) s.size ys.length:=by
   obtain⟨zs,aE⟩:=ev
   have h1:(pieces (some ⟨q,0,none⟩) s.size)[ys.length]?=some x:=by rw [<-aE];simp
   unfold pieces at h1
   simp [bq]at h1
   exact h1.symm
  subst agR
  obtain⟨Ml,Mm⟩:=aa aF
  obtain⟨a2,cz,c2,gl,aw,bB,m1,m2,m3⟩:=dK.it
  have H8:q≠l:=λe=>Mm (by simp [bB,e])
  refine lU _ _ _ hG _ dK.Mn ⟨dK.Mn,a2,cz,c2,(gl.af (mW hG l bc .busy none) (by simp [dK.bd])).bY rfl,?_⟩
  have hlen:=dR s
  have BR:=(Ml.af (mW hG l bc .busy none) (λaC e aq=>by cases e;simp at aq;exact H8 aq)).cut (k:=64*ys.length) (m:=min (64*ys.length+64) s.size) (by omega) (by omega)
  have agS:df qc (64*ys.length) 1 (some ⟨q,0,none⟩)=df (min (64*ys.length+64) s.size) (64*ys.length) 1 (some ⟨q,0,none⟩):=by
   rw [vS,vS,if_neg (by omega),if_neg (by omega)]
  have agT:bt fb (cC hG l bc .busy none) (piece (some ⟨q,0,none⟩) s.size ys.length).1 (piece (some ⟨q,0,none⟩) s.size ys.length).2.1 (piece (some ⟨q,0,none⟩) s.size ys.length).2.2 (((bd s).take (min (64*ys.length+64) s.size)).drop (64*ys.length)):=by
   refine⟨BR.len,axx _,?_⟩
   have h1:=BR.arr
   rw [show fb.sz=1 from rfl,agS]at h1
   exact h1
  have tn:(eT s).take (ys.length+1)=(eT s).take ys.length++[⟨(((bd s).take (min (64*ys.length+64) s.size)).drop (64*ys.length)).toArray⟩]:=by
   rw [iF];exact Ua _ bq
  refine wo (e:=5) dt.bT dt.str (by kernel_rfl) agT ?_
  refine dK.more (E:=bk.kt) (bytes:=16) (x:=⟨(((bd s).take (min (64*ys.length+64) s.size)).drop (64*ys.length)).toArray⟩) TT Mb (by kernel_rfl) (by kernel_rfl) rfl dT gl aw bB m1 m2 m3 ?_ (Fr.refl _ _) λct Mo lp6 hI6 f6 g6 in6=>⟨lp6,rfl,Mo,⟨?_,λ_=>⟨?_,?_⟩⟩,f6,g6,in6⟩
  ·rw [ayj,w5];omega
  ·rw [ax6,List.length_singleton,tn];exact hI6
  ·exact Ml.af f6 λaC e aq=>by cases e;exact Mm aq
  ·intro h
   have h1:=Mj aF
   have ab:=Ub b (by simp)
   rcases g6 q h with h|h
   ·exact Mm h
   ·have:=dK.af.size
    have ar:q<hG.size:=by
     obtain⟨iR,off,e,bQ⟩:=Ml.arr.lt (by intro e;rw [e]at hlen;simp at hlen;omega)
     cases e
     exact bQ
    omega
 ·rintro xs e0 ct rfl ⟨dK,_⟩ dT ai ba
  refine .inl (dK.done (P:=azB) (ts:=112) (K:=λa n c H'=>∃ie iT hg,azV a n c=azV ie iT hg/\K ie iT hg H') (by kernel_rfl) λa n c dx aw e4 _=>⟨_,_,_,rfl,hk a n c dx ?_ e4⟩)
  rw [Mf,ayB (by rw [w5];exact axx _)]at aw
  exact aw
def vI(x:Int):Prop:=(97<=x/\x<=122)\/(48<=x/\x<=57)\/x=46\/x=45
instance(x:Int):Decidable (vI x):=by unfold vI;infer_instance
def ly(s:ByteArray):Prop:=(∀b∈bd s,vI (b.toNat:Int))/\s.size≠0/\s.size<=16
instance(s:ByteArray):Decidable (ly s):=by unfold ly;infer_instance
theorem GX{s:ByteArray}{K:Bool->U->Prop}(hs:s.size<=1000000000000)(hk:∀H',Fr [] H H'->K (decide (ly s)) H'):
  eu agU [aj s] H K:=by
 apply agV
 refine H5 dt.str dt.bT (by kernel_rfl) λq c H1 aO eo f1=> ?_
 have hlen:=dR s
 refine⟨λae ao=>match ae with|[.int _ i]=>∃j:Nat,i=j/\j<=s.size/\(∀b∈(bd s).take j,vI (b.toNat:Int))/\Fr [] H ao/\Fr [] H1 ao|_=>False,
  λae _=>match ae with|[.int _ i]=>s.size-i.toNat|_=>0,⟨0,rfl,by omega,by simp,f1,Fr.refl _ _⟩,?_⟩
 rintro br i ao ⟨j,rfl,bq,e',ai,cv⟩
 refine au (λaF=> ?_) (λaF=> ?_)
 ·have b':j<s.size:=by simpa using aF
  have aa:(bd s)[j]?=some ((bd s)[j]'(by omega)):=by simp
  generalize(bd s)[j]'(by omega)=x at aa
  refine(eo.ag cv).get rfl aa (by simp;omega) λaC e av=>⟨x.toNat,jb av,?_⟩
  have stop:¬vI (x.toNat:Int)->∃b,azD false=azD b/\K b ao:=λcq=>by
   refine⟨_,rfl,?_⟩
   have:decide (ly s)=false:=by
    simp only [decide_eq_false_iff_not]
    exact λh=>cq (h.1 x (azR aa))
   rw [<-this]
   exact hk ao ai
  have cont:vI (x.toNat:Int)->(fun(ae:List Value) (ao:U)=>match ae with|[.int _ i]=>∃j:Nat,i=j/\j<=s.size/\(∀b∈(bd s).take j,vI (b.toNat:Int))/\Fr [] H ao/\Fr [] H1 ao|_=>False) [.int .i64 (azQ .i64 ((j:Int)+1))] ao∧
    (fun(ae:List Value) (_:U)=>match ae with|[.int _ i]=>s.size-i.toNat|_=>0) [.int .i64 (azQ .i64 ((j:Int)+1))] ao<(fun(ae:List Value) (_:U)=>match ae with|[.int _ i]=>s.size-i.toNat|_=>0) [.int .i64 (j:Int)] ao:=λeV=>by
   refine⟨⟨j+1,cE (by omega),by omega,λb al=> ?_,ai,cv⟩,?_⟩
   ·rw [azP,aa]at al
    simp only [aAh,azb,ayw]at al
    rcases al with al|rfl
    ·exact e' b al
    ·exact eV
   ·show s.size-(IntKind.i64.wrap ((j:Int)+1)).toNat<s.size-((j:Nat):Int).toNat
    rw [cE (by omega)]
    exact dU b'
  generalize(x.toNat:Int)=z at stop cont⊢
  refine au (λh1=>au (λab=>au (λar=>au (λa7=>stop ?_) (λa7=>cont ?_)) (λar=>cont ?_)) (λab=>au (λar=>au (λa7=>au (λbs=>stop ?_) (λbs=>cont ?_)) (λa7=>cont ?_)) (λar=>cont ?_)))
   (λh1=>au (λab=>au (λar=>au (λa7=>au (λbs=>stop ?_) (λbs=>cont ?_)) (λa7=>cont ?_)) (λar=>au (λa7=>au (λbs=>au (λb5=>stop ?_) (λb5=>cont ?_)) (λbs=>cont ?_)) (λa7=>cont ?_))) (λab=>cont ?_))
  all_goals(unfold vI;simp at *;omega)
 ·have L4:j=s.size:=by simp at aF;omega
  subst L4
  rw [ayB (by omega)]at e'
  refine au (λh1=>⟨_,rfl,?_⟩) (λh1=>⟨_,rfl,?_⟩)
  ·have cP:s.size≠0:=λe=>by
    have:bd s=[]:=ayT (by omega)
    have a':s=⟨#[]⟩:=iV this
    rw [a']at h1
    simp at h1
   have:decide ((s.size:Int)<=16)=decide (ly s):=by
    rw [decide_eq_decide]
    exact⟨λh=>⟨e',cP,by omega⟩,λh=>by have:=h.2.2;omega⟩
   rw [this]
   exact hk ao ai
  ·have:decide (ly s)=false:=by
    simp only [decide_eq_false_iff_not]
    intro h
    have ab:=h.2.1
    have e:azL s=azL ⟨#[]⟩:=by simpa using h1
    rw [BS,BS]at e
    have a':(bd s).length=0:=by rw [e];rfl
    omega
   rw [<-this]
   exact hk ao ai
theorem a6.cast{a:Addr}{ws:List Value}(h:a6 H a ae)(e:ae=ws):a6 H a ws:=e▸h
def oK(n:Int):eX:={size:=if(if 512<n then 512 else n)>8 then if 512<n then 512 else n else 8,is:=λ_=>⟨#[]⟩,wait:=λ_=>[],off:=false,left:=0,ag:=0,calls:=0}
theorem LN{n:Int}{K:Option Addr->U->Prop}(hk:∀b H' S,(∀k∈S,H.size<=k)->oI H' ⟨b,0,none⟩ S (oK n) 0->Fr [] H H'->K (some ⟨b,0,none⟩) H'):
  qW Uc [o n] H K:=by
 apply agW
 intro b H1 bb b1 ao bK
 have al:=a6.cast (ws:=BO (oK n) b) bK.bz (by kernel_rfl)
 have aL:=bb.eq
 have a':=bK.eq
 have s1:=bb.size
 have s2:=bK.size
 refine⟨_,rfl,hk b1 ao [b1,b] (by simp;omega) ⟨⟨b,0,[],al,(dN.new du bb).ag du bK.af,by simp;omega,by simp,by simp,by simp,λ_ _=>rfl,?_,by simp⟩,by simp [oK],by simp [oK],λ_=>by simp [oK],?_⟩ (bb.af.aT bK.af)⟩
 ·simp only [oK]
  split<;>(repeat' split)<;>omega
 ·intro k hk
  simp at hk
  omega
theorem agX{ck:Nat}{L:List (cR ByteArray)}{K:Value->U->Prop}(hm:dN ej H r ck L)(hk:∀fS H',H.size<=fS->dN ej H' fS ck L->Fr [] H H'->K (.iface 125 (.map (some fS))) H'):
  pX azB 340 ⟨[.iface 125 (.map (some r))]⟩ H K:=by
 intro E d
 refine⟨_,H.push (.map ⟨L.map ej.hb⟩ ck),d,?_,hk H.size _ (axx _) ⟨by simp,hm.wf⟩ (Ek _ _)⟩
 rw [run_callFunc_extern (e:=Extern.MapsClone.clone) Tryz.func340 (by kernel_rfl) (by kernel_rfl) (by kernel_rfl) (by kernel_rfl)]
 have h1:=Mp (P:=azB) hm.bz (by simp) (bf E H d) rfl
 have e:(Extern.MapsClone.clone ⟨[.iface 125 (.map (some r))]⟩).run azB (bf E H d)=.ok (.iface 125 (.map (some H.size))) (bf E (H.push (.map ⟨L.map ej.hb⟩ ck)) d):=by
  have av:Extern.MapsClone.clone ⟨[.iface 125 (.map (some r))]⟩=(do
    let .map entries clock<-getObj r|stuck "maps.clone: a map expected"
    pure (.iface 125 (.map (some (<-newObj (.map entries clock)))))):=rfl
  rw [av]
  simp only [Sem.run_bind,h1,Result.andThen_ok,run_newObj_alloc]
  rfl
 rw [e]
 rfl
theorem agY{r:Option Nat}:Rd azB (Instr.typeAssert (.iface 125 (.map r)) 20 125 false) H (.map r):=by
 intro w hw
 unfold Instr.typeAssert
 simp [eU azW]
theorem xZ{ck:Nat}{L:List (cR ByteArray)}{K:Nat->U->Prop}(hm:dN ej H r ck L)(hk:∀fS H',H.size<=fS->dN ej H' fS ck L->Fr [] H H'->K fS H'):
  aK 301 [.map (some r)] H λv H'=>∃m,v=.map m/\∃fS,m=some fS/\K fS H':=by
 apply agZ
 refine au (λh=>by simp at h) λ_=>agX hm λfS H' h1 ab ar=>⟨_,rfl,_,agY,_,rfl,_,rfl,hk fS H' h1 ab ar⟩
theorem hC.clone{now:ByteArray->Option ByteArray}{K:Nat->U->Prop}(h:hC H r now N)(hk:∀fS H',H.size<=fS->hC H' fS now N->Fr [] H H'->K fS H'):
  aK 301 [.map (some r)] H λv H'=>∃m,v=.map m/\∃fS,m=some fS/\K fS H':=by
 obtain⟨ck,L,hm,aG,ba⟩:=h
 exact xZ hm λfS H' h1 ab ar=>hk fS H' h1 ⟨ck,L,ab,aG,ba⟩ ar
def oi(now:ByteArray->Option ByteArray)(k v:ByteArray):ByteArray->Option ByteArray:=λx=>if x=k then some v else now x
def vw(now:ByteArray->Option ByteArray)(k:ByteArray):ByteArray->Option ByteArray:=λx=>if x=k then none else now x
theorem ag0{c7:Type}[DecidableEq c7](k:c7)(v:Value)(L:List (cR c7)):(bk.mr k v L).length=L.length:=by
 induction L with
 |nil=>rfl
 |cons x l ih=>
  unfold bk.mr
  split
  ·rfl
  ·simp [ih]
theorem Rx{c7:Type}[DecidableEq c7](k:c7)(v:Value)(ck:Nat)(L:List (cR c7)):(oq k v ck L).length<=L.length+1:=by
 unfold oq
 split
 ·rw [ag0];omega
 ·simp
theorem hC.put{now:ByteArray->Option ByteArray}{K:U->Prop}(h:hC H r now N)(k v:ByteArray)(hk:∀H',hC H' r (oi now k v) (N+1)->Fr [r] H H'->K H'):
  jc azB (Instr.mapUpdate 125 (.map (some r)) (.string k) (.string v)) H K:=by
 obtain⟨ck,L,hm,aG,ba⟩:=h
 refine t' ej (mt:=125) (e:=9) azW hm k λH' fv ai=>hk H' ⟨_,_,fv,?_,λx=> ?_⟩ ai
 ·have:=Rx k (.string v) ck L
  omega
 ·rw [sC]
  unfold oi
  split
  ·rfl
  ·exact ba x
theorem hC.del{ty:TypeId}{now:ByteArray->Option ByteArray}{K:U->Prop}(h:hC H r now N)(k:ByteArray)(hk:∀H',hC H' r (vw now k) N->Fr [r] H H'->K H'):
  bO (Builtin.delete_ ⟨[125,9]⟩ ty ⟨[.map (some r),.string k]⟩) H λv H'=>v=.tuple ⟨[]⟩/\K H':=by
 obtain⟨ck,L,hm,aG,ba⟩:=h
 refine R4 ej (mt:=125) (e:=9) azW hm k λH' fv ai=>hk H' ⟨_,_,fv,?_,λx=> ?_⟩ ai
 ·have:(tv k L).length<=L.length:=aAm _ _
  omega
 ·rw [ag1]
  unfold vw
  split
  ·rfl
  ·exact ba x
theorem Ud:zeroOf azB 9=some (.string ⟨#[]⟩):=by kernel_rfl
theorem hC.look{now:ByteArray->Option ByteArray}(h:hC H r now N)(k:ByteArray):Rd azB (Instr.lookup 125 (.map (some r)) (.string k) false) H (.string ((now k).getD ⟨#[]⟩)):=by
 obtain⟨ck,L,hm,aG,ba⟩:=h
 have:=sQ ej (mt:=125) (e:=9) azW Ud hm k
 rw [ba k]at this
 cases ay:now k<;>rw [ay]at this<;>exact this
theorem hC.H9{now:ByteArray->Option ByteArray}(h:hC H r now N)(k:ByteArray):Rd azB (Instr.lookup 125 (.map (some r)) (.string k) true) H (.tuple ⟨[.string ((now k).getD ⟨#[]⟩),.bool (now k).isSome]⟩):=by
 obtain⟨ck,L,hm,aG,ba⟩:=h
 have:=Dg ej (mt:=125) (e:=9) azW Ud hm k
 rw [ba k]at this
 cases ay:now k<;>rw [ay]at this<;>exact this
structure gB where
 now:ByteArray->Option ByteArray
 last:ByteArray->Option (ByteArray×List Int)
 dir:List Int
 gen:Int
 bad:Bool
structure ib(H:U)(s d:Addr)(cA cu:Nat)(a:Option Addr)(n c:Nat)(Q Sd:List Nat)(st:gB)(m:eX)(N M:Nat):Prop where
 bz:a6 H s [.pointer (some d),.map (some cA),.map (some cu),.slice a n c,.int .i64 st.gen,.bool st.bad]
 now:hC H cA st.now M
 last:nm H cu Q st.last
 dir:bt cH H a n c st.dir
 Bd:∀k∈an a,k∈Q
 uu:oI H d Sd m N
 own:s.block∉cA::cu::Q
 apart:er (s.block::cA::cu::Q) Sd
 Dm:In H Q
theorem ib.af{H':U}{T:List Nat}{st:gB}{m:eX}(h:ib H s d cA cu a n c Q Sd st m N M)(ai:Fr T H H')(h1:er (s.block::cA::cu::Q) T)(ab:er Sd T):ib H' s d cA cu a n c Q Sd st m N M:=
 ⟨h.bz.af ai (h1 _ (by simp)),h.now.af ai (h1 _ (by simp)),h.last.af ai (h1 _ (by simp)) λk hk=>h1 _ (by simp [hk]),h.dir.af ai λaC e=>h1 _ (by simp [h.Bd aC.block (by simp [e,an])]),h.Bd,h.uu.af ai ab,h.own,h.apart,h.Dm.le ai.size⟩
theorem ib.ag{H':U}{st:gB}{m:eX}(h:ib H s d cA cu a n c Q Sd st m N M)(ai:Fr [] H H'):ib H' s d cA cu a n c Q Sd st m N M:=h.af ai (λ_ _=>by simp) (λ_ _=>by simp)
theorem w9{st:gB}{m:eX}{name:ByteArray}{K:ByteArray->Bool->U->Prop}(h:ib H s d cA cu a n c Q Sd st m N M)
  (hk:K ((st.now name).getD ⟨#[]⟩) (st.now name).isSome H):
  aK Mq [ax (some s),aj name] H λv H'=>∃t b,v=.tuple ⟨[.string t,.bool b]⟩/\K t b H':=by
 apply ag2
 exact⟨_,h.bz.ld (by kernel_rfl) rfl,_,_,h.now.H9 name,_,_,rfl,hk⟩
def yP(now:ByteArray->Option ByteArray)(ys:List ByteArray):Prop:=(ys.map bd).Pairwise (·<·)/\∀y,y∈ys↔(now y).isSome
theorem hC.names{now:ByteArray->Option ByteArray}{K:Option Addr->Nat->Nat->U->Prop}(h:hC H r now N)(fl:N<=1000000000000)
  (hk:∀ys a n c H',yP now ys->ys.length<=N->Own bk.kt 9 H.size H' a n c ys->Fr [] H H'->K a n c H'):
  aK 345 [.map (some r)] H λv H'=>∃lD,v=lD/\dy 344 [lD] H' K:=by
 obtain⟨ck,L,hm,aG,ba⟩:=h
 refine agi hm (by omega) λys a n c H' aA aw ai=>hk ys a n c H' ⟨aA.1,λy=> ?_⟩ ?_ aw ai
 ·rw [aA.2]
  constructor
  ·rintro⟨x,aa,rfl⟩
   have:=Mr hm.wf (k:=x.1) (v:=x.2.1) (b:=x.2.2) aa
   rw [ba]at this
   cases ay:now x.1 with
   |none=>rw [ay]at this;cases this
   |some v=>rfl
  ·intro h
   cases ay:now y with
   |none=>rw [ay]at h;cases h
   |some v=>
    have:=ba y
    rw [ay]at this
    obtain⟨b,al⟩:=Bn this
    exact⟨_,al,rfl⟩
 ·have iA:ys.Nodup:=by
   rw [azX]
   have:=aA.1
   rw [az5]at this
   exact this.imp λh e=>by rw [e]at h;exact(az1 _) h
  have:=Mc (L:=L) ⟨iA,λy h=>(aA.2 y).1 h⟩
  omega
def Ia:di (Int×ByteArray):=⟨λx=>[.int .i64 x.1,.string x.2],2,λ_=>rfl,by decide,λ_ v h=>by simp at h;rcases h with rfl|rfl<;>rfl⟩
theorem ag3:j8 azB 446 2 24=true:=by kernel_rfl
theorem ag4:sliceB azB 399 446=true:=by kernel_rfl
structure gX where
 free:List Int
 l9:List (Int×ByteArray)
 h8:Nat
 fits:Bool
def jY(t:gX)(c:ByteArray):gX×Int:=match t.free with
 |[]=>({t with h8:=t.h8+1,fits:=false},500)
 |x::r=>({t with free:=r,l9:=t.l9++[(x,c)],h8:=t.h8+1},x)
def uU(a:Option Addr)(n c:Nat)(ae:List Value)(t:gX):List Value:=.slice a n c::(ae++[.int .i64 t.h8,.bool t.fits])
structure kV(H:U)(dC ew base:Nat)(ae:List Value)(iJ S:List Nat)(t:gX):Prop where
 vl:ae.length=4
 it:∃a n c hI fn jG,a6 H ⟨dC,0,none⟩ (uU a n c ae t)/\Own Ia 446 base H a n c t.l9/\a6 H ⟨ew,0,none⟩ [.slice hI fn jG]/\bt cH H hI fn jG t.free/\(∀k∈an hI,k∈iJ)/\S=dC::ew::an a/\dC∉an a/\ew∉an a
 ne:dC≠ew
 gd:er iJ S
 inF:In H iJ
 po:In H S
theorem kV.af{H':U}{base:Nat}{S T:List Nat}{t:gX}(h:kV H dC ew base ae iJ S t)(ai:Fr T H H')(h1:er iJ T)(ab:er S T):kV H' dC ew base ae iJ S t:=by
 obtain⟨aI,⟨a,n,c,hI,fn,jG,al,aw,cO,hs,aO,bB,cD,cz⟩,ne,gd,uV,r0⟩:=h
 exact⟨aI,⟨a,n,c,hI,fn,jG,al.af ai (ab _ (by simp [bB])),aw.af ai (λaC e=>ab _ (by simp [bB,e,an])),cO.af ai (ab _ (by simp [bB])),hs.af ai (λaC e=>h1 _ (aO _ (by simp [e,an]))),aO,bB,cD,cz⟩,ne,gd,uV.le ai.size,r0.le ai.size⟩
theorem ag5{l sz:Nat}:∀k∈an (df c l sz a),k∈an a:=by
 intro k hk
 rw [vS]at hk
 split at hk
 ·exact hk
 ·cases a with
  |none=>simp [an]at hk
  |some aC=>
   have e:(aC.add (l*sz)).block=aC.block:=by
    cases aC
    unfold Addr.add
    split<;>rfl
   simp only [Option.map_some,an,ayw]at hk⊢
   rw [hk,e]
theorem Ue{base:Nat}{S:List Nat}{t:gX}{c:ByteArray}{K:Int->U->Prop}(h:kV H dC ew base ae iJ S t)(al:base<=H.size)(ay:t.h8<=1000000000)(aH:t.l9.length<=1000000000)
  (hk:∀H' S',kV H' dC ew base ae iJ S' (jY t c).1->Fr S H H'->Grow H S S'->K (jY t c).2 H'):
  dY azB (.func (.func 343) ⟨[]⟩ ⟨[.pointer (some ⟨dC,0,none⟩),.pointer (some ⟨ew,0,none⟩)]⟩) [.string c] H λv H'=>∃n,v=.int .i64 n/\K n H':=by
 refine⟨343,⟨[]⟩,_,rfl,by kernel_rfl,?_⟩
 apply ag6
 obtain⟨aI,⟨a,n,bg,hI,fn,jG,gl,aw,cO,hs,aO,bB,cD,cz⟩,ne,gd,uV,r0⟩:=h
 subst bB
 obtain⟨v1,v2,v3,v4,rfl⟩:∃v1 v2 v3 v4,ae=[v1,v2,v3,v4]:=by
  match ae,aI with
  |[v1,v2,v3,v4],_=>exact⟨v1,v2,v3,v4,rfl⟩
 have iO:=hs.len
 refine⟨t.h8,gl.fk 5 rfl,Go.Proofs.aZ.a6.set gl (j:=5) (v:=.int .i64 (IntKind.i64.wrap ((t.h8:Int)+1))) (by kernel_rfl) (by kernel_rfl) rfl rfl (by simp [uU]) λH1 dA cv=> ?_⟩
 rw [cE (by omega)]at dA
 have zQ:a6 H1 ⟨dC,0,none⟩ (uU a n bg [v1,v2,v3,v4] {t with h8:=t.h8+1}):=dA
 have BT:∀{x:Nat},x≠dC->x∉[dC]:=λh=>by simpa using h
 have El:=cO.af cv (BT (Ne.symm ne))
 have fF:=aw.af cv (λaC e aq=>cD (by simp only [ayw]at aq;simp [e,an,aq]))
 have BU:∀k∈iJ,k≠dC/\k≠ew/\k∉an a:=λk hk=>by
  have:=gd k hk
  simp only [axA,not_or]at this
  exact this
 have gh:=hs.af cv (λaC e=>BT (BU _ (aO _ (by simp [e,an]))).1)
 refine⟨hI,fn,jG,El.bY rfl,?_⟩
 unfold jY at hk
 cases qe:t.free with
 |nil=>
  rw [qe]at hk iO gh
  refine au (λ_=> ?_) (λh=>by simp at iO;subst iO;simp at h)
  refine Go.Proofs.aZ.a6.set zQ (j:=6) (v:=.bool false) (by kernel_rfl) (by kernel_rfl) rfl rfl (by simp [uU]) λao qf bG=>⟨_,rfl,?_⟩
  have ai:Fr (dC::ew::an a) H ao:=cv.trans' bG (λk hk _=>by simp at hk;simp [hk]) (λk hk _=>by simp at hk;simp [hk])
  refine hk ao (dC::ew::an a) ⟨rfl,⟨a,n,bg,hI,fn,jG,qf,fF.af bG (λaC e aq=>cD (by simp only [ayw]at aq;simp [e,an,aq])),El.af bG (BT (Ne.symm ne)),?_,aO,rfl,cD,cz⟩,ne,gd,uV.le ai.size,r0.le ai.size⟩ ai (Grow.refl _ _)
  have:=gh.af bG (λaC e=>BT (BU _ (aO _ (by simp [e,an]))).1)
  exact this
 |cons x r=>
  rw [qe]at hk iO gh
  refine au (λh=>by simp at iO;subst iO;simp at h;omega) λ_=> ?_
  refine⟨hI,fn,jG,El.bY rfl,gh.get (i:=0) (k:=0) rfl rfl (by simp at iO⊢;omega) λaC e av=>⟨x,?_,hI,fn,jG,El.bY rfl,cM (bh (by have:=hs.cap;simp at iO;omega)) ?_⟩⟩
  ·have:=Uf (P:=azB) (t:=3) (by kernel_rfl) av
   simpa [Ms]using this
  have mh:=gh.drop (k:=1) (by simp at iO;omega)
  refine El.iQ (v:=.slice (df jG 1 1 hI) ((fn:Int).toNat-1) (jG-1)) (by kernel_rfl) (by kernel_rfl) (λx aa=>by simp [azI]at aa;subst aa;rfl) (by simp [azI]) λao hb22 bG=> ?_
  have ag7:a6 ao ⟨ew,0,none⟩ [.slice (df jG 1 1 hI) ((fn:Int).toNat-1) (jG-1)]:=by simpa [azI]using hb22
  have Mt:∀{x:Nat},x≠ew->x∉[ew]:=λh=>by simpa using h
  have xF:=zQ.af bG (Mt ne)
  have dk:=fF.af bG (λaC e aq=>cz (by simp only [ayw]at aq;simp [e,an,aq]))
  have Ib:∀k∈an (df jG 1 1 hI),k∈iJ:=λk hk=>aO k (ag5 k hk)
  have zP:=mh.af bG (λaC e=>Mt (BU _ (Ib _ (by rw [show df jG 1 1 hI=some aC from e];simp [an]))).2.1)
  have avJ:base<=ao.size:=by have:=cv.size;have:=bG.size;omega
  refine⟨a,n,bg,xF.bY rfl,λdz aP bw=> ?_⟩
  have avK:=bw.size
  have tw:=cv.size
  have avL:=bG.size
  refine ic (E:=Ia) (bytes:=24) ag4 ag3 (dk.ag bw.af) (fy Ia (x,c) bw rfl) (by omega) (by rw [aw.1];omega) λa4 nL c4 a8 gg cm ko=> ?_
  have GH:=(xF.ag bw.af).af cm cD
  have ag8:=(ag7.ag bw.af).af cm cz
  have mC:∀k∈an a4,k∈an a\/H.size<=k:=λk hk=>(ko k hk).imp id λh=>by omega
  have Gl:dC∉an a4:=λhk=>(mC dC hk).elim cD λh=>by have:=r0 dC (by simp);omega
  have P8:ew∉an a4:=λhk=>(mC ew hk).elim cz λh=>by have:=r0 ew (by simp);omega
  refine GH.iQ (v:=.slice a4 nL c4) (by kernel_rfl) (by kernel_rfl) (λx aa=>by simp [azI]at aa;subst aa;rfl) (by simp [azI,uU]) λbA hb15 cb=>⟨_,rfl,?_⟩
  have f12:Fr (dC::ew::an a) H ao:=cv.trans' bG (λk hk _=>by simp at hk;simp [hk]) (λk hk _=>by simp at hk;simp [hk])
  have f13:Fr (dC::ew::an a) H aP:=f12.trans' bw.af (λk hk _=>hk) (by simp)
  have f14:Fr (dC::ew::an a) H a8:=f13.trans' cm (λk hk _=>hk) (λk hk _=>by simp [hk])
  have f15:Fr (dC::ew::an a) H bA:=f14.trans' cb (λk hk _=>hk) (λk hk _=>by simp at hk;simp [hk])
  refine hk bA (dC::ew::an a4) ⟨rfl,⟨a4,nL,c4,_,_,_,?_,gg.af cb (λaC e aq=>Gl (by simp only [ayw]at aq;simp [e,an,aq])),ag8.af cb (BT (Ne.symm ne)),?_,?_,rfl,Gl,P8⟩,ne,?_,uV.le f15.size,?_⟩ f15 ?_
  ·simpa [azI,uU]using hb15
  ·have a7:=(((zP.ag bw.af).af cm ?_).af cb ?_)
   ·exact a7
   ·intro aC e aq
    exact(BU _ (Ib _ (by rw [show df jG 1 1 hI=some aC from e];simp [an]))).2.2 aq
   ·intro aC e aq
    simp only [ayw]at aq
    exact(BU _ (Ib _ (by rw [show df jG 1 1 hI=some aC from e];simp [an]))).1 aq
  ·exact Ib
  ·intro k hk
   have:=BU k hk
   simp only [axA,not_or]
   refine⟨this.1,this.2.1,λh=>(mC k h).elim this.2.2 λh=>by have:=uV k hk;omega⟩
  ·intro k hk
   simp only [axA]at hk
   have:=f15.size
   rcases hk with hk|hk|hk
   ·have:=r0 dC (by simp);omega
   ·have:=r0 ew (by simp);omega
   ·have:=(gg.ge k hk).2;have:=cb.size;omega
  ·intro k hk
   simp only [axA]at hk
   rcases hk with hk|hk|hk
   ·exact .inl (by simp [hk])
   ·exact .inl (by simp [hk])
   ·exact(mC k hk).imp (λh=>by simp [h]) id
theorem Ug{x:Addr}{v0 v4:Value}{ag9:Bool}{K:Int->U->Prop}(h:a6 H x [v0,.string ⟨#[]⟩,.int .i64 0,.bool ag9,v4])
  (hk:∀H',a6 H' x [v0,.string ⟨#[]⟩,.int .i64 0,.bool false,v4]->Fr [x.block] H H'->K 0 H'):
  cG ag' [ax (some x)] H K:=by
 apply aha
 refine⟨_,h.ld (by kernel_rfl) rfl,_,h.ld (by kernel_rfl) rfl,zR (by simp [azC]) (λal=>absurd ⟨by omega,by simp [azC]⟩ al) λa b4 bW v n e ba=> ?_⟩
 have he:e≠0:=by
  have te:(bd ⟨#[]⟩).drop a=[]:=by simp [bd]
  rw [te]at ba
  rcases ba with⟨n,rfl,h1,ab,ar,a7,bs⟩|⟨_,_,h,_⟩|⟨_,_,h,_⟩
  ·exfalso
   have:cn n=[]:=ayT (by simpa using ar)
   unfold cn at this
   split at this<;>cases this
  ·omega
  ·omega
 refine⟨λ_ _=>False,⟨λae H'=>ae=[.bool true]/\H'=H,au (λ_=>⟨rfl,rfl⟩) (λh=>by simp at h;exact absurd h he),?_⟩,λbr H' h=>h.elim⟩
 rintro br b H' ⟨al,rfl⟩
 cases al
 refine au (λ_=> ?_) (λh=>by simp at h)
 exact Go.Proofs.aZ.a6.set h (j:=3) (by kernel_rfl) (by kernel_rfl) rfl rfl (by simp) λH' ff ai=>⟨_,rfl,hk H' ff ai⟩
theorem ahb{m:eX}{slot:Int}{K:U->Prop}(h:oI H d Sd m N)(fl:N<=1000000)(he:(zM m slot).1=⟨#[]⟩)(hk:∀H',Fr [] H H'->K H'):
  aK ahc [ax (some d),o slot] H λv H'=>∃g r a n c,v=.tuple ⟨[.int .i64 g,.map r,.slice a n c]⟩/\g=0/\K H':=by
 apply ahd
 refine af1 h fl λb H1 bb b1 ao bK=> ?_
 rw [he]at bK
 have f2:=bb.af.aT bK.af
 have aL:=bb.eq
 have a':=bK.eq
 have s1:=bb.size
 refine Ug bK.bz λaP fm f3=>Ug fm λa8 gm f4=> ?_
 have f24:Fr [] H a8:=(f2.ag f3 (by simp;omega)).ag f4 (by simp;omega)
 refine⟨λae H'=>ae=[.bool true]/\H'=a8,⟨false,gm.fk 3 rfl,au (λ_=>⟨rfl,rfl⟩) (λh=>by simp at h)⟩,?_⟩
 rintro br o4 H' ⟨al,rfl⟩
 cases al
 exact au (λ_=>⟨_,_,_,_,_,rfl,rfl,hk _ f24⟩) (λh=>by simp at h)
def BV:gB:={now:=λ_=>none,last:=λ_=>none,dir:=[],gen:=0,bad:=false}
theorem ahe{m:eX}{K:Option Addr->Int->U->Prop}(h:oI H d Sd m N)(fl:N<=1000000)(D0:m.off=false)(he:∀i:Int,0<=i->i<2->(zM m i).1=⟨#[]⟩)
  (hk:∀s cA cu H',(∀k∈[s.block,cA,cu],H.size<=k/\k<H'.size)->ib H' s d cA cu none 0 0 [] Sd BV m N 0->Fr [] H H'->K (some s) 0 H'):
  aK ahf [ax (some d)] H λv H'=>∃a e,v=.tuple ⟨[.pointer a,.int .i64 e]⟩/\K a e H':=by
 apply ahg
 refine afW h ?_
 show aU m.off _ _
 refine au (λh=>by rw [D0]at h;cases h) λ_=>λb H1 bb b1 ao bK bI aP bw=> ?_
 have aL:=bb.eq
 have a':=bK.eq
 have cX:=bw.eq
 have s1:=bb.size
 have s2:=bK.size
 have f3:=(bb.af.aT bK.af).aT bw.af
 refine⟨λae H'=>match ae with|[.int _ i]=>∃j:Nat,i=j/\j<=2/\Fr [] aP H'|_=>False,λae _=>match ae with|[.int _ i]=>2-i.toNat|_=>0,⟨0,rfl,by omega,Fr.refl _ _⟩,?_⟩
 rintro br i a8 ⟨j,rfl,bq,ai⟩
 have f4:=f3.aT ai
 refine au (λaF=> ?_) (λaF=> ?_)
 ·have b':j<2:=by simp at aF;omega
  refine fo.mono (ahb (K:=λH'=>Fr [] a8 H') (h.ag f4) fl (he j (by omega) (by omega)) (λH' eE=>eE)) λv bA=> ?_
  rintro⟨g,r,a,n,c,rfl,rfl,cb⟩
  refine⟨_,_,_,_,_,rfl,0,((bw.bz.ag ai).ag cb).cF 4 rfl,au (λh=>by simp at h) λ_=>⟨⟨j+1,cE (by omega),by omega,ai.aT cb⟩,?_⟩⟩
  show 2-(IntKind.i64.wrap ((j:Int)+1)).toNat<2-((j:Nat):Int).toNat
  rw [cE (by omega)]
  exact dU b'
 ·have al:=bw.bz.ag ai
  have p9:dN ej a8 b1 0 []:=((dN.new ej bK).ag ej bw.af).ag ej ai
  have jU:dN ej a8 b 0 []:=(((dN.new ej bb).ag ej bK.af).ag ej bw.af).ag ej ai
  refine⟨some b1,al.cF 2 rfl,CV ej (mt:=126) (e:=132) az0 p9 λit bA gH=>⟨λ_ H'=>Fr [] a8 H'/\H'[it]?=some (.mapIter (some b1) 0 #[] 0),λ_ _=>0,⟨gH.af,gH.get⟩,?_⟩⟩
  rintro ek ct ⟨de,AQ⟩
  refine CX ej (p9.ag ej de) AQ (λ_=>⟨_,_,rfl,?_⟩) λx aa=>by simp at aa
  have Mu:=ai.aT de
  refine hk ⟨bI,0,none⟩ b b1 ct (λk hk=>by have:=Mu.size;have:=bw.size;simp at hk;rcases hk with rfl|rfl|rfl<;>omega) ⟨al.ag de,⟨0,[],jU.ag ej de,by simp,λ_=>rfl⟩,⟨0,[],p9.ag ej de,by simp,λ_ _=>rfl⟩,bt.zero,by simp [an],h.ag (f3.aT Mu),by simp;omega,λk hk dc=> ?_,by intro k hk;simp at hk⟩ (f3.aT Mu)
  have:=h.po k dc
  simp only [axA,azS,or_false]at hk
  omega
def Mv(Bk:Value)(G:U->Prop)(ch:(ByteArray->Option ByteArray)->ByteArray->Option ByteArray):Prop:=
 ∀(r N:Nat) (now:ByteArray->Option ByteArray) (H:U) (K:U->Prop),G H->hC H r now N->(∀H',hC H' r (ch now) (N+1)->Fr [r] H H'->K H')->dY azB Bk [.map (some r)] H λv H'=>v=.tuple ⟨[]⟩/\K H'
theorem hC.mono{Em:Nat}{now:ByteArray->Option ByteArray}(h:hC H r now N)(fl:N<=Em):hC H r now Em:=by
 obtain⟨ck,L,hm,aG,ba⟩:=h
 exact⟨ck,L,hm,by omega,ba⟩
theorem ahh{b1:Nat}{name data:ByteArray}:Mv (.func (.func 242) ⟨[]⟩ ⟨[.pointer (some ⟨b1,0,none⟩),.pointer (some ⟨b,0,none⟩)]⟩) (λH=>a6 H ⟨b1,0,none⟩ [.string data]/\a6 H ⟨b,0,none⟩ [.string name]) λnow=>oi now name data:=by
 intro r N now H K cx h hk
 obtain⟨h1,ab⟩:=cx
 refine⟨242,⟨[]⟩,_,rfl,by kernel_rfl,?_⟩
 apply ahi
 exact⟨_,ab.bY rfl,_,h1.bY rfl,h.put name data λH' h' ai=>⟨rfl,hk H' h' ai⟩⟩
theorem ahj{name:ByteArray}:Mv (.func (.func 243) ⟨[]⟩ ⟨[.pointer (some ⟨b,0,none⟩)]⟩) (λH=>a6 H ⟨b,0,none⟩ [.string name]) λnow=>vw now name:=by
 intro r N now H K cx h hk
 refine⟨243,⟨[]⟩,_,rfl,by kernel_rfl,?_⟩
 apply ahk
 exact⟨_,cx.bY rfl,h.del name λH' h' ai=>⟨rfl,hk H' (h'.mono (by omega)) ai⟩⟩
theorem Uh:zeroOf azB 132=some (.agg ⟨[.string ⟨#[]⟩,.slice none 0 0]⟩):=by kernel_rfl
theorem nm.H9{last:ByteArray->Option (ByteArray×List Int)}(h:nm H r Q last)(k:ByteArray):
  ∃d a n c xs,Rd azB (Instr.lookup 126 (.map (some r)) (.string k) true) H (.tuple ⟨[.agg ⟨[.string d,.slice a n c]⟩,.bool (last k).isSome]⟩)/\Rd azB (Instr.lookup 126 (.map (some r)) (.string k) false) H (.agg ⟨[.string d,.slice a n c]⟩)∧
   (last k).getD (⟨#[]⟩,[])=(d,xs)/\bt cH H a n c xs/\(∀k∈an a,k∈Q):=by
 obtain⟨ck,L,hm,he,ay⟩:=h
 have kd:=Dg ej (mt:=126) (e:=132) az0 Uh hm k
 have gA:=sQ ej (mt:=126) (e:=132) az0 Uh hm k
 cases ba:dm k L with
 |none=>
  rw [ba]at kd gA
  rw [ay k ba]
  exact⟨_,none,0,0,[],kd,gA,rfl,bt.zero,by simp [an]⟩
 |some v=>
  obtain⟨b,al⟩:=Bn ba
  obtain⟨d,a,n,c,xs,e,hs,aO,aG⟩:=he _ al
  rw [ba]at kd gA
  simp only at e
  subst e
  rw [aG]
  exact⟨d,a,n,c,xs,kd,gA,rfl,hs,aO⟩
def jr(gi:List ByteArray)(ws:List Int):List ByteArray->Nat->gX->gX×List Int
 |[],_,t=>(t,[])
 |c::l,j,t=>
  let x:=if gi[j]?=some c then(t,ws.getD j 0)else jY t c
  let y:=jr gi ws l (j+1) x.1
  (y.1,x.2::y.2)
def jZ(last:ByteArray->Option (ByteArray×List Int))(now:ByteArray->Option ByteArray):List ByteArray->gX->gX×List (ByteArray×ByteArray×List Int)
 |[],t=>(t,[])
 |y::l,t=>
  let w:=(last y).getD (⟨#[]⟩,[])
  let dat:=(now y).getD ⟨#[]⟩
  let x:=jr (eT w.1) w.2 (eT dat) 0 t
  let z:=jZ last now l x.1
  (z.1,(y,dat,x.2)::z.2)
def oL:List ByteArray->gX->gX×List Int
 |[],t=>(t,[])
 |c::l,t=>
  let x:=jY t c
  let y:=oL l x.1
  (y.1,x.2::y.2)
def rj(e3:List (ByteArray×ByteArray×List Int)):List UInt8:=
 cn e3.length++e3.flatMap λf=>e6 f.1++cn f.2.1.size++f.2.2.flatMap λn=>cn (IntKind.u64.wrap n).toNat
structure UE where
 uZ:gX
 files:List (ByteArray×ByteArray×List Int)
 MA:List UInt8
 dirS:List Int
 all:Nat
 fits:Bool
noncomputable def oh(size:Int)(last:ByteArray->Option (ByteArray×List Int))(dir:List Int)(now:ByteArray->Option ByteArray)(ys:List ByteArray):UE:=
 let t0:gX:={free:=ja (oY last dir) size.toNat,l9:=[],h8:=0,fits:=true}
 let x:=jZ last now ys t0
 let da:=rj x.2
 let y:=oL (eT ⟨da.toArray⟩) x.1
 let all:=(x.2.map λf=>f.2.2.length).sum
 {uZ:=y.1,files:=x.2,MA:=da,dirS:=y.2,all:=all,fits:=y.1.fits&&decide (y.2.length<=20)&&decide ((all:Int)+2*y.2.length<=size-2)}
theorem PO(gi:List ByteArray)(ws:List Int):∀(l:List ByteArray) (j:Nat) (t:gX),(jr gi ws l j t).2.length=l.length
 |[],_,_=>rfl
 |c::l,j,t=>by simp only [jr,ayi];rw [PO gi ws l]
theorem PU:∀(l:List ByteArray) (t:gX),(oL l t).2.length=l.length
 |[],_=>rfl
 |c::l,t=>by simp only [oL,ayi];rw [PU l]
theorem a6.Mw{P:Program}{t:TypeId}{v:Value}{X:U->Prop}(h:a6 H ⟨b,0,none⟩ ae)(hs:hy P t=1)(az:(P.info? t).isSome=true)(aI:v.cells= #[v])(h1:v.oneCell'=true)(bq:j<ae.length)
  (k:∀H',a6 H' ⟨b,0,none⟩ (ae.set j v)->Fr [b] H H'->X H'):∃H',oz P t H ⟨b,j,none⟩ v H'/\X H':=by
 have:=Go.Proofs.aZ.a6.set h hs az aI h1 bq k
 rwa [lg,Nat.zero_add]at this
theorem ahl{k:ByteArray}{v:Value}{ck:Nat}{L:List (cR ByteArray)}(hw:tx ck L){y:cR ByteArray}(h:y∈oq k v ck L):(y.1=k/\y.2.1=v)\/(y.1≠k/\y∈L):=by
 have aH:=hw.put k v
 have ba:=Mr aH (k:=y.1) (v:=y.2.1) (b:=y.2.2) h
 rw [sC]at ba
 by_cases e:y.1=k
 ·rw [if_pos e]at ba
  injection ba with ba
  exact .inl ⟨e,ba.symm⟩
 ·refine .inr ⟨e,?_⟩
  unfold oq at h
  split at h
  ·have:∀M:List (cR ByteArray),y∈bk.mr k v M->y∈M:=by
    intro M
    induction M with
    |nil=>exact id
    |cons x l ih=>
     unfold bk.mr
     split
     ·intro h
      rcases axA.1 h with h|h
      ·exact absurd (by rw [h]) e
      ·exact axU _ h
     ·intro h
      rcases axA.1 h with h|h
      ·rw [h];exact List.mem_cons_self
      ·exact axU _ (ih h)
   exact this L h
  ·rcases azb.1 h with h|h
   ·exact h
   ·exact absurd (by rw [ayw.1 h]) e
def En(last:ByteArray->Option (ByteArray×List Int))(k:ByteArray)(v:ByteArray×List Int):ByteArray->Option (ByteArray×List Int):=λx=>if x=k then some v else last x
theorem nm.put{last:ByteArray->Option (ByteArray×List Int)}{K:U->Prop}(h:nm H r Q last){d:ByteArray}{xs:List Int}(k:ByteArray)(hs:bt cH H a n c xs)(aB:r∉Q++an a)
  (hk:∀H',nm H' r (Q++an a) (En last k (d,xs))->Fr [r] H H'->K H'):
  jc azB (Instr.mapUpdate 126 (.map (some r)) (.string k) (.agg ⟨[.string d,.slice a n c]⟩)) H K:=by
 obtain⟨ck,L,hm,he,ay⟩:=h
 refine t' ej (mt:=126) (e:=132) az0 hm k λH' fv ai=>hk H' ⟨_,_,fv,λx aa=> ?_,λy aA=> ?_⟩ ai
 ·have aO:∀k∈Q++an a,k∉[r]:=λk hk e=>by simp only [ayw]at e;exact aB (e▸hk)
  unfold En
  rcases ahl hm.wf aa with⟨aL,a'⟩|⟨aL,a'⟩
  ·exact⟨d,a,n,c,xs,a',hs.af ai (λaC e=>aO _ (by simp [e,an])),λk hk=>by simp [hk],by rw [if_pos aL]⟩
  ·obtain⟨d',aV,bn,bg,oH,e,cQ,BW,xM⟩:=he x a'
   exact⟨d',aV,bn,bg,oH,e,cQ.af ai (λaC e=>aO _ (by simp [BW aC.block (by simp [e,an])])),λk hk=>by simp [BW k hk],by rw [if_neg aL];exact xM⟩
 ·rw [sC]at aA
  unfold En
  split at aA
  ·cases aA
  ·rename_i h;rw [if_neg h];exact ay y aA
def zS(e3:List (ByteArray×ByteArray×List Int)):ByteArray->Option (ByteArray×List Int):=e3.foldl (λf x=>En f x.1 x.2) λ_=>none
theorem ahm(e3:List (ByteArray×ByteArray×List Int))(x:ByteArray×ByteArray×List Int):zS (e3++[x])=En (zS e3) x.1 x.2:=by
 unfold zS;rw [List.foldl_append];rfl
theorem kV.ahn{base:Nat}{S:List Nat}{t:gX}(h:kV H dC ew base ae iJ S t):dC∈S/\ew∈S:=by
 obtain⟨_,⟨a,n,c,hI,fn,jG,_,_,_,_,_,bB,_⟩,_⟩:=h
 subst bB;simp
theorem kV.Mx{base:Nat}{S:List Nat}{t:gX}(h:kV H dC ew base ae iJ S t){ty:TypeId}{v:Value}{X:U->Prop}(hs:hy azB ty=1)(az:(Tryz.prog.info? ty).isSome=true)(aI:v.cells= #[v])(h1:v.oneCell'=true)(bq:j<4)
  (k:∀H',kV H' dC ew base (ae.set j v) iJ S t->Fr [dC] H H'->X H'):∃H',bp ty H ⟨dC,j+1,none⟩ v H'/\X H':=by
 obtain⟨jV,⟨a,n,c,hI,fn,jG,gl,aw,cO,eo,aO,bB,cD,cz⟩,ne,gd,uV,r0⟩:=h
 refine a6.Mw gl hs az aI h1 (by simp [uU,jV];omega) λH' al ai=>k H' ⟨by simpa using jV,⟨a,n,c,hI,fn,jG,?_,aw.af ai ?_,cO.af ai ?_,eo.af ai ?_,aO,bB,cD,cz⟩,ne,gd,uV.le ai.size,r0.le ai.size⟩ ai
 ·refine Go.Proofs.aZ.a6.cast al ?_
  unfold uU
  rw [List.set_cons_succ,List.set_append_left _ _ (by omega)]
 ·intro aC e aq;exact cD (by simp only [ayw]at aq;simp [e,an,aq])
 ·simpa using Ne.symm ne
 ·intro aC e aq
  have:=gd _ (aO aC.block (by simp [e,an]))
  rw [bB]at this
  simp only [ayw]at aq
  rw [aq]at this
  simp at this
theorem kV.aho{base:Nat}{S:List Nat}{t:gX}(h:kV H dC ew base ae iJ S t){b:Bool}{X:U->Prop}
  (k:∀H',kV H' dC ew base ae iJ S {t with fits:=b}->Fr [dC] H H'->X H'):∃H',bp 4 H ⟨dC,6,none⟩ (.bool b) H'/\X H':=by
 obtain⟨jV,⟨a,n,c,hI,fn,jG,gl,aw,cO,eo,aO,bB,cD,cz⟩,ne,gd,uV,r0⟩:=h
 refine a6.Mw gl (by kernel_rfl) (by kernel_rfl) rfl rfl (by simp [uU,jV]) λH' al ai=>k H' ⟨jV,⟨a,n,c,hI,fn,jG,?_,aw.af ai ?_,cO.af ai ?_,eo.af ai ?_,aO,bB,cD,cz⟩,ne,gd,uV.le ai.size,r0.le ai.size⟩ ai
 ·refine Go.Proofs.aZ.a6.cast al ?_
  obtain⟨v1,v2,v3,v4,rfl⟩:∃v1 v2 v3 v4,ae=[v1,v2,v3,v4]:=by
   match ae,jV with
   |[v1,v2,v3,v4],_=>exact⟨v1,v2,v3,v4,rfl⟩
  rfl
 ·intro aC e aq;exact cD (by simp only [ayw]at aq;simp [e,an,aq])
 ·simpa using Ne.symm ne
 ·intro aC e aq
  have:=gd _ (aO aC.block (by simp [e,an]))
  rw [bB]at this
  simp only [ayw]at aq
  rw [aq]at this
  simp at this
theorem kV.ye{base:Nat}{S:List Nat}{t:gX}(h:kV H dC ew base ae iJ S t){ty:TypeId}{v:Value}(aW:nn azB ty=false)(aI:ae[j]?=some v):ah ty H ⟨dC,j+1,none⟩ v:=by
 obtain⟨jV,⟨a,n,c,hI,fn,jG,gl,_⟩,_⟩:=h
 refine gl.My aW ?_
 unfold uU
 have:j<ae.length:=(axC.1 aI).1
 rw [ayu,azd this];exact aI
theorem kV.ahp{base:Nat}{S:List Nat}{t:gX}(h:kV H dC ew base ae iJ S t):ah 4 H ⟨dC,6,none⟩ (.bool t.fits):=by
 obtain⟨jV,⟨a,n,c,hI,fn,jG,gl,_⟩,_⟩:=h
 obtain⟨v1,v2,v3,v4,rfl⟩:∃v1 v2 v3 v4,ae=[v1,v2,v3,v4]:=by
  match ae,jV with
  |[v1,v2,v3,v4],_=>exact⟨v1,v2,v3,v4,rfl⟩
 exact gl.My (by kernel_rfl) rfl
structure uW(t:gX)(B:Nat):Prop where
 h8:t.h8<=B
 l9:t.l9.length<=B
theorem uW.take{t:gX}{B:Nat}(h:uW t B)(c:ByteArray):uW (jY t c).1 (B+1):=by
 obtain⟨h1,ab⟩:=h
 unfold jY
 split
 ·exact⟨by simp;omega,by simp;omega⟩
 ·exact⟨by simp;omega,by simp;omega⟩
theorem uW.mono{t:gX}{B Mz:Nat}(h:uW t B)(al:B<=Mz):uW t Mz:=⟨by have:=h.h8;omega,by have:=h.l9;omega⟩
theorem Ui(n:Int):0<=IntKind.u64.wrap n/\IntKind.u64.wrap n<18446744073709551616:=by
 have:IntKind.u64.wrap n=n % 18446744073709551616:=by
  simp [azQ,azF,azO]
 rw [this];omega
theorem tm(x y:List UInt8):((⟨x.toArray⟩:ByteArray)++⟨y.toArray⟩)=⟨(x++y).toArray⟩:=by
 apply iV
 simp [bd]
def sl(l:List Int):List UInt8:=l.flatMap λn=>cn (IntKind.u64.wrap n).toNat
def rk(f:ByteArray×ByteArray×List Int):List UInt8:=e6 f.1++cn f.2.1.size++sl f.2.2
theorem PS(e3:List (ByteArray×ByteArray×List Int)):rj e3=cn e3.length++e3.flatMap rk:=rfl
theorem ahq(l:List Int):(sl l).length<=10*l.length:=by
 induction l with
 |nil=>simp [sl]
 |cons x l ih=>
  have:=Ui x
  have:=hD (n:=(IntKind.u64.wrap x).toNat) (by omega)
  unfold sl at ih⊢
  simp only [axO,ax6,ayi];omega
theorem ahr(l:List Int)(x:Int):sl (l++[x])=sl l++cn (IntKind.u64.wrap x).toNat:=by simp [sl]
structure sy(st:gB)(now:ByteArray->Option ByteArray):Prop where
 dir:st.dir.length<=1000000
 last:∀bX d xs,st.last bX=some (d,xs)->xs.length=js d.size/\d.size<=30000000
 now:∀y d,now y=some d->y.size<=100000/\d.size<=30000000
theorem hC.len{now:ByteArray->Option ByteArray}(h:hC H r now N):
  ∃BX:Nat,(∀ty,Rd azB (Builtin.len_ ⟨[125]⟩ ty ⟨[.map (some r)]⟩) H (.int .i64 BX))/\BX<=N/\∀ys,yP now ys->ys.length=BX:=by
 obtain⟨ck,L,hm,aG,ba⟩:=h
 refine⟨L.length,λty=>Uj ej azW hm,aG,λys aA=> ?_⟩
 have iA:ys.Nodup:=by
  rw [azX]
  have:=aA.1
  rw [az5]at this
  exact this.imp λh e=>by rw [e]at h;exact(az1 _) h
 have kl:∀k,k∈ys↔k∈L.map (·.1):=λk=>by
  rw [aA.2 k]
  have h1:=ba k
  have ab:=AO (k:=k) (L:=L)
  cases ay:now k with
  |none=>rw [ay]at h1;simp only [Option.isSome_none,Bool.false_eq_true,false_iff];exact ab.1 h1
  |some v=>
   rw [ay]at h1
   simp only [Option.isSome_some,true_iff]
   refine Classical.byContradiction λh=> ?_
   rw [ab.2 h]at h1;cases h1
 have:=((List.perm_ext_iff_of_nodup iA hm.wf.keys).2 kl).length_eq
 rw [this,azU]
structure ahs(dx:U)(dC ew bI base:Nat)(iJ:List Nat)(last:ByteArray->Option (ByteArray×List Int))(now:ByteArray->Option ByteArray)(ys:List ByteArray)(t0:gX)(j:Nat)(x:ByteArray)(H':U):Prop where
 it:∃(S:List Nat) (t:gX) (e3:List (ByteArray×ByteArray×List Int)) (all:Nat) (r1:List Nat),kV H' dC ew base [.map (some bI),.string ⟨#[]⟩,.slice none 0 0,.int .i64 all] iJ S t/\nm H' bI r1 (zS e3)/\x=⟨(cn ys.length++e3.flatMap rk).toArray⟩∧
  jZ last now ys t0=((jZ last now (ys.drop j) t).1,e3++(jZ last now (ys.drop j) t).2)/\all=(e3.map λf=>f.2.2.length).sum/\e3.length=j/\uW t (480000*j)/\(e3.flatMap rk).length<=6000000*j/\all<=480000*j/\Fr [dC,ew,bI] dx H'/\Grow dx [dC,ew] S/\(∀k∈r1,dx.size<=k/\k<H'.size/\k∉S)
structure aht(ct:U)(dC ew base b:Nat)(ae:List Value)(iJ S:List Nat)(gi:List ByteArray)(ws:List Int)(cs:List ByteArray)(dat:ByteArray)(pre:List UInt8)(t:gX)(B fT:Nat)(x:ByteArray)(H':U):Prop where
 it:∃(S2:List Nat) (t2:gX) (j4:Option Addr) (jf kG:Nat) (xs:List Int),kV H' dC ew base ae iJ S2 t2/\a6 H' ⟨b,0,none⟩ [.string dat,.slice j4 jf kG]/\Own cH 3 ct.size H' j4 jf kG xs/\x=⟨(pre++sl xs).toArray⟩∧
  jr gi ws cs 0 t=((jr gi ws (cs.drop fT) fT t2).1,xs++(jr gi ws (cs.drop fT) fT t2).2)/\xs.length=fT/\uW t2 (B+fT)/\Fr (b::S) ct H'/\Grow ct S S2/\(∀k∈an j4,k∉S2)
structure ahu(ct:U)(dC ew bI base:Nat)(da:ByteArray)(all:Nat)(iJ S:List Nat)(cs:List ByteArray)(t:gX)(B fT:Nat)(H':U):Prop where
 it:∃(S2:List Nat) (t2:gX) (j4:Option Addr) (jf kG:Nat) (xs:List Int),kV H' dC ew base [.map (some bI),.string da,.slice j4 jf kG,.int .i64 all] iJ S2 t2/\Own cH 3 ct.size H' j4 jf kG xs∧
  oL cs t=((oL (cs.drop fT) t2).1,xs++(oL (cs.drop fT) t2).2)/\xs.length=fT/\uW t2 (B+fT)/\Fr S ct H'/\Grow ct S S2/\(∀k∈an j4,k∉S2)
theorem ahv(last:ByteArray->Option (ByteArray×List Int))(now:ByteArray->Option ByteArray){ys:List ByteArray}{y:ByteArray}(aA:ys[j]?=some y)(t:gX){wd dat:ByteArray}{ws:List Int}(hw:(last y).getD (⟨#[]⟩,[])=(wd,ws))(aR:(now y).getD ⟨#[]⟩=dat):
  jZ last now (ys.drop j) t=((jZ last now (ys.drop (j+1)) (jr (eT wd) ws (eT dat) 0 t).1).1,(y,dat,(jr (eT wd) ws (eT dat) 0 t).2)::(jZ last now (ys.drop (j+1)) (jr (eT wd) ws (eT dat) 0 t).1).2):=by
 obtain⟨h1,ab⟩:=axC.1 aA
 rw [az6 h1,ab,jZ,hw,aR]
theorem ahw{gi:List ByteArray}{ws:List Int}{cs:List ByteArray}{c:ByteArray}(av:cs[j]?=some c)(t:gX):
  jr gi ws (cs.drop j) j t=((jr gi ws (cs.drop (j+1)) (j+1) (if gi[j]?=some c then(t,ws.getD j 0)else jY t c).1).1,(if gi[j]?=some c then(t,ws.getD j 0)else jY t c).2::(jr gi ws (cs.drop (j+1)) (j+1) (if gi[j]?=some c then(t,ws.getD j 0)else jY t c).1).2):=by
 obtain⟨h1,ab⟩:=axC.1 av
 rw [az6 h1,ab,jr]
theorem ahx{cs:List ByteArray}{c:ByteArray}(av:cs[j]?=some c)(t:gX):
  oL (cs.drop j) t=((oL (cs.drop (j+1)) (jY t c).1).1,(jY t c).2::(oL (cs.drop (j+1)) (jY t c).1).2):=by
 obtain⟨h1,ab⟩:=axC.1 av
 rw [az6 h1,ab,oL]
theorem fM{α:Type}{l:List α}{i:Nat}(h:i<l.length):∃x,l[i]?=some x:=⟨l[i],by simp⟩
theorem Uk(h:n<=30000000):js n<=480000:=by unfold js;omega
theorem w6(l:List UInt8):(⟨l.toArray⟩:ByteArray).size=l.length:=by simp [azC]
theorem ahy{st:gB}{m:eX}{kj:Nat}{now:ByteArray->Option ByteArray}
  {K:Option Addr->Nat->Nat->Option Nat->ByteArray->Option Addr->Nat->Nat->Int->Int->Bool->U->Prop} (h:ib H s d cA cu a n c Q Sd st m N M) (ay:hC H r now kj) (cV:kj<=100) (bM:sy st now)
  (hk:∀ys pw uX uY yf y2 ow Ba H' r1,yP now ys->bt Ia H' pw uX uY (oh m.size st.last st.dir now ys).uZ.l9->(∀k∈an pw,H.size<=k)->nm H' yf r1 (zS (oh m.size st.last st.dir now ys).files)→
   bt cH H' y2 ow Ba (oh m.size st.last st.dir now ys).dirS->(∀k∈an y2,H.size<=k)->(∀k∈r1,H.size<=k)->H.size<=yf->Fr [] H H'→
   yf∉r1++an y2++an pw->In H' (r1++an y2++an pw)→
   K pw uX uY (some yf) ⟨(oh m.size st.last st.dir now ys).MA.toArray⟩ y2 ow Ba (oh m.size st.last st.dir now ys).all (oh m.size st.last st.dir now ys).uZ.h8 (oh m.size st.last st.dir now ys).fits H'):
  aK 302 [ax (some s),.map (some r)] H λv H'=>∃a n c r s ie iT hg sB sF b,v=.agg ⟨[.slice a n c,.map r,.string s,.slice ie iT hg,.int .i64 sB,.int .i64 sF,.bool b]⟩/\K a n c r s ie iT hg sB sF b H':=by
 apply ahz
 intro im H1 bb
 have h1:=h.ag bb.af
 have uT:=h.dir.len
 have avM:=bb.eq
 have s1:=bb.size
 refine agE h1.bz rfl rfl rfl h1.uu h1.last h1.dir (by have:=bM.dir;omega) (λbX d xs e=>by have:=(bM.last bX d xs e);have:=Uk this.2;omega) λhI fn jG ao hfo bG=> ?_
 refine iS (by kernel_rfl) (by kernel_rfl) (λx aa=>by simp [azI]at aa;subst aa;rfl) (by rfl) λew aP Mt Ic bP bI a8 cS=> ?_
 have Ic:a6 aP ⟨ew,0,none⟩ [.slice hI fn jG]:=by simpa [azI]using Ic
 have Ie:=cS.eq
 have Ig:=cS.size
 refine iS (by kernel_rfl) (by kernel_rfl) (λx aa=>by simp [azI]at aa;rcases aa with rfl|rfl|rfl|rfl|rfl|rfl|rfl<;>rfl) (by rfl) λdC bA BT Ih cb=> ?_
 have Ih:a6 bA ⟨dC,0,none⟩ [.slice none 0 0,.map (some bI),.string ⟨#[]⟩,.slice none 0 0,.int .i64 0,.int .i64 0,.bool true]:=by simpa [azI]using Ih
 have f12:=bb.af.aT bG
 have f13:=f12.aT bP
 have f14:=f13.aT cS.af
 have f15:=f14.aT cb
 have s2:=bG.size
 have qA:=bP.size
 have HZ:=cb.size
 have ahA:=Ic.lt
 have ahB:=Ih.lt
 simp only at ahA ahB
 have gH:=ay.af f15 (by simp)
 obtain⟨BX,hlen,avN,Kl⟩:=gH.len
 refine⟨BX,hlen 3,?_⟩
 rw [ix (by omega) (by omega)]
 refine qK (n:=BX) (by omega) λct de=> ?_
 have HY:=de.size
 refine(gH.af de (by simp)).names (by omega) λys na pg nc dx ru s0 cq e4=> ?_
 have RC:=e4.size
 have f17:=(f15.aT de).aT e4
 have iD:=Kl ys ru
 have kq:=cq.1
 subst iD
 have avO:im<dC:=by omega
 have BY:a6 dx ⟨im,0,none⟩ [.slice none 0 0,.map none,.string ⟨#[]⟩,.slice none 0 0,.int .i64 0,.int .i64 0,.bool false]:=((((((bb.bz.ag bG).ag bP).ag cS.af).ag cb).ag de).ag e4)
 have MB:∀k∈an hI,H1.size<=k/\k<ao.size:=hfo.ge
 have zy:=((((hfo.bT.ag bP).ag cS.af).ag cb).ag de).ag e4
 have gv:kV dx dC ew H.size [.map (some bI),.string ⟨#[]⟩,.slice none 0 0,.int .i64 (0:Nat)] (an hI) [dC,ew] {free:=ja (oY st.last st.dir) m.size.toNat,l9:=[],h8:=0,fits:=true}:=by
  refine⟨rfl,⟨none,0,0,hI,fn,jG,(Ih.ag de).ag e4,Own.nil _ _ _ _,(((Ic.ag cS.af).ag cb).ag de).ag e4,zy,λk hk=>hk,rfl,by simp [an],by simp [an]⟩,by omega,?_,?_,?_⟩
  ·intro k hk;have:=MB k hk;simp;omega
  ·intro k hk;have:=MB k hk;omega
  ·intro k hk;simp only [axA,azS,or_false]at hk;omega
 have ahC:nm dx bI [] (zS []):=⟨0,[],(((dN.new ej cS).ag ej cb).ag ej de).ag ej e4,by simp,λ_ _=>rfl⟩
 generalize A7:({free:=ja (oY st.last st.dir) m.size.toNat,l9:=[],h8:=0,fits:=true}:gX)=t0 at gv
 have Ii:∀k∈an hI,k≠dC/\k≠ew/\k≠bI/\k<dx.size:=λk hk=>by have:=MB k hk;omega
 refine⟨λae H'=>match ae with|[.string x,.int _ i]=>∃j:Nat,i=j/\j<=ys.length/\ahs dx dC ew bI H.size (an hI) st.last now ys t0 j x H'|_=>False,
  λae _=>match ae with|[_,.int _ i]=>ys.length-i.toNat|_=>0,⟨0,rfl,by omega,⟨[dC,ew],t0,[],0,[],gv,ahC,by simp,by simp,rfl,rfl,⟨by subst A7;simp,by subst A7;simp⟩,by simp,by omega,Fr.refl _ _,Grow.refl _ _,by simp⟩⟩,?_⟩
 rintro br x i MC ⟨j,rfl,bq,⟨S,t,e3,all,r1,gv,tr,rfl,zT,fe,iO,Ul,Ry,oj,ai,ba,tz⟩⟩
 have BZ:Fr [] H MC:=f17.ag ai (by simp;omega)
 have avP:=ai.size
 have MD:bI∉S:=λhk=>by
  rcases ba _ hk with h|h
  ·simp at h;omega
  ·omega
 have B0:=hD (n:=ys.length) (by omega)
 have ahD:bt bk.kt MC na pg nc ys:=cq.bT.af ai λaC e=>by
  have:=cq.ge aC.block (by simp [e,an])
  simp;omega
 refine au (λaF=> ?_) (λaF=> ?_)
 ·have b':j<ys.length:=by simp at aF;omega
  obtain⟨y,aA⟩:=fM b'
  obtain⟨dat,C5⟩:∃dat,now y=some dat:=by
   have:=(ru.2 y).1 (azR aA)
   cases ay:now y with
   |none=>rw [ay]at this;cases this
   |some v=>exact⟨v,rfl⟩
  have ahE:=bM.now y dat C5
  have ahF:=h.ag BZ
  have yd:=(ay.af BZ (by simp)).look y
  rw [C5]at yd
  simp only [aAn]at yd
  refine ahD.get rfl aA (by simp;omega) λaC e np=>⟨y,jb np,dat,yd,?_⟩
  refine iS (by kernel_rfl) (by kernel_rfl) (λx aa=>by simp [azI]at aa;rcases aa with rfl|rfl<;>rfl) (by rfl) λb B1 al gl g1=> ?_
  have gl:a6 B1 ⟨b,0,none⟩ [.string dat,.slice none 0 0]:=by simpa [azI]using gl
  have Um:=ahF.ag g1
  obtain⟨wd,Ij,wn,Ik,ws,_,gA,ku,ME,ahG⟩:=Um.last.H9 y
  refine⟨some cu,Um.bz.ld (by kernel_rfl) rfl,wd,Ij,wn,Ik,gA,?_⟩
  refine iS (by kernel_rfl) (by kernel_rfl) (λx aa=>by simp [azI]at aa;rcases aa with rfl|rfl<;>rfl) (by rfl) λjy Eo gm Ep g2=> ?_
  have Ep:a6 Eo ⟨jy,0,none⟩ [.string wd,.slice Ij wn Ik]:=by simpa [azI]using Ep
  have avQ:ws.length=js wd.size/\wd.size<=30000000:=by
   cases aG:st.last y with
   |none=>rw [aG]at ku;cases ku;exact⟨rfl,by simp [azC]⟩
   |some v=>
    rw [aG]at ku
    simp only [aAn]at ku
    subst ku
    exact bM.last _ _ _ aG
  refine⟨wd,Ep.bY rfl,Mi (by omega) λkL on ahH MF MG g3=> ?_⟩
  refine⟨dat,((gl.ag g2).ag g3).bY rfl,wj (by omega) λahI g4=>⟨(((gl.ag g2).ag g3).ag g4).bY rfl,?_⟩⟩
  rw [ix (by omega) (by omega)]
  refine qK (n:=dat.size) (by omega) λG5 g5=> ?_
  have avR:=hD (n:=dat.size) (by omega)
  have avS:=hD (n:=y.size) (by omega)
  have xd:(e6 y).length<=10+y.size:=by
   unfold e6;rw [ax6,dR];omega
  refine cM (bh (by rw [w6,w6];omega)) (cM (bh (by rw [tm,w6,w6];simp only [ax6];omega)) ?_)
  have Un:=((((gl.ag g2).ag g3).ag g4).ag g5)
  refine⟨dat,Un.bY rfl,Mi (by omega) λxA qX hR B2 zU g6=> ?_⟩
  have t1:=g1.size;have t2:=g2.size;have t3:=g3.size;have t4:=g4.size;have t5:=g5.size;have t6:=g6.size
  have jP:=gl.lt;have ahJ:=Ep.lt
  simp only at jP ahJ
  have g16:Fr [] MC B2:=((((g1.aT g2).aT g3).aT g4).aT g5).aT g6
  have Er:=gv.af g16 (λ_ _=>by simp) (λ_ _=>by simp)
  have ahK:=Un.ag g6
  have ahL:=(((Ep.ag g3).ag g4).ag g5).ag g6
  have ahM:=((((ME.ag g2).ag g3).ag g4).ag g5).ag g6
  have ahN:=((MG.ag g4).ag g5).ag g6
  have Bi:b∉S:=λhk=>by have:=gv.po b hk;omega
  have ahO:jy∉S:=λhk=>by have:=gv.po jy hk;omega
  have iD:=zU.1
  have ea:=MG.1
  have iF:=w5 dat
  have avT:=w5 wd
  have avU:=Uk ahE.2
  have Il:(⟨(cn ys.length++e3.flatMap rk).toArray⟩++(⟨(e6 y).toArray⟩++⟨(cn dat.size).toArray⟩):ByteArray)=⟨((cn ys.length++e3.flatMap rk++(e6 y++cn dat.size))++sl []).toArray⟩:=by
   rw [tm,tm];simp [sl]
  generalize Uo:cn ys.length++e3.flatMap rk++(e6 y++cn dat.size)=pre at Il
  have j2:pre.length<=10+6000000*j+100030:=by
   rw [<-Uo];simp only [ax6];omega
  refine⟨λae H'=>match ae with|[.string x,.int _ i]=>∃fT:Nat,i=fT/\fT<=(eT dat).length/\aht B2 dC ew H.size b [.map (some bI),.string ⟨#[]⟩,.slice none 0 0,.int .i64 all] (an hI) S (eT wd) ws (eT dat) dat pre t (480000*j) fT x H'|_=>False,
   λae _=>match ae with|[_,.int _ i]=>(eT dat).length-i.toNat|_=>0,⟨0,rfl,by omega,⟨S,t,none,0,0,[],Er,ahK,Own.nil _ _ _ _,Il,by simp,rfl,Ul,Fr.refl _ _,Grow.refl _ _,by simp [an]⟩⟩,?_⟩
  rintro ek la i2 iK ⟨fT,rfl,Mh,⟨S2,t2,j4,jf,kG,xs,r2,MH,px,rfl,wx,k5,u0,oM,u1,uS⟩⟩
  have Dz:=oM.size
  have B3:Fr [] H iK:=(BZ.aT g16).ag oM (by
   intro k hk
   rcases axA.1 hk with rfl|hk
   ·have:=BZ.size;omega
   ·rcases ba _ hk with h|h
    ·simp only [axA,azS,or_false]at h;omega
    ·omega)
  have Up:b∉S2:=λhk=>(u1 _ hk).elim Bi λh=>by omega
  have avV:=ahq xs
  have MI:bt bk.kt iK xA qX hR (eT dat):=zU.bT.af oM λaC e aq=>by
   have h1:=zU.ge aC.block (by simp [e,an])
   rcases axA.1 aq with aq|aq
   ·omega
   ·have:=gv.po _ aq;omega
  refine au (λh1=> ?_) (λh1=> ?_)
  ·have fc:fT<(eT dat).length:=by simp at h1;omega
   obtain⟨py,r3⟩:=fM fc
   refine MI.get rfl r3 (by simp;omega) λaC e np=>⟨py,jb np,?_⟩
   have ahP:bt bk.kt iK kL on ahH (eT wd):=ahN.bT.af oM λaC e aq=>by
    have h1:=MG.ge aC.block (by simp [e,an])
    rcases axA.1 aq with aq|aq
    ·omega
    ·have:=gv.po _ aq;omega
   refine⟨λae u2=>match ae with|[.int _ z]=>z=(if(eT wd)[fT]?=some py then(t2,ws.getD fT 0)else jY t2 py).2/\∃jC,kV u2 dC ew H.size [.map (some bI),.string ⟨#[]⟩,.slice none 0 0,.int .i64 all] (an hI) jC (if(eT wd)[fT]?=some py then(t2,ws.getD fT 0)else jY t2 py).1/\Fr S2 iK u2/\Grow iK S2 jC|_=>False,
    ⟨λae u2=>match ae with|[.bool z]=>z=decide ((eT wd)[fT]?=some py)/\u2=iK|_=>False,au (λab=> ?_) (λab=> ?_),?_⟩,?_⟩
   ·have gF:fT<(eT wd).length:=by simp at ab;omega
    obtain⟨ahQ,Uq⟩:=fM gF
    refine ahP.get rfl Uq (by simp;omega) λaC e np=>⟨ahQ,jb np,?_,rfl⟩
    rw [yV,Uq];simp
   ·refine⟨?_,rfl⟩
    have gF:(eT wd).length<=fT:=by simp at ab;omega
    rw [ayL gF];simp
   ·rintro lp z u2 ⟨rfl,rfl⟩
    refine au (λar=> ?_) (λar=> ?_)
    ·have pb:(eT wd)[fT]?=some py:=by simpa using ar
     have a7:fT<(eT wd).length:=(axC.1 pb).1
     obtain⟨w,hw⟩:=fM (l:=ws) (i:=fT) (by omega)
     have ahR:=ME.len
     have ahS:=ahL.af oM (by simp only [axA,not_or];exact⟨by omega,ahO⟩)
     refine⟨Ij,wn,Ik,ahS.cF 1 rfl,?_⟩
     have ahT:bt cH u2 Ij wn Ik ws:=ahM.af oM λaC e aq=>by
      have bs:=h.Dm _ (ahG aC.block (by simp [e,an]))
      rcases axA.1 aq with aq|aq
      ·have:=BZ.size;omega
      ·rcases ba _ aq with h|h
       ·simp only [axA,azS,or_false]at h;omega
       ·have:=f17.size;omega
     refine ahT.get rfl hw (by simp;omega) λaC e np=>⟨w,jb np,?_,S2,?_,Fr.refl _ _,Grow.refl _ _⟩
     ·rw [if_pos pb];simp [List.getD,hw]
     ·rw [if_pos pb];exact r2
    ·have pb:¬(eT wd)[fT]?=some py:=by simpa using ar
     rw [if_neg pb]
     exact Ue r2 (by have:=B3.size;omega) (by have:=u0.h8;omega) (by have:=u0.l9;omega) λEs jC qg bP pt=>⟨rfl,jC,qg,bP,pt⟩
   ·rintro lp z u2 ⟨rfl,jC,qg,bP,pt⟩
    have Ur:=MH.af bP Up
    have ahU:=bP.size
    have u3:∀k,k<iK.size->k∉S2->k∉jC:=λk hk ay Im=>(pt k Im).elim ay λh=>by omega
    have MJ:=px.af bP λaC e=>uS _ (by simp [e,an])
    refine⟨j4,jf,kG,Ur.cF 1 rfl,λk7 Es bK=> ?_⟩
    have ahV:=bK.eq
    have ahW:=bK.size
    generalize aI:(if(eT wd)[fT]?=some py then(t2,ws.getD fT 0)else jY t2 py)=v at qg bK⊢
    refine ic (E:=cH) (bytes:=8) L6 zC (MJ.ag bK.af) (fy cH v.2 bK rfl) (by omega) (by have:=px.1;omega) λzV Et Eu C0 Ev cm ko=> ?_
    have r4:∀k∈an j4,B2.size<=k/\k<iK.size/\k∉S2:=λk hk=>⟨(px.ge k hk).1,(px.ge k hk).2,uS k hk⟩
    have ahX:=(Ur.ag bK.af).af cm (λaq=>by have:=r4 _ aq;simp only at this;omega)
    have MK:=(qg.af bK.af (λ_ _=>by simp) (λ_ _=>by simp)).af cm (λk hk aq=>by have:=r4 k aq;have:=Ii k hk;omega) (λk hk aq=>by have:=r4 k aq;exact u3 k this.2.1 this.2.2 hk)
    refine Go.Proofs.aZ.a6.Mw ahX (j:=1) (v:=.slice zV Et Eu) (by kernel_rfl) (by kernel_rfl) rfl rfl (by simp) λE4 hbE4 cb=> ?_
    have Ew:∀k∈an zV,B2.size<=k/\k∉jC/\k≠b:=λk hk=>by
     have eZ:=Ev.ge k hk
     refine⟨eZ.1,λar=> ?_,by omega⟩
     rcases ko k hk with h|h
     ·exact u3 k (r4 k h).2.1 (r4 k h).2.2 ar
     ·have:=qg.po k ar;omega
    have ahY:=Ev.af cb λaC e aq=>by
     have:=Ew aC.block (by simp [e,an])
     simp at aq;omega
    have Er:=MK.af cb (λk hk aq=>by have:=Ii k hk;simp at aq;omega) (λk hk aq=>by
     simp only [ayw]at aq
     subst aq
     exact u3 k (by omega) Up hk)
    have B4:=Ui v.2
    have ahZ:IntKind.u64.wrap v.2=((IntKind.u64.wrap v.2).toNat:Int):=by omega
    have f0:Fr (b::S) B2 E4:=by
     refine((oM.trans' bP (T:=b::S) (λk hk _=>hk) (λk hk bQ=> ?_)).trans' bK.af (T:=b::S) (λk hk _=>hk) (by simp)).trans' (cm.trans cb) (λk hk _=>hk) (λk hk bQ=> ?_)
     ·exact(u1 k hk).elim (λh=>axU _ h) λh=>by omega
     ·rcases azb.1 hk with hk|hk
      ·have:=r4 k hk;omega
      ·simp at hk;simp [hk]
    rw [ahZ]
    refine qK (n:=(IntKind.u64.wrap v.2).toNat) (by omega) λAU g7=> ?_
    have avW:=hD (n:=(IntKind.u64.wrap v.2).toNat) (by omega)
    refine cM (bh (by rw [w6,w6];simp only [ax6];omega)) ⟨⟨fT+1,cE (by omega),by omega,⟨jC,v.1,zV,Et,Eu,xs++[v.2],Er.af g7 (λ_ _=>by simp) (λ_ _=>by simp),?_,ahY.ag g7,?_,?_,by simp [k5],?_,?_,?_,λk hk=>(Ew k hk).2.1⟩⟩,?_⟩
    ·exact(hbE4.ag g7)
    ·rw [tm,ahr];simp
    ·rw [wx,ahw r3,aI];simp
    ·have b5:uW v.1 (480000*j+fT+1):=by
      rw [<-aI]
      split
      ·exact u0.mono (by omega)
      ·exact u0.take _
     exact b5
    ·exact f0.trans' g7 (λk hk _=>hk) (by simp)
    ·exact u1.trans Dz pt
    ·show(eT dat).length-(IntKind.i64.wrap ((fT:Int)+1)).toNat<(eT dat).length-((fT:Nat):Int).toNat
     rw [cE (by omega)]
     exact dU fc
  ·have fc:fT=(eT dat).length:=by simp at h1;omega
   rw [az2 (by omega),jr]at wx
   simp only [azh]at wx
   have ML:=(tr.ag g16).af oM (by simp only [axA,not_or];exact⟨by omega,MD⟩) (λk hk aq=>by
    have:=tz k hk
    rcases axA.1 aq with aq|aq
    ·omega
    ·exact this.2.2 aq)
   have wy:=px.ge
   refine⟨some bI,r2.ye (j:=0) (by kernel_rfl) rfl,dat,j4,jf,kG,MH.B5 (us:=[.string dat,.slice j4 jf kG]) (by kernel_rfl) (by kernel_rfl) rfl,?_⟩
   refine ML.put y px.bT (λaq=> ?_) λu2 kp cv=> ?_
   ·rcases azb.1 aq with aq|aq
    ·have:=tz _ aq;omega
    ·have:=wy _ aq;omega
   ·have qg:=r2.af cv (λk hk aq=>by have:=Ii k hk;simp at aq;omega) (λk hk aq=>by
     simp only [ayw]at aq;subst aq
     exact(u1 k hk).elim MD λh=>by omega)
    refine⟨all,qg.ye (j:=3) (by kernel_rfl) rfl,j4,jf,kG,(MH.af cv (by simp;omega)).cF 1 rfl,?_⟩
    have eC:=px.1
    rw [cj (by omega) (by omega)]
    refine qg.Mx (j:=3) (v:=.int .i64 ((all:Int)+jf)) (by kernel_rfl) (by kernel_rfl) rfl rfl (by omega) λEs Io bG=>⟨⟨j+1,cE (by omega),by omega,⟨S2,t2,e3++[(y,dat,xs)],all+jf,r1++an j4,?_,?_,?_,?_,?_,by simp [iO],u0.mono (by omega),?_,by omega,?_,?_,?_⟩⟩,?_⟩
    ·have e:((all:Int)+jf)=((all+jf:Nat):Int):=by omega
     rw [<-e];exact Io
    ·rw [ahm]
     refine kp.af bG (by simp;omega) λk hk aq=> ?_
     simp only [ayw]at aq;subst aq
     rcases azb.1 hk with hk|hk
     ·have:=tz _ hk;omega
     ·have:=wy _ hk;omega
    ·rw [azf,<-Uo];simp [rk]
    ·rw [zT,ahv st.last now aA t (dat:=dat) ku (by simp [C5]),wx];simp
    ·simp [<-fe];omega
    ·rw [azf,ax6]
     have:(List.flatMap rk [(y,dat,xs)]).length<=6000000:=by
      simp only [axO,azr,azh,rk,ax6];omega
     omega
    ·refine(((ai.trans' g16 (T:=[dC,ew,bI]) (λk hk _=>hk) (by simp)).trans' oM (T:=[dC,ew,bI]) (λk hk _=>hk) (λk hk bQ=> ?_)).trans' cv (T:=[dC,ew,bI]) (λk hk _=>hk) (λk hk _=>by simp at hk;simp [hk])).trans' bG (λk hk _=>hk) (λk hk _=>by simp at hk;simp [hk])
     rcases axA.1 hk with rfl|hk
     ·omega
     ·rcases ba _ hk with h|h
      ·simp only [axA,azS,or_false]at h;rcases h with h|h<;>simp [h]
      ·omega
    ·exact ba.trans (by omega) u1
    ·intro k hk
     have vR:=cv.size
     have sS:=bG.size
     rcases azb.1 hk with hk|hk
     ·have:=tz _ hk
      exact⟨this.1,by omega,λh=>(u1 k h).elim this.2.2 λh=>by omega⟩
     ·have:=wy _ hk
      exact⟨by omega,by omega,uS k hk⟩
    ·show ys.length-(IntKind.i64.wrap ((j:Int)+1)).toNat<ys.length-((j:Nat):Int).toNat
     rw [cE (by omega)]
     exact dU b'
 ·have b':j=ys.length:=by simp at aF;omega
  rw [az2 (by omega),jZ]at zT
  simp only [azh]at zT
  have Us:cn ys.length++e3.flatMap rk=rj e3:=by rw [PS,iO,b']
  rw [Us]
  have ah0:(rj e3).length<=10+6000000*j:=by rw [<-Us,ax6];omega
  generalize lf:(⟨(rj e3).toArray⟩:ByteArray)=da
  have iL:da.size<=10+6000000*j:=by rw [<-lf,w6];exact ah0
  have MM:∀k∈S,k=dC\/k=ew\/dx.size<=k:=λk hk=>by
   rcases ba _ hk with h|h
   ·simp only [axA,azS,or_false]at h;omega
   ·omega
  have ah1:=gv.ahn
  refine gv.Mx (j:=1) (v:=.string da) (by kernel_rfl) (by kernel_rfl) rfl rfl (by omega) λB1 zW g1=> ?_
  have zW:kV B1 dC ew H.size [.map (some bI),.string da,.slice none 0 0,.int .i64 all] (an hI) S t:=zW
  refine Mi (by omega) λxA qX hR Eo zU g2=> ?_
  have t1:=g1.size;have t2:=g2.size
  have iD:=zU.1
  have iF:=w5 da
  have Ex:js da.size<=20000000:=by unfold js;omega
  refine⟨λae H'=>match ae with|[.int _ i]=>∃fT:Nat,i=fT/\fT<=(eT da).length/\ahu Eo dC ew bI H.size da all (an hI) S (eT da) t (480000*j) fT H'|_=>False,
   λae _=>match ae with|[.int _ i]=>(eT da).length-i.toNat|_=>0,⟨0,rfl,by omega,⟨S,t,none,0,0,[],zW.af g2 (λ_ _=>by simp) (λ_ _=>by simp),Own.nil _ _ _ _,by simp,rfl,Ul,Fr.refl _ _,Grow.refl _ _,by simp [an]⟩⟩,?_⟩
  rintro ek i2 iK ⟨fT,rfl,Mh,⟨S2,t2,j4,jf,kG,xs,r2,px,wx,k5,u0,oM,u1,uS⟩⟩
  have Dz:=oM.size
  have B3:Fr [] H iK:=((BZ.ag g1 (by simp;omega)).aT g2).ag oM (by
   intro k hk
   have:=MM k hk
   omega)
  refine au (λh1=> ?_) (λh1=> ?_)
  ·have fc:fT<(eT da).length:=by simp at h1;omega
   obtain⟨py,r3⟩:=fM fc
   have MI:bt bk.kt iK xA qX hR (eT da):=zU.bT.af oM λaC e aq=>by
    have h1:=zU.ge aC.block (by simp [e,an])
    have:=gv.po _ aq;omega
   refine MI.get rfl r3 (by simp;omega) λaC e np=>⟨py,jb np,j4,jf,kG,r2.ye (j:=2) (by kernel_rfl) rfl,?_⟩
   refine Ue r2 (by have:=B3.size;omega) (by have:=u0.h8;omega) (by have:=u0.l9;omega) λu2 jC qg bP pt=>⟨qg.ye (j:=2) (by kernel_rfl) rfl,λk7 Es bK=> ?_⟩
   have ahU:=bP.size
   have ahV:=bK.eq
   have ahW:=bK.size
   have u3:∀k,k<iK.size->k∉S2->k∉jC:=λk hk ay Im=>(pt k Im).elim ay λh=>by omega
   have MJ:=px.af bP λaC e=>uS _ (by simp [e,an])
   have Io:=qg.af bK.af (λ_ _=>by simp) (λ_ _=>by simp)
   refine⟨Io.ye (j:=2) (by kernel_rfl) rfl,?_⟩
   refine ic (E:=cH) (bytes:=8) L6 zC (MJ.ag bK.af) (fy cH (jY t2 py).2 bK rfl) (by omega) (by have:=px.1;omega) λzV Et Eu C0 Ev cm ko=> ?_
   have r4:∀k∈an j4,Eo.size<=k/\k<iK.size/\k∉S2:=λk hk=>⟨(px.ge k hk).1,(px.ge k hk).2,uS k hk⟩
   have MK:=Io.af cm (λk hk aq=>by have:=r4 k aq;have:=Ii k hk;omega) (λk hk aq=>by have:=r4 k aq;exact u3 k this.2.1 this.2.2 hk)
   refine MK.Mx (j:=2) (v:=.slice zV Et Eu) (by kernel_rfl) (by kernel_rfl) rfl rfl (by omega) λE4 Er cb=> ?_
   have Ew:∀k∈an zV,Eo.size<=k/\k∉jC/\k≠dC:=λk hk=>by
    have eZ:=Ev.ge k hk
    have cT:k∉jC:=λar=>by
     rcases ko k hk with h|h
     ·exact u3 k (r4 k h).2.1 (r4 k h).2.2 ar
     ·have:=qg.po k ar;omega
    exact⟨eZ.1,cT,by omega⟩
   refine⟨⟨fT+1,cE (by omega),by omega,⟨jC,(jY t2 py).1,zV,Et,Eu,xs++[(jY t2 py).2],Er,Ev.af cb (λaC e aq=> ?_),?_,by simp [k5],?_,?_,u1.trans Dz pt,λk hk=>(Ew k hk).2.1⟩⟩,?_⟩
   ·have:=Ew aC.block (by simp [e,an])
    simp at aq;omega
   ·rw [wx,ahx r3];simp
   ·exact u0.take _
   ·refine((oM.trans' bP (T:=S) (λk hk _=>hk) (λk hk bQ=> ?_)).trans' bK.af (T:=S) (λk hk _=>hk) (by simp)).trans' (cm.trans cb) (λk hk _=>hk) (λk hk bQ=> ?_)
    ·exact(u1 k hk).elim id λh=>by omega
    ·rcases azb.1 hk with hk|hk
     ·have:=r4 k hk;omega
     ·simp only [ayw]at hk;rw [hk];exact ah1.1
   ·show(eT da).length-(IntKind.i64.wrap ((fT:Int)+1)).toNat<(eT da).length-((fT:Nat):Int).toNat
    rw [cE (by omega)]
    exact dU fc
  ·have fc:fT=(eT da).length:=by simp at h1;omega
   rw [az2 (by omega),oL]at wx
   simp only [azh]at wx
   have eC:=px.1
   have Ip:oh m.size st.last st.dir now ys={uZ:=t2,files:=e3,MA:=rj e3,dirS:=xs,all:=all,fits:=t2.fits&&decide (xs.length<=20)&&decide ((all:Int)+2*xs.length<=m.size-2)}:=by
    unfold oh
    simp only [A7,zT,lf,wx,fe]
   have dF:8<=m.size/\m.size<=512:=by
    obtain⟨nT,agH,ju,uT⟩:=h.uu.it
    exact uT.size
   have ah2:a6 iK ⟨im,0,none⟩ [.slice none 0 0,.map none,.string ⟨#[]⟩,.slice none 0 0,.int .i64 0,.int .i64 0,.bool false]:=by
    refine(((BY.af ai (by simp;omega)).af g1 (by simp;omega)).ag g2).af oM λaq=> ?_
    have:=MM _ aq
    simp only at this;omega
   have ML:nm iK bI r1 (zS e3):=((tr.af g1 (by simp;omega) (λk hk aq=>by have:=tz k hk;simp at aq;omega)).ag g2).af oM MD (λk hk=>(tz k hk).2.2)
   have fin:∀(f:Bool),f=(oh m.size st.last st.dir now ys).fits->∃qD,bp 4 iK ⟨dC,6,none⟩ (.bool f) qD/\∃a n c r s Iq qh hg Ut Uu xl,ah 401 qD ⟨dC,0,none⟩ (.agg ⟨[.slice a n c,.map r,.string s,.slice Iq qh hg,.int .i64 Ut,.int .i64 Uu,.bool xl]⟩)∧
     ∃H',bp 401 qD ⟨im,0,none⟩ (.agg ⟨[.slice a n c,.map r,.string s,.slice Iq qh hg,.int .i64 Ut,.int .i64 Uu,.bool xl]⟩) H'/\∃a n c r s Ey Uv xj Ir Uw sJ,ah 401 H' ⟨im,0,none⟩ (.agg ⟨[.slice a n c,.map r,.string s,.slice Ey Uv xj,.int .i64 Ir,.int .i64 Uw,.bool sJ]⟩)∧
     ∃ie iT hg Ux nQ sE sB AW sF pQ b,(ax8 ⟨[.slice a n c,.map r,.string s,.slice Ey Uv xj,.int .i64 Ir,.int .i64 Uw,.bool sJ]⟩)=.agg ⟨[.slice ie iT hg,.map Ux,.string nQ,.slice sE sB AW,.int .i64 sF,.int .i64 pQ,.bool b]⟩/\K ie iT hg Ux nQ sE sB AW sF pQ b H':=by
    intro f vy
    refine r2.aho (b:=f) λu2 qg cv=> ?_
    obtain⟨_,⟨pw,uX,uY,avX,Uy,avY,gl,aw,qf,eo,aO,bB,cD,cz⟩,ne,gd,uV,r0⟩:=qg
    have vR:=cv.size
    refine⟨pw,uX,uY,some bI,da,j4,jf,kG,all,t2.h8,f,gl.B5 (us:=[.slice pw uX uY,.map (some bI),.string da,.slice j4 jf kG,.int .i64 all,.int .i64 t2.h8,.bool f]) (by kernel_rfl) (by kernel_rfl) rfl,?_⟩
    refine(ah2.af cv (by simp;omega)).iQ (by kernel_rfl) (by kernel_rfl) (λx aa=>by simp [azI]at aa;rcases aa with rfl|rfl|rfl|rfl|rfl|rfl|rfl<;>rfl) (by simp [azI]) λEs ah3 bG=> ?_
    have sS:=bG.size
    refine⟨pw,uX,uY,some bI,da,j4,jf,kG,all,t2.h8,f,ah3.B5 (us:=[.slice pw uX uY,.map (some bI),.string da,.slice j4 jf kG,.int .i64 all,.int .i64 t2.h8,.bool f]) (by kernel_rfl) (by kernel_rfl) (by simp [azI]),?_⟩
    have wy:=px.ge
    have Uz:=aw.ge
    have ah4:∀k∈an pw,k∈S2:=λk hk=>by rw [bB];simp [hk]
    have UA:∀k∈an pw,k≠dC/\k≠im/\k≠bI:=λk hk=>by
     refine⟨λe=>cD (by rw [<-e];exact hk),?_⟩
     rcases u1 k (ah4 k hk)with h|h
     ·have:=MM k h
      have fi:k≠dC:=λe=>cD (by rw [<-e];exact hk)
      have kn:k≠ew:=λe=>cz (by rw [<-e];exact hk)
      omega
     ·omega
    have hk:=hk ys
    rw [Ip]at hk vy
    simp only at hk vy
    rw [lf,<-vy]at hk
    refine⟨pw,uX,uY,some bI,da,j4,jf,kG,all,t2.h8,f,rfl,hk pw uX uY bI j4 jf kG Es r1 ru ?_ (λk hk=>(Uz k hk).1) ?_ ?_ (λk hk=>by have:=wy k hk;have:=f17.size;omega) (λk hk=>by have:=tz k hk;have:=f17.size;omega) (by omega) ?_ ?_ ?_⟩
    ·exact aw.bT.af bG λaC e aq=>by
      have:=UA aC.block (by simp [e,an])
      simp at aq;omega
    ·refine(ML.af cv (by simp;omega) ?_).af bG (by simp;omega) ?_
     ·intro k hk aq
      have:=tz k hk;simp at aq;omega
     ·intro k hk aq
      have:=tz k hk;simp at aq;omega
    ·refine(px.bT.af cv λaC e aq=> ?_).af bG λaC e aq=> ?_
     ·have:=wy aC.block (by simp [e,an]);simp at aq;omega
     ·have:=wy aC.block (by simp [e,an]);simp at aq;omega
    ·exact(B3.ag cv (by simp;omega)).ag bG (by simp;omega)
    ·simp only [azb,not_or]
     refine⟨⟨λh=> ?_,λh=> ?_⟩,λh=> ?_⟩
     ·have:=tz _ h;omega
     ·have:=wy _ h;omega
     ·exact(UA _ h).2.2 rfl
    ·intro k hk
     simp only [azb]at hk
     rcases hk with(h|h)|h
     ·have:=tz _ h;omega
     ·have:=wy _ h;omega
     ·have:=Uz _ h;omega
   have avZ:=u0.h8
   refine⟨j4,jf,kG,r2.ye (j:=2) (by kernel_rfl) rfl,t2.fits,r2.ahp,au (λar=> ?_) (λar=> ?_)⟩
   ·refine au (λa7=> ?_) (λa7=> ?_)
    ·refine⟨all,r2.ye (j:=3) (by kernel_rfl) rfl,some d,(h.ag B3).bz.bY rfl,TZ (h.ag B3).uu ?_⟩
     refine⟨r2.ye (j:=3) (by kernel_rfl) rfl,?_⟩
     refine fin _ ?_
     rw [Ip,ar,cj (n:=2*(jf:Int)) (by omega) (by omega),cj (by omega) (by omega),cj (by omega) (by omega)]
     have:decide (xs.length<=20)=true:=by simp at a7⊢;omega
     rw [this,eC]
     simp
    ·refine fin _ ?_
     rw [Ip]
     have:decide (xs.length<=20)=false:=by simp at a7⊢;omega
     rw [this];simp
   ·refine fin _ ?_
    rw [Ip]
    simp only [ar,Bool.false_and]
theorem UB:∀{a b:List ByteArray},(a.map bd).Pairwise (·<·)->(b.map bd).Pairwise (·<·)->(∀y,y∈a↔y∈b)->a=b
 |[],[],_,_,_=>rfl
 |[],y::b,_,_,h=>absurd ((h y).2 (by simp)) (by simp)
 |x::a,[],_,_,h=>absurd ((h x).1 (by simp)) (by simp)
 |x::a,y::b,h1,ab,h=>by
  rw [axE,List.pairwise_cons]at h1 ab
  have UC:∀z∈a,bd x<bd z:=λz aE=>h1.1 _ (axL aE)
  have UD:∀z∈b,bd y<bd z:=λz aE=>ab.1 _ (axL aE)
  have r5:x=y:=by
   rcases axA.1 ((h x).1 (by simp))with e|e
   ·exact e
   ·rcases axA.1 ((h y).2 (by simp))with dp|dp
    ·exact dp.symm
    ·exact absurd (List.lt_trans (UC y dp) (UD x e)) (az1 _)
  subst r5
  congr 1
  refine UB h1.2 ab.2 λz=> ?_
  have:=h z
  constructor
  ·intro aE
   rcases axA.1 (this.1 (axU _ aE))with e|e
   ·subst e;exact absurd (UC z aE) (az1 _)
   ·exact e
  ·intro aE
   rcases axA.1 (this.2 (axU _ aE))with e|e
   ·subst e;exact absurd (UD z aE) (az1 _)
   ·exact e
noncomputable def namesL(now:ByteArray->Option ByteArray):List ByteArray:=open Classical in if h:∃ys,yP now ys then h.choose else []
theorem Qg{now:ByteArray->Option ByteArray}{ys:List ByteArray}(h:yP now ys):namesL now=ys:=by
 have aa:∃ys,yP now ys:=⟨ys,h⟩
 unfold namesL
 rw [dif_pos aa]
 have av:=aa.choose_spec
 exact UB av.1 h.1 λy=>by rw [av.2,h.2]
noncomputable def planN(size:Int)(st:gB)(now:ByteArray->Option ByteArray):UE:=oh size st.last st.dir now (namesL now)
noncomputable def changeM(size:Int)(st:gB)(ch:(ByteArray->Option ByteArray)->ByteArray->Option ByteArray):gB×Int:=
 if(planN size st (ch st.now)).fits then({st with now:=ch st.now},0)else(st,2)
theorem ib.mono{st:gB}{m:eX}{kj:Nat}(h:ib H s d cA cu a n c Q Sd st m N M)(cV:M<=kj):ib H s d cA cu a n c Q Sd st m N kj:=
 ⟨h.bz,h.now.mono cV,h.last,h.dir,h.Bd,h.uu,h.own,h.apart,h.Dm⟩
theorem UF{st:gB}{m:eX}{Bk:Value}{G:U->Prop}{ch:(ByteArray->Option ByteArray)->ByteArray->Option ByteArray}{K:Int->U->Prop}
  (h:ib H s d cA cu a n c Q Sd st m N M) (cV:M+1<=100) (bM:sy st (ch st.now)) (av:Mv Bk G ch) (cx:∀H',Fr [] H H'->G H')
  (hk:∀fU H',(fU=cA\/H.size<=fU)->ib H' s d fU cu a n c Q Sd (changeM m.size st ch).1 m N (M+1)->Fr [s.block] H H'->K (changeM m.size st ch).2 H'):
  cG 241 [ax (some s),Bk] H K:=by
 apply ah5
 refine⟨some cA,h.bz.ld (by kernel_rfl) rfl,?_⟩
 refine fo.mono (h.now.clone (K:=λfS H'=>H.size<=fS/\hC H' fS st.now M/\Fr [] H H') λfS H' h1 ab ar=>⟨h1,ab,ar⟩) λv H1=> ?_
 rintro⟨mm,rfl,fS,rfl,aB,bb,cv⟩
 refine⟨some fS,rfl,av fS M st.now H1 _ (cx H1 cv) bb λao bK bG=> ?_⟩
 have s1:=cv.size
 have s2:=bG.size
 have f2:Fr [] H ao:=cv.ag bG (by simp;omega)
 have ab:=h.ag f2
 refine ahy ab bK (by omega) bM λys pw uX uY yf y2 ow Ba aP r1 ru _ _ _ _ _ _ _ bP _ _=> ?_
 have f3:=f2.aT bP
 have ar:=ab.ag bP
 have bw:=bK.af bP (by simp)
 have aH:planN m.size st (ch st.now)=oh m.size st.last st.dir (ch st.now) ys:=by unfold planN;rw [Qg ru]
 unfold changeM at hk
 rw [aH]at hk
 refine au (λaF=>⟨_,rfl,?_⟩) (λaF=> ?_)
 ·have b':(oh m.size st.last st.dir (ch st.now) ys).fits=false:=by simpa using aF
  rw [b']at hk
  exact hk cA aP (.inl rfl) (ar.mono (by omega)) (f3.mono (by simp))
 ·have b':(oh m.size st.last st.dir (ch st.now) ys).fits=true:=by simpa using aF
  rw [b']at hk
  have hs:=h.bz.lt
  refine Go.Proofs.aZ.a6.set ar.bz (j:=1) (v:=.map (some fS)) (by kernel_rfl) (by kernel_rfl) rfl rfl (by simp) λa8 al cm=>⟨_,rfl,hk fS a8 (.inr aB) ⟨?_,?_,?_,?_,h.Bd,?_,?_,?_,?_⟩ (f3.trans' cm (by simp) (λk hk _=>hk))⟩
  ·exact al
  ·exact bw.af cm (by simp;omega)
  ·refine ar.last.af cm (λaq=> ?_) (λk hk aq=> ?_)
   ·exact h.own (by simp only [ayw]at aq;simp [aq])
   ·exact h.own (by simp only [ayw]at aq;rw [<-aq];simp [hk])
  ·exact ar.dir.af cm λaC e aq=>h.own (by simp only [ayw]at aq;rw [<-aq];simp [h.Bd aC.block (by simp [e,an])])
  ·exact ar.uu.af cm λk hk aq=>h.apart s.block (by simp) (by simp only [ayw]at aq;rw [<-aq];exact hk)
  ·intro aq
   rcases axA.1 aq with aq|aq
   ·omega
   ·exact h.own (axU _ aq)
  ·intro k hk aq
   simp only [axA]at hk
   rcases hk with rfl|rfl|rfl|hk
   ·exact h.apart _ (by simp) aq
   ·have:=h.uu.po _ aq;omega
   ·exact h.apart _ (by simp) aq
   ·exact h.apart _ (by simp [hk]) aq
  ·exact ar.Dm.le cm.size
noncomputable def writeS(size:Int)(st:gB)(name data:ByteArray):gB×Int:=if ly name then changeM size st (λnow=>oi now name data)else(st,100)
theorem UG{st:gB}{m:eX}{name data:ByteArray}{K:Int->U->Prop}
  (h:ib H s d cA cu a n c Q Sd st m N M) (cV:M+1<=100) (ay:name.size<=1000000) (bM:ly name->sy st (oi st.now name data))
  (hk:∀fU H',(fU=cA\/H.size<=fU)->ib H' s d fU cu a n c Q Sd (writeS m.size st name data).1 m N (M+1)->Fr [s.block] H H'->K (writeS m.size st name data).2 H'):
  cG 164 [ax (some s),aj name,aj data] H K:=by
 apply ah6
 intro b H1 bb b1 ao bK
 have f2:=bb.af.aT bK.af
 refine⟨name,(bb.bz.ag bK.af).bY rfl,GX (by omega) λaP f3=> ?_⟩
 have n3:=f2.aT f3
 unfold writeS at hk
 refine au (λaF=> ?_) (λaF=> ?_)
 ·have b':¬ly name:=by simpa using aF
  rw [if_neg b']at hk
  exact⟨_,rfl,hk cA aP (.inl rfl) ((h.ag n3).mono (by omega)) (n3.mono (by simp))⟩
 ·have b':ly name:=by simpa using aF
  rw [if_pos b']at hk
  refine UF (h.ag n3) cV (bM b') (ahh (name:=name) (data:=data)) (λH' ai=>⟨(bK.bz.ag f3).ag ai,((bb.bz.ag bK.af).ag f3).ag ai⟩) λfU H' aO h' ai=>⟨_,rfl,hk fU H' (aO.imp id λz=>by have:=n3.size;omega) h' (n3.trans' ai (by simp) (λk hk _=>hk))⟩
theorem ah7{st:gB}{m:eX}{name data:ByteArray}{K:Int->U->Prop}
  (h:ib H s d cA cu a n c Q Sd st m N M) (cV:M+1<=100) (ay:name.size<=1000000) (aR:((st.now name).getD ⟨#[]⟩).size+data.size<=1000000000) (bM:ly name->sy st (oi st.now name ((st.now name).getD ⟨#[]⟩++data)))
  (hk:∀fU H',(fU=cA\/H.size<=fU)->ib H' s d fU cu a n c Q Sd (writeS m.size st name ((st.now name).getD ⟨#[]⟩++data)).1 m N (M+1)->Fr [s.block] H H'->K (writeS m.size st name ((st.now name).getD ⟨#[]⟩++data)).2 H'):
  cG 143 [ax (some s),aj name,aj data] H K:=by
 apply ah8
 refine⟨some cA,h.bz.ld (by kernel_rfl) rfl,_,h.now.look name,cM (bh (by omega)) ?_⟩
 exact UG h cV ay bM λfU H' aO h' ai=>⟨_,rfl,hk fU H' aO h' ai⟩
noncomputable def AN(size:Int)(st:gB)(name:ByteArray):gB×Int:=if ly name then(if(st.now name).isSome then changeM size st (λnow=>vw now name)else(st,3))else(st,100)
theorem ah9{st:gB}{m:eX}{name:ByteArray}{K:Int->U->Prop}
  (h:ib H s d cA cu a n c Q Sd st m N M) (cV:M+1<=100) (ay:name.size<=1000000) (bM:sy st (vw st.now name))
  (hk:∀fU H',(fU=cA\/H.size<=fU)->ib H' s d fU cu a n c Q Sd (AN m.size st name).1 m N (M+1)->Fr [s.block] H H'->K (AN m.size st name).2 H'):
  cG 166 [ax (some s),aj name] H K:=by
 apply ah'
 intro b H1 bb
 refine⟨name,bb.bz.bY rfl,GX (by omega) λaP f3=> ?_⟩
 have n3:=bb.af.aT f3
 unfold AN at hk
 refine au (λaF=> ?_) (λaF=> ?_)
 ·have b':¬ly name:=by simpa using aF
  rw [if_neg b']at hk
  exact⟨_,rfl,hk cA aP (.inl rfl) ((h.ag n3).mono (by omega)) (n3.mono (by simp))⟩
 ·have b':ly name:=by simpa using aF
  rw [if_pos b']at hk
  have ar:=h.ag n3
  refine⟨some cA,ar.bz.ld (by kernel_rfl) rfl,name,(bb.bz.ag f3).bY rfl,_,_,ar.now.H9 name,au (λh1=> ?_) (λh1=> ?_)⟩
  ·have fc:¬(st.now name).isSome=true:=by simpa using h1
   rw [if_neg fc]at hk
   exact⟨_,rfl,hk cA aP (.inl rfl) (ar.mono (by omega)) (n3.mono (by simp))⟩
  ·have fc:(st.now name).isSome=true:=by simpa using h1
   rw [if_pos fc]at hk
   refine UF ar cV bM (ahj (name:=name)) (λH' ai=>(bb.bz.ag f3).ag ai) λfU H' aO h' ai=>⟨_,rfl,hk fU H' (aO.imp id λz=>by have:=n3.size;omega) h' (n3.trans' ai (by simp) (λk hk _=>hk))⟩
theorem aqg(k:Int):¬oY (λ_=>none) [] k:=by
 unfold oY
 simp
theorem PR:∀n:Nat,(ja (oY (λ_=>none) []) n).length=n-2
 |0=>by simp [ja]
 |n+1=>by
  rw [BP,ax6,PR n]
  split
  ·rename_i h;simp;omega
  ·rename_i h
   have:¬2<=n:=λay=>h ⟨ay,aqg _⟩
   simp;omega
theorem PT:∀(l:List ByteArray) (t:gX),l.length<=t.free.length->t.fits=true->(oL l t).1.fits=true/\(oL l t).1.free.length=t.free.length-l.length
 |[],t,_,h=>⟨h,by simp [oL]⟩
 |c::l,t,aG,h=>by
  cases ai:t.free with
  |nil=>rw [ai]at aG;simp at aG
  |cons x r=>
   have e:jY t c=({t with free:=r,l9:=t.l9++[(x,c)],h8:=t.h8+1},x):=by unfold jY;rw [ai]
   have:=PT l (jY t c).1 (by rw [e];rw [ai]at aG;simpa using aG) (by rw [e];exact h)
   unfold oL
   refine⟨this.1,this.2.trans ?_⟩
   rw [e,ayi,ayi];simp only;omega
theorem aaa:eT ⟨#[]⟩=[]:=ayT (by rw [w5];rfl)
theorem CN{α:Type}{f:α->List UInt8}:∀{l:List α},(∀x∈l,(f x).length<=b)->(l.flatMap f).length<=b*l.length
 |[],_=>by simp
 |x::l,h=>by
  have h1:=h x (by simp)
  have ab:=CN (l:=l) λy aA=>h y (by simp [aA])
  rw [axO,ax6,ayi,Nat.mul_add];omega
def dS(l:List (ByteArray×ByteArray)):ByteArray->Option ByteArray
 :=λk=>match l with
 |[]=>none
 |p::r=>if k=p.1 then some p.2 else dS r k
theorem yQ:∀{l:List (ByteArray×ByteArray)} {y:ByteArray},(dS l y).isSome↔∃p∈l,p.1=y
 |[],y=>by simp [dS]
 |p::r,y=>by
  unfold dS
  by_cases h:y=p.1
  ·simp [h]
  ·rw [if_neg h,yQ]
   simp only [axA,exists_eq_or_imp]
   exact⟨λq=>.inr q,λq=>q.elim (λe=>absurd e.symm h) id⟩
theorem CR:∀{l:List (ByteArray×ByteArray)} {y d:ByteArray},dS l y=some d->(y,d)∈l
 |[],y,d,h=>by simp [dS]at h
 |p::r,y,d,h=>by
  unfold dS at h
  split at h
  ·rename_i e;cases h;rw [e];simp
  ·exact axU _ (CR h)
def og(x:Int):Prop:=0<=x/\x<512
theorem PM(ws:List Int):∀(l:List ByteArray) (j:Nat) (t:gX),l.length<=t.free.length->t.fits=true->(∀x∈t.free,og x)→
  (jr [] ws l j t).1.fits=true/\(jr [] ws l j t).1.free.length=t.free.length-l.length/\(∀x∈(jr [] ws l j t).1.free,og x)/\∀x∈(jr [] ws l j t).2,og x
 |[],j,t,_,h,ai=>⟨h,by simp [jr],ai,by simp [jr]⟩
 |c::l,j,t,aG,h,aO=>by
  cases ai:t.free with
  |nil=>rw [ai]at aG;simp at aG
  |cons x r=>
   have e:jY t c=({t with free:=r,l9:=t.l9++[(x,c)],h8:=t.h8+1},x):=by unfold jY;rw [ai]
   rw [ai]at aO
   have:=PM ws l (j+1) (jY t c).1 (by rw [e];rw [ai]at aG;simpa using aG) (by rw [e];exact h) (by rw [e];exact λy aA=>aO y (by simp [aA]))
   unfold jr
   rw [if_neg (by simp)]
   refine⟨this.1,this.2.1.trans ?_,this.2.2.1,λy aA=> ?_⟩
   ·rw [e,ayi,ayi];simp only;omega
   ·rcases axA.1 aA with rfl|aA
    ·rw [e];exact aO x (by simp)
    ·exact this.2.2.2 y aA
def pJ(now:ByteArray->Option ByteArray)(y:ByteArray):Nat:=js ((now y).getD ⟨#[]⟩).size
theorem PN{now:ByteArray->Option ByteArray}:∀(ys:List ByteArray) (t:gX),(ys.map (pJ now)).sum<=t.free.length->t.fits=true->(∀x∈t.free,og x)→
  (jZ (λ_=>none) now ys t).1.fits=true/\(jZ (λ_=>none) now ys t).1.free.length=t.free.length-(ys.map (pJ now)).sum/\(jZ (λ_=>none) now ys t).2.length=ys.length∧
  ((jZ (λ_=>none) now ys t).2.map λf=>f.2.2.length).sum=(ys.map (pJ now)).sum∧
  (∀f∈(jZ (λ_=>none) now ys t).2,f.1∈ys/\f.2.1=(now f.1).getD ⟨#[]⟩/\∀x∈f.2.2,og x)∧
  ((jZ (λ_=>none) now ys t).2.map λf=>3+f.1.size+2*f.2.2.length).sum=(ys.map λy=>3+y.size).sum+2*(ys.map (pJ now)).sum
 |[],t,_,h,aO=>⟨h,by simp [jZ],rfl,by simp [jZ],by simp [jZ],by simp [jZ]⟩
 |y::l,t,aG,h,aO=>by
  have av:(eT ((now y).getD ⟨#[]⟩)).length=pJ now y:=by rw [w5];rfl
  rw [axE,azT]at aG
  have h1:=PM [] (eT ((now y).getD ⟨#[]⟩)) 0 t (by omega) h aO
  have ab:=PN (now:=now) l (jr [] [] (eT ((now y).getD ⟨#[]⟩)) 0 t).1 (by omega) h1.1 h1.2.2.1
  have e:jZ (λ_=>none) now (y::l) t=((jZ (λ_=>none) now l (jr [] [] (eT ((now y).getD ⟨#[]⟩)) 0 t).1).1,(y,(now y).getD ⟨#[]⟩,(jr [] [] (eT ((now y).getD ⟨#[]⟩)) 0 t).2)::(jZ (λ_=>none) now l (jr [] [] (eT ((now y).getD ⟨#[]⟩)) 0 t).1).2):=by
   conv=>lhs;unfold jZ
   simp only [Option.getD_none,aaa]
  obtain⟨ca,b0,cY,eP,iw,hr⟩:=ab
  have hlen:(jr [] [] (eT ((now y).getD ⟨#[]⟩)) 0 t).2.length=pJ now y:=by rw [PO,av]
  rw [e]
  refine⟨ca,?_,?_,?_,λf ai=> ?_,?_⟩
  ·rw [axE,azT];simp only;omega
  ·simp only [ayi,cY]
  ·simp only [axE,azT,eP,hlen]
  ·rcases axA.1 ai with rfl|ai
   ·exact⟨by simp,rfl,h1.2.2.2⟩
   ·have:=iw f ai;exact⟨by simp [this.1],this.2⟩
  ·simp only [axE,azT,hr,hlen];omega
theorem aab{l:List Int}(h:∀x∈l,og x):(sl l).length<=2*l.length:=CN λx aa=>by
 have:=h x aa
 unfold og at this
 rw [ix (by omega) (by omega)]
 exact oX 1 x.toNat (by omega)
theorem PQ{α:Type}{f:α->List UInt8}{g:α->Nat}:∀{l:List α},(∀x∈l,(f x).length<=g x)->(l.flatMap f).length<=(l.map g).sum
 |[],_=>by simp
 |x::l,h=>by
  have h1:=h x (by simp)
  have ab:=PQ (l:=l) λy aA=>h y (by simp [aA])
  rw [axO,ax6,axE,azT];omega
theorem aac:∀n:Nat,n<=512->∀x∈ja (oY (λ_=>none) []) n,og x:=λn ay x aa=>by
 unfold ja at aa
 obtain⟨k,hk,rfl⟩:=ayf.1 aa
 have:=List.mem_range.1 (List.mem_filter.1 hk).1
 unfold og;omega
theorem aad{sz:Int}{now:ByteArray->Option ByteArray}{ys:List ByteArray}(h1:∀y∈ys,y.size<=16)(hs:∀y∈ys,((now y).getD ⟨#[]⟩).size<16384)(aA:ys.length<=100)
  (aE:(sz=512/\(ys.map (pJ now)).sum<=380/\(ys.map λy=>3+y.size).sum<=450)\/(sz=64/\(ys.map (pJ now)).sum<=20/\(ys.map λy=>3+y.size).sum<=60)):(oh sz (λ_=>none) [] now ys).fits=true:=by
 have iO:(ja (oY (λ_=>none) []) sz.toNat).length=sz.toNat-2:=PR _
 have fc:=PN (now:=now) ys {free:=ja (oY (λ_=>none) []) sz.toNat,l9:=[],h8:=0,fits:=true} (by simp only [iO];omega) rfl (aac _ (by omega))
 simp only [iO]at fc
 unfold oh
 simp only
 generalize jZ (λ_=>none) now ys {free:=ja (oY (λ_=>none) []) sz.toNat,l9:=[],h8:=0,fits:=true}=x at fc
 obtain⟨ca,b0,cY,eP,iw,hr⟩:=fc
 have al:(rj x.2).length<=2+(ys.map λy=>3+y.size).sum+2*(ys.map (pJ now)).sum:=by
  rw [PS,ax6]
  have b1:=oX 1 x.2.length (by omega)
  have bI:=PQ (f:=rk) (g:=λf=>3+f.1.size+2*f.2.2.length) (l:=x.2) λf ai=>by
   obtain⟨ht,z2,z3⟩:=iw f ai
   have z0:=h1 _ ht
   have z4:=hs _ ht
   rw [<-z2]at z4
   unfold rk e6
   simp only [ax6,dR]
   have c1:=oX 0 f.1.size (by omega)
   have c2:=oX 1 f.2.1.size (by omega)
   have c3:=aab z3
   omega
  omega
 have hk:64*(eT ⟨(rj x.2).toArray⟩).length<=65+(ys.map λy=>3+y.size).sum+2*(ys.map (pJ now)).sum:=by
  rw [w5]
  have:(⟨(rj x.2).toArray⟩:ByteArray).size=(rj x.2).length:=w6 _
  unfold js;omega
 have ab:=PT (eT ⟨(rj x.2).toArray⟩) x.1 (by omega) ca
 have aG:=PU (eT ⟨(rj x.2).toArray⟩) x.1
 simp only [ab.1,Bool.true_and,Bool.and_eq_true,decide_eq_true_eq]
 exact⟨by omega,by omega⟩
def fx(k:ByteArray)(l:List (ByteArray×ByteArray)):List (ByteArray×ByteArray):=l.filter λp=>decide (p.1≠k)
theorem AF(k:ByteArray):∀(l:List (ByteArray×ByteArray)) (x:ByteArray),dS (fx k l) x=if x=k then none else dS l x
 |[],x=>by simp [fx,dS]
 |p::r,x=>by
  have ih:=AF k r x
  unfold fx at ih⊢
  by_cases h:p.1=k
  ·rw [List.filter_cons_of_neg (by simp [h]),ih]
   split
   ·rfl
   ·rename_i aa;conv=>rhs;unfold dS
    rw [if_neg (by rw [h];exact aa)]
  ·rw [List.filter_cons_of_pos (by simp [h])]
   unfold dS
   by_cases aH:x=p.1
   ·rw [if_pos aH,if_neg (by rw [aH];exact h),if_pos aH]
   ·rw [if_neg aH,if_neg aH,ih]
theorem PV(l:List (ByteArray×ByteArray))(k:ByteArray):vw (dS l) k=dS (fx k l):=by
 funext x;rw [AF];rfl
theorem Gg(l:List (ByteArray×ByteArray))(k v:ByteArray):oi (dS l) k v=dS ((k,v)::fx k l):=by
 funext x
 unfold oi
 conv=>rhs;unfold dS
 simp only [AF]
 split<;>simp_all
theorem J9{l:List (ByteArray×ByteArray)}(ay:(l.map (·.1)).Nodup){y d:ByteArray}(h:(y,d)∈l):dS l y=some d:=by
 induction l with
 |nil=>simp at h
 |cons p r ih=>
  unfold dS
  rw [axE,ayk]at ay
  rcases axA.1 h with rfl|h
  ·simp
  ·rw [if_neg λe=>ay.1 (ayf.2 ⟨_,h,e⟩)]
   exact ih ay.2 h
structure Room(sz:Int)(l:List (ByteArray×ByteArray)):Prop where
 fL:(l.map (·.1)).Nodup
 s1:∀p∈l,p.1.size<=16/\p.2.size<16384
 len:l.length<=90
 z:(sz=512/\(l.map λp=>js p.2.size).sum<=380/\(l.map λp=>3+p.1.size).sum<=450)\/(sz=64/\(l.map λp=>js p.2.size).sum<=20/\(l.map λp=>3+p.1.size).sum<=60)
theorem AG{α:Type}[DecidableEq α](f:α->Nat):∀{a b:List α},a.Nodup->(∀x∈a,x∈b)->(a.map f).sum<=(b.map f).sum
 |[],b,_,_=>by simp
 |x::a,b,ay,hs=>by
  rw [ayk]at ay
  have aa:=hs x (by simp)
  have ab:=AG f (a:=a) (b:=b.erase x) ay.2 λy aA=>(aAk (by rintro rfl;exact ay.1 aA)).2 (hs y (by simp [aA]))
  have ar:(b.map f).sum=f x+((b.erase x).map f).sum:=by
   have:=(List.perm_cons_erase aa).map f
   rw [this.sum_nat];simp
  rw [axE,azT,ar];omega
theorem J'{l:List (ByteArray×ByteArray)}{ys:List ByteArray}(ay:(l.map (·.1)).Nodup)(aA:ys.Nodup)(hm:∀y,y∈ys↔∃p∈l,p.1=y)(f:ByteArray->Nat):(ys.map f).sum<=(l.map λp=>f p.1).sum:=by
 have h:=AG f (a:=ys) (b:=l.map (·.1)) aA λy aq=>by
  obtain⟨p,aH,e⟩:=(hm y).1 aq
  exact ayf.2 ⟨p,aH,e⟩
 rw [az7]at h
 exact h
theorem aae{l:List (ByteArray×ByteArray)}{ys:List ByteArray}(ay:(l.map (·.1)).Nodup)(aA:ys.Nodup)(hm:∀y,y∈ys↔∃p∈l,p.1=y):ys.length<=l.length:=by
 have h:=J' ay aA hm λ_=>1
 have e:∀{α:Type} (l:List α),(l.map λ_=>1).sum=l.length:=λl=>by
  induction l with
  |nil=>rfl
  |cons x l ih=>rw [axE,azT,ih,ayi];omega
 rwa [e,e]at h
end Go.Proofs.aZ
namespace Go.Proofs
def qn(v:Int):Nat:=if 0<=v then(2*v).toNat else(2*(-(v+1))+1).toNat
def fE(n:Nat):Int:=if n % 2=0 then(n/2:Nat)else -((n/2:Nat):Int)-1
def mG(v:Int):List UInt8:=cn (qn v)
def eM(v:Int):Prop:= -9223372036854775808<=v/\v<=9223372036854775807
variable{H H':U}{b k:Nat}{v n:Int}
theorem tB(h:eM v):qn v<18446744073709551616:=by unfold qn eM at *;split<;>omega
theorem Cd(v:Int):fE (qn v)=v:=by unfold fE qn;split<;>split<;>omega
theorem aki{n:Nat}(h:n<18446744073709551616):eM (fE n):=by unfold fE eM;split<;>omega
theorem Nd(h: -18446744073709551616<=n)(ab:n<0):IntKind.u64.wrap n=n+18446744073709551616:=by
 unfold azQ
 simp [azF,azO]
 omega
theorem Vx(h:9223372036854775808<=n)(ab:n<18446744073709551616):IntKind.i64.wrap n=n-18446744073709551616:=by
 unfold azQ
 simp [azF,azO]
 omega
theorem Vy{m:Nat}(h:m<18446744073709551616):(azx 64 (m:Int)^^^azx 64 18446744073709551615).toNat=18446744073709551615-m:=by
 have e:azx 64 18446744073709551615=aAo 64:=by decide
 rw [e,aAp,aAq,u' h]
theorem akj{m:Nat}(h:m<18446744073709551616):(azx 64 (m:Int)^^^azx 64 (-1)).toNat=18446744073709551615-m:=by
 have e:azx 64 (-1)=aAo 64:=by decide
 rw [e,aAp,aAq,u' h]
theorem xor_zero{m:Nat}(h:m<18446744073709551616):(azx 64 (m:Int)^^^azx 64 0).toNat=m:=by
 have e:azx 64 0=0#64:=by decide
 rw [e,BitVec.xor_zero,u' h]
theorem Nf{K:Int->U->Prop}(aI:eM v)(hk:K (qn v:Nat) H):aK akk [o v] H λw H'=>∃n,w=.int .u64 n/\K n H':=by
 apply akl
 refine⟨_,rfl,?_⟩
 obtain⟨h1,ab⟩:=aI
 by_cases aF:0<=v
 ·have aL:azy v (2^63)=0:=by rw [aAa _ (by decide)];omega
  have a':IntKind.u64.wrap (IntKind.i64.wrap (v*2^1))=((2*v).toNat:Int):=by
   by_cases ar:v*2<9223372036854775808
   ·rw [cj (by omega) (by omega),ix (by omega) (by omega)];omega
   ·rw [Vx (by omega) (by omega),Nd (by omega) (by omega)];omega
  rw [aL,a',ix (n:=0) (by omega) (by omega),xor_zero (by omega),ix (by omega) (by omega)]
  unfold qn at hk
  rwa [if_pos aF]at hk
 ·have aL:azy v (2^63)= -1:=by rw [aAa _ (by decide)];omega
  have a':IntKind.u64.wrap (IntKind.i64.wrap (v*2^1))=((2*v+18446744073709551616).toNat:Int):=by
   by_cases ar: -9223372036854775808<=v*2
   ·rw [cj (by omega) (by omega),Nd (by omega) (by omega)];omega
   ·have:IntKind.i64.wrap (v*2^1)=v*2+18446744073709551616:=by
     unfold azQ
     simp [azF,azO]
     omega
    rw [this,ix (by omega) (by omega)];omega
  rw [aL,a',Nd (n:= -1) (by omega) (by omega)]
  rw [show(-1:Int)+18446744073709551616=18446744073709551615 from rfl,Vy (by omega),ix (by omega) (by omega)]
  unfold qn at hk
  rw [if_neg aF]at hk
  have cX:(18446744073709551615-(2*v+18446744073709551616).toNat:Nat)=(2*(-(v+1))+1).toNat:=by omega
  rw [cX];exact hk
theorem akm{K:Int->U->Prop}(aI:eM v)(hk:K (qn v:Nat) H):aK akn [o v] H λw H'=>∃n,w=.int .u64 n/\K n H':=by
 apply ako
 obtain⟨h1,ab⟩:=aI
 unfold qn at hk
 refine au (λh=>⟨_,rfl,?_⟩) (λh=>⟨_,rfl,?_⟩)
 ·have aF:0<=v:=by simpa using h
  rw [if_pos aF]at hk
  rw [ix (n:=v) (by omega) (by omega),ix (by omega) (by omega)]
  have:((2*v).toNat:Int)=2*v:=by omega
  rwa [this]at hk
 ·have aF:¬0<=v:=by simpa using h
  rw [if_neg aF]at hk
  rw [cj (n:=v+1) (by omega) (by omega),cj (by omega) (by omega),ix (n:=0-(v+1)) (by omega) (by omega),ix (n:=2*(0-(v+1))) (by omega) (by omega),ix (by omega) (by omega)]
  have:((2*(-(v+1))+1).toNat:Int)=2*(0-(v+1))+1:=by omega
  rwa [this]at hk
theorem UO{K:ByteArray->U->Prop}(aI:eM v)(hk:∀H',Fr [] H H'->K ⟨(mG v).toArray⟩ H'):aK akp [o v] H λw H'=>∃s,w=.string s/\K s H':=by
 apply akq
 exact Nf aI (qK (tB aI) λH' ai=>⟨_,rfl,hk H' ai⟩)
theorem akr{K:ByteArray->U->Prop}(aI:eM v)(hk:∀H',Fr [] H H'->K ⟨(mG v).toArray⟩ H'):aK aks [o v] H λw H'=>∃s,w=.string s/\K s H':=by
 apply akt
 exact akm aI (aiY (tB aI) λH' ai=>⟨_,rfl,hk H' ai⟩)
theorem aku(n:Nat)(h:n<18446744073709551616):(azx 64 (n:Int)&&&azx 64 1).toNat=n % 2:=by
 have e:azx 64 1=1#64:=by decide
 rw [e,aAr,u' h]
 show n&&&1=n % 2
 rw [Nat.and_one_is_mod]
abbrev Row:=Int×Int×Int
def kW:di Row:=⟨λx=>[.int .i64 x.1,.int .i64 x.2.1,.int .i64 x.2.2],3,λ_=>rfl,by decide,λ_ v h=>by simp at h;rcases h with rfl|rfl|rfl<;>rfl⟩
abbrev eH:=Option Addr×Nat×Nat
structure eW where
 k:Int
 l:bR
 rows:List Row
 gU:List Row
 at':Int
abbrev h6:=Int×eH×eH×eH×Int
def gV(m:h6):List Value:=[.int .i64 m.1,.slice m.2.1.1 m.2.1.2.1 m.2.1.2.2,.slice m.2.2.1.1 m.2.2.1.2.1 m.2.2.1.2.2,.slice m.2.2.2.1.1 m.2.2.2.1.2.1 m.2.2.2.1.2.2,.int .i64 m.2.2.2.2]
structure mF(H:U)(m:h6)(r:eW):Prop where
 k:m.1=r.k
 l:bt g' H m.2.1.1 m.2.1.2.1 m.2.1.2.2 r.l
 rows:bt kW H m.2.2.1.1 m.2.2.1.2.1 m.2.2.1.2.2 r.rows
 gU:bt kW H m.2.2.2.1.1 m.2.2.2.1.2.1 m.2.2.2.1.2.2 r.gU
 at':m.2.2.2.2=r.at'
theorem mF.ag{m:h6}{r:eW}(h:mF H m r)(ai:Fr [] H H'):mF H' m r:=⟨h.k,h.l.ag ai,h.rows.ag ai,h.gU.ag ai,h.at'⟩
def Ez(x:Row):Prop:=(0<=x.1/\x.1<=1099511627776)/\0<=x.2.1/\x.2.1<=199
def EA(x:Row):Prop:=(0<=x.1/\x.1<=199)/\0<=x.2.1/\x.2.1<x.2.2/\x.2.2<=1099511627776
instance(x:Row):Decidable (Ez x):=inferInstanceAs (Decidable (_/\_))
instance(x:Row):Decidable (EA x):=inferInstanceAs (Decidable (_/\_))
structure qi(r:eW):Prop where
 k:0<=r.k/\r.k<=3
 l:r.l≠[]->r.k=0
 rows:r.rows≠[]->r.k=1
 gU:r.gU≠[]->r.k=2
 B6:r.at'≠0->r.k=3
 at':0<=r.at'/\r.at'<=1099511627776
 nr:r.rows.length<=5000
 Is:r.gU.length<=5000
 row:∀x∈r.rows,Ez x
 tomb:∀x∈r.gU,EA x
theorem zX{It:Int}{K:Bool->U->Prop}(hk:K (decide (0<=n/\n<=It)) H):eu aia [o n,o It] H K:=by
 apply aib
 refine au (λh=>⟨_,rfl,?_⟩) (λh=>⟨_,rfl,?_⟩)
 ·have aF:0<=n:=by simpa using h
  rwa [show decide (0<=n/\n<=It)=decide (n<=It)from decide_eq_decide.2 ⟨λh=>h.2,λh=>⟨aF,h⟩⟩]at hk
 ·have aF:¬0<=n:=by simpa using h
  rwa [decide_eq_false λh=>aF h.1]at hk
theorem _root_.Go.bk.a6.nT{m:h6}(h:a6 H ⟨b,0,none⟩ (gV m)):ah 3 H ⟨b,0,none⟩ (.int .i64 m.1):=h.bY rfl
theorem _root_.Go.bk.a6.fB{m:h6}(h:a6 H ⟨b,0,none⟩ (gV m)):ah 45 H ⟨b,1,none⟩ (.slice m.2.1.1 m.2.1.2.1 m.2.1.2.2):=h.cF 1 rfl
theorem _root_.Go.bk.a6.gj{m:h6}(h:a6 H ⟨b,0,none⟩ (gV m)):ah 82 H ⟨b,2,none⟩ (.slice m.2.2.1.1 m.2.2.1.2.1 m.2.2.1.2.2):=h.cF 2 rfl
theorem _root_.Go.bk.a6.y6{m:h6}(h:a6 H ⟨b,0,none⟩ (gV m)):ah 69 H ⟨b,3,none⟩ (.slice m.2.2.2.1.1 m.2.2.2.1.2.1 m.2.2.2.1.2.2):=h.cF 3 rfl
theorem _root_.Go.bk.a6.y7{m:h6}(h:a6 H ⟨b,0,none⟩ (gV m)):ah 3 H ⟨b,4,none⟩ (.int .i64 m.2.2.2.2):=h.cF 4 rfl
theorem _root_.Go.bk.a6.i0{x:Row}(h:a6 H ⟨b,0,none⟩ (kW.cells x)):ah 3 H ⟨b,0,none⟩ (.int .i64 x.1):=h.bY rfl
theorem _root_.Go.bk.a6.i1{x:Row}(h:a6 H ⟨b,0,none⟩ (kW.cells x)):ah 3 H ⟨b,1,none⟩ (.int .i64 x.2.1):=h.cF 1 rfl
theorem _root_.Go.bk.a6.i2{x:Row}(h:a6 H ⟨b,0,none⟩ (kW.cells x)):ah 3 H ⟨b,2,none⟩ (.int .i64 x.2.2):=h.cF 2 rfl
theorem UH{aC:Addr}{x:Row}(h:gu H aC (kW.cells x)):ah 103 H aC (.agg ⟨kW.cells x⟩):=EB (by kernel_rfl) (by kernel_rfl) h
theorem UI{aC:Addr}{x:Row}(h:gu H aC (kW.cells x)):ah 250 H aC (.agg ⟨kW.cells x⟩):=EB (by kernel_rfl) (by kernel_rfl) h
theorem UJ{x:Row}{zs:List Value}{K:Nat->U->Prop}(aE:zs.length=3)
  (k:∀b H',H.size<=b->a6 H' ⟨b,0,none⟩ (kW.cells x)->Fr [] H H'->K b H'):
  ∀b H',dV H b (.cells ⟨zs⟩ 103) H'->∃hv,bp 103 H' ⟨b,0,none⟩ (.agg ⟨kW.cells x⟩) hv/\K b hv:=
 iS (by kernel_rfl) (by kernel_rfl) (λv h=>by simp [azI,kW]at h;rcases h with rfl|rfl|rfl<;>rfl) aE k
theorem UK{x:Row}{zs:List Value}{K:Nat->U->Prop}(aE:zs.length=3)
  (k:∀b H',H.size<=b->a6 H' ⟨b,0,none⟩ (kW.cells x)->Fr [] H H'->K b H'):
  ∀b H',dV H b (.cells ⟨zs⟩ 250) H'->∃hv,bp 250 H' ⟨b,0,none⟩ (.agg ⟨kW.cells x⟩) hv/\K b hv:=
 iS (by kernel_rfl) (by kernel_rfl) (λv h=>by simp [azI,kW]at h;rcases h with rfl|rfl|rfl<;>rfl) aE k
def Small(m:h6):Prop:=m.2.1.2.1<=1000000000/\m.2.2.1.2.1<=1000000000/\m.2.2.2.1.2.1<=1000000000
theorem aic{m:h6}{r:eW}{K:Bool->U->Prop}(h:mF H m r)(hs:Small m)(eV:qi r->∀H',Fr [] H H'->K true H')(cq:¬qi r->∀H',Fr [] H H'->K false H'):
  eu aid [.agg ⟨gV m⟩] H K:=by
 apply aie
 intro b H1 bb
 have al:a6 H1 ⟨b,0,none⟩ (gV m):=bb.bz
 have h1:=h.ag bb.af
 refine⟨_,_,_,al.fB,_,_,_,al.gj,_,_,_,al.y6,_,al.y7,?_⟩
 have kp:=h.l.len
 have pV:=h.rows.len
 have aif:=h.gU.len
 obtain⟨s1,s2,qA⟩:=hs
 have bad:∀{H':U},Fr [] H H'->¬qi r->∃b,azD false=.bool b/\K b H':=λai ay=>⟨_,rfl,cq ay _ ai⟩
 intro b1 ao bK
 have st:∀{ae:List Value} {zs:List Value} {X:U->Prop},ao=ao->ae.length=4->(∀v∈ae,∃x,v=.bool x)->(∀H',Fr [] H1 H'->a6 H' ⟨b1,0,none⟩ ae->X H')->∃H',bp 305 ao ⟨b1,0,none⟩ (.agg ⟨ae⟩) H'/\X H':=λ{ae zs X} _ aI qj hc=>by
  refine bK.bz.iQ (v:=.agg ⟨ae⟩) (by show hy azB 305=ae.length;rw [aI];kernel_rfl) (by kernel_rfl) (λx aa=> ?_) (by show ae.length<=4;omega) λH' ff eE=>hc H' (bK.af.ag eE (λk hk=>by simp at hk;have:=bK.eq;omega)) ?_
  ·have aa:x∈ae:=by simpa [azI]using aa
   obtain⟨y,rfl⟩:=qj x aa;rfl
  ·have e:((ax8 ⟨ae⟩).cells.toList++[azD false,.bool false,.bool false,.bool false].drop (ax8 ⟨ae⟩).cells.toList.length)=ae:=by
    show ae++[azD false,.bool false,.bool false,.bool false].drop ae.length=ae
    rw [aI];simp
   rw [e]at ff;exact ff
 refine st (zs:=[]) rfl rfl (λv aI=>by simp only [axA,List.not_mem_nil,or_false]at aI;rcases aI with rfl|rfl|rfl|rfl<;>exact⟨_,rfl⟩) λaP bP fm=> ?_
 have kT:=bb.af.aT bP
 have BY:=al.ag bP
 refine⟨_,_,_,_,fm.f' rfl,?_⟩
 have own:∀n:Nat,n<4->∃w,oZ azB 4 [.bool (decide ((m.2.1.2.1:Int)>0)),.bool (decide ((m.2.2.1.2.1:Int)>0)),.bool (decide ((m.2.2.2.1.2.1:Int)>0)),.bool (m.2.2.2.2 !=0)] (azw (n:Int)*1) (.bool w)∧
   (w=true↔(n=0/\r.l≠[])\/(n=1/\r.rows≠[])\/(n=2/\r.gU≠[])\/(n=3/\r.at'≠0)):=λn ay=>by
  have aL:∀{α:Type} {l:List α} {k:Nat},k=l.length->(decide ((k:Int)>0)=true↔l≠[]):=λ{α l k} e=>by
   cases l<;>simp at e<;>simp [e]
  match n,ay with
  |0,_=>exact⟨decide ((m.2.1.2.1:Int)>0),by unfold oZ;kernel_rfl,by rw [aL kp];simp⟩
  |1,_=>exact⟨decide ((m.2.2.1.2.1:Int)>0),by unfold oZ;kernel_rfl,by rw [aL pV];simp⟩
  |2,_=>exact⟨decide ((m.2.2.2.1.2.1:Int)>0),by unfold oZ;kernel_rfl,by rw [aL aif];simp⟩
  |3,_=>exact⟨m.2.2.2.2 !=0,by unfold oZ;kernel_rfl,by rw [h.at'];simp⟩
 refine⟨λae H'=>match ae with|[.int _ i]=>∃k:Nat,i=k/\k<=4/\(0<k->r.l≠[]->r.k=0)/\(1<k->r.rows≠[]->r.k=1)/\(2<k->r.gU≠[]->r.k=2)/\(3<k->r.at'≠0->r.k=3)/\H'=aP|_=>False,
  λae _=>match ae with|[.int _ i]=>4-i.toNat|_=>0,⟨0,rfl,by omega,by omega,by omega,by omega,by omega,rfl⟩,?_⟩
 rintro br i a8 ⟨k,rfl,av0,g1,g2,g3,g4,rfl⟩
 refine au (λaF=> ?_) (λaF=> ?_)
 ·have b':k<4:=by simp at aF;omega
  refine cM (bh (by omega)) ?_
  obtain⟨w,hw,MN⟩:=own k b'
  refine⟨w,hw,?_⟩
  rw [cE (by omega)]
  refine au (λab=>⟨_,BY.nT,?_⟩) (λab=> ?_)
  ·have ab:=MN.1 ab
   rw [h.k]
   refine au (λar=>bad kT λbS=> ?_) (λar=>⟨⟨k+1,rfl,by omega,?_,?_,?_,?_,rfl⟩,dU b'⟩)
   ·have ar:(k:Int)≠r.k:=by simpa using ar
    rcases ab with⟨e,ab⟩|⟨e,ab⟩|⟨e,ab⟩|⟨e,ab⟩
    ·exact ar (by rw [bS.l ab,e];rfl)
    ·exact ar (by rw [bS.rows ab,e];rfl)
    ·exact ar (by rw [bS.gU ab,e];rfl)
    ·exact ar (by rw [bS.B6 ab,e];rfl)
   all_goals
    have ar:(k:Int)=r.k:=by simpa using ar
    intro hk cP
   ·by_cases e:0<k
    ·exact g1 e cP
    ·omega
   ·by_cases e:1<k
    ·exact g2 e cP
    ·omega
   ·by_cases e:2<k
    ·exact g3 e cP
    ·omega
   ·by_cases e:3<k
    ·exact g4 e cP
    ·omega
  ·have ab:¬w=true:=by simpa using ab
   rw [MN]at ab
   refine⟨⟨k+1,rfl,by omega,λhk cP=> ?_,λhk cP=> ?_,λhk cP=> ?_,λhk cP=> ?_,rfl⟩,dU b'⟩
   ·by_cases e:0<k
    ·exact g1 e cP
    ·exact absurd (.inl ⟨by omega,cP⟩) ab
   ·by_cases e:1<k
    ·exact g2 e cP
    ·exact absurd (.inr (.inl ⟨by omega,cP⟩)) ab
   ·by_cases e:2<k
    ·exact g3 e cP
    ·exact absurd (.inr (.inr (.inl ⟨by omega,cP⟩))) ab
   ·by_cases e:3<k
    ·exact g4 e cP
    ·exact absurd (.inr (.inr (.inr ⟨by omega,cP⟩))) ab
 have aih:k=4:=by simp at aF;omega
 subst aih
 refine⟨_,_,_,BY.gj,?_⟩
 refine⟨λae H'=>match ae with|[.int _ i]=>∃k:Nat,i=k/\k<=m.2.2.1.2.1/\(∀x∈r.rows.take k,Ez x)/\Fr [] a8 H'|_=>False,
  λae _=>match ae with|[.int _ i]=>m.2.2.1.2.1-i.toNat|_=>0,⟨0,rfl,by omega,by simp,Fr.refl _ _⟩,?_⟩
 rintro br i bA ⟨k,rfl,eC,EC,cb⟩
 refine au (λaF=> ?_) (λaF=> ?_)
 ·have b':k<m.2.2.1.2.1:=by simpa using aF
  have cB:r.rows[k]?=some (r.rows[k]'(by omega)):=by simp
  generalize r.rows[k]'(by omega)=x at cB
  refine((h.rows.ag kT).ag cb).get rfl cB (bh (by omega)) λaC b4 av=>⟨_,_,_,UH av,?_⟩
  refine UJ rfl λBj ct Ds aI de=>⟨_,aI.i0,zX ?_⟩
  have n1:=(kT.aT cb).aT de
  refine au (λab=>bad n1 λbS=> ?_) (λab=>⟨_,aI.i1,zX (au (λar=>bad n1 λbS=> ?_) (λar=> ?_))⟩)
  ·have:=(bS.row x (azR cB)).1
   simp [this]at ab
  ·have:=(bS.row x (azR cB)).2
   simp [this]at ar
  ·rw [cE (by omega)]
   refine⟨⟨k+1,rfl,by omega,λy aA=> ?_,cb.aT de⟩,dU b'⟩
   rw [azP,cB]at aA
   rcases azb.1 aA with aA|aA
   ·exact EC y aA
   ·simp at aA;subst aA
    exact⟨of_decide_eq_true (by simpa using ab),of_decide_eq_true (by simpa using ar)⟩
 rw [ayB (by simp at aF;omega)]at EC
 have yc:=kT.aT cb
 have dI:=BY.ag cb
 refine⟨_,_,_,dI.y6,?_⟩
 refine⟨λae H'=>match ae with|[.int _ i]=>∃k:Nat,i=k/\k<=m.2.2.2.1.2.1/\(∀x∈r.gU.take k,EA x)/\Fr [] bA H'|_=>False,
  λae _=>match ae with|[.int _ i]=>m.2.2.2.1.2.1-i.toNat|_=>0,⟨0,rfl,by omega,by simp,Fr.refl _ _⟩,?_⟩
 rintro br i ct ⟨k,rfl,eC,MO,de⟩
 have n1:=yc.aT de
 refine au (λaF=> ?_) (λaF=> ?_)
 ·have b':k<m.2.2.2.1.2.1:=by simpa using aF
  have cB:r.gU[k]?=some (r.gU[k]'(by omega)):=by simp
  generalize r.gU[k]'(by omega)=x at cB
  have kl:=azR cB
  refine⟨λ_ H'=>Fr [] ct H'/\EA x,?_,?_⟩
  ·refine(h.gU.ag n1).get rfl cB (bh (by omega)) λaC b4 av=>⟨_,_,_,UI av,?_⟩
   refine UK rfl λBj dx Ds aI e4=>⟨_,aI.i0,zX ?_⟩
   have rZ:=n1.aT e4
   refine au (λab=>bad rZ λbS=> ?_) (λab=>⟨_,aI.i1,au (λar=>bad rZ λbS=> ?_) (λar=>⟨_,aI.i2,_,aI.i1,au (λa7=>bad rZ λbS=> ?_) (λa7=>⟨_,aI.i2,au (λbs=>bad rZ λbS=> ?_) (λbs=>⟨e4,?_⟩)⟩)⟩)⟩)
   ·have:=(bS.tomb x kl).1
    simp [this]at ab
   ·have:=(bS.tomb x kl).2.1
    simp at ar;omega
   ·have:=(bS.tomb x kl).2.2.1
    simp at a7;omega
   ·have:=(bS.tomb x kl).2.2.2
    simp at bs;omega
   ·refine⟨of_decide_eq_true (by simpa using ab),?_,?_,?_⟩
    ·simp at ar;omega
    ·simp at a7;omega
    ·simp at bs;omega
  ·rintro br dx ⟨e4,aa⟩
   rw [cE (by omega)]
   refine⟨⟨k+1,rfl,by omega,λy aA=> ?_,de.aT e4⟩,dU b'⟩
   rw [azP,cB]at aA
   rcases azb.1 aA with aA|aA
   ·exact MO y aA
   ·simp at aA;subst aA;exact aa
 rw [ayB (by simp at aF;omega)]at MO
 have jN:=dI.ag de
 refine⟨_,jN.nT,zX (au (λab=>⟨_,jN.y7,zX (au (λar=>⟨_,_,_,jN.gj,au (λa7=>⟨_,_,_,jN.y6,?_⟩) (λa7=>bad n1 λbS=> ?_)⟩) (λar=>bad n1 λbS=> ?_))⟩) (λab=>bad n1 λbS=> ?_))⟩
 ·have ab:=of_decide_eq_true ab
  have ar:=of_decide_eq_true ar
  have a7:m.2.2.1.2.1<=5000:=by simp at a7;omega
  rw [h.k]at ab
  rw [h.at']at ar
  by_cases bs:m.2.2.2.1.2.1<=5000
  ·rw [bh (by omega)]
   exact⟨_,rfl,eV ⟨ab,g1 (by omega),g2 (by omega),g3 (by omega),g4 (by omega),ar,by omega,by omega,EC,MO⟩ _ n1⟩
  ·rw [decide_eq_false (by omega)]
   exact⟨_,rfl,cq (λbS=>by have:=bS.Is;omega) _ n1⟩
 ·have:=bS.nr
  simp at a7;omega
 ·have:=bS.at'
  rw [h.at']at ar
  exact absurd this (of_decide_eq_false ar)
 ·have:=bS.k
  rw [h.k]at ab
  exact absurd this (of_decide_eq_false ab)
theorem tm(x y:List UInt8):((⟨x.toArray⟩:ByteArray)++⟨y.toArray⟩)=⟨(x++y).toArray⟩:=by
 apply iV
 rw [kQ,jW,jW,jW]
def qa(l:bR):ByteArray:=⟨(lW l).toArray⟩
theorem LZ(l:bR):bd (qa l)=lW l:=by unfold qa;rw [jW]
def zY(v:Int):Prop:=0<=v/\v<18446744073709551616
def hJ(v:Int):List UInt8:=cn v.toNat
theorem u4(h:zY v):(hJ v).length<=10:=hD (by unfold zY at h;omega)
theorem aii{xs:List Int}(h:∀x∈xs,zY x):(xs.flatMap hJ).length<=10*xs.length:=by
 induction xs with
 |nil=>simp
 |cons x l ih=>
  have h1:=u4 (h x (by simp))
  have ab:=ih λy aA=>h y (by simp [aA])
  simp only [axO,ax6,ayi];omega
theorem B7{a:Option Addr}{n c:Nat}{xs:List Int}{K:ByteArray->U->Prop}(aa:bt cH H a n c xs)(ay:n<=1000)(hu:∀x∈xs,zY x)
  (hk:∀H',Fr [] H H'->K ⟨(xs.flatMap hJ).toArray⟩ H'):
  dv aij [J a n c] H K:=by
 apply aik
 intro b H1 bb
 have Iu:=bb.eq
 have k5:=aa.len
 have ED:=bb.size
 refine⟨λae H'=>match ae with|[.int _ i]=>∃(k:Nat) (S:List Nat),i=k/\k<=n/\jR H' b S ((xs.take k).flatMap hJ)/\(∀j∈S,H.size<=j)/\Fr [] H H'|_=>False,
  λae _=>match ae with|[.int _ i]=>n-i.toNat|_=>0,⟨0,[b],rfl,by omega,mo.new bb,λj bq=>by simp at bq;omega,bb.af⟩,?_⟩
 rintro br i ao ⟨k,S,rfl,eC,al,bB,ai⟩
 have hlen:((xs.take k).flatMap hJ).length<=10*k:=by
  have:=aii (xs:=xs.take k) λx aa=>hu x (azY aa)
  rw [ayj]at this;omega
 refine au (λaF=> ?_) (λaF=> ?_)
 ·have b':k<n:=by simpa using aF
  have cB:xs[k]?=some (xs[k]'(by omega)):=by simp
  generalize xs[k]'(by omega)=x at cB
  have UL:=hu x (azR cB)
  refine(aa.ag ai).get rfl cB (bh (by omega)) λaC b4 av=>⟨_,jb av,?_⟩
  obtain⟨y,rfl⟩:∃y:Nat,x=y:=⟨x.toNat,by have:=UL.1;omega⟩
  have aA:y<18446744073709551616:=by have:=UL.2;omega
  rw [ix (n:=(y:Int)) (by omega) (by omega)]
  refine qK aA λaP bP=> ?_
  have kp:=hD aA
  have dF:=fD (cn y)
  refine sT (al.ag bP) (by omega) λa8 yb gm cm ko=> ?_
  rw [cE (by omega)]
  refine⟨⟨k+1,yb,rfl,by omega,?_,λj bq=> ?_,(ai.aT bP).ag cm bB⟩,dU b'⟩
  ·rw [azP,cB,azf]
   rw [jW]at gm
   simpa [hJ]using gm
  ·rcases ko j bq with h|h
   ·exact bB j h
   ·have:=ai.size;have:=bP.size;omega
 ·rw [ayB (by simp at aF;omega)]at al hlen
  exact xD al (by omega) λaP bP=>⟨_,rfl,hk aP (ai.ag bP bB)⟩
def qk(x:Row):List UInt8:=hJ x.1++(hJ x.2.1++mG x.2.2)
def ql(x:Row):List UInt8:=hJ x.1++(hJ x.2.1++hJ x.2.2)
def tA(r:eW):Prop:=∀x∈r.rows,eM x.2.2
open Classical in
def lE(r:eW):List UInt8:=if r.k=0 then e6 (qa r.l)else if r.k=1 then cn r.rows.length++r.rows.flatMap qk else if r.k=2 then cn r.gU.length++r.gU.flatMap ql else hJ r.at'
def kX(r:eW):List UInt8:=hJ r.k++lE r
theorem EE{x:Row}(h:Ez x)(ab:eM x.2.2):(qk x).length<=30:=by
 unfold qk
 have h1:=u4 (v:=x.1) ⟨h.1.1,by have:=h.1.2;omega⟩
 have ar:=u4 (v:=x.2.1) ⟨h.2.1,by have:=h.2.2;omega⟩
 have a7:(mG x.2.2).length<=10:=hD (tB ab)
 simp only [ax6];omega
theorem Iv{x:Row}(h:EA x):(ql x).length<=30:=by
 unfold ql
 have h1:=u4 (v:=x.1) ⟨h.1.1,by have:=h.1.2;omega⟩
 have ar:=u4 (v:=x.2.1) ⟨h.2.1,by have:=h.2.2;omega⟩
 have a7:=u4 (v:=x.2.2) ⟨by have:=h.2;omega,by have:=h.2;omega⟩
 simp only [ax6];omega
theorem MP{f:Row->List UInt8}{l:List Row}(h:∀x∈l,(f x).length<=30):(l.flatMap f).length<=30*l.length:=by
 induction l with
 |nil=>simp
 |cons x l ih=>
  have h1:=h x (by simp)
  have ab:=ih λy aA=>h y (by simp [aA])
  simp only [axO,ax6,ayi];omega
def qZ(f:Row->List UInt8)(l:List Row)(k:Nat):List UInt8:=cn l.length++(l.take k).flatMap f
theorem Iw{f:Row->List UInt8}{l:List Row}(h:∀x∈l,(f x).length<=30)(ab:l.length<=5000)(k:Nat):(qZ f l k).length<=200000:=by
 unfold qZ
 have h1:=hD (n:=l.length) (by omega)
 have ar:=MP (l:=l.take k) λx aa=>h x (azY aa)
 rw [ayj]at ar
 rw [ax6];omega
theorem UM{f:Row->List UInt8}{l:List Row}{x:Row}(h:l[k]?=some x):qZ f l (k+1)=qZ f l k++f x:=by
 unfold qZ
 rw [azP,h];simp
theorem Ix{f:Row->List UInt8}{l:List Row}(h:l.length<=k):qZ f l k=cn l.length++l.flatMap f:=by
 unfold qZ;rw [ayB h]
theorem G1{t:TypeId}(xs:List Int){ae:List Value}(h:dV H b (.cells ⟨ae⟩ t) H')(aI:ae=xs.map (ayZ .i64)):bt cH H' (some ⟨b,0,none⟩) xs.length xs.length xs:=by
 refine⟨rfl,axx _,.inr ⟨b,0,rfl,λi y aA j v bq=> ?_⟩⟩
 have EF:j=0:=by
  have:(cH.cells y).length=1:=rfl
  have:=(axC.1 bq).1
  omega
 subst EF
 have zZ:v=.int .i64 y:=by simpa [cH]using bq.symm
 subst zZ
 rw [tp h.get]
 subst aI
 have e:cH.sz=1:=rfl
 simp [e,aA]
theorem one_num{K:ByteArray->U->Prop}(hu:zY v)(hk:∀H',Fr [] H H'->K ⟨(hJ v).toArray⟩ H'):∀b H1,dV H b (.cells ⟨[.int .i64 v]⟩ 3) H1->dv 188 [J (some (ak b)) 1 1] H1 K:=λb H1 bb=>
 B7 (fy cH v bb rfl) (by omega) (λx aa=>by simp at aa;subst aa;exact hu) λH' ai=>by
  have:[v].flatMap hJ=hJ v:=by simp
  rw [this];exact hk H' (bb.af.aT ai)
theorem ail{m:h6}{r:eW}{K:ByteArray->Int->U->Prop}(al:a6 H ⟨b,0,none⟩ (gV m))(h:mF H m r)(hs:Small m)
  (cq:¬fa r.l->∀s H',s.size<=1000->Fr [] H H'->K s 40 H') (eV:fa r.l->∀H',Fr [] H H'->K ⟨(e6 (qa r.l)).toArray⟩ 0 H'):
  aK aim [ax (some (ak b))] H λv H'=>∃s e,v=.tuple ⟨[.string s,.int .i64 e]⟩/\K s e H':=by
 apply ain
 refine⟨_,_,_,al.fB,TO h.l hs.1 (λdj H1 cv=> ?_) λdj H1 cv=> ?_⟩
 ·refine wj (s:=⟨#[]⟩) (by simp [azC]) λao bG=>⟨_,_,rfl,cq dj _ _ ?_ (cv.aT bG)⟩
  rw [fD]
  unfold e6
  rw [ax6,dR]
  have:=hD (n:=(⟨#[]⟩:ByteArray).size) (by simp [azC])
  have ed:(⟨#[]⟩:ByteArray).size=0:=rfl
  omega
 ·have:=x6 dj
  have ab:=fD (lW r.l)
  exact wj (by omega) λao bG=>⟨_,_,rfl,eV dj ao (cv.aT bG)⟩
theorem aio{m:h6}{r:eW}{K:ByteArray->Int->U->Prop}(al:a6 H ⟨b,0,none⟩ (gV m))(h:mF H m r)(bS:qi r)
  (hk:∀H',Fr [] H H'->K ⟨(hJ r.at').toArray⟩ 0 H'):
  aK aip [ax (some (ak b))] H λv H'=>∃s e,v=.tuple ⟨[.string s,.int .i64 e]⟩/\K s e H':=by
 apply aiq
 refine⟨_,al.y7,?_⟩
 rw [h.at']
 exact one_num ⟨bS.at'.1,by have:=bS.at'.2;omega⟩ λH' ai=>⟨_,_,rfl,hk H' ai⟩
theorem air{m:h6}{r:eW}{K:ByteArray->Int->U->Prop}(al:a6 H ⟨b,0,none⟩ (gV m))(h:mF H m r)(bS:qi r)
  (hk:∀H',Fr [] H H'->K ⟨(cn r.gU.length++r.gU.flatMap ql).toArray⟩ 0 H'):
  aK ais [ax (some (ak b))] H λv H'=>∃s e,v=.tuple ⟨[.string s,.int .i64 e]⟩/\K s e H':=by
 apply ait
 have aG:=h.gU.len
 have MQ:=bS.Is
 refine⟨_,_,_,al.y6,?_⟩
 refine one_num ⟨by omega,by omega⟩ λH1 cv=> ?_
 have dA:=al.ag cv
 refine⟨_,_,_,dA.y6,?_⟩
 have hlen:=Iw (f:=ql) (l:=r.gU) (λx aa=>Iv (bS.tomb x aa)) MQ
 refine⟨λae H'=>match ae with
   |[.string s,.int _ i]=>∃k:Nat,i=k/\k<=m.2.2.2.1.2.1/\s=⟨(qZ ql r.gU k).toArray⟩/\Fr [] H H'
   |_=>False,
  λae _=>match ae with|[_,.int _ i]=>m.2.2.2.1.2.1-i.toNat|_=>0,⟨0,rfl,by omega,by unfold qZ hJ;simp [aG],cv⟩,?_⟩
 rintro br s i ao ⟨k,rfl,hle,rfl,bG⟩
 refine au (λaF=> ?_) (λaF=> ?_)
 ·have b':k<m.2.2.2.1.2.1:=by simpa using aF
  have cB:r.gU[k]?=some (r.gU[k]'(by omega)):=by simp
  generalize r.gU[k]'(by omega)=x at cB
  have cd:=bS.tomb x (azR cB)
  refine(h.gU.ag bG).get rfl cB (bh (by omega)) λaC b4 av=>⟨_,_,_,UI av,?_⟩
  refine UK rfl λBj aP Ds aI bP=>⟨_,aI.i0,_,aI.i1,_,aI.i2,?_⟩
  intro jy a8 cS
  have zP:bt cH a8 (some ⟨jy,0,none⟩) 3 3 [x.1,x.2.1,x.2.2]:=G1 [x.1,x.2.1,x.2.2] cS rfl
  refine B7 zP (by omega) (λy aA=> ?_) λbA cb=> ?_
  ·simp at aA
   unfold zY
   have:=cd.1;have:=cd.2
   rcases aA with rfl|rfl|rfl<;>omega
  ·have e:[x.1,x.2.1,x.2.2].flatMap hJ=ql x:=by simp [ql]
   rw [e]
   have h1:=hlen k
   have ab:=Iv cd
   have ar:=fD (qZ ql r.gU k)
   have a7:=fD (ql x)
   refine cM (bh (by omega)) ⟨⟨k+1,by rw [cE (by omega)],by omega,?_,((bG.aT bP).aT cS.af).aT cb⟩,by rw [cE (by omega)];exact dU b'⟩
   rw [tm,UM cB]
 ·rw [Ix (by simp at aF;omega)]
  exact⟨_,_,rfl,hk ao bG⟩
def Ar:List Nat:=[0,4129,8258,12387,16516,20645,24774,28903,33032,37161,41290,45419,49548,53677,57806,61935]
def uO(k:Nat):Nat:=Ar.getD k 0
def x8(c h:Nat):Nat:=(c*16 % 65536)^^^uO ((c/4096)^^^h)
def Eg(c b:Nat):Nat:=x8 (x8 c (b/16)) (b % 16)
def pk(l:List UInt8):Nat:=l.foldl (λc b=>Eg c b.toNat) 65535
theorem L3(k:Nat):uO k<65536:=by
 unfold uO
 by_cases h:k<16
 ·have:∀k:Fin 16,Ar.getD k.val 0<65536:=by decide
  exact this ⟨k,h⟩
 ·have:Ar[k]?=none:=ayL (by simp [Ar];omega)
  rw [List.getD,this];decide
theorem apW{a:Nat}(bW:a<65536)(al:b<65536):a^^^b<65536:=aAs (n:=16) bW al
theorem H6{a:Nat}(bW:a<16)(al:b<16):a^^^b<16:=aAs (n:=4) bW al
theorem H7{c h:Nat}:x8 c h<65536:=apW (Nat.mod_lt _ (by decide)) (L3 _)
theorem apX{c:Nat}:Eg c b<65536:=H7
theorem Xw:∀(l:List UInt8) (c:Nat),c<65536->l.foldl (λc b=>Eg c b.toNat) c<65536
 |[],_,h=>h
 |b::l,c,_=>Xw l _ apX
theorem L2(l:List UInt8):pk l<65536:=Xw l _ (by decide)
theorem afL{l:List UInt8}{b:UInt8}(h:l[k]?=some b):pk (l.take (k+1))=Eg (pk (l.take k)) b.toNat:=by
 unfold pk
 rw [azP,h]
 simp
def qb(s:ByteArray):List UInt8:=e6 s++[axX (pk (bd s)/256),axX (pk (bd s) % 256)]
theorem MS(s:ByteArray):(qb s).length=(e6 s).length+2:=by simp [qb]
def n2(H:U):Prop:=∀k,k<16->j5 H ⟨0,k,none⟩=some (.int .u16 (uO k))
theorem n2.ag(h:n2 H)(ai:Fr [] H H'):n2 H':=λk hk=>ai.cell0 (h k hk)
theorem n2.ld(h:n2 H)(hk:k<16):ah 302 H (Addr.add ⟨0,0,none⟩ (((k:Nat):Int).toNat *1)) (.int .u16 (uO k)):=by
 refine x7 (by kernel_rfl) ?_
 have:(Addr.add ⟨0,0,none⟩ (((k:Nat):Int).toNat *1):Addr)=⟨0,k,none⟩:=by
  rw [lg];congr 1;omega
 rw [this];exact h k hk
theorem L1(h:0<=n):IntKind.u16.wrap n=n % 65536:=by
 unfold azQ
 simp [azF,azO]
theorem BN(h:0<=n)(ab:n<65536):IntKind.u16.wrap n=n:=by
 rw [L1 h];omega
theorem H4{a:Nat}(bW:a<65536)(al:b<65536):(azx 16 (a:Int)^^^azx 16 (b:Int)).toNat=a^^^b:=by
 simp only [BitVec.toNat_xor,aAt,aAu]
 rw [aAb (by omega),aAb (by omega)]
theorem afH{a:Nat}(bW:a<256):(azx 8 (a:Int)&&&azx 8 15).toNat=a % 16:=by
 have:(azx 8 15).toNat=15:=rfl
 simp only [aAr,aAt,aAu,this]
 rw [aAb (by omega)]
 exact Nat.and_two_pow_sub_one_eq_mod a 4
theorem fd(a k:Nat)(hk:k≠0):azy (a:Int) (k:Int)=((a/k:Nat):Int):=by
 rw [aAa _ (by omega)];rfl
theorem afI{s:ByteArray}{K:Int->U->Prop}(cd:n2 H)(hs:s.size<=1000000000000)(hk:∀H',Fr [] H H'->K (pk (bd s):Nat) H'):
  cG afJ [aj s] H K:=by
 apply afK
 refine H5 dt.str dt.bT (by kernel_rfl) λq c H1 aO eo f1=> ?_
 have hlen:=dR s
 refine⟨λae ao=>match ae with|[.int _ x,.int _ i]=>∃j:Nat,i=j/\j<=s.size/\x=(pk ((bd s).take j):Nat)/\ao=H1|_=>False,
  λae _=>match ae with|[_,.int _ i]=>s.size-i.toNat|_=>0,⟨0,rfl,by omega,rfl,rfl⟩,?_⟩
 rintro br x i ao ⟨j,rfl,bq,rfl,rfl⟩
 have TP:=cd.ag f1
 refine au (λaF=> ?_) (λaF=> ?_)
 ·have b':j<s.size:=by simpa using aF
  obtain⟨b,al⟩:=fM (l:=bd s) (i:=j) (by omega)
  refine eo.get rfl al (by simp;omega) λaC e av=>⟨b.toNat,jb av,?_⟩
  have uo:b.toNat<256:=UInt8.toNat_lt _
  have iD:=L2 ((bd s).take j)
  have tn:=afL al
  generalize TQ:pk ((bd s).take j)=pn at *
  generalize b.toNat=kU at *
  have aL:IntKind.u16.wrap ((azz (azx 16 (azy (pn:Int) (2^12))^^^azx 16 (IntKind.u16.wrap (azy (kU:Int) (2^4)))):Nat):Int)=((pn/4096^^^kU/16:Nat):Int):=by
   rw [show((2:Int)^12)=((4096:Nat):Int) by rfl,show((2:Int)^4)=((16:Nat):Int) by rfl,fd _ _ (by decide),fd _ _ (by decide),BN (n:=((kU/16:Nat):Int)) (by omega) (by omega),H4 (by omega) (by omega)]
   have:=H6 (a:=pn/4096) (b:=kU/16) (by omega) (by omega)
   exact BN (by omega) (by omega)
  rw [aL]
  have A0:=H6 (a:=pn/4096) (b:=kU/16) (by omega) (by omega)
  refine cM (bh (by omega)) ⟨_,TP.ld A0,?_⟩
  have a':IntKind.u16.wrap ((azz (azx 16 (IntKind.u16.wrap ((pn:Int)*2^4))^^^azx 16 (uO (pn/4096^^^kU/16):Int)):Nat):Int)=(x8 pn (kU/16):Nat):=by
   have hw:IntKind.u16.wrap ((pn:Int)*2^4)=((pn*16 % 65536:Nat):Int):=by
    rw [L1 (by omega)];omega
   have:=L3 (pn/4096^^^kU/16)
   rw [hw,H4 (by omega) this]
   have ab:=H7 (c:=pn) (h:=kU/16)
   unfold x8 at ab⊢
   exact BN (by omega) (by omega)
  rw [a']
  have ay:=H7 (c:=pn) (h:=kU/16)
  generalize aR:x8 pn (kU/16)=uP at *
  have cX:IntKind.u16.wrap ((azz (azx 16 (azy (uP:Int) (2^12))^^^azx 16 (IntKind.u16.wrap (IntKind.u8.wrap ((azz (azx 8 (kU:Int)&&&azx 8 15):Nat):Int)))):Nat):Int)=((uP/4096^^^kU % 16:Nat):Int):=by
   have fi:IntKind.u8.wrap ((kU % 16:Nat):Int)=((kU % 16:Nat):Int):=by
    rw [rW (by omega)];omega
   rw [afH uo,fi,show((2:Int)^12)=((4096:Nat):Int) by rfl,fd _ _ (by decide),BN (n:=((kU % 16:Nat):Int)) (by omega) (by omega),H4 (by omega) (by omega)]
   have:=H6 (a:=uP/4096) (b:=kU % 16) (by omega) (by omega)
   exact BN (by omega) (by omega)
  rw [cX]
  have fA:=H6 (a:=uP/4096) (b:=kU % 16) (by omega) (by omega)
  refine cM (bh (by omega)) ⟨_,TP.ld fA,?_⟩
  have gQ:IntKind.u16.wrap ((azz (azx 16 (IntKind.u16.wrap (IntKind.u16.wrap ((azz (azx 16 (IntKind.u16.wrap ((pn:Int)*2^4))^^^azx 16 (uO (pn/4096^^^kU/16):Int)):Nat):Int)*2^4))^^^azx 16 (uO (uP/4096^^^kU % 16):Int)):Nat):Int)=(x8 uP (kU % 16):Nat):=by
   rw [a']
   have hw:IntKind.u16.wrap ((uP:Int)*2^4)=((uP*16 % 65536:Nat):Int):=by
    rw [L1 (by omega)];omega
   have:=L3 (uP/4096^^^kU % 16)
   rw [hw,H4 (by omega) this]
   have ab:=H7 (c:=uP) (h:=kU % 16)
   unfold x8 at ab⊢
   exact BN (by omega) (by omega)
  first
   |rw [gQ]
   |(rw [a']at gQ;rw [gQ])
  refine⟨⟨j+1,cE (by omega),by omega,?_,rfl⟩,?_⟩
  ·rw [tn];unfold Eg;rw [aR]
  ·show s.size-(IntKind.i64.wrap ((j:Int)+1)).toNat<s.size-((j:Nat):Int).toNat
   rw [cE (by omega)]
   exact dU b'
 ·have L4:j=s.size:=by simp at aF;omega
  subst L4
  rw [ayB (by omega)]
  have:=L2 (bd s)
  rw [cj (by omega) (by omega)]
  exact⟨_,rfl,hk _ f1⟩
theorem TR{t:TypeId}(xs:List UInt8){ae:List Value}(h:dV H b (.cells ⟨ae⟩ t) H')(aI:ae=xs.map λx=>ayZ .u8 (x.toNat:Int)):bt fb H' (some ⟨b,0,none⟩) xs.length xs.length xs:=by
 refine⟨rfl,axx _,.inr ⟨b,0,rfl,λi y aA j v bq=> ?_⟩⟩
 rw [tp h.get,aI]
 have:=x9 fb xs i y aA j v bq
 have e:xs.flatMap fb.cells=xs.map λx=>ayZ .u8 (x.toNat:Int):=by
  clear this bq aA aI
  induction xs with
  |nil=>rfl
  |cons x l ih=>rw [axO,ih];rfl
 rw [e]at this
 simpa using this
theorem two_bytes{n:Nat}(h:n<65536):[ayZ .u8 (IntKind.u8.wrap (azy (n:Int) (2^8))),ayZ .u8 (IntKind.u8.wrap (n:Int))]=[axX (n/256),axX (n % 256)].map λx=>ayZ .u8 (x.toNat:Int):=by
 rw [show((2:Int)^8)=((256:Nat):Int) by rfl,fd _ _ (by decide),rW (by omega),rW (by omega)]
 simp only [axE,List.map_nil,axY]
 rw [show(2:Nat)^8=256 by rfl]
 have aL:((n/256:Nat):Int) % 256=((n/256 % 256:Nat):Int):=by omega
 have a':(n:Int) % 256=((n % 256 % 256:Nat):Int):=by omega
 rw [aL,a']
theorem afM{s:ByteArray}{K:ByteArray->U->Prop}(cd:n2 H)(hs:s.size<=1000000000000)(hk:∀H',Fr [] H H'->K ⟨(qb s).toArray⟩ H'):
  dv afN [aj s] H K:=by
 apply afO
 have av:=L2 (bd s)
 have L5:∀H',Fr [] H H'->dB (decide (azC (⟨(e6 s).toArray⟩:ByteArray)+azC (⟨[axX (pk (bd s)/256),axX (pk (bd s) % 256)].toArray⟩:ByteArray)<=9223372036854775807)) (∃nQ,az4 ((⟨(e6 s).toArray⟩:ByteArray)++⟨[axX (pk (bd s)/256),axX (pk (bd s) % 256)].toArray⟩)=.string nQ/\K nQ H'):=λH' ai=>by
  have h1:=hD (n:=s.size) (by omega)
  have ab:(e6 s).length<=10+s.size:=by unfold e6;rw [ax6,dR];omega
  refine cM (bh ?_) ⟨_,rfl,?_⟩
  ·rw [fD (e6 s),fD [axX (pk (bd s)/256),axX (pk (bd s) % 256)]]
   simp only [ayi,azs]
   omega
  ·rw [tm (e6 s)]
   exact hk H' ai
 refine afI cd hs λH1 f1=>⟨?_,λb ao bK=> ?_⟩
 ·refine wj (by omega) λao f2 b aP bw=> ?_
  refine wo dt.bT dt.str (by kernel_rfl) (TR _ bw (two_bytes av)) ?_
  exact L5 aP ((f1.aT f2).aT bw.af)
 ·have eo:=TR _ bK (two_bytes av)
  refine⟨wj (by omega) λaP f3=> ?_,?_⟩
  ·refine wo dt.bT dt.str (by kernel_rfl) (eo.ag f3) ?_
   exact L5 aP ((f1.aT bK.af).aT f3)
  ·refine wo dt.bT dt.str (by kernel_rfl) eo ?_
   refine wj (by omega) λaP f3=> ?_
   exact L5 aP ((f1.aT bK.af).aT f3)
theorem aiu{m:h6}{r:eW}{K:ByteArray->Int->U->Prop}(al:a6 H ⟨b,0,none⟩ (gV m))(h:mF H m r)(bS:qi r)(cd:tA r)
  (hk:∀H',Fr [] H H'->K ⟨(cn r.rows.length++r.rows.flatMap qk).toArray⟩ 0 H'):
  aK aiv [ax (some (ak b))] H λv H'=>∃s e,v=.tuple ⟨[.string s,.int .i64 e]⟩/\K s e H':=by
 apply aiw
 have aG:=h.rows.len
 have MQ:=bS.nr
 refine⟨_,_,_,al.gj,?_⟩
 refine one_num ⟨by omega,by omega⟩ λH1 cv=> ?_
 have dA:=al.ag cv
 refine⟨_,_,_,dA.gj,?_⟩
 have hlen:=Iw (f:=qk) (l:=r.rows) (λx aa=>EE (bS.row x aa) (cd x aa)) MQ
 refine⟨λae H'=>match ae with
   |[.string s,.int _ i]=>∃k:Nat,i=k/\k<=m.2.2.1.2.1/\s=⟨(qZ qk r.rows k).toArray⟩/\Fr [] H H'
   |_=>False,
  λae _=>match ae with|[_,.int _ i]=>m.2.2.1.2.1-i.toNat|_=>0,⟨0,rfl,by omega,by unfold qZ hJ;simp [aG],cv⟩,?_⟩
 rintro br s i ao ⟨k,rfl,hle,rfl,bG⟩
 refine au (λaF=> ?_) (λaF=> ?_)
 ·have b':k<m.2.2.1.2.1:=by simpa using aF
  have cB:r.rows[k]?=some (r.rows[k]'(by omega)):=by simp
  generalize r.rows[k]'(by omega)=x at cB
  have cp:=bS.row x (azR cB)
  have dK:=cd x (azR cB)
  refine(h.rows.ag bG).get rfl cB (bh (by omega)) λaC b4 av=>⟨_,_,_,UH av,?_⟩
  refine UJ rfl λBj aP Ds aI bP=>⟨_,aI.i0,_,aI.i1,_,aI.i2,?_⟩
  intro jy a8 cS
  have zP:bt cH a8 (some ⟨jy,0,none⟩) 2 2 [x.1,x.2.1]:=G1 [x.1,x.2.1] cS rfl
  have UN:=aI.ag cS.af
  refine⟨UN.i2,B7 zP (by omega) (λy aA=> ?_) λbA cb=>⟨(UN.ag cb).i2,UO dK λct de=> ?_⟩⟩
  ·simp at aA
   unfold zY
   have:=cp.1;have:=cp.2
   rcases aA with rfl|rfl<;>omega
  ·have e:[x.1,x.2.1].flatMap hJ=hJ x.1++hJ x.2.1:=by simp
   rw [e]
   have h1:=hlen k
   have ab:=EE cp dK
   have ar:=fD (qZ qk r.rows k)
   have a7:=fD (hJ x.1++hJ x.2.1)
   have bs:=fD (mG x.2.2)
   have b5:(hJ x.1++hJ x.2.1).length+(mG x.2.2).length=(qk x).length:=by unfold qk;simp only [ax6];omega
   refine cM (bh (by omega)) (cM (bh (by rw [q0];omega)) ⟨⟨k+1,by rw [cE (by omega)],by omega,?_,(((bG.aT bP).aT cS.af).aT cb).aT de⟩,by rw [cE (by omega)];exact dU b'⟩)
   rw [tm,tm,UM cB]
   unfold qk;simp
 ·rw [Ix (by simp at aF;omega)]
  exact⟨_,_,rfl,hk ao bG⟩
theorem aix{K:Value->Value->Value->Value->Value->Value->Value->Value->U->Prop}(hk:∀H',Fr [] H H'->K (.func (.func 185) ⟨[]⟩ ⟨[]⟩) (.func (.func 186) ⟨[]⟩ ⟨[]⟩) (.func (.func 187) ⟨[]⟩ ⟨[]⟩) (.func (.func 190) ⟨[]⟩ ⟨[]⟩) (.func (.func 192) ⟨[]⟩ ⟨[]⟩) (.func (.func 193) ⟨[]⟩ ⟨[]⟩) (.func (.func 194) ⟨[]⟩ ⟨[]⟩) (.func (.func 195) ⟨[]⟩ ⟨[]⟩) H'):
  aK aiy [] H λv H'=>∃lD wz z1 EG EH EI EJ EK,v=.agg ⟨[lD,wz,z1,EG,EH,EI,EJ,EK]⟩/\K lD wz z1 EG EH EI EJ EK H':=by
 apply aiz
 intro b H1 bb
 refine bb.bz.iQ (v:=.agg ⟨_⟩) (by kernel_rfl) (by kernel_rfl) (λx aa=> ?_) (by simp [azI]) λao cO bG=> ?_
 ·simp [azI]at aa
  rcases aa with rfl|rfl|rfl|rfl|rfl|rfl|rfl|rfl<;>rfl
 ·have qf:a6 ao ⟨b,0,none⟩ [.func (.func 185) ⟨[]⟩ ⟨[]⟩,.func (.func 186) ⟨[]⟩ ⟨[]⟩,.func (.func 187) ⟨[]⟩ ⟨[]⟩,.func (.func 190) ⟨[]⟩ ⟨[]⟩,.func (.func 192) ⟨[]⟩ ⟨[]⟩,.func (.func 193) ⟨[]⟩ ⟨[]⟩,.func (.func 194) ⟨[]⟩ ⟨[]⟩,.func (.func 195) ⟨[]⟩ ⟨[]⟩]:=by simpa [azI]using cO
  exact⟨_,_,_,_,_,_,_,_,qf.f' rfl,_,_,_,_,_,_,_,_,rfl,hk ao (bb.af.ag bG (λk hk=>by simp at hk;have:=bb.eq;omega))⟩
theorem aiA{r:eW}(bS:qi r)(cd:tA r)(dj:r.k=0->fa r.l):(lE r).length<=200000:=by
 unfold lE
 split
 ·rename_i h
  have:=x6 (dj h)
  unfold e6
  rw [ax6,LZ]
  have ab:(qa r.l).size<=700:=by rw [<-dR,LZ];exact this
  have:=hD (n:=(qa r.l).size) (by omega)
  omega
 ·split
  ·have:=Iw (f:=qk) (l:=r.rows) (λx aa=>EE (bS.row x aa) (cd x aa)) bS.nr r.rows.length
   rwa [Ix (axx _)]at this
  ·split
   ·have:=Iw (f:=ql) (l:=r.gU) (λx aa=>Iv (bS.tomb x aa)) bS.Is r.gU.length
    rwa [Ix (axx _)]at this
   ·have:=u4 (v:=r.at') ⟨bS.at'.1,by have:=bS.at'.2;omega⟩
    omega
theorem UP{b1 bI:Nat}{s:ByteArray}{e:Int}{K:Value->U->Prop}(h1:a6 H ⟨b1,0,none⟩ [.string s])(ab:a6 H ⟨bI,0,none⟩ [.int .i64 e])(cP:b1≠bI)
  (hk:∀H',a6 H' ⟨b1,0,none⟩ [.string (if e=0 then s else⟨#[]⟩)]->a6 H' ⟨bI,0,none⟩ [.int .i64 e]->Fr [b1] H H'->K (.tuple ⟨[]⟩) H'):
  xV azB 211 ⟨[.pointer (some ⟨bI,0,none⟩),.pointer (some ⟨b1,0,none⟩)]⟩ H K:=by
 apply aiB
 refine⟨_,ab.bY rfl,au (λh=> ?_) (λh=> ?_)⟩
 ·have h:e≠0:=by simpa using h
  rw [if_neg h]at hk
  refine h1.iQ (v:=.string ⟨#[]⟩) (by kernel_rfl) (by kernel_rfl) (λx aa=>by simp [azI]at aa;subst aa;rfl) (by simp [azI]) λH' al ai=>hk H' al (ab.af ai (by simp;exact λe=>cP e.symm)) ai
 ·have h:e=0:=by simpa using h
  rw [if_pos h]at hk
  exact hk H h1 ab (Fr.refl _ _)
theorem st1{P:Program}{t:TypeId}{v w:Value}{X:U->Prop}(h:a6 H ⟨b,0,none⟩ [v])(hs:hy P t=w.cells.size)(az:(P.info? t).isSome=true)(h1:∀x∈w.cells.toList,x.oneCell'=true)(hw:w.cells.toList=[w])
  (k:∀H',a6 H' ⟨b,0,none⟩ [w]->Fr [b] H H'->X H'):∃H',oz P t H ⟨b,0,none⟩ w H'/\X H':=
 h.iQ (v:=w) hs az h1 (by have:=congrArg List.length hw;simp at this;simp [this]) λH' al ai=>k H' (by rw [hw]at al;simpa using al) ai
theorem A3{m:h6}{r:eW}{K:ByteArray->Int->U->Prop}(h:mF H m r)(hs:Small m)(cd:tA r)
  (aiC:¬qi r->∀H',Fr [] H H'->K ⟨#[]⟩ 1 H') (UQ:qi r->r.k=0->¬fa r.l->∀H',Fr [] H H'->K ⟨#[]⟩ 40 H')
  (eV:qi r->(r.k=0->fa r.l)->∀H',Fr [] H H'->K ⟨(kX r).toArray⟩ 0 H'):
  aK UR [.agg ⟨gV m⟩] H λv H'=>∃s e,v=.tuple ⟨[.string s,.int .i64 e]⟩/\K s e H':=by
 apply aiD
 intro b H1 bb b1 ao bK bI aP bw
 have ca:=bb.eq
 have b0:=bK.eq
 have cY:=bw.eq
 have ht:=bb.size
 have z2:=bK.size
 have z3:=bw.size
 have al:a6 aP ⟨b,0,none⟩ (gV m):=(bb.bz.ag bK.af).ag bw.af
 have h1:a6 aP ⟨b1,0,none⟩ [.string ⟨#[]⟩]:=bK.bz.ag bw.af
 have ab:a6 aP ⟨bI,0,none⟩ [.int .i64 0]:=bw.bz
 have bP:Fr [] H aP:=(bb.af.aT bK.af).aT bw.af
 have ar:=h.ag bP
 have fq:∀k∈[b1],H.size<=k:=λk hk=>by simp at hk;omega
 have gT:∀k∈[bI],H.size<=k:=λk hk=>by simp at hk;omega
 refine⟨_,_,_,_,_,_,_,_,_,_,_,al.B5 (us:=gV m) (by kernel_rfl) (by kernel_rfl) rfl,?_⟩
 refine aic ar hs (λbS a8 cm=> ?_) λbS a8 cm=> ?_
 rotate_left
 ·
  refine au (λ_=> ?_) (λh=>by cases h)
  refine st1 (h1.ag cm) (by kernel_rfl) (by kernel_rfl) (λx aa=>by simp [azI]at aa;subst aa;rfl) rfl λbA g1 f5=> ?_
  refine st1 ((ab.ag cm).af f5 (by simp;omega)) (by kernel_rfl) (by kernel_rfl) (λx aa=>by simp [azI]at aa;subst aa;rfl) rfl λct g2 f6=> ?_
  refine UP (g1.af f6 (by simp;omega)) g2 (by omega) λdx g3 g4 f7=>⟨_,g3.bY rfl,_,g4.bY rfl,_,_,rfl,?_⟩
  rw [if_neg (by decide)]
  exact aiC bS dx ((((bP.aT cm).ag f5 fq).ag f6 gT).ag f7 fq)
 have gm:=al.ag cm
 have Iy:=bP.aT cm
 have hk:=bS.k
 refine au (λh=>by cases h) (λ_=>⟨_,gm.nT,aix λbA cb=> ?_⟩)
 have dI:=gm.ag cb
 have yc:=Iy.aT cb
 have bs:=h.ag yc
 refine⟨dI.nT,cM (bh (by rw [h.k];omega)) ?_⟩
 have tail:∀{s:ByteArray} {e:Int} {H':U},Fr [] bA H'->s.size<=300000->(∀H',Fr [] H H'->K (if e=0 then⟨(hJ r.k).toArray⟩++s else⟨#[]⟩) e H')→
   ∃je,bp 33 H' ⟨bI,0,none⟩ (.int .i64 e) je/\∃n,ah 3 je ⟨b,0,none⟩ (.int .i64 n)/\∃qh,ah 33 je ⟨bI,0,none⟩ (.int .i64 qh)/\∀(b:Nat) (H':U),dV je b (.cells ⟨[.int .i64 n]⟩ 3) H'->ah 33 H' ⟨bI,0,none⟩ (.int .i64 qh)/\aK 188 [J (some (ak b)) 1 1] H' λv H'=>∃AX,v=.string AX/\ah 33 H' ⟨bI,0,none⟩ (.int .i64 qh)∧
    dB (decide (azC AX+azC s<=9223372036854775807)) (∃ua,bp 9 H' ⟨b1,0,none⟩ (.string (AX++s)) ua/\ah 33 ua ⟨bI,0,none⟩ (.int .i64 qh)/\∃H',bp 33 ua ⟨bI,0,none⟩ (.int .i64 qh) H'/\xV azB 211 ⟨[.pointer (some ⟨bI,0,none⟩),.pointer (some ⟨b1,0,none⟩)]⟩ H' λx dn=>∃s,ah 9 dn ⟨b1,0,none⟩ (.string s)/\∃n,ah 33 dn ⟨bI,0,none⟩ (.int .i64 n)/\∃nQ e,Value.tuple ⟨[.string s,.int .i64 n]⟩=.tuple ⟨[.string nQ,.int .i64 e]⟩/\K nQ e dn):=by
  intro s e ct de vA eL
  have n1:=yc.aT de
  have g1:a6 ct ⟨b1,0,none⟩ [.string ⟨#[]⟩]:=((h1.ag cm).ag cb).ag de
  have g2:a6 ct ⟨bI,0,none⟩ [.int .i64 0]:=((ab.ag cm).ag cb).ag de
  refine st1 g2 (by kernel_rfl) (by kernel_rfl) (λx aa=>by simp [azI]at aa;subst aa;rfl) rfl λdx g2 f7=> ?_
  have mQ:=(dI.ag de).af f7 (by simp;omega)
  have g1:=g1.af f7 (by simp;omega)
  refine⟨_,mQ.nT,_,g2.bY rfl,?_⟩
  rw [h.k]
  intro rE eQ xW
  have g2:=g2.ag xW.af
  have g1:=g1.ag xW.af
  refine⟨g2.bY rfl,?_⟩
  refine B7 (fy cH r.k xW rfl) (by omega) (λx aa=>by simp at aa;subst aa;exact⟨hk.1,by have:=hk.2;omega⟩) λcN p7=> ?_
  have g2:=g2.ag p7
  have g1:=g1.ag p7
  have yg:[r.k].flatMap hJ=hJ r.k:=by simp
  rw [yg]
  have B0:=u4 (v:=r.k) ⟨hk.1,by have:=hk.2;omega⟩
  have dF:=fD (hJ r.k)
  refine⟨g2.bY rfl,cM (bh (by omega)) ?_⟩
  refine st1 g1 (by kernel_rfl) (by kernel_rfl) (λx aa=>by simp [azI]at aa;subst aa;rfl) rfl λhj g1 f10=> ?_
  have g2:=g2.af f10 (by simp;omega)
  refine⟨g2.bY rfl,?_⟩
  refine st1 g2 (by kernel_rfl) (by kernel_rfl) (λx aa=>by simp [azI]at aa;subst aa;rfl) rfl λjO g2 f11=> ?_
  refine UP (g1.af f11 (by simp;omega)) g2 (by omega) λmj g3 g4 f12=>⟨_,g3.bY rfl,_,g4.bY rfl,_,_,rfl,?_⟩
  exact eL mj ((((((n1.ag f7 gT).aT xW.af).aT p7).ag f10 fq).ag f11 gT).ag f12 fq)
 have yes:(r.k=0->fa r.l)->∀H',Fr [] H H'->K (⟨(hJ r.k).toArray⟩++⟨(lE r).toArray⟩) 0 H':=λdj H' eE=>by
  rw [tm];exact eV bS dj H' eE
 have fh:=λdj=>aiA bS cd dj
 have ED:=fD (lE r)
 rcases(by omega:r.k=0\/r.k=1\/r.k=2\/r.k=3)with e|e|e|e
 ·rw [h.k,e]
  refine⟨.func (.func 185) ⟨[]⟩ ⟨[]⟩,.func (.func 186) ⟨[]⟩ ⟨[]⟩,by unfold oZ;kernel_rfl,185,⟨[]⟩,⟨[]⟩,rfl,by kernel_rfl,?_⟩
  refine ail dI bs hs (λdj s ct vA de=> ?_) λdj ct de=> ?_
  ·exact tail (s:=s) (e:=40) de (by omega) λH' eE=>by rw [if_neg (by decide)];exact UQ bS e dj H' eE
  ·have hi:lE r=e6 (qa r.l):=by unfold lE;rw [if_pos e]
   rw [<-hi]
   have:=fh λ_=>dj
   exact tail (s:=⟨(lE r).toArray⟩) (e:=0) de (by omega) λH' eE=>by rw [if_pos rfl];exact yes (λ_=>dj) H' eE
 ·rw [h.k,e]
  refine⟨.func (.func 187) ⟨[]⟩ ⟨[]⟩,.func (.func 190) ⟨[]⟩ ⟨[]⟩,by unfold oZ;kernel_rfl,187,⟨[]⟩,⟨[]⟩,rfl,by kernel_rfl,?_⟩
  refine aiu dI bs bS cd λct de=> ?_
  have hi:lE r=cn r.rows.length++r.rows.flatMap qk:=by unfold lE;rw [if_neg (by omega),if_pos e]
  rw [<-hi]
  have:=fh λh=>by omega
  exact tail (s:=⟨(lE r).toArray⟩) (e:=0) de (by omega) λH' eE=>by rw [if_pos rfl];exact yes (λh=>by omega) H' eE
 ·rw [h.k,e]
  refine⟨.func (.func 192) ⟨[]⟩ ⟨[]⟩,.func (.func 193) ⟨[]⟩ ⟨[]⟩,by unfold oZ;kernel_rfl,192,⟨[]⟩,⟨[]⟩,rfl,by kernel_rfl,?_⟩
  refine air dI bs bS λct de=> ?_
  have hi:lE r=cn r.gU.length++r.gU.flatMap ql:=by unfold lE;rw [if_neg (by omega),if_neg (by omega),if_pos e]
  rw [<-hi]
  have:=fh λh=>by omega
  exact tail (s:=⟨(lE r).toArray⟩) (e:=0) de (by omega) λH' eE=>by rw [if_pos rfl];exact yes (λh=>by omega) H' eE
 ·rw [h.k,e]
  refine⟨.func (.func 194) ⟨[]⟩ ⟨[]⟩,.func (.func 195) ⟨[]⟩ ⟨[]⟩,by unfold oZ;kernel_rfl,194,⟨[]⟩,⟨[]⟩,rfl,by kernel_rfl,?_⟩
  refine aio dI bs bS λct de=> ?_
  have hi:lE r=hJ r.at':=by unfold lE;rw [if_neg (by omega),if_neg (by omega),if_neg (by omega)]
  rw [<-hi]
  have:=fh λh=>by omega
  exact tail (s:=⟨(lE r).toArray⟩) (e:=0) de (by omega) λH' eE=>by rw [if_pos rfl];exact yes (λh=>by omega) H' eE
def r6:di h6:=⟨gV,5,λ_=>rfl,by decide,λm v h=>by simp [gV]at h;rcases h with rfl|rfl|rfl|rfl|rfl<;>rfl⟩
def wB(H:U)(ms:List h6)(rs:List eW):Prop:=ms.length=rs.length/\∀(i:Nat) m r,ms[i]?=some m->rs[i]?=some r->mF H m r
theorem wB.at{ms:List h6}{rs:List eW}(h:wB H ms rs){i:Nat}{m:h6}(hm:ms[i]?=some m):∃r,rs[i]?=some r/\mF H m r:=by
 have az:=(axC.1 hm).1
 have aB:rs[i]?=some (rs[i]'(by have:=h.1;omega)):=by simp
 exact⟨_,aB,h.2 i m _ hm aB⟩
theorem US{aC:Addr}{m:h6}(h:gu H aC (r6.cells m)):ah 84 H aC (.agg ⟨gV m⟩):=EB (by kernel_rfl) (by kernel_rfl) h
structure oN(r:eW):Prop where
 wA:qi r
 typ:tA r
 dB:r.k=0->fa r.l
def m0(k:Int):h6:=(k,(none,0,0),(none,0,0),(none,0,0),0)
theorem MR{m m':h6}{X:U->Prop}(h:a6 H ⟨b,0,none⟩ (gV m'))(k:∀H',a6 H' ⟨b,0,none⟩ (gV m)->Fr [b] H H'->X H'):∃H',bp 84 H ⟨b,0,none⟩ (.agg ⟨gV m⟩) H'/\X H':=
 h.iQ (v:=.agg ⟨gV m⟩) (by kernel_rfl) (by kernel_rfl) (λx aa=>by simp [azI,gV]at aa;rcases aa with rfl|rfl|rfl|rfl|rfl<;>rfl) (by simp [azI,gV]) λH' al ai=>k H' (by simpa [azI,gV]using al) ai
open Classical in
noncomputable def pz(r:eW):Int:=if qi r then(if r.k=0/\¬fa r.l then 40 else 0)else 1
noncomputable def mH:List eW->Int
 |[]=>0
 |r::l=>if pz r≠0 then pz r else mH l
theorem UT{r:eW}(cd:tA r):pz r=0↔oN r:=by
 unfold pz
 constructor
 ·intro h
  split at h
  ·rename_i bS
   split at h
   ·exact absurd h (by decide)
   ·rename_i av
    exact⟨bS,cd,λaF=>Classical.byContradiction λay=>av ⟨aF,ay⟩⟩
  ·exact absurd h (by decide)
 ·intro h
  rw [if_pos h.wA,if_neg λav=>av.2 (h.dB av.1)]
theorem Iz:∀{rs:List eW},(∀r∈rs,tA r)->(mH rs=0↔∀r∈rs,oN r)
 |[],_=>by simp [mH]
 |r::l,cd=>by
  have h1:=UT (cd r (by simp))
  have ab:=Iz (rs:=l) λx aa=>cd x (by simp [aa])
  unfold mH
  by_cases h:pz r≠0
  ·rw [if_pos h]
   exact⟨λe=>absurd e h,λba=>absurd (h1.2 (ba r (by simp))) h⟩
  ·rw [if_neg h,ab]
   have aF:pz r=0:=Decidable.not_not.1 h
   exact⟨λba x aa=>(axA.1 aa).elim (λe=>by rw [e];exact h1.1 aF) (ba x),λba x aa=>ba x (by simp [aa])⟩
theorem UU:∀{rs:List eW} {k:Nat},(∀r∈rs,tA r)->(∀r∈rs.take k,oN r)->mH rs=mH (rs.drop k)
 |[],k,_,_=>by simp
 |r::l,0,_,_=>by simp
 |r::l,k+1,cd,ba=>by
  rw [List.take_succ_cons]at ba
  rw [List.drop_succ_cons,<-UU (rs:=l) (k:=k) (λx aa=>cd x (by simp [aa])) λx aa=>ba x (by simp [aa])]
  have:pz r=0:=(UT (cd r (by simp))).2 (ba r (by simp))
  conv=>lhs;unfold mH
  rw [if_neg (by simp [this])]
def lY(l:List UInt8):ByteArray:=⟨l.toArray⟩
theorem z6(l:List UInt8):(lY l).size=l.length:=fD l
def lZ(rs:List eW):List UInt8:=rs.flatMap λr=>qb (lY (kX r))
def pA(r:eW):Nat:=r.rows.length+r.gU.length
def lq(rs:List eW):Nat:=(rs.map pA).sum
theorem UW{r:eW}(h:oN r):(kX r).length<=740+30*pA r:=by
 have hk:=h.wA.k
 have ab:=u4 (v:=r.k) ⟨hk.1,by omega⟩
 unfold kX
 rw [ax6]
 have al:(lE r).length<=720+30*pA r:=by
  unfold lE pA
  split
  ·rename_i aF
   have:=x6 (h.dB aF)
   unfold e6
   rw [ax6,dR,show(qa r.l).size=(lW r.l).length from fD _]
   have:=hD (n:=(lW r.l).length) (by omega)
   omega
  ·split
   ·have aB:∀x∈r.rows,(qk x).length<=30:=λx aa=>EE (h.wA.row x aa) (h.typ x aa)
    have:=MP (f:=qk) aB
    have:=hD (n:=r.rows.length) (by have:=h.wA.nr;omega)
    rw [ax6]
    omega
   ·split
    ·have aB:∀x∈r.gU,(ql x).length<=30:=λx aa=>Iv (h.wA.tomb x aa)
     have:=MP (f:=ql) aB
     have:=hD (n:=r.gU.length) (by have:=h.wA.Is;omega)
     rw [ax6]
     omega
    ·have:=u4 (v:=r.at') ⟨h.wA.at'.1,by have:=h.wA.at'.2;omega⟩
     omega
 omega
theorem IA:∀{rs:List eW},(∀r∈rs,oN r)->(∀r∈rs,pA r<=10000)->(lZ rs).length<=760*rs.length+30*lq rs
 |[],_,_=>by simp [lZ]
 |r::l,h,hw=>by
  have ih:=IA (rs:=l) (λx aa=>h x (by simp [aa])) λx aa=>hw x (by simp [aa])
  have h1:=UW (h r (by simp))
  have ab:=hw r (by simp)
  have ai:(qb (lY (kX r))).length<=(kX r).length+12:=by
   rw [MS]
   unfold e6
   rw [ax6,dR,z6]
   have:=hD (n:=(kX r).length) (by omega)
   omega
  unfold lZ at ih⊢
  unfold lq at ih⊢
  rw [axO,ax6,axE,azT,ayi]
  omega
theorem aiE{rs:List eW}{r:eW}(h:rs[k]?=some r):lZ (rs.take (k+1))=lZ (rs.take k)++qb (lY (kX r)):=by
 unfold lZ
 rw [azP,h,azf]
 simp
theorem MT(rs:List eW)(k:Nat):lq (rs.take k)<=lq rs:=by
 unfold lq
 have:(rs.map pA).sum=((rs.take k).map pA).sum+((rs.drop k).map pA).sum:=by
  rw [<-aAc,<-azj,aAd]
 omega
theorem EL{rs:List eW}{r:eW}(h:r∈rs):pA r<=lq rs:=by
 unfold lq
 induction rs with
 |nil=>simp at h
 |cons a l ih=>
  rw [axE,azT]
  rcases axA.1 h with e|e
  ·rw [e];omega
  ·have:=ih e;omega
def ei:ByteArray:=⟨#[119,97,108]⟩
theorem aiF{m:h6}{r:eW}{K:ByteArray->Int->U->Prop}(h:mF H m r)(hs:Small m)(cd:tA r)
  (cq:pz r≠0->∀H',Fr [] H H'->K ⟨#[]⟩ (pz r) H') (eV:oN r->∀H',Fr [] H H'->K (lY (kX r)) 0 H'):
  aK UR [.agg ⟨gV m⟩] H λv H'=>∃s e,v=.tuple ⟨[.string s,.int .i64 e]⟩/\K s e H':=by
 have aL:¬qi r->pz r=1:=λh=>by unfold pz;rw [if_neg h]
 have a':qi r->r.k=0->¬fa r.l->pz r=40:=λh aF av=>by unfold pz;rw [if_pos h,if_pos ⟨aF,av⟩]
 refine A3 h hs cd (λbS H' ai=> ?_) (λbS aF av H' ai=> ?_) λbS av H' ai=>eV ⟨bS,cd,av⟩ H' ai
 ·have:=cq (by rw [aL bS];decide) H' ai
  rw [aL bS]at this;exact this
 ·have:=cq (by rw [a' bS aF av];decide) H' ai
  rw [a' bS aF av]at this;exact this
theorem aiG{st:Addr}{a:Option Addr}{n c:Nat}{ms:List h6}{rs:List eW}{K:Int->U->Prop}(aa:bt r6 H a n c ms)(aB:wB H ms rs)(cd:∀r∈rs,tA r)(o9:∀m∈ms,Small m)(MU:n2 H)(ay:n<=10000)(hw:lq rs<=10000)
  (cq:mH rs≠0->∀H',Fr [] H H'->K (mH rs) H') (eV:mH rs=0->(∀r∈rs,oN r)->∀H',Fr [] H H'->cG aiH [ax (some st),aj ei,aj (lY (lZ rs))] H' K):
  cG aiI [ax (some st),J a n c] H K:=by
 apply aiJ
 intro b H1 bb
 have Iu:=bb.eq
 have ED:=bb.size
 have k5:=aa.len
 have mR:=aB.1
 refine⟨λae H'=>match ae with|[.int _ i]=>∃(k:Nat) (S:List Nat),i=k/\k<=n/\jR H' b S (lZ (rs.take k))/\(∀j∈S,H.size<=j)/\(∀r∈rs.take k,oN r)/\Fr [] H H'|_=>False,
  λae _=>match ae with|[.int _ i]=>n-i.toNat|_=>0,⟨0,[b],rfl,by omega,mo.new bb,λj bq=>by simp at bq;omega,by simp,bb.af⟩,?_⟩
 rintro br i ao ⟨k,S,rfl,eC,al,bB,ba,ai⟩
 have MV:=IA ba λr aB=>by have:=EL (azY aB);omega
 have aiK:=MT rs k
 have xd:(rs.take k).length<=10000:=by rw [ayj];omega
 refine au (λaF=> ?_) (λaF=> ?_)
 ·have b':k<n:=by simpa using aF
  obtain⟨m,hm⟩:=fM (l:=ms) (i:=k) (by omega)
  obtain⟨r,yh,cp⟩:=aB.at hm
  have aiL:=o9 m (azR hm)
  have z7:=cd r (azR yh)
  refine(aa.ag ai).get rfl hm (bh (by omega)) λaC b4 av=>⟨_,_,_,_,_,_,_,_,_,_,_,US av,λb1 aP bw=> ?_⟩
  have cX:=bw.eq
  have qA:=bw.size
  refine MR (m:=m) (m':=m0 0) bw.bz λa8 gm cm=>⟨_,_,_,_,_,_,_,_,_,_,_,gm.f' rfl,?_⟩
  have oJ:Fr [] ao a8:=bw.af.ag cm λk hk=>by simp at hk;omega
  have wC:=ai.aT oJ
  have MW:=UU cd ba
  have nK:rs.drop k=r::rs.drop (k+1):=by
   obtain⟨ca,b0⟩:=axC.1 yh
   rw [az6 ca,b0]
  refine aiF (cp.ag wC) aiL z7 (λhe bA cb=>au (λ_=>⟨_,rfl,?_⟩) (λh=>absurd (by simpa using h) he)) λcx bA cb=>au (λh=>by simp at h) λ_=> ?_
  ·have e:mH rs=pz r:=by
    rw [MW,nK];conv=>lhs;unfold mH
    rw [if_pos he]
   have:=cq (by rw [e];exact he) bA (wC.aT cb)
   rw [e]at this;exact this
  ·have yi:=UW cx
   have B4:=EL (azR yh)
   refine afM ((MU.ag wC).ag cb) (by rw [z6];omega) λct de=> ?_
   have MX:=(oJ.aT cb).aT de
   have iO:(qb (lY (kX r))).length<=1000000:=by
    rw [MS];unfold e6
    rw [ax6,dR,z6]
    have:=hD (n:=(kX r).length) (by omega)
    omega
   refine sT (al.ag MX) (by rw [fD (qb (lY (kX r)))];omega) λdx D3 mQ e4 th=> ?_
   rw [cE (by omega)]
   rw [jW (qb (lY (kX r)))]at mQ
   refine⟨⟨k+1,D3,rfl,by omega,by rw [aiE yh];exact mQ,λj bq=> ?_,λx aa=> ?_,(ai.aT MX).ag e4 bB⟩,dU b'⟩
   ·rcases th j bq with h|h
    ·exact bB j h
    ·have:=ai.size;have:=MX.size;omega
   ·rw [azP,yh]at aa
    rcases azb.1 aa with aa|aa
    ·exact ba x aa
    ·simp at aa;rw [aa];exact cx
 ·have z8:k=n:=by simp at aF;omega
  rw [ayB (by omega)]at al ba MV
  refine xD al (by omega) λaP bP=> ?_
  exact fo.mono (eV ((Iz cd).2 ba) ba aP (ai.ag bP bB)) λv H' h=>by
   obtain⟨n,rfl,hk⟩:=h
   exact⟨n,rfl,n,rfl,hk⟩
end Go.Proofs
section
open Go.Proofs Go.Shelf Go.RowKit
namespace Go.bk
theorem ata{P:Program}{k:FuncId}{args:Array Value}{v:Value}{H:U}{K:Value->U->Prop}(h:∀w,Calls P k args w λe w'=>e=.returned v/\w'=w)(hk:K v H):fo P k args H K:=
 λE d=>(h _).mono λe w' ⟨h1,ab⟩=>⟨v,H,d,h1,ab,hk⟩
theorem aq2{P:Program}{k:FuncId}{args:Array Value}{H:U}{K:Value->U->Prop}(h:∀w,w.heap=H->Calls P k args w λe w'=>∃v,e=.returned v/\Below w.heap.size w w'/\w.drawn<=w'.drawn/\K v w'.heap):fo P k args H K:=
 λE d=>(h (bf E H d) rfl).mono λe w' ⟨v,h1,al,aR,hk⟩=>⟨v,w'.heap,⟨w'.drawn,ax4 d.2 aR⟩,h1,by
  cases w';obtain⟨ca,b0,cY,_,_⟩:=al;simp only at ca b0 cY;subst ca b0 cY;rfl,hk⟩
theorem Below.aq3{w w':World}(h:Below w.heap.size w w'):Fr [] w.heap w'.heap:=⟨h.size,λk hk _=>h.block k hk⟩
variable{P:Program}{l6:Ren}{H:U}{k:FuncId}
theorem acL{K:ByteArray->U->Prop}(L:LaysM.n171 P l6)(tP:l6.f 171=k){n:Int}(ay:eM n)(aW:∀w:World,w.heap=H->Lib.TabIs P w "internal/strconv.uint64pow10" .u64 Lib.pow10Tab)(hk:∀H',Fr [] H H'->K ⟨(Lib.itoa n).toArray⟩ H'):
  fo P k ⟨[.int .i64 n]⟩ H λv H'=>∃s,v=.string s/\K s H':=by
 subst tP
 intro E d
 refine(Any.strconv_Itoa L n ay.1 ay.2 (bf E H d) (aW _ rfl)).mono ?_
 rintro e w' ⟨rfl,m,os,rfl⟩
 refine⟨_,(Go.Sort.grow ((bf E H d).drewN m) os).heap,⟨d.1+m,ax4 d.2 (az9 _ _)⟩,rfl,rfl,_,rfl,hk _ ⟨by simp [Go.Sort.grow,World.drewN,bf],λj bq _=> ?_⟩⟩
 show(H++os)[j]?=H[j]?
 rw [Array.getElem?_append_left bq]
theorem acP{K:ByteArray->Bool->U->Prop}(L:Lays.n103 P l6)(tP:l6.f 103=k){s p:ByteArray}(hk:K ⟨(Lib.trimPrefix s.data.toList p.data.toList).toArray⟩ (Lib.hasPrefix s.data.toList p.data.toList) H):fo P k ⟨[.string s,.string p]⟩ H λv H'=>∃t b,v=.tuple ⟨[.string t,.bool b]⟩/\K t b H':=by
 subst tP;exact ata (λw=>Any.strings_CutPrefix L s p w) ⟨_,_,rfl,hk⟩
end Go.bk
end
namespace Go.Proofs
open Go.Shelf
def Tryz.as8:Go.Shelf.Ren:=⟨fun|244=>259|247=>314|287=>359|321=>380|322=>381|n=>n,fun|9=>9|3=>3|75=>172|4=>4|5=>5|167=>416|37=>168|0=>0|85=>417|2=>2|53=>89|175=>457|46=>213|21=>21|80=>175|n=>n,fun|n=>n⟩
theorem Tryz.acT:Go.Proofs.LaysC.n244 azB Tryz.as8:=by
 constructor
 repeat' first|kernel_rfl|(intro w;kernel_rfl)|constructor
def Tryz.as9:Go.Shelf.Ren:=⟨fun|171=>101|243=>180|246=>257|283=>309|284=>310|285=>311|286=>312|129=>222|317=>355|318=>356|319=>357|320=>358|337=>378|338=>379|n=>n,fun|3=>3|9=>9|2=>2|4=>4|171=>411|0=>0|53=>89|37=>168|5=>5|173=>413|212=>455|51=>326|20=>20|213=>456|46=>213|232=>487|233=>488|n=>n,fun|17=>2|18=>5|19=>6|n=>n⟩
theorem Tryz.itoa:Go.Proofs.LaysM.n171 azB Tryz.as9:=by
 constructor
 repeat' first|kernel_rfl|(intro w;kernel_rfl)|constructor
def Tryz.as':Go.Shelf.Ren:=⟨fun|103=>181|210=>258|206=>313|n=>n,fun|9=>9|4=>4|24=>73|3=>3|n=>n,fun|n=>n⟩
theorem Tryz.acQ:Go.Proofs.Lays.n103 azB Tryz.as':=by
 constructor
 repeat' first|kernel_rfl|(intro w;kernel_rfl)|constructor
end Go.Proofs
namespace Go.Proofs.dh
variable{H H':U}{bC:List Nat}{a:Option Addr}{n c r eF dE:Nat}
theorem LH{xs:List hV}{K:ByteArray->Int->U->Prop}(aa:bt g' H a n c xs)(ay:n<=1000000000)
  (cq:¬fa xs->∀H',Fr [] H H'->K ⟨#[]⟩ 40 H') (eV:fa xs->∀H',Fr [] H H'->K ⟨(hW xs).toArray⟩ 0 H'):
  aK aeJ [J a n c] H λv H'=>∃s e,v=.tuple ⟨[.string s,.int .i64 e]⟩/\K s e H':=by
 apply aeK
 have j6:=aa.len
 refine LI aa ay λH1 cv=> ?_
 by_cases dj:¬fa xs
 ·rw [zB dj]
  exact⟨_,_,rfl,cq dj H1 cv⟩
 have dj:=Classical.not_not.1 dj
 rw [BE dj]
 refine au (λh=>by simp at h) (λ_=> ?_)
 intro b ao bK
 have xW:=dj.1
 refine⟨λae H'=>match ae with
   |[.int _ i]=>∃(k:Nat) (S:List Nat),i=k/\k<=n/\jR H' b S (hW (xs.take k))/\(∀j∈S,H.size<=j)/\Fr [] H H'
   |_=>False,
  λae _=>match ae with|[.int _ i]=>n-i.toNat|_=>0,⟨0,[b],rfl,by omega,mo.new bK,λj bq=>by simp at bq;subst bq;have:=bK.eq;have:=cv.size;omega,cv.aT bK.af⟩,?_⟩
 rintro br i aP ⟨k,S,rfl,hle,al,bB,ai⟩
 have uc:(hW (xs.take k)).length<=400:=by
  have:=aeL (l:=xs.take k) λx aa=>dj.2.1 x (azY aa)
  rw [ayj]at this
  omega
 refine au (λaF=> ?_) (λaF=> ?_)
 ·have b':k<n:=by simpa using aF
  have cB:xs[k]?=some (xs[k]'(by omega)):=by simp
  generalize xs[k]'(by omega)=x at cB
  have bZ:=dj.2.1 x (azR cB)
  have LJ:=bZ
  unfold p3 p4 jD at LJ
  refine(aa.ag ai).get rfl cB (bh (by omega)) λaC b4 av=>⟨_,_,HM av,?_⟩
  refine HN rfl λb1 a8 dA aI cm=> ?_
  refine⟨_,aI.hh,_,aI.s1,wj (by omega) λbA cb=>⟨(aI.ag cb).s1,wj (by omega) λct de=> ?_⟩⟩
  have t1:(e6 x.1).length<=33:=by unfold e6;rw [qS (by omega),ax6,dR];simp;omega
  have t2:(e6 x.2).length<=33:=by unfold e6;rw [qS (by omega),ax6,dR];simp;omega
  refine cM (bh (by show(e6 x.1).length+(e6 x.2).length<=_;omega)) ?_
  have jN:=((al.ag cm).ag cb).ag de
  have Tl:=((ai.aT cm).aT cb).aT de
  have hi:bd (⟨(e6 x.1).toArray⟩++⟨(e6 x.2).toArray⟩:ByteArray)=e6 x.1++e6 x.2:=by rw [kQ]
  refine sT jN (by rw [<-dR,hi,ax6];omega) λdx D3 mQ e4 th=> ?_
  rw [cE (by omega)]
  refine⟨⟨k+1,D3,rfl,by omega,?_,λj bq=> ?_,Tl.ag e4 bB⟩,dU b'⟩
  ·rw [hi]at mQ
   rw [azP,cB]
   simpa [hW,azf]using mQ
  ·rcases th j bq with h|h
   ·exact bB j h
   ·have:=Tl.size;omega
 ·have eC:k=n:=by simp at aF;omega
  subst eC
  rw [j6,List.take_length]at al uc
  exact xD al (by omega) λa8 cm=>⟨_,_,rfl,eV dj a8 (ai.ag cm bB)⟩
def BF:di eH:=⟨λh=>[.slice h.1 h.2.1 h.2.2],1,λ_=>rfl,by decide,λ_ v h=>by simp at h;subst h;rfl⟩
theorem aeM:j8 azB 45 1 24=true:=by kernel_rfl
theorem qT:sliceB azB 134 45=true:=by kernel_rfl
theorem zC:j8 azB 3 1 8=true:=by kernel_rfl
theorem LK:sliceB azB 117 3=true:=by kernel_rfl
theorem Tm{aC:Addr}{x:eH}(h:gu H aC (BF.cells x)):ah 45 H aC (.slice x.1 x.2.1 x.2.2):=jb h
noncomputable def qU:nf azB 9 ByteArray:=Tn aAi
def h5(H:U)(r:Nat)(f:ByteArray->Option Value):Prop:=∃ck L,dN qU H r ck L/\∀k,dm k L=f k
theorem h5.af{f:ByteArray->Option Value}{S:List Nat}(h:h5 H r f)(ai:Fr S H H')(ay:r∉S):h5 H' r f:=by
 obtain⟨ck,L,h1,ab⟩:=h
 exact⟨ck,L,dN.af qU h1 ai ay,ab⟩
theorem h5.new(h:dV H r (.map ⟨[]⟩ 0) H'):h5 H' r (λ_=>none):=⟨0,[],dN.new qU h,λ_=>rfl⟩
theorem h5.look{f:ByteArray->Option Value}{mt e:TypeId}{z v:Value}(h:h5 H r f)(hm:Tryz.prog.underlying mt=some (.map 9 e))(aE:zeroOf azB e=some z)(k:ByteArray)(aI:(f k).getD z=v):
  Rd azB (Instr.lookup mt (.map (some r)) (.string k) false) H v:=by
 obtain⟨ck,L,h1,ab⟩:=h
 have:=sQ (T:=qU) hm aE h1 k
 rw [ab k,aI]at this
 exact this
theorem h5.BG{f:ByteArray->Option Value}{mt e:TypeId}{z v:Value}{b:Bool}(h:h5 H r f)(hm:Tryz.prog.underlying mt=some (.map 9 e))(aE:zeroOf azB e=some z)(k:ByteArray)(aI:(f k).getD z=v)(al:(f k).isSome=b):
  Rd azB (Instr.lookup mt (.map (some r)) (.string k) true) H (.tuple ⟨[v,.bool b]⟩):=by
 obtain⟨ck,L,h1,ab⟩:=h
 have:=Dg (T:=qU) hm aE h1 k
 rw [ab k,aI,al]at this
 exact this
theorem h5.put{f:ByteArray->Option Value}{mt e:TypeId}{v:Value}{K:U->Prop}(h:h5 H r f)(hm:Tryz.prog.underlying mt=some (.map 9 e))(k:ByteArray)
  (hk:∀H',h5 H' r (λs=>if s=k then some v else f s)->Fr [r] H H'->K H'):jc azB (Instr.mapUpdate mt (.map (some r)) (.string k) v) H K:=by
 obtain⟨ck,L,h1,ab⟩:=h
 refine t' (T:=qU) hm h1 k λH' ar a7=>hk H' ⟨_,_,ar,λs=> ?_⟩ a7
 rw [sC,ab]
theorem h5.bz{f:ByteArray->Option Value}(h:h5 H r f):∃es ck,H[r]?=some (.map es ck):=by
 obtain⟨ck,L,h1,ab⟩:=h
 exact⟨_,_,dN.bz h1⟩
theorem HO{α:Type}{E:di α}{t:TypeId}{base:Nat}{xs:List α}(h:Own E t base H a n c xs){k:Nat}(hk:k∈an a):∃cur,H[k]?=some (.cells cur t (0,0)):=by
 obtain⟨_,⟨rfl,_⟩|⟨b,cur,rfl,_,h1,_⟩⟩:=h
 ·cases hk
 ·simp [an]at hk;subst hk;exact⟨cur,h1⟩
theorem ti{α:Type}{E:di α}{t:TypeId}{base:Nat}{xs:List α}{f:ByteArray->Option Value}(h:Own E t base H a n c xs)(hm:h5 H r f):r∉an a:=λhk=>by
 obtain⟨cur,h1⟩:=HO h hk
 obtain⟨es,ck,ab⟩:=hm.bz
 rw [h1]at ab;cases ab
theorem tj{α β:Type}{E:di α}{aeN:di β}{t gk:TypeId}{base base':Nat}{aV:Option Addr}{bn bg:Nat}{xs:List α}{ys:List β}(aW:t≠gk)(h:Own E t base H a n c xs)(h':Own aeN gk base' H aV bn bg ys):∀k∈an a,k∉an aV:=λk hk dc=>by
 obtain⟨cur,h1⟩:=HO h hk
 obtain⟨aeO,ab⟩:=HO h' dc
 rw [h1]at ab
 injection ab with ab
 injection ab with _ ab _
 exact aW ab
theorem BH{α:Type}{E:di α}{t dJ:TypeId}{base:Nat}{xs:List α}{b:Nat}{cs:Array Value}{mB:Nat×Nat}(aW:t≠dJ)(h:Own E t base H a n c xs)(al:H[b]?=some (.cells cs dJ mB)):b∉an a:=λhk=>by
 obtain⟨cur,h1⟩:=HO h hk
 rw [h1]at al
 injection al with al
 injection al with _ al _
 exact aW al
theorem HP{b:Nat}{f:ByteArray->Option Value}{cs:Array Value}{dJ:TypeId}{mB:Nat×Nat}(hm:h5 H r f)(al:H[b]?=some (.cells cs dJ mB)):b≠r:=λe=>by
 subst e
 obtain⟨es,ck,ab⟩:=hm.bz
 rw [al]at ab;cases ab
theorem kR{α:Type}{E:di α}{t:TypeId}{base:Nat}{xs:List α}{S:List Nat}(h:Own E t base H a n c xs)(ai:Fr S H H')(ay:∀k∈an a,k∉S):Own E t base H' a n c xs:=h.af ai λaC e=>ay _ (by simp [e,an])
def rR(H:U)(bC:List Nat)(hs:List eH)(L:List bR):Prop:=hs.length=L.length/\∀(i:Nat) (h:eH) (l:bR),hs[i]?=some h->L[i]?=some l->Own g' 51 0 H h.1 h.2.1 h.2.2 l/\∀k∈an h.1,k∈bC
theorem rR.af{S:List Nat}{hs:List eH}{L:List bR}(h:rR H bC hs L)(ai:Fr S H H')(bB:∀(i:Nat) (h:eH) (l:bR),hs[i]?=some h->L[i]?=some l->∀k∈an h.1,k∉S):rR H' bC hs L:=
 ⟨h.1,λi x l aa aG=>⟨kR (h.2 i x l aa aG).1 ai (bB i x l aa aG),(h.2 i x l aa aG).2⟩⟩
theorem rR.mono{kS:List Nat}{hs:List eH}{L:List bR}(h:rR H bC hs L)(hu:∀k∈bC,k∈kS):rR H kS hs L:=
 ⟨h.1,λi x l aa aG=>⟨(h.2 i x l aa aG).1,λk hk=>hu k ((h.2 i x l aa aG).2 k hk)⟩⟩
theorem rR.snoc{hs:List eH}{L:List bR}{aF:eH}{hX:bR}(h:rR H bC hs L)(aw:Own g' 51 0 H aF.1 aF.2.1 aF.2.2 hX)(hu:∀k∈an aF.1,k∈bC):rR H bC (hs++[aF]) (L++[hX]):=by
 refine⟨by simp [h.1],λi x l aa aG=> ?_⟩
 rcases Nat.lt_or_ge i hs.length with az|az
 ·rw [azd az]at aa
  rw [azd (by rw [<-h.1];exact az)]at aG
  exact h.2 i x l aa aG
 ·rw [aze az]at aa
  rw [aze (by rw [<-h.1];exact az)]at aG
  have To:i-hs.length=0:=by
   have:=(axC.1 aa).1
   simpa using this
  rw [To]at aa
  rw [<-h.1,To]at aG
  simp at aa aG
  subst aa aG
  exact⟨aw,hu⟩
structure ng(H:U)(bC:List Nat)(eF:Nat)(eA:ByteArray->Option Nat)(eb:ByteArray->ByteArray->Option eH)(iI:ByteArray->ByteArray->List Int):Prop where
 top:h5 H eF (λbX=>(eA bX).map λr=>.map (some r))
 inner:∀bX r,eA bX=some r->h5 H r (λv=>(eb bX v).map λh=>.slice h.1 h.2.1 h.2.2)
 out:∀bX v h,eb bX v=some h->eA bX≠none
 own:∀bX v h,eb bX v=some h->Own cH 3 0 H h.1 h.2.1 h.2.2 (iI bX v)/\iI bX v≠[]
 no:∀bX v,eb bX v=none->iI bX v=[]
 inj:∀bX D4 r,eA bX=some r->eA D4=some r->bX=D4
 ne:∀bX r,eA bX=some r->r≠eF
 sep:∀bX v D4 gZ h h' k,eb bX v=some h->eb D4 gZ=some h'->k∈an h.1->k∈an h'.1->bX=D4/\v=gZ
 xX:eF∈bC
 xY:∀bX r,eA bX=some r->r∈bC
 zD:∀bX v h k,eb bX v=some h->k∈an h.1->k∈bC
theorem ng.af{S:List Nat}{eA:ByteArray->Option Nat}{eb:ByteArray->ByteArray->Option eH}{iI:ByteArray->ByteArray->List Int}(h:ng H bC eF eA eb iI)(ai:Fr S H H')(aR:eF∉S)(rS:∀bX r,eA bX=some r->r∉S)(wk:∀bX v h k,eb bX v=some h->k∈an h.1->k∉S):ng H' bC eF eA eb iI:=
 {h with
  top:=h.top.af ai aR
  inner:=λbX r e=>(h.inner bX r e).af ai (rS bX r e)
  own:=λbX v x e=>⟨kR (h.own bX v x e).1 ai (λk hk=>wk bX v x k e hk),(h.own bX v x e).2⟩}
theorem ng.mono{kS:List Nat}{eA:ByteArray->Option Nat}{eb:ByteArray->ByteArray->Option eH}{iI:ByteArray->ByteArray->List Int}(h:ng H bC eF eA eb iI)(hu:∀k∈bC,k∈kS):ng H kS eF eA eb iI:=
 {h with xX:=hu _ h.xX,xY:=λbX r e=>hu _ (h.xY bX r e),zD:=λbX v x k e hk=>hu _ (h.zD bX v x k e hk)}
theorem ng.ext{eA:ByteArray->Option Nat}{eb:ByteArray->ByteArray->Option eH}{iI LL:ByteArray->ByteArray->List Int}(h:ng H bC eF eA eb iI)(he:∀bX v,iI bX v=LL bX v):ng H bC eF eA eb LL:=by
 have:iI=LL:=by funext bX v;exact he bX v
 rwa [<-this]
theorem ng.name{H1 ao:U}{eA:ByteArray->Option Nat}{eb:ByteArray->ByteArray->Option eH}{iI:ByteArray->ByteArray->List Int}(h:ng H bC eF eA eb iI)(dT:In H bC){bX:ByteArray}(cq:eA bX=none){b:Nat}(ay:dV H b (.map ⟨[]⟩ 0) H1)
  (aW:h5 ao eF (λs=>if s=bX then some (.map (some b))else(eA s).map λr=>.map (some r))) (ai:Fr [eF] H1 ao):
  ng ao (b::bC) eF (λs=>if s=bX then some b else eA s) eb iI:=by
 have uH:b∉bC:=λhk=>by have:=dT b hk;have:=ay.eq;omega
 have Tp:b≠eF:=λe=>uH (e▸h.xX)
 have aeP:∀v,eb bX v=none:=λv=>by
  cases aI:eb bX v with
  |none=>rfl
  |some x=>exact absurd cq (h.out bX v x aI)
 have h1:ng H1 bC eF eA eb iI:=h.af ay.af (by simp) (by simp) (by simp)
 refine⟨?_,λs r e=> ?_,λs v x e=> ?_,λs v x e=> ?_,h.no,λs s' r e dp=> ?_,λs r e=> ?_,h.sep,by simp [h.xX],λs r e=> ?_,λs v x k e hk=>by simp [h.zD s v x k e hk]⟩
 ·have e:(λs=>((if s=bX then some b else eA s).map λr=>Value.map (some r)))=λs=>if s=bX then some (.map (some b))else(eA s).map λr=>.map (some r):=by
   funext s;split<;>rfl
  rw [e];exact aW
 ·split at e
  ·rename_i hs
   cases e
   subst hs
   have:h5 ao b (λ_=>none):=(h5.new ay).af ai (by simp;exact Tp)
   have a':(λv=>(eb s v).map λh:eH=>azV h.1 h.2.1 h.2.2)=λ_=>none:=by funext v;rw [aeP v];rfl
   rw [a'];exact this
  ·exact(h1.inner s r e).af ai (by simp;exact h.ne s r e)
 ·split
  ·simp
  ·exact h.out s v x e
 ·exact⟨kR (h1.own s v x e).1 ai (λk hk=>by
   have:=ti (h1.own s v x e).1 h1.top
   simp;exact λe=>this (e▸hk)),(h.own s v x e).2⟩
 ·split at e<;>split at dp
  ·rename_i ab ar;rw [ab,ar]
  ·cases e;exact absurd (h.xY s' b dp) uH
  ·cases dp;exact absurd (h.xY s b e) uH
  ·exact h.inj s s' r e dp
 ·split at e
  ·cases e;exact Tp
  ·exact h.ne s r e
 ·split at e
  ·cases e;simp
  ·simp [h.xY s r e]
theorem ng.add{H1 ao:U}{eA:ByteArray->Option Nat}{eb:ByteArray->ByteArray->Option eH}{iI:ByteArray->ByteArray->List Int}(h:ng H bC eF eA eb iI)(dT:In H bC){bX v:ByteArray}(aB:eA bX=some r){x:Int}{gi new:eH}
  (aw:(eb bX v).getD (none,0,0)=gi) (mC:Own cH 3 0 H1 new.1 new.2.1 new.2.2 (iI bX v++[x])) (cv:Fr (an gi.1) H H1) (ba:Grow H (an gi.1) (an new.1))
  (aW:h5 ao r (λs=>if s=v then some (.slice new.1 new.2.1 new.2.2)else(eb bX s).map λh=>.slice h.1 h.2.1 h.2.2)) (ai:Fr [r] H1 ao):
  ng ao (an new.1++bC) eF eA (λs t=>if s=bX/\t=v then some new else eb s t) (λs t=>if s=bX/\t=v then iI bX v++[x]else iI s t):=by
 have hold:∀k∈an gi.1,eb bX v=some gi:=λk hk=>by
  cases aI:eb bX v with
  |none=>rw [aI]at aw;simp at aw;subst aw;cases hk
  |some y=>rw [aI]at aw;simp at aw;rw [aw]
 have LM:∀{fS:Nat} {f:ByteArray->Option Value},h5 H fS f->h5 H1 fS f:=λ{fS f} hm=>hm.af cv (λhk=>ti (h.own bX v gi (hold _ hk)).1 hm hk)
 have Tq:∀s t y,eb s t=some y->¬(s=bX/\t=v)->Own cH 3 0 H1 y.1 y.2.1 y.2.2 (iI s t):=λs t y e cP=>kR (h.own s t y e).1 cv λk hk dc=>cP (h.sep s t bX v y gi k e (hold k dc) hk dc)
 have Tr:∀k∈an new.1,∀s t y,eb s t=some y->k∈an y.1->s=bX/\t=v:=λk hk s t y e aA=>by
  rcases ba k hk with h1|h1
  ·exact h.sep s t bX v y gi k e (hold k h1) aA h1
  ·have:=dT k (h.zD s t y k e aA);omega
 have Ts:h5 H1 r (λv=>(eb bX v).map λh=>.slice h.1 h.2.1 h.2.2):=LM (h.inner bX r aB)
 refine⟨?_,λs fS e=> ?_,λs t y e=> ?_,λs t y e=> ?_,λs t e=> ?_,h.inj,h.ne,λs t s' gk y HQ k e dp hk dc=> ?_,by simp [h.xX],λs fS e=>by simp [h.xY s fS e],λs t y k e hk=> ?_⟩
 ·exact(LM h.top).af ai (by simp;exact λe=>h.ne bX r aB e.symm)
 ·by_cases hs:s=bX
  ·subst hs
   rw [aB]at e;cases e
   have a':(λt=>((if s=s/\t=v then some new else eb s t).map λh:eH=>azV h.1 h.2.1 h.2.2))=λt=>if t=v then some (.slice new.1 new.2.1 new.2.2)else(eb s t).map λh=>.slice h.1 h.2.1 h.2.2:=by
    funext t
    by_cases aW:t=v
    ·simp [aW]
    ·simp [aW]
   rw [a'];exact aW
  ·have a':(λt=>((if s=bX/\t=v then some new else eb s t).map λh:eH=>azV h.1 h.2.1 h.2.2))=λt=>(eb s t).map λh=>.slice h.1 h.2.1 h.2.2:=by
    funext t;simp [hs]
   rw [a']
   exact(LM (h.inner s fS e)).af ai (by simp;intro cX;subst cX;exact hs (h.inj s bX fS e aB))
 ·split at e
  ·rename_i h1;rw [h1.1,aB];simp
  ·exact h.out s t y e
 ·split at e
  ·rename_i h1
   cases e
   rw [if_pos h1]
   exact⟨kR mC ai (λk hk=>by
    have:=ti mC Ts
    simp;exact λe=>this (e▸hk)),by simp⟩
  ·rename_i h1
   rw [if_neg h1]
   exact⟨kR (Tq s t y e h1) ai (λk hk=>by
    have:=ti (Tq s t y e h1) Ts
    simp;exact λe=>this (e▸hk)),(h.own s t y e).2⟩
 ·split at e
  ·cases e
  ·rename_i h1;rw [if_neg h1];exact h.no s t e
 ·split at e<;>split at dp
  ·rename_i h1 ab;exact⟨h1.1.trans ab.1.symm,h1.2.trans ab.2.symm⟩
  ·rename_i h1 ab
   cases e
   exact absurd (Tr k hk s' gk HQ dp dc) ab
  ·rename_i h1 ab
   cases dp
   exact absurd (Tr k dc s t y e hk) h1
  ·exact h.sep s t s' gk y HQ k e dp hk dc
 ·split at e
  ·cases e;simp [hk]
  ·simp [h.zD s t y k e hk]
def nh(L:List bR)(s:ByteArray):Option Value:=match qV L s with|some i=>some (.int .i64 (i:Nat))|none=>none
structure rT(H:U)(dE:Nat)(bC:List Nat)(L:List bR)(iI:ByteArray->ByteArray->List Int)(a:Option Addr)(n c:Nat)(hs:List eH)(ha eF:Nat)(eA:ByteArray->Option Nat)(eb:ByteArray->ByteArray->Option eH):Prop where
 cell:H[dE]?=some (.cells ⟨[.slice a n c,.map (some ha),.map (some eF)]⟩ 136 (0,0))
 all:Own BF 45 0 H a n c hs
 mD:rR H bC hs L
 keys:h5 H ha (nh L)
 has:ng H bC eF eA eb iI
 D5:ha≠eF
 D6:∀bX r,eA bX=some r->r≠ha
 D7:dE∈bC
 BI:ha∈bC
 D8:∀k∈an a,k∈bC
 jz:In H bC
theorem rT.af{S:List Nat}{L:List bR}{iI:ByteArray->ByteArray->List Int}{hs:List eH}{ha:Nat}{eA:ByteArray->Option Nat}{eb:ByteArray->ByteArray->Option eH}
  (h:rT H dE bC L iI a n c hs ha eF eA eb) (ai:Fr S H H') (aR:∀k∈bC,k∉S):rT H' dE bC L iI a n c hs ha eF eA eb:=
 {h with
  cell:=ai.get h.cell (aR _ h.D7)
  all:=kR h.all ai (λk hk=>aR k (h.D8 k hk))
  mD:=h.mD.af ai (λi x l aa aG k hk=>aR k ((h.mD.2 i x l aa aG).2 k hk))
  keys:=h.keys.af ai (aR _ h.BI)
  has:=h.has.af ai (aR _ h.has.xX) (λbX r e=>aR _ (h.has.xY bX r e)) (λbX v x k e hk=>aR k (h.has.zD bX v x k e hk))
  jz:=h.jz.le ai.size}
def Tt(eA:ByteArray->Option Nat)(eb:ByteArray->ByteArray->Option eH):Prop:=∀bX,eA bX≠none->∃v,eb bX v≠none
def k9(H:U)(dE:Nat)(bC:List Nat)(L:List bR):Prop:=tk L/\∃a n c hs ha eF eA eb,rT H dE bC L (rU L) a n c hs ha eF eA eb/\Tt eA eb
theorem k9.af{S:List Nat}{L:List bR}(h:k9 H dE bC L)(ai:Fr S H H')(aR:∀k∈bC,k∉S):k9 H' dE bC L:=by
 obtain⟨hw,a,n,c,hs,ha,eF,eA,eb,h1,ab⟩:=h
 exact⟨hw,a,n,c,hs,ha,eF,eA,eb,h1.af ai aR,ab⟩
theorem k9.ag{L:List bR}(h:k9 H dE bC L)(ai:Fr [] H H'):k9 H' dE bC L:=h.af ai (by simp)
theorem uI:Tryz.prog.underlying 98=some (.map 9 3):=Tryz.underlying98
theorem HR:Tryz.prog.underlying 133=some (.map 9 223):=Tryz.underlying133
theorem Tu:Tryz.prog.underlying 223=some (.map 9 117):=Tryz.underlying223
theorem z3:zeroOf azB 3=some (.int .i64 0):=by kernel_rfl
theorem z76:zeroOf azB 223=some (.map none):=by kernel_rfl
theorem z40:zeroOf azB 117=some (.slice none 0 0):=by kernel_rfl
theorem LN{K:Option Addr->U->Prop}(hk:∀H' dE bC,k9 H' dE bC []->(∀k∈bC,H.size<=k)->Fr [] H H'->K (some ⟨dE,0,none⟩) H'):
  qW aeQ [] H K:=by
 apply aeR
 intro b H1 h1 b1 ao ab bI aP ar
 have aL:=h1.eq
 have a':=ab.eq
 have cX:=ar.eq
 have s1:=h1.size
 have s2:=ab.size
 have qA:=ar.size
 have m1:h5 aP b (nh []):=((h5.new h1).af ab.af (by simp)).af ar.af (by simp)
 have m2:h5 aP b1 (λ_=>none):=(h5.new ab).af ar.af (by simp)
 refine⟨_,rfl,hk aP bI [bI,b,b1] ⟨tk.nil,none,0,0,[],b,b1,λ_=>none,λ_ _=>none,?_,λbX h=>absurd rfl h⟩ ?_ ((h1.af.aT ab.af).aT ar.af)⟩
 ·refine⟨ar.get,Own.nil _ _ _ _,⟨rfl,by simp⟩,m1,⟨m2,by simp,by simp,by simp,by simp [aeS],by simp,by simp,by simp,by simp,by simp,by simp⟩,by omega,by simp,by simp,by simp,by simp [an],?_⟩
  intro k hk
  simp at hk
  omega
 ·intro k hk
  simp at hk
  omega
theorem xZ{l:bR}{K:Option Addr->Nat->Nat->U->Prop}(aa:bt g' H a n c l)(ay:n<=1000000000)
  (hk:∀aV bn bg H',Own g' 51 H.size H' aV bn bg l->Fr [] H H'->K aV bn bg H'):
  dy aeT [J a n c] H K:=by
 apply aeU
 refine au (λh=> ?_) (λh=> ?_)
 ·have:a=none:=by simpa using h
  subst this
  have aG:l=[]:=by
   rcases aa.arr with h|⟨b,off,e,_⟩
   ·exact h
   ·cases e
  subst aG
  exact⟨_,_,_,rfl,hk none 0 0 H (Own.nil _ _ _ _) (Fr.refl _ _)⟩
 ·intro b H1 h1
  have oE:Own g' 51 H.size H1 (some ⟨b,0,none⟩) 0 0 []:=Own.made g' 51 h1 (axx _)
  exact uJ (E:=g') aeV aeW oE h1.af (aa.ag h1.af) (by omega) λaV bn bg ao ab bG _=>⟨_,_,_,rfl,hk _ _ _ _ (by simpa using ab) bG⟩
theorem n0{L:List bR}{iI:ByteArray->ByteArray->List Int}{hs:List eH}{ha:Nat}{eA:ByteArray->Option Nat}{eb:ByteArray->ByteArray->Option eH}
  (h:rT H dE bC L iI a n c hs ha eF eA eb):a6 H ⟨dE,0,none⟩ [.slice a n c,.map (some ha),.map (some eF)]:=⟨dE,_,rfl,h.cell⟩
theorem tW{L:List bR}{l:bR}{K:Int->Bool->U->Prop}(h:k9 H dE bC L)(aa:bt g' H a n c l)(ay:n<=1000000000)
  (hk:∀H',Fr [] H H'->K (D9 L l) (hY L l).isSome H'):
  aK aeX [ax (some (ak dE)),J a n c] H λv H'=>∃i b,v=.tuple ⟨[.int .i64 i,.bool b]⟩/\K i b H':=by
 apply aeY
 obtain⟨hw,a0,fg,c0,hs,ha,eF,eA,eb,aH,BJ⟩:=h
 refine LH aa ay (λdj H1 cv=> ?_) (λdj H1 cv=> ?_)
 ·have jE:=aH.af cv (by simp)
  refine⟨_,(n0 jE).ld (by kernel_rfl) (j:=1) rfl,?_⟩
  have cq:hY L l=none:=by rw [HS];exact λhm=>dj (hw.dB l hm)
  have eL:=hk H1 cv
  unfold D9 at eL
  rw [cq]at eL
  cases aI:qV L ⟨#[]⟩with
  |none=>exact⟨0,false,jE.keys.BG uI z3 _ (by unfold nh;rw [aI];rfl) (by unfold nh;rw [aI];rfl),_,_,rfl,eL⟩
  |some i=>exact⟨i,true,jE.keys.BG uI z3 _ (by unfold nh;rw [aI];rfl) (by unfold nh;rw [aI];rfl),_,_,rfl,eL⟩
 ·have jE:=aH.af cv (by simp)
  refine⟨_,(n0 jE).ld (by kernel_rfl) (j:=1) rfl,?_⟩
  have aI:qV L ⟨(hW l).toArray⟩=hY L l:=HT hw dj
  have eL:=hk H1 cv
  unfold D9 at eL
  cases iC:hY L l with
  |none=>
   rw [iC]at aI eL
   exact⟨0,false,jE.keys.BG uI z3 _ (by unfold nh;rw [aI];rfl) (by unfold nh;rw [aI];rfl),_,_,rfl,eL⟩
  |some i=>
   rw [iC]at aI eL
   exact⟨i,true,jE.keys.BG uI z3 _ (by unfold nh;rw [aI];rfl) (by unfold nh;rw [aI];rfl),_,_,rfl,eL⟩
theorem y3{L:List bR}{K:Int->U->Prop}(h:k9 H dE bC L)(hk:K L.length H):
  cG aeZ [ax (some (ak dE))] H K:=by
 apply ae0
 obtain⟨hw,a0,fg,c0,hs,ha,eF,eA,eb,aH,BJ⟩:=h
 have e:fg=L.length:=by rw [aH.all.1,aH.mD.1]
 exact⟨_,_,_,(n0 aH).bY rfl,_,rfl,by rw [e];exact hk⟩
theorem LO{L:List bR}{id:Int}{K:Option Addr->Nat->Nat->U->Prop}(h:k9 H dE bC L)
  (hk:∀aV bn bg H',Own g' 51 H.size H' aV bn bg (if 0<=id then L.getD id.toNat []else [])->Fr [] H H'->K aV bn bg H'):
  dy ae1 [ax (some (ak dE)),o id] H K:=by
 apply ae2
 obtain⟨hw,a0,fg,c0,hs,ha,eF,eA,eb,aH,BJ⟩:=h
 have e:fg=L.length:=by rw [aH.all.1,aH.mD.1]
 have nil:¬(0<=id/\id<L.length)->∃a n c,azV none 0 0=.slice a n c/\K a n c H:=λcq=>⟨_,_,_,rfl,hk none 0 0 H (by
  have:(if 0<=id then L.getD id.toNat []else [])=([]:bR):=by
   split
   ·rw [aza,ayL (by omega)];rfl
   ·rfl
  rw [this];exact Own.nil _ _ _ _) (Fr.refl _ _)⟩
 refine⟨λ_ H'=>H'=H/\0<=id/\id<L.length,?_,?_⟩
 ·refine au (λh=>nil ?_) (λh=>⟨_,_,_,(n0 aH).bY rfl,au (λab=>nil ?_) (λab=>⟨rfl,?_,?_⟩)⟩)
  ·simp at h;omega
  ·simp at ab;omega
  ·simp at h;omega
  ·simp at ab;omega
 rintro br H1 ⟨rfl,aF,h1⟩
 refine⟨_,_,_,(n0 aH).bY rfl,?_⟩
 have az:id.toNat<hs.length:=by rw [aH.mD.1];omega
 have cB:hs[id.toNat]?=some (hs[id.toNat]'az):=by simp
 have kp:L[id.toNat]?=some (L[id.toNat]'(by omega)):=by simp
 generalize hs[id.toNat]'az=aR at cB
 have a':(if 0<=id then L.getD id.toNat []else [])=L[id.toNat]'(by omega):=by rw [if_pos aF,aza,kp];rfl
 rw [a']at hk
 generalize L[id.toNat]'(by omega)=l at kp hk
 have aG:=(aH.mD.2 _ _ _ cB kp).1
 refine aH.all.bT.get (k:=id.toNat) (by omega) cB (bh (by omega)) λaC b4 av=>⟨_,_,_,Tm av,?_⟩
 have avD:=(hw.dB l (azR kp)).1
 exact xZ aG.bT (by have:=aG.1;omega) λaV bn bg ao ab bG=>⟨_,_,_,rfl,hk aV bn bg ao ab bG⟩
end Go.Proofs.dh
