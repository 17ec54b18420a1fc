/- Part of a proof. -/
import Derived.Test.YtilgmbcmbapbkaaGreatDoorP6
import Derived.Test.YtilgmbcmbapbkaaGreatDoorTie
import Derived.LaidMore
import Derived.MakeChecks
import Derived.Stop.Joined
open _root_.Int renaming tdiv→azE,tdiv_eq_ediv_of_nonneg→aBI,toNat→azw
open _root_.List renaming mem_cons→axA,mem_map→ayf,mem_append→azb,mem_filter→ax2,length_append→ax6,length_cons→ayi,mem_of_getElem?→azR,map_cons→axE,take_add_one→azP,mem_cons_of_mem→axU,take_of_length_le→ayB,length_map→azU,sum_cons→azT,length_take→ayj,not_mem_nil→aBH,mem_singleton→ayw,append_nil→azh,length_nil→azs,length_pos_iff→aAI,map_append→azj,nodup_cons→ayk,getElem?_eq_some_iff→axC,nodup_nil→aBJ,foldl_cons→ayF,mem_cons_self→aye,mem_nil_iff→azS,nodup_append→azk,eq_nil_of_length_eq_zero→ayT,exists_mem_of_ne_nil→aAy,nodup_iff_pairwise_ne→azX,pairwise_map→az5,length_filter_le→aAm,foldl_append→aAZ,mem_of_mem_take→azY,mem_map_of_mem→axL,flatMap_append→azf,mem_append_left→aBd,filter_cons→axT,take_length→ayX,getElem?_map→ayp,getElem?_eq_none_iff→aBM
open _root_.Nat renaming le_refl→axx,zero_le→ayv,le_of_not_lt→aBF,le_trans→ax4
open _root_.Go.Proofs.Tryz renaming prog→azB,underlying178→aBG,underlying3→aBL,underlying9→aAi
open _root_.Go.Value renaming cells→azI,bool→azD
open _root_.ByteArray renaming size_append→aBj
open _root_.Array renaming mem_push→aAj,getElem?_toList→aAC
open _root_.Option renaming isSome_iff_exists→aBK,toList_some→aAh,map_some→ayr
open _root_.Bool renaming and_eq_true→axz
set_option linter.unusedVariables false
set_option linter.unusedSimpArgs false
set_option maxRecDepth 100000
open Go Go.bk
namespace Go.Proofs.Bt
structure qB(cw H:U)(cW:Option Addr)(cD c1:Nat)(a2:Option Addr)(cz c2:Nat)(xs ys:List Int):Prop where
 sA:Own cH 3 cw.size H cW cD c1 xs
 j3:Own cH 3 cw.size H a2 cz c2 ys
 gd:er (an cW) (an a2)
 af:Fr [] cw H
variable{H:U}{d0:Int}
theorem qB.ag{cw H':U}{cW:Option Addr}{cD c1:Nat}{a2:Option Addr}{cz c2:Nat}{xs ys:List Int}(h:qB cw H cW cD c1 a2 cz c2 xs ys)(ai:Fr [] H H'):qB cw H' cW cD c1 a2 cz c2 xs ys:=⟨h.sA.ag ai,h.j3.ag ai,h.gd,h.af.aT ai⟩
theorem qB.Gv{cw:U}{cW:Option Addr}{cD c1:Nat}{a2:Option Addr}{cz c2:Nat}{xs ys:List Int}(h:qB cw H cW cD c1 a2 cz c2 xs ys):qB cw H a2 cz c2 cW cD c1 ys xs:=⟨h.j3,h.sA,λk h1 ab=>h.gd k ab h1,h.af⟩
theorem Gw{cw:U}{b:Nat}{cW:Option Addr}{cD c1:Nat}{a2:Option Addr}{cz c2:Nat}{xs ys:List Int}{x:Int}{K:Option Addr->Nat->Nat->U->Prop}(h:qB cw H cW cD c1 a2 cz c2 xs ys)(aI:bt cH H (some ⟨b,0,none⟩) 1 1 [x])(ay:cD<=1000)
  (hk:∀a n c H',qB cw H' a n c a2 cz c2 (xs++[x]) ys->Fr (an cW) H H'->K a n c H'):
  bO (Builtin.append_ ⟨[117,117]⟩ 117 ⟨[.slice cW cD c1,.slice (some ⟨b,0,none⟩) 1 1]⟩) H λv H'=>∃a n c,v=.slice a n c/\K a n c H':=by
 have z0:=h.af.size
 refine ic (t:=3) (E:=cH) (bytes:=8) (by kernel_rfl) (by kernel_rfl) h.sA aI z0 (by omega) λa n c H' aw f g=> ?_
 refine hk a n c H' ⟨aw,h.j3.af f (fO λk hk aq=>h.gd k aq hk),λk h1 ab=> ?_,h.af.ag f λk hk=>(h.sA.ge k hk).1⟩ f
 rcases g k h1 with q|q
 ·exact h.gd k q ab
 ·have:=(h.j3.ge k ab).2;omega
theorem aaX{x n c p ds:Nat}{ae:List Value}{a:Option Addr}{ps:List cK}{K:Int->Int->Bool->U->Prop}(al:a6 H ⟨x,0,none⟩ ae)(ar:ae[3]?=some (.slice a n c))(CT:ae[13]?=some (.pointer (some ⟨p,0,none⟩)))(rv:bt gf H a n c ps)(ay:n<=100)(lay:∀y∈ps,0<=y.2.1/\y.2.1<=1)
  (nH:a6 H ⟨p,0,none⟩ [.map (some ds)]) (pm:H[ds]?=some (.map ⟨[]⟩ 0)) (hk:∀H',Fr [] H H'->K 0 0 false H'):
  aK Qj [ax (some (ak x))] H λv H'=>∃d l b,v=.tuple ⟨[.int .i64 d,.int .i64 l,.bool b]⟩/\K d l b H':=by
 apply aaY
 have aG:=rv.len
 refine⟨a,n,c,al.fk 3 ar,?_⟩
 refine⟨λae H'=>match ae with|[.slice cW cD c1,.slice a2 cz c2,.int _ i]=>∃k:Nat,i=k/\k<=n/\qB H H' cW cD c1 a2 cz c2 ((ps.take k).map (·.1)) ((ps.take k).map (·.2.1))|_=>False,
  λae _=>match ae with|[_,_,.int _ i]=>n-i.toNat|_=>0,⟨0,rfl,by omega,⟨Own.nil _ _ _ _,Own.nil _ _ _ _,λk hk=>by simp [an]at hk,Fr.refl _ _⟩⟩,?_⟩
 rintro br cW cD c1 a2 cz c2 i H1 ⟨k,rfl,eC,cd⟩
 have f1:=cd.af
 have kd:=cd.sA.1
 have gA:=cd.j3.1
 rw [azU,ayj]at kd gA
 refine au (λc=> ?_) λhR=> ?_
 ·have bg:k<n:=by simpa using c
  obtain⟨y,aA⟩:=fM (l:=ps) (i:=k) (by omega)
  rw [cE (by omega)]
  refine(rv.ag f1).get rfl aA (bh (by omega)) λaC b4 av=>⟨_,_,_,vB av,?_⟩
  refine su (x:=y) rfl λb ao al bM f2=> ?_
  have ju:∀{H'},Fr [] ao H'->ah 3 H' ⟨b,0,none⟩ (.int .i64 y.1):=λai=>(bM.ag ai).cF 0 rfl
  have oo:∀{H'},Fr [] ao H'->ah 3 H' ⟨b,1,none⟩ (.int .i64 y.2.1):=λai=>(bM.ag ai).cF 1 rfl
  have Qk:∀{H'},Fr [] ao H'->qB H H' cW cD c1 a2 cz c2 ((ps.take k).map (·.1)) ((ps.take k).map (·.2.1)):=λai=>(cd.ag f2).ag ai
  have bQ:∀q∈an cW,q<H1.size:=λq aO=>(cd.sA.ge q aO).2
  have au3:∀q∈an a2,q<H1.size:=λq aO=>(cd.j3.ge q aO).2
  have aaZ:(ps.take (k+1)).map (·.1)=(ps.take k).map (·.1)++[y.1]:=by rw [azP,aA];simp
  have aa0:(ps.take (k+1)).map (·.2.1)=(ps.take k).map (·.2.1)++[y.2.1]:=by rw [azP,aA];simp
  have fin:∀{cW a2 cD cz c1 c2 H'},qB H H' cW cD c1 a2 cz c2 ((ps.take k).map (·.1)++[y.1]) ((ps.take k).map (·.2.1)++[y.2.1])->∃q:Nat,(((k+1:Nat):Int))=q/\q<=n/\qB H H' cW cD c1 a2 cz c2 ((ps.take q).map (·.1)) ((ps.take q).map (·.2.1)):=
   λt=>⟨k+1,rfl,by omega,by rw [aaZ,aa0];exact t⟩
  have z2:=f2.size
  have two:∀{G:U} {p q:Nat},Fr [] ao G->bt cH G (some ⟨p,0,none⟩) 1 1 [y.1]->bt cH G (some ⟨q,0,none⟩) 1 1 [y.2.1]->H1.size<=q->bO (Builtin.append_ ⟨[117,117]⟩ 117 ⟨[.slice cW cD c1,.slice (some ⟨p,0,none⟩) 1 1]⟩) G λv H'=>∃a iT c,v=.slice a iT c/\bO (Builtin.append_ ⟨[117,117]⟩ 117 ⟨[.slice a2 cz c2,.slice (some ⟨q,0,none⟩) 1 1]⟩) H' λv H'=>∃ie sB hg,v=.slice ie sB hg/\(∃r:Nat,(((k+1:Nat):Int))=r/\r<=n/\qB H H' a iT c ie sB hg ((ps.take r).map (·.1)) ((ps.take r).map (·.2.1)))/\n-(((k+1:Nat):Int)).toNat<n-((k:Nat):Int).toNat:=λ{G p q} f aH aO au4=>
   Gw (Qk f) aH (by omega) λa4 nL c4 a8 t4 f4=>Gw t4.Gv (aO.af f4 λaC e aq=>by cases e;have:=bQ _ aq;simp only at this;omega) (by omega) λj1 n6 lx ct t6 f6=>⟨fin t6.Gv,dU bg⟩
  refine⟨_,ju (Fr.refl _ _),_,oo (Fr.refl _ _),⟨λb1 aP bw=>⟨oo bw.af,?_,λbI a8 cS=> ?_⟩,λb1 aP bw=>⟨ju bw.af,λbI a8 cS=> ?_⟩⟩⟩
  ·refine Gw (Qk bw.af) (fy cH y.1 bw rfl) (by omega) λa4 nL c4 a8 t4 f4=>⟨?_,λk7 bA gH=>Gw (t4.ag gH.af).Gv (fy cH y.2.1 gH rfl) (by omega) λj1 n6 lx ct t6 f6=>⟨fin t6.Gv,dU bg⟩⟩
   exact((bM.ag bw.af).af f4 fun(aq:b∈an cW)=>by have:=bQ _ aq;omega).cF 1 rfl
  ·exact two (bw.af.aT cS.af) ((fy cH y.1 bw rfl).ag cS.af) (fy cH y.2.1 cS rfl) (by have:=cS.eq;have:=bw.size;omega)
  ·exact two (bw.af.aT cS.af) (fy cH y.1 cS rfl) ((fy cH y.2.1 bw rfl).ag cS.af) (by have:=bw.eq;omega)
 ·have e:k=n:=by simp at hR;omega
  subst e
  have aL:cD=k:=by omega
  have a':cz=k:=by omega
  subst aL
  subst a'
  refine⟨_,(al.ag f1).fk 13 CT,aa1 cd.sA.bT cd.j3.bT (λl aG=> ?_) (by omega) (nH.ag f1) (f1.vE pm) λao f2=>⟨_,_,_,rfl,hk ao (f1.aT f2)⟩⟩
  obtain⟨z,aE,rfl⟩:=ayf.1 aG
  exact lay z (azY aE)
open aS (bF eG kC dM encS dP cy gP cL h9 iP dr ia hN fs hP)
theorem aa2{t:Int}{K:Int->U->Prop}(aF:0<=t)(h1:t<1099511627776)(hk:K (azE t 100) H):cG Ql [o t] H K:=by
 apply aa3
 rw [aBI aF]at hk⊢
 rw [cj (by omega) (by omega)]
 exact⟨_,rfl,hk⟩
def Qm(r:Nat)(ao:U)(d0:Int)(rw:dr):List Value->U->Prop:=λae H'=>match ae with
 |[.int _ i]=>Fr [r] ao H'/\((i=0/\dN aS.du H' r 0 [])\/(i=1/\∃a c,dN aS.du H' r 1 [(d0,.slice a 1 c,0)]/\bt dP H' a 1 c [rw]/\∀k∈an a,ao.size<=k/\k<H'.size))
 |_=>False
theorem Km{r bI:Nat}{ao aP G:U}{rw:dr}(ar:Fr [r] ao aP)(aB:r<ao.size)(hm:dN aS.du aP r 0 [])(ai:Fr [] aP G)(hs:bt dP G (some ⟨bI,0,none⟩) 1 1 [rw]):
  bO (Builtin.append_ ⟨[82,82]⟩ 82 ⟨[.slice none 0 0,.slice (some ⟨bI,0,none⟩) 1 1]⟩) G λv ct=>∃a n c,v=.slice a n c/\jc azB (Instr.mapUpdate 178 (.map (some r)) (.int .i64 d0) (.slice a n c)) ct λdx=>Qm r ao d0 rw [.int .i64 (IntKind.i64.wrap (0+1))] dx/\CU [.int .i64 (IntKind.i64.wrap (0+1))] dx<CU [.int .i64 0] aP:=by
 refine ic (t:=103) (E:=dP) (bytes:=24) (by kernel_rfl) (by kernel_rfl) (Own.nil dP 103 G.size G) hs (axx _) (by omega) λa n c ct aw f6 _=> ?_
 have e:n=1:=aw.1
 subst e
 have f36:Fr [] aP ct:=ai.aT f6
 have eZ:=aw.ge
 refine t' (T:=aS.du) (mt:=178) (e:=82) aBG (hm.ag aS.du f36) d0 λdx Kn f7=>⟨⟨(ar.trans' f36 (λk hk _=>hk) (by simp)).trans' f7 (λk hk _=>hk) λk hk _=>hk,.inr ⟨by kernel_rfl,a,c,Kn,aw.bT.af f7 (fO λk hk aq=> ?_),λk hk=> ?_⟩⟩,aa4⟩
 ·simp at aq
  have:=eZ k hk
  have:=ar.size
  have:=ai.size
  omega
 ·have:=eZ k hk
  have:=ar.size
  have:=ai.size
  have:=f7.size
  omega
def ry(L:List (cR Int))(d0:Int)(jd:Option Addr)(rc:Nat)(qs:List cK):Prop:=∀d,dm d L=if d=d0 then some (.slice jd 1 rc)else if d∈qs.map (·.1)then some (.slice none 0 0)else none
theorem Qn{qs:List cK}{y:cK}{d:Int}(e:¬d=y.1):(d∈(qs++[y]).map (·.1))=(d∈qs.map (·.1)):=by
 rw [azj,azb]
 simp [e]
theorem Gx{α β:Type}{f:α->β}{l:List α}(h:(l.map f).Nodup){x y:α}(aa:x∈l)(aA:y∈l)(e:f x=f y):x=y:=by
 induction l with
 |nil=>cases aa
 |cons z l ih=>
  rw [axE,ayk]at h
  rcases axA.1 aa with h1|h1
  ·rcases axA.1 aA with ab|ab
   ·rw [h1,ab]
   ·exact absurd (ayf.2 ⟨y,ab,by rw [<-e,h1]⟩) h.1
  ·rcases axA.1 aA with ab|ab
   ·exact absurd (ayf.2 ⟨x,h1,by rw [e,ab]⟩) h.1
   ·exact ih h.2 h1 ab
theorem ry.key{L:List (cR Int)}{jd:Option Addr}{rc:Nat}{qs:List cK}(h:ry L d0 jd rc qs)(d:Int):(∃e∈L,e.1=d)↔d=d0\/d∈qs.map (·.1):=by
 have h1:=h d
 have ab:(∃e∈L,e.1=d)↔d∈L.map (·.1):=by rw [ayf]
 rw [ab]
 by_cases hm:d∈L.map (·.1)
 ·refine⟨λ_=> ?_,λ_=>hm⟩
  by_cases e:d=d0
  ·exact .inl e
  ·by_cases a':d∈qs.map (·.1)
   ·exact .inr a'
   ·rw [if_neg e,if_neg a',AO]at h1;exact absurd hm h1
 ·refine⟨λq=>absurd q hm,λq=> ?_⟩
  rw [AO.2 hm]at h1
  rcases q with e|e
  ·rw [if_pos e]at h1;cases h1
  ·by_cases ed:d=d0
   ·rw [if_pos ed]at h1;cases h1
   ·rw [if_neg ed,if_pos e]at h1;cases h1
theorem ry.one{jd:Option Addr}{rc:Nat}:ry [(d0,.slice jd 1 rc,0)] d0 jd rc []:=λd=>by
 unfold dm
 by_cases e:d=d0
 ·subst e;simp
 ·rw [if_neg (λh=>e h.symm),if_neg e];simp [dm]
theorem ry.put{L:List (cR Int)}{jd:Option Addr}{rc ck:Nat}{qs:List cK}{y:cK}(h:ry L d0 jd rc qs)(aA:dm y.1 L=none):ry (oq y.1 (.slice none 0 0) ck L) d0 jd rc (qs++[y]):=λd=>by
 rw [sC]
 have h1:=h y.1
 rw [aA]at h1
 by_cases e:d=y.1
 ·subst e
  rw [if_pos rfl]
  split
  ·rename_i e;rw [if_pos e]at h1;cases h1
  ·rw [if_pos (by simp)]
 ·rw [if_neg e,h d]
  simp only [Qn e]
theorem ry.same{L:List (cR Int)}{jd:Option Addr}{rc:Nat}{qs:List cK}{y:cK}(h:ry L d0 jd rc qs)(aA:dm y.1 L≠none):ry L d0 jd rc (qs++[y]):=λd=>by
 rw [h d]
 by_cases e:d=y.1
 ·subst e
  have h1:=h y.1
  split
  ·rfl
  ·rename_i ed
   rw [if_neg ed]at h1
   split
   ·rename_i aL;rw [if_pos (by simp)]
   ·rename_i aL;rw [if_neg aL]at h1;exact absurd h1 aA
 ·simp only [Qn e]
structure aa5(r it:Nat)(ck:Nat)(L:List (cR Int))(a8:U)(a:Option Addr)(n c:Nat)(H:U):Prop where
 ex:∃(seen:Array Nat) (sD:List Int),H[it]?=some (.mapIter (some r) ck seen ck)/\Own cH 3 a8.size H a n c sD/\sD.Nodup/\(∀k∈sD,∃e∈L,e.1=k/\e.2.2∈seen)/\∀e∈L,e.2.2∈seen->e.1∈sD
 af:Fr [it] a8 H
theorem aa6{r ck:Nat}{L:List (cR Int)}{Qo:Option Addr->Nat->Nat->U->Prop}(hm:dN aS.du H r ck L)(bZ:L.length<=1000)(hk:∀a n c H' D,bt cH H' a n c D->D.Nodup->(∀d,d∈D↔∃e∈L,e.1=d)->(∀k∈an a,H.size<=k)->Fr [] H H'->Qo a n c H'):
  bO (Instr.range 178 (.map (some r))) H λv H'=>∃a,v=.pointer a/\∃(I:bx) (ki:cr),I [.slice none 0 0] H'/\∀(br:F) (sE:Option Addr) (n c:Nat) (H':U),I [.slice sE n c] H'->bO (Instr.next (.pointer a) false 0) H' λv hv=>(v=.tuple ⟨[.bool false]⟩/\dQ 73 [.slice sE n c] hv λH'=>Qo sE n c H')\/∃k x,v=.tuple ⟨[.bool true,k,x]⟩/\bO (Instr.entry (.pointer a)) hv λv je=>∃k x,v=.tuple ⟨[k,x]⟩/\∃sF,k=.int .i64 sF/\∀(b:Nat) (ua:U),dV je b (.cells ⟨[.int .i64 sF]⟩ 3) ua->bO (Builtin.append_ ⟨[117,117]⟩ 117 ⟨[.slice sE n c,.slice (some ⟨b,0,none⟩) 1 1]⟩) ua λv lz=>∃a pQ hg,v=.slice a pQ hg/\I [.slice a pQ hg] lz/\ki [.slice a pQ hg] lz<ki [.slice sE n c] H':=by
 refine CV aS.du (mt:=178) (e:=82) aBG hm λit a8 cS=> ?_
 have gQ:=cS.eq
 have z4:=cS.size
 have mR:=hm.lt
 have ub:=hm.ag aS.du cS.af
 refine⟨λae H'=>match ae with|[.slice a n c]=>aa5 r it ck L a8 a n c H'|_=>False,λ_ H'=>pR H' r it,⟨⟨#[],[],cS.get,Own.nil _ _ _ _,by simp,by simp,by simp⟩,Fr.refl _ _⟩,?_⟩
 rintro br a n c bA ⟨⟨seen,sD,az,aw,iA,AP,CW⟩,f5⟩
 have z5:=f5.size
 have mS:dN aS.du bA r ck L:=ub.af aS.du f5 (by simp;omega)
 have uc:sD.length<=1000:=by
  have:=aZ.AG (λ_:Int=>1) (a:=sD) (b:=L.map (·.1)) iA λx aa=>by
   obtain⟨e,he,a',_⟩:=AP x aa
   exact ayf.2 ⟨e,he,a'⟩
  have e:∀l:List Int,(l.map λ_=>1).sum=l.length:=λl=>by
   induction l with
   |nil=>rfl
   |cons x l ih=>simp [ih];omega
  rw [e,e,azU]at this;omega
 have ea:=aw.1
 refine CX aS.du mS az (λfe=> ?_) λx aa gY ct AQ f6=> ?_
 ·refine aa7 Tryz.aa8 rfl aw (by omega) λct hf f6=>hk a n c ct _ hf.bT ((List.mergeSort_perm sD _).nodup_iff.2 iA) (λd=> ?_) (λk hk=>by have:=(aw.ge k hk).1;omega) ?_
  ·rw [List.mem_mergeSort]
   exact⟨λh=>by obtain⟨e,he,a',_⟩:=AP d h;exact⟨e,he,a'⟩,fun⟨e,he,a'⟩=>by rw [<-a'];exact CW e he (fe e he)⟩
  ·exact(cS.af.ag f5 λk hk=>by simp at hk;omega).ag f6 λk hk=>by have:=(aw.ge k hk).1;omega
 ·have vz:=f6.size
  have AR:dN aS.du ct r ck L:=mS.af aS.du f6 (by simp;omega)
  have cq:x.1∉sD:=λaq=>by
   obtain⟨e,he,a',cX⟩:=AP _ aq
   have:e=x:=Gx hm.wf.keys he aa a'
   subst this;exact gY cX
  refine Gy aS.du AR AQ aa rfl ⟨x.1,rfl,λb dx ga=> ?_⟩
  have xf:=ga.size
  have Qp:it∉an a:=λaq=>by have:=(aw.ge _ aq).1;omega
  have k6:Own cH 3 a8.size dx a n c sD:=(aw.af f6 (fO λk hk aq=>by simp at aq;subst aq;exact Qp hk)).ag ga.af
  refine ic (t:=3) (E:=cH) (bytes:=8) (by kernel_rfl) (by kernel_rfl) k6 (fy cH x.1 ga rfl) (by omega) (by omega) λnJ n8 pO eQ jt f8 g8=> ?_
  have Qq:eQ[it]?=some (.mapIter (some r) ck (seen.push x.2.2) ck):=f8.get (ga.af.vE AQ) Qp
  have Qr:dN aS.du eQ r ck L:=(AR.ag aS.du ga.af).af aS.du f8 λaq=>by have:=(aw.ge _ aq).1;omega
  refine⟨⟨⟨seen.push x.2.2,sD++[x.1],Qq,jt,?_,λk hk=> ?_,λe he hs=> ?_⟩,?_⟩,?_⟩
  ·rw [azk]
   exact⟨iA,by simp,λp aH q aO e=>by simp at aO;subst aO;subst e;exact cq aH⟩
  ·rcases azb.1 hk with hk|hk
   ·obtain⟨e,he,a',cX⟩:=AP k hk
    exact⟨e,he,a',aAj.2 (.inl cX)⟩
   ·simp at hk;subst hk;exact⟨x,aa,rfl,aAj.2 (.inr rfl)⟩
  ·rcases aAj.1 hs with hs|hs
   ·exact azb.2 (.inl (CW e he hs))
   ·have:e=x:=Gx hm.wf.born he aa hs
    subst this;simp
  ·exact((f5.trans' f6 (λk hk _=>hk) λk hk _=>hk).trans' ga.af (λk hk _=>hk) (by simp)).trans' f8 (λk hk _=>hk) λk hk bQ=>by have:=(aw.ge k hk).1;omega
  ·show pR eQ r it<pR bA r it
   rw [xg aS.du Qr Qq,xg aS.du mS az]
   exact Gz (axL (f:=λx:cR Int=>x.2.2) aa) gY
end Go.Proofs.Bt
namespace Go.Proofs
theorem ac6{ps:List cK}{day:Int}(h:Bh ps day=false):∀y,ps[ml ps day]?=some y->y.1≠day:=λy aA e=>by
 unfold Bh at h
 rw [aA]at h
 simp [e]at h
theorem ac7{ps:List cK}{day:Int}(h:Bh ps day=true):∃y,ps[ml ps day]?=some y/\y.1=day:=by
 unfold Bh at h
 split at h
 ·rename_i x e;exact⟨x,e,by simpa using h⟩
 ·cases h
theorem RZ{H:U}{b b1 base nx k:Nat}{day:Int}{h:eH}{q:List cK}{X:U->Prop}(B:a6 H ⟨b,0,none⟩ (ig ⟨h,(nx:Int),0⟩))(E:a6 H ⟨b1,0,none⟩ [.int .i64 0,.int .i64 day,.int .i64 0,.int .i64 0])(aw:Own gf 122 base H h.1 h.2.1 h.2.2 q)(zf:k<q.length)(qG:nx<100)(cx:jL H)(al:b∉an h.1)
  (hk:∀H',a6 H' ⟨b,0,none⟩ (ig ⟨h,((nx+1:Nat):Int),0⟩)->Own gf 122 base H' h.1 h.2.1 h.2.2 (q.set k (day,0,c6 nx))->Fr (b::an h.1) H H'->X H'):
  ∃a n c,ah 66 H ⟨b,0,none⟩ (.slice a n c)/\∃n13,ah 3 H ⟨b1,1,none⟩ (.int .i64 n13)/\∃n14,ah 3 H ⟨b1,2,none⟩ (.int .i64 n14)/\∃n15,ah 3 H ⟨b,1,none⟩ (.int .i64 n15)/\dv 50 [.int .i64 n15] H λs H'=>ah 3 H' ⟨b1,2,none⟩ (.int .i64 n14)/\ah 3 H' ⟨b1,1,none⟩ (.int .i64 n13)/\ah 66 H' ⟨b,0,none⟩ (.slice a n c)/\bH a (k:Int) n λaC=>(∃ct,bp 122 H' (Addr.add aC (azw (k:Int)*3)) (.agg ⟨[.int .i64 n13,.int .i64 n14,.string s]⟩) ct/\∃n,ah 3 ct ⟨b,1,none⟩ (.int .i64 n)/\∃H',bp 3 ct ⟨b,1,none⟩ (.int .i64 (IntKind.i64.wrap (n+1))) H'/\X H'):=by
 have aG:=aw.1
 refine⟨h.1,h.2.1,h.2.2,B.bY rfl,day,E.cF 1 rfl,0,E.cF 2 rfl,(nx:Int),B.cF 1 rfl,RS (by omega) cx λH1 f1=>⟨(E.ag f1).cF 2 rfl,(E.ag f1).cF 1 rfl,(B.ag f1).bY rfl,?_⟩⟩
 refine sU (n:=h.2.1) (i:=(k:Int)) (k:=k) (day,0,c6 nx) (aw.ag f1) rfl (by omega) (bh ⟨by omega,by omega⟩) rfl (by kernel_rfl) (by kernel_rfl) λao dk f2=> ?_
 have kJ:=(B.ag f1).af f2 al
 refine⟨(nx:Int),kJ.cF 1 rfl,Qw (s':=⟨h,IntKind.i64.wrap ((nx:Int)+1),0⟩) kJ (by decide) (by rfl) λaP pL f3=> ?_⟩
 rw [cE (by omega)]at pL
 exact hk aP pL (dk.af f3 (fO λe7 qH aq=>by simp at aq;subst aq;exact al qH)) ((f1.trans' f2 (T:=b::an h.1) (by simp) (λk hk _=>by simp [hk])).trans' f3 (λk hk _=>hk) (by simp))
theorem abl{H:U}{s:lQ}{ps:List cK}{nx:Nat}{day:Int}{K:Option Addr->Nat->Nat->Int->Int->Bool->Int->Int->Int->Int->U->Prop}(aa:bt gf H s.h.1 s.h.2.1 s.h.2.2 ps)(b9:iz ps nx)(ay:s.next=(nx:Int))(aH:s.past=0)(nI:0<=day)(rp:day<17179869184)(cx:jL H)
  (hk:∀(s':lQ) H',s'.next=((nx+1:Nat):Int)->s'.past=0->Own gf 122 H.size H' s'.h.1 s'.h.2.1 s'.h.2.2 (gp (day,0,c6 nx) ps)->Fr [] H H'->K s'.h.1 s'.h.2.1 s'.h.2.2 s'.next s'.past false 0 0 0 0 H'):
  aK Qt [vG s,.agg ⟨[o 0,o day,o 0,o 0]⟩] H λv H'=>∃a n c i j b k l ad e,v=.tuple ⟨[.agg ⟨[.slice a n c,.int .i64 i,.int .i64 j,.bool b,.int .i64 k,.int .i64 l,.int .i64 ad]⟩,.int .i64 e]⟩/\K a n c i j b k l ad e H':=by
 apply Qu
 intro b H1 bb b1 ao bK bI aP bw
 have aL:=bb.eq
 have a':=bK.eq
 have cX:=bw.eq
 have ht:=bb.size
 have z2:=bK.size
 have z3:=bw.size
 have aG:=aa.len
 have hlen:=b9.len
 have qG:=b9.nx
 have j2:=acq ps day
 have f3:=(bb.af.aT bK.af).aT bw.af
 have pL:a6 aP ⟨b,0,none⟩ (ig s):=(bb.bz.ag bK.af).ag bw.af
 have C0:a6 aP ⟨b1,0,none⟩ [.int .i64 0,.int .i64 day,.int .i64 0,.int .i64 0]:=bK.bz.ag bw.af
 have GB:a6 aP ⟨bI,0,none⟩ (ig xh):=bw.bz
 have C1:b1∉[b]:=by simp;omega
 have C2:bI∉[b]:=by simp;omega
 have up:∀{H' dn},Fr [] H H'->Fr [b] H' dn->Fr [] H dn:=λh1 ab=>h1.ag ab λk hk=>by simp at hk;omega
 refine⟨_,_,_,pL.bY rfl,Qv (h:=s.h) (aa.ag f3) (by omega) λa7 a8 gg f4=>Kq (h':=a7) (pL.ag f4) λbA yN f5=> ?_⟩
 have G2:∀k∈an a7.1,aP.size<=k:=λk hk=>(gg.ge k hk).1
 have fZ:=gg.af f5 (fO λk hk aq=>by simp at aq;have:=G2 k hk;omega)
 have AU:=(C0.ag f4).af f5 C1
 have Kr:=(GB.ag f4).af f5 C2
 have g5:=up (f3.aT f4) f5
 have PX:=gg.1
 refine⟨_,_,_,_,_,_,_,_,_,yN.f' rfl,day,AU.cF 1 rfl,tW (s:={s with h:=a7}) fZ.bT (by show a7.2.1<=_;omega) λct f6=> ?_⟩
 refine su (x:=(fW ps day).getD (0,0,⟨#[]⟩)) rfl λk7 dx mQ rr f7=> ?_
 have f57:=f6.aT f7
 have tX:=yN.ag f57
 have vH:=AU.ag f57
 have Ks:=Kr.ag f57
 have k6:=fZ.ag f57
 have g7:=g5.aT f57
 have xf:=g7.size
 have z57:=f57.size
 have z5:=f5.size
 have z4:=f4.size
 refine⟨λae H'=>∃h,ae=[.bool true]/\a6 H' ⟨b,0,none⟩ (ig ⟨h,((nx+1:Nat):Int),0⟩)/\Own gf 122 H.size H' h.1 h.2.1 h.2.2 (gp (day,0,c6 nx) ps)/\a6 H' ⟨b1,0,none⟩ [.int .i64 0,.int .i64 day,.int .i64 0,.int .i64 0]/\a6 H' ⟨bI,0,none⟩ (ig xh)/\bI∉an h.1/\Fr [] H H',⟨0,vH.cF 0 rfl,λ_ H'=>dx=H',au (λc=>by simp at c) λ_=>au (λ_=>rfl) λc=>by simp at c,?_⟩,?_⟩
 ·rintro br _ rfl
  have t1:(decide ((0:Int)<=day/\day<=17179869183))=true:=bh ⟨by omega,by omega⟩
  have t3:decide ((nx:Int)<1099511627776)=true:=bh (by omega)
  have t2:(decide ((0:Int)<=0/\(0:Int)<=1))=true:=by decide
  refine⟨λae H'=>ae=[.bool true]/\dx=H',⟨day,vH.cF 1 rfl,Dt (au (λ_=>⟨0,vH.cF 2 rfl,Dt (au (λ_=>⟨(nx:Int),(by rw [<-ay];exact tX.cF 1 rfl),(by rw [t3];exact⟨rfl,rfl⟩)⟩) λc=>by rw [t2]at c;cases c)⟩) λc=>by rw [t1]at c;cases c)⟩,?_⟩
  rintro br o4 _ ⟨e,rfl⟩
  simp only [List.cons.injEq,Value.bool.injEq,and_true]at e
  subst e
  refine⟨a7.1,a7.2.1,a7.2.2,tX.bY rfl,day,vH.cF 1 rfl,acD k6.bT b9.d (by omega) λeQ f8=> ?_⟩
  have xi:=tX.ag f8
  have G3:=vH.ag f8
  have AV:=Ks.ag f8
  have jt:=k6.ag f8
  have g8:=g7.aT f8
  have KR:=f8.size
  have pY:∀k∈an a7.1,k≠b/\k≠b1/\k≠bI:=λk hk=>by have:=G2 k hk;exact⟨by omega,by omega,by omega⟩
  have fin:∀{h:eH} {cN H':U} {q:List cK},Own gf 122 aP.size H' h.1 h.2.1 h.2.2 q->q=gp (day,0,c6 nx) ps->a6 H' ⟨b,0,none⟩ (ig ⟨h,((nx+1:Nat):Int),0⟩)->a6 cN ⟨b1,0,none⟩ [.int .i64 0,.int .i64 day,.int .i64 0,.int .i64 0]->a6 cN ⟨bI,0,none⟩ (ig xh)->Fr [] H cN->Fr (b::an h.1) cN H'->(∀k∈an h.1,aP.size<=k)->∃h,([.bool true]:List Value)=[.bool true]/\a6 H' ⟨b,0,none⟩ (ig ⟨h,((nx+1:Nat):Int),0⟩)/\Own gf 122 H.size H' h.1 h.2.1 h.2.2 (gp (day,0,c6 nx) ps)/\a6 H' ⟨b1,0,none⟩ [.int .i64 0,.int .i64 day,.int .i64 0,.int .i64 0]/\a6 H' ⟨bI,0,none⟩ (ig xh)/\bI∉an h.1/\Fr [] H H':=λ{h cN H' q} aw e B E Z g f K6=>by
   subst e
   have cD:b1∉b::an h.1:=λaq=>by
    rcases axA.1 aq with q|q
    ·omega
    ·have:=K6 _ q;omega
   have cz:bI∉b::an h.1:=λaq=>by
    rcases axA.1 aq with q|q
    ·omega
    ·have:=K6 _ q;omega
   exact⟨h,rfl,B,aw.base (by omega),E.af f cD,Z.af f cz,λaq=>cz (by simp [aq]),g.ag f λk hk=>by
    rcases axA.1 hk with q|q
    ·omega
    ·have:=K6 _ q;omega⟩
  refine au (λc=>⟨a7.1,a7.2.1,a7.2.2,xi.bY rfl,a7.1,a7.2.1,a7.2.2,xi.bY rfl,λsO cN fC=> ?_⟩) (λc=> ?_)
  ·have ze:=fC.eq
   have z9:=fC.size
   rw [if_neg (by omega)]
   refine acy (jt.ag fC.af) (by omega) (fy gf Dn fC rfl) fC.get (λaq=>by have:=jt.ge _ aq;omega) (by omega) (by omega) λaV bg hj rC f10 g10=> ?_
   have ac8:=(xi.ag fC.af).af f10 λaq=>(pY _ aq).1 rfl
   have R0:=(G3.ag fC.af).af f10 λaq=>(pY _ aq).2.1 rfl
   have ac9:=(AV.ag fC.af).af f10 λaq=>(pY _ aq).2.2 rfl
   have R1:Fr [] H hj:=(g8.aT fC.af).ag f10 λk hk=>by have:=G2 k hk;omega
   refine Kq (h':=(aV,_,bg)) ac8 λjO B11 f11=> ?_
   rw [ay,aH]at B11
   have K7:∀k∈an aV,aP.size<=k:=λk hk=>(rC.ge k hk).1
   have G4:=rC.af f11 (fO λk hk aq=>by simp at aq;have:=K7 k hk;omega)
   refine RZ (h:=(aV,_,bg)) (k:=ml ps day) B11 (R0.af f11 C1) G4 (by simp;omega) (by omega) (cx.ag (up R1 f11)) (λaq=>by have:=K7 _ aq;omega) λmj B12 ho12 f12=> ?_
   exact fin ho12 (RP (x:=(day,0,c6 nx)) (ac6 (by simpa using c))) B12 (R0.af f11 C1) (ac9.af f11 C2) (up R1 f11) f12 K7
  ·obtain⟨y,aA,Bm⟩:=ac7 (by simpa using c)
   have R2:=xi
   rw [ay,aH]at R2
   exact RZ (h:=a7) (k:=ml ps day) R2 G3 jt (axC.1 aA).1 (by omega) (cx.ag g8) (λaq=>(pY _ aq).1 rfl) λmj B12 ho12 f12=>fin ho12 (RQ (x:=(day,0,c6 nx)) aA Bm) B12 G3 AV g8 f12 G2
 ·rintro br o4 eQ ⟨h,e,xi,jt,G3,AV,ac',g8⟩
  simp only [List.cons.injEq,Value.bool.injEq,and_true]at e
  subst e
  refine au (λc=>by cases c) λ_=>⟨λ_ H'=>eQ=H',⟨λae H'=>ae=[.bool false]/\eQ=H',⟨false,xi.cF 3 rfl,au (λc=>by cases c) λ_=>⟨rfl,rfl⟩⟩,?_⟩,?_⟩
  ·rintro br o4 _ ⟨e,rfl⟩
   simp only [List.cons.injEq,Value.bool.injEq,and_true]at e
   subst e
   exact au (λc=>by cases c) λ_=>rfl
  rintro br _ rfl
  refine⟨_,_,_,_,_,_,_,_,_,xi.f' rfl,yS (s:=⟨h,((nx+1:Nat):Int),0⟩) AV rfl λcN Kt f9=>⟨_,_,_,_,_,_,_,_,_,Kt.f' rfl,_,_,_,_,_,_,_,_,_,_,rfl,?_⟩⟩
  exact hk ⟨h,((nx+1:Nat):Int),0⟩ cN rfl rfl (jt.af f9 (fO λk hk aq=>by simp at aq;subst aq;exact ac' hk)) (g8.ag f9 λk hk=>by simp at hk;omega)
theorem aZ.hC.tight{H:U}{r M:Nat}{l:List (ByteArray×ByteArray)}(h:aZ.hC H r (aZ.dS l) M):aZ.hC H r (aZ.dS l) l.length:=by
 obtain⟨ck,L,hm,ay,ba⟩:=h
 refine⟨ck,L,hm,?_,ba⟩
 have hs:=aZ.AG (λ_:ByteArray=>1) (a:=L.map (·.1)) (b:=l.map (·.1)) hm.wf.keys λx aa=>by
  have h1:dm x L≠none:=λe=>AO.1 e aa
  have ab:(aZ.dS l x).isSome=true:=by
   cases e:aZ.dS l x with
   |none=>rw [ba,e]at h1;exact absurd rfl h1
   |some d=>rfl
  rw [aZ.yQ]at ab
  obtain⟨p,aH,e⟩:=ab
  exact ayf.2 ⟨p,aH,e⟩
 have e:∀l:List ByteArray,(l.map λ_=>1).sum=l.length:=λl=>by
  induction l with
  |nil=>rfl
  |cons x l ih=>simp [ih];omega
 rw [e,e,azU,azU]at hs
 exact hs
namespace Bt
structure nN(H:U)(W Y:Nat->Prop)(x:Nat)(A:en)(m:aZ.eX)(N M q cZ fz:Nat)(X:Nat->Prop)(st:aZ.gB)(s:lQ)(ps:List cK)(L:List bR):Prop where
 rz:nO H X Y A.s A.d A.cu A.Sd m N M q cZ st
 bz:a6 H ⟨x,0,none⟩ (o0 A)
 bH:dh.k9 H A.dE A.bC L
 nH:a6 H ⟨A.p,0,none⟩ [.map (some A.ds)]
 pm:H[A.ds]?=some (.map ⟨[]⟩ 0)
 sG:a6 H ⟨fz,0,none⟩ (ig s)
 rv:bt gf H s.h.1 s.h.2.1 s.h.2.2 ps
 ud:X x/\X A.p/\X A.ds/\X fz/\(∀k∈A.bC,X k)/\∀k∈an s.h.1,X k
 ne:x≠fz/\A.p≠fz/\A.ds≠fz/\fz∉A.bC/\fz∉an s.h.1/\A.p≠x/\A.ds≠x/\x∉an s.h.1
 xB:∀k,W k->X k
 AS:jL H
 yy:Y x/\Y fz
variable{H H':U}{W Y:Nat->Prop}{x:Nat}{A:en}{m:aZ.eX}{N M q cZ fz:Nat}{X:Nat->Prop}{st:aZ.gB}{s:lQ}{ps:List cK}{L:List bR}
theorem nN.ag(h:nN H W Y x A m N M q cZ fz X st s ps L)(ai:Fr [] H H'):nN H' W Y x A m N M q cZ fz (λk=>X k\/(H.size<=k/\k<H'.size)) st s ps L:=
 ⟨h.rz.ag ai λk hk=>hk,h.bz.ag ai,h.bH.ag ai,h.nH.ag ai,ai.vE h.pm,h.sG.ag ai,h.rv.ag ai,⟨.inl h.ud.1,.inl h.ud.2.1,.inl h.ud.2.2.1,.inl h.ud.2.2.2.1,λk hk=>.inl (h.ud.2.2.2.2.1 k hk),λk hk=>.inl (h.ud.2.2.2.2.2 k hk)⟩,h.ne,λk hk=>.inl (h.xB k hk),h.AS.ag ai,h.yy⟩
theorem nN.CY{kj Ko:Nat}{st':aZ.gB}(h:nN H W Y x A m N M q cZ fz X st s ps L)(bM:∀k,k<7->W k)(hs:nO H' X Y A.s A.d A.cu A.Sd m N kj Ko cZ st')(hk:fH X H H'):nN H' W Y x A m N kj Ko cZ fz X st' s ps L:=by
 obtain⟨k',la,nP,me,lR,AT⟩:=h.ud
 refine⟨hs,hk.bz h.bz k',?_,hk.bz h.nH la,?_,hk.bz h.sG me,hk.bT h.rv AT,⟨k',la,nP,me,lR,AT⟩,h.ne,h.xB,?_,h.yy⟩
 ·obtain⟨T,h1,ab⟩:=hk
  exact h.bH.af h1 λk hk aq=>ab k aq (lR k hk)
 ·obtain⟨T,h1,ab⟩:=hk
  exact h1.get h.pm λaq=>ab _ aq nP
 ·obtain⟨T,h1,ab⟩:=hk
  exact h.AS.af h1 λk hk=>by
   rcases Nat.lt_or_ge k 7 with q|q
   ·exact absurd (h.xB k (bM k q)) (ab k hk)
   ·exact q
theorem nN.put{s':lQ}{CZ:List cK}(h:nN H W Y x A m N M q cZ fz X st s ps L)(cT:7<=fz)(ai:Fr [fz] H H')(al:a6 H' ⟨fz,0,none⟩ (ig s'))(aH:bt gf H s'.h.1 s'.h.2.1 s'.h.2.2 CZ)(aa:∀k∈an s'.h.1,X k/\k≠fz/\k≠x):nN H' W Y x A m N M q cZ fz X st s' CZ L:=by
 obtain⟨k',la,nP,me,lR,AT⟩:=h.ud
 obtain⟨cD,cz,ij,nL,n5,n6,n7,n8⟩:=h.ne
 exact⟨h.rz.put ai me h.yy.2,h.bz.af ai (by simpa using cD),h.bH.af ai λk hk aq=>by simp at aq;subst aq;exact nL hk,h.nH.af ai (by simpa using cz),ai.get h.pm (by simpa using ij),al,aH.af ai (fO λk hk aq=>by simp at aq;exact(aa k hk).2.1 aq),⟨k',la,nP,me,lR,λk hk=>(aa k hk).1⟩,⟨cD,cz,ij,nL,λaq=>(aa _ aq).2.1 rfl,n6,n7,λaq=>(aa _ aq).2.2 rfl⟩,h.xB,h.AS.af ai λk hk=>by simp at hk;omega,h.yy⟩
theorem GA{vF d:Addr}{cu:Nat}{Sd:List Nat}{st':ByteArray->aZ.gB}{nx:Nat}{K:U->Prop}(h:nO H X Y vF d cu Sd m N M q cZ st)(aa:bt gf H s.h.1 s.h.2.1 s.h.2.2 ps)(yR:∀k∈an s.h.1,k<H.size)(b9:iz ps nx)(ay:s.next=(nx:Int))(aH:s.past=0)(cx:jL H)(cT:7<=H.size)(aO:q<=100)(cV:M+1<=100)
  (bM:∀t:ByteArray,t.size<=20+15*ps.length->aZ.sy st (aZ.oi st.now gI t)) (hw:∀t:ByteArray,t.size<=20+15*ps.length->aZ.writeS m.size st gI t=(st' t,0))
  (hk:∀(t:ByteArray) H',t.size<=20+15*ps.length->nO H' X Y vF d cu Sd m N (M+1) (q+1) cZ (st' t)->fH X H H'->K H'):
  dQ aa9 [ax (some (ak cZ)),vG s] H K:=by
 apply aa'
 intro b H1 bb
 have al:a6 H1 ⟨b,0,none⟩ (ig s):=bb.bz
 refine⟨_,_,_,_,_,_,_,_,_,al.f' rfl,aba (aa.ag bb.af) (λk hk=>by have:=yR k hk;have:=bb.size;omega) b9 ay aH (cx.ag bb.af) (by have:=bb.size;omega) λt ao aW f2=> ?_⟩
 have j0:=bb.af.aT f2
 have ab:=h.ag (X':=X) j0 λk hk=>.inl hk
 refine⟨0,ab.err,au (λ_=>au (λc=>by simp at c) λ_=> ?_) λc=>by simp at c⟩
 refine Kp ab aO cV (by decide) (λ_=>bM t aW) (hw t aW) λaP ar lb=>⟨rfl,hk t aP aW ar ?_⟩
 obtain⟨T,ca,b0⟩:=lb
 exact⟨T,j0.trans' ca (by simp) λk hk _=>hk,b0⟩
theorem Qs{H:U}{s:lQ}{ps:List cK}{K:Option Addr->Nat->Nat->Int->Int->Bool->Int->Int->Int->Int->U->Prop}(aa:bt gf H s.h.1 s.h.2.1 s.h.2.2 ps)(hle:ps.length<=100)(aH:s.past=0)(hk:∀(s':lQ) H',Fr [] H H'->K s'.h.1 s'.h.2.1 s'.h.2.2 s'.next s'.past false 0 0 0 170 H'):
  aK Qt [vG s,.agg ⟨[o 2,o 0,o 0,o 0]⟩] H λv H'=>∃a n c i j b k l ad e,v=.tuple ⟨[.agg ⟨[.slice a n c,.int .i64 i,.int .i64 j,.bool b,.int .i64 k,.int .i64 l,.int .i64 ad]⟩,.int .i64 e]⟩/\K a n c i j b k l ad e H':=by
 apply Qu
 intro b H1 bb b1 ao bK bI aP bw
 have aL:=bb.eq
 have a':=bK.eq
 have cX:=bw.eq
 have ht:=bb.size
 have z2:=bK.size
 have z3:=bw.size
 have aG:=aa.len
 have f3:=(bb.af.aT bK.af).aT bw.af
 have pL:a6 aP ⟨b,0,none⟩ (ig s):=(bb.bz.ag bK.af).ag bw.af
 have C0:a6 aP ⟨b1,0,none⟩ [.int .i64 2,.int .i64 0,.int .i64 0,.int .i64 0]:=bK.bz.ag bw.af
 have GB:a6 aP ⟨bI,0,none⟩ (ig xh):=bw.bz
 have C1:b1∉[b]:=by simp;omega
 have C2:bI∉[b]:=by simp;omega
 have up:∀{H' dn},Fr [] H H'->Fr [b] H' dn->Fr [] H dn:=λh1 ab=>h1.ag ab λk hk=>by simp at hk;omega
 refine⟨_,_,_,pL.bY rfl,Qv (aa.ag f3) (by omega) λh' a8 gg f4=>Kq (h':=h') (pL.ag f4) λbA yN f5=> ?_⟩
 have eP:=gg.1
 have AU:=(C0.ag f4).af f5 C1
 have Kr:=(GB.ag f4).af f5 C2
 have g5:=up (f3.aT f4) f5
 have lR:bt gf bA h'.1 h'.2.1 h'.2.2 ps:=gg.bT.af f5 (fO λk hk aq=>by simp at aq;have:=(gg.ge k hk).1;omega)
 refine⟨_,_,_,_,_,_,_,_,_,yN.f' rfl,0,AU.cF 1 rfl,tW (s:={s with h:=h'}) lR (by simp only;omega) λct f6=> ?_⟩
 refine su (x:=(fW ps 0).getD (0,0,⟨#[]⟩)) rfl λk7 dx mQ rr f7=> ?_
 have f57:=f6.aT f7
 have tX:=yN.ag f57
 have vH:=AU.ag f57
 have Ks:=Kr.ag f57
 have g7:=g5.aT f57
 refine⟨λae H'=>ae=[.bool false]/\a6 H' ⟨bI,0,none⟩ (ig xh)/\Fr [] H H',⟨2,vH.cF 0 rfl,λ_ _=>False,au (λc=>by simp at c) λ_=>au (λc=>by simp at c) λ_=>au (λc=>by simp at c) λ_=>au (λ_=> ?_) λc=>by simp at c,λ_ _ h=>h.elim⟩,?_⟩
 ·exact⟨0,vH.cF 3 rfl,0,(by rw [<-aH];exact tX.cF 2 rfl),au (λc=>by simp at c) λ_=>⟨0,vH.cF 3 rfl,Qw (s':={s with h:=h',past:=0}) tX (by decide) (by rfl) λeQ xi f8=>⟨rfl,Ks.af f8 C2,up g7 f8⟩⟩⟩
 ·rintro br o4 eQ ⟨e,AV,g8⟩
  simp only [List.cons.injEq,Value.bool.injEq,and_true]at e
  subst e
  refine au (λ_=>yS (s:=xh) AV rfl λcN Kt f9=>⟨_,_,_,_,_,_,_,_,_,Kt.f' rfl,_,_,_,_,_,_,_,_,_,_,rfl,?_⟩) λc=>by cases c
  exact hk xh cN (g8.ag f9 λk hk=>by simp at hk;omega)
end Bt
end Go.Proofs
namespace Go.Proofs.Bt
open aS (bF eG kC dM encS dP cy gP cL h9 iP dr ia hN fs hP)
def jv(l:List (ByteArray×ByteArray))(ps:List cK)(nx:Nat)(d:Int)(data:ByteArray):List (ByteArray×ByteArray):=match fW ps d with
 |some p=>aZ.fx p.2.2 ((c6 nx,data)::aZ.fx (c6 nx) l)
 |none=>(c6 nx,data)::aZ.fx (c6 nx) l
def mf(l:List (ByteArray×ByteArray))(ps:List cK)(d:Int)(data:ByteArray):Prop:=∃p,fW ps d=some p/\aZ.dS l p.2.2=some data
theorem Qx{n:Nat}(h:n<100):aZ.ly (c6 n):=by
 have q:=qC h
 refine⟨λb al=> ?_,by have:=q.hh;omega,by have:=q.s1;omega⟩
 have:=q.ok b al
 unfold aZ.vI
 omega
def Ku(x:Addr)(b kF vJ:Nat)(a:Option Addr)(pQ c:Nat)(n:Int)(M:List Value->U->Prop)(H':U):Prop:=∃Qy ue xj uf ug xk uh ui uj,ah 68 H' (ak kF) (aJ [J Qy ue xj,o uf,o ug,aD xk,o uh,o ui,o uj])/\aK 45 [aJ [J Qy ue xj,o uf,o ug,aD xk,o uh,o ui,o uj],o n] H' λv H'=>∃sH sI s xl,v=a1 [aJ [o sH,o sI,aj s],aD xl]/\∀sJ lz,bm H' sJ [o 0,o 0,aj eh] 122 lz->∃H',bp 122 lz (ak sJ) (aJ [o sH,o sI,aj s]) H'/\∃(Kv:bx),aU xl (∃o5 ot s,ah 122 H' (ak sJ) (aJ [o o5,o ot,aj s])/\aK 75 [o n] H' λv H'=>∃n uk,v=aJ [o n,o uk]/\ah 122 H' (ak sJ) (aJ [o o5,o ot,aj s])/\dy 74 [ax (some x),aJ [o o5,o ot,aj s],J a pQ c,aJ [o n,o uk]] H' λa n c H'=>Kv [J a n c] H') (Kv [b2] H')/\∀(_:F) a o5 c H',Kv [J a o5 c] H'->∃Kw ot AW,Rd azB (Instr.lookup 178 (.map (some b)) (o n) false) H' (J Kw ot AW)/\dy 57 [b2,J a o5 c] H' λa uk c H'=>Rd azB (Instr.lookup 178 (.map (some b)) (o n) false) H' (J Kw ot AW)/\dy 57 [J a uk c,J Kw ot AW] H' λa yT c H'=>dy 71 [J a yT c] H' λa GC c H'=>∃Qz,ah 3 H' (bN sJ 1) (o Qz)/\aK 76 [o Qz,J a GC c] H' λv H'=>∃s Kx,v=a1 [aj s,o Kx]/\∃(QA:bx),aU (Kx !=0) False (QA [aj s,o Kx] H')/\∀(_:F) s n_28 H',QA [aj s,o n_28] H'->∃a,ah 59 H' (Addr.add x 1) (ax a)/\∃nQ,ah 9 H' (bN sJ 2) (aj nQ)/\aK 21 [ax a,aj nQ] H' λv H'=>∃AX b,v=a1 [aj AX,aD b]/\∃QB,ah 3 H' (bN sJ 1) (o QB)/\∀b qD,bm H' b [o 0,o 0,o 0,o 0] 190 qD->∃H',bp 190 qD (ak b) (aJ [o 0,o n,o QB,o 0]) H'/\∃(Ky:bx),(∃(AY:bx),aU xl (AY [aD (AX.toList==s.toList)] H') (AY [aD false] H')/\∀(_:F) b H',AY [aD b] H'->aU b (M [] H') (aU ((GC:Int)==0) (aU (!xl) (M [] H') (aU ((GC:Int)==0) False (Ky [] H'))) (aU ((GC:Int)==0) False (Ky [] H'))))/\∀(_:F) H',Ky [] H'->∃a QC c QD QE QF QG QH QI,ah 68 H' (ak kF) (aJ [J a QC c,o QD,o QE,aD QF,o QG,o QH,o QI])/\∃QJ QK QL QM,ah 190 H' (ak b) (aJ [o QJ,o QK,o QL,o QM])/\aK 77 [aJ [J a QC c,o QD,o QE,aD QF,o QG,o QH,o QI],aJ [o QJ,o QK,o QL,o QM]] H' λv H'=>∃a QN c QO QP b QQ QR QS QT,v=a1 [aJ [J a QN c,o QO,o QP,aD b,o QQ,o QR,o QS],o QT]/\∀C3 QU,bm H' C3 [b2,o 0,o 0,aD false,o 0,o 0,o 0] 68 QU->∃H',bp 68 QU (ak C3) (aJ [J a QN c,o QO,o QP,aD b,o QQ,o QR,o QS]) H'/\∃(AY:bx),aU (n_28 !=0) False (aU (QT !=0) False (AY [] H'))/\∀(_:F) H',AY [] H'->∃a QV c QW QX b QY QZ Q0,ah 68 H' (ak C3) (aJ [J a QV c,o QW,o QX,aD b,o QY,o QZ,o Q0])/\aK 45 [aJ [J a QV c,o QW,o QX,aD b,o QY,o QZ,o Q0],o n] H' λv H'=>∃n Q1 Q2 b,v=a1 [aJ [o n,o Q1,aj Q2],aD b]/\∀Kz Q3,bm H' Kz [o 0,o 0,aj eh] 122 Q3->∃H',bp 122 Q3 (ak Kz) (aJ [o n,o Q1,aj Q2]) H'/\aU b (∃Q4,ah 9 H' (bN Kz 2) (aj Q4)/\dQ 79 [ax (some (ak vJ)),aj Q4,aj s] H' λH'=>aU xl (∃s,ah 9 H' (bN sJ 2) (aj s)/\dQ 80 [ax (some (ak vJ)),aj s] H' λH'=>∃a n c xm xn b xo xp xq,ah 68 H' (ak C3) (aJ [J a n c,o xm,o xn,aD b,o xo,o xp,o xq])/\∃xr,bp 68 H' (ak kF) (aJ [J a n c,o xm,o xn,aD b,o xo,o xp,o xq]) xr/\M [] xr) (∃a n c xm xn b xo xp xq,ah 68 H' (ak C3) (aJ [J a n c,o xm,o xn,aD b,o xo,o xp,o xq])/\∃xr,bp 68 H' (ak kF) (aJ [J a n c,o xm,o xn,aD b,o xo,o xp,o xq]) xr/\M [] xr)) False
theorem Q5{H:U}{W Y:Nat->Prop}{x r:Nat}{A:en}{m:aZ.eX}{N M q cZ fz nx:Nat}{X:Nat->Prop}{l:List (ByteArray×ByteArray)}{s:lQ}{ps:List cK}{L:List bR}{b4 jd:Option Addr}{jM mg cA rc:Nat}{os:List Int}{rs:List dr}{d:Int}{Sd:List bF}{R:List (ByteArray×ByteArray)->Prop}{GD:List Value->U->Prop}
  (F:nN H W Y x A m N M q cZ fz X (hQ l) s ps L) (AZ:∀k,k<7->W k) (abb:¬W fz) (cT:7<=fz) (b9:iz ps nx) (pS:s.next=(nx:Int)) (qE:s.past=0) (nI:0<=d) (rp:d<17179869184)
  (he:bt cH H b4 jM mg os) (abc:jJ os) (au5:jM<=1000) (kk:∀{G:U},Fr [] H G->Rd azB (Instr.lookup 178 (.map (some r)) (.int .i64 d) false) G (.slice jd cA rc)) (qF:bt dP H jd cA rc rs) (pT:cA<=10)
  (C4:cy Sd) (Q6:fW ps d=none->Sd=[]) (bB:∀p,fW ps d=some p->∃t,aZ.dS l p.2.2=some t/\bd t=fs Sd/\hN Sd/\Sd.length<=100/\(∀y∈Sd,y.1∈os)/\(∀y∈Sd,∀z∈y.2,lP (d*100) ((d+1)*100) z=true)/\∀y∈Sd,y.2.length<=100)
  (CP:hN (cL Sd rs)) (xc:(cL Sd rs)≠[]) (CQ:(cL Sd rs).length<=100) (abd:∀y∈cL Sd rs,y.2.length<=100)
  (aO:q+2<=100) (cV:M+2<=100) (cp:aZ.CS m.size R)
  (sK:¬mf l ps d ⟨(fs (cL Sd rs)).toArray⟩->R ((c6 nx,⟨(fs (cL Sd rs)).toArray⟩)::aZ.fx (c6 nx) l)/\R (jv l ps nx d ⟨(fs (cL Sd rs)).toArray⟩)/\nx+1<100)
  (A0:mf l ps d ⟨(fs (cL Sd rs)).toArray⟩->∀jw ao,nN ao W Y x A m N M q cZ fz jw (hQ l) s ps L->fH W H ao->GD [] ao)
  (fA:¬mf l ps d ⟨(fs (cL Sd rs)).toArray⟩->∀M2 b0 jw s2 ao,M2<=M+2->b0<=q+2->nN ao W Y x A m N M2 b0 cZ fz jw (hQ (jv l ps nx d ⟨(fs (cL Sd rs)).toArray⟩)) s2 (gp (d,0,c6 nx) ps) L->s2.next=((nx+1:Nat):Int)->s2.past=0->(∀k∈an s2.h.1,H.size<=k)->fH W H ao->GD [] ao):
  Ku ⟨x,0,none⟩ r fz cZ b4 jM mg d GD H:=by
 unfold Ku
 have j2:=b9.len
 have rA:=F.rv.len
 generalize C5:(⟨(fs (cL Sd rs)).toArray⟩:ByteArray)=data at sK A0 fA⊢
 generalize lS:(fW ps d).getD (0,0,⟨#[]⟩)=ik
 refine⟨_,_,_,_,_,_,_,_,_,F.sG.f' rfl,tW (s:=s) F.rv (by omega) λH1 f1=> ?_⟩
 rw [lS]
 refine su (x:=ik) rfl λrB ao jN sL f2=> ?_
 have g2:=f1.aT f2
 have Q7:ik.2.1=0:=by
  cases e:fW ps d with
  |none=>rw [e]at lS;rw [<-lS];rfl
  |some p=>rw [e]at lS;rw [<-lS];exact(b9.ok p (xt e).1).2.1
 refine⟨λae H'=>match ae with|[.slice a n c]=>∃kept,bt dP H' a n c kept/\gP Sd kept/\n<=1000000/\Fr [] ao H'|_=>False,au (λc=> ?_) (λc=> ?_),?_⟩
 ·obtain⟨p,aH⟩:=aBK.1 c
  have mT:ik=p:=by rw [<-lS,aH];rfl
  subst mT
  obtain⟨t,t1,t2,t3,t4,t5,t6,t7⟩:=bB ik aH
  have Q8:=F.ag g2
  obtain⟨au6,Q9,abe,_⟩:=Q8.rz
  refine⟨ik.1,ik.2.1,ik.2.2,sL.f' rfl,P9 nI rp λaP f3=>⟨(sL.ag f3).f' rfl,?_⟩⟩
  refine PZ (Q8.bz.ag f3) (abe.ag f3) Q7 t1 (by omega) t3 t4 t2 (he.ag (g2.aT f3)) abc (by omega) t5 t6 (λy aA=>ax4 (t7 y aA) (by decide)) λa4 nL c4 a8 rows gg abf cS f4=>⟨rows,gg.bT,abf,by omega,f3.aT f4⟩
 ·have vK:fW ps d=none:=by simpa using c
  rw [Q6 vK]
  exact⟨[],⟨rfl,axx _,.inl rfl⟩,gP.nil,by omega,Fr.refl _ _⟩
 rintro br j4 jf kG aP ⟨kept,AP,yU,eC,f3⟩
 have g3:=g2.aT f3
 have vD:∀{α:Type} {E:di α} {H:U},bt E H none 0 0 []:=⟨rfl,axx _,.inl rfl⟩
 refine⟨jd,cA,rc,kk g3,aS.xe (hs:=[]) (ss:=[]) vD .nil aS.cy.nil AP (by omega) eC (by simp) λa5 n5 c5 bA hs5 fZ jK hq5 f5=>⟨kk (g3.aT f5),?_⟩⟩
 rw [Qd C4 yU]at jK
 have Qb:=fZ.1.trans jK.len
 have abg:Sd.length<=100/\∀y∈Sd,y.2.length<=100:=by
  cases e:fW ps d with
  |none=>rw [Q6 e];simp
  |some p=>obtain⟨t,_,_,_,t4,_,_,t7⟩:=bB p e;exact⟨t4,t7⟩
 have g5:=g3.aT f5
 refine aS.xe fZ.bT jK C4 (qF.ag g5) (by omega) (by omega) (λy aA=>ax4 (abg.2 y aA) (by decide)) λj1 n6 lx ct Gr hf nM Gs f6=> ?_
 have au7:=hf.1.trans nM.len
 refine aS.Gi hf.bT nM CP.right.w (by omega) (λy aA=>ax4 (abd y aA) (by decide)) λke n7 qz dx rows k6 Q' ga f7=> ?_
 have g7:=(g5.aT f6).aT f7
 have f27:=((f3.aT f5).aT f6).aT f7
 have oo:∀{G:U},Fr [] ao G->ah 3 G ⟨rB,1,none⟩ (.int .i64 0):=λai=>by
  have q:ah 3 _ ⟨rB,1,none⟩ (.int .i64 ik.2.1):=(sL.ag ai).cF 1 rfl
  rwa [Q7]at q
 have au8:n7≠0:=λe=>by
  have a':=k6.1
  rw [e]at a'
  have cX:=ayT a'.symm
  subst cX
  obtain⟨y,aA⟩:=aAy _ xc
  obtain⟨z,aE⟩:=aAy _ (CP.right.2 y aA).1
  have:=(Q'.2 (z.1,y.1,z.2)).2 ⟨y,aA,aS.sM.2 ⟨rfl,aE⟩⟩
  cases this
 refine⟨0,oo f27,aaR k6.bT CP Q' (by omega) λeQ f8=> ?_⟩
 rw [C5]
 have f28:=f27.aT f8
 have g8:=g7.aT f8
 refine⟨λae H'=>ae=[.string data,.int .i64 0]/\eQ=H',au (λc=>by simp at c) λ_=>⟨rfl,rfl⟩,?_⟩
 rintro br bL dp _ ⟨e,rfl⟩
 simp only [List.cons.injEq,Value.string.injEq,Value.int.injEq,and_true,true_and]at e
 obtain⟨rfl,rfl⟩:=e
 have Ra:=F.ag g8
 refine⟨_,Ra.bz.fk 1 rfl,ik.2.2,(sL.ag f28).cF 2 rfl,?_⟩
 obtain⟨au9,Q9,abh,_⟩:=Ra.rz
 refine aZ.w9 abh ⟨0,oo f28,?_⟩
 refine iS (v:=.agg ⟨[.int .i64 0,.int .i64 d,.int .i64 0,.int .i64 0]⟩) (by kernel_rfl) (by kernel_rfl) (λv h=>by simp [azI]at h;rcases h with rfl|rfl|rfl|rfl<;>rfl) rfl λhi cN au' abi f9=> ?_
 have abj:a6 cN ⟨hi,0,none⟩ [.int .i64 0,.int .i64 d,.int .i64 0,.int .i64 0]:=abi
 have g9:=g8.aT f9
 have sN:=F.ag g9
 refine⟨λ_ H'=>cN=H'/\¬mf l ps d bL,⟨λae H'=>∃b:Bool,ae=[.bool b]/\cN=H'/\(b=true↔mf l ps d bL),au (λc=>⟨_,rfl,rfl,?_⟩) (λc=>⟨false,rfl,rfl,?_⟩),?_⟩,?_⟩
 ·obtain⟨p,aH⟩:=aBK.1 c
  have mT:ik=p:=by rw [<-lS,aH];rfl
  subst mT
  obtain⟨t,t1,_⟩:=bB ik aH
  have abk:(hQ l).now ik.2.2=some t:=t1
  rw [yV,abk,decide_eq_true_iff]
  constructor
  ·intro e
   exact⟨ik,aH,by rw [t1];exact congrArg some e⟩
  ·rintro⟨p,h1,ab⟩
   rw [aH]at h1;cases h1
   rw [t1]at ab;cases ab;rfl
 ·have vK:fW ps d=none:=by simpa using c
  constructor
  ·intro h;cases h
  ·rintro⟨p,h1,_⟩;rw [vK]at h1;cases h1
 ·rintro br o4 _ ⟨iR,e,rfl,al⟩
  simp only [List.cons.injEq,Value.bool.injEq,and_true]at e
  subst e
  refine au (λc=>A0 (al.1 c) _ _ sN (fH.of g9)) λc=>au (λc=>by simp at c;omega) λ_=>au (λc=>by simp at c;omega) λ_=>⟨rfl,λh=>by rw [al.2 h]at c;cases c⟩
 rintro br _ ⟨rfl,gY⟩
 obtain⟨yW,gC,qG⟩:=sK gY
 have f29:=f28.aT f9
 refine⟨_,_,_,_,_,_,_,_,_,sN.sG.f' rfl,_,_,_,_,abj.f' rfl,abl sN.rv b9 pS qE nI rp sN.AS λs2 hj gh mh rC f10=> ?_⟩
 intro sO jO mi
 have Rb:=mi.eq
 refine yS (s:=s2) mi.bz rfl λmj Rc f12=> ?_
 refine⟨λ_ H'=>mj=H',au (λc=>by simp at c) λ_=>au (λc=>by simp at c) λ_=>rfl,?_⟩
 rintro br _ rfl
 have z2:=g2.size
 have z9:=g9.size
 have z29:=f29.size
 have Re:=f10.size
 have KA:=mi.size
 have z12:=f12.size
 have xu:Fr [] cN mj:=(f10.aT mi.af).ag f12 λk hk=>by simp at hk;omega
 have Rf:bt gf mj s2.h.1 s2.h.2.1 s2.h.2.2 (gp (d,0,c6 nx) ps):=(rC.bT.ag mi.af).af f12 (fO λk hk aq=>by simp at aq;have:=(rC.ge k hk).2;omega)
 have l10:=rC.1
 have ava:=GF (x:=(d,0,c6 nx)) (ps:=ps)
 have GG:fW (gp (d,0,c6 nx) ps) d=some (d,0,c6 nx):=abm b9.d (d,0,c6 nx)
 refine⟨_,_,_,_,_,_,_,_,_,Rc.f' rfl,tW (s:=s2) Rf (by omega) λrD f13=> ?_⟩
 rw [GG]
 refine su (x:=(d,0,c6 nx)) rfl λrE H14 GH abn f14=>au (λ_=>⟨c6 nx,abn.cF 2 rfl,?_⟩) λc=>by cases c
 have C6:=f13.aT f14
 have avb:=C6.size
 have g14:Fr [] H H14:=(g9.aT xu).aT C6
 have yX:=F.ag g14
 have xv:=cp.w l (c6 nx) bL (Qx (by omega)) yW
 refine Kp yX.rz (by omega) (by omega) (by have:=(qC (n:=nx) (by omega)).s1;omega) (λ_=>xv.2) xv.1 λH15 hs15 hk15=> ?_
 have mU:=yX.CY AZ hs15 hk15
 have abo:=F.sG.lt
 have abp:=F.bz.lt
 simp only at abo abp
 have Rg:(λk=>X k\/(H.size<=k/\k<H14.size)) sO:=.inr ⟨by omega,by omega⟩
 have abq:(λk=>X k\/(H.size<=k/\k<H14.size)) rB:=.inr ⟨by have:=f1.size;omega,by have:=sL.lt;simp only at this;omega⟩
 have GI:=hk15.bz (Rc.ag C6) Rg
 have abr:=hk15.bz ((sL.ag f29).ag (xu.aT C6)) abq
 have KB:∀k∈an s2.h.1,(X k\/(H.size<=k/\k<H14.size))/\k≠fz/\k≠x:=λk hk=>by
  have:=rC.ge k hk
  exact⟨.inr ⟨by omega,by omega⟩,by omega,by omega⟩
 have Rh:=hk15.bT (Rf.ag C6) λk hk=>(KB k hk).1
 have fin:∀{M2 b0:Nat} {gA:List (ByteArray×ByteArray)} {G:U},nN G W Y x A m N M2 b0 cZ fz (λk=>X k\/(H.size<=k/\k<H14.size)) (hQ gA) s ps L->a6 G ⟨sO,0,none⟩ (ig s2)->bt gf G s2.h.1 s2.h.2.1 s2.h.2.2 (gp (d,0,c6 nx) ps)->gA=jv l ps nx d bL->M2<=M+2->b0<=q+2->fH W H G->∃a n c xm xn b xo xp xq,ah 68 G ⟨sO,0,none⟩ (.agg ⟨[.slice a n c,.int .i64 xm,.int .i64 xn,.bool b,.int .i64 xo,.int .i64 xp,.int .i64 xq]⟩)/\∃xr,bp 68 G ⟨fz,0,none⟩ (.agg ⟨[.slice a n c,.int .i64 xm,.int .i64 xn,.bool b,.int .i64 xo,.int .i64 xp,.int .i64 xq]⟩) xr/\GD [] xr:=λ{M2 b0 gA G} vL abt abu el xc Gh yY=>by
  subst el
  refine⟨_,_,_,_,_,_,_,_,_,abt.f' rfl,yS (s:=s2) vL.sG rfl λabv abw f24=> ?_⟩
  exact fA gY M2 b0 _ s2 abv xc Gh (vL.put cT f24 abw abu KB) gh mh (λk hk=>by have:=(rC.ge k hk).1;omega) (yY.trans ⟨[fz],f24,λk hk=>by simp at hk;subst hk;exact abb⟩)
 have A1:fH W H H15:=(fH.of g14).trans (hk15.sub yX.xB)
 refine au (λc=> ?_) λc=> ?_
 ·obtain⟨p,aH⟩:=aBK.1 c
  have mT:ik=p:=by rw [<-lS,aH];rfl
  subst mT
  obtain⟨t,t1,_⟩:=bB ik aH
  obtain⟨_,_,fg,ou,vK⟩:=b9.ok ik (xt aH).1
  have cP:ik.2.2≠c6 nx:=λe=>by rw [vK]at e;have:=GJ (by omega) (by omega) e;omega
  have kl:(ik.2.2,t)∈(c6 nx,bL)::aZ.fx (c6 nx) l:=axU _ (ax2.2 ⟨aZ.CR t1,bh cP⟩)
  have Ri:jv l ps nx d bL=aZ.fx ik.2.2 ((c6 nx,bL)::aZ.fx (c6 nx) l):=by unfold jv;rw [aH]
  have Rj:=cp.d ((c6 nx,bL)::aZ.fx (c6 nx) l) ik.2.2 t (by rw [vK];exact Qx (by omega)) kl (by rw [<-Ri];exact gC)
  refine⟨ik.2.2,abr.cF 2 rfl,Rk mU.rz (by omega) (by omega) (by rw [vK];have:=(qC (n:=fg) (by omega)).s1;omega) (by show(aZ.dS _ _).isSome=true;rw [aZ.yQ];exact⟨_,kl,rfl⟩) Rj.2 Rj.1 λKC hs16 hk16=> ?_⟩
  have abx:=mU.CY AZ hs16 hk16
  exact fin abx (hk16.bz GI Rg) (hk16.bT Rh λk hk=>(KB k hk).1) Ri.symm (by omega) (by omega) (A1.trans (hk16.sub mU.xB))
 ·have vK:fW ps d=none:=by simpa using c
  exact fin mU GI Rh (by unfold jv;rw [vK]) (by omega) (by omega) A1
end Go.Proofs.Bt
namespace Go.Proofs.dh
def x5(l:bR):List UInt8:=e6 (qa l)
theorem TN{l:bR}(h:fa l):(x5 l).length<=710:=by
 unfold x5 e6
 have h1:=x6 h
 have ab:(qa l).size=(lW l).length:=fD _
 have:=hD (n:=(qa l).size) (by omega)
 rw [ax6,LZ];omega
def encI(L:List bR):List UInt8:=cn L.length++L.flatMap x5
def tl(L:List bR)(k:Nat):List UInt8:=cn L.length++(L.take k).flatMap x5
theorem afA{L:List bR}{k:Nat}{l:bR}(h:L[k]?=some l):tl L (k+1)=tl L k++x5 l:=by
 unfold tl
 rw [azP,h]
 simp [azf]
theorem afB{L:List bR}{k:Nat}(h:L.length<=k):tl L k=encI L:=by
 unfold tl encI;rw [ayB h]
theorem afC{L:List bR}(h:∀l∈L,fa l):(L.flatMap x5).length<=710*L.length:=by
 induction L with
 |nil=>simp
 |cons l L ih=>
  have h1:=TN (h l (by simp))
  have ab:=ih λm hm=>h m (by simp [hm])
  simp only [List.flatMap_cons,ax6,ayi];omega
theorem afD{L:List bR}(hw:tk L)(k:Nat):(tl L k).length<=300000:=by
 unfold tl
 have h1:=hD (n:=L.length) (by have:=hw.len;omega)
 have ab:=afC (L:=L.take k) λl aG=>hw.dB l (azY aG)
 rw [ayj]at ab
 have:=hw.len
 rw [ax6];omega
theorem afE(L:List bR):tl L 0=cn L.length:=by simp [tl]
theorem A3{H:U}{dE:Nat}{bC:List Nat}{L:List bR}{K:ByteArray->U->Prop}(h:k9 H dE bC L)
  (hk:∀H',Fr [] H H'->K ⟨(encI L).toArray⟩ H'):
  dv afF [ax (some (ak dE))] H K:=by
 apply afG
 obtain⟨hw,a0,fg,c0,hs,ha,eF,eA,eb,aH,BJ⟩:=h
 have e:fg=L.length:=by rw [aH.all.1,aH.mD.1]
 have hlen:=hw.len
 refine⟨_,_,_,(n0 aH).bY rfl,?_⟩
 rw [ix (n:=(fg:Int)) (by omega) (by omega)]
 refine qK (by omega) λH1 cv=> ?_
 have jE:=aH.af cv (by simp)
 refine⟨_,_,_,(n0 jE).bY rfl,?_⟩
 refine⟨λae H'=>match ae with
   |[.string s,.int _ i]=>∃k:Nat,i=k/\k<=fg/\s=⟨(tl L k).toArray⟩/\Fr [] H H'
   |_=>False,
  λae _=>match ae with|[_,.int _ i]=>fg-i.toNat|_=>0,⟨0,rfl,by omega,by rw [afE,e],cv⟩,?_⟩
 rintro br s i ao ⟨k,rfl,hle,rfl,bG⟩
 refine au (λaF=> ?_) (λaF=> ?_)
 ·have b':k<fg:=by simpa using aF
  have cB:hs[k]?=some (hs[k]'(by have:=aH.mD.1;omega)):=by simp
  have kp:L[k]?=some (L[k]'(by omega)):=by simp
  generalize hs[k]'(by have:=aH.mD.1;omega)=aR at cB
  generalize L[k]'(by omega)=l at kp
  have aG:=(aH.mD.2 _ _ _ cB kp).1
  have dj:=hw.dB l (azR kp)
  refine(aH.all.bT.ag bG).get rfl cB (bh (by omega)) λaC b4 av=>⟨_,_,_,Tm av,?_⟩
  refine TO (aG.bT.ag bG) (by have:=aG.1;have:=dj.1;omega) (λh=>absurd dj h) λ_ aP bP=> ?_
  have cT:=x6 dj
  have fi:=fD (lW l)
  refine wj (by omega) λa8 cm=> ?_
  have kn:=fD (tl L k)
  have L0:=fD (e6 (⟨(lW l).toArray⟩:ByteArray))
  have R3:=TN dj
  have xu:(x5 l).length=(e6 (⟨(lW l).toArray⟩:ByteArray)).length:=rfl
  have CT:=afD hw k
  refine cM (bh (by omega)) ⟨⟨k+1,by rw [cE (by omega)],by omega,?_,(bG.aT bP).aT cm⟩,by rw [cE (by omega)];exact dU b'⟩
  rw [tm,afA kp];rfl
 ·rw [afB (by simp at aF;omega)]
  exact⟨_,rfl,hk ao bG⟩
end Go.Proofs.dh
namespace Go.Proofs.Bt
open aS (bF eG kC dM encS dP cy gP cL h9 iP dr ia hN fs hP)
def KD(x:Addr)(kF vJ:Nat)(R:Value->U->Prop)(H':U):Prop:=∃(M:bx),(∃a n c ue uf b ug uh ui,ah 68 H' (ak kF) (aJ [J a n c,o ue,o uf,aD b,o ug,o uh,o ui])/\∃uj,ah 3 H' (Addr.add x 12) (o uj)/\(aK 77 [aJ [J a n c,o ue,o uf,aD b,o ug,o uh,o ui],aJ [o 2,o 0,o 0,o uj]] H' λv H'=>∃a n c sH sI b o5 ot uk yT,v=a1 [aJ [J a n c,o sH,o sI,aD b,o o5,o ot,o uk],o yT]/\∀xk lz,bm H' xk [b2,o 0,o 0,aD false,o 0,o 0,o 0] 68 lz->∃H',bp 68 lz (ak xk) (aJ [J a n c,o sH,o sI,aD b,o o5,o ot,o uk]) H'/\aU (yT==0) False (M [] H'))/\∀xk lz,bm H' xk [b2,o 0,o 0,aD false,o 0,o 0,o 0] 68 lz->ah 3 lz (Addr.add x 12) (o uj)/\ah 68 lz (ak kF) (aJ [J a n c,o ue,o uf,aD b,o ug,o uh,o ui])/\aK 77 [aJ [J a n c,o ue,o uf,aD b,o ug,o uh,o ui],aJ [o 2,o 0,o 0,o uj]] lz λv H'=>∃a n c sH sI b o5 ot uk yT,v=a1 [aJ [J a n c,o sH,o sI,aD b,o o5,o ot,o uk],o yT]/\∃qD,bp 68 H' (ak xk) (aJ [J a n c,o sH,o sI,aD b,o o5,o ot,o uk]) qD/\aU (yT==0) False (M [] qD))/\∀(_:F) H',M [] H'->∃a n c ue uf b ug uh ui,ah 68 H' (ak kF) (aJ [J a n c,o ue,o uf,aD b,o ug,o uh,o ui])/\dQ 81 [ax (some (ak vJ)),aJ [J a n c,o ue,o uf,aD b,o ug,o uh,o ui]] H' λH'=>∃a,ah 62 H' (Addr.add x 2) (ax a)/\dv 82 [ax a] H' λs H'=>dQ 79 [ax (some (ak vJ)),aj ⟨#[105,110,100,101,120]⟩,aj s] H' λH'=>dQ 80 [ax (some (ak vJ)),aj ⟨#[119,97,108]⟩] H' λH'=>∃n,ah 33 H' (bN vJ 1) (o n)/\aU (n !=0) False (∃a n c uj sH b sI o5 ot,ah 68 H' (ak kF) (aJ [J a n c,o uj,o sH,aD b,o sI,o o5,o ot])/\∃lz,bp 68 H' (Addr.add x 3) (aJ [J a n c,o uj,o sH,aD b,o sI,o o5,o ot]) lz/\∃H',bp 52 lz (Addr.add x 10) (b2) H'/\∃qD,bp 69 H' (Addr.add x 11) (b2) qD/\∃b,ah 4 qD (bN kF 3) (aD b)/\aU (!b) (∃H',bp 70 qD (Addr.add x 14) (ax none) H'/\R (o 0) H') False)
def nR(l:List (ByteArray×ByteArray))(t i:ByteArray):List (ByteArray×ByteArray):=aZ.fx ei ((jx,i)::aZ.fx jx ((gI,t)::aZ.fx gI l))
variable{H:U}{x n nx:Nat}{d sz:Int}{X:Nat->Prop}
theorem aby{W Y:Nat->Prop}{A:en}{m:aZ.eX}{N M q cZ fz:Nat}{l:List (ByteArray×ByteArray)}{s:lQ}{ps:List cK}{L:List bR}{R:List (ByteArray×ByteArray)->Prop}{K:Value->U->Prop}
  (F:nN H W Y x A m N M q cZ fz X (hQ l) s ps L) (AZ:∀k,k<7->W k) (abz:¬W x) (KE:x∉A.bC) (CO:7<=x) (yR:∀k∈an s.h.1,k<H.size) (hH:7<=H.size) (b9:iz ps nx) (pS:s.next=(nx:Int)) (qE:s.past=0) (aO:q+3<=100) (cV:M+3<=100) (cp:aZ.CS m.size R)
  (KF:∃w,(ei,w)∈l)
  (aB:∀t:ByteArray,t.size<=20+15*ps.length->R ((gI,t)::aZ.fx gI l)/\R ((jx,⟨(dh.encI L).toArray⟩)::aZ.fx jx ((gI,t)::aZ.fx gI l))/\R (nR l t ⟨(dh.encI L).toArray⟩))
  (hk:∀(t:ByteArray) jw H',t.size<=20+15*ps.length->a6 H' ⟨x,0,none⟩ (o0 {A with gb:=s.h,bW:=(none,0,0),nx:=nx})->nO H' jw Y A.s A.d A.cu A.Sd m N (M+3) (q+3) cZ (hQ (nR l t ⟨(dh.encI L).toArray⟩))->dh.k9 H' A.dE A.bC L->bt gf H' s.h.1 s.h.2.1 s.h.2.2 ps->a6 H' ⟨A.p,0,none⟩ [.map (some A.ds)]->H'[A.ds]?=some (.map ⟨[]⟩ 0)->jL H'->fH W H H'->K (.int .i64 0) H'):
  KD ⟨x,0,none⟩ fz cZ K H:=by
 unfold KD
 have j2:=b9.len
 refine⟨λ_ H'=>∃X,nN H' W Y x A m N M q cZ fz X (hQ l) s ps L/\Fr [] H H',⟨_,_,_,_,_,_,_,_,_,F.sG.f' rfl,0,F.bz.fk 12 rfl,?_,λjy jO mi=> ?_⟩,?_⟩
 ·refine Qs F.rv (by omega) qE λs2 jO f11 jy mj xw=>yS (s:=s2) xw.bz rfl λrD abA f13=>au (λc=>by simp at c) λ_=> ?_
  have g:Fr [] H rD:=(f11.aT xw.af).ag f13 λk hk=>by simp at hk;have:=xw.eq;have:=f11.size;omega
  exact⟨_,F.ag g,g⟩
 ·have KG:=F.ag mi.af
  refine⟨KG.bz.fk 12 rfl,KG.sG.f' rfl,Qs KG.rv (by omega) qE λs2 mj f12=>yS (s:=s2) (mi.bz.ag f12) rfl λrD abA f13=>au (λc=>by simp at c) λ_=> ?_⟩
  have g:Fr [] H rD:=(mi.af.aT f12).ag f13 λk hk=>by simp at hk;have:=mi.eq;omega
  exact⟨_,F.ag g,g⟩
 rintro br jO ⟨X,F,g11⟩
 have KA:=g11.size
 have A2:fH W H jO:=fH.of g11
 refine⟨_,_,_,_,_,_,_,_,_,F.sG.f' rfl,GA (st':=λt=>hQ ((gI,t)::aZ.fx gI l)) F.rz F.rv (λk hk=>by have:=yR k hk;omega) b9 pS qE F.AS (by omega) (by omega) (by omega) (λt aW=>(cp.w l gI t (by decide) (aB t aW).1).2) (λt aW=>(cp.w l gI t (by decide) (aB t aW).1).1) λt mj aW abB Rl=> ?_⟩
 obtain⟨yW,gC,KH⟩:=aB t aW
 have KI:=F.CY AZ abB Rl
 refine⟨_,KI.bz.fk 2 rfl,dh.A3 KI.bH λrD f13=> ?_⟩
 have KJ:=KI.ag f13
 generalize hu:(⟨(dh.encI L).toArray⟩:ByteArray)=u at gC KH hk⊢
 have Rm:=cp.w ((gI,t)::aZ.fx gI l) jx u (by decide) gC
 refine Kp (name:=jx) KJ.rz (by omega) (by omega) (by decide) (λ_=>Rm.2) Rm.1 λH14 GK hk14=> ?_
 have yX:=KJ.CY AZ GK hk14
 obtain⟨w,hw⟩:=KF
 have kl:(ei,w)∈(jx,u)::aZ.fx jx ((gI,t)::aZ.fx gI l):=axU _ (ax2.2 ⟨axU _ (ax2.2 ⟨hw,bh (show ei≠gI by decide)⟩),bh (show ei≠jx by decide)⟩)
 have Rn:=cp.d ((jx,u)::aZ.fx jx ((gI,t)::aZ.fx gI l)) ei w (by decide) kl KH
 refine Rk yX.rz (by omega) (by omega) (by decide) (by show(aZ.dS _ _).isSome=true;rw [aZ.yQ];exact⟨_,kl,rfl⟩) Rn.2 Rn.1 λH15 hs15 hk15=> ?_
 have mU:=yX.CY AZ hs15 hk15
 have A1:fH W H H15:=((((A2.trans (Rl.sub F.xB)).trans (fH.of f13)).trans (hk14.sub KJ.xB)).trans (hk15.sub yX.xB))
 refine⟨0,mU.rz.err,au (λc=>by simp at c) λ_=>⟨_,_,_,_,_,_,_,_,_,mU.sG.f' rfl,?_⟩⟩
 obtain⟨k',la,nP,me,lR,AT⟩:=mU.ud
 obtain⟨cD,cz,ij,nL,n5,n6,n7,n8⟩:=mU.ne
 refine a6.st (a:=⟨x,0,none⟩) (j:=3) (v:=vG s) mU.bz (by kernel_rfl) (by kernel_rfl) (λv h=>by simp [azI]at h;rcases h with rfl|rfl|rfl|rfl|rfl<;>rfl) (by simp [azI,o0]) λKC abC f16=> ?_
 refine a6.st (a:=⟨x,0,none⟩) (j:=10) (v:=.slice none 0 0) abC (by kernel_rfl) (by kernel_rfl) (pM rfl) (by simp [azI,o0]) λH17 hb17 f17=> ?_
 refine a6.st (a:=⟨x,0,none⟩) (j:=11) (v:=.slice none 0 0) hb17 (by kernel_rfl) (by kernel_rfl) (pM rfl) (by simp [azI,o0]) λH18 hb18 f18=> ?_
 have g18:Fr [x] H15 H18:=(f16.trans' f17 (λk hk _=>hk) λk hk _=>hk).trans' f18 (λk hk _=>hk) λk hk _=>hk
 refine⟨false,(mU.sG.af g18 (by simp;omega)).cF 3 rfl,au (λ_=> ?_) λc=>by cases c⟩
 refine a6.st (a:=⟨x,0,none⟩) (j:=14) (v:=.pointer none) hb18 (by kernel_rfl) (by kernel_rfl) (pM rfl) (by simp [azI,o0]) λH19 hb19 f19=> ?_
 have g19:Fr [x] H15 H19:=g18.trans' f19 (λk hk _=>hk) λk hk _=>hk
 refine hk t _ H19 aW ?_ (mU.rz.put g19 k' mU.yy.1) (mU.bH.af g19 λe7 qH aq=>by simp at aq;rw [aq]at qH;exact KE qH) (mU.rv.af g19 (fO λi az aq=>by simp at aq;rw [aq]at az;exact n8 az)) (mU.nH.af g19 (by simpa using n6)) (g19.get mU.pm (by simpa using n7)) (mU.AS.af g19 λe7 qH=>by simp at qH;omega) (A1.trans ⟨[x],g19,λe7 qH=>by simp at qH;rw [qH];exact abz⟩)
 have:ig s=[.slice s.h.1 s.h.2.1 s.h.2.2,.int .i64 nx,.int .i64 0,.bool false,.int .i64 0,.int .i64 0,.int .i64 0]:=by
  show([.slice s.h.1 s.h.2.1 s.h.2.2,.int .i64 s.next,.int .i64 s.past,.bool false,.int .i64 0,.int .i64 0,.int .i64 0]:List Value)=_
  rw [pS,qE]
 simpa [azI,o0,this,pS,qE]using hb19
open aS (bF eG kC dM encS dP cy gP cL h9 iP dr ia hN fs hP eK)
theorem GL{ps:List cK}:fW ps d=none↔∀p∈ps,p.1≠d:=by
 unfold fW
 rw [List.find?_eq_none]
 constructor
 ·intro h p aH e;exact h p aH (by simpa using e)
 ·intro h p aH e;exact h p aH (by simpa using e)
theorem abD{ps:List cK}{x:cK}(h:vM ps)(aR:d≠x.1):fW (gp x ps) d=fW ps d:=by
 cases e:fW ps d with
 |none=>
  rw [GL]at e⊢
  intro p aH
  rcases xx aH with rfl|⟨q,_⟩
  ·exact λe=>aR e.symm
  ·exact e p q
 |some p=>
  obtain⟨h1,ab⟩:=xt e
  subst ab
  exact C7 (C8 h) (GM h1 aR)
theorem iz.set{ps:List cK}(h:iz ps nx)(aF:0<=d)(h1:d<17179869184)(ay:nx+1<100)(aG:(gp (d,0,c6 nx) ps).length<=60):iz (gp (d,0,c6 nx) ps) (nx+1) where
 d:=C8 h.d
 ok:=λp aH=>by
  rcases xx aH with rfl|⟨q,_⟩
  ·exact⟨⟨aF,h1⟩,rfl,nx,by omega,rfl⟩
  ·obtain⟨a,b,n,c,e⟩:=h.ok p q
   exact⟨a,b,n,by omega,e⟩
 fL:=by
  have aR:=C8 (x:=(d,0,c6 nx)) h.d
  rw [azX,az5]
  refine List.Pairwise.imp_of_mem ?_ aR
  intro p q aH aO bQ e
  have inj:∀{p q:cK},p∈ps->q∈ps->p.2.2=q.2.2->p=q:=λaH aO e=>Gx h.fL aH aO e
  have gi:∀{p:cK},p∈ps->p.2.2≠c6 nx:=λaH e=>by
   obtain⟨_,_,n,c,a'⟩:=h.ok _ aH
   rw [a']at e
   have:=h.nx
   have:=GJ (by omega) (by omega) e;omega
  rcases xx aH with rfl|⟨ca,_⟩
  ·rcases xx aO with rfl|⟨b0,_⟩
   ·exact absurd bQ (Int.lt_irrefl _)
   ·exact gi b0 e.symm
  ·rcases xx aO with rfl|⟨b0,_⟩
   ·exact gi ca e
   ·have:=inj ca b0 e
    subst this;exact absurd bQ (Int.lt_irrefl _)
 nx:=ay
 len:=aG
theorem yZ(k v:ByteArray)(l:List (ByteArray×ByteArray))(y:ByteArray):aZ.dS ((k,v)::aZ.fx k l) y=if y=k then some v else aZ.dS l y:=by
 rw [<-aZ.Gg];rfl
theorem Ro{l:List (ByteArray×ByteArray)}{ps:List cK}{data:ByteArray}(h:iz ps nx){p:cK}(aH:p∈ps)(aR:p.1≠d):aZ.dS (jv l ps nx d data) p.2.2=aZ.dS l p.2.2:=by
 obtain⟨_,_,n,c,a'⟩:=h.ok _ aH
 have qG:=h.nx
 have cP:p.2.2≠c6 nx:=λe=>by
  rw [a']at e
  have:=GJ (by omega) (by omega) e;omega
 unfold jv
 cases e:fW ps d with
 |none=>simp only;rw [yZ,if_neg cP]
 |some q=>
  simp only
  obtain⟨h1,ab⟩:=xt e
  have:p.2.2≠q.2.2:=λe=>by have:=Gx h.fL aH h1 e;subst this;exact aR ab
  rw [aZ.AF,if_neg this,yZ,if_neg cP]
theorem abE{l:List (ByteArray×ByteArray)}{ps:List cK}{data:ByteArray}(h:iz ps nx):aZ.dS (jv l ps nx d data) (c6 nx)=some data:=by
 have qG:=h.nx
 unfold jv
 cases e:fW ps d with
 |none=>simp only;rw [yZ,if_pos rfl]
 |some q=>
  simp only
  obtain⟨h1,ab⟩:=xt e
  obtain⟨_,_,n,c,a'⟩:=h.ok _ h1
  have cP:c6 nx≠q.2.2:=λe=>by
   rw [a']at e
   have:=GJ (by omega) (by omega) e;omega
  rw [aZ.AF,if_neg cP,yZ,if_pos rfl]
theorem C9(h:n<100){k:ByteArray}(hk:k.data.toList.head?≠some 102):c6 n≠k:=λe=>hk (by rw [<-e];exact(qC h).aR)
theorem abF{l:List (ByteArray×ByteArray)}{ps:List cK}{data k w:ByteArray}(h:iz ps nx)(hk:k.data.toList.head?≠some 102)(hm:(k,w)∈l):(k,w)∈jv l ps nx d data:=by
 have qG:=h.nx
 have h1:(k,w)∈(c6 nx,data)::aZ.fx (c6 nx) l:=axU _ (ax2.2 ⟨hm,bh λe=>C9 qG hk e.symm⟩)
 unfold jv
 cases e:fW ps d with
 |none=>exact h1
 |some q=>
  obtain⟨_,_,n,c,a'⟩:=h.ok _ (xt e).1
  exact ax2.2 ⟨h1,bh λe=>C9 (n:=n) (by omega) hk (by rw [<-a'];exact e.symm)⟩
open aS (bF eG kC dM encS dP cy vP gP cL h9 iP dr ia hN fs hP eK)
def nS(n:Nat):List Int:=(List.range n).map λi:Nat=>(i:Int)
theorem Da(n:Nat):jJ (nS n):=by
 unfold nS
 refine az5.2 ((List.pairwise_lt_range (n:=n)).imp λ{a b} h=> ?_)
 omega
theorem GO{i:Int}(aF:0<=i)(h1:i<n):i∈nS n:=ayf.2 ⟨i.toNat,List.mem_range.2 (by omega),Int.toNat_of_nonneg aF⟩
theorem abK(n:Nat):nS (n+1)=nS n++[(n:Int)]:=by unfold nS;rw [List.range_succ,azj];rfl
theorem abL{id t v:Int}{rws:List dr}(h:gP [(id,[(t,v)])] rws):rws=[(t,id,v)]:=
 aS.KM h.1 (aS.kh.cons.2 ⟨by simp,aS.kh.nil⟩) λx=>by
  rw [h.2]
  simp only [ayw,exists_eq_left]
  unfold hP
  simp
theorem abM{M:List bF}(h:cy M)(aR:∀id t v,aS.fV M id t=some v->azE t 100≠d):ep M d=[]:=
 aS.A4 (rm h d) cy.nil λid t=>by
  rw [vO h]
  split
  ·rename_i e
   cases aI:aS.fV M id t with
   |none=>rfl
   |some v=>exact absurd e (aR id t v aI)
  ·rfl
theorem abN{M:List bF}(h:∀s∈M,s.2.length<=n):∀y∈ep M d,y.2.length<=n:=λy aA=>by
 unfold ep o1 at aA
 obtain⟨s,hs,rfl⟩:=ayf.1 (ax2.1 aA).1
 exact ax4 (aAm _ _) (h s hs)
theorem Rs{M:List bF}(h:cy M)(r:dr):eK M r≠[]:=λe=>by
 have:=(aS.um (x:=r) h).2 r.2.1 r.1
 rw [e,if_pos ⟨rfl,rfl⟩]at this
 cases this
structure KN(cN:U)(W Y:Nat->Prop)(x:Nat)(A:en)(fz cZ:Nat)(L:List bR)(l:List (ByteArray×ByteArray))(d0:Int)(data:ByteArray)(D:List Int)(k:Nat)(H:U):Prop where
 ex:∃Z M2 b0 s2 gA ov,∃rF:Nat,nN H W Y x A A.m A.N M2 b0 cZ fz Z (hQ gA) s2 ov L/\s2.next=(rF:Int)/\s2.past=0/\fH W cN H/\(((d0∉D.take k\/mf l A.ps d0 data)/\gA=l/\ov=A.ps/\rF=A.nx/\M2=A.M/\b0=0/\s2.h=A.gb)\/(d0∈D.take k/\¬mf l A.ps d0 data/\gA=jv l A.ps A.nx d0 data/\ov=gp (d0,0,c6 A.nx) A.ps/\rF=A.nx+1/\M2<=A.M+2/\b0<=2/\∀k∈an s2.h.1,cN.size<=k))
theorem abO{N:Nat}{A:en}{db:ey}{M:List bF}{l:List (ByteArray×ByteArray)}{id t v:Int}{R:List (ByteArray×ByteArray)->Prop}{data:ByteArray}{K:Int->U->Prop}
  (h:fN H X x A db) (bV:Gk M N db A) (fl:N<=10000) (cx:jL H) (cT:∀k,k<7->X k) (dW:db.st=hQ l) (cp:aZ.CS A.m.size R) (vA:db.ss=[(id,[(t,v)])]) (A7:0<=t) (abP:t<1099511627776) (avc:A.M<=90) (bZ:db.L.length<=200)
  (hid:∀s∈M,s.1<db.L.length) (abQ:∀s∈M,s.2.length<=100) (cP:∀p∈A.ps,ep M p.1≠[])
  (pU:hN (eK (ep M (azE t 100)) (t,id,v))/\(eK (ep M (azE t 100)) (t,id,v)).length<=100/\∀y∈eK (ep M (azE t 100)) (t,id,v),y.2.length<=100)
  (A8:(⟨(fs (eK (ep M (azE t 100)) (t,id,v))).toArray⟩:ByteArray)=data)
  (sK:¬mf l A.ps (azE t 100) data->R ((c6 A.nx,data)::aZ.fx (c6 A.nx) l)/\R (jv l A.ps A.nx (azE t 100) data)/\A.nx+1<100/\(gp (azE t 100,0,c6 A.nx) A.ps).length<=60)
  (KF:∃w,(ei,w)∈l)
  (aB:∀fJ iB,(mf l A.ps (azE t 100) data/\fJ=l/\iB=A.ps)\/(¬mf l A.ps (azE t 100) data/\fJ=jv l A.ps A.nx (azE t 100) data/\iB=gp (azE t 100,0,c6 A.nx) A.ps)->∀u:ByteArray,u.size<=20+15*iB.length->R ((gI,u)::aZ.fx gI fJ)/\R ((jx,⟨(dh.encI db.L).toArray⟩)::aZ.fx jx ((gI,u)::aZ.fx gI fJ))/\R (nR fJ u ⟨(dh.encI db.L).toArray⟩))
  (hk:∀fJ iB qI u dG H',(mf l A.ps (azE t 100) data/\fJ=l/\iB=A.ps/\qI=A.nx)\/(¬mf l A.ps (azE t 100) data/\fJ=jv l A.ps A.nx (azE t 100) data/\iB=gp (azE t 100,0,c6 A.nx) A.ps/\qI=A.nx+1)->u.size<=20+15*iB.length->dG.ps=iB->dG.nx=qI->dG.m=A.m->dG.M<=(nR fJ u ⟨(dh.encI db.L).toArray⟩).length->fN H' X x dG {db with ss:=[],st:=hQ (nR fJ u ⟨(dh.encI db.L).toArray⟩)}->jL H'->fH (λk=>k<H.size/\k≠A.s.block/\k≠x) H H'->K 0 H'):
  cG Rt [ax (some (ak x))] H K:=by
 apply abR
 have o8:=h.base
 generalize nI:azE t 100=d0 at *
 have avd:d0=t/100:=by rw [<-nI,aBI A7]
 have Ru:0<=d0:=by omega
 have Rv:d0<17179869184:=by omega
 intro r H1 bb
 have mV:=bb.eq
 have ht:=bb.size
 have d1:=h.ag bb.af
 have eo:A.hs.length=1:=by have:=d1.kE.len;rw [vA]at this;simpa using this
 have qF:=d1.rs
 rw [vA]at qF
 have Db:=d1.kE
 rw [vA]at Db
 refine⟨_,_,_,d1.bz.fk 10 rfl,?_⟩
 refine aS.Gi d1.aR Db ⟨qF.1,λs hs=>(qF.2 s hs).2⟩ (by have:=d1.aR.len;omega) (by simp) λa n c ao rws aw mP ay f2=> ?_
 obtain rfl:=abL mP
 have jM:n=1:=aw.1
 subst jM
 have z2:=f2.size
 have gC:r<ao.size:=by omega
 have m2:dN aS.du ao r 0 []:=(dN.new aS.du bb).ag aS.du f2
 refine⟨Qm r ao d0 (t,id,v),CU,⟨Fr.refl _ _,.inl ⟨rfl,m2⟩⟩,?_⟩
 rintro br i aP ⟨f3,az⟩
 refine au (λc=> ?_) λc=> ?_
 ·obtain⟨rfl,rG⟩:i=0/\dN aS.du aP r 0 []:=by
   rcases az with h|h
   ·exact h
   ·rw [h.1]at c;simp at c
  refine(aw.bT.af f3 (fO λk hk aq=>by simp at aq;have:=(aw.ge k hk).1;omega)).get (k:=0) rfl rfl (by kernel_rfl) λaC b4 av=>⟨_,_,_,aS.sw av,?_⟩
  refine aS.Rw (x:=(t,id,v)) rfl λb a8 al bM f4=> ?_
  have ju:∀{G},Fr [] a8 G->ah 3 G ⟨b,0,none⟩ (.int .i64 t):=λai=>(bM.ag ai).cF 0 rfl
  have KO:∀{G},Fr [] a8 G->ah 103 G ⟨b,0,none⟩ (.agg ⟨[.int .i64 t,.int .i64 id,.int .i64 v]⟩):=λai=>(bM.ag ai).f' rfl
  have kk:∀{G},Fr [] a8 G->Rd azB (Instr.lookup 178 (.map (some r)) (.int .i64 d0) false) G (.slice none 0 0):=λai=>sQ (T:=aS.du) (mt:=178) (e:=82) aBG z82 (rG.ag aS.du (f4.aT ai)) d0
  have nT:=Fr.refl [] a8
  have s1:∀{G A9:U} {bI:Nat},dV G bI (.cells ⟨[.int .i64 t,.int .i64 id,.int .i64 v]⟩ 103) A9->bt dP A9 (some ⟨bI,0,none⟩) 1 1 [(t,id,v)]:=λay=>fy dP (t,id,v) ay rfl
  have Dc:∀{G:U} {K:Int->U->Prop},K d0 G->cG Ql [o t] G K:=λhk=>aa2 A7 abP (by rw [nI];exact hk)
  refine⟨t,ju nT,t,ju nT,t,id,v,KO nT,Dc ⟨KO nT,ju nT,Dc ⟨KO nT,_,_,_,kk nT,λbI bA gH=>⟨kk gH.af,Km f3 gC rG (f4.aT gH.af) (s1 gH)⟩⟩,λbI bA gH=>⟨ju gH.af,Dc ⟨_,_,_,kk gH.af,Km f3 gC rG (f4.aT gH.af) (s1 gH)⟩⟩⟩,λbI bA gH=>⟨ju gH.af,ju gH.af,Dc ⟨ju gH.af,Dc ⟨_,_,_,kk gH.af,Km f3 gC rG (f4.aT gH.af) (s1 gH)⟩⟩⟩⟩
 obtain⟨jd,rc,m3,abS,Dd⟩:∃a c,dN aS.du aP r 1 [(d0,.slice a 1 c,0)]/\bt dP aP a 1 c [(t,id,v)]/\∀k∈an a,ao.size<=k/\k<aP.size:=by
  rcases az with h|h
  ·rw [h.1]at c;simp at c
  ·exact h.2
 have kD:Fr [] H aP:=(bb.af.aT f2).ag f3 λk hk=>by simp at hk;omega
 have z3:=f3.size
 have d3:=h.ag kD
 have j2:=d3.om.len
 have ave:=bV.ps.len
 refine⟨_,_,_,d3.bz.fk 3 rfl,λae H'=>match ae with|[.int _ i]=>∃(k ck:Nat) (L:List (cR Int)),i=k/\k<=A.gb.2.1/\dN aS.du H' r ck L/\ry L d0 jd rc (A.ps.take k)/\L.length<=1+k/\Fr [r] aP H'|_=>False,λae _=>match ae with|[.int _ i]=>A.gb.2.1-i.toNat|_=>0,⟨0,1,_,rfl,by omega,m3,ry.one,by simp,Fr.refl _ _⟩,?_⟩
 rintro br cI a8 ⟨k,ck,De,rfl,eC,m4,A',avf,f4⟩
 have z4:=f4.size
 have kH:Fr [] H a8:=kD.ag f4 λk hk=>by simp at hk;omega
 refine au (λc=> ?_) λc=> ?_
 ·have bg:k<A.gb.2.1:=by simpa using c
  obtain⟨y,aA⟩:=fM (l:=A.ps) (i:=k) (by omega)
  have mO:A.ps.take (k+1)=A.ps.take k++[y]:=by rw [azP,aA];rfl
  rw [cE (by omega)]
  refine(h.om.ag kH).get rfl aA (bh (by omega)) λaC b4 av=>⟨_,_,_,vB av,?_⟩
  refine su (x:=y) rfl λb bA al bM f5=>⟨_,bM.bY rfl,?_⟩
  have m5:=m4.ag aS.du f5
  have kk:=Dg (T:=aS.du) (mt:=178) (e:=82) aBG z82 m5 y.1
  have abT:=A' y.1
  obtain⟨aV,bn,lT,KP⟩:∃a n c,(dm y.1 De).getD (.slice none 0 0)=.slice a n c:=by
   rw [abT];split
   ·exact⟨_,_,_,rfl⟩
   ·split<;>exact⟨_,_,_,rfl⟩
  rw [KP]at kk
  refine⟨aV,bn,lT,_,kk,au (λc=>⟨_,bM.bY rfl,t' (T:=aS.du) (mt:=178) (e:=82) aBG m5 y.1 λct m6 f6=> ?_⟩) λc=> ?_⟩
  ·have KQ:dm y.1 De=none:=by simpa using c
   refine⟨⟨k+1,_,_,rfl,by omega,m6,by rw [mO];exact A'.put KQ,?_,(f4.trans' f5 (λk hk _=>hk) (by simp)).trans' f6 (λk hk _=>hk) λk hk _=>hk⟩,dU bg⟩
   have:=aZ.Rx y.1 b2 ck De;omega
  ·refine⟨⟨k+1,_,_,rfl,by omega,m5,by rw [mO];exact A'.same (by simpa [Option.isSome_iff_ne_none]using c),by omega,f4.trans' f5 (λk hk _=>hk) (by simp)⟩,dU bg⟩
 have gR:k=A.gb.2.1:=by simp at c;omega
 have GP:A.ps.take k=A.ps:=ayB (by omega)
 rw [GP]at A'
 refine aa6 m4 (by omega) λy2 ow Ba bA D xy hDn hDm Ry f5=> ?_
 have GQ:∀d,d∈D↔d=d0\/d∈A.ps.map (·.1):=λd=>by rw [hDm,A'.key]
 have avg:D.length<=61:=by
  have:=aZ.AG (λ_:Int=>1) (a:=D) (b:=d0::A.ps.map (·.1)) hDn λx aa=>by
   rcases(GQ x).1 aa with e|e
   ·simp [e]
   ·exact axU _ e
  have e:∀l:List Int,(l.map λ_=>1).sum=l.length:=λl=>by
   induction l with
   |nil=>rfl
   |cons x l ih=>simp [ih];omega
  rw [e,e,ayi,azU]at this;omega
 have avh:=xy.len
 have qJ:=kH.aT f5
 have z5:=f5.size
 have d5:=h.ag qJ
 refine⟨_,d5.bz.fk 2 rfl,dh.y3 d5.bH ?_⟩
 refine⟨λae H'=>match ae with|[.slice a n c,.int _ i]=>∃k:Nat,i=k/\k<=db.L.length/\Own cH 3 bA.size H' a n c (nS k)/\Fr [] bA H'|_=>False,λae _=>match ae with|[_,.int _ i]=>db.L.length-i.toNat|_=>0,⟨0,rfl,by omega,Own.nil _ _ _ _,Fr.refl _ _⟩,?_⟩
 rintro br b4 abU mg i ct ⟨y4,rfl,avi,hf,f6⟩
 have vz:=f6.size
 have avj:=hf.1
 have ea:(nS y4).length=y4:=by unfold nS;simp
 refine au (λc rq dx ga=> ?_) λc=> ?_
 ·have bg:y4<db.L.length:=by simpa using c
  refine ic (t:=3) (E:=cH) (bytes:=8) (by kernel_rfl) (by kernel_rfl) (hf.ag ga.af) (fy cH (y4:Int) ga rfl) (by have:=ga.size;omega) (by omega) λa n c eQ jt f8 _=> ?_
  rw [cE (by omega)]
  exact⟨⟨y4+1,rfl,by omega,by rw [abK];exact jt,(f6.aT ga.af).ag f8 λk hk=>(hf.ge k hk).1⟩,dU bg⟩
 have abV:y4=db.L.length:=by simp at c;omega
 have Bb:=qJ.aT f6
 have d6:=h.ag Bb
 refine⟨_,_,_,_,_,_,_,_,_,d6.bz.Rz (j:=3) (by kernel_rfl) (by kernel_rfl) rfl,?_⟩
 intro fz dx ga
 have avk:=ga.eq
 have xf:=ga.size
 obtain⟨hh,hx⟩:∃hh:lQ,hh=⟨A.gb,(A.nx:Int),0⟩:=⟨_,rfl⟩
 have Dh:hh.h=A.gb:=by rw [hx]
 refine yS (s:=⟨A.gb,(A.nx:Int),0⟩) ga.bz rfl λeQ uo f8=> ?_
 rw [<-hx]at uo
 have RA:Fr [] H eQ:=(Bb.aT ga.af).ag f8 λk hk=>by simp at hk;have:=Bb.size;omega
 have d8:=h.ag RA
 refine⟨_,d8.bz.fk 1 rfl,λcZ cN fC=> ?_⟩
 have avl:=fC.eq
 have KR:=f8.size
 have z9:=fC.size
 have KS:=RA.aT fC.af
 have d9:=h.ag KS
 have avm:=Bb.size
 have sp:=h.sep
 have i0:=sp.jz (i:=0) rfl
 have i1:=sp.jz (i:=1) rfl
 have i2:=sp.jz (i:=2) rfl
 have i3:=sp.jz (i:=3) rfl
 have i5:=sp.jz (i:=5) rfl
 have avn:x<H.size:=i0 x (by simp)
 have avo:A.p<H.size:=i5 A.p (by simp)
 have avp:A.ds<H.size:=i5 A.ds (by simp)
 have avq:A.s.block<H.size:=i1 _ (by simp)
 have KT:∀{k:Nat},X k->k<H.size:=λhk=>h.base _ hk
 have n10:∀k∈A.s.block::A.cA::A.cu::A.Sd,k≠x:=λk hk e=>sp.ne (i:=1) (j:=0) (by decide) rfl rfl hk (by simp [e])
 have n12:∀k∈A.s.block::A.cA::A.cu::A.Sd,k∉A.bC:=λk hk e=>sp.ne (i:=1) (j:=2) (by decide) rfl rfl hk e
 have n13:∀k∈A.s.block::A.cA::A.cu::A.Sd,k∉an A.gb.1:=λk hk e=>sp.ne (i:=1) (j:=3) (by decide) rfl rfl hk e
 have n15:∀k∈A.s.block::A.cA::A.cu::A.Sd,k≠A.p/\k≠A.ds:=λk hk=>⟨λe=>sp.ne (i:=1) (j:=5) (by decide) rfl rfl hk (by simp [e]),λe=>sp.ne (i:=1) (j:=5) (by decide) rfl rfl hk (by simp [e])⟩
 have abW:∀k∈A.s.block::A.cA::A.cu::A.Sd,¬X k:=λk hk=>sp.no (i:=1) rfl k hk
 have abX:A.p≠x:=λe=>sp.ne (i:=5) (j:=0) (k:=A.p) (by decide) rfl rfl (by simp) (by simp [e])
 have abY:A.ds≠x:=λe=>sp.ne (i:=5) (j:=0) (k:=A.ds) (by decide) rfl rfl (by simp) (by simp [e])
 have KE:x∉A.bC:=sp.ne (i:=0) (j:=2) (by decide) rfl rfl (by simp)
 have RB:x∉an A.gb.1:=sp.ne (i:=0) (j:=3) (by decide) rfl rfl (by simp)
 have abZ:7<=x:=aBF λq=>sp.no (i:=0) rfl x (by simp) (cT x q)
 have RC:7<=A.s.block:=aBF λq=>sp.no (i:=1) rfl _ (by simp) (cT _ q)
 obtain⟨W,kI⟩:∃W:Nat->Prop,W=λk=>k<eQ.size/\k≠A.s.block/\k≠x/\k≠fz:=⟨_,rfl⟩
 obtain⟨Y,lU⟩:∃Y:Nat->Prop,Y=λk=>X k\/k=x\/k=fz\/k∈A.bC\/k∈an A.gb.1\/k=A.p\/k=A.ds:=⟨_,rfl⟩
 have KU:∀k,k<7->W k:=λk hk=>by rw [kI];exact⟨by omega,by omega,by omega,by omega⟩
 have RD:¬W fz:=by rw [kI];exact λq=>q.2.2.2 rfl
 have ab0:¬W x:=by rw [kI];exact λq=>q.2.2.1 rfl
 have RE:=d9.bT
 rw [dW]at RE
 have sN:nN cN W Y x A A.m A.N A.M 0 cZ fz (λk=>k<eQ.size/\k≠A.s.block) (hQ l) hh A.ps db.L:=by
  refine⟨⟨A.cA,[cZ],RE,⟨none,0,0,[],fC.bz,Own.nil _ _ _ _,axx _,by simp [an],rfl⟩,λk hk aq=> ?_,λk hk aq=> ?_,λaq=>aq.2 rfl,λk hk=> ?_,λk hk=> ?_,λk hk aq=> ?_,λk hk=> ?_⟩,d9.bz,d9.bH,d9.nH,d9.pm,uo.ag fC.af,by rw [Dh];exact d9.om,⟨⟨by omega,λe=>n10 _ (by simp) e.symm⟩,⟨by omega,λe=>(n15 _ (by simp)).1 e.symm⟩,⟨by omega,λe=>(n15 _ (by simp)).2 e.symm⟩,⟨by omega,by omega⟩,λk hk=>⟨by have:=i2 k hk;omega,λe=>n12 A.s.block (by simp) (e▸hk)⟩,λk hk=>by rw [Dh]at hk;exact⟨by have:=i3 k hk;omega,λe=>n13 A.s.block (by simp) (e▸hk)⟩⟩,⟨by omega,by omega,by omega,λaq=>by have:=i2 _ aq;omega,λaq=>by rw [Dh]at aq;have:=i3 _ aq;omega,abX,abY,by rw [Dh];exact RB⟩,λk hk=>by rw [kI]at hk;exact⟨hk.1,hk.2.1⟩,cx.ag KS,by rw [lU];exact⟨.inr (.inl rfl),.inr (.inr (.inl rfl))⟩⟩
  ·have:=i1 k hk;simp at aq;omega
  ·simp at hk;subst hk;omega
  ·have:=i1 k hk;omega
  ·omega
  ·rw [lU]at aq
   rcases aq with e|e|e|e|e|e|e
   ·exact abW k hk e
   ·exact n10 k hk e
   ·have:=i1 k hk;omega
   ·exact n12 k hk e
   ·exact n13 k hk e
   ·exact(n15 k hk).1 e
   ·exact(n15 k hk).2 e
  ·rw [lU]at hk
   rcases hk with e|e|e|e|e|e|e
   ·have:=KT e;omega
   ·omega
   ·omega
   ·have:=i2 k e;omega
   ·have:=i3 k e;omega
   ·omega
   ·omega
 refine⟨λae H'=>match ae with|[.int _ i]=>∃k:Nat,i=k/\k<=ow/\KN cN W Y x A fz cZ db.L l d0 data D k H'|_=>False,λae _=>match ae with|[.int _ i]=>ow-i.toNat|_=>0,⟨0,rfl,by omega,⟨_,A.M,0,hh,l,A.ps,A.nx,sN,by rw [hx],by rw [hx],fH.of (Fr.refl _ _),.inl ⟨.inl (by simp),rfl,rfl,rfl,rfl,rfl,Dh⟩⟩⟩,?_⟩
 rintro br i hj ⟨k,rfl,eC,⟨Z,M2,b0,s2,gA,ov,rF,F,bK,lA,uq,rH⟩⟩
 have f59:Fr [] bA cN:=((f6.aT ga.af).ag f8 λk hk=>by simp at hk;omega).aT fC.af
 have avr:H.size<=a8.size:=by omega
 refine au (λc=> ?_) λc=> ?_
 ·have bg:k<ow:=by simpa using c
  have RF:=xy.len
  obtain⟨d,aR⟩:=fM (l:=D) (i:=k) (by omega)
  have sR:=azR aR
  have KV:D.take (k+1)=D.take k++[d]:=by rw [azP,aR];rfl
  have ab1:=aS.GR xy (λe=>by rw [e]at sR;cases sR)
  have ab2:=uq.bT (xy.ag f59) λq aO=>by have:=Ry q aO;have:=ab1 q aO;rw [kI];exact⟨by omega,by omega,by omega,by omega⟩
  have RG:=uq.bT (((hf.bT.ag ga.af).af f8 (fO λq aO aq=>by simp at aq;have:=(hf.ge q aO).2;omega)).ag fC.af) λq aO=>by have:=hf.ge q aO;rw [kI];exact⟨by omega,by omega,by omega,by omega⟩
  have ab3:=uq.bT (((abS.af f4 (fO λq aO aq=>by simp at aq;have:=Dd q aO;omega)).ag f5).ag f59) λq aO=>by have:=Dd q aO;rw [kI];exact⟨by omega,by omega,by omega,by omega⟩
  have m10:dN aS.du hj r ck De:=by
   obtain⟨T,ca,cY⟩:=uq
   exact((m4.ag aS.du f5).ag aS.du f59).af aS.du ca λaq=>cY r aq (by rw [kI];exact⟨by omega,by omega,by omega,by omega⟩)
  have kk:∀{G:U},Fr [] hj G->Rd azB (Instr.lookup 178 (.map (some r)) (.int .i64 d) false) G ((dm d De).getD (.slice none 0 0)):=λai=>sQ (T:=aS.du) (mt:=178) (e:=82) aBG z82 (m10.ag aS.du ai) d
  rw [A' d]at kk
  have lf:0<=d/\d<17179869184:=by
   rcases(GQ d).1 sR with e|e
   ·omega
   ·obtain⟨p,aH,a'⟩:=ayf.1 e
    have:=(bV.ps.ok p aH).1;omega
  have vQ:iz ov rF:=by
   rcases rH with⟨_,_,aL,a',_⟩|⟨_,gY,_,aL,a',_⟩
   ·rw [aL,a'];exact bV.ps
   ·rw [aL,a'];obtain⟨_,_,ca,b0⟩:=sK gY;exact iz.set bV.ps Ru Rv ca b0
  have y5:M2+2<=100/\b0+2<=100:=by
   rcases rH with⟨_,_,_,_,aL,a',_⟩|⟨_,_,_,_,_,aL,a',_⟩<;>omega
  have AJ:∀y,db.st.now y=aZ.dS l y:=λy=>by rw [dW];rfl
  have RH:∀p,fW A.ps d=some p->∃s,aZ.dS l p.2.2=some s/\bd s=fs (ep M d)/\hN (ep M d)/\(ep M d).length<=100/\(∀y∈ep M d,y.1∈nS y4)/\(∀y∈ep M d,∀z∈y.2,lP (d*100) ((d+1)*100) z=true)/\∀y∈ep M d,y.2.length<=100:=λp aH=>by
   obtain⟨pN,rfl⟩:=xt aH
   obtain⟨s,s1,s2⟩:=bV.dat p pN
   obtain⟨fB,gj,y6,y7⟩:=P4 bV pN
   rw [AJ]at s1
   refine⟨s,s1,s2,fB,gj,λy aA=> ?_,λy aA z aE=> ?_,abN abQ⟩
   ·obtain⟨⟨s',cQ,e⟩,_⟩:=y7 y aA
    rw [<-e,abV]
    exact GO (bV.dH s' cQ).1 (hid s' cQ)
   ·have:=(y7 y aA).2 z aE
    rw [aBI this.2.1]at this
    obtain⟨ca,b0,cY⟩:=this
    unfold lP
    simp only [axz,decide_eq_true_eq]
    constructor<;>omega
  have ab4:fW A.ps d=none->ep M d=[]:=λe=>abM bV.right λid t v aI a'=>by
   obtain⟨p,aH,cX⟩:=bV.all id t v aI
   exact GL.1 e p aH (cX.trans a')
  refine⟨λ_ H'=>KN cN W Y x A fz cZ db.L l d0 data D (k+1) H',ab2.get rfl aR (bh (by omega)) λaC ea2 av=>⟨d,jb av,?_⟩,?_⟩
  ·show Ku ⟨x,0,none⟩ r fz cZ b4 abU mg d (λ_ H'=>KN cN W Y x A fz cZ db.L l d0 data D (k+1) H') hj
   have KW:∀{G:U},fH W hj G->fH W cN G:=λq=>uq.trans q
   by_cases Bc:d=d0
   ·subst Bc
    have KX:d∉D.take k:=λaq=>by
     obtain⟨q,aO⟩:=List.getElem?_of_mem aq
     rw [List.getElem?_take]at aO
     split at aO
     ·rename_i RI
      obtain⟨g1,g2⟩:=axC.1 aO
      obtain⟨g3,g4⟩:=axC.1 aR
      exact List.pairwise_iff_getElem.1 (azX.1 hDn) q k g1 g3 RI (g2.trans g4.symm)
     ·cases aO
    rcases rH with⟨_,rfl,rfl,rfl,rfl,rfl,KY⟩|⟨aq,_⟩
    ·rw [if_pos rfl]at kk
     have mT:cL (ep M d) [(t,id,v)]=eK (ep M d) (t,id,v):=rfl
     refine Q5 (rs:=[(t,id,v)]) F KU RD (by omega) vQ bK lA lf.1 lf.2 RG (Da _) (by omega) kk ab3 (by decide) (rm bV.right d) ab4 RH (by rw [mT];exact pU.1) (by rw [mT];exact Rs (rm bV.right d) _) (by rw [mT];exact pU.2.1) (by rw [mT];exact pU.2.2) y5.2 y5.1 cp (λgY=> ?_) (λhs Z2 G vL yY=> ?_) (λgY M3 cY Z2 qA G CQ hq3 vL bw iU fm yY=> ?_)
     ·rw [mT,A8]at gY⊢
      obtain⟨ca,b0,cY,_⟩:=sK gY
      exact⟨ca,b0,cY⟩
     ·rw [mT,A8]at hs
      exact⟨_,_,_,_,_,_,_,vL,bK,lA,KW yY,.inl ⟨.inr hs,rfl,rfl,rfl,rfl,rfl,KY⟩⟩
     ·rw [mT,A8]at gY vL
      exact⟨_,_,_,_,_,_,_,vL,bw,iU,KW yY,.inr ⟨by rw [KV];simp,gY,rfl,rfl,rfl,CQ,by omega,λq aO=>by have:=fm q aO;obtain⟨T,ca,_⟩:=uq;have:=ca.size;omega⟩⟩
    ·exact absurd aq KX
   ·have RJ:d∈A.ps.map (·.1):=((GQ d).1 sR).resolve_left Bc
    obtain⟨ik,lS,KZ⟩:=ayf.1 RJ
    have y8:fW A.ps d=some ik:=by rw [<-KZ];exact C7 bV.ps.d lS
    rw [if_neg Bc,if_pos RJ]at kk
    have bG:fW ov d=some ik:=by
     rcases rH with⟨_,_,aL,_⟩|⟨_,_,_,aL,_⟩
     ·rw [aL];exact y8
     ·rw [aL,abD bV.ps.d Bc];exact y8
    have pV:aZ.dS gA ik.2.2=aZ.dS l ik.2.2:=by
     rcases rH with⟨_,aL,_⟩|⟨_,_,aL,_⟩
     ·rw [aL]
     ·rw [aL];exact Ro bV.ps lS (by rw [KZ];exact Bc)
    obtain⟨Kj,Gm,Gn,GS⟩:=RH ik y8
    have RL:mf gA ov d ⟨(fs (cL (ep M d) [])).toArray⟩:=⟨ik,bG,by
     rw [pV,Gm]
     have:Kj=⟨(fs (ep M d)).toArray⟩:=iV (by rw [Gn])
     rw [this];rfl⟩
    have mT:cL (ep M d) []=ep M d:=rfl
    refine Q5 (rs:=[]) F KU RD (by omega) vQ bK lA lf.1 lf.2 RG (Da _) (by omega) kk ⟨rfl,axx _,.inl rfl⟩ (by decide) (rm bV.right d) (λe=>by rw [bG]at e;cases e) (λp aH=>by rw [bG]at aH;cases aH;rw [pV];exact⟨Kj,Gm,Gn,GS⟩) (by rw [mT];exact GS.1) (by rw [mT,<-KZ];exact cP ik lS) (by rw [mT];exact GS.2.1) (by rw [mT];exact GS.2.2.2.2) y5.2 y5.1 cp (λgY=>absurd RL gY) (λhs Z2 G vL yY=> ?_) (λgY=>absurd RL gY)
    refine⟨_,_,_,_,_,_,_,vL,bK,lA,KW yY,?_⟩
    rcases rH with⟨ca,b0⟩|⟨ca,b0⟩
    ·refine .inl ⟨ca.imp (λh aq=> ?_) λh=>h,b0⟩
     rw [KV]at aq
     rcases azb.1 aq with aq|aq
     ·exact h aq
     ·simp at aq;exact Bc aq.symm
    ·exact .inr ⟨by rw [KV];exact aBd _ ca,b0⟩
  ·rintro br jO ab5
   rw [cE (by omega)]
   exact⟨⟨k+1,rfl,by omega,ab5⟩,dU bg⟩
 have avs:k=ow:=by simp at c;omega
 have ab6:D.take k=D:=ayB (by omega)
 rw [ab6]at rH
 have RM:d0∈D:=(GQ d0).2 (.inl rfl)
 have vQ:iz ov rF:=by
  rcases rH with⟨_,_,aL,a',_⟩|⟨_,gY,_,aL,a',_⟩
  ·rw [aL,a'];exact bV.ps
  ·rw [aL,a'];obtain⟨_,_,ca,b0⟩:=sK gY;exact iz.set bV.ps Ru Rv ca b0
 have y5:M2+3<=100/\b0+3<=100:=by
  rcases rH with⟨_,_,_,_,aL,a',_⟩|⟨_,_,_,_,_,aL,a',_⟩<;>omega
 have pS:(mf l A.ps d0 data/\gA=l/\ov=A.ps)\/(¬mf l A.ps d0 data/\gA=jv l A.ps A.nx d0 data/\ov=gp (d0,0,c6 A.nx) A.ps):=by
  rcases rH with⟨q,aL,a',_⟩|⟨_,q,aL,a',_⟩
  ·exact .inl ⟨q.resolve_left λh=>h RM,aL,a'⟩
  ·exact .inr ⟨q,aL,a'⟩
 have ab7:(mf l A.ps d0 data/\gA=l/\ov=A.ps/\rF=A.nx)\/(¬mf l A.ps d0 data/\gA=jv l A.ps A.nx d0 data/\ov=gp (d0,0,c6 A.nx) A.ps/\rF=A.nx+1):=by
  rcases rH with⟨q,aL,a',cX,_⟩|⟨_,q,aL,a',cX,_⟩
  ·exact .inl ⟨q.resolve_left λh=>h RM,aL,a',cX⟩
  ·exact .inr ⟨q,aL,a',cX⟩
 have ab8:∃w,(ei,w)∈gA:=by
  obtain⟨w,hw⟩:=KF
  rcases pS with⟨_,e,_⟩|⟨_,e,_⟩
  ·rw [e];exact⟨w,hw⟩
  ·rw [e];exact⟨w,abF bV.ps (by decide) hw⟩
 have Di:∀k∈an s2.h.1,k∈an A.gb.1\/(cN.size<=k/\ov≠[]):=λk hk=>by
  rcases rH with⟨_,_,_,_,_,_,e⟩|⟨_,_,_,a',_,_,_,e⟩
  ·rw [e]at hk;exact .inl hk
  ·exact .inr ⟨e k hk,λcX=>by have:=Dj (x:=(d0,0,c6 A.nx)) (ps:=A.ps);rw [<-a',cX]at this;cases this⟩
 have Re:cN.size<=hj.size:=by obtain⟨T,ca,_⟩:=uq;exact ca.size
 have yR:∀k∈an s2.h.1,k<hj.size:=λk hk=>by
  obtain⟨_,_,_,_,_,_,_,_,qz,_⟩:=F.rz
  exact qz k (F.ud.2.2.2.2.2 k hk)
 show KD ⟨x,0,none⟩ fz cZ (λv H'=>∃e,v=.int .i64 e/\K e H') hj
 refine aby F KU ab0 KE abZ yR (by omega) vQ bK lA y5.2 y5.1 cp ab8 (aB gA ov pS) λu GB jO hu hb11 hs11 hi11 hp11 hpol11 hpm11 hG11 A2=>⟨_,rfl,?_⟩
 obtain⟨cA,Q9,ur,c2,c3,c4,c5,lx,qz,pO,c9⟩:=hs11
 rw [lU]at pO
 simp only [not_or]at pO
 have KA:hj.size<=jO.size:=by obtain⟨T,ca,_⟩:=A2;exact ca.size
 have ab9:∀k∈an s2.h.1,k∉A.s.block::cA::A.cu::A.Sd:=λk hk aq=>by
  rcases Di k hk with q|⟨q,ab'⟩
  ·exact(pO k aq).2.2.2.2.1 q
  ·simp only [axA]at aq
   rcases aq with e|e|e|e
   ·omega
   ·subst e
    obtain⟨y,avt,Dk⟩:=List.exists_cons_of_ne_nil ab'
    obtain⟨o4,off,Dl,av⟩:=hp11.arr.at (i:=0) (x:=y) (by rw [Dk];rfl)
    rw [Dl]at hk
    have hi:k=o4:=by simpa [an]using hk
    have y9:=av 0 (.int .i64 y.1) rfl
    obtain⟨avu,avv,rG,_⟩:=ur.now
    have fm:=rG.bz
    rw [hi]at fm
    simp [j5,Addr.add,fm]at y9
   ·have:=i1 A.cu (by simp);omega
   ·have:=i1 k (by simp [e]);omega
 have aca:∀k∈an s2.h.1,¬X k/\k<jO.size:=λk hk=>by
  have:=yR k hk
  refine⟨λaa=> ?_,by omega⟩
  rcases Di k hk with q|⟨q,_⟩
  ·exact sp.no (i:=3) rfl k q aa
  ·have:=KT aa;omega
 have acb:aZ.ib jO A.s A.d cA A.cu none 0 0 [] A.Sd (hQ (nR gA u ⟨(dh.encI db.L).toArray⟩)) A.m A.N (nR gA u ⟨(dh.encI db.L).toArray⟩).length:=⟨ur.bz,aZ.hC.tight ur.now,ur.last,ur.dir,ur.Bd,ur.uu,ur.own,ur.apart,ur.Dm⟩
 have GU:∀F:List Nat,er F []:=λF k _ h=>by cases h
 refine hk gA ov rF u {A with cA:=cA,M:=(nR gA u ⟨(dh.encI db.L).toArray⟩).length,gb:=s2.h,bW:=(none,0,0),hs:=[],ps:=ov,nx:=rF} jO ab7 hu rfl rfl rfl (axx _) ⟨hb11,acb,hi11,⟨rfl,axx _,.inl rfl⟩,.nil,aS.cy.nil,hp11,hpol11,hpm11,⟨?_,?_⟩,λk hk=>by have:=KT hk;omega⟩ hG11 ?_
 ·show [[x],A.s.block::cA::A.cu::A.Sd,A.bC,an s2.h.1,[],[A.p,A.ds]].Pairwise er
  have acd:er [x] (A.s.block::cA::A.cu::A.Sd):=λk hk aq=>by simp at hk;exact(pO k aq).2.1 hk
  have ace:er [x] A.bC:=sp.gd (i:=0) (j:=2) (by decide) rfl rfl
  have acf:er [x] (an s2.h.1):=λk hk aq=>by
   simp at hk;subst hk
   rcases Di k aq with q|⟨q,_⟩
   ·exact RB q
   ·omega
  have acg:er [x] [A.p,A.ds]:=sp.gd (i:=0) (j:=5) (by decide) rfl rfl
  have ach:er (A.s.block::cA::A.cu::A.Sd) A.bC:=λk hk aq=>(pO k hk).2.2.2.1 aq
  have aci:er (A.s.block::cA::A.cu::A.Sd) (an s2.h.1):=λk hk aq=>ab9 k aq hk
  have acj:er (A.s.block::cA::A.cu::A.Sd) [A.p,A.ds]:=λk hk aq=>by
   simp at aq
   rcases aq with e|e
   ·exact(pO k hk).2.2.2.2.2.1 e
   ·exact(pO k hk).2.2.2.2.2.2 e
  have ack:er A.bC (an s2.h.1):=λk hk aq=>by
   rcases Di k aq with q|⟨q,_⟩
   ·exact sp.gd (i:=2) (j:=3) (by decide) rfl rfl k hk q
   ·have:=i2 k hk;omega
  have acm:er A.bC [A.p,A.ds]:=sp.gd (i:=2) (j:=5) (by decide) rfl rfl
  have acn:er (an s2.h.1) [A.p,A.ds]:=λk aq hk=>by
   rcases Di k aq with q|⟨q,_⟩
   ·exact sp.gd (i:=3) (j:=5) (by decide) rfl rfl k q hk
   ·have:=i5 k hk;omega
  have n5:er [] [A.p,A.ds]:=λk hk=>by cases hk
  refine .cons (λG cx=> ?_) (.cons (λG cx=> ?_) (.cons (λG cx=> ?_) (.cons (λG cx=> ?_) (.cons (λG cx=> ?_) (.cons (λG cx=>by cases cx) .nil)))))
  ·simp only [axA,aBH,or_false]at cx
   rcases cx with rfl|rfl|rfl|rfl|rfl
   ·exact acd
   ·exact ace
   ·exact acf
   ·exact GU _
   ·exact acg
  ·simp only [axA,aBH,or_false]at cx
   rcases cx with rfl|rfl|rfl|rfl
   ·exact ach
   ·exact aci
   ·exact GU _
   ·exact acj
  ·simp only [axA,aBH,or_false]at cx
   rcases cx with rfl|rfl|rfl
   ·exact ack
   ·exact GU _
   ·exact acm
  ·simp only [axA,aBH,or_false]at cx
   rcases cx with rfl|rfl
   ·exact GU _
   ·exact acn
  ·simp only [axA,aBH,or_false]at cx
   rcases cx with rfl
   exact n5
 ·show∀F∈[[x],A.s.block::cA::A.cu::A.Sd,A.bC,an s2.h.1,[],[A.p,A.ds]],∀k∈F,¬X k/\k<jO.size
  intro G cx k hk
  have up:∀{i:Nat} {F:List Nat},(jA x A)[i]?=some F->k∈F->¬X k/\k<jO.size:=λbS RN=>⟨sp.no bS k RN,by have:=sp.jz bS k RN;omega⟩
  simp only [axA,aBH,or_false]at cx
  rcases cx with rfl|rfl|rfl|rfl|rfl|rfl
  ·exact up (i:=0) rfl hk
  ·exact⟨(pO k hk).1,lx k hk⟩
  ·exact up (i:=2) rfl hk
  ·exact aca k hk
  ·cases hk
  ·exact up (i:=5) rfl hk
 ·exact(fH.of KS).trans ((uq.trans A2).sub λk hk=>by rw [kI];exact⟨by omega,hk.2.1,hk.2.2,by omega⟩)
open aS (bF cy cL eK)
noncomputable instance(p:dZ):Decidable (h3 0 p):=Classical.propDecidable _
noncomputable def pH(p:dZ):Int:=if u6 p.1=0 then 1 else u6 p.1
noncomputable def gW:List dZ->Int
 |[]=>0
 |p::ps=>if h3 0 p then gW ps else pH p
theorem Pc(p:dZ):pH p≠0:=by
 unfold pH
 split
 ·decide
 ·assumption
theorem F8:∀{ps:List dZ},gW ps=0->∀p∈ps,h3 0 p
 |[],_,p,aH=>by cases aH
 |q::ps,h,p,aH=>by
  unfold gW at h
  split at h
  ·rename_i aO
   rcases axA.1 aH with rfl|aH
   ·exact aO
   ·exact F8 h p aH
  ·exact absurd h (Pc q)
theorem Yn:∀{ps:List dZ},(∀p∈ps,h3 0 p)->gW ps=0
 |[],_=>rfl
 |q::ps,h=>by
  unfold gW
  rw [if_pos (h q (by simp))]
  exact Yn λp aH=>h p (by simp [aH])
theorem Yd:∀{ps:List dZ} {k:Nat} {p:dZ},(∀q∈ps.take k,h3 0 q)->ps[k]?=some p->¬h3 0 p->gW ps=pH p
 |[],_,_,_,h,_=>by simp at h
 |q::ps,0,p,_,h,ay=>by
  simp at h;subst h
  unfold gW;rw [if_neg ay]
 |q::ps,k+1,p,bW,h,ay=>by
  unfold gW
  rw [if_pos (bW q (by simp))]
  exact Yd (k:=k) (λz aE=>bW z (by simp [aE])) (by simpa using h) ay
theorem YT:∀{ps qs:List dZ},gW (ps++qs)=if gW ps=0 then gW qs else gW ps
 |[],qs=>by simp [gW]
 |p::ps,qs=>by
  have ih:=YT (ps:=ps) (qs:=qs)
  have e:∀l:List dZ,gW (p::l)=if h3 0 p then gW l else pH p:=λl=>rfl
  rw [List.cons_append,e,e]
  by_cases h:h3 0 p
  ·rw [if_pos h,if_pos h];exact ih
  ·rw [if_neg h,if_neg h,if_neg (Pc p)]
noncomputable def okL(ps:List dZ):List dZ:=ps.filter λp=>decide (h3 0 p)
theorem atm(ps:List dZ)(p:dZ):okL (ps++[p])=if h3 0 p then okL ps++[p]else okL ps:=by
 unfold okL
 rw [List.filter_append]
 split<;>rename_i h<;>simp [axT,h]
theorem atn{ps:List dZ}(h:∀p∈ps,h3 0 p):okL ps=ps:=List.filter_eq_self.2 λp aH=>bh (h p aH)
theorem ato(ps:List dZ):(okL ps).length<=ps.length:=aAm _ _
structure lO(n:Nat)(T:bR->Prop)(s:List bR×List Row):Prop where
 fL:s.1.Nodup
 dB:∀l∈s.1,fa l/\T l
 len:s.1.length<=n
 row:∀x∈s.2,(0<=x.1/\x.1<1099511627776)/\(0<=x.2.1/\x.2.1<s.1.length)/\eM x.2.2
 num:s.2.length=n
theorem atp{L:List bR}{l:bR}{i:Nat}(h:hY L l=some i):i<L.length:=(axC.1 (Tv h)).1
theorem JU(l:bR):hY [] l=none:=rfl
structure JV(L:List bR)(p:dZ)(F:List bR)(r:Row):Prop where
 run:b6 L [p]=(F,[r])
 t:r.1=p.2.1/\r.2.2=p.2.2
 id:0<=r.2.1/\r.2.1<(L++F).length
 F:F=[]\/(F=[p.1]/\p.1∉L)
theorem YU(L:List bR)(p:dZ):∃F r,JV L p F r:=by
 have e:b6 L [p]=iY L ([],[]) p:=rfl
 cases h:hY L p.1 with
 |some i=>
  have:=atp h
  exact⟨[],(p.2.1,(i:Int),p.2.2),by rw [e];unfold iY;rw [h];rfl,⟨rfl,rfl⟩,by simp only [azh];omega,.inl rfl⟩
 |none=>
  exact⟨[p.1],(p.2.1,((L.length+0:Nat):Int),p.2.2),by rw [e];unfold iY;rw [h];simp only [JU,azs];rfl,⟨rfl,rfl⟩,by simp only [ax6,ayi,azs];omega,.inr ⟨rfl,HS.1 h⟩⟩
theorem YV{qs:List dZ}{p:dZ}{F:List bR}{r:Row}(h:JV (b6 [] qs).1 p F r):b6 [] (qs++[p])=((b6 [] qs).1++F,(b6 [] qs).2++[r]):=by
 have e:b6 [] (qs++[p])=iY [] (b6 [] qs) p:=by unfold b6;rw [aAZ];rfl
 have a':=h.run
 have aL:b6 (b6 [] qs).1 [p]=iY (b6 [] qs).1 ([],[]) p:=rfl
 rw [aL]at a'
 rw [e]
 generalize b6 [] qs=s at a'⊢
 unfold iY at a'⊢
 rw [JU]
 cases aH:hY s.1 p.1 with
 |some i=>
  rw [aH]at a'
  simp only [Prod.mk.injEq]at a'⊢
  rw [<-a'.1,<-a'.2]
  simp
 |none=>
  rw [aH]at a'
  simp only [JU,Prod.mk.injEq]at a'⊢
  rw [<-a'.1,<-a'.2]
  simp
theorem lO.nil(T:bR->Prop):lO 0 T (b6 [] []):=⟨aBJ,(λl aG=>by cases aG),axx _,(λx aa=>by cases aa),rfl⟩
theorem lO.step{T:bR->Prop}{qs:List dZ}{p:dZ}(h:lO n T (b6 [] qs))(aH:h3 0 p)(cd:T p.1)(aI:eM p.2.2):lO (n+1) T (b6 [] (qs++[p])):=by
 obtain⟨F,r,aw⟩:=YU (b6 [] qs).1 p
 rw [YV aw]
 have bS:F.length<=1:=by rcases aw.F with e|⟨e,_⟩<;>rw [e]<;>simp
 refine⟨?_,λl aG=> ?_,?_,λx aa=> ?_,?_⟩
 ·rcases aw.F with e|⟨e,ay⟩
  ·rw [e];simpa using h.fL
  ·rw [e]
   exact azk.2 ⟨h.fL,by simp,λa bW b al e=>by simp at al;subst al;subst e;exact ay bW⟩
 ·rcases azb.1 aG with aG|aG
  ·exact h.dB l aG
  ·rcases aw.F with e|⟨e,_⟩
   ·rw [e]at aG;cases aG
   ·rw [e]at aG;simp at aG;subst aG;exact⟨aH.1,cd⟩
 ·have:=h.len;simp only [ax6];omega
 ·rcases azb.1 aa with aa|aa
  ·obtain⟨a,b,c⟩:=h.row x aa
   exact⟨a,by simp only [ax6];omega,c⟩
  ·simp at aa;subst aa
   have:=aw.id
   exact⟨by rw [aw.t.1];exact⟨aH.2.1,aH.2.2.1⟩,this,by rw [aw.t.2];exact aI⟩
 ·have:=h.num;simp only [ax6,ayi,azs];omega
theorem YW{F:List bR}:∀{G:List bR},(G++F).Nodup->(∀l∈F,fa l)->(G++F).length<=200->F.foldl oF G=G++F:=by
 induction F with
 |nil=>intro G _ _ _;simp
 |cons l F ih=>
  intro G h1 ab ar
  have e:oF G l=G++[l]:=by
   unfold oF
   refine if_pos ⟨ab l (by simp),λhm=> ?_,?_⟩
   ·exact(azk.1 h1).2.2 l hm l (by simp) rfl
   ·simp only [ax6,ayi]at ar;omega
  rw [ayF,e,ih (G:=G++[l]) (by simpa using h1) (λx aa=>ab x (by simp [aa])) (by simpa using ar)]
  simp
theorem YX(L:List bR)(ps:List dZ)(db:ey):(nA L ps).foldl iZ db={db with L:=(b6 L ps).1.foldl oF db.L,ss:=cL db.ss (b6 L ps).2}:=by
 unfold nA
 rw [aAZ]
 have h:∀(F:List bR) (db:ey),(F.map oT).foldl iZ db={db with L:=F.foldl oF db.L}:=λF=>by
  induction F with
  |nil=>intro db;rfl
  |cons l F ih=>
   intro db
   rw [axE,ayF,ih]
   rfl
 rw [h]
 rfl
theorem YY(ss:List bF)(a b:List Row):cL ss (a++b)=cL (cL ss a) b:=by
 unfold cL
 rw [aAZ]
open aS (bF cy cL eK fs ft eJ lK jI jn Jm gy gz oS k1)
theorem Zi:∀(f:Nat) (l:List Bool),(tN f l).length<=(l.length+7)/8
 |0,l=>by simp [tN]
 |f+1,l=>by
  unfold tN
  split
  ·simp
  ·rename_i h
   have h1:=aAI.2 h
   have ab:=Zi f (l.drop 8)
   grind
theorem at1{l:List bl}(h:eJ l)(ay:l≠[]):(ft l).length<=22*l.length:=by
 have aF:=aAI.2 ay
 have aG:=h.len
 unfold ft
 rw [ax6,ax6]
 have h1:=oX 1 l.length (by omega)
 have ab:(lK l).length<=16:=by
  cases l with
  |nil=>grind
  |cons x l=>
   have q:=h.dH x (by simp)
   have ca:=oX 5 x.1.toNat (by omega)
   have b0:(mG x.2).length<=10:=hD (tB (h.v x (by simp)))
   unfold lK
   grind
 have ar:(jI l).length<=if l.length<2 then 0 else 2+22*(l.length-1):=by
  unfold jI
  split
  ·simp
  ·have aL:=Zi (jn l (fK (gy l)) (fK (gz l)) (l.length-1)).length (jn l (fK (gy l)) (fK (gz l)) (l.length-1))
   have a':=Jm l (qv (gy l)) (qv (gz l)) (l.length-1)
   rw [ayi,ayi]
   unfold pack
   omega
 grind
theorem J2(s:bF)(S:List bF):eD (s::S)=s.2.length+eD S:=by unfold eD;simp
theorem at2{S:List bF}(aG:S.length<=200)(h:∀s∈S,(0<=s.1/\s.1<200)/\eJ s.2/\s.2≠[]/\s.2.length<=100):(fs S).length<=2+26*eD S:=by
 have h1:=oX 1 S.length (by omega)
 have ab:∀S:List bF,(∀s∈S,(0<=s.1/\s.1<200)/\eJ s.2/\s.2≠[]/\s.2.length<=100)->(oS S).length+(k1 S).length<=26*eD S:=λS=>by
  induction S with
  |nil=>intro _;simp [oS,k1]
  |cons s S ih=>
   intro h
   have:=ih λx aa=>h x (by simp [aa])
   obtain⟨ca,b0,cY,eP⟩:=h s (by simp)
   have iw:=at1 b0 cY
   have hr:=oX 1 s.1.toNat (by omega)
   have Cu:=oX 1 (ft s.2).length (by omega)
   have Oz:=aAI.2 cY
   rw [J2]
   unfold oS k1 at *
   grind
 unfold fs
 grind
theorem sum_add{α:Type}(f g:α->Nat):∀l:List α,(l.map λx=>f x+g x).sum=(l.map f).sum+(l.map g).sum
 |[]=>rfl
 |x::l=>by
  have:=sum_add f g l
  grind
theorem Zj{a:Int}:∀{cg:List Int},cg.Nodup->(cg.map λd=>if a=d then 1 else 0).sum<=1
 |[],_=>by simp
 |d::cg,h=>by
  obtain⟨h1,ab⟩:=ayk.1 h
  rw [axE,azT]
  split
  ·rename_i e;subst e
   have:(cg.map λd=>if a=d then 1 else 0).sum=0:=by
    clear h ab
    induction cg with
    |nil=>rfl
    |cons y cg ih=>
     grind
   omega
  ·have:=Zj (a:=a) ab;omega
theorem Zk{f:bl->Int}{cg:List Int}(ay:cg.Nodup):∀q:List bl,(cg.map λd=>(q.filter λx=>decide (f x=d)).length).sum<=q.length
 |[]=>by
  have:∀cg:List Int,(cg.map λd=>(([]:List bl).filter λx=>decide (f x=d)).length).sum=0:=λcg=>by
   induction cg with
   |nil=>rfl
   |cons d cg ih=>grind
  grind
 |x::q=>by
  have ih:=Zk (f:=f) ay q
  have h1:=Zj (a:=f x) ay
  have e:(cg.map λd=>((x::q).filter λx=>decide (f x=d)).length)=cg.map λd=>(if f x=d then 1 else 0)+(q.filter λx=>decide (f x=d)).length:=(by grind)
  rw [e,sum_add,ayi];omega
theorem at3(p:Int->bl->Bool)(s:bF)(M:List bF):eD (o1 p (s::M))=(s.2.filter (p s.1)).length+eD (o1 p M):=by
 rw [Ke]
 split
 ·grind
 rfl
theorem Zl{cg:List Int}(ay:cg.Nodup):∀M:List bF,(cg.map λd=>eD (ep M d)).sum<=eD M
 |[]=>by
  have:∀cg:List Int,(cg.map λd=>eD (ep [] d)).sum=0:=λcg=>by
   induction cg with
   |nil=>rfl
   |cons d cg ih=>rw [axE,azT,ih];rfl
  grind
 |s::M=>by
  have ih:=Zl ay M
  have h1:=Zk (f:=λx=>azE x.1 100) ay s.2
  have e:(cg.map λd=>eD (ep (s::M) d))=cg.map λd=>(s.2.filter λx=>decide (azE x.1 100=d)).length+eD (ep M d):=List.map_congr_left λd _=>at3 _ _ _
  rw [e,sum_add,J2];omega
def kc(l:bR):Prop:=(lW l).length<=40
theorem Zm{l:bR}(h:kc l):(e6 (qa l)).length<=41:=by
 have e:(qa l).size=(lW l).length:=fD _
 unfold kc at h
 have:=JK (n:=(qa l).size) (by omega)
 unfold e6
 rw [ax6,dR];omega
theorem Zn{L:List bR}(ay:L.length<=100)(h:∀l∈L,kc l):(dh.encI L).length<=1+41*L.length:=by
 have h1:=JK (n:=L.length) (by omega)
 have ab:(L.flatMap dh.x5).length<=41*L.length:=aZ.CN λl aG=>Zm (h l aG)
 unfold dh.encI
 grind
theorem Zo{l:List UInt8}(h:l.length<16384):(qb (lY l)).length<=l.length+4:=by
 rw [MS]
 have:=oX 1 (lY l).size (by assumption)
 unfold e6
 rw [ax6,dR,z6]at *;omega
theorem Zp{L:List bR}{ps:List dZ}(bS:∀l∈(b6 L ps).1,fa l)(cp:∀x∈(b6 L ps).2,(0<=x.1/\x.1<1099511627776)/\(0<=x.2.1/\x.2.1<200)/\eM x.2.2)(ay:(b6 L ps).2.length<=100):∀r∈nA L ps,oN r:=λr aB=>by
 unfold nA at aB
 rcases azb.1 aB with aB|aB
 ·obtain⟨l,aG,rfl⟩:=ayf.1 aB
  refine⟨⟨(show(0:Int)<=0/\(0:Int)<=3 by decide),λ_=>rfl,λh=>absurd rfl h,λh=>absurd rfl h,λh=>absurd rfl h,(show(0:Int)<=0/\(0:Int)<=1099511627776 by decide),by simp [oT],by simp [oT],(λx aa=>by cases aa),(λx aa=>by cases aa)⟩,(λx aa=>by cases aa),λ_=>bS l aG⟩
 ·simp at aB
  subst aB
  refine⟨⟨(by simp),λh=>absurd rfl h,λ_=>rfl,λh=>absurd rfl h,λh=>absurd rfl h,(by simp),by simp only;omega,by simp,λx aa=> ?_,(λx aa=>by cases aa)⟩,λx aa=>(cp x aa).2.2,λh=>by cases h⟩
  have:=cp x aa
  exact⟨⟨this.1.1,by omega⟩,this.2.1.1,by omega⟩
theorem Zq{L:List bR}{ps:List dZ}(aF:ps≠[])(bS:∀l∈(b6 L ps).1,kc l)(cp:∀x∈(b6 L ps).2,(0<=x.1/\x.1<1099511627776)/\(0<=x.2.1/\x.2.1<200)/\eM x.2.2)(ay:ps.length<=100):(lZ (nA L ps)).length<=90*ps.length:=by
 have aH:=aAI.2 aF
 obtain⟨cD,cz⟩:=OZ L ps ([],[])
 have axn:(b6 L ps).1.length<=ps.length:=by unfold b6;simpa using cD
 have axo:(b6 L ps).2.length=ps.length:=by unfold b6;simpa using cz
 have e:lZ (nA L ps)=((b6 L ps).1.flatMap λl=>qb (lY (kX (oT l))))++qb (lY (kX ⟨1,[],(b6 L ps).2,[],0⟩)):=by
  unfold lZ nA
  rw [azf,List.flatMap_map];simp
 have Zr:∀k:Int,0<=k->k<128->(hJ k).length<=1:=λk h1 ab=>JK (by omega)
 have h1:∀l∈(b6 L ps).1,(qb (lY (kX (oT l)))).length<=46:=λl aG=>by
  have ca:=Zm (bS l aG)
  have b0:=Zr 0 (by decide) (by decide)
  have cY:(kX (oT l)).length<=42:=by
   unfold kX lE oT
   grind
  have:=Zo (l:=kX (oT l)) (by omega);omega
 have ab:=aZ.CN (f:=λl=>qb (lY (kX (oT l)))) h1
 have ar:(kX ⟨1,[],(b6 L ps).2,[],0⟩).length<=2+30*ps.length:=by
  have ca:=Zr 1 (by decide) (by decide)
  have b0:=JK (n:=(b6 L ps).2.length) (by omega)
  have cY:=aZ.CN λx aa=>by
   have:=cp x aa
   exact EE ⟨⟨this.1.1,by omega⟩,this.2.1.1,by omega⟩ this.2.2
  unfold kX lE
  grind
 have a7:=Zo (l:=kX ⟨1,[],(b6 L ps).2,[],0⟩) (by omega)
 grind
open aS (bF cy cL eK fs eJ hN)
abbrev gO:=List (ByteArray×ByteArray)
structure iN(b:List (ByteArray×Nat))(l:gO):Prop where
 fL:(l.map (·.1)).Nodup
 mem:∀p∈l,∃c∈b,c.1=p.1/\p.2.size<=c.2
theorem Zs{k:ByteArray}{l:gO}(h:(l.map (·.1)).Nodup):((aZ.fx k l).map (·.1)).Nodup:=(List.filter_sublist.map _).nodup h
theorem iN.off{b:List (ByteArray×Nat)}{l:gO}(h:iN b l)(k:ByteArray):iN b (aZ.fx k l):=⟨Zs h.fL,λp aH=>h.mem p (ax2.1 aH).1⟩
theorem iN.put{b:List (ByteArray×Nat)}{l:gO}(h:iN b l){k v:ByteArray}(aI:v.size<=n):iN ((k,n)::b) ((k,v)::aZ.fx k l):=by
 refine⟨?_,λp aH=> ?_⟩
 ·rw [axE,ayk]
  refine⟨λaq=> ?_,Zs h.fL⟩
  obtain⟨p,aH,e⟩:=ayf.1 aq
  exact of_decide_eq_true (ax2.1 aH).2 e
 ·rcases axA.1 aH with rfl|aH
  ·exact⟨_,aye,rfl,aI⟩
  ·obtain⟨c,av,e⟩:=h.mem p (ax2.1 aH).1
   exact⟨c,axU _ av,e⟩
theorem iN.sum{b:List (ByteArray×Nat)}:∀{l:gO} {b:List (ByteArray×Nat)},iN b l->∀g:ByteArray->Nat->Nat,(∀k m n,m<=n->g k m<=g k n)->(l.map λp=>g p.1 p.2.size).sum<=(b.map λc=>g c.1 c.2).sum
 |[],b,_,g,_=>by simp
 |p::l,b,h,g,ba=>by
  obtain⟨c,av,e,hs⟩:=h.mem p (by simp)
  obtain⟨cD,cz⟩:=ayk.1 h.fL
  obtain⟨b1,bI,rfl⟩:=List.append_of_mem av
  have ab:iN (b1++bI) l:=⟨cz,λq aO=>by
   obtain⟨d,aR,a',mh⟩:=h.mem q (by simp [aO])
   refine⟨d,?_,a',mh⟩
   rcases azb.1 aR with aR|aR
   ·exact aBd _ aR
   ·rcases axA.1 aR with rfl|aR
    ·exact absurd (ayf.2 ⟨q,aO,a'.symm.trans e⟩) cD
    ·exact List.mem_append_right _ aR⟩
  have ar:=iN.sum (b:=[]) ab g ba
  have a7:((b1++c::bI).map λc=>g c.1 c.2).sum=g c.1 c.2+((b1++bI).map λc=>g c.1 c.2).sum:=by
   simp only [azj,List.sum_append,axE,azT];omega
  have bs:=ba p.1 _ _ hs
  rw [<-e]at bs
  rw [axE,azT,a7,<-e];omega
theorem Gd{α:Type}:∀l:List α,(l.map λ_=>1).sum=l.length
 |[]=>rfl
 |x::l=>by rw [axE,azT,Gd l,ayi];omega
def vv(b:List (ByteArray×Nat)):Nat:=(b.map λc=>c.2+63).sum
def w4(b:List (ByteArray×Nat)):Nat:=(b.map λc=>3+c.1.size).sum
theorem CL(c:ByteArray×Nat)(b:List (ByteArray×Nat)):vv (c::b)=c.2+63+vv b:=by unfold vv;simp
theorem Ge(c:ByteArray×Nat)(b:List (ByteArray×Nat)):w4 (c::b)=3+c.1.size+w4 b:=by unfold w4;simp
structure AA(sz:Int)(b:List (ByteArray×Nat)):Prop where
 s1:∀c∈b,c.1.size<=16/\c.2<16384
 len:b.length<=90
 z:(sz=512/\vv b<=24320/\w4 b<=450)\/(sz=64/\vv b<=1280/\w4 b<=60)
theorem iN.room{b:List (ByteArray×Nat)}{l:gO}(h:iN b l)(aB:AA sz b):aZ.Room sz l:=by
 refine⟨h.fL,λp aH=> ?_,?_,?_⟩
 ·obtain⟨c,av,e,hs⟩:=h.mem p aH
  have:=aB.s1 c av
  rw [<-e];omega
 ·have:=iN.sum (b:=[]) h (λ_ _=>1) λ_ _ _ _=>axx _
  rw [Gd,Gd]at this
  have:=aB.len;omega
 ·have h1:=iN.sum (b:=[]) h (λ_ n=>aZ.js n) λ_ m n Ce=>by unfold aZ.js;omega
  have ab:64*(b.map λc=>aZ.js c.2).sum<=vv b:=by
   clear h1
   clear h aB
   induction b with
   |nil=>simp [vv]
   |cons c b ih=>
    rw [CL,axE,azT]
    unfold aZ.js at *
    omega
  have ar:=iN.sum (b:=[]) h (λk _=>3+k.size) λ_ _ _ _=>axx _
  have a7:=aB.z
  unfold w4 at a7
  exact a7.imp (λq=>⟨q.1,by omega,by omega⟩) λq=>⟨q.1,by omega,by omega⟩
structure yM(n:Nat)(l:gO)(ps:List cK):Prop where
 fL:(l.map (·.1)).Nodup
 mem:∀p∈l,(p.1=gI/\p.2.size<=20+15*n)\/(p.1=jx/\p.2.size<=1+41*n)\/∃q∈ps,p.1=q.2.2
theorem yM.nil:yM 0 [] []:=⟨aBJ,λp aH=>by cases aH⟩
def AB(M:List bF)(q:cK):ByteArray×Nat:=(q.2.2,2+26*eD (ep M q.1))
def tV(n:Nat)(M:List bF)(ps:List cK):List (ByteArray×Nat):=(gI,20+15*n)::(jx,1+41*n)::ps.map (AB M)
structure Zt(M:List bF)(ps:List cK)(db:gO):Prop where
 dat:∀q∈ps,∀s,aZ.dS db q.2.2=some s->s.size<=2+26*eD (ep M q.1)
theorem yM.wm{l:gO}{ps:List cK}{M:List bF}(h:yM n l ps)(hs:Zt M ps l):iN (tV n M ps) l:=⟨h.fL,λp aH=>by
 unfold tV
 rcases h.mem p aH with⟨e,q⟩|⟨e,q⟩|⟨q,aO,e⟩
 ·exact⟨_,aye,e.symm,q⟩
 ·exact⟨_,axU _ aye,e.symm,q⟩
 ·refine⟨AB M q,axU _ (axU _ (axL aO)),e.symm,?_⟩
  exact hs.dat q aO p.2 (by rw [<-e];exact aZ.J9 h.fL aH)⟩
theorem Zu{M:List bF}{ps:List cK}(b9:iz ps nx)(aW:eD M<=n):vv (tV n M ps)<=147+82*n+65*ps.length/\w4 (tV n M ps)<=19+6*ps.length/\(tV n M ps).length=ps.length+2/\(n<=100->∀c∈tV n M ps,c.1.size<=16/\c.2<16384):=by
 have aR:(ps.map (·.1)).Nodup:=by
  rw [azX,az5]
  exact b9.d.imp λh e=>by omega
 have h1:=Zl aR M
 rw [List.map_map]at h1
 have ab:vv (ps.map (AB M))=65*ps.length+26*(ps.map ((λd=>eD (ep M d))∘λx=>x.1)).sum:=by
  clear h1 aR b9
  induction ps with
  |nil=>rfl
  |cons q ps ih=>
   rw [axE,CL,ih,axE,azT,ayi]
   simp only [AB,Function.comp]
   omega
 have ar:w4 (ps.map (AB M))<=6*ps.length:=by
  have a7:∀q∈ps,q.2.2.size<=3:=λq aO=>by
   obtain⟨_,_,n,ay,e⟩:=b9.ok q aO
   rw [e];exact(qC (by have:=b9.nx;omega)).s1
  clear h1 ab aR b9
  induction ps with
  |nil=>exact ayv _
  |cons q ps ih=>
   have bs:=ih λx aa=>a7 x (by simp [aa])
   have b5:=a7 q (by simp)
   rw [axE,Ge,ayi]
   simp only [AB];omega
 have m1:gI.size=8:=by decide
 have m2:jx.size=5:=by decide
 unfold tV
 refine⟨?_,?_,by simp,λay c av=> ?_⟩
 ·rw [CL,CL,ab];simp only;omega
 ·rw [Ge,Ge];simp only;omega
 ·rcases axA.1 av with rfl|av
  ·simp only;omega
  ·rcases axA.1 av with rfl|av
   ·simp only;omega
   ·obtain⟨q,aO,rfl⟩:=ayf.1 av
    obtain⟨_,_,bn,DP,e⟩:=b9.ok q aO
    have ca:=(qC (n:=bn) (by have:=b9.nx;omega)).s1
    have b0:=AK (p:=xb q.1) M
    unfold AB
    refine⟨by simp only;rw [e];omega,?_⟩
    simp only
    unfold ep
    omega
open aS (bF cy cL eK fV fs eJ hN)
def jD(m:Nat)(M:List bF):Prop:=∀id t v,fV M id t=some v->(0<=id/\id<(m:Int))/\(0<=t/\t<1099511627776)/\eM v
theorem jD.day{m:Nat}{M:List bF}(h:jD m M)(cp:cy M)(d:Int):jD m (ep M d):=λid t v aI=>by
 rw [vO cp]at aI
 split at aI
 ·exact h id t v aI
 ·cases aI
def RowK(m:Nat)(r:Row):Prop:=(0<=r.1/\r.1<1099511627776)/\(0<=r.2.1/\r.2.1<(m:Int))/\eM r.2.2
theorem jD.put{m m':Nat}{M:List bF}{r:Row}(h:jD m M)(cp:cy M)(hm:m<=m')(aB:RowK m' r):jD m' (eK M r):=λid t v aI=>by
 rw [(aS.um (x:=r) cp).2]at aI
 split at aI
 ·rename_i e
  obtain⟨rfl,rfl⟩:=e
  cases aI
  exact⟨aB.2.1,aB.1,aB.2.2⟩
 ·have:=h id t v aI
  grind
theorem at4{S:List bF}{s:bF}(h:s∈S):s.2.length<=eD S:=by
 induction S with
 |nil=>cases h
 |cons x S ih=>
  rw [J2]
  grind
theorem J3:∀{S:List bF},(∀s∈S,s.2≠[])->S.length<=eD S
 |[],_=>ayv _
 |s::S,h=>by
  have h1:=J3 λx aa=>h x (axU s aa)
  have ab:=aAI.2 (h s (by simp))
  rw [J2,ayi];omega
theorem J4{S:List bF}{m:Nat}(cp:cy S)(aI:jD m S)(aW:eD S<=n)(ay:n<=5000):∀s∈S,(0<=s.1/\s.1<(m:Int))/\eJ s.2/\s.2≠[]/\s.2.length<=n:=λs hs=>by
 obtain⟨h1,ab⟩:=cp.2 s hs
 have aG:=at4 hs
 have q:∀y∈s.2,(0<=s.1/\s.1<(m:Int))/\(0<=y.1/\y.1<1099511627776)/\eM y.2:=λy aA=>aI s.1 y.1 y.2 ((aS.C' cp (y.1,s.1,y.2)).1 ⟨s,hs,aS.sM.2 ⟨rfl,aA⟩⟩)
 obtain⟨y,aA⟩:=aAy _ h1
 exact⟨(q y aA).1,⟨by omega,ab,λy aA=>(q y aA).2.1,λy aA=>(q y aA).2.2⟩,h1,by omega⟩
structure nG(n:Nat)(M:List bF)(L:List bR)(ps:List cK)(nx:Nat)(l:gO):Prop where
 right:cy M
 val:jD L.length M
 rl:eD M<=n
 J5:L.length<=n/\∀l∈L,kc l
 l8:iz ps nx
 num:ps.length<=n/\nx<=n
 AD:yM n l ps
 dat:∀p∈ps,∃s,aZ.dS l p.2.2=some s/\bd s=fs (ep M p.1)
 day:∀p∈ps,p.1*100<1099511627776
 all:∀id t v,fV M id t=some v->∃p∈ps,p.1=azE t 100
 ne:∀p∈ps,ep M p.1≠[]
theorem nG.nil:nG 0 [] [] [] 0 [] where
 right:=cy.nil
 val:=λid t v h=>by cases h
 rl:=axx _
 J5:=(by simp)
 l8:=⟨List.Pairwise.nil,(by simp),aBJ,by decide,by decide⟩
 num:=(by simp)
 AD:=yM.nil
 dat:=(by simp)
 day:=(by simp)
 all:=λid t v h=>by cases h
 ne:=(by simp)
variable{n nx:Nat}{M:List bF}{L:List bR}{ps:List cK}{l:gO}
theorem nG.kE(h:nG n M L ps nx l)(ay:n<=50):∀s∈M,(0<=s.1/\s.1<(L.length:Int))/\eJ s.2/\s.2≠[]/\s.2.length<=n:=J4 h.right h.val h.rl (by omega)
theorem nG.Zv(h:nG n M L ps nx l)(ay:n<=50){db:ey}{A:en}(aL:A.ps=ps)(a':A.nx=nx)(cX:∀p∈ps,db.st.now p.2.2=aZ.dS l p.2.2):Gk M n db A:=by
 subst aL
 subst a'
 have hs:=h.kE ay
 exact⟨h.right,h.rl,by have:=J3 λs cQ=>(hs s cQ).2.2.1;have:=h.rl;omega,λs cQ=>by have:=(hs s cQ).1;have:=h.J5.1;omega,(by grind),λs cQ=>(hs s cQ).2.1.dH,h.l8,h.day,λp aH=>by rw [cX p aH];exact h.dat p aH,h.all⟩
theorem PA{m k:Nat}{M:List bF}(cp:cy M)(aI:jD m M)(hm:m<=200)(aW:eD M<=k)(hk:k<=100)(d:Int):hN (ep M d)/\(ep M d).length<=100/\(∀y∈ep M d,y.2.length<=100)/\(fs (ep M d)).length<=2+26*eD (ep M d):=by
 have h1:=rm cp d
 have ab:=AK (p:=xb d) M
 have ar:=J4 h1 (aI.day cp d) (n:=k) (by unfold ep;omega) (by omega)
 have a7:=J3 λs hs=>(ar s hs).2.2.1
 have bs:eD (ep M d)<=eD M:=ab
 refine⟨⟨h1,λs hs=> ?_⟩,by omega,λs hs=> ?_,at2 (by omega) λs hs=> ?_⟩
 ·grind
 ·grind
 grind
theorem nG.PB(h:nG n M L ps nx l)(ay:n<=50):Zt M ps l:=⟨λq aO s hs=>by
 obtain⟨s',aL,a'⟩:=h.dat q aO
 rw [hs]at aL
 cases aL
 have:=(PA h.right h.val (by have:=h.J5.1;omega) h.rl (by omega) q.1).2.2.2
 rw [<-a',dR]at this
 exact this⟩
theorem iN.more{b:List (ByteArray×Nat)}{l:gO}(h:iN b l)(c:ByteArray×Nat):iN (c::b) l:=⟨h.fL,λp aH=>by
 obtain⟨d,aR,e⟩:=h.mem p aH
 grind⟩
def PC(n:Nat)(M:List bF)(ps:List cK)(nx:Nat):List (ByteArray×Nat):=(jx,1+41*(n+1))::(gI,20+15*(n+1))::(c6 nx,28+26*n)::(ei,200)::tV n M ps
def Gf(sz:Int)(n:Nat):Prop:=n<50/\(sz=512\/(sz=64/\n=0))
theorem nG.Zw(h:nG n M L ps nx l)(ay:Gf sz n):AA sz (PC n M ps nx):=by
 have bb:=ay.1
 obtain⟨c1,c2,c3,c4⟩:=Zu h.l8 h.rl
 have q:=h.num
 have ca:=(qC (n:=nx) (by omega)).s1
 have m1:gI.size=8:=by decide
 have m2:jx.size=5:=by decide
 have m3:ei.size=3:=by decide
 unfold PC
 refine⟨λc av=> ?_,?_,?_⟩
 ·grind
 ·grind
 ·simp only [CL,Ge]
  rcases ay.2 with e|⟨e,ed⟩
  ·omega
  omega
def jq(l:gO)(w:ByteArray):gO:=(ei,w)::aZ.fx ei l
def at5(lw:gO)(ps:List cK)(nx:Nat)(d:Int)(data:ByteArray)(fJ:gO)(iB:List cK)(qI:Nat):Prop:=(mf lw ps d data/\fJ=lw/\iB=ps/\qI=nx)\/(¬mf lw ps d data/\fJ=jv lw ps nx d data/\iB=gp (d,0,c6 nx) ps/\qI=nx+1)
theorem PD{l:gO}{w y:ByteArray}(h:y≠ei):aZ.dS (jq l w) y=aZ.dS l y:=by
 unfold jq
 rw [yZ,if_neg h]
theorem at6{b:List (ByteArray×Nat)}{l:gO}{data:ByteArray}(h:iN b l){k:Nat}(aR:data.size<=k):iN ((c6 nx,k)::b) ((c6 nx,data)::aZ.fx (c6 nx) l)/\iN ((c6 nx,k)::b) (jv l ps nx d data):=by
 have h1:=h.put (k:=c6 nx) aR
 refine⟨h1,?_⟩
 unfold jv
 cases fW ps d with
 |none=>exact h1
 |some p=>exact h1.off _
theorem nG.Zx(h:nG n M L ps nx l)(ay:Gf sz n){w data:ByteArray}(hw:w.size<=200)(aR:data.size<=28+26*n):
  aZ.Room sz ((c6 nx,data)::aZ.fx (c6 nx) (jq l w))/\aZ.Room sz (jv (jq l w) ps nx d data)/\∀fJ,fJ=jq l w\/fJ=jv (jq l w) ps nx d data->∀u i:ByteArray,u.size<=20+15*(n+1)->i.size<=1+41*(n+1)→
   aZ.Room sz ((gI,u)::aZ.fx gI fJ)/\aZ.Room sz ((jx,i)::aZ.fx jx ((gI,u)::aZ.fx gI fJ))/\aZ.Room sz (nR fJ u i)/\iN (PC n M ps nx) (nR fJ u i):=by
 have bb:=ay.1
 have bM:=h.Zw ay
 have aF:iN ((ei,200)::tV n M ps) (jq l w):=(h.AD.wm (h.PB (by omega))).put hw
 obtain⟨h1,ab⟩:=at6 (ps:=ps) (nx:=nx) (d:=d) aF aR
 have up:∀{l:gO},iN ((c6 nx,28+26*n)::(ei,200)::tV n M ps) l->aZ.Room sz l:=λh=>((h.more _).more _).room bM
 refine⟨up h1,up ab,λfJ PE u i hu az=> ?_⟩
 have ar:iN ((c6 nx,28+26*n)::(ei,200)::tV n M ps) fJ:=by
  rcases PE with rfl|rfl
  ·exact aF.more _
  ·exact ab
 have a7:=ar.put (k:=gI) hu
 have bs:=a7.put (k:=jx) az
 have b5:=bs.off ei
 exact⟨(a7.more _).room bM,bs.room bM,b5.room bM,b5⟩
theorem at7{fJ:gO}{u i:ByteArray}{p:ByteArray×ByteArray}(h:p∈nR fJ u i):p.1≠ei/\(p=(jx,i)\/p=(gI,u)\/(p.1≠jx/\p.1≠gI/\p∈fJ)):=by
 unfold nR aZ.fx at h
 grind
theorem aua{fJ:gO}{u i y:ByteArray}(h1:y≠ei)(ab:y≠jx)(ar:y≠gI):aZ.dS (nR fJ u i) y=aZ.dS fJ y:=by
 unfold nR
 rw [aZ.AF,if_neg h1,yZ,if_neg ab,yZ,if_neg ar]
theorem nG.next(h:nG n M L ps nx l)(aE:Gf sz n){L':List bR}(bZ:L.length<=L'.length/\L'.length<=n+1/\∀l∈L',kc l){r:Row}(aB:RowK L'.length r){w data:ByteArray}(hw:w.size<=200)(aR:bd data=fs (ep (eK M r) (azE r.1 100)))
  {fJ:gO} {iB:List cK} {qI:Nat} {u:ByteArray} (hO:at5 (jq l w) ps nx (azE r.1 100) data fJ iB qI) (hu:u.size<=20+15*iB.length):nG (n+1) (eK M r) L' iB qI (nR fJ u ⟨(dh.encI L').toArray⟩):=by
 have ay:=aE.1
 obtain⟨fB,gj⟩:=aS.um (x:=r) h.right
 have aI:=h.val.put h.right bZ.1 aB
 have aW:=JD r M
 have cd:=h.rl
 generalize lf:azE r.1 100=d at *
 have nK:d=r.1/100:=by rw [<-lf,aBI aB.1.1]
 have yW:=aB.1
 have dF:data.size<=28+26*n:=by
  have h1:=(PA fB aI (by omega) (k:=n+1) (by omega) (by omega) d).2.2.2
  have ab:=AK (p:=xb d) (eK M r)
  rw [<-aR,dR]at h1
  unfold ep at h1;omega
 have j2:=GF (x:=(d,0,c6 nx)) (ps:=ps)
 have PF:=h.num
 have aub:iB.length<=n+1/\qI<=n+1:=by
  rcases hO with⟨_,_,aL,a'⟩|⟨_,_,aL,a'⟩<;>rw [aL,a']<;>omega
 have az:(⟨(dh.encI L').toArray⟩:ByteArray).size<=1+41*(n+1):=by
  rw [fD]
  have:=Zn (by omega) bZ.2.2;omega
 have PE:fJ=jq l w\/fJ=jv (jq l w) ps nx d data:=by
  rcases hO with⟨_,e,_⟩|⟨_,e,_⟩
  ·exact .inl e
  ·exact .inr e
 have auc:=(((h.Zx aE hw dF (d:=d)).2.2 fJ PE u ⟨(dh.encI L').toArray⟩ (by omega) az).2.2.2)
 have o2:∀{k:Nat},k<100->∀{y:ByteArray},y.data.toList.head?≠some 102->c6 k≠y:=λ{k} hk {y} aA=>C9 hk aA
 have Zy:ei.data.toList.head?≠some 102:=by decide
 have aud:jx.data.toList.head?≠some 102:=by decide
 have aue:gI.data.toList.head?≠some 102:=by decide
 have Aq:iz iB qI:=by
  rcases hO with⟨_,_,aL,a'⟩|⟨_,_,aL,a'⟩
  ·rw [aL,a'];exact h.l8
  ·rw [aL,a'];exact iz.set h.l8 (by omega) (by omega) (by omega) (by omega)
 have gi:∀p∈ps,p.1≠d->p∈iB:=λp aH hpd=>by
  rcases hO with⟨_,_,aL,_⟩|⟨_,_,aL,_⟩
  ·rw [aL];exact aH
  ·rw [aL];exact GM aH hpd
 have new:∃p∈iB,p.1=d:=by
  rcases hO with⟨⟨p,aH,_⟩,_,aL,_⟩|⟨_,_,aL,_⟩
  ·obtain⟨ca,b0⟩:=xt aH
   grind
  ·exact⟨_,by rw [aL];exact Dj,rfl⟩
 have Zz:∀d',ep (eK M r) d'=if d=d' then eK (ep M d') r else ep M d':=λd'=>by rw [Rr h.right,lf]
 have cls:∀p∈iB,(p.1=d/\aZ.dS fJ p.2.2=some data)\/(p.1≠d/\p∈ps/\aZ.dS fJ p.2.2=aZ.dS l p.2.2):=λp aH=>by
  have ZA:∀q∈ps,q.2.2≠ei:=λq aO=>by
   obtain⟨_,_,k,hk,e⟩:=h.l8.ok q aO
   rw [e];exact o2 (by omega) Zy
  rcases hO with⟨⟨q,aO,axp⟩,ed,aL,_⟩|⟨gY,ed,aL,_⟩
  ·rw [aL]at aH
   rw [ed]
   by_cases he:p.1=d
   ·have:q=p:=by
     have:=C7 h.l8.d aH
     grind
    grind
   ·exact .inr ⟨he,aH,PD (ZA p aH)⟩
  ·rw [aL]at aH
   rw [ed]
   rcases xx aH with rfl|⟨yw,cP⟩
   ·exact .inl ⟨rfl,abE h.l8⟩
   ·have cP:=cP h.l8.d
    exact .inr ⟨cP,yw,by rw [Ro h.l8 yw cP];exact PD (ZA p yw)⟩
 refine⟨fB,aI,by omega,⟨bZ.2.1,bZ.2.2⟩,Aq,aub,⟨auc.fL,λp aH=> ?_⟩,λp aH=> ?_,λp aH=> ?_,λid t v hv'=> ?_,λp aH=> ?_⟩
 ·obtain⟨X7,q⟩:=at7 aH
  rcases q with rfl|rfl|⟨ca,b0,cY⟩
  ·exact .inr (.inl ⟨rfl,az⟩)
  ·grind
  ·refine .inr (.inr ?_)
   have auf:∀p∈jq l w,p.1≠ei->p.1≠jx->p.1≠gI->∃q∈ps,p.1=q.2.2:=λp aH h1 ab ar=>by
    rcases axA.1 aH with rfl|aH
    ·exact absurd rfl h1
    ·rcases h.AD.mem p (ax2.1 aH).1 with⟨e,_⟩|⟨e,_⟩|e
     ·exact absurd e ar
     ·exact absurd e ab
     ·exact e
   rcases hO with⟨_,ed,aL,_⟩|⟨_,ed,aL,_⟩
   ·grind
   ·rw [ed]at cY
    rw [aL]
    have eP:p∈(c6 nx,data)::aZ.fx (c6 nx) (jq l w)/\∀q,fW ps d=some q->p.1≠q.2.2:=by
     unfold jv at cY
     cases e:fW ps d with
     |none=>grind
     |some q=>
      rw [e]at cY
      obtain⟨ht,z2⟩:=ax2.1 cY
      grind
    rcases axA.1 eP.1 with rfl|iw
    ·exact⟨_,Dj,rfl⟩
    ·obtain⟨q,aO,e⟩:=auf p (ax2.1 iw).1 X7 ca b0
     refine⟨q,GM aO λhe=> ?_,e⟩
     have:=C7 h.l8.d aO
     grind
 ·obtain⟨_,_,k,hk,e⟩:=Aq.ok p aH
  have qG:=Aq.nx
  rw [aua (by rw [e];exact o2 (by omega) Zy) (by rw [e];exact o2 (by omega) aud) (by rw [e];exact o2 (by omega) aue)]
  rcases cls p aH with⟨ca,b0⟩|⟨ca,b0,cY⟩
  ·grind
  ·rw [cY,Zz,if_neg (Ne.symm ca)]
   exact h.dat p b0
 ·rcases cls p aH with⟨ca,_⟩|⟨_,b0,_⟩
  ·rw [ca];omega
  ·exact h.day p b0
 ·rw [gj]at hv'
  split at hv'
  ·grind
  ·obtain⟨p,aH,e⟩:=h.all id t v hv'
   grind
 ·rw [Zz]
  rcases cls p aH with⟨ca,_⟩|⟨ca,b0,_⟩
  ·rw [if_pos ca.symm]
   exact Rs (rm h.right _) r
  ·rw [if_neg (Ne.symm ca)]
   exact h.ne p b0
theorem fN.xz{A:en}{db:ey}{K:Int->Int->Bool->U->Prop}(h:fN H X x A db)(b9:iz A.ps nx)(hk:∀H',Fr [] H H'->K 0 0 false H'):
  aK Qj [ax (some (ak x))] H λv H'=>∃d l b,v=.tuple ⟨[.int .i64 d,.int .i64 l,.bool b]⟩/\K d l b H':=
 aaX h.bz rfl rfl h.om (by have:=h.om.len;have:=b9.len;omega) (λy aA=>by have:=(b9.ok y aA).2.1;omega) h.nH h.pm hk
theorem aco{A:en}{db:ey}{K:Bool->Int->U->Prop}(h:fN H X x A db)(b9:iz A.ps nx)(hw:db.st.now ei=none)(hk:∀H',Fr [] H H'->K false 0 H'):
  aK GV [ax (some (ak x))] H λv H'=>∃b e,v=.tuple ⟨[.bool b,.int .i64 e]⟩/\K b e H':=by
 apply RO
 refine fN.xz h b9 λH1 f1=>K0 (h.ag f1).bz rfl (h.ag f1).bT ?_
 rw [hw]
 exact au (λc=>by cases c) λ_=>⟨false,(h.ag f1).bz.fk 6 rfl,au (λc=>by cases c) λ_=>au (λc=>by cases c) λ_=>⟨_,_,rfl,hk H1 f1⟩⟩
theorem acp{A:en}{db:ey}{K:Bool->Int->U->Prop}(h:fN H X x A db)(b9:iz A.ps nx)(hw:(db.st.now ei).isSome=true)
  (hk:∀H1,Fr [] H H1->aK Rt [ax (some (ak x))] H1 λv H'=>∃e,v=.int .i64 e/\K (e==0) e H'):
  aK GV [ax (some (ak x))] H λv H'=>∃b e,v=.tuple ⟨[.bool b,.int .i64 e]⟩/\K b e H':=by
 apply RO
 refine fN.xz h b9 λH1 f1=>K0 (h.ag f1).bz rfl (h.ag f1).bT ?_
 rw [hw]
 exact au (λ_=>(hk H1 f1).mono λv H' ⟨e,h1,ab⟩=>⟨e,h1,_,_,rfl,ab⟩) λc=>by cases c
open aS (dd)
theorem arQ{A:en}{m:ob}{p:dZ}{K:Value->U->Prop}(h:a6 H ⟨x,0,none⟩ (o0 A))(aH:FV H m p)(aG:m.1.2.1<=1000000)
  (eV:h3 0 p->∀H',Fr [] H H'->K .nilIface H') (cq:¬h3 0 p->∀v H',XL H' v (pH p)->eM (pH p)->Fr [] H H'->K v H'):
  kY arR [ax (some (ak x)),JC m] H K:=by
 apply arS
 intro b H1 bb
 have dA:a6 H1 ⟨b,0,none⟩ (l5.cells m):=bb.bz
 refine⟨_,_,_,dA.bY rfl,?_⟩
 refine LI (aH.1.ag bb.af) (by omega) λao f2=> ?_
 have j0:=bb.af.aT f2
 have cO:=dA.ag f2
 have wv:=h.ag j0
 obtain⟨jE,lA⟩:=aH
 refine au (λc=>⟨_,rfl,?_⟩) (λc=> ?_)
 ·have av:¬fa p.1:=λaq=>by simp [u6,aq]at c
  have e:pH p=u6 p.1:=by unfold pH;rw [zB av];rfl
  have:=cq (λaq=>av aq.1) (.iface 96 (.agg ⟨[.int .i64 (u6 p.1)]⟩)) ao (.inl (by rw [e])) (by rw [e,zB av];exact⟨by decide,by decide⟩) j0
  exact this
 ·have av:fa p.1:=Classical.byContradiction λaq=>by simp [u6,aq]at c
  have aL:pH p=1:=by unfold pH;rw [BE av];rfl
  refine⟨λae H'=>H'=ao/\ae=[.bool (decide (p.2.1<0)||decide (p.2.1>=1099511627776))],⟨_,cO.fk 1 rfl,au (λc1=> ?_) (λc1=>⟨_,cO.fk 1 rfl,?_⟩)⟩,?_⟩
  ·rw [lA]at c1;exact⟨rfl,by rw [c1];rfl⟩
  ·rw [lA]at c1⊢;exact⟨rfl,by rw [c1];rfl⟩
  ·rintro br o4 H' ⟨rfl,h4⟩
   cases h4
   refine au (λc1=>⟨_,rfl,?_⟩) (λc1=>⟨_,cO.fk 1 rfl,_,wv.fk 12 rfl,au (λc2=>⟨_,rfl,?_⟩) (λc2=>⟨_,rfl,?_⟩)⟩)
   ·simp at c1
    exact cq (λaq=>by have:=aq.2.1;have:=aq.2.2.1;omega) _ H' (.inr (.inl ⟨rfl,aL⟩)) (by rw [aL];exact⟨by decide,by decide⟩) j0
   ·rw [lA]at c2
    simp at c1 c2
    omega
   ·rw [lA]at c2
    simp at c1 c2
    exact eV ⟨av,by omega,by omega,by omega⟩ H' j0
theorem Yb{N b M c:Nat}{m:aZ.eX}{a:Option Addr}{A:en}{db:ey}{ms:List ob}{ps:List dZ}{K:Int->U->Prop}(h:jX H X x N b M m A db)
  (aa:bt l5 H a n c ms) (aH:wV H ms ps) (JI:∀m∈ms,m.1.2.1<=1000000) (aI:∀p∈ps,eM p.2.2) (ay:1<=n/\n<=50) (bZ:db.L.length+n<=200) (Yc:(∀p∈ps,h3 0 p)->nC m.size db (nA db.L ps)=0) (fl:N+50<=40000) (cO:b<=20000000) (cV:M<=90) (cT:∀k,k<7->X k)
  (cq:∀H',gW ps≠0->Fr [] H H'->K (gW ps) H')
  (eV:∀H' dG,gW ps=0->jX H' X x (N+50) (b+400000) (M+1) m dG ((nA db.L ps).foldl iZ {db with st:=lM db (nA db.L ps)})->dG.gb=A.gb->dG.ps=A.ps->dG.nx=A.nx->Fr (kB x A) H H'->K 0 H'):
  cG JN [ax (some (ak x)),J a n c] H K:=by
 apply arT
 have k5:=aa.len
 have j2:=dd.len aH
 have no:∀{k:Nat} {p:dZ} {H'},(∀q∈ps.take k,h3 0 q)->ps[k]?=some p->¬h3 0 p->Fr [] H H'->∃dp,Value.int .i64 (pH p)=.int .i64 dp/\K dp H':=λ{k p H'} h1 ab ar ai=>by
  have e:=Yd h1 ab ar
  exact⟨_,rfl,by rw [<-e];exact cq H' (by rw [e];exact Pc p) ai⟩
 refine⟨λae H'=>H'=H/\1<=n/\n<=50,au (λc1=>by exfalso;simp at c1;omega) (λc1=>au (λc2=>by exfalso;simp at c2;omega) λc2=>⟨rfl,ay.1,ay.2⟩),?_⟩
 rintro br cw ⟨rfl,bb,bK⟩
 refine⟨λae H'=>match ae with|[.int _ i]=>∃k:Nat,i=k/\k<=n/\(∀p∈ps.take k,h3 0 p)/\Fr [] cw H'|_=>False,λae _=>match ae with|[.int _ i]=>n-i.toNat|_=>0,⟨0,rfl,by omega,by simp,Fr.refl _ _⟩,?_⟩
 rintro br i H1 ⟨k,rfl,eC,e',f1⟩
 refine au (λc0=> ?_) (λc0=> ?_)
 ·have k4:k<n:=by simpa using c0
  obtain⟨mm,hm⟩:=fM (l:=ms) (i:=k) (by omega)
  obtain⟨p,l4,cp⟩:=aH.get hm
  refine(aa.ag f1).get rfl hm (bh (by omega)) λaC b4 av=>⟨_,_,_,_,_,XJ av,λim ao ou=>XK ou rfl λaP fm f3=>⟨_,_,_,_,_,fm.f' rfl,?_⟩⟩
  have f13:=f1.aT f3
  have ar:=h.p.ag f13
  have gv:ps.take (k+1)=ps.take k++[p]:=by rw [azP,l4];rfl
  refine arQ ar.bz (p:=p) ⟨cp.1.ag f13,cp.2⟩ (JI mm (azR hm)) (λhk a8 f4=>⟨false,aqk,au (λc=>by simp at c) λ_=> ?_⟩) (λhk v a8 aw az f4=> ?_)
  ·rw [cE (by omega)]
   exact⟨⟨k+1,rfl,by omega,λq aO=>by rw [gv]at aO;rcases azb.1 aO with w|w;exact e' q w;simp at w;subst w;exact hk,f13.aT f4⟩,dU k4⟩
  ·have aI:∃r,kM azB (jk BinOp.neq 93 (Operand.tmp 36) (Operand.const .nilIface) v .nilIface) (.bool r)/\r=true:=by
    rcases aw with rfl|⟨rfl,_⟩|⟨rfl,_⟩<;>exact⟨_,aql,rfl⟩
   obtain⟨r,aB,rfl⟩:=aI
   refine⟨_,aB,au (λ_=> ?_) (λc=>by simp at c)⟩
   exact aqs (R:=λv H'=>∃dp,v=.int .i64 dp/\K dp H') aw λbA f5=>no e' l4 hk ((f13.aT f4).aT f5)
 have z8:k=n:=by simp at c0;omega
 have fe:∀p∈ps,h3 0 p:=λp aH=>e' p (by rw [ayB (by omega)];exact aH)
 intro im ao ou b1 aP bw
 have ed:=ou.eq
 have cX:=bw.eq
 have z0:=ou.size
 have z3:=bw.size
 have axc:=f1.size
 refine MR (m:=od (none,0,0)) (m':=m0 0) bw.bz λa8 gm f4=> ?_
 have z4:=f4.size
 have f34:Fr [] H1 a8:=(ou.af.aT bw.af).ag f4 λk hk=>by simp at hk;omega
 have kH:=f1.aT f34
 have arU:oc a8 im db.L.length []:=((oc.new ou).af bw.af (by simp)).af f4 (by simp;omega)
 have MN:db.L.length<=200:=h.p.bH.1.len
 refine⟨λae H'=>match ae with|[.slice aV bn bg,.int _ i]=>∃(k:Nat) (iL:List eH) (aR:eH),i=k/\k<=n/\oc H' im db.L.length (b6 db.L (ps.take k)).1/\a6 H' ⟨b1,0,none⟩ (gV (od aR))/\Own kW 103 a8.size H' aR.1 aR.2.1 aR.2.2 (b6 db.L (ps.take k)).2/\Own r6 84 a8.size H' aV bn bg (iL.map vn)/\nB H' a8.size iL (b6 db.L (ps.take k)).1/\Fr [] cw H'/\a8.size<=H'.size|_=>False,
  λae _=>match ae with|[_,.int _ i]=>n-i.toNat|_=>0,⟨0,[],(none,0,0),rfl,by omega,arU,gm,Own.nil _ _ _ _,Own.nil _ _ _ _,.nil,kH,axx _⟩,?_⟩
 rintro br aV bn bg i bA ⟨k,iL,aR,rfl,eC,bS,dI,vr,vs,tQ,f5,z5⟩
 have mR:=OZ db.L (ps.take k) ([],[])
 have Pd:(b6 db.L (ps.take k)).1.length<=k/\(b6 db.L (ps.take k)).2.length=k:=by
  unfold b6
  have:(ps.take k).length=k:=by rw [ayj];omega
  simp only [azs]at mR
  omega
 have Ye:=dd.len tQ
 have pT:=vs.1
 rw [azU]at pT
 refine au (λc0=> ?_) (λc0=> ?_)
 ·have k4:k<n:=by simpa using c0
  obtain⟨mm,hm⟩:=fM (l:=ms) (i:=k) (by omega)
  obtain⟨p,l4,cp⟩:=aH.get hm
  have pN:=azR l4
  have dj:=(fe p pN).1
  have sV:=JI mm (azR hm)
  have dW:=aqv (L:=db.L) l4
  refine(aa.ag f5).get rfl hm (bh (by omega)) λaC b4 av=>⟨_,_,_,_,_,XJ av,λbI ct j7=>XK j7 rfl λdx mQ f7=> ?_⟩
  have f57:=f5.aT f7
  refine⟨_,(h.p.ag f57).bz.fk 2 rfl,_,_,_,mQ.bY rfl,dh.tW (h.p.ag f57).bH (cp.1.ag f57) (by omega) λeQ f8=> ?_⟩
  have f78:=f7.aT f8
  have f58:=f57.aT f8
  have KR:=f78.size
  have vars:a6 eQ ⟨bI,0,none⟩ (l5.cells mm):=mQ.ag f8
  have step:∀(JO:List eH) (nk:Option Addr) (pr lT:Nat) (F':List bR) (id:Int) (cN:U),b6 db.L (ps.take (k+1))=(F',(b6 db.L (ps.take k)).2++[(mm.2.1,id,mm.2.2)])->Fr [] cw cN->a8.size<=cN.size→
    oc cN im db.L.length F'->nB cN a8.size JO F'->Own r6 84 a8.size cN nk pr lT (JO.map vn)->a6 cN ⟨bI,0,none⟩ (l5.cells mm)->a6 cN ⟨b1,0,none⟩ (gV (od aR))->Own kW 103 a8.size cN aR.1 aR.2.1 aR.2.2 (b6 db.L (ps.take k)).2→
    ∀hd' H',a6 H' ⟨b1,0,none⟩ (gV (od hd'))->Own kW 103 a8.size H' hd'.1 hd'.2.1 hd'.2.2 ((b6 db.L (ps.take k)).2++[(mm.2.1,id,mm.2.2)])->Fr (b1::an aR.1) cN H'→
    ∃(eg:Nat) (iL:List eH) (aR:eH),IntKind.i64.wrap ((k:Int)+1)=eg/\eg<=n/\oc H' im db.L.length (b6 db.L (ps.take eg)).1/\a6 H' ⟨b1,0,none⟩ (gV (od aR))/\Own kW 103 a8.size H' aR.1 aR.2.1 aR.2.2 (b6 db.L (ps.take eg)).2/\Own r6 84 a8.size H' nk pr lT (iL.map vn)/\nB H' a8.size iL (b6 db.L (ps.take eg)).1/\Fr [] cw H'/\a8.size<=H'.size:=by
   intro JO nk pr lT F' id cN mV f9 z9 g1 g2 g3 g4 g5 g6 hd' H' fq gT lb
   have axd:=lb.size
   refine⟨k+1,JO,hd',cE (by omega),by omega,?_,fq,?_,g3.af lb (fO λq aO aq=> ?_),?_,f9.ag lb λq aO=> ?_,by omega⟩
   ·rw [mV];exact g1.af lb λaq=>by
     simp only [axA]at aq
     rcases aq with w|w
     ·omega
     ·have:=(g6.ge _ w).1;omega
   ·rw [mV];exact gT
   ·simp only [axA]at aq
    rcases aq with w|w
    ·have:=(g3.ge _ aO).1;omega
    ·exact dh.tj (by decide) g3 g6 q aO w
   ·rw [mV]
    refine nB.af g2 lb λnI jU q aO aq=> ?_
    obtain⟨hX,_,oE⟩:=dd.mem g2 jU
    simp only [axA]at aq
    rcases aq with w|w
    ·have:=(oE.ge _ aO).1;omega
    ·exact dh.tj (by decide) oE g6 q aO w
   ·simp only [axA]at aO
    rcases aO with w|w
    ·omega
    ·have:=(g6.ge _ w).1;omega
  have yC:=cp.2
  cases iC:hY db.L p.1 with
  |some i=>
   refine au (λc=>by simp at c) λ_=> ?_
   have mV:b6 db.L (ps.take (k+1))=((b6 db.L (ps.take k)).1,(b6 db.L (ps.take k)).2++[(mm.2.1,D9 db.L p.1,mm.2.2)]):=by
    rw [dW];unfold iY D9;rw [iC,yC]
   refine O0 vars (dI.ag f78) (vr.ag f78) (by omega) (by omega) (by omega) λhd' H' fq gT lb=> ?_
   refine⟨step iL aV bn bg _ _ eQ mV f58 (by omega) (bS.af f78 (by simp)) (nB.af tQ f78 (by simp)) (vs.ag f78) vars (dI.ag f78) (vr.ag f78) hd' H' fq gT lb,?_⟩
   rw [cE (by omega)];exact dU k4
  |none=>
   refine au (λ_=> ?_) λc=>by simp at c
   refine⟨_,_,_,vars.bY rfl,dh.LH (cp.1.ag f58) (by omega) (λaq=>absurd dj aq) λ_ cN f9=> ?_⟩
   have f79:=f78.aT f9
   have f59:=f58.aT f9
   have z9:=f79.size
   have sN:=bS.af f79 (by simp)
   refine⟨_,_,sN.look dj,?_⟩
   cases hpos2:hY (b6 db.L (ps.take k)).1 p.1 with
   |some j=>
    refine au (λc=>by simp at c) λ_=> ?_
    have mV:b6 db.L (ps.take (k+1))=((b6 db.L (ps.take k)).1,(b6 db.L (ps.take k)).2++[(mm.2.1,((db.L.length+j:Nat):Int),mm.2.2)]):=by
     rw [dW];unfold iY;rw [iC];simp only;rw [hpos2,yC]
    refine O0 (vars.ag f9) (dI.ag f79) (vr.ag f79) (by omega) (by omega) (by omega) λhd' H' fq gT lb=> ?_
    refine⟨step iL aV bn bg _ _ cN mV f59 (by omega) sN (nB.af tQ f79 (by simp)) (vs.ag f79) (vars.ag f9) (dI.ag f79) (vr.ag f79) hd' H' fq gT lb,?_⟩
    rw [cE (by omega)];exact dU k4
   |none=>
    refine au (λ_=> ?_) λc=>by simp at c
    have mV:b6 db.L (ps.take (k+1))=((b6 db.L (ps.take k)).1++[p.1],(b6 db.L (ps.take k)).2++[(mm.2.1,((db.L.length+(b6 db.L (ps.take k)).1.length:Nat):Int),mm.2.2)]):=by
     rw [dW];unfold iY;rw [iC];simp only;rw [hpos2,yC]
    refine⟨_,(h.p.ag f59).bz.fk 2 rfl,dh.y3 (h.p.ag f59).bH ⟨_,sN.len,?_⟩⟩
    rw [aS.IY (by omega)]
    refine sN.put dj hpos2 (by omega) λhj arV f10=> ?_
    have BY:im<a8.size:=by omega
    have Re:=f10.size
    have Yf:Fr [] cw hj:=f59.ag f10 λq aO=>by simp at aO;omega
    have v10:a6 hj ⟨bI,0,none⟩ (l5.cells mm):=(vars.ag f9).af f10 (by simp;have:=j7.eq;omega)
    have arW:a6 hj ⟨b1,0,none⟩ (gV (od aR)):=(dI.ag f79).af f10 (by simp;omega)
    have Yg:=(vr.ag f79).af f10 (fO λq aO aq=>by simp at aq;have:=(vr.ge q aO).1;omega)
    have F0:=(vs.ag f79).af f10 (fO λq aO aq=>by simp at aq;have:=(vs.ge q aO).1;omega)
    have l10:nB hj a8.size iL _:=nB.af (nB.af tQ f79 (by simp)) f10 λnI jU q aO aq=>by
     obtain⟨hX,_,oE⟩:=dd.mem tQ jU
     simp at aq;have:=(oE.ge q aO).1;omega
    refine⟨_,_,_,v10.bY rfl,dh.xZ (cp.1.ag Yf) (by omega) λwY nl cl jO ol f11 dz mj xw=> ?_⟩
    have KA:=f11.size
    have ape:=xw.size
    have f12:=f11.aT xw.af
    refine ic (t:=84) (E:=r6) (bytes:=88) (by kernel_rfl) (by kernel_rfl) (F0.ag f12) (fy r6 (vn (wY,nl,cl)) xw rfl) (by omega) (by omega) λnk pr lT rD o13 f13 g13=> ?_
    have axe:=f13.size
    have c12:=F0.ag f12
    have arX:b1∉an aV:=λaq=>by have:=(F0.ge _ aq).1;omega
    have arY:im∉an aV:=λaq=>by have:=(F0.ge _ aq).1;omega
    have arZ:bI∉an aV:=λaq=>by
     have:=(vs.ge _ aq).2
     have:=j7.eq
     omega
    have ar0:Fr [] cw rD:=(Yf.aT f12).ag f13 λq aO=>by have:=(F0.ge q aO).1;have:=kH.size;omega
    have Yh:=(Yg.ag f12).af f13 (fO λq aO aq=>dh.tj (by decide) (Yg.ag f12) c12 q aO aq)
    have Yi:=(v10.ag f12).af f13 arZ
    have Yj:=(arW.ag f12).af f13 arX
    have ar1:Own r6 84 a8.size rD nk pr lT ((iL++[(wY,nl,cl)]).map vn):=by rw [azj];exact o13
    have ar2:nB rD a8.size (iL++[(wY,nl,cl)]) ((b6 db.L (ps.take k)).1++[p.1]):=by
     refine dd.app (nB.af (nB.af l10 f12 (by simp)) f13 λnI jU q aO aq=> ?_) (.cons ?_ .nil)
     ·obtain⟨hX,_,oE⟩:=dd.mem l10 jU
      exact dh.tj (by decide) (oE.ag f12) c12 q aO aq
     ·have Yk:=(ol.base (base':=a8.size) (by omega)).ag xw.af
      exact Yk.af f13 (fO λq aO aq=>dh.tj (by decide) Yk c12 q aO aq)
    refine O0 Yi Yj Yh (by omega) (by omega) (by omega) λhd' H' fq gT lb=> ?_
    refine⟨step _ nk pr lT _ _ rD mV ar0 (by omega) ((arV.af f12 (by simp)).af f13 arY) ar2 ar1 Yi Yj Yh hd' H' fq gT lb,?_⟩
    rw [cE (by omega)];exact dU k4
 ·have z8:k=n:=by simp at c0;omega
  have mO:ps.take k=ps:=ayB (by omega)
  rw [mO]at bS vr tQ Pd Ye
  refine⟨_,(h.p.ag f5).bz.fk 2 rfl,dh.y3 (h.p.ag f5).bH ⟨_,bS.len,?_⟩⟩
  rw [aS.IY (by omega)]
  refine au (λc1=>by exfalso;simp at c1;omega) λc1=> ?_
  refine⟨_,_,_,_,_,_,_,_,_,_,_,dI.f' rfl,λdz ct j7=> ?_⟩
  have HY:=j7.size
  refine ic (t:=84) (E:=r6) (bytes:=88) (by kernel_rfl) (by kernel_rfl) (vs.ag j7.af) (fy r6 (od aR) j7 rfl) (by omega) (by omega) λnk pr lT dx o7 f7 g7=> ?_
  have lx:=vs.ag j7.af
  have xf:=f7.size
  have xE:Fr [] cw dx:=(f5.aT j7.af).ag f7 λq aO=>by have:=(vs.ge q aO).1;have:=kH.size;omega
  have Yl:=(vr.ag j7.af).af f7 (fO λq aO aq=>dh.tj (by decide) (vr.ag j7.af) lx q aO aq)
  have IX:nB dx a8.size iL _:=nB.af (nB.af tQ j7.af (by simp)) f7 λnI jU q aO aq=>by
   obtain⟨hX,_,oE⟩:=dd.mem tQ jU
   exact dh.tj (by decide) (oE.ag j7.af) lx q aO aq
  have F1:nA db.L ps=(b6 db.L ps).1.map oT++[⟨1,[],(b6 db.L ps).2,[],0⟩]:=rfl
  have Ym:=o7.1
  have B4:∀q∈kB x A,q<a8.size:=λq aO=>by have:=(h.p.wr q aO).2;have:=kH.size;omega
  have yF:∀{α:Type} {E:di α} {H:U},bt E H none 0 0 []:=⟨rfl,axx _,.inl rfl⟩
  have xv:(b6 db.L ps).2.length=k:=Pd.2
  have mP:=vr.1
  refine arP (w:=50) (h.ag xE) o7.bT (rs:=nA db.L ps) ?_ ?_ ?_ ?_ (by simp only [ax6,azU,ayi,azs]at Ym;omega) (by rw [F1,aqx];omega) (by omega) (by omega) cO cV ?_ (λq aO aq=>by have:=(o7.ge q aO).1;have:=B4 q aq;omega) ?_ cT (λe eQ dG he vc az bB eL=>absurd (he.trans (Yc fe)) vc) λeQ dG he bB aL a' cX eL=>⟨_,rfl,eV eQ dG (Yn fe) bB aL a' cX (xE.trans' eL (by simp) λk hk _=>hk)⟩
  ·rw [F1]
   have:dd (mF dx) (iL.map vn++[od aR]) ((b6 db.L ps).1.map oT++[⟨1,[],(b6 db.L ps).2,[],0⟩]):=by
    refine dd.app ?_ (.cons ⟨rfl,yF,Yl.bT,yF,rfl⟩ .nil)
    clear vs lx o7 Ym bS pT Ye Pd
    generalize(b6 db.L ps).1=F at IX tQ
    clear tQ
    induction IX with
    |nil=>exact .nil
    |cons aB _ ih=>exact .cons ⟨rfl,aB.bT,yF,yF,rfl⟩ ih
   exact⟨this.len,λi m r hm aB=>by obtain⟨fS,ks,cp⟩:=this.get hm;rw [aB]at ks;cases ks;exact cp⟩
  ·rw [F1]
   intro r aB
   rcases azb.1 aB with w|w
   ·obtain⟨l,_,rfl⟩:=ayf.1 w;intro y aA;simp [oT]at aA
   ·simp at w;subst w;exact XN (s:=([],[])) (by simp) aI
  ·rw [F1]
   intro r aB
   rcases azb.1 aB with w|w
   ·obtain⟨l,_,rfl⟩:=ayf.1 w;exact .inl rfl
   ·simp at w;subst w;exact .inr rfl
  ·intro m' fv
   rcases azb.1 fv with w|w
   ·obtain⟨nI,jU,rfl⟩:=ayf.1 w
    obtain⟨hX,vx,oE⟩:=dd.mem tQ jU
    have:=oE.1
    have:=(bS.w.dB hX vx).1
    exact⟨by simp only [vn];omega,by simp [vn],by simp [vn]⟩
   ·simp at w;subst w;exact⟨by simp [od],by simp only [od];omega,by simp [od]⟩
  ·rw [F1]
   intro r aB
   rcases azb.1 aB with w|w
   ·obtain⟨l,aG,rfl⟩:=ayf.1 w
    have:=(bS.w.dB l aG).1
    simp only [oT];omega
   ·simp at w;subst w;simp
  ·intro m' fv q aO
   rcases azb.1 fv with w|w
   ·obtain⟨nI,jU,rfl⟩:=ayf.1 w
    obtain⟨hX,_,oE⟩:=dd.mem IX jU
    simp [sd,vn,an]at aO
    have BW:q∈an nI.1:=by simpa [an]using aO
    have:=oE.ge q BW
    exact⟨this.2,λaq=>by have:=B4 q aq;omega⟩
   ·simp at w;subst w
    have BW:q∈an aR.1:=by simpa [sd,od,an]using aO
    have:=Yl.ge q BW
    exact⟨this.2,λaq=>by have:=B4 q aq;omega⟩
open aS (dd bF eG kC dM encS dP cy vP hP gP cL h9 iP ia)
theorem Y5{N c:Nat}{A:en}{db:ey}{a:Option Addr}{os:List Int}{f t:Int}{K:Option Addr->Nat->Nat->U->Prop}(h:fN H X x A db)(lv:A.ps=[])(al:wX N db)(M5:eD db.ss<=N)(aa:bt cH H a n c os)(aB:jJ os)(ay:n<=1000000000)(fl:N<=10000)
  (hk:∀aV bn bg H' cQ,Own dM 57 H.size H' aV bn bg cQ->eG H' cQ (cL [] (tO os f t db.ss))->(∀m∈cQ,∀q∈an m.2.1,H.size<=q)->Fr [] H H'->K aV bn bg H'):
  dy Kf [ax (some (ak x)),J a n c,ia f t,aD true] H K:=by
 apply P5
 intro b1 H1 bb
 have dA:a6 H1 ⟨b1,0,none⟩ [.int .i64 f,.int .i64 t]:=bb.bz
 have ht:=bb.size
 have eY:=h.ag bb.af
 have nV:=eY.aR.len.trans eY.kE.len
 have j2:=eY.om.len
 rw [lv]at j2
 have eo:=al.bT
 have vA:=al.ss
 refine⟨λae H'=>H'=H1,au (λ_=>rfl) (λ_=>rfl),?_⟩
 rintro br i ao rfl
 refine⟨_,_,_,eY.bz.fk 3 rfl,λae H'=>H'=ao/\ae=[.slice none 0 0,.int .i64 0],λ_ _=>0,⟨rfl,rfl⟩,?_⟩
 rintro br cW cD c1 i1 aP ⟨rfl,e⟩
 cases e
 refine au (λc=>by simp at c;simp at j2;omega) λ_=> ?_
 refine⟨_,_,_,eY.bz.fk 10 rfl,?_⟩
 refine⟨λae H'=>match ae with|[.slice aV bn bg,.int _ i]=>∃k:Nat,i=k/\k<=A.bW.2.1/\Own dP 103 aP.size H' aV bn bg (tO os f t (db.ss.take k))/\Fr [] aP H'|_=>False,
  λae _=>match ae with|[_,.int _ i]=>A.bW.2.1-i.toNat|_=>0,⟨0,rfl,by omega,Own.nil _ _ _ _,Fr.refl _ _⟩,?_⟩
 rintro br a3 ij c3 i a8 ⟨k,rfl,eC,aw,f4⟩
 have kH:=bb.af.aT f4
 have z4:=f4.size
 have ea:=aw.1
 have NI:=XP os f t (db.ss.take k)
 have gv:=O2 db.ss k
 refine au (λc0=> ?_) (λc0=> ?_)
 ·have k4:k<A.bW.2.1:=by simpa using c0
  obtain⟨y,aA⟩:=fM (l:=A.hs) (i:=k) (by have:=eY.aR.len;omega)
  obtain⟨s,hs,qq⟩:=eY.kE.get aA
  have o9:=azR hs
  have pS:=eo s o9
  have s0:=qq.2.len
  have zW:db.ss.take (k+1)=db.ss.take k++[s]:=by rw [azP,hs];rfl
  refine(eY.aR.ag f4).get rfl aA (bh (by omega)) λaC b4 av=>⟨_,_,_,_,iP av,?_⟩
  refine iS (v:=h9 y) (by kernel_rfl) (by kernel_rfl) (by simp [azI,Value.oneCell']) rfl λk7 bA dI mb f5=> ?_
  have mb:a6 bA ⟨k7,0,none⟩ (dM.cells y):=mb
  have qJ:=kH.aT f5
  have f35:=f4.aT f5
  have hX:∀{H'},Fr [] bA H'->ah 3 H' ⟨k7,0,none⟩ (.int .i64 y.1):=λai=>(mb.ag ai).bY rfl
  refine⟨_,hX (Fr.refl _ _),aqE (aa.ag qJ) aB ay (au (λc1=> ?_) (λc1=> ?_))⟩
  ·have sx:s.1∈os:=by rw [<-qq.1];simpa using c1
   refine⟨_,hX (Fr.refl _ _),_,_,_,mb.cF 1 rfl,_,_,(dA.ag f35).f' rfl,?_⟩
   refine aS.PY (qq.2.ag f35) (by omega) λj1 n6 lx ct hf f6=>⟨hX f6,λrq dx ga=> ?_⟩
   have iO:=aAm (lP f t) s.2
   have axq:=hf.1
   have ZB:gJ (s.2.filter (lP f t)):=((h.rs.2 s o9).2).filter _
   have xv:vP [(y.1,s.2.filter (lP f t))]:=⟨by simp,λz aE=>by simp at aE;subst aE;exact ZB⟩
   refine aS.Gi (hs:=[(y.1,j1,n6,lx)]) (ss:=[(y.1,s.2.filter (lP f t))]) (fy dM (y.1,j1,n6,lx) ga rfl) (.cons ⟨rfl,hf.bT.ag ga.af⟩ .nil) xv (by omega) (λz aE=>by simp at aE;subst aE;simp only;omega) λnJ n8 pO eQ rows jt mP xW f8=> ?_
   have mV:rows=hP (s.1,s.2.filter (lP f t)):=by
    rw [<-qq.1]
    exact mP.eq ⟨aS.Wk ZB,λz=>by simp⟩
   have f78:=(f6.aT ga.af).aT f8
   have f48:=f5.aT f78
   have axr:=f48.size
   refine ic (t:=103) (E:=dP) (bytes:=24) aS.tY aS.tZ (aw.ag f48) jt.bT (by omega) (by omega) λa9 n9 c9 cN sv f9 g9=> ?_
   rw [cE (by omega)]
   refine⟨⟨k+1,rfl,by omega,?_,(f4.aT f48).ag f9 λq aO=> ?_⟩,dU k4⟩
   ·rw [zW,XO,if_pos sx,<-mV];exact sv
   ·have:=(aw.ge q aO).1;omega
  ·have sx:¬s.1∈os:=by rw [<-qq.1];simpa using c1
   rw [cE (by omega)]
   refine⟨⟨k+1,rfl,by omega,?_,f35⟩,dU k4⟩
   rw [zW,XO,if_neg sx,azh];exact aw.ag f5
 ·have ed:db.ss.take k=db.ss:=ayB (by simp at c0;omega)
  rw [ed]at aw ea NI
  have vD:∀{α:Type} {E:di α} {H:U},bt E H none 0 0 []:=⟨rfl,axx _,.inl rfl⟩
  refine aS.xe (hs:=[]) (ss:=[]) (rows:=[]) vD .nil aS.cy.nil vD (by omega) (by omega) (by simp) λa5 n5 c5 bA hs5 fZ jK hq5 f5=> ?_
  have z5:=f5.size
  have kg:hs5=[]:=ayT (jK.len.trans rfl)
  subst kg
  have gH:=fZ.1
  refine aS.xe (ss:=[]) fZ.bT .nil aS.cy.nil (aw.ag f5).bT (by simp at gH;omega) (by omega) (by simp) λj1 n6 lx ct Gr hf nM Gs f6=> ?_
  exact⟨_,_,_,rfl,hk j1 n6 lx ct Gr (hf.base (base':=H.size) (by omega)) nM (λm hm q aO=>by have:=Gs m hm q aO;omega) ((kH.aT f5).aT f6)⟩
theorem aug{ss:List bF}{os:List Int}(cp:cy ss)(aI:∀id t v,aS.fV ss id t=some v->id∈os/\0<=t/\t<1099511627776):cL [] (tO os 0 1099511627776 ss)=ss:=by
 refine KK cp λx=> ?_
 rw [<-aS.C' cp]
 unfold tO
 rw [List.mem_flatMap]
 constructor
 ·rintro⟨s,hs,aa⟩
  obtain⟨h1,ab⟩:=aS.sM.1 aa
  exact⟨s,(ax2.1 hs).1,aS.sM.2 ⟨h1,(ax2.1 ab).1⟩⟩
 ·rintro⟨s,hs,aa⟩
  obtain⟨h1,ab⟩:=aS.sM.1 aa
  obtain⟨ca,b0,cY⟩:=aI x.2.1 x.1 x.2.2 ((aS.C' cp x).1 ⟨s,hs,aa⟩)
  refine⟨s,ax2.2 ⟨hs,bh (by rw [<-h1];exact ca)⟩,aS.sM.2 ⟨h1,ax2.2 ⟨ab,?_⟩⟩⟩
  unfold lP
  simp only [axz,decide_eq_true_eq]
  omega
open aS (dd bF eG kC dM encS cy cL h9 iP Ny wI ia)
theorem auh{dE:Nat}{bC:List Nat}{L:List bR}{K:Option Addr->Nat->Nat->Int->U->Prop}(h:dh.k9 H dE bC L)(hk:∀aV bn bg H',Own cH 3 H.size H' aV bn bg (nS L.length)->Fr [] H H'->K aV bn bg 0 H'):
  aK aui [ax (some (ak dE)),b2] H λv H'=>∃a n c e,v=.tuple ⟨[.slice a n c,.int .i64 e]⟩/\K a n c e H':=by
 apply auj
 refine dh.afx h λcW cD c1 H1 fF cv=>⟨λae H'=>ae=[.slice cW cD c1,.int .i64 0]/\H1=H',λ_ _=>0,⟨rfl,rfl⟩,?_⟩
 rintro br a2 cz c2 i _ ⟨e,rfl⟩
 cases e
 exact au (λc=>by simp at c) λ_=>⟨_,_,_,_,rfl,hk cW cD c1 H1 fF cv⟩
def ZC(x:Nat)(os:List Int)(f t:Int)(M:List bF)(W:List Nat)(H:U):Prop:=∀(H1:U) (a:Option Addr) (n c:Nat),Fr [] H H1->Own cH 3 H.size H1 a n c os->∀K:Option Addr->Nat->Nat->U->Prop,
 (∀aV bn bg H' cQ,Own dM 57 H1.size H' aV bn bg cQ->eG H' cQ M->(∀m∈cQ,∀q∈an m.2.1,H1.size<=q)->Fr W H1 H'->K aV bn bg H')→
 dy Kf [ax (some (ak x)),J a n c,ia f t,aD true] H1 K
theorem Y4{A:en}{db:ey}{M:List bF}{W:List Nat}{f t:Int}{K:Option Addr->Nat->Nat->Int->U->Prop}(h:fN H X x A db)(auk:0<=f/\f<t/\t<=1099511627776)(PG:ZC x (nS db.L.length) f t M W H)
  (hk:∀aV bn bg H' cQ,Own dM 57 H.size H' aV bn bg cQ->eG H' cQ M->(∀m∈cQ,∀q∈an m.2.1,H.size<=q)->Fr W H H'->K aV bn bg 0 H'):
  aK aul [ax (some (ak x)),b2,ia f t] H λv H'=>∃a n c e,v=.tuple ⟨[.slice a n c,.int .i64 e]⟩/\K a n c e H':=by
 apply aum
 intro b1 H1 bb
 have al:a6 H1 ⟨b1,0,none⟩ [.int .i64 f,.int .i64 t]:=bb.bz
 have ht:=bb.size
 refine⟨_,_,al.f' rfl,?_⟩
 apply aun
 intro bI ao bK
 have cO:a6 ao ⟨bI,0,none⟩ [.int .i64 f,.int .i64 t]:=bK.bz
 have z2:=bK.size
 have j0:=bb.af.aT bK.af
 refine⟨_,(h.bz.ag j0).fk 2 rfl,auh (h.bH.ag j0) λaV bn bg aP aw f3=> ?_⟩
 refine au (λc=>by simp at c) (λ_=> ?_)
 have z3:=f3.size
 have kD:=j0.aT f3
 refine⟨_,_,(cO.ag f3).f' rfl,aqH λa8 f4=> ?_⟩
 refine au (λc=>by simp at c;exact absurd auk c) (λc=>⟨_,_,_,_,rfl,?_⟩)
 refine au (λc=>by simp at c) λ_=> ?_
 have kH:=kD.aT f4
 have z4:=f4.size
 refine⟨_,_,(al.ag ((bK.af.aT f3).aT f4)).f' rfl,PG a8 aV bn bg kH ((aw.ag f4).base (base':=H.size) (by omega)) _ λa5 n5 c5 bA hs5 fZ jK hq5 f5=>⟨_,_,_,_,rfl,?_⟩⟩
 exact hk a5 n5 c5 bA hs5 (fZ.base (base':=H.size) (by omega)) jK (λm hm q aO=>by have:=hq5 m hm q aO;omega) (kH.trans' f5 (by simp) λk hk _=>hk)
theorem LO{A:en}{L:List bR}{id:Int}{K:Option Addr->Nat->Nat->U->Prop}(al:a6 H ⟨x,0,none⟩ (o0 A))(az:dh.k9 H A.dE A.bC L)(hk:∀aV bn bg H',Own g' 51 H.size H' aV bn bg (JF L id)->Fr [] H H'->K aV bn bg H'):
  dy auo [ax (some (ak x)),o id] H K:=by
 apply aup
 exact⟨_,al.fk 2 rfl,dh.LO az λaV bn bg H' aw ai=>⟨_,_,_,rfl,hk aV bn bg H' aw ai⟩⟩
theorem atI{A:en}{L:List bR}{K:Int->U->Prop}(al:a6 H ⟨x,0,none⟩ (o0 A))(az:dh.k9 H A.dE A.bC L)(hk:K L.length H):cG Zb [ax (some (ak x))] H K:=by
 apply auq
 exact⟨_,al.fk 2 rfl,dh.y3 az ⟨_,rfl,hk⟩⟩
noncomputable def JX(L:List bR)(M:List bF):ByteArray:=M.foldl (stepA L) ⟨#[]⟩
theorem Ak{A:en}{db:ey}{M:List bF}{W:List Nat}{K:ByteArray->U->Prop}(h:fN H X x A db)(kI:∀k∈W,k=A.ds)(PG:ZC x (nS db.L.length) 0 1099511627776 M W H)(ba:pG M)(aW:eD M<=10000)(pV:M.length<=200)
  (hk:∀H',Fr W H H'->K (JX db.L M) H'):
  dv JY [ax (some (ak x))] H K:=by
 apply aur
 refine Y4 h (by decide) PG λa n c H1 hs aw bB aO f1=> ?_
 refine au (λc=>by simp at c) λ_=> ?_
 have eo:=bB.len
 have ea:=aw.1
 have ht:=f1.size
 have nx:x∉W:=λaq=>h.sep.ne (i:=0) (j:=5) (by decide) rfl rfl (k:=x) (by simp) (by simp [<-kI _ aq])
 have b1:=h.bz.af f1 nx
 have i1:=h.bH.af f1 λk hk aq=>h.sep.ne (i:=2) (j:=5) (by decide) rfl rfl (k:=k) hk (by simp [<-kI _ aq])
 refine⟨λae H'=>match ae with|[.string s,.int _ i]=>∃k:Nat,i=k/\k<=n/\s=(M.take k).foldl (stepA db.L) ⟨#[]⟩/\s.size<=701*k+20*eD (M.take k)/\Fr [] H1 H'|_=>False,
  λae _=>match ae with|[.string s,.int _ i]=>n-i.toNat|_=>0,⟨0,rfl,by omega,rfl,ayv _,Fr.refl _ _⟩,?_⟩
 rintro br s i ao ⟨k,rfl,eC,hx,aE,f2⟩
 have gv:=O2 M k
 refine au (λc0=> ?_) (λc0=>⟨_,rfl,?_⟩)
 rotate_left
 ·rw [ayB (by simp at c0;omega)]at hx
  rw [hx];exact hk ao (f1.trans' f2 (λk hk _=>hk) (by simp))
 have k4:k<n:=by simpa using c0
 obtain⟨y,aA⟩:=fM (l:=hs) (i:=k) (by omega)
 obtain⟨fj,PH,qq⟩:=bB.get aA
 have sq:=azR PH
 have s0:=qq.2.len
 have ji:=aqL PH
 have zW:=O2 M (k+1)
 have aus:=ba fj sq
 have get:∀{H'} {X:Addr->Prop},Fr [] H1 H'->(∀aC,a=some aC->gu H' (aC.add ((k:Int).toNat *dM.sz)) (dM.cells y)->X aC)->fp a λaC=>dB (decide (0<=(k:Int)/\(k:Int)<(n:Int))) (X aC):=λai hc=>(aw.bT.ag ai).get rfl aA (bh (by omega)) hc
 have lv:=aqM (JF db.L y.1)
 refine get f2 λaC b4 av=>⟨_,Ny av,LO (b1.ag f2) (i1.ag f2) λa3 ij c3 aP fP f3=>XS fP.bT λe=>cM (bh (by omega)) ?_⟩
 refine⟨λae H'=>match ae with|[.string s',.int _ i]=>∃j:Nat,i=j/\j<=y.2.2.1/\s'=(fj.2.take j).foldl O3 (s++ra (JF db.L y.1))/\s'.size<=701*k+20*eD (M.take k)+700+20*j/\Fr [] H1 H'|_=>False,
  λae _=>match ae with|[_,.int _ i]=>y.2.2.1-i.toNat|_=>0,⟨0,rfl,by omega,rfl,by rw [aBj];omega,f2.aT f3⟩,?_⟩
 rintro br s' i a8 ⟨j,rfl,bq,gh,axs,f4⟩
 refine get f4 λad3 Dl tI=>⟨_,_,_,wI tI,au (λc1=> ?_) (λc1=> ?_)⟩
 ·have sx:j<y.2.2.1:=by simpa using c1
  obtain⟨p,aH⟩:=fM (l:=fj.2) (i:=j) (by omega)
  have ZD:=aus.2 p (azR aH)
  refine get f4 λad4 ea4 Jo=>⟨_,_,_,wI Jo,(qq.2.ag f4).get rfl aH (bh (by omega)) λad5 ea5 EY=>⟨_,aS.Ng EY,get f4 λad6 ea6 ZE=>⟨_,_,_,wI ZE,(qq.2.ag f4).get rfl aH (bh (by omega)) λad7 ea7 ZF=>⟨_,aS.Wc ZF,?_⟩⟩⟩⟩
  refine XQ ZD.1 λbA f5 z5=>⟨aS.Wc (ZF.ag f5),wI (ZE.ag f5),cM (bh (by omega)) (XQ ZD.2 λct f6 vz=>cM (bh (by rw [aBj];omega)) ?_)⟩
  rw [cE (by omega)]
  exact⟨⟨j+1,rfl,by omega,by rw [XR O3 _ aH,<-gh];rfl,by rw [aBj,aBj];omega,(f4.aT f5).aT f6⟩,dU sx⟩
 ·have sx:j=y.2.2.1:=by simp at c1;omega
  have ed:fj.2.take j=fj.2:=ayB (by omega)
  rw [ed]at gh
  have kq:(⟨#[10]⟩:ByteArray).size=1:=rfl
  have oO:y.1=fj.1:=qq.1
  refine cM (bh (by omega)) ?_
  rw [cE (by omega)]
  refine⟨⟨k+1,rfl,by omega,?_,by rw [aBj];omega,f4⟩,dU k4⟩
  rw [XR (stepA db.L) _ PH,<-hx,gh,oO];rfl
end Go.Proofs.Bt
namespace Go.Proofs
theorem aqO{H:U}{K:Option Addr->U->Prop}(hk:∀p ds H',H.size<=ds->H.size<=p->p<H'.size->ds<H'.size->p≠ds->a6 H' ⟨p,0,none⟩ [.map (some ds)]->H'[ds]?=some (.map ⟨[]⟩ 0)->Fr [] H H'->K (some ⟨p,0,none⟩) H'):
  qW aqP [] H K:=by
 apply aqQ
 intro b H1 bb b1 ao bK
 have aL:=bb.eq
 have a':=bK.eq
 have ht:=bb.size
 have z2:=bK.size
 exact⟨_,rfl,hk b1 b ao (by omega) (by omega) (by omega) (by omega) (by omega) bK.bz (bK.af.vE bb.get) (bb.af.aT bK.af)⟩
theorem aqR(n i:Int):(aZ.zM (aZ.oK n) i).1=⟨#[]⟩:=by
 unfold aZ.zM aZ.oK
 simp only [Bool.false_eq_true,if_false,List.getLast?_nil,Option.getD_none]
 generalize(if(if 512<n then(512:Int)else n)>8 then(if 512<n then(512:Int)else n)else 8)=z
 split<;>rfl
end Go.Proofs
namespace Go.Proofs.Bt
open aS (bF cy cL eK)
variable{H H':U}{X:Nat->Prop}{y nx x c n j:Nat}{sz:Int}
theorem fN.ext{X':Nat->Prop}{A:en}{db:ey}(h:fN H X x A db)(hc:∀k,X' k->k<H.size/\∀F∈jA x A,k∉F):fN H X' x A db:=
 ⟨h.bz,h.bT,h.bH,h.aR,h.kE,h.rs,h.om,h.nH,h.pm,⟨h.sep.1,λF bS k hk=>⟨λaa=>(hc k aa).2 F bS hk,(h.sep.2 F bS k hk).2⟩⟩,λk hk=>(hc k hk).1⟩
theorem fN.af{A:en}{db:ey}{S:List Nat}(h:fN H X x A db)(ai:Fr S H H')(bB:∀F∈jA x A,∀k∈F,k∉S):fN H' X x A db:=by
 have fj:=bB [x] (by simp [jA])
 have k':=bB (A.s.block::A.cA::A.cu::A.Sd) (by simp [jA])
 have la:=bB A.bC (by simp [jA])
 have nP:=bB (an A.gb.1) (by simp [jA])
 have me:=bB (an A.bW.1++Av A.hs) (by simp [jA])
 have lR:=bB [A.p,A.ds] (by simp [jA])
 exact⟨h.bz.af ai (fj x (by simp)),h.bT.af ai (λk hk=>k' k (by simp at hk⊢;rcases hk with q|q|q<;>simp [q])) (λk hk=>k' k (by simp [hk])),h.bH.af ai la,h.aR.af ai (fO λk hk=>me k (by simp [hk])),eG.af h.kE ai λk hk=>me k (by simp [hk]),h.rs,h.om.af ai (fO nP),h.nH.af ai (lR _ (by simp)),ai.get h.pm (lR _ (by simp)),h.sep.le ai.size,λk hk=>Nat.lt_of_lt_of_le (h.base k hk) ai.size⟩
theorem jX.af{N b M:Nat}{m:aZ.eX}{A:en}{db:ey}{S:List Nat}(h:jX H X x N b M m A db)(ai:Fr S H H')(bB:∀F∈jA x A,∀k∈F,k∉S)(cT:∀k∈S,7<=k):jX H' X x N b M m A db:=
 ⟨h.p.af ai bB,h.q,h.w,h.g,h.M,h.m,h.t.af ai λk hk e=>by have:=cT k hk;omega⟩
def AE:ey:=⟨[],[],aZ.BV⟩
theorem ZG:aZ.BV=hQ []:=by
 unfold hQ
 rw [<-aro]
theorem aut{K:Option Addr->Nat->Nat->Int->U->Prop}(hk:K none 0 0 0 H):aK auu [aj ⟨#[]⟩] H λv H'=>∃ad n c i,v=.tuple ⟨[.slice ad n c,.int .i64 i]⟩/\K ad n c i H':=by
 apply auv
 refine⟨λae H'=>ae=[.slice none 0 0,.int .i64 0]/\H=H',λ_ _=>0,⟨rfl,rfl⟩,?_⟩
 rintro br ad n c i _ ⟨e,rfl⟩
 cases e
 apply auw
 apply Vv
 refine⟨λae H'=>ae=[.int .u64 0]/\H=H',au (λc=>by simp at c) λ_=>au (λc=>absurd c (by decide)) λ_=>⟨rfl,rfl⟩,?_⟩
 rintro br n _ ⟨e,rfl⟩
 cases e
 refine⟨λae H'=>ae=[.int .u64 0,.int .i64 0]/\H=H',λ_ _=>0,⟨rfl,rfl⟩,?_⟩
 rintro br n m _ ⟨e,rfl⟩
 cases e
 have aE:(IntKind.wrap .i64 ((0:Int)+0)==((ByteArray.size ⟨#[]⟩:Nat):Int))=true:=by kernel_rfl
 refine au (λ_=>au (λ_=>⟨_,_,_,rfl,au (λ_=>⟨_,_,_,rfl,?_⟩) λc=>by simp at c⟩) λc=>by rw [aE]at c;cases c) λc=>by simp at c
 refine⟨λ_ _=>False,⟨λae H'=>ae=[.bool true]/\H=H',au (λ_=>⟨rfl,rfl⟩) λc=>by simp at c,?_⟩,λbr H' h=>h.elim⟩
 rintro br b _ ⟨e,rfl⟩
 cases e
 exact au (λ_=>⟨_,_,_,_,rfl,hk⟩) λc=>by simp at c
theorem auy{s d:Addr}{cA cu:Nat}{a:Option Addr}{Q Sd:List Nat}{st:aZ.gB}{m:aZ.eX}{N M:Nat}{K:Option Addr->Nat->Nat->Int->U->Prop}(h:aZ.ib H s d cA cu a n c Q Sd st m N M)(hw:st.now ei=none)(hk:K none 0 0 0 H):
  aK auz [ax (some s)] H λv H'=>∃a n c e,v=.tuple ⟨[.slice a n c,.int .i64 e]⟩/\K a n c e H':=by
 apply auA
 refine aZ.w9 h ?_
 rw [show st.now ⟨#[119,97,108]⟩=none from hw]
 refine aut (au (λaq=>absurd aq (by decide)) λ_=> ?_)
 refine⟨λae H'=>ae=[.slice none 0 0,.int .i64 0]/\H=H',λ_ _=>0,⟨rfl,rfl⟩,?_⟩
 rintro br aV bn bg i _ ⟨e,rfl⟩
 cases e
 exact au (λc=>by simp at c) λ_=>⟨_,_,_,_,rfl,hk⟩
theorem auB{cw:U}{d:Addr}{Sd:List Nat}{n:Int}{K:Option Addr->Int->U->Prop}(h:aZ.oI H d Sd (aZ.oK n) 0)(vy:Fr [] cw H)(bB:∀k∈Sd,cw.size<=k)(cd:n2 H)(hc:∀k,X k->k<cw.size)
  (hk:∀x A H',jX H' X x 0 0 0 (aZ.oK n) A AE->A.ps=[]->A.nx=0->(∀F∈jA x A,∀k∈F,cw.size<=k)->Fr [] H H'->K (some ⟨x,0,none⟩) 0 H'):
  aK ZH [ax (some d)] H λv H'=>∃a e,v=.tuple ⟨[.pointer a,.int .i64 e]⟩/\K a e H':=by
 apply auC
 refine aZ.ahe h (by decide) rfl (λi _ _=>aqR n i) λs cA cu H1 aE eo f1=>au (λc=>by simp at c) λ_=> ?_
 refine dh.LN λao dE bC az lG f2=>aqO λp ds aP ca b0 cY eP iw aH hm f3=>λx a8 cS=> ?_
 have ex:=cS.eq
 have ht:=f1.size
 have z2:=f2.size
 have z3:=f3.size
 have z4:=cS.size
 have z0:=vy.size
 have f24:=(f2.aT f3).aT cS.af
 have kH:=f1.aT f24
 have axt:=cd.ag kH
 have PI:=eo.ag f24
 have aa:a6 a8 ⟨x,0,none⟩ [.pointer (some d),.pointer (some s),.pointer (some ⟨dE,0,none⟩),.slice none 0 0,.int .i64 0,.int .i64 0,.bool false,.int .i64 0,.int .i64 0,.int .i64 0,.slice none 0 0,.slice none 0 0,.int .i64 0,.pointer (some ⟨p,0,none⟩),.pointer none]:=cS.bz
 refine⟨λ_ H'=>a8=H',aZ.w9 PI (au (λc=>by cases c) λ_=>rfl),?_⟩
 rintro br _ rfl
 refine⟨λ_ H'=>a8=H',aZ.w9 PI (au (λc=>by cases c) λ_=>rfl),?_⟩
 rintro br _ rfl
 refine⟨0,aa.cF 5 rfl,?_⟩
 refine a6.st (a:=⟨x,0,none⟩) (j:=12) (v:=.int .i64 0) aa (by kernel_rfl) (by kernel_rfl) (λv aI=>by simp [azI]at aI;subst aI;rfl) (by simp [azI]) λbA dI f5=> ?_
 have z5:=f5.size
 have auD:a6 bA ⟨x,0,none⟩ [.pointer (some d),.pointer (some s),.pointer (some ⟨dE,0,none⟩),.slice none 0 0,.int .i64 0,.int .i64 0,.bool false,.int .i64 0,.int .i64 0,.int .i64 0,.slice none 0 0,.slice none 0 0,.int .i64 0,.pointer (some ⟨p,0,none⟩),.pointer none]:=by simpa [azI]using dI
 have qJ:Fr [] H bA:=kH.ag f5 λk hk=>by simp at hk;omega
 have ne:∀k,k<aP.size->k∉[x]:=λk hk aq=>by simp at aq;omega
 have ZI:∀k∈bC,k<ao.size:=by
  obtain⟨hw,a,n,c,hs,ha,eF,eA,eb,h1,ab⟩:=az
  exact h1.jz
 have ZJ:=h.po
 have ZK:aZ.ib bA s d cA cu none 0 0 [] Sd aZ.BV (aZ.oK n) 0 0:=PI.af f5 (λk hk=>ne k (by
  simp only [axA,azS,or_false]at hk
  have:=(aE k (by simpa using hk)).2;omega)) λk hk=>ne k (by have:=ZJ k hk;omega)
 obtain⟨ct,sW⟩:∃ct,ct=bA:=⟨_,rfl⟩
 have f6:Fr [] bA ct:=by rw [sW];exact Fr.refl _ _
 refine auy ZK rfl (au (λc=>by simp at c) λ_=> ?_)
 rw [<-sW]
 refine⟨λae H'=>ae=[.int .i64 0]/\ct=H',λ_ _=>0,⟨rfl,rfl⟩,?_⟩
 rintro br i _ ⟨e,rfl⟩
 cases e
 have jN:=auD.ag f6
 have f36:Fr [x] aP ct:=(cS.af.trans' (f5.trans' (f6.mono (by simp)) (λk hk _=>hk) λk hk _=>hk) (by simp) λk hk _=>hk)
 refine au (λc=>by simp at c) λ_=>⟨false,jN.cF 6 rfl,au (λc=>by cases c) λ_=>⟨_,_,rfl,?_⟩⟩
 have f26:Fr [x] ao ct:=f3.trans' f36 (by simp) λk hk _=>hk
 have vz:=f6.size
 have cW:∀k∈s.block::cA::cu::Sd,cw.size<=k/\k<H1.size:=λk hk=>by
  simp only [axA]at hk
  rcases hk with e|e|e|e
  ·have:=aE k (by simp [e]);omega
  ·have:=aE k (by simp [e]);omega
  ·have:=aE k (by simp [e]);omega
  ·have:=bB k e;have:=ZJ k e;omega
 have a2:∀k∈bC,H1.size<=k/\k<ao.size:=λk hk=>⟨lG k hk,ZI k hk⟩
 have a5:∀k∈[p,ds],ao.size<=k/\k<aP.size:=λk hk=>by
  simp only [axA,azS,or_false]at hk
  rcases hk with e|e<;>omega
 have a0:∀k∈[x],aP.size<=k/\k<ct.size:=λk hk=>by simp at hk;omega
 have y8:∀F∈[[x],s.block::cA::cu::Sd,bC,[],[],[p,ds]],∀k∈F,cw.size<=k/\k<ct.size:=λF bS k hk=>by
  simp only [axA,azS,or_false]at bS
  rcases bS with rfl|rfl|rfl|rfl|rfl|rfl
  ·have:=a0 k hk;omega
  ·have:=cW k hk;omega
  ·have:=a2 k hk;omega
  ·cases hk
  ·cases hk
  ·have:=a5 k hk;omega
 refine hk x {s:=s,d:=d,cA:=cA,cu:=cu,Sd:=Sd,m:=aZ.oK n,N:=0,M:=0,dE:=dE,bC:=bC,bW:=(none,0,0),hs:=[],gb:=(none,0,0),ps:=[],nx:=0,p:=p,ds:=ds} ct ⟨⟨jN,ZK.ag f6,?_,yF,.nil,aS.cy.nil,yF,?_,?_,?_,λk hk=>by have:=hc k hk;omega⟩,⟨axx _,by simp [AE]⟩,⟨rfl,rfl,(λy d aR=>by cases aR)⟩,⟨(λs hs=>by cases hs),axx _⟩,axx _,rfl,(cd.ag qJ).ag f6⟩ rfl rfl (λF bS k hk=>(y8 F bS k hk).1) (qJ.aT f6)
 ·exact az.af f26 λk hk=>ne k (by have:=ZI k hk;omega)
 ·exact aH.af f36 (ne p cY)
 ·exact f36.get hm (ne ds eP)
 ·have no:∀{S:List Nat},er S []:=λk _ aq=>by cases aq
  have auE:∀{S:List Nat},er [] S:=λk aq=>by cases aq
  have lt:∀{S T:List Nat} {q:Nat},(∀k∈S,k<q)->(∀k∈T,q<=k)->er S T:=λh1 ab k hk dc=>by have:=h1 k hk;have:=ab k dc;omega
  refine⟨?_,λF bS k hk=>⟨λaq=>by have:=hc k aq;have:=(y8 F bS k hk).1;omega,(y8 F bS k hk).2⟩⟩
  show List.Pairwise er [[x],s.block::cA::cu::Sd,bC,[],[],[p,ds]]
  simp only [List.pairwise_cons,axA,azS,or_false,forall_eq_or_imp,forall_eq,List.Pairwise.nil,and_true,no,auE,true_and,implies_true,false_imp_iff]
  refine⟨⟨(lt (λk hk=>(cW k hk).2) λk hk=> ?_).symm,(lt (λk hk=>(a2 k hk).2) λk hk=> ?_).symm,(lt (λk hk=>(a5 k hk).2) λk hk=>(a0 k hk).1).symm⟩,⟨lt (λk hk=>(cW k hk).2) λk hk=>(a2 k hk).1,lt (λk hk=>(cW k hk).2) λk hk=> ?_⟩,lt (λk hk=>(a2 k hk).2) λk hk=>(a5 k hk).1⟩
  ·have:=a0 k hk;omega
  ·have:=a0 k hk;omega
  ·have:=a5 k hk;omega
theorem Ps{n:Int}{K:Option Addr->Int->U->Prop}(cd:n2 H)(hc:∀k,X k->k<H.size)(hk:∀x A H',jX H' X x 0 0 0 (aZ.oK n) A AE->A.ps=[]->A.nx=0->(∀F∈jA x A,∀k∈F,H.size<=k)->Fr [] H H'->K (some ⟨x,0,none⟩) 0 H'):
  aK Uc [o n] H λv H'=>∃a,v=.pointer a/\aK ZH [ax a] H' λv H'=>∃a e,v=.tuple ⟨[.pointer a,.int .i64 e]⟩/\K a e H':=
 aZ.LN λb H1 S bB aR f1=>auB aR f1 bB (cd.ag f1) hc λx A ao ee aL a' cX f2=>hk x A ao ee aL a' cX (f1.aT f2)
theorem Y3{A:en}{db:ey}{K:Bool->U->Prop}(h:fN H X x A db)(b9:iz A.ps nx)(hk:∀H',Fr [] H H'->K (db.st.now ei).isNone H'):
  eu auF [ax (some (ak x))] H K:=by
 apply auG
 refine fN.xz h b9 λH1 f1=>K0 (h.ag f1).bz rfl (h.ag f1).bT ?_
 have:=hk H1 f1
 cases e:db.st.now ei with
 |none=>rw [e]at this;exact⟨false,(h.ag f1).bz.fk 6 rfl,_,rfl,this⟩
 |some z=>rw [e]at this;exact⟨_,rfl,this⟩
theorem atw{A:en}{db:ey}{p:cK}{K:Int->U->Prop}(h:fN H X x A db)(ay:A.ps.length<=100)(aH:fW A.ps 0=some p)(aF:p.2.1=0)(hk:∀H',Fr [] H H'->K 0 H'):
  cG auH [ax (some (ak x)),o 0] H K:=by
 apply auI
 have aG:=h.om.len
 refine⟨_,_,_,_,_,_,_,_,_,h.bz.Rz (j:=3) (by kernel_rfl) (by kernel_rfl) rfl,tW (s:=⟨A.gb,A.nx,0⟩) h.om (by simp only;omega) λH1 f1=> ?_⟩
 rw [aH]
 refine su (x:=p) rfl λb ao cO bM f2=>au (λ_=>⟨p.2.1,bM.cF 1 rfl,_,rfl,?_⟩) λc=>by cases c
 rw [aF];exact hk ao (f1.aT f2)
open aS (dd bF cy cL eK fV fs)
theorem AA.tail{c:ByteArray×Nat}{b:List (ByteArray×Nat)}(h:AA sz (c::b)):AA sz b:=by
 have h1:=h.len
 have ab:=h.z
 rw [ayi]at h1
 rw [CL,Ge]at ab
 exact⟨λd aR=>h.s1 d (axU _ aR),by omega,ab.imp (λq=>⟨q.1,by omega,by omega⟩) λq=>⟨q.1,by omega,by omega⟩⟩
theorem ZL{db:ey}{l:gO}{b:List (ByteArray×Nat)}{rs:List eW}{w:Nat}(dW:db.st=hQ l)(bM:iN b l)(cp:AA sz ((ei,w)::b))(ba:∀r∈rs,oN r)(hw:((aZ.dS l ei).getD ⟨#[]⟩).size+(lZ rs).length<=w):
  nC sz db rs=0/\∃v:ByteArray,v.size<=w/\lM db rs=hQ (jq l v):=by
 have e:db.st.now=aZ.dS l:=by rw [dW];rfl
 have aI:(((aZ.dS l ei).getD ⟨#[]⟩)++lY (lZ rs)).size<=w:=by rw [aBj,z6];exact hw
 have NK:=(bM.put (k:=ei) aI).room cp
 constructor
 ·unfold nC
  rw [if_neg (by rw [(Iz λr aB=>(ba r aB).typ).2 ba];simp),dW,show(hQ l).now=aZ.dS l from rfl,((aZ.Qi sz).w l ei _ arp NK).1]
 ·refine⟨_,aI,?_⟩
  unfold lM
  rw [e,aZ.Gg,dW]
  rfl
theorem yM.ZM{l:gO}{ps:List cK}(h:yM n l ps)(b9:iz ps nx):aZ.dS l ei=none:=by
 cases e:aZ.dS l ei with
 |none=>rfl
 |some d=>
  exfalso
  rcases h.mem _ (aZ.CR e)with⟨q,_⟩|⟨q,_⟩|⟨q,aO,a'⟩
  ·exact absurd q (show¬ei=gI by decide)
  ·exact absurd q (show¬ei=jx by decide)
  ·obtain⟨_,_,k,hk,cX⟩:=b9.ok q aO
   have:=b9.nx
   exact C9 (n:=k) (by omega) (show ei.data.toList.head?≠some 102 by decide) (cX.symm.trans a'.symm)
theorem ZN{m:Nat}:∀{rows:List Row} {M:List bF},cy M->jD m M->(∀r∈rows,RowK m r)->jD m (cL M rows)
 |[],_,_,h,_=>h
 |r::rows,M,cp,h,aB=>ZN (rows:=rows) (aS.um (x:=r) cp).1 (h.put cp (axx _) (aB r (by simp))) λx aa=>aB x (by simp [aa])
theorem auJ{qs:List dZ}{p:dZ}{L:List bR}(bZ:L=(b6 [] qs).1)(b9:lO qs.length kc (b6 [] qs))(ay:qs.length<50)(aH:h3 0 p)(cd:kc p.1)(aI:eM p.2.2):
  ∃F r,JV L p F r/\lO (qs++[p]).length kc (b6 [] (qs++[p]))/\(b6 [] (qs++[p]))=(L++F,(b6 [] qs).2++[r])/\RowK (L++F).length r/\(∀rc∈nA L [p],oN rc)/\(lZ (nA L [p])).length<=90/\F.foldl oF L=L++F:=by
 subst bZ
 obtain⟨F,r,aw⟩:=YU (b6 [] qs).1 p
 have h1:=b9.step aH cd aI
 have e:=YV aw
 have hlen:(qs++[p]).length=qs.length+1:=by simp
 have ZO:lO (qs++[p]).length kc (b6 [] (qs++[p])):=by rw [hlen];exact h1
 have ab:=ZO
 rw [e]at ab
 have aG:=ab.len
 simp only at aG
 rw [hlen]at aG
 have aB:RowK ((b6 [] qs).1++F).length r:=ab.row r (by simp)
 have bS:∀l∈(b6 (b6 [] qs).1 [p]).1,fa l/\kc l:=λl aG=>by rw [aw.run]at aG;exact ab.dB l (by simp [aG])
 have cp:∀x∈(b6 (b6 [] qs).1 [p]).2,(0<=x.1/\x.1<1099511627776)/\(0<=x.2.1/\x.2.1<200)/\eM x.2.2:=λx aa=>by
  rw [aw.run]at aa
  simp only [ayw]at aa
  subst aa
  exact⟨aB.1,by have:=aB.2.1;omega,aB.2.2⟩
 refine⟨F,r,aw,ZO,e,aB,Zp (λl aG=>(bS l aG).1) cp (by rw [aw.run];simp),?_,YW ab.fL (λl aG=>(ab.dB l (by simp [aG])).1) (by simp only [ax6]at aG⊢;omega)⟩
 have:=Zq (L:=(b6 [] qs).1) (ps:=[p]) (by simp) (λl aG=>(bS l aG).2) cp (by simp)
 simpa using this
structure oW(H:U)(X:Nat->Prop)(y:Nat)(sz:Int)(qs:List dZ)(A:en)(db:ey)(nx:Nat)(l:gO):Prop where
 s:jX H X y 0 16384 60 A.m A db
 eR:db.L=(b6 [] qs).1
 re:db.ss=[]
 qy:db.st=hQ l
 rf:A.m.size=sz
 run:lO qs.length kc (b6 [] qs)
 rh:A.nx=nx
 I:nG qs.length (cL [] (b6 [] qs).2) db.L A.ps nx l
theorem oW.first{A:en}(h:jX H X y 0 0 0 (aZ.oK sz) A AE)(aL:A.ps=[])(a':A.nx=0)(hs:(aZ.oK sz).size=sz):oW H X y sz [] A AE 0 []:=by
 have e:=h.m
 refine⟨by rw [e];exact h.mono (ayv _) (ayv _) (ayv _),rfl,rfl,ZG,by rw [e];exact hs,lO.nil _,a',?_⟩
 rw [aL]
 exact nG.nil
theorem oW.Y7{qs:List dZ}{A:en}{db:ey}{l:gO}(h:oW H X y sz qs A db nx l):db.st.now ei=none:=by
 rw [h.qy]
 exact h.I.AD.ZM h.I.l8
structure w3(H:U)(X:Nat->Prop)(y:Nat)(sz:Int)(qs:List dZ)(r:Row)(A:en)(db:ey)(nx:Nat)(l:gO)(v:ByteArray)(L:List bR)(R:List Row):Prop where
 s:jX H X y 50 416384 61 A.m A db
 eR:db.L=(b6 [] qs).1
 Pq:L.length<=db.L.length/\db.L.length<=qs.length/\(∀l∈db.L,kc l)
 re:db.ss=[(r.2.1,[(r.1,r.2.2)])]
 qy:db.st=hQ (jq l v)
 aI:v.size<=200
 rf:A.m.size=sz
 run:lO qs.length kc (b6 [] qs)
 FX:(b6 [] qs).2=R++[r]
 aB:RowK db.L.length r
 rh:A.nx=nx
 num:Gf sz R.length/\qs.length=R.length+1
 I:nG R.length (cL [] R) L A.ps nx l
theorem Y2{qs:List dZ}{a:Option Addr}{A:en}{db:ey}{l:gO}{mm:ob}{p:dZ}{K:Int->U->Prop}(h:oW H X y sz qs A db nx l)(ay:Gf sz qs.length)(cT:∀k,k<7->X k)(aa:bt l5 H a 1 c [mm])(aH:FV H mm p)(aG:mm.1.2.1<=1000000)(aI:eM p.2.2)(cd:fa p.1->kc p.1)
  (cq:∀H',¬h3 0 p->Fr [] H H'->K (pH p) H')
  (eV:∀H' dG sj r v R,h3 0 p->w3 H' X y sz (qs++[p]) r dG sj nx l v db.L R->Fr (kB y A) H H'->K 0 H'):
  cG JN [ax (some (ak y)),J a 1 c] H K:=by
 have bb:=ay.1
 have UQ:=h.I.J5
 have aL:gW [p]=if h3 0 p then 0 else pH p:=by unfold gW;split<;>rfl
 have fit:h3 0 p->∃F r,JV db.L p F r/\lO (qs++[p]).length kc (b6 [] (qs++[p]))/\(b6 [] (qs++[p]))=(db.L++F,(b6 [] qs).2++[r])/\RowK (db.L++F).length r/\F.foldl oF db.L=db.L++F/\nC A.m.size db (nA db.L [p])=0/\∃v:ByteArray,v.size<=200/\lM db (nA db.L [p])=hQ (jq l v):=λe'=>by
  obtain⟨F,r,aw,g1,g2,g3,g4,g5,g6⟩:=auJ h.eR h.run bb e' (cd e'.1) aI
  have cp:=(h.I.Zw ay).tail.tail.tail
  have:=ZL h.qy (h.I.AD.wm (h.I.PB (by omega))) cp g4 (by rw [h.I.AD.ZM h.I.l8];show(⟨#[]⟩:ByteArray).size+_<=_;have:(⟨#[]⟩:ByteArray).size=0:=rfl;omega)
  rw [<-h.rf]at this
  exact⟨F,r,aw,g1,g2,g3,g6,this⟩
 refine Yb h.s aa (.cons aH .nil) (by simpa using aG) (by simpa using aI) (by omega) (by omega) (λbW=> ?_) (by omega) (by omega) (by omega) cT (λH' he ai=> ?_) λH' dG he bB eY fR w7 ai=> ?_
 ·obtain⟨_,_,_,_,_,_,_,q,_⟩:=fit (bW p (by simp))
  exact q
 ·rw [aL]at he⊢
  split at he
  ·exact absurd rfl he
  ·rename_i aq
   rw [if_neg aq]
   exact cq H' aq ai
 ·have e':=F8 he p (by simp)
  obtain⟨F,r,aw,g1,g2,g3,g4,_,v,g5,g6⟩:=fit e'
  rw [YX,aw.run]at bB
  simp only [g4,g6,h.re]at bB
  have hm:=bB.m
  have bS:F.length<=1:=by rcases aw.F with e|⟨e,_⟩<;>rw [e]<;>simp
  have mR:=h.run.num
  have PJ:=g1
  rw [g2]at PJ
  refine eV H' dG _ r v (b6 [] qs).2 e' ⟨by rw [hm];exact bB,by rw [g2],⟨by simp,PJ.len,λl aG=>(PJ.dB l aG).2⟩,rfl,rfl,g5,by rw [hm];exact h.rf,g1,by rw [g2],g3,by rw [w7];exact h.rh,⟨by rw [mR];exact ay,by simp;omega⟩,?_⟩ ai
  rw [fR,mR];exact h.I
theorem auK{b:List (ByteArray×Nat)}{l:gO}(h:iN b l):l.length<=b.length:=by
 have:=iN.sum (b:=[]) h (λ_ _=>1) λ_ _ _ _=>axx _
 rwa [Gd,Gd]at this
theorem Y6{qs:List dZ}{r:Row}{A:en}{db:ey}{l:gO}{v:ByteArray}{L:List bR}{R:List Row}{K:Bool->Int->U->Prop}(h:w3 H X y sz qs r A db nx l v L R)(cx:jL H)(cT:∀k,k<7->X k)
  (hk:∀H' dG sj nx' fG,oW H' X y sz qs dG sj nx' fG->(A.ps=[]->dG.ps=[(azE r.1 100,0,c6 nx)])->jL H'->fH X H H'->K true 0 H'):
  aK GV [ax (some (ak y))] H λv H'=>∃b e,v=.tuple ⟨[.bool b,.int .i64 e]⟩/\K b e H':=by
 have dK:=h.I
 obtain⟨aE,zc⟩:=h.num
 have ay:=aE.1
 have J6:=h.Pq
 have AJ:∀y,db.st.now y=aZ.dS (jq l v) y:=λy=>by rw [h.qy];rfl
 have auL:∀p∈A.ps,db.st.now p.2.2=aZ.dS l p.2.2:=λp aH=>by
  obtain⟨_,_,k,hk,e⟩:=dK.l8.ok p aH
  have:=dK.l8.nx
  rw [AJ,PD (by rw [e];exact C9 (by omega) (by decide))]
 have b9:iz A.ps A.nx:=by rw [h.rh];exact dK.l8
 refine acp h.s.p b9 (by rw [AJ];unfold jq aZ.dS;rw [if_pos rfl];rfl) λH1 f1=> ?_
 have s1:=h.s.ag f1
 have bV:=dK.Zv (by omega) (db:=db) (A:=A) rfl h.rh auL
 have Db:=dK.kE (by omega)
 have wM:=dK.val.put dK.right (m':=db.L.length) J6.1 h.aB
 have z7:=JD r (cL [] R)
 have axu:=dK.rl
 have iL:=PA (k:=51) (aS.um (x:=r) dK.right).1 wM (by omega) (by omega) (by omega) (azE r.1 100)
 have lf:=Rr dK.right r (azE r.1 100)
 rw [if_pos rfl]at lf
 obtain⟨t,id,w⟩:=r
 simp only at iL lf
 obtain⟨data,A8⟩:∃data:ByteArray,data=⟨(fs (eK (ep (cL [] R) (azE t 100)) (t,id,w))).toArray⟩:=⟨_,rfl⟩
 have I2:bd data=fs (ep (eK (cL [] R) (t,id,w)) (azE t 100)):=by rw [A8,lf]
 have dF:data.size<=28+26*R.length:=by
  have h1:=iL.2.2.2
  have ab:=AK (p:=xb (azE t 100)) (eK (cL [] R) (t,id,w))
  rw [<-I2,dR]at h1
  unfold ep at h1;omega
 obtain⟨auM,auN,ZP⟩:=dK.Zx aE h.aI dF (d:=azE t 100)
 have qG:=h.rh
 have j2:=GF (x:=(azE t 100,0,c6 nx)) (ps:=A.ps)
 have PF:=dK.num
 have hu:∀{iB:List cK} {u:ByteArray},iB=A.ps\/iB=gp (azE t 100,0,c6 nx) A.ps->u.size<=20+15*iB.length->u.size<=20+15*(R.length+1):=λaq hu=>by
  rcases aq with e|e<;>rw [e]at hu<;>omega
 have az:(⟨(dh.encI db.L).toArray⟩:ByteArray).size<=1+41*(R.length+1):=by
  rw [fD]
  have:=Zn (L:=db.L) (by omega) J6.2.2;omega
 have cp:aZ.CS A.m.size (aZ.Room sz):=by rw [h.rf];exact aZ.Qi sz
 refine abO (M:=cL [] R) (N:=R.length) (l:=jq l v) (id:=id) (t:=t) (v:=w) (data:=data) (R:=aZ.Room sz) s1.p bV (by omega) (cx.ag f1) cT h.qy cp h.re h.aB.1.1 h.aB.1.2 (by have:=h.s.M;omega) (by omega) (λs hs=>by have:=(Db s hs).1;omega) (λs hs=>by have:=(Db s hs).2.2.2;omega) dK.ne (by rw [lf]at iL;exact⟨iL.1,iL.2.1,iL.2.2.1⟩) A8.symm ?_ ⟨v,by unfold jq;simp⟩ ?_ ?_
 ·intro _
  rw [qG]
  exact⟨auM,auN,by omega,by omega⟩
 ·intro fJ iB av u Bg
  rw [qG]at av
  have h1:fJ=jq l v\/fJ=jv (jq l v) A.ps nx (azE t 100) data:=by rcases av with⟨_,e,_⟩|⟨_,e,_⟩;exact .inl e;exact .inr e
  have ab:iB=A.ps\/iB=gp (azE t 100,0,c6 nx) A.ps:=by rcases av with⟨_,_,e⟩|⟨_,_,e⟩;exact .inl e;exact .inr e
  obtain⟨ca,b0,cY,_⟩:=ZP fJ h1 u _ (hu ab Bg) az
  exact⟨ca,b0,cY⟩
 ·intro fJ iB qI u dG H' av Bg cW a2 a3 a4 ee Gc eL
  rw [qG]at av
  have h1:fJ=jq l v\/fJ=jv (jq l v) A.ps nx (azE t 100) data:=by rcases av with⟨_,e,_⟩|⟨_,e,_⟩;exact .inl e;exact .inr e
  have ab:iB=A.ps\/iB=gp (azE t 100,0,c6 nx) A.ps:=by rcases av with⟨_,_,e,_⟩|⟨_,_,e,_⟩;exact .inl e;exact .inr e
  obtain⟨_,_,cY,eP⟩:=ZP fJ h1 u _ (hu ab Bg) az
  have fl:=dK.next aE (L':=db.L) ⟨J6.1,by omega,J6.2.2⟩ h.aB h.aI I2 av Bg
  have axv:=fl.num
  have auO:cL [] (R++[(t,id,w)])=eK (cL [] R) (t,id,w):=by rw [YY];rfl
  have iO:=auK (fl.AD.wm (fl.PB (by omega)))
  obtain⟨_,_,axw,_⟩:=Zu (n:=R.length+1) fl.l8 fl.rl
  refine hk H' dG {db with ss:=[],st:=hQ (nR fJ u ⟨(dh.encI db.L).toArray⟩)} qI (nR fJ u ⟨(dh.encI db.L).toArray⟩) ⟨⟨ee,⟨axx _,by simp⟩,⟨rfl,rfl,λy d aR=> ?_⟩,⟨λs hs=>(by cases hs),axx _⟩,by omega,rfl,Gc.uy⟩,h.eR,rfl,rfl,by rw [a3];exact h.rf,h.run,a2,?_⟩ (λed=> ?_) Gc ((fH.of f1).trans (eL.sub λk hk=> ?_))
  ·have:=cY.s1 _ (aZ.CR aR)
   exact⟨this.1,by have:=this.2;simp only at this;omega⟩
  ·rw [h.FX,auO,cW,zc];exact fl
  ·rw [cW]
   rcases av with⟨⟨p,aH,_⟩,_⟩|⟨_,_,e,_⟩
   ·rw [ed]at aH;simp [fW]at aH
   ·rw [e,ed];rfl
  ·have al:=s1.p.base k hk
   refine⟨al,λe=> ?_,λe=> ?_⟩
   ·exact s1.p.sep.no (i:=1) rfl A.s.block (by simp) (by rw [<-e];exact hk)
   ·exact s1.p.sep.no (i:=0) rfl y (by simp) (by rw [<-e];exact hk)
open aS (dd bF cy cL eK fV fs)
theorem auP(L F:List bR)(l:bR):hY (L++F) l=(hY L l).or ((hY F l).map (·+L.length)):=by
 unfold hY
 simp
theorem auQ(L F:List bR)(R S:List Row)(p:dZ):iY [] (L++F,R++S) p=(L++(iY L (F,S) p).1,R++(iY L (F,S) p).2):=by
 unfold iY
 rw [JU]
 simp only [auP]
 cases h:hY L p.1 with
 |some i=>simp
 |none=>
  cases ab:hY F p.1 with
  |some j=>grind
  |none=>simp
theorem ZQ:∀(ps:List dZ) (L F:List bR) (R S:List Row),ps.foldl (iY []) (L++F,R++S)=(L++(ps.foldl (iY L) (F,S)).1,R++(ps.foldl (iY L) (F,S)).2)
 |[],_,_,_,_=>rfl
 |p::ps,L,F,R,S=>by
  rw [ayF,ayF,auQ]
  exact ZQ ps L _ R _
theorem auR{L:List bR}{qs ps:List dZ}(bZ:L=(b6 [] qs).1):b6 [] (qs++ps)=(L++(b6 L ps).1,(b6 [] qs).2++(b6 L ps).2):=by
 subst bZ
 have h:=ZQ ps (b6 [] qs).1 [] (b6 [] qs).2 []
 simp at h
 have e:b6 [] (qs++ps)=ps.foldl (iY []) (b6 [] qs):=by unfold b6;simp
 rw [e]
 exact h
theorem lO.app{T:bR->Prop}:∀{ps qs:List dZ} {n:Nat},lO n T (b6 [] qs)->(∀p∈ps,h3 0 p/\T p.1/\eM p.2.2)->lO (n+ps.length) T (b6 [] (qs++ps))
 |[],qs,n,h,_=>by grind
 |p::ps,qs,n,h,aH=>by
  obtain⟨a,b,c⟩:=aH p (by simp)
  have:=lO.app (ps:=ps) (h.step a b c) (by grind)
  grind
structure sk(H:U)(X:Nat->Prop)(y j:Nat)(qs:List dZ)(A:en)(db:ey)(l:gO):Prop where
 s:jX H X y (50*j) (400000*j) j A.m A db
 eR:db.L=(b6 [] qs).1
 re:db.ss=cL [] (b6 [] qs).2
 qy:db.st=hQ l
 el:l=[]\/∃v,l=[(ei,v)]/\v.size<=90*qs.length
 Pu:A.ps=[]
 rf:A.m.size=512
 run:lO qs.length kc (b6 [] qs)
theorem sk.first{A:en}(h:jX H X y 0 0 0 (aZ.oK 512) A AE)(aL:A.ps=[]):sk H X y 0 [] A AE []:=by
 have e:=h.m
 exact⟨by grind,rfl,rfl,ZG,.inl rfl,aL,by rw [e];decide,lO.nil _⟩
theorem Y'{qs ps:List dZ}{a:Option Addr}{A:en}{db:ey}{l:gO}{ms:List ob}{K:Int->U->Prop}(h:sk H X y j qs A db l)(bq:j<50)(ay:1<=n/\qs.length+n<=50)(cT:∀k,k<7->X k)(aa:bt l5 H a n c ms)(aH:wV H ms ps)(aG:∀m∈ms,m.1.2.1<=1000000)(aI:∀p∈ps,eM p.2.2)(cd:∀p∈ps,fa p.1->kc p.1)
  (cq:∀H',gW ps≠0->Fr [] H H'->K (gW ps) H')
  (eV:∀H' dG sj fG,gW ps=0->sk H' X y (j+1) (qs++ps) dG sj fG->Fr (kB y A) H H'->K 0 H'):
  cG JN [ax (some (ak y)),J a n c] H K:=by
 have k5:=aa.len
 have j2:=dd.len aH
 have auS:=h.run.len
 rw [<-h.eR]at auS
 have fit:(∀p∈ps,h3 0 p)->lO (qs++ps).length kc (b6 [] (qs++ps))/\b6 [] (qs++ps)=(db.L++(b6 db.L ps).1,(b6 [] qs).2++(b6 db.L ps).2)/\(b6 db.L ps).1.foldl oF db.L=db.L++(b6 db.L ps).1/\nC A.m.size db (nA db.L ps)=0/\∃v:ByteArray,v.size<=90*(qs++ps).length/\lM db (nA db.L ps)=hQ (jq l v):=λe'=>by
  have h1:=h.run.app (ps:=ps) λp aH=>⟨e' p aH,cd p aH (e' p aH).1,aI p aH⟩
  rw [<-ax6]at h1
  have e:=auR (ps:=ps) h.eR
  have ab:=h1
  rw [e]at ab
  have hle:=ab.len
  simp at hle
  have EC:=ab.row
  simp at EC
  have bM:iN [(ei,90*qs.length)] l:=by
   rcases h.el with rfl|⟨v,rfl,aI⟩
   ·exact⟨aBJ,λp aH=>by cases aH⟩
   ·exact⟨by simp,λp aH=>by simp at aH;subst aH;exact⟨_,aye,rfl,aI⟩⟩
  have cp:AA 512 [(ei,90*(qs++ps).length),(ei,90*qs.length)]:=by
   have m3:ei.size=3:=by decide
   have aL:(qs++ps).length<=50:=by simp;omega
   refine⟨λc av=> ?_,by simp,.inl ⟨rfl,?_,?_⟩⟩
   ·grind
   ·unfold vv;grind
   ·unfold w4;grind
  have bS:∀l∈(b6 db.L ps).1,fa l/\kc l:=λl aG=>ab.dB l (by simp [aG])
  have JW:∀x∈(b6 db.L ps).2,(0<=x.1/\x.1<1099511627776)/\(0<=x.2.1/\x.2.1<200)/\eM x.2.2:=λx aa=>by
   grind
  have PF:=ab.num
  have zc:=h.run.num
  simp at PF
  have Yc:=Zq (L:=db.L) (ps:=ps) (by grind) (λl aG=>(bS l aG).2) JW (by omega)
  have hold:((aZ.dS l ei).getD ⟨#[]⟩).size<=90*qs.length:=by
   rcases h.el with rfl|⟨v,rfl,aI⟩
   ·exact ayv _
   ·unfold aZ.dS;rw [if_pos rfl];exact aI
  have:=ZL h.qy bM cp (Zp (λl aG=>(bS l aG).1) JW (by omega)) (by simp;omega)
  rw [<-h.rf]at this
  exact⟨h1,e,YW ab.fL (λl aG=>(ab.dB l (by simp [aG])).1) (by simp only [ax6];omega),this⟩
 refine Yb h.s aa aH aG aI (by omega) (by omega) (λbW=>(fit bW).2.2.2.1) (by omega) (by omega) (by omega) cT cq λH' dG he bB eY fR w7 ai=> ?_
 obtain⟨g1,g2,g4,_,v,g5,g6⟩:=fit (F8 he)
 rw [YX]at bB
 simp only [g4,g6,h.re]at bB
 have hm:=bB.m
 refine eV H' dG _ (jq l v) he ⟨by rw [hm];exact(by omega),by rw [g2],by rw [g2];simp only;rw [YY],rfl,.inr ⟨v,?_,g5⟩,by rw [fR];exact h.Pu,by rw [hm];exact h.rf,g1⟩ ai
 unfold jq
 rcases h.el with rfl|⟨w,rfl,_⟩
 ·rfl
 ·simp [aZ.fx]
theorem Pt(n:Nat):(nS n).length=n:=by unfold nS;simp
theorem PK{qs:List dZ}(h:lO qs.length kc (b6 [] qs)):cy (cL [] (b6 [] qs).2)/\jD (b6 [] qs).1.length (cL [] (b6 [] qs).2)/\eD (cL [] (b6 [] qs).2)<=qs.length:=by
 have aW:=OX (b6 [] qs).2 []
 rw [h.num]at aW
 have e:eD []=0:=rfl
 exact⟨(aS.y0 (rows:=(b6 [] qs).2) cy.nil).1,ZN cy.nil (λid t v aI=>by cases aI) (λr aB=>h.row r aB),by omega⟩
theorem ZR{qs:List dZ}(h:lO qs.length kc (b6 [] qs))(ay:qs.length<=50):pG (cL [] (b6 [] qs).2)/\eD (cL [] (b6 [] qs).2)<=10000/\(cL [] (b6 [] qs).2).length<=200:=by
 obtain⟨h1,ab,ar⟩:=PK h
 have hs:=J4 h1 ab ar (by omega)
 have aG:=h.len
 refine⟨λs cQ=> ?_,by omega,?_⟩
 ·have q:=hs s cQ
  exact⟨by omega,λy aA=>⟨by have:=q.2.1.dH y aA;exact⟨by omega,by omega⟩,q.2.1.v y aA⟩⟩
 ·have:=J3 λs cQ=>(hs s cQ).2.2.1;omega
theorem Za{qs:List dZ}{A:en}{db:ey}{l:gO}{K:ByteArray->U->Prop}(h:sk H X y j qs A db l)(bq:j<=50)(ay:qs.length<=50)(hk:∀H',Fr [] H H'->K (JX (b6 [] qs).1 (cL [] (b6 [] qs).2)) H'):
  dv JY [ax (some (ak y))] H K:=by
 obtain⟨h1,ab,ar⟩:=PK h.run
 obtain⟨g1,g2,g3⟩:=ZR h.run ay
 refine Ak h.s.p (M:=cL [] (b6 [] qs).2) (W:=[]) (by simp) (λH1 a n c f1 aw K eL=> ?_) g1 g2 g3 (by rw [h.eR];exact hk)
 have aB:=Da db.L.length
 have F9:=aw.1
 rw [Pt]at F9
 have PL:=h.run.len
 rw [<-h.eR]at PL
 refine Y5 (h.s.p.ag f1) h.Pu h.s.q h.s.g.2 aw.bT aB (by omega) (by omega) λaV bn bg H' cQ ca b0 cY eP=> ?_
 rw [h.re,aug h1 λid t v aI=>by
  have:=ab id t v aI
  rw [<-h.eR]at this
  exact⟨GO this.1.1 this.1.2,this.2.1⟩]at b0
 exact eL aV bn bg H' cQ ca b0 cY eP
theorem atH{qs:List dZ}{A:en}{db:ey}{l:gO}{K:ByteArray->U->Prop}(h:oW H X y sz qs A db nx l)(ay:qs.length<=50)(hk:∀H',Fr [A.ds] H H'->K (JX (b6 [] qs).1 (cL [] (b6 [] qs).2)) H'):
  dv JY [ax (some (ak y))] H K:=by
 obtain⟨h1,ab,ar⟩:=PK h.run
 obtain⟨g1,g2,g3⟩:=ZR h.run ay
 refine Ak h.s.p (M:=cL [] (b6 [] qs).2) (W:=[A.ds]) (by simp) (λH1 a n c f1 aw K eL=> ?_) g1 g2 g3 (by rw [h.eR];exact hk)
 have aB:=Da db.L.length
 have F9:=aw.1
 rw [Pt]at F9
 have PL:=h.run.len
 rw [<-h.eR]at PL
 have hs:=J4 h1 ab ar (by omega)
 refine look_ok (h.s.p.ag f1) (h.I.Zv ay (db:=db) (A:=A) rfl h.rh λp aH=>by rw [h.qy];rfl) (by omega) h.re aw.bT aB (by omega) (λs cQ=> ?_) (λaq=> ?_) (by omega)
 ·have:=(hs s cQ).1
  rw [<-h.eR]at this
  exact GO this.1 this.2
 ·have:=(aw.ge _ aq).1
  have:=(h.s.p.sep.2 _ (azR (i:=5) rfl) A.ds (by simp)).2
  omega
open aS (dd bF eG dM cy cL eK h9 iP ia)
def Az(H:U)(x:Nat)(A:en):Nat->Prop:=λk=>k<H.size/\∀F∈jA x A,k∉F
theorem jX.ext{N b M:Nat}{m:aZ.eX}{A:en}{db:ey}(h:jX H X x N b M m A db):jX H (Az H x A) x N b M m A db:=⟨h.p.ext λk hk=>hk,h.q,h.w,h.g,h.M,h.m,h.t⟩
theorem oW.ag{qs:List dZ}{A:en}{db:ey}{l:gO}(h:oW H X y sz qs A db nx l)(ai:Fr [] H H'):oW H' X y sz qs A db nx l:=⟨h.s.ag ai,h.eR,h.re,h.qy,h.rf,h.run,h.rh,h.I⟩
theorem w3.ag{qs:List dZ}{r:Row}{A:en}{db:ey}{l:gO}{v:ByteArray}{L:List bR}{R:List Row}(h:w3 H X y sz qs r A db nx l v L R)(ai:Fr [] H H'):w3 H' X y sz qs r A db nx l v L R:=⟨h.s.ag ai,h.eR,h.Pq,h.re,h.qy,h.aI,h.rf,h.run,h.FX,h.aB,h.rh,h.num,h.I⟩
theorem w3.ext{qs:List dZ}{r:Row}{A:en}{db:ey}{l:gO}{v:ByteArray}{L:List bR}{R:List Row}(h:w3 H X y sz qs r A db nx l v L R):w3 H (Az H y A) y sz qs r A db nx l v L R:=⟨h.s.ext,h.eR,h.Pq,h.re,h.qy,h.aI,h.rf,h.run,h.FX,h.aB,h.rh,h.num,h.I⟩
theorem Pr{H1 ao:U}{S:List Nat}(h1:Fr [] H H1)(ab:Fr S H1 ao)(bB:∀k∈S,H.size<=k):Fr [] H ao:=h1.ag ab bB
theorem YZ{H1 ao:U}{Y:Nat->Prop}(h1:Fr [] H H1)(ab:fH Y H1 ao)(lU:∀k,k<H.size->Y k):Fr [] H ao:=by
 obtain⟨T,ca,b0⟩:=ab
 exact h1.ag ca λk hk=>aBF λaG=>b0 k hk (lU k aG)
theorem atq{H1:U}{A:en}(h:∀F∈jA x A,∀k∈F,H.size<=k):∀k∈kB x A,H.size<=k:=λk hk=>by
 simp only [kB,mN,axA]at hk
 rcases hk with rfl|rfl|hk
 ·exact h (A.s.block::A.cA::A.cu::A.Sd) (by simp [jA]) _ (by simp)
 ·exact h [k] (by simp [jA]) _ (by simp)
 ·exact h A.bC (by simp [jA]) _ hk
theorem atr:kc hX:=(show(lW hX).length<=40 by decide)
theorem ats:h3 0 (hX,5,7):=⟨arn,by decide,by decide,by decide⟩
theorem Y0{K:Bool->U->Prop}(cx:jL H)(cT:7<=H.size)(hk:∀H',Fr [] H H'->K true H'):eu Y1 [] H K:=by
 apply att
 refine Ps (X:=λk=>k<H.size) cx.uy (λk h=>h) λx A H1 h1 aL a' cX f1=>⟨λ_ H'=>H1=H',au (λc=>by simp at c) λ_=>au (λc=>by cases c) λ_=>rfl,?_⟩
 rintro br _ rfl
 intro b ao bK b1 aP bw
 have f13:=bK.af.aT bw.af
 have kD:=f1.aT f13
 have FI:=(oW.first (sz:=64) h1 aL a' (by decide)).ag f13
 have atu:∀k,k<7->k<H.size:=λk hk=>by omega
 have bT:bt g' aP (some ⟨b,0,none⟩) 1 1 hX:=(fy g' (O',JJ) bK rfl).ag bw.af
 refine⟨λ_ H'=>∃dG sj r v R,w3 H' (λk=>k<H.size) x 64 [(hX,5,7)] r dG sj 0 [] v [] R/\Fr [] H H',?_,?_⟩
 ·refine Y2 (p:=(hX,5,7)) (mm:=((some ⟨b,0,none⟩,1,1),5,7)) FI ⟨by decide,.inr ⟨rfl,rfl⟩⟩ atu (fy l5 _ bw rfl) ⟨bT,rfl⟩ (show(1:Nat)<=1000000 by decide) ⟨(show(-9223372036854775808:Int)<=7 by decide),(show(7:Int)<9223372036854775808 by decide)⟩ (λ_=>atr) (λH' cq _=>absurd ats cq) λa8 CJ yK r v R _ hw f4=>au (λc=>by simp at c) λ_=> ?_
  have b9:iz CJ.ps CJ.nx:=by rw [hw.rh];exact hw.I.l8
  refine Y3 hw.s.p b9 λbA f5=> ?_
  have e:(yK.st.now ei).isNone=false:=by
   rw [hw.qy]
   show(aZ.dS (jq [] v) ei).isNone=false
   unfold jq aZ.dS;rw [if_pos rfl];rfl
  rw [e]
  exact au (λc=>by cases c) λ_=>⟨CJ,yK,r,v,R,hw.ag f5,(Pr kD f4 (atq (H1:=H) cX)).aT f5⟩
 rintro br a8 ⟨CJ,yK,r,v,R,hw,kH⟩
 have ahI:=cx.ag kH
 have JW:r=CE/\R=[]:=by
  have e:=hw.FX
  rw [show b6 [] [(hX,5,7)]=([hX],[CE])from X0]at e
  cases R with
  |nil=>simp at e;exact⟨e.symm,rfl⟩
  |cons y R=>simp at e
 obtain⟨rfl,rfl⟩:=JW
 have axk:yK.L.length=1:=by rw [hw.eR,show b6 [] [(hX,5,7)]=([hX],[CE])from X0];rfl
 have lv:CJ.ps=[]:=ayT (by have:=hw.I.num.1;simpa using this)
 refine Y4 (M:=[(0,[(5,7)])]) (W:=[]) hw.s.p (by decide) (λbA a n c f5 aw K eL=> ?_) λaV bn bg bA cQ aw bB aO f5=> ?_
 ·have aB:=Da yK.L.length
  have F9:=aw.1
  rw [Pt]at F9
  refine Y5 (h:=hw.s.p.ag f5) lv hw.s.q hw.s.g.2 aw.bT aB (by omega) (by omega) λaV bn bg H' cQ ca b0 cY eP=> ?_
  have e:cL [] (tO (nS yK.L.length) 0 10 yK.ss)=[(0,[(5,7)])]:=by
   have aF:(0:Int)∈nS yK.L.length:=GO (by omega) (by omega)
   rw [hw.re]
   unfold tO
   simp only [CE,axT,aF,decide_true,if_true,List.filter_nil]
   rfl
  rw [e]at b0
  exact eL aV bn bg H' cQ ca b0 cY eP
 have aG:cQ.length=1:=bB.len
 obtain⟨y,rfl⟩:∃y,cQ=[y]:=by
  match cQ,aG with
  |[y],_=>exact⟨y,rfl⟩
 have jM:bn=1:=aw.1
 subst jM
 obtain⟨oO,aA⟩:y.1=0/\bt aS.encS bA y.2.1 y.2.2.1 y.2.2.2 [(5,7)]:=by
  cases bB with|cons h _=>exact h
 have s0:y.2.2.1=1:=aA.len
 have bs:=(hw.ag f5).ext
 have qJ:=kH.aT f5
 have bM:∀k,k<H.size->Az bA x CJ k:=λk hk=>⟨by have:=qJ.size;omega,λF bS aq=>by
  exact(hw.s.p.sep.2 F bS k aq).1 hk⟩
 refine Y6 bs (cx.ag qJ) (λk hk=>bM k (by omega)) λct A6 db6 nx6 alo b5 ps6 B2 wQ=> ?_
 have AT:bt dM ct aV 1 bg [y]:=wQ.bT aw.bT λk hk=>by
  have:=aw.ge k hk
  exact⟨this.2,λF bS aq=>by have:=(hw.s.p.sep.2 F bS k aq).2;omega⟩
 have sW:A6.ps=[(0,0,c6 0)]:=by rw [ps6 lv];rfl
 have atv:iz A6.ps A6.nx:=by rw [b5.rh];exact b5.I.l8
 have Bb:=YZ qJ wQ bM
 refine au (λ_=>au (λ_=>AT.get (k:=0) rfl rfl (by kernel_rfl) λaC b4 av=>⟨y.2.1,y.2.2.1,y.2.2.2,pC (j:=1) (by kernel_rfl) av rfl,?_⟩) λc=>by simp at c) λc=>by simp at c
 rw [s0]
 refine au (λ_=>au (λ_=>au (λ_=>atw (p:=(0,0,c6 0)) b5.s.p (by rw [sW];decide) (by rw [sW];rfl) rfl λdx f7=>au (λ_=> ?_) λc=>by simp at c) λc=>by simp at c) λc=>by cases c) λc=>by simp at c
 refine Y3 (b5.s.p.ag f7) atv λeQ f8=> ?_
 rw [b5.Y7]
 exact⟨_,rfl,hk eQ ((Bb.aT f7).aT f8)⟩
open aS (dd bF cL)
theorem atx{a:Option Addr}{ad:JG}{ms:List ob}{ps:List dZ}{K:Bool->U->Prop}(aa:bt yG H a n c [ad])(aF:ad.1=0)(vu:bt l5 H ad.2.1.1 ad.2.1.2.1 ad.2.1.2.2 ms)(lv:wV H ms ps)(ay:ad.2.1.2.1<=1000)
  (hk:∀b,(b=true->∀p∈ps,(ra p.1).size<=40)->K b H):
  eu aty [J a n c] H K:=by
 apply atz
 have k5:n=1:=aa.len
 have sV:=vu.len
 have j2:=dd.len lv
 have no:∃b,azD false=.bool b/\K b H:=⟨false,rfl,hk false λh=>by cases h⟩
 refine⟨λae H'=>match ae with|[.int _ q,.int _ g,.int _ p,.int _ i]=>H=H'/\g=0/\p=0/\((i=0/\q=0)\/(i=1/\∀p∈ps,(ra p.1).size<=40))|_=>False,λae _=>match ae with|[_,_,_,.int _ i]=>1-i.toNat|_=>0,⟨rfl,rfl,rfl,.inl ⟨rfl,rfl⟩⟩,?_⟩
 rintro br q g p i _ ⟨rfl,rfl,rfl,az⟩
 refine au (λhR=> ?_) λhR=> ?_
 ·obtain⟨rfl,rfl⟩:i=0/\q=0:=by
   rcases az with h|⟨h,_⟩
   ·exact h
   ·simp at hR;omega
  have get:∀{X:Addr->Prop},(∀aC,gu H (aC.add ((0:Int).toNat *8)) (yG.cells ad)->X aC)->fp a λaC=>dB (decide (0<=(0:Int)/\(0:Int)<n)) (X aC):=λhc=>aa.get (k:=0) rfl rfl (bh (by omega)) λaC _ av=>hc aC av
  have kd:∀{aC},gu H aC (yG.cells ad)->ah 22 H (aC.add 1) (.slice ad.2.1.1 ad.2.1.2.1 ad.2.1.2.2):=λav=>pC (j:=1) (by kernel_rfl) av rfl
  refine get λaC av=>⟨ad.1,xC (by kernel_rfl) av rfl,?_⟩
  rw [aF]
  refine au (λ_=> ?_) λc=>by simp at c
  refine⟨λae H'=>match ae with|[.int _ q,.int _ r]=>∃k:Nat,q=k/\r=k/\k<=ad.2.1.2.1/\(∀p∈ps.take k,(ra p.1).size<=40)/\H=H'|_=>False,λae _=>match ae with|[_,.int _ r]=>ad.2.1.2.1-r.toNat|_=>0,⟨0,rfl,rfl,ayv _,by simp,rfl⟩,?_⟩
  rintro br q r _ ⟨k,rfl,rfl,A0,nV,rfl⟩
  refine get λaC av=>⟨_,_,_,kd av,au (λc2=> ?_) λc2=> ?_⟩
  ·have FW:k<ad.2.1.2.1:=by simpa using c2
   obtain⟨m,hm⟩:=fM (l:=ms) (i:=k) (by omega)
   obtain⟨p,l4,cp⟩:=lv.get hm
   refine get λaC av=>⟨_,_,_,kd av,vu.get rfl hm (bh (by omega)) λaC b4 av=>⟨_,_,_,xC (by kernel_rfl) av rfl,XS cp.1 λe=>au (λ_=>no) λc3=> ?_⟩⟩
   rw [cE (by omega)]
   refine⟨⟨k+1,rfl,rfl,by omega,λx aa=> ?_,rfl⟩,dU FW⟩
   rw [azP,l4]at aa
   rcases azb.1 aa with h|h
   ·exact nV x h
   ·simp at h;subst h;simp at c3;omega
  ·have e:k=ad.2.1.2.1:=by simp at c2;omega
   rw [e,sV,j2,ayX]at nV
   have aL:IntKind.i64.wrap ((0:Int)+1)=1:=by kernel_rfl
   rw [aL]
   exact⟨⟨rfl,rfl,rfl,.inr ⟨rfl,nV⟩⟩,(show 1-(1:Int).toNat<1-(0:Int).toNat by decide)⟩
 ·have fe:∀p∈ps,(ra p.1).size<=40:=by
   rcases az with⟨rfl,_⟩|⟨_,h⟩
   ·simp at hR;omega
   ·exact h
  exact au (λ_=>au (λ_=>⟨_,rfl,hk _ λ_=>fe⟩) λ_=>no) λ_=>no
theorem Y8{cW:Option Addr}{cD c1:Nat}{l:bR}{K:Bool->U->Prop}(aG:bt g' H cW cD c1 l)(hk:∀b,(b=false->cD<=20)->K b H):
  eu atA [J cW cD c1,b2] H K:=by
 apply atB
 have yes:∃b,azD true=.bool b/\K b H:=⟨true,rfl,hk true (λh=>by cases h)⟩
 have rA:=aG.len
 refine⟨λae H'=>H=H'/\cD<=20,au (λ_=>yes) λc1=>au (λ_=>yes) λc2=>⟨rfl,by simp at c1;omega⟩,?_⟩
 rintro br _ ⟨rfl,b1⟩
 refine⟨λae H1=>match ae with|[.int _ i]=>∃k:Nat,i=k/\k<=cD/\H=H1|_=>False,λae _=>match ae with|[.int _ i]=>cD-i.toNat|_=>0,⟨0,rfl,by omega,rfl⟩,?_⟩
 rintro br i _ ⟨k,rfl,eC,rfl⟩
 refine au (λc=> ?_) λ_=> ?_
 ·have bg:k<cD:=by simpa using c
  obtain⟨y,aA⟩:=fM (l:=l) (i:=k) (by omega)
  refine aG.get rfl aA (bh (by omega)) λaC b4 av=>⟨y.1,xC (by kernel_rfl) av rfl,au (λ_=>yes) λ_=>aG.get rfl aA (bh (by omega)) λaC b4 av=>⟨y.2,pC (j:=1) (by kernel_rfl) av rfl,au (λ_=>yes) λ_=> ?_⟩⟩
  rw [cE (by omega)]
  exact⟨⟨k+1,rfl,by omega,rfl⟩,dU bg⟩
 refine⟨λae H1=>ae=[.int .i64 0]/\H=H1,λ_ _=>0,⟨rfl,rfl⟩,?_⟩
 rintro br i _ ⟨e,rfl⟩
 cases e
 exact au (λc=>by simp at c) λ_=>⟨false,rfl,hk false λ_=>b1⟩
theorem atC{a wY:Option Addr}{nl cl:Nat}{ad:JG}{ms:List ob}{K:Bool->U->Prop}(aa:bt yG H a 1 c [ad])(aw:ad=(0,(wY,nl,cl),(none,0,0),0,0,0,0,⟨#[]⟩))(vu:bt l5 H wY nl cl ms)(O4:∀m∈ms,∃l,bt g' H m.1.1 m.1.2.1 m.1.2.2 l)
  (hk:∀b,(b=false->nl<=100/\∀m∈ms,m.1.2.1<=20)->K b H):
  eu atD [J a 1 c,o 1] H K:=by
 subst aw
 apply atE
 have yes:∃b,azD true=.bool b/\K b H:=⟨true,rfl,hk true (λh=>by cases h)⟩
 have sV:=vu.len
 refine au (λ_=>yes) λ_=> ?_
 refine⟨λae H1=>match ae with|[.int _ p,.int _ i]=>H=H1/\((i=0/\p=0)\/(i=1/\nl<=100/\∀m∈ms,m.1.2.1<=20))|_=>False,λae _=>match ae with|[_,.int _ i]=>1-i.toNat|_=>0,⟨rfl,.inl ⟨rfl,rfl⟩⟩,?_⟩
 rintro br p i _ ⟨rfl,az⟩
 refine au (λhR=> ?_) λhR=> ?_
 ·obtain⟨rfl,rfl⟩:i=0/\p=0:=by
   rcases az with h|⟨h,_⟩
   ·exact h
   ·simp at hR;omega
  have get:∀{X:Addr->Prop},(∀aC,gu H (aC.add ((0:Int).toNat *8)) (yG.cells (0,(wY,nl,cl),(none,0,0),0,0,0,0,⟨#[]⟩))->X aC)->fp a λaC=>dB (decide (0<=(0:Int)/\(0:Int)<((1:Nat):Int))) (X aC):=λhc=>aa.get (k:=0) rfl rfl (bh (by omega)) λaC _ av=>hc aC av
  have kd:∀{aC},gu H aC (yG.cells (0,(wY,nl,cl),(none,0,0),0,0,0,0,⟨#[]⟩))->ah 22 H (aC.add 1) (.slice wY nl cl):=λav=>pC (j:=1) (by kernel_rfl) av rfl
  refine⟨λae H1=>∃q,ae=[.int .i64 q]/\(nl<=100/\∀m∈ms,m.1.2.1<=20)/\H=H1,⟨λae H1=>nl<=100/\H=H1,get λaC av=>⟨_,_,_,kd av,au (λ_=>yes) λc1=>get λaC av=>⟨_,pC (j:=7) (by kernel_rfl) av rfl,au (λ_=>yes) λc2=>get λaC av=>⟨_,_,_,pC (j:=2) (by kernel_rfl) av rfl,Y8 (l:=[]) yF λb al=>au (λ_=>yes) λe=>⟨by simp at c1;omega,rfl⟩⟩⟩⟩,?_⟩,?_⟩
  ·rintro br _ ⟨b1,rfl⟩
   refine get λaC av=>⟨_,_,_,kd av,λae H1=>match ae with|[.int _ i]=>∃r:Nat,i=r/\r<=nl/\(∀m∈ms.take r,m.1.2.1<=20)/\H=H1|_=>False,λae _=>match ae with|[.int _ i]=>nl-i.toNat|_=>0,⟨0,rfl,by omega,by simp,rfl⟩,?_⟩
   rintro br i _ ⟨r,rfl,aB,nV,rfl⟩
   refine get λaC av=>⟨_,_,_,kd av,au (λc3=> ?_) λc3=> ?_⟩
   ·have atF:r<nl:=by simpa using c3
    obtain⟨m,hm⟩:=fM (l:=ms) (i:=r) (by omega)
    obtain⟨l,aG⟩:=O4 m (azR hm)
    refine get λaC av=>⟨_,_,_,kd av,vu.get rfl hm (bh (by omega)) λaC b4 av=>⟨_,_,_,xC (by kernel_rfl) av rfl,Y8 aG λb al=>au (λ_=>yes) λe=> ?_⟩⟩
    rw [cE (by omega)]
    refine⟨⟨r+1,rfl,by omega,λx aa=> ?_,rfl⟩,dU atF⟩
    rw [azP,hm]at aa
    rcases azb.1 aa with h|h
    ·exact nV x h
    ·simp at h;subst h;exact al e
   ·have e:r=nl:=by simp at c3;omega
    rw [e,sV,ayX]at nV
    exact⟨_,rfl,⟨b1,nV⟩,rfl⟩
  ·rintro br _ _ ⟨Ko,h,aO,rfl⟩
   cases h
   have aL:IntKind.i64.wrap ((0:Int)+1)=1:=by kernel_rfl
   rw [aL]
   exact⟨⟨rfl,.inr ⟨rfl,aO⟩⟩,(show 1-(1:Int).toNat<1-(0:Int).toNat by decide)⟩
 ·refine⟨_,rfl,hk _ λ_=> ?_⟩
  rcases az with⟨rfl,_⟩|⟨_,h⟩
  ·simp at hR
  ·exact h
theorem oW.at{X':Nat->Prop}{qs:List dZ}{A:en}{db:ey}{l:gO}(h:oW H X y sz qs A db nx l)(s:jX H' X' y 0 16384 60 A.m A db):oW H' X' y sz qs A db nx l:=⟨s,h.eR,h.re,h.qy,h.rf,h.run,h.rh,h.I⟩
theorem sk.at{X':Nat->Prop}{qs:List dZ}{A:en}{db:ey}{l:gO}(h:sk H X y j qs A db l)(s:jX H' X' y (50*j) (400000*j) j A.m A db):sk H' X' y j qs A db l:=⟨s,h.eR,h.re,h.qy,h.el,h.Pu,h.rf,h.run⟩
def nF(step:Bool)(X:Nat->Prop)(y j:Nat)(qs:List dZ)(H:U):Prop:=if step=true then∃A db nx l,oW H X y 512 qs A db nx l else∃A db l dD,dD<=j/\sk H X y dD qs A db l
theorem atG{step:Bool}{qs:List dZ}{a:Option Addr}{mm:ob}{p:dZ}(h:nF step X y j qs H)(bq:j<50)(ay:qs.length<50)(cx:jL H)(cT:∀k,k<7->X k)(aa:bt l5 H a 1 c [mm])(aH:FV H mm p)(aG:mm.1.2.1<=1000000)(aI:eM p.2.2)(cd:fa p.1->kc p.1):
  aK JN [ax (some (ak y)),J a 1 c] H λv H'=>∃e,v=.int .i64 e/\e=gW [p]/\if step=true then aK GV [ax (some (ak y))] H' λv dn=>∃b e,v=.tuple ⟨[.bool b,.int .i64 e]⟩/\nF step X y (j+1) (if h3 0 p then qs++[p]else qs) dn/\fH X H dn else nF step X y (j+1) (if h3 0 p then qs++[p]else qs) H'/\fH X H H':=by
 have aL:gW [p]=if h3 0 p then 0 else pH p:=by unfold gW;split<;>rfl
 have wr:∀{A:en} {db:ey} {H':U},fN H X y A db->Fr (kB y A) H H'->fH X H H':=λb9 ai=>⟨_,ai,λk hk=>(b9.wr k hk).1⟩
 unfold nF at h
 split at h
 ·rename_i hs
  subst hs
  obtain⟨A,db,nx,l,h⟩:=h
  have b9:iz A.ps A.nx:=by rw [h.rh];exact h.I.l8
  refine Y2 h ⟨ay,.inl rfl⟩ cT aa aH aG aI cd (λH' cq ai=> ?_) λH' dG sj r v R e' kI ai=> ?_
  ·refine⟨by rw [aL,if_neg cq],?_⟩
   rw [if_pos rfl,if_neg cq]
   refine aco (h.ag ai).s.p b9 h.Y7 λdn f2=>⟨?_,fH.of (ai.aT f2)⟩
   unfold nF
   rw [if_pos rfl]
   exact⟨A,db,nx,l,(h.ag ai).ag f2⟩
  ·refine⟨by rw [aL,if_pos e'],?_⟩
   rw [if_pos rfl,if_pos e']
   have fq:=wr h.s.p ai
   refine Y6 kI (cx.af ai λk hk=>aBF λq=>(h.s.p.wr k hk).1 (cT k q)) cT λdn hz Y9 rF gA lU _ _ gT=>⟨?_,fq.trans gT⟩
   unfold nF
   rw [if_pos rfl]
   exact⟨hz,Y9,rF,gA,lU⟩
 ·rename_i hs
  obtain⟨A,db,l,dD,kO,h⟩:=h
  refine Y' h (by omega) ⟨axx _,by omega⟩ cT aa (.cons aH .nil) (by simpa using aG) (by simpa using aI) (by simpa using cd) (λH' he ai=> ?_) λH' dG sj fG he fl ai=> ?_
  ·have cq:¬h3 0 p:=λe'=>he (by rw [aL,if_pos e'])
   refine⟨rfl,?_⟩
   rw [if_neg hs,if_neg cq]
   refine⟨?_,fH.of ai⟩
   unfold nF
   rw [if_neg hs]
   exact⟨A,db,l,dD,by omega,h.at (h.s.ag ai)⟩
  ·have e':h3 0 p:=F8 he p (by simp)
   refine⟨he.symm,?_⟩
   rw [if_neg hs,if_pos e']
   refine⟨?_,wr h.s.p ai⟩
   unfold nF
   rw [if_neg hs]
   exact⟨dG,sj,fG,dD+1,by omega,fl⟩
theorem nF.all{step:Bool}{qs:List dZ}{K:ByteArray->U->Prop}(h:nF step X y j qs H)(bq:j<=50)(ay:qs.length<=50)(hk:∀A db H',fN H X y A db->db.L=(b6 [] qs).1->Fr [A.ds] H H'->K (JX (b6 [] qs).1 (cL [] (b6 [] qs).2)) H'):
  dv JY [ax (some (ak y))] H K:=by
 unfold nF at h
 split at h
 ·obtain⟨A,db,nx,l,h⟩:=h
  exact atH h ay λH' ai=>hk A db H' h.s.p h.eR ai
 ·obtain⟨A,db,l,dD,kO,h⟩:=h
  exact Za h (by omega) ay λH' ai=>hk A db H' h.s.p h.eR (ai.mono (by simp))
theorem y3{A:en}{db:ey}{S:List Nat}{K:Int->U->Prop}(h:fN H X x A db)(ai:Fr S H H')(bB:∀k∈S,¬(k=x\/k∈A.bC))(hk:K db.L.length H'):cG Zb [ax (some (ak x))] H' K:=
 atI (A:=A) (h.bz.af ai λaq=>bB _ aq (.inl rfl)) (h.bH.af ai λk hk aq=>bB k aq (.inr hk)) hk
open aS (dd bF cL)
theorem atJ(ps:List dZ){k:Nat}{p:dZ}(h:ps[k]?=some p):okL (ps.take (k+1))=(if h3 0 p then okL (ps.take k)++[p]else okL (ps.take k))/\gW (ps.take (k+1))=if gW (ps.take k)=0 then gW [p]else gW (ps.take k):=by
 rw [azP,h,aAh]
 exact⟨atm _ _,YT⟩
theorem asx{a:Option Addr}{ms:List ob}{step:Bool}(aa:bt l5 H a n c ms)(hm:∀m∈ms,(∃l,bt g' H m.1.1 m.1.2.1 m.1.2.2 l)/\eM m.2.2)(cx:jL H)(cT:7<=H.size):
  aK atK [J a n c,aD step] H λv H'=>v=.bool true/\Fr [] H H':=by
 apply atL
 intro b H1 bb
 have f1:=bb.af
 have B1:=cx.ag f1
 have ht:=bb.size
 obtain⟨ad,aw⟩:∃ad:JG,ad=(0,(a,n,c),(none,0,0),0,0,0,0,⟨#[]⟩):=⟨_,rfl⟩
 have one:bt yG H1 (some ⟨b,0,none⟩) 1 1 [ad]:=by rw [aw];exact fy yG _ bb rfl
 have JZ:∀{G:U},Fr [] H1 G->aK Y1 [] G λv H'=>∃b,v=.bool b/\(azD b=.bool true/\Fr [] H H'):=λai=>Y0 (B1.ag ai) (by have:=ai.size;omega) λH' bL=>⟨rfl,(f1.aT ai).aT bL⟩
 refine⟨λ_ H'=>∃CK ps,Fr [] H1 H'/\1<=n/\n<=50/\bt l5 H' a n c CK/\wV H' CK ps/\(∀m∈CK,m.1.2.1<=1000000)/\(∀p∈ps,eM p.2.2)/\∀p∈ps,(ra p.1).size<=40,?_,?_⟩
 ·refine atC one aw (aa.ag f1) (λm fv=>(hm m fv).1.elim λl aG=>⟨l,aG.ag f1⟩) λca h1=>au (λ_=>JZ (Fr.refl _ _)) λc1=> ?_
  obtain⟨cD,sA⟩:=h1 c1
  obtain⟨ps,lv⟩:=dd.XT (R:=FV H1) (l:=ms) λm fv=>(hm m fv).1.elim λl aG=>⟨(l,m.2),aG.ag f1,rfl⟩
  refine atx one (by rw [aw]) (by rw [aw];exact aa.ag f1) lv (by rw [aw];exact ax4 cD (by decide)) λb0 ab=>au (λ_=>JZ (Fr.refl _ _)) λc2=>au (λ_=>JZ (Fr.refl _ _)) λc3=>au (λ_=>JZ (Fr.refl _ _)) λc4=>Y0 B1 (by omega) λaP f3=>au (λc=>by cases c) λ_=> ?_
  refine⟨ms,ps,f3,by simp at c3;omega,by simp at c4;omega,aa.ag (f1.aT f3),wV.ag lv f3,λm fv=>ax4 (sA m fv) (by decide),λp aH=> ?_,ab (by simpa using c2)⟩
  obtain⟨j,bq⟩:=List.mem_iff_getElem?.1 aH
  obtain⟨m,p9,Kk⟩:=lv.get' bq
  rw [<-Kk.2];exact(hm m (azR p9)).2
 rintro br aP ⟨CK,ps,f13,atM,axl,vu,lv,sV,Zc,NP⟩
 have kD:=f1.aT f13
 have z3:=kD.size
 have MF:=cx.ag kD
 have axm:=vu.len
 have j2:=dd.len lv
 have cd:∀p∈ps,fa p.1->kc p.1:=λp aH av=>by
  have:=NP p aH
  unfold ra at this
  rw [if_pos av,fD]at this
  exact this
 refine Ps (X:=λk=>k<aP.size) MF.uy (λk h=>h) λx Ga a8 u9 ex1 ex2 atN f34=> ?_
 refine Ps (X:=λk=>k<a8.size) (MF.ag f34).uy (λk h=>h) λy J0 bA Gb Zd atO Pv f45=>⟨λ_ H'=>bA=H',au (λc=>by simp at c) λ_=>au (λc=>by simp at c) λ_=>au (λc=>by cases c) λ_=>au (λc=>by cases c) λ_=>rfl,?_⟩
 rintro br _ rfl
 have z4:=f34.size
 have z5:=f45.size
 have f35:=f34.aT f45
 have Ty:∀F∈jA x Ga,∀k∈F,k<a8.size:=λF bS k hk=>(u9.p.sep.2 F bS k hk).2
 have aO:=(u9.ag f45).ext
 rw [<-u9.m]at aO
 have atP:=(sk.first u9 ex1).at aO
 have atQ:∀k,k<aP.size->Az bA x Ga k:=λk hk=>⟨by omega,λF bS aq=>by have:=atN F bS k aq;omega⟩
 have atS:∀k,k<7->Az bA x Ga k:=λk hk=>atQ k (by omega)
 refine fo.mono (Y' (K:=λe ct=>e=gW ps/\∃S,Fr S bA ct/\(∀k∈S,aP.size<=k/\k<a8.size)/\(gW ps=0->∃A db l,sk ct (Az bA x Ga) x 1 ps A db l)) atP (by omega) ⟨atM,by simp;omega⟩ atS (vu.ag f35) (wV.ag lv f35) sV Zc cd (λct he f=>⟨rfl,[],f,by simp,λh=>absurd h he⟩) λct dG sj fG he fl f=>⟨he.symm,kB x Ga,f,λk hk=> ?_,λ_=>⟨dG,sj,fG,by simpa using fl⟩⟩) ?_
 ·have q:=u9.p.wr k hk
  exact⟨aBF q.1,q.2⟩
 rintro v ct ⟨e,rfl,he,S,f56,bB,hc⟩
 refine⟨e,rfl,?_⟩
 have vz:=f56.size
 have f36:=Pr f35 f56 λk hk=>(bB k hk).1
 have atT:∀F∈jA y J0,∀k∈F,k<bA.size:=λF bS k hk=>(Gb.p.sep.2 F bS k hk).2
 have Pw:=(Gb.af f56 (λF bS k hk aq=>by have:=Pv F bS k hk;have:=(bB k aq).2;omega) λk hk=>by have:=(bB k hk).1;omega).ext
 generalize Ze:Az ct y J0=Y at Pw
 have J1:∀k,k<a8.size->Y k:=λk hk=>by rw [<-Ze];exact⟨by omega,λF bS aq=>by have:=Pv F bS k aq;omega⟩
 have atU:nF step Y y 0 [] ct:=by
  unfold nF
  have mS:=Gb.m
  split
  ·exact⟨J0,_,0,[],(oW.first Gb Zd atO (by decide)).at (by rw [mS];exact Pw.mono (ayv _) (ayv _) (ayv _))⟩
  ·exact⟨J0,_,[],0,axx _,(sk.first Gb Zd).at (by rw [mS];exact Pw)⟩
 refine⟨λae H'=>match ae with|[.int _ q,.int _ i]=>∃k:Nat,i=k/\k<=n/\q=gW (ps.take k)/\nF step Y y k (okL (ps.take k)) H'/\fH Y ct H'|_=>False,λae _=>match ae with|[_,.int _ i]=>n-i.toNat|_=>0,⟨0,rfl,ayv _,rfl,atU,fH.of (Fr.refl _ _)⟩,?_⟩
 rintro br q i dx ⟨k,rfl,eC,rfl,dK,Px⟩
 have f37:=YZ f36 Px λk hk=>J1 k (by omega)
 have xE:=kD.aT f37
 have ea:=ato (ps.take k)
 rw [ayj]at ea
 refine au (λhR=> ?_) λhR=> ?_
 ·have bg:k<n:=by simpa using hR
  obtain⟨mm,sc⟩:=fM (l:=CK) (i:=k) (by omega)
  obtain⟨p,l4,cp⟩:=lv.get sc
  have pN:=azR l4
  obtain⟨t1,t2⟩:=atJ ps l4
  have Bf:=vu.cap
  rw [cE (by omega)]
  refine cM (bh ⟨by omega,by omega,by omega⟩) ?_
  have Zf:=(vu.ag f37).cut (k:=k) (m:=k+1) (by omega) (by omega)
  have atV:(CK.take (k+1)).drop k=[mm]:=by
   rw [azP,sc,aAh,List.drop_append_of_le_length (by rw [ayj];omega),List.drop_of_length_le (by rw [ayj];omega),List.nil_append]
  rw [atV,show k+1-k=1 by omega]at Zf
  have aL:azw ((k+1:Nat):Int)-azw (k:Int)=1:=by omega
  rw [aL]
  have Zg:=atG dK (by omega) (by omega) (cx.ag xE) (λk hk=>J1 k (by omega)) Zf (p:=p) ⟨cp.1.ag f37,cp.2⟩ (sV mm (azR sc)) (Zc p pN) (cd p pN)
  rw [<-t1]at Zg
  refine fo.mono Zg ?_
  rintro v eQ ⟨g,rfl,rfl,yL⟩
  refine⟨_,rfl,?_⟩
  have eq:∀{q:Int} {cN:U},q=gW (ps.take (k+1))->nF step Y y (k+1) (okL (ps.take (k+1))) cN/\fH Y dx cN->(∃eg:Nat,((k+1:Nat):Int)=eg/\eg<=n/\q=gW (ps.take eg)/\nF step Y y eg (okL (ps.take eg)) cN/\fH Y ct cN)/\n-((k+1:Nat):Int).toNat<n-((k:Nat):Int).toNat:=λaO h=>⟨⟨k+1,rfl,by omega,aO,h.1,Px.trans h.2⟩,dU bg⟩
  refine au (λc1=> ?_) λc1=> ?_
  ·have h1:gW (ps.take k)=0:=by simpa using c1
   rw [if_pos h1]at t2
   refine au (λhs=> ?_) λhs=> ?_
   ·rw [if_pos hs]at yL
    exact yL.mono λv cN ⟨b,g,aI,h⟩=>⟨b,g,aI,eq t2.symm h⟩
   ·rw [if_neg (by simp [hs])]at yL
    exact eq t2.symm yL
  ·have h1:gW (ps.take k)≠0:=by simpa using c1
   rw [if_neg h1]at t2
   refine au (λhs=> ?_) λhs=> ?_
   ·rw [if_pos hs]at yL
    exact yL.mono λv cN ⟨b,g,aI,h⟩=>⟨b,g,aI,eq t2.symm h⟩
   ·rw [if_neg (by simp [hs])]at yL
    exact eq t2.symm yL
 ·have gR:k=n:=by simp at hR;omega
  have mO:ps.take k=ps:=ayB (by omega)
  rw [mO]at dK⊢
  subst he
  refine au (λc1=>by simp at c1) λ_=>au (λ_=>⟨rfl,xE⟩) λc2=> ?_
  have vc:gW ps=0:=by simpa using c2
  rw [atn (F8 vc)]at dK
  obtain⟨A,db,l,fl⟩:=hc vc
  have Py:∀F∈jA x A,∀k∈F,Y k:=λF bS k hk=>by
   have h1:=fl.s.p.sep.2 F bS k hk
   rw [<-Ze]
   refine⟨h1.2,λG Gc aq=>h1.1 ⟨atT G Gc k aq,λF' atW s7=> ?_⟩⟩
   have:=Pv G Gc k aq
   have:=Ty F' atW k s7
   omega
  obtain⟨T,atX,z7⟩:=Px
  have Zh:=fl.at (fl.s.af atX (λF bS k hk aq=>z7 k aq (Py F bS k hk)) λk hk=>aBF λq=>z7 k hk (J1 k (by omega)))
  refine Za Zh (by omega) (by omega) λeQ f8=> ?_
  have atY:nF step Y y k ps eQ:=by
   unfold nF at dK⊢
   split at dK
   ·rename_i hs
    rw [if_pos hs]
    obtain⟨A,db,nx,l,h⟩:=dK
    exact⟨A,db,nx,l,h.ag f8⟩
   ·rename_i hs
    rw [if_neg hs]
    obtain⟨A,db,l,dD,kO,h⟩:=dK
    exact⟨A,db,l,dD,kO,h.at (h.s.ag f8)⟩
  refine atY.all (by omega) (by omega) λhz Y9 cN vQ OU f9=>au (λ_=> ?_) λc=>by simp at c
  have Pz:¬Y hz.ds:=vQ.sep.no (i:=5) rfl hz.ds (by simp)
  have atZ:∀k∈[hz.ds],¬(k=x\/k∈A.bC):=λk hk aq=>by
   simp only [ayw]at hk
   subst hk
   rcases aq with e|e
   ·exact Pz (by rw [e];exact Py [x] (by simp [jA]) x (by simp))
   ·exact Pz (Py A.bC (by simp [jA]) _ e)
  have at0:∀k∈[hz.ds],¬(k=y\/k∈hz.bC):=λk hk aq=>by
   simp only [ayw]at hk
   subst hk
   rcases aq with e|e
   ·exact vQ.sep.ne (i:=5) (j:=0) (k:=hz.ds) (by decide) rfl rfl (by simp) (by simp [e])
   ·exact vQ.sep.ne (i:=5) (j:=2) (k:=hz.ds) (by decide) rfl rfl (by simp) e
  refine y3 (Zh.s.p.ag f8) f9 atZ (y3 vQ f9 at0 ⟨?_,?_⟩)
  ·rw [fl.eR,OU];simp
  ·exact Pr (xE.aT f8) f9 λk hk=>by
    simp only [ayw]at hk
    subst hk
    exact aBF λq=>Pz (J1 _ (by omega))
end Go.Proofs.Bt
namespace Go.Proofs.YtilgmbcmbapbkaaGreatDoor
open Go.ChangeShapes Go.WideShapes Go.ChangeAt Go.RowKit
abbrev tT:List (String×DataW Unit):=[("math/bits.deBruijn32tab",Rows.laid_math_bits_deBruijn32tab),("math/bits.deBruijn64tab",Rows.laid_math_bits_deBruijn64tab),("internal/strconv.uint64pow10",Rows.laid_internal_strconv_uint64pow10),("strandline/frame.steps",Rows.laid_strandline_frame_steps),("strconv.ErrRange",Rows.laid_strconv_ErrRange),("strconv.ErrSyntax",Rows.laid_strconv_ErrSyntax)]
theorem ast:Tryz.prog.globalNamed "strandline/frame.steps" =some 0:=by kernel_rfl
theorem asu{H:U}{m:Nat}{r:List Value}(aB:jo azB H m 51 r)(aG:r.length=g'.sz):∃x:hV,g'.cells x=r/\True:=by
 obtain⟨_,ai⟩:=aB.struct Tryz.underlying51
 obtain⟨c0,c1,rfl⟩:=ars aG
 obtain⟨_,aF⟩:=ai 0 _ rfl
 obtain⟨_,h1⟩:=ai 1 _ rfl
 obtain⟨fj,ed,_⟩:=jo.str aAi aF
 obtain⟨k',aL,_⟩:=jo.str aAi h1
 have av:Tryz.prog.cellsOf 9=1:=by kernel_rfl
 simp [av]at ed aL
 exact⟨(fj,k'),by rw [ed,aL];rfl,trivial⟩
theorem asv{H:U}{m:Nat}{r:List Value}(aB:jo azB H m 47 r)(aG:r.length=l5.sz):∃x:ob,l5.cells x=r/\((∃l,bt g' H x.1.1 x.1.2.1 x.1.2.2 l)/\eM x.2.2):=by
 obtain⟨_,ai⟩:=aB.struct Tryz.underlying47
 obtain⟨c0,c1,c2,rfl⟩:=art aG
 obtain⟨_,aF⟩:=ai 0 _ rfl
 obtain⟨_,h1⟩:=ai 1 _ rfl
 obtain⟨_,ab⟩:=ai 2 _ rfl
 obtain⟨a,n,c,L,ed,bZ,_,_⟩:=aF.bT (E:=g') (G:=λ_=>True) Tryz.underlying45 (by kernel_rfl) λm r aB aG=>asu aB aG
 obtain⟨k',aL,_⟩:=jo.int aBL h1
 obtain⟨la,a',Ci⟩:=jo.int aBL ab
 have lb:Tryz.prog.cellsOf 3=1:=by kernel_rfl
 have asw:Tryz.prog.cellsOf 45=1:=by kernel_rfl
 simp [lb,asw]at ed aL a'
 exact⟨((a,n,c),k',la),by rw [ed,aL,a'];rfl,⟨L,bZ⟩,wf_i64 Ci⟩
theorem asq{H:U}{ae:List Value}(h:FY azB H [22,4] ae)(cx:jL H)(cT:7<=H.size):YF 3 ⟨ae⟩ H λv H'=>v=.bool true/\Fr [] H H':=by
 obtain⟨v0,_,rfl,aF,v1,_,rfl,h1,rfl⟩:=h
 obtain⟨a,n,c,ms,rfl,eo,av,ba⟩:=aF.bT (E:=l5) (G:=λx=>(∃l,bt g' H x.1.1 x.1.2.1 x.1.2.2 l)/\eM x.2.2) Tryz.underlying22 (by kernel_rfl) λm r aB aG=>asv aB aG
 obtain⟨b,rfl⟩:=h1.bool Tryz.underlying4
 exact Bt.asx eo ba cx cT
theorem YG{P:Program}{w:World}{n:String}{d:DataW Unit}:∀{l:List (String×DataW Unit)} {ps:List MemPlace},DataW.LaidVars P w l ps->(n,d)∈l->∃g t cs fuel p,P.globalNamed n=some g/\(P.globals[g]?).map (·.type)=some t/\w.var? P n=some cs/\DataW.trod (λ_=>()) P w 0 (λ_=>true) false fuel t cs.toList=some (d,p)
 |[],_,_,h=>by cases h
 |(bn,d')::r,ps,h,hm=>by
  obtain⟨g,t,cs,fuel,p,q,h1,ab,ar,a7,bs,_⟩:=h
  rcases axA.1 hm with e|hm
  ·cases e;exact⟨g,t,cs,fuel,p,h1,ab,ar,a7⟩
  ·exact YG bs hm
theorem asy{P:Program}{w:World}{n:String}{g:Nat}{cs:Array Value}(ba:P.globalNamed n=some g)(h:w.var? P n=some cs):∃t f,w.heap[g]?=some (.cells cs t f):=by
 unfold World.var? at h
 rw [ba,Option.bind_some]at h
 split at h
 ·rename_i c t f e
  cases h;exact⟨t,f,e⟩
 ·cases h
theorem YH{P:Program}{w:World}{fuel g t e n:Nat}{k:IntKind}{cs:List Value}{zs:List Int}{p:List MemPlace}(hu:P.underlying t=some (.array n e))(asz:P.underlying e=some (.int k))(TQ:P.cellsOf e=1)(WB:P.cellsOf t=n)
  (h:DataW.trod (λ_=>()) P w 0 (λ_=>true) false fuel t cs=some (.agg (zs.map λz=>.lit (.int k z)),p)):cs=zs.map (Value.int k):=by
 obtain⟨xs,m,rfl,aa,hlen,ay,yi⟩:=DataW.trod_array hu h
 have q2:xs.map (·.1)=zs.map λz=>(.lit (.int k z):DataW Unit):=(DataW.agg.inj (Prod.mk.injEq _ _ _ _▸aa).1).symm
 have vT:zs.length=n:=by have:=congrArg List.length q2;simp at this;omega
 rw [WB]at hlen
 apply List.ext_getElem?
 intro i
 by_cases az:i<n
 ·have h1:=yi i az
  rw [TQ,Nat.mul_one]at h1
  obtain⟨x,wE⟩:=fM (l:=xs) (i:=i) (by omega)
  rw [wE]at h1
  obtain⟨v,aL,a',_⟩:=DataW.trod_int asz h1
  have a7:=congrArg (·[i]?) q2
  simp only [ayp,wE,ayr]at a7
  obtain⟨z,aE⟩:=fM (l:=zs) (i:=i) (by omega)
  rw [aE,ayr]at a7
  have bs:v=z:=by
   have:=(Option.some.inj a7)
   rw [a']at this
   simpa using this
  have b5:=congrArg List.head? aL
  rw [List.head?_take,if_neg (by decide),List.head?_drop]at b5
  rw [ayp,aE,b5,bs];rfl
 ·rw [aBM.2 (by omega),aBM.2 (by simp;omega)]
theorem asA{P:Program}{w:World}{fuel t:Nat}{ms:Array String}{cs:List Value}{bX:String}{x:DataW Unit}{p:List MemPlace}{d:TypeDesc}(aR:P.underlying t=some d)(az:∃ms,d=.interface ms)
  (h:DataW.trod (λ_=>()) P w 0 (λ_=>true) false fuel t cs=some (.iface bX x,p)):∃u v,cs=[.iface u v]:=by
 obtain⟨ms,rfl⟩:=az
 cases fuel with
 |zero=>simp [DataW.trod]at h
 |succ m=>
  unfold DataW.trod at h
  rw [aR]at h
  split at h<;>simp_all
theorem asB:(Rows.laid_strandline_frame_steps:DataW Unit)=.agg ((Ar.map fun(x:Nat)=>(x:Int)).map λz=>.lit (.int .u16 z)):=rfl
theorem asC:(Rows.laid_internal_strconv_uint64pow10:DataW Unit)=.agg (Lib.pow10Tab.map λz=>.lit (.int .u64 z)):=rfl
theorem aso{w:World}(hs:w.ShapedOpen azB)(h:laidMetH azB tT w):jL w.heap/\7<=w.heap.size:=by
 rw [MakeChecks.laidMetH_plain _ _ _ (by kernel_rfl)]at h
 obtain⟨ps,aI,_,_⟩:=h
 have get:∀{n:String} {d:DataW Unit} {g t:Nat},(n,d)∈tT->Tryz.prog.globalNamed n=some g->(Tryz.prog.globals[g]?).map (·.type)=some t->∃(cs:Array Value) (f:TypeId×Nat×Nat) (fuel:Nat) (p:List MemPlace),w.heap[g]?=some (.cells cs f.1 f.2)/\DataW.trod (λ_=>()) azB w 0 (λ_=>true) false fuel t cs.toList=some (d,p):=λhm ba aW=>by
  obtain⟨N8,gk,cs,fuel,p,h1,ab,ar,a7⟩:=YG aI hm
  obtain rfl:=Option.some.inj (ba.symm.trans h1)
  obtain rfl:=Option.some.inj (aW.symm.trans ab)
  obtain⟨tt,f,e⟩:=asy h1 ar
  exact⟨cs,(tt,f),fuel,p,e,a7⟩
 have YI:∀{n:String} {bX:String} {x:DataW Unit} {g:Nat},(n,.iface bX x)∈tT->Tryz.prog.globalNamed n=some g->(Tryz.prog.globals[g]?).map (·.type)=some 172->∃u x,j5 w.heap ⟨g,0,none⟩=some (.iface u x):=λhm ba aW=>by
  obtain⟨cs,f,fuel,p,e,a7⟩:=get hm ba aW
  obtain⟨u,v,a'⟩:=asA (ms:= #[]) Tryz.underlying172 ⟨_,rfl⟩ a7
  refine⟨u,v,?_⟩
  have:=tp e 0
  rw [this,<-aAC,a'];rfl
 refine⟨⟨?_,?_,?_,YI (n:= "strconv.ErrSyntax") (.tail _ (.tail _ (.tail _ (.tail _ (.tail _ (.head _)))))) (by kernel_rfl) (by kernel_rfl),YI (n:= "strconv.ErrRange") (.tail _ (.tail _ (.tail _ (.tail _ (.head _))))) (by kernel_rfl) (by kernel_rfl)⟩,?_⟩
 ·obtain⟨cs,f,fuel,p,e,a7⟩:=get (n:= "strandline/frame.steps") (d:=Rows.laid_strandline_frame_steps) (by simp [tT]) ast (t:=303) (by kernel_rfl)
  rw [asB]at a7
  have av:=YH (g:=0) Tryz.underlying303 Tryz.underlying302 (by kernel_rfl) (by kernel_rfl) a7
  intro k hk
  have:=tp e k
  rw [this,<-aAC,av]
  have bs:Ar[k]?=some (uO k):=by
   unfold uO
   rw [List.getD_eq_getElem?_getD,List.getElem?_eq_getElem (show k<Ar.length from hk)];rfl
  simp [bs]
 ·have h1:=hs.1 1 #[.int .i64 0] 3 (of_decide_eq_true (by kernel_rfl)) (by kernel_rfl)
  obtain⟨cs,e,dF,e'⟩:=h1
  obtain⟨ts,aL,_,cX⟩:=e' (by kernel_rfl)
  have a':Tryz.prog.cellTypes Tryz.prog.depth 3=some [3]:=by kernel_rfl
  obtain rfl:=Option.some.inj (a'.symm.trans aL)
  have gh:cs.size=1:=dF
  obtain⟨v,aI⟩:∃v,cs[0]?=some v:=⟨cs[0],by simp⟩
  obtain⟨u,hu,av⟩:=cX 0 v aI
  simp at hu
  subst hu
  unfold Cell.ok at av
  rw [aBL]at av
  have:=tp e 0
  rw [aI]at this
  cases v<;>simp at av
  obtain⟨rfl,_⟩:=av
  exact⟨_,this⟩
 ·obtain⟨cs,f,fuel,p,e,a7⟩:=get (n:= "internal/strconv.uint64pow10") (d:=Rows.laid_internal_strconv_uint64pow10) (g:=2) (by simp [tT]) (by kernel_rfl) (t:=455) (by kernel_rfl)
  rw [asC]at a7
  have av:=YH (g:=2) Tryz.underlying455 Tryz.underlying89 (by kernel_rfl) (by kernel_rfl) a7
  refine⟨f.1,f.2,?_⟩
  rw [e,<-av]
 ·obtain⟨cs,f,fuel,p,e,a7⟩:=get (n:= "math/bits.deBruijn64tab") (d:=Rows.laid_math_bits_deBruijn64tab) (g:=6) (by simp [tT]) (by kernel_rfl) (t:=488) (by kernel_rfl)
  have:=km e
  omega
theorem asp{P:Program}{f:Func}{k:FuncId}{s:ChangeSpec}{X:Type}{enc:TypeId×Value->X}{tb:TypeId}{ts:List TypeId}(aH:f.params=⟨ts⟩)(YJ:s.vars=[])(o2:∀cg:List (DataW X),cg.length=ts.length->s.fn X cg={results:=[.lit (.bool true)],args:=cg})
  (D2:f.resultTypes= #[tb]) (al:P.underlying tb=some .bool) (ji:(ts.all λt=>P.readableRec t&&decide (t<P.types.size))=true) (aG:laidOutB P=true)
  (W:World) (base:Nat) (args:Array Value) (cg gs:List (DataW X)) (before:List MemPlace)
  (walk:FY P W.heap ts args.toList->fo P k args W.heap λv H'=>v=.bool true/\Fr [] W.heap H')
  (oa:∀(j:Nat) t v,f.params[j]?=some t->args[j]?=some v->Value.okWide P W .any base t v)
  (kI:DataW.Whole enc P f.params.toList s.vars false W args.toList cg gs before):
  Calls P k args W λe W'=>∃v,e=.returned v/\s.post enc P f false true false false W args v W':=by
 have ji:∀t∈ts,P.readableRec t=true/\t<P.types.size:=λt aW=>by
  have:=List.all_eq_true.1 ji t aW
  simpa using this
 have j2:f.params.toList=ts:=by rw [aH]
 have asD:=kI
 obtain⟨p,q,ev,yj,rfl,axg,iA⟩:=kI
 rw [YJ]at yj
 obtain⟨rfl,rfl⟩:=trodVars_none yj
 rw [j2]at ev
 have hlen:=ev.lt
 have asE:FY P W.heap ts args.toList:=X2 ev λj t v aW aI=>oa j t v (by rw [aH];simpa using aW) (by simpa using aI)
 have Aw:=walk asE ⟨W.tape,W.os,W.output,W.drawn⟩ ⟨W.drawn,axx _⟩
 rw [<-Sr W]at Aw
 refine Aw.mono λe W'=> ?_
 rintro⟨v,H',d',rfl,rfl,rfl,ai⟩
 have uT:cg.length=ts.length:=X5 ev
 have qe:Fr [] W.heap (bf ⟨W.tape,W.os,W.output,W.drawn⟩ H' d').heap:=ai
 refine⟨_,rfl,cg,[],p++[],[],p,[],asD,?_,?_,?_,?_,λh=>by cases h⟩
 ·rw [azh,o2 cg uT,D2]
  exact trodAll_mk1 (shut_bool al true)
 ·rw [azh,o2 cg uT]
  rw [j2]
  exact X3 aG ji ev (λx aa=>aru qe (hlen x aa)) (λx aa=>by simpa using hlen x aa)
 ·rw [azh,o2 cg uT,YJ]
  rfl
 ·exact arv (W:=W) (W':=bf ⟨W.tape,W.os,W.output,W.drawn⟩ H' d') rfl rfl qe _
end Go.Proofs.YtilgmbcmbapbkaaGreatDoor
