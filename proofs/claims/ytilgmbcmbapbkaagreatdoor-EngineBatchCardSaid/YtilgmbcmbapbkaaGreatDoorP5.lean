/- Part of a proof. -/
import Derived.Test.YtilgmbcmbapbkaaGreatDoorP4
import Derived.Shelf.SlSortCmp.WholeK
import Derived.Shelf.SlSortCmp.NoneTotal
import Derived.Ground.SlsfProg
import Derived.Lib.BufferWrite
import Derived.Lib.ItoaLen
open _root_.List renaming mem_cons→axA,length_append→ax6,pairwise_cons→aAv,getElem?_eq_some_iff→axC,length_cons→ayi,mem_append→azb,take_add_one→azP,eq_nil_of_length_eq_zero→ayT,getElem?_of_mem→aAw,mem_of_getElem?→azR,length_nil→azs,filter_cons→axT,append_nil→azh,filter_append→aAf,mem_map→ayf,mem_filter→ax2,exists_mem_of_ne_nil→aAy,flatten_cons→aAz,map_append→azj,append_assoc→ax7,take_of_length_le→ayB,getElem?_append_right→aze,flatten_nil→aAB,getElem?_drop→ax5,pairwise_iff_getElem→aAD,getElem?_append_left→azd,map_cons→axE,sum_cons→azT,pairwise_append→aAE,getLast?_eq_getElem?→aAF,getLast?_eq_some_getLast→aAG,take_append_drop→aAd,length_pos_iff→aAI,mem_cons_of_mem→axU,pairwise_map→az5,drop_of_length_le→az2,range→ayD,mem_iff_getElem?→aAK,getElem?_set_self→aAL,dropLast_concat_getLast→aAM,nil_append→ayn,find?_cons→aAN,getElem?_eq_none→ayL,sum_append→aAc,length_filter_le→aAm,getElem?_take→axN,take_set_of_le→aAP,drop_set_of_lt→aAQ,exists_cons_of_ne_nil→aAR,set_append_right→aAS,head?_eq_getElem?→aAT,cons_append→axV,mem_singleton→ayw,ext_getElem?→ayK,getElem?_take_of_lt→aAU,mem_or_eq_of_mem_set→aAW,set_getElem_self→aAX,foldl_append→aAZ,foldl_cons→ayF,mem_nil_iff→azS,set_cons_succ→aA0
open _root_.Go.Proofs.Tryz renaming prog→azB,underlying93→aAY
open _root_.Go.Value renaming cells→azI,oneCell'→aAx,slice→azV
open _root_.Nat renaming le_refl→axx,zero_le→ayv,zero_add→axJ,mul_one→azZ,mul_add→aAA,lt_or_ge→azH,le_trans→ax4
open _root_.Int renaming toNat_natCast→ayS,le_of_lt→aAH,lt_trichotomy→aAJ
open _root_.Array renaming getElem?_toList→aAC,length_toList→axM,getElem?_append_left→aAO,getElem?_modify→ayR,getElem?_eq_getElem→aAV
open _root_.Go.IntKind renaming wrap→azQ
open _root_.Option renaming toList_some→aAh
set_option linter.unusedVariables false
set_option linter.unusedSimpArgs false
set_option maxRecDepth 100000
open Go Go.bk
namespace Go.Proofs.dh
open Classical in
noncomputable def idK(L:List bR)(l:bR)(k:Nat)(bX v:ByteArray):List Int:=rU L bX v++if(bX,v)∈l.take k then [(L.length:Int)]else []
theorem ae3(L:List bR)(l:bR)(bX v:ByteArray):idK L l 0 bX v=rU L bX v:=by simp [idK]
theorem ae4(L:List bR)(l:bR)(bX v:ByteArray):idK L l l.length bX v=rU (L++[l]) bX v:=by
 rw [ae5];unfold idK;rw [List.take_length]
theorem ae6{L:List bR}{l:bR}{k:Nat}{x:hV}(aB:D' l)(aa:l[k]?=some x)(bX v:ByteArray):
  (if bX=x.1/\v=x.2 then idK L l k x.1 x.2++[(L.length:Int)]else idK L l k bX v)=idK L l (k+1) bX v:=by
 have cq:∀w,(x.1,w)∉l.take k:=λw h=>ae7 aB aa h rfl
 unfold idK
 rw [azP,aa]
 by_cases h:bX=x.1/\v=x.2
 ·obtain⟨rfl,rfl⟩:=h
  rw [if_pos ⟨rfl,rfl⟩,if_neg (cq _),if_pos (by simp)]
  simp
 ·rw [if_neg h]
  congr 1
  have e:((bX,v)∈l.take k++(some x).toList)↔((bX,v)∈l.take k):=by
   rw [azb]
   refine⟨λh'=>h'.elim id λh'=> ?_,.inl⟩
   simp at h'
   exact absurd ⟨congrArg Prod.fst h',congrArg Prod.snd h'⟩ h
  by_cases ab:(bX,v)∈l.take k
  ·rw [if_pos ab,if_pos (e.2 ab)]
  ·rw [if_neg ab,if_neg λar=>ab (e.1 ar)]
theorem ae8{H:U}{dE:Nat}{bC:List Nat}{L:List bR}{a:Option Addr}{n c:Nat}{l:bR}{K:Int->Int->U->Prop}(h:k9 H dE bC L)(aa:bt g' H a n c l)(ay:n<=1000000000)
  (ae9:l≠[]->∀aC,a=some aC->aC.block∉bC)
  (hk:∀H' kS,k9 H' dE kS (oF L l)->Fr bC H H'->Grow H bC kS->K (zE L l) (zF L l) H'):
  aK ae' [ax (some (ak dE)),J a n c] H λv H'=>∃i e,v=.tuple ⟨[.int .i64 i,.int .i64 e]⟩/\K i e H':=by
 apply afa
 have hw:=h.1
 have j6:=aa.len
 have same:∀H1,Fr [] H H1->¬(fa l/\l∉L/\L.length<200)->K (zE L l) (zF L l) H1:=λH1 cv cq=>hk H1 bC (by
  have:oF L l=L:=if_neg cq
  rw [this];exact h.ag cv) (cv.mono (by simp)) (Grow.refl _ _)
 refine LH aa ay (λdj H1 cv=> ?_) (λdj H1 cv=> ?_)
 ·have eL:=same H1 cv (λaq=>dj aq.1)
  unfold zE zF at eL
  rw [if_neg dj,if_neg dj]at eL
  exact⟨_,_,rfl,eL⟩
 obtain⟨_,a0,fg,c0,hs,ha,eF,eA,eb,aH,BJ⟩:=id h
 have jE:=aH.af cv (by simp)
 refine au (λh=>by simp at h) (λ_=>⟨_,(n0 jE).ld (by kernel_rfl) (j:=1) rfl,?_⟩)
 have aI:qV L ⟨(hW l).toArray⟩=hY L l:=HT hw dj
 cases iC:hY L l with
 |some i=>
  have eL:=same H1 cv (λaq=>aq.2.1 (azR (Tv iC)))
  unfold zE zF at eL
  rw [if_pos dj,if_pos dj,iC]at eL
  rw [iC]at aI
  exact⟨i,true,jE.keys.BG uI z3 _ (by unfold nh;rw [aI];rfl) (by unfold nh;rw [aI];rfl),_,_,rfl,eL⟩
 |none=>
 have mC:l∉L:=HS.1 iC
 have ed:fg=L.length:=by rw [aH.all.1,aH.mD.1]
 refine⟨0,false,jE.keys.BG uI z3 _ (by unfold nh;rw [aI,iC];rfl) (by unfold nh;rw [aI,iC];rfl),?_⟩
 refine⟨_,_,_,(n0 jE).bY rfl,au (λab=> ?_) (λab=> ?_)⟩
 ·have Tw:¬L.length<200:=by simp at ab;omega
  have eL:=same H1 cv (λaq=>Tw aq.2.2)
  unfold zE zF at eL
  rw [if_pos dj,if_pos dj,iC]at eL
  simp only [if_neg Tw]at eL
  exact⟨_,_,rfl,eL⟩
 have x0:L.length<200:=by simp at ab;omega
 have eR:oF L l=L++[l]:=if_pos ⟨dj,mC,x0⟩
 have afb:zE L l=L.length:=by unfold zE;rw [if_pos dj,iC];simp only [if_pos x0]
 have afc:zF L l=0:=by unfold zF;rw [if_pos dj,iC];simp only [if_pos x0]
 rw [eR,afb,afc]at hk
 refine⟨_,_,_,(n0 jE).bY rfl,xZ (aa.ag cv) ay λcW cD c1 ao fF bG=> ?_⟩
 have lA:=jE.af bG (by simp)
 refine⟨(n0 lA).bY rfl,?_⟩
 intro dz aP bw
 have iU:=lA.af bw.af (by simp)
 have kT:Fr [] H aP:=(cv.aT bG).aT bw.af
 have fP:Own g' 51 0 aP cW cD c1 l:=(fF.ag bw.af).base (ayv _)
 refine⟨(n0 iU).bY rfl,?_⟩
 have gh:bt BF aP (some ⟨dz,0,none⟩) 1 1 [((cW,cD,c1):eH)]:=fy BF (cW,cD,c1) bw rfl
 refine ic (E:=BF) qT aeM iU.all gh (ayv _) (by omega) λaV bn bg a8 gg cm ko=> ?_
 have LP:dE∉an a0:=BH (by decide) iU.all iU.cell
 have Tx:a8[dE]?=some (.cells ⟨[.slice a0 fg c0,.map (some ha),.map (some eF)]⟩ 136 (0,0)):=cm.get iU.cell LP
 have Ty:dE<aP.size:=km iU.cell
 refine zG (off:=0) (v:=.slice aV bn bg) Tx (by kernel_rfl) (by kernel_rfl) (λx aa=>by simp [azI]at aa;subst aa;rfl) (by simp [azI]) λbA BK cb=> ?_
 have BK:bA[dE]?=some (.cells ⟨[.slice aV bn bg,.map (some ha),.map (some eF)]⟩ 136 (0,0)):=BK
 have Tz:dE∉an aV:=λhk=>by
  rcases ko dE hk with bs|bs
  ·exact LP bs
  ·omega
 let p5:=an cW++(an aV++bC)
 have TA:∀k∈bC,k<aP.size:=λk hk=>iU.jz k hk
 have HU:Own BF 45 0 bA aV bn bg (hs++[(cW,cD,c1)]):=kR gg cb (λk hk=>by simp;exact λe=>Tz (e▸hk))
 have afd:∀{k:Nat},k∉an a0->k≠dE->∀{ad:Obj},aP[k]?=some ad->bA[k]?=some ad:=λ{k} h1 ab {ad} aw=>cb.get (cm.get aw h1) (by simp;exact ab)
 have zH:Fr (dE::an a0) aP bA:=cm.trans' cb (λk hk _=>by simp [hk]) (λk hk _=>by simp at hk;simp [hk])
 have LQ:rR bA p5 (hs++[(cW,cD,c1)]) (L++[l]):=by
  refine rR.snoc ?_ ?_ (λk hk=>by simp [p5,hk])
  ·refine(iU.mD.af zH λi x m aa hm k hk=> ?_).mono (λk hk=>by simp [p5,hk])
   have Ea:=(iU.mD.2 i x m aa hm).1
   simp only [axA,not_or]
   exact⟨λe=>BH (by decide) Ea iU.cell (e▸hk),tj (by decide) Ea iU.all k hk⟩
  ·refine kR fP zH λk hk=> ?_
   simp only [axA,not_or]
   exact⟨λe=>BH (by decide) fP iU.cell (e▸hk),tj (by decide) fP iU.all k hk⟩
 have HV:∀{r:Nat} {f:ByteArray->Option Value},h5 aP r f->r∉dE::an a0:=λ{r f} hm=>by
  simp only [axA,not_or]
  exact⟨λe=>HP hm iU.cell e.symm,ti iU.all hm⟩
 have HW:=iU.keys.af zH (HV iU.keys)
 have LR:ng bA p5 eF eA eb (rU L):=(iU.has.af zH (HV iU.has.top) (λbX r e=>HV (iU.has.inner bX r e)) (λbX v x k e hk=>by
  have Ea:=(iU.has.own bX v x e).1
  simp only [axA,not_or]
  exact⟨λe=>BH (by decide) Ea iU.cell (e▸hk),tj (by decide) Ea iU.all k hk⟩)).mono (λk hk=>by simp [p5,hk])
 have dI:a6 bA ⟨dE,0,none⟩ [.slice aV bn bg,.map (some ha),.map (some eF)]:=⟨dE,_,rfl,BK⟩
 refine⟨_,dI.ld (by kernel_rfl) (j:=1) rfl,?_⟩
 refine HW.put uI _ λct HX de=> ?_
 have HX:h5 ct ha (nh (L++[l])):=by
  have e:nh (L++[l])=λs=>if s=⟨(hW l).toArray⟩then some (.int .i64 (fg:Int))else nh L s:=by
   funext s
   unfold nh
   rw [TB s (by rw [aI,iC]),ed]
   by_cases hs:s=⟨(hW l).toArray⟩
   ·rw [if_pos hs,if_pos hs]
   ·rw [if_neg hs,if_neg hs]
  rw [e];exact HX
 have TC:rT ct dE p5 (L++[l]) (idK L l 0) aV bn bg (hs++[(cW,cD,c1)]) ha eF eA eb:=by
  have LS:∀{α:Type} {E:di α} {t base:Nat} {a:Option Addr} {n c:Nat} {xs:List α},Own E t base bA a n c xs->∀k∈an a,k∉[ha]:=λaw k hk=>by
   simp;exact λe=>ti aw HW (e▸hk)
  refine⟨de.get BK (by simp;exact HP HW BK),kR HU de (LS HU),LQ.af de (λi x m aa hm=>LS (LQ.2 i x m aa hm).1),HX,?_,aH.D5,aH.D6,by simp [p5,aH.D7],by simp [p5,aH.BI],λk hk=>by simp [p5,hk],?_⟩
  ·exact(LR.af de (by simp;exact λe=>aH.D5 e.symm) (λbX r e=>by simp;exact aH.D6 bX r e) (λbX v x k e hk=>LS (LR.own bX v x e).1 k hk)).ext (λbX v=>(ae3 L l bX v).symm)
  ·intro k hk
   have HY:=de.size
   have HZ:=zH.size
   simp only [p5,azb]at hk
   rcases hk with hk|hk|hk
   ·have:=(fP.ge k hk).2;omega
   ·have:=(HU.ge k hk).2;omega
   ·have:=TA k hk;omega
 have TD:Grow H bC p5:=λk hk=>by
  have qA:=kT.size
  simp only [p5,azb]at hk
  rcases hk with hk|hk|hk
  ·exact .inr (by have:=(fF.ge k hk).1;have:=cv.size;omega)
  ·rcases ko k hk with bs|bs
   ·exact .inl (aH.D8 k bs)
   ·exact .inr (by omega)
  ·exact .inl hk
 have n1:Fr bC H ct:=(kT.trans' zH (T:=bC) (by simp) (λk hk _=>by
  rcases axA.1 hk with rfl|hk
  ·exact aH.D7
  ·exact aH.D8 k hk)).trans' de (λk hk _=>hk) (λk hk _=>by simp at hk;subst hk;exact aH.BI)
 have afe:l≠[]->∀aC,a=some aC->aC.block<H.size/\aC.block∉bC:=λcP aC e=>⟨by
  obtain⟨b,off,a',al⟩:=aa.arr.lt cP
  rw [e]at a';cases a';exact al,ae9 cP aC e⟩
 clear_value p5
 clear jE lA iU bw gh fF fP gg cm ko Tx BK cb afd zH LQ HW LR dI HU HX de TA LP Tz HV kT
 refine⟨λae H'=>match ae with
   |[.int _ i]=>∃(k:Nat) (kS:List Nat) (eA:ByteArray->Option Nat) (eb:ByteArray->ByteArray->Option eH),i=k/\k<=n/\rT H' dE kS (L++[l]) (idK L l k) aV bn bg (hs++[(cW,cD,c1)]) ha eF eA eb/\Fr bC H H'/\Grow H bC kS/\Tt eA eb
   |_=>False,
  λae _=>match ae with|[.int _ i]=>n-i.toNat|_=>0,⟨0,p5,eA,eb,rfl,by omega,TC,n1,TD,BJ⟩,?_⟩
 clear TC n1 TD
 rintro br i dx ⟨k,Eb,BL,LU,rfl,hle,zI,e4,th,LV⟩
 refine au (λaF=> ?_) (λaF=>⟨_,_,rfl,?_⟩)
 ·have b':k<n:=by simpa using aF
  have cB:l[k]?=some (l[k]'(by omega)):=by simp
  generalize l[k]'(by omega)=x at cB
  have cP:l≠[]:=λe=>by subst e;simp at cB
  have CO:bt g' dx a n c l:=aa.af e4 λaC e=>(afe cP aC e).2
  refine CO.get rfl cB (bh (by omega)) λaC b4 av=>⟨_,_,HM av,?_⟩
  refine HN rfl λb eQ al zJ jl=> ?_
  have uK:=zI.af jl (by simp)
  have uH:b∉Eb:=λhk=>by have:=zI.jz b hk;omega
  refine⟨λ_ H'=>∃(kS:List Nat) (eA:ByteArray->Option Nat) (eb:ByteArray->ByteArray->Option eH) (r:Nat),rT H' dE kS (L++[l]) (idK L l k) aV bn bg (hs++[(cW,cD,c1)]) ha eF eA eb/\eA x.1=some r/\a6 H' ⟨b,0,none⟩ [.string x.1,.string x.2]/\b∉kS/\b<H'.size/\Fr bC H H'/\Grow H bC kS/\(∀bX,eA bX≠none->(∃v,eb bX v≠none)\/bX=x.1),?_,?_⟩
  ·refine⟨_,(n0 uK).ld (by kernel_rfl) (j:=2) rfl,_,zJ.hh,(BL x.1),uK.has.top.look HR z76 _ (by cases BL x.1<;>rfl),?_⟩
   refine au (λh1=> ?_) (λh1=> ?_)
   ·have cq:BL x.1=none:=by simpa using h1
    refine⟨_,(n0 uK).ld (by kernel_rfl) (j:=2) rfl,_,zJ.hh,?_⟩
    intro b1 cN fC
    have jF:=uK.af fC.af (by simp)
    have x1:=zJ.ag fC.af
    refine⟨x1.hh,(n0 jF).ld (by kernel_rfl) (j:=2) rfl,?_⟩
    refine jF.has.top.put HR x.1 λhj aff oG=> ?_
    have afg:eF≠b:=λe=>uH (e▸zI.has.xX)
    have dA:b1=eQ.size:=fC.eq
    have TE:=fC.size
    have Ec:=zJ.lt
    have TF:∀{α:Type} {E:di α} {t base:Nat} {a:Option Addr} {n c:Nat} {xs:List α},Own E t base cN a n c xs->∀k∈an a,k∉[eF]:=λaw k hk=>by
     simp;exact λe=>ti aw jF.has.top (e▸hk)
    refine⟨b1::Eb,_,LU,b1,⟨oG.get jF.cell (by simp;exact HP jF.has.top jF.cell),kR jF.all oG (TF jF.all),(jF.mD.af oG (λi x m aa hm=>TF (jF.mD.2 i x m aa hm).1)).mono (λk hk=>by simp [hk]),jF.keys.af oG (by simp;exact jF.D5),uK.has.name uK.jz cq fC aff oG,jF.D5,?_,by simp [jF.D7],by simp [jF.BI],λk hk=>by simp [jF.D8 k hk],?_⟩,if_pos rfl,x1.af oG (by simp;exact λe=>afg e.symm),?_,?_,?_,?_,λs hs=> ?_⟩
    ·intro bX r e
     split at e
     ·cases e
      intro a'
      have:=uK.jz ha uK.BI;omega
     ·exact jF.D6 bX r e
    ·intro j bq
     have:=oG.size
     rcases axA.1 bq with rfl|bq
     ·omega
     ·have:=jF.jz j bq;omega
    ·intro hk
     rcases axA.1 hk with bs|bs
     ·have:b<eQ.size:=Ec
      omega
     ·exact uH bs
    ·have:=oG.size;have:b<eQ.size:=Ec;omega
    ·exact((e4.trans' jl (λk hk _=>hk) (by simp)).trans' fC.af (λk hk _=>hk) (by simp)).trans' oG (λk hk _=>hk) (λk hk bQ=>by
      simp at hk;subst hk
      rcases th _ zI.has.xX with bs|bs
      ·exact bs
      ·omega)
    ·intro j bq
     rcases axA.1 bq with rfl|bq
     ·exact .inr (by have:=e4.size;have:=jl.size;omega)
     ·exact th j bq
    ·by_cases bs:s=x.1
     ·exact .inr bs
     ·exact .inl (LV s (by rwa [if_neg bs]at hs))
   ·cases hm:BL x.1 with
    |none=>rw [hm]at h1;simp at h1
    |some r=>exact⟨Eb,BL,LU,r,uK,hm,zJ,uH,zJ.lt,e4.trans' jl (λk hk _=>hk) (by simp),th,λs hs=>.inl (LV s hs)⟩
  ·clear zI e4 th uK zJ jl uH CO
   rintro br cN ⟨Ed,H0,zK,r,jF,aB,x1,uH,Ec,p7,H2,afh⟩
   have H3:∀{H':U},rT H' dE Ed (L++[l]) (idK L l k) aV bn bg (hs++[(cW,cD,c1)]) ha eF H0 zK->ah 133 H' (Addr.add ⟨dE,0,none⟩ 2) (.map (some eF)):=λaH=>(n0 aH).ld (by kernel_rfl) (j:=2) rfl
   have ni:∀{H':U},rT H' dE Ed (L++[l]) (idK L l k) aV bn bg (hs++[(cW,cD,c1)]) ha eF H0 zK->Rd azB (Instr.lookup 133 (.map (some eF)) (.string x.1) false) H' (.map (some r)):=λaH=>aH.has.top.look HR z76 _ (by rw [aB];rfl)
   obtain⟨aw,ea⟩:∃aw:eH,(zK x.1 x.2).getD (none,0,0)=aw:=⟨_,rfl⟩
   have TG:∀{H':U},rT H' dE Ed (L++[l]) (idK L l k) aV bn bg (hs++[(cW,cD,c1)]) ha eF H0 zK->Rd azB (Instr.lookup 223 (.map (some r)) (.string x.2) false) H' (.slice aw.1 aw.2.1 aw.2.2):=λaH=>(aH.has.inner _ _ aB).look Tu z40 _ (by
    rw [<-ea];cases zK x.1 x.2<;>rfl)
   refine⟨_,H3 jF,_,x1.hh,_,ni jF,_,x1.s1,_,H3 jF,_,x1.hh,_,ni jF,_,x1.s1,_,_,_,TG jF,?_⟩
   intro b1 hj p8
   have hZ:=jF.af p8.af (by simp)
   have Ee:=x1.ag p8.af
   refine⟨TG hZ,Ee.s1,ni hZ,Ee.hh,H3 hZ,Ee.s1,ni hZ,Ee.hh,H3 hZ,?_⟩
   have x2:Own cH 3 0 hj aw.1 aw.2.1 aw.2.2 (idK L l k x.1 x.2):=by
    cases aI:zK x.1 x.2 with
    |none=>rw [aI]at ea;simp at ea;subst ea;rw [hZ.has.no _ _ aI];exact Own.nil _ _ _ _
    |some y=>rw [aI]at ea;simp at ea;subst ea;exact(hZ.has.own _ _ _ aI).1
   have hlen:(idK L l k x.1 x.2).length<=1000:=by
    unfold idK
    rw [ax6]
    have h1:(rU L x.1 x.2).length<=L.length:=by
     unfold rU
     rw [List.length_map]
     exact ax4 (aAm _ _) (by simp)
    split<;>simp<;>omega
   have gh:bt cH hj (some ⟨b1,0,none⟩) 1 1 [(fg:Int)]:=fy cH _ p8 rfl
   refine ic (E:=cH) LK zC x2 gh (ayv _) (by rw [x2.1];omega) λTH pg qX jO G4 zL TI=> ?_
   have LW:∀k∈an aw.1,k∈Ed:=λj bq=>by
    cases aI:zK x.1 x.2 with
    |none=>rw [aI]at ea;simp at ea;subst ea;cases bq
    |some y=>rw [aI]at ea;simp at ea;subst ea;exact jF.has.zD _ _ _ j aI bq
   have afi:b∉an aw.1:=λhk=>uH (LW b hk)
   have TJ:=Ee.af zL afi
   have afj:=zL.get hZ.cell (BH (by decide) x2 hZ.cell)
   have afk:=hZ.has.top.af zL (ti x2 hZ.has.top)
   have afl:=(hZ.has.inner _ _ aB).af zL (ti x2 (hZ.has.inner _ _ aB))
   have afm:a6 jO ⟨dE,0,none⟩ [.slice aV bn bg,.map (some ha),.map (some eF)]:=⟨dE,_,rfl,afj⟩
   refine⟨TJ.s1,afk.look HR z76 _ (by rw [aB];rfl),TJ.hh,afm.ld (by kernel_rfl) (j:=2) rfl,?_⟩
   refine afl.put Tu x.2 λmj afn Ef=> ?_
   rw [cE (by omega)]
   have BM:Fr (r::an aw.1) hj mj:=zL.trans' Ef (λk hk _=>by simp [hk]) (λk hk _=>by simp at hk;simp [hk])
   have TK:∀{α:Type} {E:di α} {t base:Nat} {a:Option Addr} {n c:Nat} {xs:List α},t≠3->Own E t base hj a n c xs->∀k∈an a,k∉r::an aw.1:=λaW aw k hk=>by
    simp only [axA,not_or]
    exact⟨λe=>ti aw (hZ.has.inner _ _ aB) (e▸hk),tj aW aw x2 k hk⟩
   have afo:=p8.size
   refine⟨⟨k+1,an TH++Ed,H0,_,rfl,by omega,⟨?_,kR hZ.all BM (TK (by decide) hZ.all),(hZ.mD.af BM (λi x m aa hm=>TK (by decide) (hZ.mD.2 i x m aa hm).1)).mono (λk hk=>by simp [hk]),?_,
     (hZ.has.add (new:=(TH,pg,qX)) hZ.jz aB ea G4 zL TI afn Ef).ext (λbX v=> ?_),hZ.D5,hZ.D6,by simp [hZ.D7],by simp [hZ.BI],λk hk=>by simp [hZ.D8 k hk],?_⟩,?_,?_,λs hs=> ?_⟩,dU b'⟩
   ·refine BM.get hZ.cell ?_
    simp only [axA,not_or]
    exact⟨λe=>HP (hZ.has.inner _ _ aB) hZ.cell e,BH (by decide) x2 hZ.cell⟩
   ·refine hZ.keys.af BM ?_
    simp only [axA,not_or]
    exact⟨λe=>hZ.D6 _ _ aB e.symm,ti x2 hZ.keys⟩
   ·rw [<-ae6 dj.2.2 cB bX v,ed]
   ·intro j bq
    have:=BM.size
    have:=zL.size
    have:=Ef.size
    rcases azb.1 bq with bq|bq
    ·have:=(G4.ge j bq).2;omega
    ·have:=hZ.jz j bq;omega
   ·refine(p7.trans' p8.af (λk hk _=>hk) (by simp)).trans' BM (λk hk _=>hk) λj bq bQ=> ?_
    rcases axA.1 bq with rfl|bq
    ·rcases H2 _ (jF.has.xY _ _ aB)with bs|bs
     ·exact bs
     ·omega
    ·rcases H2 _ (LW j bq)with bs|bs
     ·exact bs
     ·omega
   ·intro j bq
    rcases azb.1 bq with bq|bq
    ·rcases TI j bq with bs|bs
     ·exact H2 j (LW j bs)
     ·exact .inr (by have:=p7.size;omega)
    ·exact H2 j bq
   ·rcases afh s hs with⟨v,bs⟩|bs
    ·refine⟨v,?_⟩
     dsimp only
     split
     ·simp
     ·exact bs
    ·exact⟨x.2,by dsimp only;rw [if_pos ⟨bs,rfl⟩];simp⟩
 ·have eC:k=n:=by simp at aF;omega
  subst eC
  have afp:rT dx dE Eb (L++[l]) (rU (L++[l])) aV bn bg (hs++[(cW,cD,c1)]) ha eF BL LU:={zI with has:=zI.has.ext λbX v=>by rw [j6];exact ae4 L l bX v}
  have mE:tk (L++[l]):=by have:=TL hw l;rwa [eR]at this
  rw [ed]
  exact hk dx Eb ⟨mE,_,_,_,_,_,_,_,_,afp,LV⟩ e4 th
end Go.Proofs.dh
namespace Go.Proofs
def jJ(xs:List Int):Prop:=xs.Pairwise (·<·)
theorem jJ.nil:jJ []:=List.Pairwise.nil
theorem jJ.ext:∀{xs ys:List Int},jJ xs->jJ ys->(∀z,z∈xs↔z∈ys)->xs=ys
 |[],[],_,_,_=>rfl
 |[],y::ys,_,_,h=>by have:=(h y).2 (by simp);cases this
 |x::xs,[],_,_,h=>by have:=(h x).1 (by simp);cases this
 |x::xs,y::ys,aa,aA,h=>by
  have gw:=aAv.1 aa
  have hM:=aAv.1 aA
  have e:x=y:=by
   have h1:=(h x).1 (by simp)
   have ab:=(h y).2 (by simp)
   rcases axA.1 h1 with h1|h1
   ·exact h1
   ·rcases axA.1 ab with ab|ab
    ·exact ab.symm
    ·have:=gw.1 y ab;have:=hM.1 x h1;omega
  subst e
  rw [jJ.ext gw.2 hM.2 λz=> ?_]
  refine⟨λaE=> ?_,λaE=> ?_⟩
  ·rcases axA.1 ((h z).1 (by simp [aE]))with h1|h1
   ·subst h1;have:=gw.1 z aE;omega
   ·exact h1
  ·rcases axA.1 ((h z).2 (by simp [aE]))with h1|h1
   ·subst h1;have:=hM.1 z aE;omega
   ·exact h1
def rV(b:Bool)(x:Int)(l:List Int):List Int:=if b then x::l else l
def iy(w:Bool->Bool->Bool):List Int->List Int->List Int
 |[],[]=>[]
 |x::xs,[]=>rV (w true false) x (iy w xs [])
 |[],y::ys=>rV (w false true) y (iy w [] ys)
 |x::xs,y::ys=>if x<y then rV (w true false) x (iy w xs (y::ys))else if y<x then rV (w false true) y (iy w (x::xs) ys)else rV (w true true) y (iy w xs ys)
termination_by xs ys=>xs.length+ys.length
theorem FJ{b:Bool}{x z:Int}{l:List Int}:z∈rV b x l↔(b=true/\z=x)\/z∈l:=by unfold rV;split<;>simp_all
theorem sn{w:Bool->Bool->Bool}:∀{xs ys:List Int},jJ xs->jJ ys->∀z,z∈iy w xs ys↔(z∈xs\/z∈ys)/\w (decide (z∈xs)) (decide (z∈ys))=true
 |[],[],_,_,z=>by rw [iy];simp
 |x::xs,[],aa,aA,z=>by
  have gw:=aAv.1 aa
  rw [iy,FJ,sn gw.2 aA z]
  by_cases h1:z=x
  ·subst h1
   have:z∉xs:=λh=>by have:=gw.1 z h;omega
   simp [this]
  ·simp [h1]
 |[],y::ys,aa,aA,z=>by
  have hM:=aAv.1 aA
  rw [iy,FJ,sn aa hM.2 z]
  by_cases h1:z=y
  ·subst h1
   have:z∉ys:=λh=>by have:=hM.1 z h;omega
   simp [this]
  ·simp [h1]
 |x::xs,y::ys,aa,aA,z=>by
  have gw:=aAv.1 aa
  have hM:=aAv.1 aA
  rw [iy]
  split
  ·rename_i bQ
   rw [FJ,sn gw.2 aA z]
   by_cases h1:z=x
   ·subst h1
    have ab:z∉xs:=λh=>by have:=gw.1 z h;omega
    have ar:z∉ys:=λh=>by have:=hM.1 z h;omega
    have a7:z≠y:=by omega
    simp [ab,ar,a7]
   ·simp [h1]
  ·split
   ·rename_i eZ bQ
    rw [FJ,sn aa hM.2 z]
    by_cases h1:z=y
    ·subst h1
     have ab:z∉ys:=λh=>by have:=hM.1 z h;omega
     have ar:z∉xs:=λh=>by have:=gw.1 z h;omega
     have a7:z≠x:=by omega
     simp [ab,ar,a7]
    ·simp [h1]
   ·rename_i eZ Xc
    have e:x=y:=by omega
    subst e
    rw [FJ,sn gw.2 hM.2 z]
    by_cases h1:z=x
    ·subst h1
     have ab:z∉ys:=λh=>by have:=hM.1 z h;omega
     have ar:z∉xs:=λh=>by have:=gw.1 z h;omega
     simp [ab,ar]
    ·simp [h1]
termination_by xs ys=>xs.length+ys.length
theorem FK{b:Bool}{x:Int}{l:List Int}(h:jJ l)(aG:∀z∈l,x<z):jJ (rV b x l):=by
 unfold rV
 split
 ·exact aAv.2 ⟨aG,h⟩
 ·exact h
theorem AI{w:Bool->Bool->Bool}:∀{xs ys:List Int},jJ xs->jJ ys->jJ (iy w xs ys)
 |[],[],_,_=>by rw [iy];exact jJ.nil
 |x::xs,[],aa,aA=>by
  have gw:=aAv.1 aa
  rw [iy]
  exact FK (AI gw.2 aA) λz aE=>by
   rw [sn gw.2 aA]at aE
   rcases aE.1 with h|h
   ·exact gw.1 z h
   ·cases h
 |[],y::ys,aa,aA=>by
  have hM:=aAv.1 aA
  rw [iy]
  exact FK (AI aa hM.2) λz aE=>by
   rw [sn aa hM.2]at aE
   rcases aE.1 with h|h
   ·cases h
   ·exact hM.1 z h
 |x::xs,y::ys,aa,aA=>by
  have gw:=aAv.1 aa
  have hM:=aAv.1 aA
  rw [iy]
  split
  ·exact FK (AI gw.2 aA) λz aE=>by
    rw [sn gw.2 aA]at aE
    rcases aE.1 with h|h
    ·exact gw.1 z h
    ·rcases axA.1 h with h|h
     ·omega
     ·have:=hM.1 z h;omega
  ·split
   ·exact FK (AI aa hM.2) λz aE=>by
     rw [sn aa hM.2]at aE
     rcases aE.1 with h|h
     ·rcases axA.1 h with h|h
      ·omega
      ·have:=gw.1 z h;omega
     ·exact hM.1 z h
   ·exact FK (AI gw.2 hM.2) λz aE=>by
     rw [sn gw.2 hM.2]at aE
     rcases aE.1 with h|h
     ·have:=gw.1 z h;omega
     ·exact hM.1 z h
termination_by xs ys=>xs.length+ys.length
def AH(a b:Bool):Bool:=a&&b
end Go.Proofs
namespace Go.Proofs.dh
theorem uL{H:U}{aC:Addr}{x:Int}(h:gu H aC (cH.cells x)):ah 3 H aC (.int .i64 x):=jb h
def TM(w:Bool->Bool->Bool)(xz:Value):Prop:=∀(a b:Bool) (H:U) (K:Bool->U->Prop),K (w a b) H->dY azB xz [.bool a,.bool b] H λv H'=>∃r,v=.bool r/\K r H'
theorem afq:TM AH (.func (.func 249) ⟨[]⟩ ⟨[]⟩):=λa b H K hk=>⟨249,⟨[]⟩,⟨[]⟩,rfl,by kernel_rfl,by
 apply afr
 unfold AH at hk
 refine au (λh=>⟨_,rfl,?_⟩) (λh=>⟨_,rfl,?_⟩)
 ·rw [h]at hk;exact hk
 ·rw [h]at hk;exact hk⟩
theorem LX{w:Bool->Bool->Bool}{xz:Value}{a b:Option Addr}{n c m d:Nat}{X Y:List Int}{H:U}{K:Option Addr->Nat->Nat->U->Prop}(hw:TM w xz)(aa:bt cH H a n c X)(aA:bt cH H b m d Y)
  (hlen:n+m<=1000000000) (hk:∀aV bn bg H',Own cH 3 H.size H' aV bn bg (iy w X Y)->Fr [] H H'->K aV bn bg H'):
  dy afs [J a n c,J b m d,xz] H K:=by
 apply aft
 refine⟨λae H'=>match ae with
   |[.slice a n c,.slice b m d,.slice ad p q]=>∃xs ys os,bt cH H a n c xs/\bt cH H b m d ys/\Own cH 3 H.size H' ad p q os/\os++iy w xs ys=iy w X Y/\p+n+m<=1000000000/\Fr [] H H'
   |_=>False,
  λae _=>match ae with|[.slice _ n _,.slice _ m _,_]=>n+m|_=>0,⟨X,Y,[],aa,aA,Own.nil _ _ _ _,rfl,by omega,Fr.refl _ _⟩,?_⟩
 rintro br a n c b m d ad p q ao ⟨xs,ys,os,aa,aA,aw,he,dF,ai⟩
 have ay:=aa.len
 have hm:=aA.len
 have aH:=aw.1
 have afu:=aa.cap
 have avE:=aA.cap
 have step:∀(r:Bool) (z:Int) {aV iR:Option Addr} {bn bg m' d':Nat} {oH ph:List Int},bt cH H aV bn bg oH->bt cH H iR m' d' ph->bn+m'<n+m->os++rV r z (iy w oH ph)=iy w X Y→
   aU r (∀(b1:Nat) (bA:U),dV ao b1 (.cells ⟨[.int .i64 z]⟩ 3) bA->bO (Builtin.append_ ⟨[117,117]⟩ 117 ⟨[.slice ad p q,.slice (some ⟨b1,0,none⟩) 1 1]⟩) bA λv ct=>∃nJ n5 c3,v=.slice nJ n5 c3∧
     (∃xs ys os,bt cH H aV bn bg xs/\bt cH H iR m' d' ys/\Own cH 3 H.size ct nJ n5 c3 os/\os++iy w xs ys=iy w X Y/\n5+bn+m'<=1000000000/\Fr [] H ct)/\bn+m'<n+m)
    ((∃xs ys os,bt cH H aV bn bg xs/\bt cH H iR m' d' ys/\Own cH 3 H.size ao ad p q os/\os++iy w xs ys=iy w X Y/\p+bn+m'<=1000000000/\Fr [] H ao)/\bn+m'<n+m):=by
  intro r z aV iR bn bg m' d' oH ph h1 ab bQ iH
  refine au (λaB=> ?_) (λaB=> ?_)
  ·subst aB
   exact pj (E:=cH) z LK zC aw ai rfl (by omega) λ_ j3 fR b0 ct b5 de _=>⟨⟨oH,ph,_,h1,ab,b5,by rw [<-iH];simp [rV],by have:=b5.1;simp at this;omega,de⟩,bQ⟩
  ·subst aB
   exact⟨⟨oH,ph,os,h1,ab,aw,by simpa [rV]using iH,by omega,ai⟩,bQ⟩
 have tail:∀{a:Option Addr} {n c:Nat} {x:Int} {l:List Int},bt cH H a n c (x::l)->bt cH H (df c 1 1 a) ((n:Int).toNat-1) (c-1) l:=λ{a n c x l} h=>by
  have ab:=h.drop (k:=1) (by have:=h.len;simp at this;omega)
  rwa [ayS]
 cases xs with
 |nil=>
  have ou:n=0:=ay
  subst ou
  cases ys with
  |nil=>
   have jU:m=0:=hm
   subst jU
   rw [iy,azh]at he
   rw [he]at aw
   refine⟨λ_ _=>False,au (λh=>by simp at h) (λ_=>au (λh=>by simp at h) (λ_=>⟨_,_,_,rfl,hk _ _ _ _ aw ai⟩)),λ_ _ h=>h.elim⟩
  |cons y ys=>
   have p9:m=ys.length+1:=by simpa using hm
   refine⟨λ_ H'=>H'=ao,au (λh=>by simp at h) (λ_=>au (λ_=>rfl) (λh=>by simp at h;omega)),?_⟩
   rintro br aP rfl
   refine⟨λae H'=>ae=[.bool false]/\H'=aP,au (λh=>by simp at h;omega) (λ_=>au (λh=>by simp at h) (λ_=>⟨rfl,rfl⟩)),?_⟩
   rintro br b1 a8 ⟨dA,rfl⟩
   simp only [List.cons.injEq,Value.bool.injEq,and_true]at dA
   subst dA
   refine⟨λae H'=>ae=[.bool true]/\H'=a8,au (λ_=>⟨rfl,rfl⟩) (λh=>by simp at h),?_⟩
   rintro br bI bA ⟨cO,rfl⟩
   simp only [List.cons.injEq,Value.bool.injEq,and_true]at cO
   subst cO
   refine(aA.ag ai).head (bh (by omega)) λaC b4 av=>⟨_,uL av,gK ⟨by omega,by omega,by omega⟩ (hw _ _ _ _ ?_)⟩
   rw [iy]at he
   exact step _ y aa (tail aA) (by omega) he
 |cons x xs=>
  have bb:n=xs.length+1:=by simpa using ay
  cases ys with
  |nil=>
   have jU:m=0:=hm
   subst jU
   refine⟨λ_ H'=>H'=ao,au (λ_=>rfl) (λh=>by simp at h;omega),?_⟩
   rintro br aP rfl
   refine⟨λae H'=>ae=[.bool true]/\H'=aP,au (λ_=>⟨rfl,rfl⟩) (λh=>by simp at h),?_⟩
   rintro br b1 a8 ⟨dA,rfl⟩
   simp only [List.cons.injEq,Value.bool.injEq,and_true]at dA
   subst dA
   refine⟨λae H'=>ae=[.bool false]/\H'=a8,au (λh=>by simp at h;omega) (λ_=>au (λh=>by simp at h) (λ_=>⟨rfl,rfl⟩)),?_⟩
   rintro br bI bA ⟨cO,rfl⟩
   simp only [List.cons.injEq,Value.bool.injEq,and_true]at cO
   subst cO
   refine(aa.ag ai).head (bh (by omega)) λaC b4 av=>⟨_,uL av,gK ⟨by omega,by omega,by omega⟩ (hw _ _ _ _ ?_)⟩
   rw [iy]at he
   exact step _ x (tail aa) aA (by omega) he
  |cons y ys=>
   have p9:m=ys.length+1:=by simpa using hm
   refine⟨λ_ H'=>H'=ao,au (λ_=>rfl) (λh=>by simp at h;omega),?_⟩
   rintro br aP rfl
   refine⟨λae H'=>ae=[.bool (decide (x<=y))]/\H'=aP,au (λh=>by simp at h;omega) (λ_=>au (λ_=> ?_) (λh=>by simp at h;omega)),?_⟩
   ·exact(aa.ag ai).head (bh (by omega)) λaC b4 av=>⟨_,uL av,(aA.ag ai).head (bh (by omega)) λwm hi aR=>⟨_,uL aR,rfl,rfl⟩⟩
   rintro br b1 a8 ⟨dA,rfl⟩
   simp only [List.cons.injEq,Value.bool.injEq,and_true]at dA
   subst dA
   refine⟨λae H'=>ae=[.bool (decide (y<=x))]/\H'=a8,au (λh=>by simp at h;omega) (λ_=>au (λ_=> ?_) (λh=>by simp at h;omega)),?_⟩
   ·exact(aA.ag ai).head (bh (by omega)) λaC b4 av=>⟨_,uL av,(aa.ag ai).head (bh (by omega)) λwm hi aR=>⟨_,uL aR,rfl,rfl⟩⟩
   rintro br bI bA ⟨cO,rfl⟩
   simp only [List.cons.injEq,Value.bool.injEq,and_true]at cO
   subst cO
   rw [iy]at he
   rcases aAJ x y with h|h|h
   ·rw [if_pos h]at he
    rw [bh (show x<=y by omega),decide_eq_false (show¬y<=x by omega)]
    refine(aa.ag ai).head (bh (by omega)) λaC b4 av=>⟨_,uL av,gK ⟨by omega,by omega,by omega⟩ (hw _ _ _ _ ?_)⟩
    exact step _ x (tail aa) aA (by omega) he
   ·rw [if_neg (by omega),if_neg (by omega)]at he
    rw [bh (show x<=y by omega),bh (show y<=x by omega)]
    refine(aa.ag ai).head (bh (by omega)) λaC b4 av=>⟨_,uL av,gK ⟨by omega,by omega,by omega⟩ ?_⟩
    refine(aA.ag ai).head (bh (by omega)) λaC b4 av=>⟨_,uL av,gK ⟨by omega,by omega,by omega⟩ (hw _ _ _ _ ?_)⟩
    exact step _ y (tail aa) (tail aA) (by omega) he
   ·rw [if_neg (by omega),if_pos h]at he
    rw [decide_eq_false (show¬x<=y by omega),bh (show y<=x by omega)]
    refine(aA.ag ai).head (bh (by omega)) λaC b4 av=>⟨_,uL av,gK ⟨by omega,by omega,by omega⟩ (hw _ _ _ _ ?_)⟩
    exact step _ y aa (tail aA) (by omega) he
theorem aak{a b:Option Addr}{n c m d:Nat}{X Y:List Int}{H:U}{K:Option Addr->Nat->Nat->U->Prop}(aa:bt cH H a n c X)(aA:bt cH H b m d Y)
  (hlen:n+m<=1000000000) (hk:∀aV bn bg H',Own cH 3 H.size H' aV bn bg (iy AH X Y)->Fr [] H H'->K aV bn bg H'):
  dy afv [J a n c,J b m d] H K:=by
 apply afw
 exact LX afq aa aA hlen λaV bn bg H' h1 ab=>⟨_,_,_,rfl,hk _ _ _ _ h1 ab⟩
theorem afx{H:U}{dE:Nat}{bC:List Nat}{L:List bR}{K:Option Addr->Nat->Nat->U->Prop}(h:k9 H dE bC L)
  (hk:∀aV bn bg H',Own cH 3 H.size H' aV bn bg ((ayD L.length).map λk:Nat=>(k:Int))->Fr [] H H'->K aV bn bg H'):
  dy afy [ax (some (ak dE))] H K:=by
 apply afz
 obtain⟨hw,a0,fg,c0,hs,ha,eF,eA,eb,aH,BJ⟩:=h
 have e:fg=L.length:=by rw [aH.all.1,aH.mD.1]
 have hlen:=hw.len
 refine⟨_,_,_,(n0 aH).bY rfl,?_⟩
 refine⟨λae H'=>match ae with|[.slice a n c,.int _ i]=>∃k:Nat,i=k/\k<=fg/\Own cH 3 H.size H' a n c ((ayD k).map λk:Nat=>(k:Int))/\Fr [] H H'|_=>False,
  λae _=>match ae with|[_,.int _ i]=>fg-i.toNat|_=>0,⟨0,rfl,by omega,Own.nil _ _ _ _,Fr.refl _ _⟩,?_⟩
 rintro br a n c i ao ⟨k,rfl,hle,aw,ai⟩
 refine au (λaF=> ?_) (λaF=>⟨_,_,_,rfl,?_⟩)
 ·have b':k<fg:=by simpa using aF
  have ea:=aw.1
  simp at ea
  refine pj (E:=cH) (k:Int) LK zC aw ai rfl (by omega) λ_ j3 fR b0 a8 e8 bG _=> ?_
  rw [cE (by omega)]
  refine⟨⟨k+1,rfl,by omega,?_,bG⟩,dU b'⟩
  rw [List.range_succ,azj];exact e8
 ·have eC:k=fg:=by simp at aF;omega
  subst eC
  rw [e]at aw
  exact hk _ _ _ _ aw ai
end Go.Proofs.dh
namespace Go.Proofs
abbrev bl:=Int×Int
def jm:List bl->List bl->List bl
 |[],b=>b
 |x::a,[]=>x::a
 |x::a,y::b=>if x.1<y.1 then x::jm a (y::b)else if x.1=y.1 then y::jm a b else y::jm (x::a) b
termination_by a b=>a.length+b.length
theorem Aa(b:List bl):jm [] b=b:=by unfold jm;rfl
theorem EZ:∀a:List bl,jm a []=a
 |[]=>Aa _
 |x::a=>by unfold jm;rfl
theorem E0(x y:bl)(a b:List bl):jm (x::a) (y::b)=if x.1<y.1 then x::jm a (y::b)else if x.1=y.1 then y::jm a b else y::jm (x::a) b:=by
 rw [jm]
def gJ(l:List bl):Prop:=l.Pairwise λx y=>x.1<y.1
instance(l:List bl):Decidable (gJ l):=by unfold gJ;infer_instance
theorem gJ.nil:gJ []:=List.Pairwise.nil
theorem q6{x:bl}{l:List bl}:gJ (x::l)↔(∀y∈l,x.1<y.1)/\gJ l:=aAv
theorem Xf:∀{l:List bl},(∀(i:Nat) x y,l[i]?=some x->l[i+1]?=some y->x.1<y.1)->gJ l
 |[],_=>gJ.nil
 |[x],_=>by simp [gJ]
 |x::y::l,h=>by
  have ih:gJ (y::l):=Xf λi a b bW al=>h (i+1) a b bW al
  have r5:x.1<y.1:=h 0 x y rfl rfl
  refine q6.2 ⟨λz aE=> ?_,ih⟩
  rcases axA.1 aE with rfl|aE
  ·exact r5
  ·exact Int.lt_trans r5 ((q6.1 ih).1 z aE)
theorem As{z:bl}:∀a b:List bl,z∈jm a b->z∈a\/z∈b
 |[],b,h=>by rw [Aa]at h;exact .inr h
 |x::a,[],h=>by rw [EZ]at h;exact .inl h
 |x::a,y::b,h=>by
  rw [E0]at h
  split at h
  ·rcases axA.1 h with rfl|h
   ·exact .inl (by simp)
   ·rcases As a (y::b) h with h|h
    ·exact .inl (by simp [h])
    ·exact .inr h
  ·split at h
   ·rcases axA.1 h with rfl|h
    ·exact .inr (by simp)
    ·rcases As a b h with h|h
     ·exact .inl (by simp [h])
     ·exact .inr (by simp [h])
   ·rcases axA.1 h with rfl|h
    ·exact .inr (by simp)
    ·rcases As (x::a) b h with h|h
     ·exact .inl h
     ·exact .inr (by simp [h])
termination_by a b=>a.length+b.length
theorem Fb:∀a b:List bl,gJ a->gJ b->gJ (jm a b)
 |[],b,_,al=>by rw [Aa];exact al
 |x::a,[],bW,_=>by rw [EZ];exact bW
 |x::a,y::b,bW,al=>by
  have ha':=q6.1 bW
  have ff:=q6.1 al
  rw [E0]
  split
  ·rename_i h
   refine q6.2 ⟨λz aE=> ?_,Fb a (y::b) ha'.2 al⟩
   rcases As _ _ aE with aE|aE
   ·exact ha'.1 z aE
   ·rcases axA.1 aE with rfl|aE
    ·exact h
    ·exact Int.lt_trans h (ff.1 z aE)
  ·split
   ·rename_i h1 h
    refine q6.2 ⟨λz aE=> ?_,Fb a b ha'.2 ff.2⟩
    rcases As _ _ aE with aE|aE
    ·have:=ha'.1 z aE;omega
    ·exact ff.1 z aE
   ·rename_i h1 ab
    refine q6.2 ⟨λz aE=> ?_,Fb (x::a) b bW ff.2⟩
    rcases As _ _ aE with aE|aE
    ·rcases axA.1 aE with rfl|aE
     ·omega
     ·have:=ha'.1 z aE;omega
    ·exact ff.1 z aE
termination_by a b=>a.length+b.length
theorem E':∀a b:List bl,(jm a b).length<=a.length+b.length
 |[],b=>by rw [Aa];simp
 |x::a,[]=>by rw [EZ];simp
 |x::a,y::b=>by
  rw [E0]
  split
  ·have:=E' a (y::b);simp at this⊢;omega
  ·split
   ·have:=E' a b;simp at this⊢;omega
   ·have:=E' (x::a) b;simp at this⊢;omega
termination_by a b=>a.length+b.length
def lP(f t:Int)(x:bl):Bool:=decide (f<=x.1)&&decide (x.1<t)
theorem abH{l:List bl}(p:bl->Bool)(h:gJ l):gJ (l.filter p):=List.Pairwise.sublist List.filter_sublist h
end Go.Proofs
namespace Go.Proofs.aS
def encS:di bl:=⟨λx=>[.int .i64 x.1,.int .i64 x.2],2,λ_=>rfl,by decide,λ_ v h=>by simp at h;rcases h with rfl|rfl<;>rfl⟩
theorem wD:j8 azB 111 2 16=true:=by kernel_rfl
theorem qT:sliceB azB 55 111=true:=by kernel_rfl
abbrev n'(x:bl):Value:=.agg ⟨[.int .i64 x.1,.int .i64 x.2]⟩
variable{H:U}{n c:Nat}
theorem hL{aC:Addr}{x:bl}(h:gu H aC (encS.cells x)):ah 111 H aC (n' x):=vU (by kernel_rfl) (by kernel_rfl) h
theorem Ng{aC:Addr}{x:bl}(h:gu H aC (encS.cells x)):ah 3 H aC (.int .i64 x.1):=x7 (by kernel_rfl) (by have:=h 0 _ rfl;simpa [Addr.add]using this)
def jB(x y:Int):Int:=if x<y then -1 else if x>y then 1 else 0
theorem Dq{x y:Int}{K:Int->U->Prop}(hk:K (jB x y) H):cG akv [o x,o y] H K:=by
 apply akw
 apply Nh
 refine⟨_,rfl,?_⟩
 apply Nh
 refine⟨_,rfl,?_⟩
 refine au (λh=>by simp at h) (λ_=>au (λh=>by simp at h) (λ_=> ?_))
 unfold jB at hk
 refine au (λh=>⟨_,rfl,?_⟩) (λh=>au (λh1=>⟨_,rfl,?_⟩) (λh1=>⟨_,rfl,?_⟩))
 ·rwa [if_pos (by simpa using h)]at hk
 ·rwa [if_neg (by simpa using h),if_pos (by simpa using h1)]at hk
 ·rwa [if_neg (by simpa using h),if_neg (by simpa using h1)]at hk
theorem akx{x y:bl}{K:Int->U->Prop}(hk:∀H',Fr [] H H'->K (jB x.1 y.1) H'):cG aky [n' x,n' y] H K:=by
 apply akz
 intro b H1 ay b1 ao bK
 refine⟨_,(ay.bz.ag bK.af).bY rfl,_,bK.bz.bY rfl,?_⟩
 exact Dq ⟨_,rfl,hk _ (ay.af.aT bK.af)⟩
def yn(order:Value):Prop:=∀(x y:bl) (H:U) (K:Int->U->Prop),(∀H',Fr [] H H'->K (jB x.1 y.1) H')->dY azB order [n' x,n' y] H λv H'=>∃n,v=.int .i64 n/\K n H'
theorem Vz:yn (.func (.func 113) #[] #[]):=λx y H K hk=>⟨113, #[], #[],rfl,by kernel_rfl,akx hk⟩
theorem LX{order:Value}{a b:Option Addr}{m d:Nat}{xs ys:List bl}{K:Option Addr->Nat->Nat->U->Prop}(aw:yn order)(aa:bt encS H a n c xs)(aA:bt encS H b m d ys)
  (hlen:n+m<=1000000000) (hk:∀aV bn bg H',Own encS 111 H.size H' aV bn bg (jm xs ys)->Fr [] H H'->K aV bn bg H'):
  dy akA [J a n c,J b m d,order] H K:=by
 apply akB
 rw [cj (by omega) (by omega)]
 refine IB (E:=encS) qT wD (by omega) (by omega) λim H1 fF cv=> ?_
 refine⟨λae H'=>match ae with
   |[.slice a n c,.slice b m d,.slice ad p q]=>∃zs us ws,bt encS H a n c zs/\bt encS H b m d us/\Own encS 111 H.size H' ad p q ws/\ws++jm zs us=jm xs ys/\p+n+m<=1000000000/\Fr [] H H'
   |_=>False,
  λae _=>match ae with|[.slice _ n _,.slice _ m _,_]=>n+m|_=>0,⟨xs,ys,[],aa,aA,fF,rfl,by omega,cv⟩,?_⟩
 rintro br a n c b m d ad p q ao ⟨zs,us,ws,aE,hu,hw,he,dF,ai⟩
 have ay:=aE.len
 have hm:=hu.len
 have aH:=hw.1
 have VA:=aE.cap
 have VB:=hu.cap
 have last:(zs=[]\/us=[])->bO (Builtin.append_ ⟨[55,55]⟩ 55 ⟨[.slice ad p q,.slice a n c]⟩) ao λv H'=>∃a n c,v=.slice a n c/\bO (Builtin.append_ ⟨[55,55]⟩ 55 ⟨[.slice a n c,.slice b m d]⟩) H' λv H'=>∃a n c,v=.slice a n c/\(∃ie iT hg,azV a n c=.slice ie iT hg/\K ie iT hg H'):=by
  intro vc
  refine uJ (E:=encS) qT wD hw ai (aE.ag ai) (by omega) λj3 fR b0 aP e8 bG _=> ?_
  have cO:=e8.1
  refine uJ (E:=encS) qT wD e8 bG (hu.ag bG) (by simp at cO;omega) λo3 w7 cY a8 vd bP _=>⟨_,_,_,rfl,hk _ _ _ _ ?_ bP⟩
  rw [ax7]at vd
  have:zs++us=jm zs us:=by
   rcases vc with rfl|rfl
   ·rw [Aa];rfl
   ·rw [EZ];simp
  rwa [this,he]at vd
 refine au (λaF=>au (λh1=> ?_) (λh1=>last (.inr ?_))) (λaF=>last (.inl ?_))
 ·cases zs with
  |nil=>simp at ay aF;omega
  |cons x zs=>
  cases us with
  |nil=>simp at hm h1;omega
  |cons y us=>
  simp only [ayi]at ay hm
  have tw:bt encS H (df c 1 2 a) ((n:Int).toNat-1) (c-1) zs:=by
   have:=aE.drop (k:=1) (by omega)
   rwa [ayS]
  have ve:bt encS H (df d 1 2 b) ((m:Int).toNat-1) (d-1) us:=by
   have:=hu.drop (k:=1) (by omega)
   rwa [ayS]
  refine(aE.ag ai).head (bh (by omega)) λaC b4 av=>⟨_,_,hL av,?_⟩
  refine(hu.ag ai).head (bh (by omega)) λwm hi aR=>⟨_,_,hL aR,?_⟩
  refine aw x y ao _ λaP bP=> ?_
  have eE:=ai.aT bP
  have mE:=hw.ag bP
  rw [E0]at he
  unfold jB
  refine au (λab=> ?_) (λab=>au (λar=> ?_) (λar=> ?_))
  ·have bQ:x.1<y.1:=by
    simp only [decide_eq_true_eq]at ab
    split at ab
    ·assumption
    ·split at ab<;>omega
   rw [if_pos bQ]at he
   refine(aE.ag eE).head (bh (by omega)) λaC b4 av=>⟨_,_,hL av,gK ⟨by omega,by omega,by omega⟩ ?_⟩
   refine pj (E:=encS) x qT wD mE eE rfl (by omega) λ_ j3 fR b0 a8 e8 bG _=> ?_
   have cO:=e8.1
   simp at cO
   exact⟨⟨zs,y::us,ws++[x],tw,hu,e8,by rw [<-he];simp,by omega,bG⟩,by show(n:Int).toNat-1+m<n+m;omega⟩
  ·have eZ:¬x.1<y.1/\x.1=y.1:=by
    simp only [beq_iff_eq]at ar
    split at ar
    ·cases ar
    ·split at ar
     ·cases ar
     ·omega
   rw [if_neg eZ.1,if_pos eZ.2]at he
   refine gK ⟨by omega,by omega,by omega⟩ ?_
   refine(hu.ag eE).head (bh (by omega)) λaC b4 av=>⟨_,_,hL av,gK ⟨by omega,by omega,by omega⟩ ?_⟩
   refine pj (E:=encS) y qT wD mE eE rfl (by omega) λ_ j3 fR b0 a8 e8 bG _=> ?_
   have cO:=e8.1
   simp at cO
   exact⟨⟨zs,us,ws++[y],tw,ve,e8,by rw [<-he];simp,by omega,bG⟩,by show(n:Int).toNat-1+((m:Int).toNat-1)<n+m;omega⟩
  ·have eZ:¬x.1<y.1/\¬x.1=y.1:=by
    simp only [decide_eq_false_iff_not,beq_eq_false_iff_ne,ne_eq]at ab ar
    split at ab
    ·omega
    ·rename_i a7
     rw [if_neg a7]at ar
     split at ar
     ·omega
     ·omega
   rw [if_neg eZ.1,if_neg eZ.2]at he
   refine(hu.ag eE).head (bh (by omega)) λaC b4 av=>⟨_,_,hL av,gK ⟨by omega,by omega,by omega⟩ ?_⟩
   refine pj (E:=encS) y qT wD mE eE rfl (by omega) λ_ j3 fR b0 a8 e8 bG _=> ?_
   have cO:=e8.1
   simp at cO
   exact⟨⟨x::zs,us,ws++[y],aE,ve,e8,by rw [<-he];simp,by omega,bG⟩,by show n+((m:Int).toNat-1)<n+m;omega⟩
 ·cases us with
  |nil=>rfl
  |cons y us=>simp at hm h1;omega
 ·cases zs with
  |nil=>rfl
  |cons y us=>simp at ay aF;omega
theorem akC{a b:Option Addr}{m d:Nat}{xs ys:List bl}{K:Option Addr->Nat->Nat->U->Prop}(aa:bt encS H a n c xs)(aA:bt encS H b m d ys)
  (hlen:n+m<=1000000000) (hk:∀aV bn bg H',Own encS 111 H.size H' aV bn bg (jm xs ys)->Fr [] H H'->K aV bn bg H'):
  dy akD [J a n c,J b m d] H K:=by
 apply akE
 exact LX Vz aa aA hlen λaV bn bg H' h1 ab=>⟨_,_,_,rfl,hk _ _ _ _ h1 ab⟩
abbrev ia(f t:Int):Value:=.agg ⟨[.int .i64 f,.int .i64 t]⟩
def E1(D:Value)(p:bl->Bool)(G:U->Prop):Prop:=∀(x:bl) (H:U) (K:Bool->U->Prop),G H->(∀H',Fr [] H H'->K (p x) H')->dY azB D [n' x] H λv H'=>∃b,v=.bool b/\K b H'
theorem zX{f t:Int}{K:Value->U->Prop}(hk:∀H' b,H.size<=b->a6 H' ⟨b,0,none⟩ [.int .i64 f,.int .i64 t]->Fr [] H H'->K (.func (.func 204) #[] #[.pointer (some ⟨b,0,none⟩)]) H'):
  kY akF [ia f t] H K:=by
 apply akG
 intro b H1 bb
 exact⟨_,rfl,hk H1 b (Nat.le_of_eq bb.eq.symm) bb.bz bb.af⟩
theorem akH{f t:Int}{b:Nat}:E1 (.func (.func 204) #[] #[.pointer (some ⟨b,0,none⟩)]) (lP f t) (λH=>a6 H ⟨b,0,none⟩ [.int .i64 f,.int .i64 t]):=by
 intro x H K ba hk
 refine⟨204, #[],_,rfl,by kernel_rfl,?_⟩
 apply akI
 intro b1 H1 bb
 have dc:=hk H1 bb.af
 have VC:=ba.ag bb.af
 unfold lP at dc
 refine⟨_,bb.bz.cF 0 rfl,_,VC.bY rfl,au (λh=>⟨_,bb.bz.cF 0 rfl,_,VC.fk 1 rfl,_,rfl,?_⟩) (λh=>⟨_,rfl,?_⟩)⟩
 ·have h':decide (f<=x.1)=true:=h
  rwa [h',Bool.true_and]at dc
 ·have h':decide (f<=x.1)=false:=h
  rwa [h',Bool.false_and]at dc
theorem akJ{D:Value}{p:bl->Bool}{G:U->Prop}{b:Nat}(ee:E1 D p G)(cx:∀H H',G H->Fr [] H H'->G H')(h1:D.oneCell'=true):E1 (.func (.func 177) #[] #[.pointer (some ⟨b,0,none⟩)]) (λx=> !p x) (λH=>G H/\a6 H ⟨b,0,none⟩ [D]):=by
 intro x H K ba hk
 refine⟨177, #[],_,rfl,by kernel_rfl,?_⟩
 apply akK
 intro b1 H1 bb
 refine⟨D,(ba.2.ag bb.af).bY rfl,_,_,bb.bz.Ni (j:=0) (us:=[.int .i64 x.1,.int .i64 x.2]) (by kernel_rfl) (by kernel_rfl) rfl,?_⟩
 exact ee x H1 _ (cx _ _ ba.1 bb.af) λao bG=>⟨_,rfl,hk ao (bb.af.aT bG)⟩
theorem akL{D:Value}{p:bl->Bool}{G:U->Prop}{a:Option Addr}{xs:List bl}{K:Int->U->Prop}(ee:E1 D p G)(cx:∀H',Fr [] H H'->G H')(aa:bt encS H a n c xs)(ay:n<=1000000000)
  (hk:∀(i:Nat) H',i<=n->(∀j x,j<i->xs[j]?=some x->p x=false)->(i<n->∀x,xs[i]?=some x->p x=true)->Fr [] H H'->K (if i<n then i else -1) H'):
  cG akM [J a n c,D] H K:=by
 apply akN
 have j6:=aa.len
 refine⟨λae H'=>match ae with|[.int _ i]=>∃k:Nat,i=k/\k<=n/\(∀j x,j<k->xs[j]?=some x->p x=false)/\Fr [] H H'|_=>False,
  λae _=>match ae with|[.int _ i]=>n-i.toNat|_=>0,⟨0,rfl,by omega,λ_ _ h=>by omega,Fr.refl _ _⟩,?_⟩
 rintro br i H' ⟨k,rfl,hle,aW,ai⟩
 refine au (λaF=> ?_) (λaF=>⟨_,rfl,?_⟩)
 ·have b':k<n:=by simpa using aF
  have cB:xs[k]?=some (xs[k]'(by omega)):=by simp
  generalize xs[k]'(by omega)=y at cB
  rw [cE (by omega)]
  refine(aa.ag ai).get rfl cB (bh (by omega)) λaC b4 av=>⟨_,_,hL av,?_⟩
  refine ee y H' _ (cx _ ai) λao bG=> ?_
  have eE:=ai.aT bG
  refine au (λh1=>⟨_,rfl,?_⟩) (λh1=> ?_)
  ·have:=hk k ao hle aW (λ_ x aa=>by rw [cB]at aa;cases aa;exact h1) eE
   rwa [if_pos b']at this
  ·refine⟨⟨k+1,rfl,by omega,λj x bq BC=> ?_,eE⟩,dU b'⟩
   by_cases wh:j<k
   ·exact aW j x wh BC
   ·have:j=k:=by omega
    subst this
    rw [cB]at BC
    cases BC
    exact h1
 ·have eC:¬k<n:=by simpa using aF
  have:=hk k H' hle aW (λh=>absurd h eC) ai
  rwa [if_neg eC]at this
theorem VD:zeroOf azB 111=some (.agg ⟨[.int .i64 0,.int .i64 0]⟩):=by kernel_rfl
theorem filter_none{l:List bl}{p:bl->Bool}(h:∀(j:Nat) (x:bl),l[j]?=some x->p x=false):l.filter (λx=> !p x)=l:=by
 refine List.filter_eq_self.2 λx aa=> ?_
 obtain⟨j,bq⟩:=aAK.1 aa
 rw [h j x bq];rfl
theorem akO{D:Value}{p:bl->Bool}{G:U->Prop}{base:Nat}{a:Option Addr}{xs:List bl}{K:Option Addr->Nat->Nat->U->Prop}(ee:E1 D p G)(cx:∀H',Fr (an a) H H'->G H')(aw:Own encS 111 base H a n c xs)(ay:n<=1000000000)
  (hk:∀bn H',Own encS 111 base H' a bn c (xs.filter λx=> !p x)->bn<=n->Fr (an a) H H'->K a bn c H'):
  dy akP [J a n c,D] H K:=by
 apply akQ
 have j6:=aw.1
 refine akL ee (λH' ai=>cx H' (ai.mono (by simp))) aw.bT ay λi H1 az cq eV cv=> ?_
 have VE:Fr (an a) H H1:=cv.mono (by simp)
 by_cases dT:i<n
 ·rw [if_pos dT]
  refine au (λh=>by have:=(beq_iff_eq.1 h);omega) (λ_=> ?_)
  rw [cE (by omega)]
  have wE:xs[i]?=some (xs[i]'(by omega)):=by simp
  have akR:p (xs[i]'(by omega))=true:=eV dT _ wE
  have Sn:(xs.take i).filter (λx=> !p x)=xs.take i:=filter_none λj x bq=>by
   rw [axN]at bq
   split at bq
   ·exact cq j x (by assumption) bq
   ·cases bq
  refine⟨λae H'=>match ae with|[.int _ i,.int _ j]=>∃(k m:Nat) (ws:List bl),i=k/\j=m/\k<m/\m<=n/\Own encS 111 base H' a n c ws/\ws.take k=(xs.take m).filter (λx=> !p x)/\ws.drop m=xs.drop m/\Fr (an a) H H'|_=>False,
   λae _=>match ae with|[_,.int _ i]=>n-i.toNat|_=>0,⟨i,i+1,xs,rfl,rfl,by omega,by omega,aw.ag cv,?_,rfl,VE⟩,?_⟩
  ·rw [azP,wE,aAf,Sn]
   simp [akR]
  ·rintro br cI dD ao ⟨k,m,ws,rfl,rfl,av9,Ce,tJ,gv,nK,bG⟩
   have akS:=tJ.1
   refine au (λaF=> ?_) (λaF=> ?_)
   ·have b':m<n:=by simpa using aF
    have sq:xs[m]?=some (xs[m]'(by omega)):=by simp
    have VF:ws[m]?=some (xs[m]'(by omega)):=by
     have:=congrArg (λl=>l[0]?) nK
     simp only [ax5,Nat.add_zero]at this
     rw [this,sq]
    have IN:xs.take (m+1)=xs.take m++[xs[m]'(by omega)]:=by rw [azP,sq];rfl
    have sR:ws.drop (m+1)=xs.drop (m+1):=by
     have:=congrArg (λl=>l.drop 1) nK
     simpa [List.drop_drop]using this
    generalize xs[m]'(by omega)=y at sq VF IN
    rw [cE (by omega),cE (by omega)]
    refine tJ.bT.get rfl VF (bh (by omega)) λaC b4 av=>⟨_,_,hL av,?_⟩
    refine iS (by kernel_rfl) (by kernel_rfl) (by simp [azI,aAx]) rfl λb aP al bM bP=> ?_
    have vX:∀{H':U},Fr [] aP H'->ah 111 H' ⟨b,0,none⟩ (n' y):=λai=>(bM.ag ai).Ni (j:=0) (us:=[.int .i64 y.1,.int .i64 y.2]) (by kernel_rfl) (by kernel_rfl) rfl
    refine⟨_,_,vX (Fr.refl _ _),?_⟩
    have VG:Fr (an a) H aP:=bG.trans' bP (λ_ h _=>h) (by simp)
    refine ee y aP _ (cx _ VG) λa8 cm=> ?_
    have oJ:Fr (an a) H a8:=VG.trans' cm (λ_ h _=>h) (by simp)
    have yo:=(tJ.ag bP).ag cm
    refine au (λh1=> ?_) (λh1=> ?_)
    ·refine⟨_,_,vX cm,?_⟩
     refine sU (E:=encS) y yo rfl (by omega) (bh (by omega)) rfl (by kernel_rfl) (by kernel_rfl) λbA Nj cb=>⟨⟨k+1,m+1,_,rfl,rfl,by omega,by omega,Nj,?_,?_,oJ.trans' cb (λ_ h _=>h) (λ_ h _=>h)⟩,dU b'⟩
     ·rw [IN,aAf,axT,if_pos h1,<-gv,azP,aAP (axx _),aAL (by omega)]
      rfl
     ·rw [aAQ (by omega),sR]
    ·refine⟨⟨k,m+1,ws,rfl,rfl,by omega,by omega,yo,?_,sR,oJ⟩,dU b'⟩
     rw [IN,aAf,axT,if_neg (by simpa using h1),gv]
     simp
   ·have akT:m=n:=by simp at aF;omega
    subst akT
    have Bf:=tJ.bT.cap
    refine gK ⟨by omega,by omega,by omega⟩ ?_
    simp only [ayS]
    refine VH (E:=encS) qT VD rfl (by simp [aAx]) tJ (by omega) λaP how3 bP=>gK ⟨by omega,by omega,by omega⟩ ?_
    refine⟨_,_,_,rfl,hk _ aP ?_ (by omega) (bG.trans' bP (λ_ h _=>h) (λ_ h _=>h))⟩
    rw [gv,ayB (by omega)]at how3
    simpa using how3
 ·rw [if_neg dT]
  refine au (λ_=>⟨_,_,_,rfl,hk n H1 ?_ (axx _) VE⟩) (λh=>by simp at h)
  rw [filter_none λj x bq=>cq j x (by have:=(axC.1 bq).1;omega) bq]
  exact aw.ag cv
theorem xZ{a:Option Addr}{xs:List bl}{K:Option Addr->Nat->Nat->U->Prop}(aa:bt encS H a n c xs)(ay:n<=1000000000)
  (hk:∀aV bn bg H',Own encS 111 H.size H' aV bn bg xs->Fr [] H H'->K aV bn bg H'):
  dy akU [J a n c] H K:=by
 apply akV
 refine au (λh=>⟨_,_,_,rfl,?_⟩) (λh b H1 bb=> ?_)
 ·have:a=none:=by simpa using h
  subst this
  have q2:xs=[]:=by
   rcases aa.arr with h|⟨_,_,e,_⟩
   ·exact h
   ·cases e
  subst q2
  exact hk none 0 0 H (Own.nil _ _ _ _) (Fr.refl _ _)
 ·have oE:Own encS 111 H.size H1 (some ⟨b,0,none⟩) 0 0 []:=Own.made encS 111 bb (axx _)
  refine uJ (E:=encS) qT wD oE bb.af (aa.ag bb.af) (by omega) λad p q ao aw ai _=>⟨_,_,_,rfl,hk _ _ _ _ aw ai⟩
theorem PY{a:Option Addr}{xs:List bl}{f t:Int}{K:Option Addr->Nat->Nat->U->Prop}(aa:bt encS H a n c xs)(ay:n<=1000000000)
  (hk:∀aV bn bg H',Own encS 111 H.size H' aV bn bg (xs.filter (lP f t))->Fr [] H H'->K aV bn bg H'):
  dy akW [J a n c,ia f t] H K:=by
 apply akX
 intro b H1 bb
 refine⟨_,_,bb.bz.Ni (j:=0) (us:=[.int .i64 f,.int .i64 t]) (by kernel_rfl) (by kernel_rfl) rfl,?_⟩
 refine zX λao bI cO k8 bG=> ?_
 refine iS (by kernel_rfl) (by kernel_rfl) (by simp [azI,aAx]) rfl λdz aP fm pK bP=> ?_
 have IP:Fr [] H aP:=(bb.af.aT bG).aT bP
 refine xZ (aa.ag IP) ay λad p q a8 aw cm=> ?_
 have aH:=aw.1
 have j6:=aa.len
 have qf:bI<aP.size:=(k8.ag bP).lt
 have Vm:dz<aP.size:=pK.lt
 have ee:=akJ (b:=dz) (akH (f:=f) (t:=t) (b:=bI)) (λH H' h ai=>h.ag ai) rfl
 refine akO ee (λbA cb=>⟨?_,?_⟩) aw (by omega) λbn bA fZ DP cb=>⟨_,_,_,rfl,hk _ _ _ _ ?_ ?_⟩
 ·refine(((k8.ag bP).ag cm)).af cb λh=> ?_
  have:=(aw.ge _ h).1
  simp at this
  omega
 ·refine(pK.ag cm).af cb λh=> ?_
  have:=(aw.ge _ h).1
  simp at this
  omega
 ·simp only [Bool.not_not]at fZ
  exact fZ.base IP.size
 ·exact(IP.aT cm).ag cb λk hk=>ax4 IP.size (aw.ge k hk).1
end Go.Proofs.aS
namespace Go.Proofs
def fX(l:List bl):Prop:=l.Pairwise λx y=>x.1<=y.1
def eB(l m:List bl):Prop:=∀t,l.filter (λx=>decide (x.1=t))=m.filter (λx=>decide (x.1=t))
theorem eB.refl(l:List bl):eB l l:=λ_=>rfl
theorem eB.trans{l m k:List bl}(h:eB l m)(h':eB m k):eB l k:=λt=>(h t).trans (h' t)
theorem eB.app{l m fG m':List bl}(h:eB l m)(h':eB fG m'):eB (l++fG) (m++m'):=λt=>by rw [aAf,aAf,h t,h' t]
theorem eB.mem{l m:List bl}(h:eB l m){x:bl}:x∈l↔x∈m:=by
 have e:=h x.1
 constructor
 ·intro aa
  have:x∈l.filter (λy=>decide (y.1=x.1)):=ax2.2 ⟨aa,by simp⟩
  rw [e]at this;exact(ax2.1 this).1
 ·intro aa
  have:x∈m.filter (λy=>decide (y.1=x.1)):=ax2.2 ⟨aa,by simp⟩
  rw [<-e]at this;exact(ax2.1 this).1
theorem eB.swap{A B:List bl}(h:∀x∈A,∀y∈B,y.1<x.1):eB (A++B) (B++A):=λt=>by
 rw [aAf,aAf]
 by_cases ev:A.filter (λx=>decide (x.1=t))=[]
 ·rw [ev];simp
 ·by_cases bM:B.filter (λx=>decide (x.1=t))=[]
  ·rw [bM];simp
  ·obtain⟨x,aa⟩:=aAy _ ev
   obtain⟨y,aA⟩:=aAy _ bM
   have h1:=ax2.1 aa
   have ab:=ax2.1 aA
   have:=h x h1.1 y ab.1
   have aL:=of_decide_eq_true h1.2
   have a':=of_decide_eq_true ab.2
   omega
theorem eB.VL{A:List bl}{y:bl}(h:∀x∈A,y.1<x.1):eB (A++[y]) (y::A):=eB.swap (B:=[y]) λx aa z aE=>by simp at aE;subst aE;exact h x aa
theorem eB.front{B:List bl}{x:bl}(h:∀y∈B,y.1<x.1):eB (x::B) (B++[x]):=eB.swap (A:=[x]) λz aE y aA=>by simp at aE;subst aE;exact h y aA
theorem eB.length{l m:List bl}(h:eB l m):l.length=m.length:=by
 induction l generalizing m with
 |nil=>
  cases m with
  |nil=>rfl
  |cons y m=>have:=(h.mem (x:=y)).2 (by simp);simp at this
 |cons x l ih=>
  have aa:=(h.mem (x:=x)).1 (by simp)
  have:∃u v,m=u++x::v/\∀y∈u,y.1≠x.1:=by
   have e:=h x.1
   rw [axT,if_pos (by simp)]at e
   clear ih h aa
   induction m with
   |nil=>simp at e
   |cons z m apZ=>
    rw [axT]at e
    split at e
    ·rename_i aE
     simp only [List.cons.injEq]at e
     exact⟨[],m,by rw [e.1];rfl,by simp⟩
    ·rename_i aE
     obtain⟨u,v,rfl,hu⟩:=apZ e
     refine⟨z::u,v,rfl,λy aA=> ?_⟩
     rcases axA.1 aA with rfl|aA
     ·simpa using aE
     ·exact hu y aA
  obtain⟨u,v,rfl,hu⟩:=this
  have h':eB l (u++v):=λt=>by
   have e:=h t
   rw [axT,aAf,axT]at e
   rw [aAf]
   by_cases aW:x.1=t
   ·subst aW
    rw [if_pos (by simp),if_pos (by simp)]at e
    have:u.filter (λy=>decide (y.1=x.1))=[]:=List.filter_eq_nil_iff.2 λy aA=>by simpa using hu y aA
    rw [this]at e⊢
    simpa using e
   ·rw [if_neg (by simpa using aW),if_neg (by simpa using aW)]at e
    exact e
  have:=ih h'
  simp at this⊢;omega
theorem IT{A B:List bl}(ev:fX A)(bM:fX B)(h:∀x∈A,∀y∈B,x.1<=y.1):fX (A++B):=aAE.2 ⟨ev,bM,h⟩
theorem fX.left{A B:List bl}(h:fX (A++B)):fX A:=(aAE.1 h).1
theorem fX.right{A B:List bl}(h:fX (A++B)):fX B:=(aAE.1 h).2.1
theorem fX.Cg{A B:List bl}(h:fX (A++B)):∀x∈A,∀y∈B,x.1<=y.1:=(aAE.1 h).2.2
theorem fX.le{l:List bl}(h:fX l){i j:Nat}{x y:bl}(mn:i<=j)(aa:l[i]?=some x)(aA:l[j]?=some y):x.1<=y.1:=by
 rcases azH i j with h1|h1
 ·obtain⟨az,rfl⟩:=axC.1 aa
  obtain⟨bq,rfl⟩:=axC.1 aA
  exact aAD.1 h i j az bq h1
 ·have:i=j:=by omega
  subst this
  rw [aa]at aA;cases aA;exact Int.le_refl _
theorem alp{A B:List bl}(ev:fX A)(bM:fX B)(h:∀x y,A.getLast?=some x->B.head?=some y->x.1<=y.1):∀x∈A,∀y∈B,x.1<=y.1:=λx aa y aA=>by
 have yr:A≠[]:=by intro e;subst e;cases aa
 have yt:B≠[]:=by intro e;subst e;cases aA
 obtain⟨i,az⟩:=aAw aa
 obtain⟨j,bq⟩:=aAw aA
 have Jh:=(axC.1 az).1
 have h1:x.1<=(A.getLast yr).1:=ev.le (i:=i) (j:=A.length-1) (by omega) az (by rw [<-aAF];exact aAG yr)
 obtain⟨b,Mz,rfl⟩:=aAR yt
 have ab:b.1<=y.1:=bM.le (i:=0) (j:=j) (ayv _) rfl bq
 have:=h _ b (aAG yr) rfl
 omega
theorem als{A B:List bl}(ev:fX A)(bM:fX B)(h:∀x y,A.head?=some x->B.getLast?=some y->y.1<x.1):∀x∈A,∀y∈B,y.1<x.1:=λx aa y aA=>by
 have yr:A≠[]:=by intro e;subst e;cases aa
 have yt:B≠[]:=by intro e;subst e;cases aA
 obtain⟨i,az⟩:=aAw aa
 obtain⟨j,bq⟩:=aAw aA
 have aw7:=(axC.1 bq).1
 have h1:y.1<=(B.getLast yt).1:=bM.le (i:=j) (j:=B.length-1) (by omega) bq (by rw [<-aAF];exact aAG yt)
 obtain⟨a,dG,rfl⟩:=aAR yr
 have ab:a.1<=x.1:=ev.le (i:=0) (j:=i) (ayv _) rfl az
 have:=h a _ rfl (aAG yt)
 omega
end Go.Proofs
namespace Go.Proofs.aS
variable{H H':U}{c n k p q m r:Nat}{a:Option Addr}{aC:Addr}
theorem yp{A B:List bl}{w:bl}(h:A.length=k):(A++w::B)[k]?=some w:=by subst h;simp
theorem IQ{A B:List bl}{w x:bl}(h:A.length+1=k):(A++w::x::B)[k]?=some x:=by
 subst h
 rw [aze (by omega)]
 simp
theorem Cf{A B:List bl}{w y:bl}(h:A.length=k):(A++w::B).set k y=A++y::B:=by subst h;simp
theorem VI{A B:List bl}{w x y:bl}(h:A.length+1=k):(A++w::x::B).set k y=A++w::y::B:=by
 subst h
 rw [aAS _ _ (by omega)]
 simp
theorem ox{x y:Int}:jB x y<0↔x<y:=by unfold jB;split<;>(try split)<;>omega
theorem VJ{base:Nat}{A B L:List bl}{w x:bl}{i1 i2:Int}{X:U->Prop}(aw:Own encS 111 base H a n c L)(eR:L=A++w::x::B)(ev:A.length=k)(aL:i1=((k+1:Nat):Int))(a':i2=(k:Int))(b1 bI:Bool)(h1:b1=true)(ab:bI=true)
  (hk:∀H',Own encS 111 base H' a n c (A++x::w::B)->Fr (an a) H H'->X H'):
  fp a λaC=>dB b1 (∃je,bp 111 H (Addr.add aC (i1.toNat *2)) (n' w) je/\fp a λaC=>dB bI (∃H',bp 111 je (Addr.add aC (i2.toNat *2)) (n' x) H'/\X H')):=by
 subst eR aL a'
 have aG:=aw.1
 simp at aG
 refine sU (E:=encS) (k:=k+1) w aw rfl (by omega) h1 rfl (by kernel_rfl) (by kernel_rfl) λao dk bG=> ?_
 rw [VI (by omega)]at dk
 refine sU (E:=encS) (k:=k) x dk rfl (by omega) ab rfl (by kernel_rfl) (by kernel_rfl) λaP fP bP=> ?_
 rw [Cf ev]at fP
 exact hk aP fP (bG.trans' bP (λ_ h _=>h) (λ_ h _=>h))
theorem VK{order:Value}(cd:yn order){base:Nat}{P s Q:List bl}{K:U->Prop}(aa:Own encS 111 base H a n c (P++s++Q))(aH:P.length=p)(aO:p+s.length=q)(ay:n<=1000000000)
  (hk:∀H' s',Own encS 111 base H' a n c (P++s'++Q)->fX s'->eB s s'->Fr (an a) H H'->K H'):
  dQ akY [J a n c,o p,o q,order] H K:=by
 apply akZ
 have aG:=aa.1
 simp at aG
 rw [cE (by omega)]
 refine⟨λae H'=>match ae with
   |[.int _ i]=>∃(u nZ v:List bl),i=((p+u.length:Nat):Int)/\(s=u++v\/(s=[]/\nZ=[]/\v=[]/\u.length=1))/\1<=u.length/\Own encS 111 base H' a n c (P++(nZ++v)++Q)/\fX nZ/\(s≠[]->eB u nZ)/\Fr (an a) H H'
   |_=>False,
  λae _=>match ae with|[.int _ i]=>q+1-i.toNat|_=>0,?_,?_⟩
 ·cases s with
  |nil=>exact⟨[(0,0)],[],[],rfl,.inr ⟨rfl,rfl,rfl,rfl⟩,axx _,aa,List.Pairwise.nil,λh=>absurd rfl h,Fr.refl _ _⟩
  |cons x s=>exact⟨[x],[x],s,rfl,.inl rfl,axx _,aa,by simp [fX],λ_=>eB.refl _,Fr.refl _ _⟩
 rintro br i H1 ⟨u,nZ,v,rfl,hs,ve,aw,bB,bM,ai⟩
 refine au (λaF=> ?_) (λaF=> ?_)
 ·have b':p+u.length<q:=by simp at aF;omega
  rcases hs with hs|⟨rfl,_,_,h1⟩
  rotate_left
  ·simp at aO;omega
  have hx:s≠[]:=by intro e;subst e;simp at aO;omega
  have bM:=bM hx
  have B0:=bM.length
  cases v with
  |nil=>subst hs;simp at aO;omega
  |cons x v=>
   have kq:=aw.1
   simp only [ax6,ayi]at kq
   refine⟨λae H'=>match ae with
     |[.int _ j]=>∃bC V:List bl,nZ=bC++V/\j=((p+bC.length:Nat):Int)/\(∀w∈V,x.1<w.1)/\Own encS 111 base H' a n c (P++(bC++x::V++v)++Q)/\Fr (an a) H H'
     |_=>False,
    λae _=>match ae with|[.int _ j]=>j.toNat|_=>0,⟨nZ,[],by simp,by rw [B0],by simp,by simpa using aw,ai⟩,?_⟩
   rintro br j ao ⟨bC,V,rfl,rfl,yj,dk,bG⟩
   rw [ax6]at B0
   have fin:∀{aP:U},Own encS 111 base aP a n c (P++(bC++x::V++v)++Q)->Fr (an a) H aP->(∀w∈bC,w.1<=x.1)→
     (∃(E2 IS lD:List bl),IntKind.i64.wrap (((p+u.length:Nat):Int)+1)=((p+E2.length:Nat):Int)/\(s=E2++lD\/(s=[]/\IS=[]/\lD=[]/\E2.length=1))/\1<=E2.length/\Own encS 111 base aP a n c (P++(IS++lD)++Q)/\fX IS/\(s≠[]->eB E2 IS)/\Fr (an a) H aP)/\q+1-(IntKind.i64.wrap (((p+u.length:Nat):Int)+1)).toNat<q+1-(((p+u.length:Nat):Int)).toNat:=λfP bP lG=>by
    rw [cE (by omega)]
    refine⟨⟨u++[x],bC++x::V,v,by simp;omega,.inl (by rw [hs];simp),by simp,fP,?_,λ_=> ?_,bP⟩,by omega⟩
    ·refine IT bB.left (aAv.2 ⟨λw hw=>aAH (yj w hw),bB.right⟩) λw hw z aE=> ?_
     rcases axA.1 aE with rfl|aE
     ·exact lG w hw
     ·exact bB.Cg w hw z aE
    ·refine(bM.app (eB.refl [x])).trans ?_
     rw [ax7]
     exact(eB.refl bC).app (eB.VL yj)
   refine⟨λ_ H'=>∃lu w,bC=lu++[w]/\x.1<w.1/\Own encS 111 base H' a n c (P++(bC++x::V++v)++Q)/\Fr (an a) H H',?_,?_⟩
   ·refine au (λh1=> ?_) (λh1=>fin dk bG λw hw=> ?_)
    ·have VM:0<bC.length:=by simp at h1;omega
     obtain⟨lu,w,rfl⟩:∃lu w,bC=lu++[w]:=⟨bC.dropLast,bC.getLast (by intro e;subst e;simp at VM),(aAM _).symm⟩
     have eR:P++(lu++[w]++x::V++v)++Q=(P++lu)++w::x::(V++v++Q):=by simp
     simp only [ax6,ayi,azs]at B0 b' VM⊢
     rw [show p+(lu.length+(0+1))=(p+lu.length)+1 by omega,uQ (by omega) (by omega)]
     refine dk.bT.get (k:=p+lu.length+1) rfl (by rw [eR];exact IQ (by simp;omega)) (bh (by omega)) λaC b4 av=>⟨_,_,hL av,?_⟩
     refine dk.bT.get (k:=p+lu.length) (by omega) (by rw [eR];exact yp (by simp;omega)) (bh (by omega)) λaC b4 av=>⟨_,_,hL av,?_⟩
     refine cd x w ao _ λaP bP=>au (λab=>⟨lu,w,rfl,ox.1 (of_decide_eq_true ab),dk.ag bP,bG.trans' bP (λ_ h _=>h) (by simp)⟩) (λab=> ?_)
     have gF:¬x.1<w.1:=λh=>of_decide_eq_false ab (ox.2 h)
     have:=fin (dk.ag bP) (bG.trans' bP (λ_ h _=>h) (by simp)) λz aE=>by
      rcases azb.1 aE with aE|aE
      ·have:=bB.left.Cg z aE w (by simp)
       omega
      ·simp at aE;subst aE;omega
     exact this
    ·have:bC=[]:=ayT (by simp at h1;omega)
     subst this;cases hw
   ·rintro br aP ⟨lu,w,rfl,ak0,fP,bP⟩
    have eR:P++(lu++[w]++x::V++v)++Q=(P++lu)++w::x::(V++v++Q):=by simp
    simp only [ax6,ayi,azs]at B0 b'⊢
    rw [show p+(lu.length+(0+1))=(p+lu.length)+1 by omega,uQ (by omega) (by omega)]
    refine fP.bT.get (k:=p+lu.length) (by omega) (by rw [eR];exact yp (by simp;omega)) (bh (by omega)) λaC b4 av=>⟨_,_,hL av,?_⟩
    refine fP.bT.get (k:=p+lu.length+1) rfl (by rw [eR];exact IQ (by simp;omega)) (bh (by omega)) λaC b4 av=>⟨_,_,hL av,?_⟩
    refine VJ (k:=p+lu.length) fP eR (by simp;omega) rfl (by omega) _ _ (bh (by omega)) (bh (by omega)) λa8 gg cm=> ?_
    refine⟨⟨lu,w::V,by simp,by omega,λz aE=> ?_,by simpa using gg,bP.trans' cm (λ_ h _=>h) (λ_ h _=>h)⟩,?_⟩
    ·rcases axA.1 aE with rfl|aE
     ·exact ak0
     ·exact yj z aE
    ·show(((p+lu.length+1-1:Nat):Int)).toNat<(((p+lu.length+1:Nat):Int)).toNat
     omega
 ·rcases hs with hs|⟨rfl,rfl,rfl,h1⟩
  ·have aI:v=[]:=ayT (by subst hs;simp at aO aF;omega)
   subst aI
   rw [azh]at hs aw
   subst hs
   have hx:s≠[]:=by intro e;subst e;simp at ve
   exact⟨rfl,hk H1 nZ aw bB (bM hx) ai⟩
  ·exact⟨rfl,hk H1 [] aw List.Pairwise.nil (eB.refl _) ai⟩
theorem Nk{order:Value}{base:Nat}{L P X M Y Q:List bl}{K:U->Prop}(aa:Own encS 111 base H a n c L)(eR:L=P++(X++(M++(Y++Q))))(aH:P.length=p)(aO:p+X.length+M.length=q)(IU:X.length=Y.length)(ay:n<=1000000000)
  (hk:∀H',Own encS 111 base H' a n c (P++(Y++(M++(X++Q))))->Fr (an a) H H'->K H'):
  dQ ak1 [J a n c,o p,o q,o X.length,order] H K:=by
 apply ak2
 have aG:=aa.1
 subst eR
 simp only [ax6]at aG
 refine⟨λae H'=>match ae with
   |[.int _ i]=>∃(iX jw l0 lH:List bl),i=(iX.length:Int)/\X=iX++jw/\Y=l0++lH/\iX.length=l0.length/\Own encS 111 base H' a n c (P++(l0++(jw++(M++(iX++(lH++Q))))))/\Fr (an a) H H'
   |_=>False,
  λae _=>match ae with|[.int _ i]=>X.length-i.toNat|_=>0,⟨[],X,[],Y,rfl,rfl,rfl,rfl,aa,Fr.refl _ _⟩,?_⟩
 rintro br i H1 ⟨iX,jw,l0,lH,rfl,rfl,rfl,xu,aw,ai⟩
 simp only [ax6]at IU aO aG
 have vf:IntKind.i64.wrap ((q:Int)+(iX.length:Nat))=((q+iX.length:Nat):Int):=by rw [cj (by omega) (by omega)];omega
 have vg:IntKind.i64.wrap ((p:Int)+(iX.length:Nat))=((p+iX.length:Nat):Int):=by rw [cj (by omega) (by omega)];omega
 refine au (λaF=> ?_) (λaF=> ?_)
 ·have b':iX.length<iX.length+jw.length:=by simp at aF;omega
  cases jw with
  |nil=>simp at b'
  |cons x jw=>
   cases lH with
   |nil=>simp at IU;omega
   |cons y lH=>
    simp only [ayi]at IU aO aG
    rw [vf,vg]
    have aL:P++(l0++(x::jw++(M++(iX++(y::lH++Q)))))=(P++l0++x::jw++M++iX)++y::(lH++Q):=by simp
    have a':P++(l0++(x::jw++(M++(iX++(y::lH++Q)))))=(P++l0)++x::(jw++M++iX++y::(lH++Q)):=by simp
    refine aw.bT.get (k:=q+iX.length) rfl (by rw [aL];exact yp (by simp;omega)) (bh (by omega)) λaC b4 av=>⟨_,_,hL av,?_⟩
    refine aw.bT.get (k:=p+iX.length) rfl (by rw [a'];exact yp (by simp;omega)) (bh (by omega)) λaC b4 av=>⟨_,_,hL av,?_⟩
    refine sU (E:=encS) (k:=p+iX.length) y aw rfl (by omega) (bh (by omega)) rfl (by kernel_rfl) (by kernel_rfl) λao dk bG=> ?_
    rw [a',Cf (by simp;omega)]at dk
    have cX:(P++l0)++y::(jw++M++iX++y::(lH++Q))=(P++l0++y::jw++M++iX)++y::(lH++Q):=by simp
    refine sU (E:=encS) (k:=q+iX.length) x dk rfl (by omega) (bh (by omega)) rfl (by kernel_rfl) (by kernel_rfl) λaP fP bP=> ?_
    rw [cX,Cf (by simp;omega)]at fP
    rw [cE (by omega)]
    refine⟨⟨iX++[x],jw,l0++[y],lH,by simp,by simp,by simp,by simp;omega,by simpa using fP,(ai.trans' bG (λ_ h _=>h) (λ_ h _=>h)).trans' bP (λ_ h _=>h) (λ_ h _=>h)⟩,dU (by simp)⟩
 ·have ak3:jw=[]:=ayT (by simp at aF;omega)
  subst ak3
  have IV:lH=[]:=ayT (by simp at IU;omega)
  subst IV
  simp only [azh,ayn]at aw hk
  exact⟨rfl,hk H1 aw ai⟩
theorem ak4{order:Value}{base:Nat}{L P X Y Q:List bl}{K:U->Prop}(aa:Own encS 111 base H a n c L)(eR:L=P++(X++(Y++Q)))(aH:P.length=p)(hm:p+X.length=m)(aO:m+Y.length=q)(hc:0<X.length)(lU:0<Y.length)(ay:n<=1000000000)
  (hk:∀H',Own encS 111 base H' a n c (P++(Y++(X++Q)))->Fr (an a) H H'->K H'):
  dQ ak5 [J a n c,o p,o m,o q,order] H K:=by
 apply ak6
 have aG:=aa.1
 subst eR
 simp only [ax6]at aG
 have vf:IntKind.i64.wrap ((m:Int)-p)=((X.length:Nat):Int):=by rw [cj (by omega) (by omega)];omega
 have vg:IntKind.i64.wrap ((q:Int)-m)=((Y.length:Nat):Int):=by rw [cj (by omega) (by omega)];omega
 rw [vf,vg]
 refine⟨λae H'=>match ae with
   |[.int _ i,.int _ j]=>∃(vh X' kr yq:List bl),i=(X'.length:Int)/\j=(kr.length:Int)/\0<X'.length/\0<kr.length/\vh.length+X'.length=m/\vh++(kr++(X'++yq))=P++(Y++(X++Q))/\Own encS 111 base H' a n c (vh++(X'++(kr++yq)))/\Fr (an a) H H'
   |_=>False,
  λae _=>match ae with|[.int _ i,.int _ j]=>i.toNat+j.toNat|_=>0,⟨P,X,Y,Q,rfl,rfl,hc,lU,by omega,rfl,aa,Fr.refl _ _⟩,?_⟩
 rintro br i j H1 ⟨vh,X',kr,yq,rfl,rfl,ak7,ak8,ak9,Nl,aw,ai⟩
 have ea:=aw.1
 simp only [ax6]at ea
 have Ch:IntKind.i64.wrap ((m:Int)-(X'.length:Nat))=((vh.length:Nat):Int):=by rw [cj (by omega) (by omega)];omega
 refine au (λaF=> ?_) (λaF=> ?_)
 ·have b':X'.length≠kr.length:=by intro e;rw [e]at aF;simp at aF
  rw [Ch]
  refine au (λh1=> ?_) (λh1=> ?_)
  ·have fc:kr.length<X'.length:=by simpa using h1
   obtain⟨iX,jw,rfl,IW⟩:∃iX jw,X'=iX++jw/\iX.length=kr.length:=⟨X'.take kr.length,X'.drop kr.length,(aAd _ _).symm,by simp;omega⟩
   simp only [ax6]at ak9 ak7 fc ea
   have Ci:IntKind.i64.wrap (((iX++jw).length:Nat)-((kr.length:Nat):Int))=((jw.length:Nat):Int):=by rw [ax6,cj (by omega) (by omega)];omega
   rw [Ci,<-IW]
   refine Nk (P:=vh) (X:=iX) (M:=jw) (Y:=kr) (Q:=yq) aw (by simp) rfl (by omega) IW ay λao dk bG=> ?_
   rw [IW]
   refine⟨⟨vh++kr,jw,iX,yq,rfl,by rw [IW],by omega,by omega,by simp;omega,by rw [<-Nl];simp,by simpa using dk,ai.trans' bG (λ_ h _=>h) (λ_ h _=>h)⟩,?_⟩
   simp only [ax6];omega
  ·have fc:X'.length<kr.length:=by simp at h1;omega
   obtain⟨l0,lH,rfl,IV⟩:∃l0 lH,kr=l0++lH/\lH.length=X'.length:=⟨kr.take (kr.length-X'.length),kr.drop (kr.length-X'.length),(aAd _ _).symm,by simp;omega⟩
   simp only [ax6]at ak8 fc ea
   have Ci:IntKind.i64.wrap (((l0++lH).length:Nat)-((X'.length:Nat):Int))=((l0.length:Nat):Int):=by rw [ax6,cj (by omega) (by omega)];omega
   have VN:IntKind.i64.wrap (IntKind.i64.wrap ((m:Int)+(((l0++lH).length:Nat):Int))-(X'.length:Nat))=((m+l0.length:Nat):Int):=by
    rw [ax6,cj (n:=(m:Int)+_) (by omega) (by omega),cj (by omega) (by omega)];omega
   rw [Ci,VN]
   refine Nk (P:=vh) (X:=X') (M:=l0) (Y:=lH) (Q:=yq) aw (by simp) rfl (by omega) IV.symm ay λao dk bG=> ?_
   refine⟨⟨vh,lH,l0,X'++yq,by rw [IV],rfl,by omega,by omega,by omega,by rw [<-Nl];simp,by simpa using dk,ai.trans' bG (λ_ h _=>h) (λ_ h _=>h)⟩,?_⟩
   simp only [ax6];omega
 ·have b':X'.length=kr.length:=by simp at aF;omega
  rw [Ch]
  refine Nk (P:=vh) (X:=X') (M:=[]) (Y:=kr) (Q:=yq) aw (by simp) rfl (by simp;omega) b' ay λao dk bG=>⟨rfl,?_⟩
  refine hk ao ?_ (ai.trans' bG (λ_ h _=>h) (λ_ h _=>h))
  rw [<-Nl];simpa using dk
theorem ak':(2:Int)^min (Int.toNat 1) (IntKind.bits IntKind.u64)=2^1:=by decide
theorem zd{i j:Nat}(h:i+j<=4000000000):IntKind.i64.wrap (Int.fdiv (IntKind.u64.wrap (IntKind.i64.wrap ((i:Int)+(j:Int)))) (2^1))=(((i+j)/2:Nat):Int):=by
 rw [cj (n:=(i:Int)+j) (by omega) (by omega)]
 have:IntKind.u64.wrap ((i:Int)+(j:Int))=((i+j:Nat):Int):=by
  rw [show(i:Int)+(j:Int)=((i+j:Nat):Int) by omega]
  exact IntWalk.u64_in _ ⟨by omega,by omega⟩
 rw [this,show((2:Int)^1)=((2:Nat):Int) by decide,Int.fdiv_eq_ediv_of_nonneg _ (by omega),<-Int.natCast_ediv]
 exact cj (by omega) (by omega)
theorem ala{base:Nat}{A B L:List bl}{w x:bl}{i1 i2:Int}{X:U->Prop}(aw:Own encS 111 base H a n c L)(eR:L=A++x::w::B)(ev:A.length=k)(aL:i1=((k+1:Nat):Int))(a':i2=(k:Int))(b1 bI:Bool)(h1:b1=true)(ab:bI=true)
  (hk:∀H',Own encS 111 base H' a n c (A++w::x::B)->Fr (an a) H H'->X H'):
  fp a λaC=>dB b1 (∃je,bp 111 H (Addr.add aC (i2.toNat *2)) (n' w) je/\fp a λaC=>dB bI (∃H',bp 111 je (Addr.add aC (i1.toNat *2)) (n' x) H'/\X H')):=by
 subst eR aL a'
 have aG:=aw.1
 simp at aG
 refine sU (E:=encS) (k:=k) w aw rfl (by omega) h1 rfl (by kernel_rfl) (by kernel_rfl) λao dk bG=> ?_
 rw [Cf (by omega)]at dk
 refine sU (E:=encS) (k:=k+1) x dk rfl (by omega) ab rfl (by kernel_rfl) (by kernel_rfl) λaP fP bP=> ?_
 rw [VI (by omega)]at fP
 exact hk aP fP (bG.trans' bP (λ_ h _=>h) (λ_ h _=>h))
theorem alb{bC V:List bl}{x:bl}(h:fX (bC++V))(h1:∀u∈bC,u.1<x.1)(ab:∀v∈V,x.1<=v.1):fX (bC++x::V)/\eB ([x]++(bC++V)) (bC++x::V):=by
 refine⟨IT h.left (aAv.2 ⟨ab,h.right⟩) λu hu z aE=> ?_,?_⟩
 ·rcases axA.1 aE with rfl|aE
  ·exact aAH (h1 u hu)
  ·exact h.Cg u hu z aE
 ·have:=(eB.front h1).app (eB.refl V)
  simpa using this
theorem alc{bC V:List bl}{y:bl}(h:fX (bC++V))(h1:∀u∈bC,u.1<=y.1)(ab:∀v∈V,y.1<v.1):fX (bC++y::V)/\eB ((bC++V)++[y]) (bC++y::V):=by
 refine⟨IT h.left (aAv.2 ⟨λv aI=>aAH (ab v aI),h.right⟩) λu hu z aE=> ?_,?_⟩
 ·rcases axA.1 aE with rfl|aE
  ·exact h1 u hu
  ·exact h.Cg u hu z aE
 ·have:=(eB.refl bC).app (eB.VL ab)
  simpa using this
theorem E3{B:List bl}(h:k<=B.length):∃bC V,B=bC++V/\bC.length=k:=⟨B.take k,B.drop k,(aAd _ _).symm,by simp;omega⟩
theorem Cj{P A R:List bl}(h:P.length<=k)(ab:k<P.length+A.length):(P++(A++R))[k]?=A[k-P.length]?:=by
 rw [aze h,azd (by omega)]
structure ald(B:List bl)(k:Nat)(v:Int):Prop where
 h:∃z,B[k]?=some z/\z.1<v
structure ale(B:List bl)(k:Nat)(v:Int):Prop where
 h:∃z,B[k]?=some z/\z.1<=v
structure alf(B:List bl)(k:Nat)(v:Int):Prop where
 h:∃z,B[k]?=some z/\v<z.1
structure alg(B:List bl)(k:Nat)(v:Int):Prop where
 h:∃z,B[k]?=some z/\v<=z.1
theorem alh{order:Value}(cd:yn order){base:Nat}{L P B Q:List bl}{x:bl}{K:U->Prop}(aw:Own encS 111 base H a n c L)(eR:L=P++([x]++(B++Q)))(aH:P.length=p)(hm:p+1=m)(aO:m+B.length=q)(ay:n<=1000000000)(bM:fX B)
  (hk:∀H' S,Own encS 111 base H' a n c (P++(S++Q))->fX S->eB ([x]++B) S->Fr (an a) H H'->K H'):
  dQ Nn [J a n c,o p,o m,o q,order] H K:=by
 apply No
 have aG:=aw.1
 subst eR
 simp only [ax6,ayi,azs]at aG
 have ku:IntKind.i64.wrap ((m:Int)-p)=1:=by rw [cj (by omega) (by omega)];omega
 rw [ku]
 refine au (λ_=> ?_) (λh=>by simp at h)
 refine⟨λae H'=>match ae with
   |[.int _ i,.int _ j]=>∃cI dD:Nat,i=cI/\j=dD/\m<=cI/\cI<=dD/\dD<=q/\(cI=m\/ald B (cI-1-m) x.1)/\(dD=q\/alg B (dD-m) x.1)/\Own encS 111 base H' a n c (P++([x]++(B++Q)))/\Fr (an a) H H'
   |_=>False,
  λae _=>match ae with|[.int _ i,.int _ j]=>j.toNat-i.toNat|_=>0,⟨m,q,rfl,rfl,by omega,by omega,by omega,.inl rfl,.inl rfl,aw,Fr.refl _ _⟩,?_⟩
 rintro br i j H1 ⟨cI,dD,rfl,rfl,h1,ab,ar,a7,bs,fF,cv⟩
 refine au (λaF=> ?_) (λaF=> ?_)
 ·have b':cI<dD:=by simpa using aF
  rw [zd (by omega)]
  have uw:cI<=(cI+dD)/2:=by omega
  have ux:(cI+dD)/2<dD:=by omega
  generalize(cI+dD)/2=h at uw ux
  have aE:B[h-m]?=some (B[h-m]'(by omega)):=by simp
  generalize B[h-m]'(by omega)=z at aE
  have vW:(P++([x]++(B++Q)))[h]?=some z:=by
   rw [<-ax7,Cj (by simp;omega) (by simp;omega)]
   rw [<-aE];congr 1;simp;omega
  refine fF.bT.get (k:=h) rfl vW (bh (by omega)) λaC b4 av=>⟨_,_,hL av,?_⟩
  refine fF.bT.get (k:=p) (x:=x) rfl (by rw [Cj (by omega) (by simp;omega),aH];simp) (bh (by omega)) λaC b4 av=>⟨_,_,hL av,?_⟩
  refine cd z x H1 _ λao bG=> ?_
  have dk:=fF.ag bG
  have pE:=cv.trans' bG (T:=an a) (λ_ h _=>h) (by simp)
  rw [cE (by omega)]
  refine au (λb5=>⟨⟨h+1,dD,rfl,rfl,by omega,by omega,ar,.inr ⟨⟨z,aE,ox.1 (of_decide_eq_true b5)⟩⟩,bs,dk,pE⟩,?_⟩) (λb5=>⟨⟨cI,h,rfl,rfl,h1,by omega,by omega,a7,.inr ⟨⟨z,aE,?_⟩⟩,dk,pE⟩,?_⟩)
  ·show((dD:Nat):Int).toNat-((h+1:Nat):Int).toNat<((dD:Nat):Int).toNat-((cI:Nat):Int).toNat
   omega
  ·have:¬z.1<x.1:=λh=>of_decide_eq_false b5 (ox.2 h)
   omega
  ·show((h:Nat):Int).toNat-((cI:Nat):Int).toNat<((dD:Nat):Int).toNat-((cI:Nat):Int).toNat
   omega
 ·have b':cI=dD:=by simp at aF;omega
  subst b'
  obtain⟨bC,V,rfl,lG⟩:=E3 (B:=B) (k:=cI-m) (by omega)
  have Np:∀u∈bC,u.1<x.1:=λu hu=>by
   obtain⟨k,hk⟩:=aAw hu
   have uc:=(axC.1 hk).1
   rcases a7 with a7|⟨⟨z,aE,a7⟩⟩
   ·omega
   ·have:=bM.le (i:=k) (j:=cI-1-m) (by omega) (by rw [azd uc];exact hk) aE
    omega
  have Nq:∀v∈V,x.1<=v.1:=λv aI=>by
   obtain⟨k,hk⟩:=aAw aI
   have uc:=(axC.1 hk).1
   simp only [ax6]at aO
   rcases bs with bs|⟨⟨z,aE,bs⟩⟩
   ·omega
   ·have:=bM.le (i:=cI-m) (j:=bC.length+k) (by omega) aE (by rw [aze (by omega)];rw [<-hk];congr 1;omega)
    omega
  obtain⟨fB,gj⟩:=alb bM Np Nq
  have Ck:IntKind.i64.wrap ((cI:Int)-1)=((cI-1:Nat):Int):=uQ (by omega) (by omega)
  rw [Ck]
  simp only [ax6]at aG aO
  refine⟨λae H'=>match ae with
    |[.int _ k]=>∃qo wF:List bl,bC=qo++wF/\k=((p+qo.length:Nat):Int)/\Own encS 111 base H' a n c (P++qo++x::(wF++(V++Q)))/\Fr (an a) H H'
    |_=>False,
   λae _=>match ae with|[.int _ k]=>cI-k.toNat|_=>0,⟨[],bC,rfl,rfl,by simpa using fF,cv⟩,?_⟩
  rintro br k ao ⟨qo,wF,rfl,rfl,dk,bG⟩
  simp only [ax6]at lG aG aO
  refine au (λcT=> ?_) (λcT=> ?_)
  ·have yk:p+qo.length<cI-1:=by simp at cT;omega
   cases wF with
   |nil=>simp at lG;omega
   |cons w wF=>
    have eR:P++qo++x::(w::wF++(V++Q))=(P++qo)++x::w::(wF++(V++Q)):=by simp
    simp only [ayi]at lG aG aO
    rw [cE (by omega)]
    refine dk.bT.get (k:=p+qo.length+1) rfl (by rw [eR];exact IQ (by simp;omega)) (bh (by omega)) λaC b4 av=>⟨_,_,hL av,?_⟩
    refine dk.bT.get (k:=p+qo.length) rfl (by rw [eR];exact yp (by simp;omega)) (bh (by omega)) λaC b4 av=>⟨_,_,hL av,?_⟩
    refine ala (k:=p+qo.length) dk eR (by simp;omega) rfl rfl _ _ (bh (by omega)) (bh (by omega)) λa8 gg cm=> ?_
    refine⟨⟨qo++[w],wF,by simp,by simp;omega,by simpa using gg,bG.trans' cm (λ_ h _=>h) (λ_ h _=>h)⟩,?_⟩
    show cI-((p+qo.length+1:Nat):Int).toNat<cI-((p+qo.length:Nat):Int).toNat
    omega
  ·have:wF=[]:=ayT (by simp at cT;omega)
   subst this
   rw [azh]at fB gj
   exact⟨rfl,hk ao (qo++x::V) (by simpa using dk) fB (by simpa using gj) bG⟩
theorem ali{order:Value}(cd:yn order){base:Nat}{L P A Q:List bl}{y:bl}{K:U->Prop}(aw:Own encS 111 base H a n c L)(eR:L=P++(A++([y]++Q)))(aH:P.length=p)(hm:p+A.length=m)(aO:m+1=q)(av':2<=A.length)(ay:n<=1000000000)(ev:fX A)
  (hk:∀H' S,Own encS 111 base H' a n c (P++(S++Q))->fX S->eB (A++[y]) S->Fr (an a) H H'->K H'):
  dQ Nn [J a n c,o p,o m,o q,order] H K:=by
 apply No
 have aG:=aw.1
 subst eR
 simp only [ax6,ayi,azs]at aG
 have Nr:IntKind.i64.wrap ((m:Int)-p)=((A.length:Nat):Int):=by rw [cj (by omega) (by omega)];omega
 have ku:IntKind.i64.wrap ((q:Int)-m)=1:=by rw [cj (by omega) (by omega)];omega
 rw [ku,Nr]
 refine au (λh=>by simp at h;omega) (λ_=>au (λ_=> ?_) (λh=>by simp at h))
 refine⟨λae H'=>match ae with
   |[.int _ i,.int _ j]=>∃cI dD:Nat,i=cI/\j=dD/\p<=cI/\cI<=dD/\dD<=m/\(cI=p\/ale A (cI-1-p) y.1)/\(dD=m\/alf A (dD-p) y.1)/\Own encS 111 base H' a n c (P++(A++([y]++Q)))/\Fr (an a) H H'
   |_=>False,
  λae _=>match ae with|[.int _ i,.int _ j]=>j.toNat-i.toNat|_=>0,⟨p,m,rfl,rfl,by omega,by omega,by omega,.inl rfl,.inl rfl,aw,Fr.refl _ _⟩,?_⟩
 rintro br i j H1 ⟨cI,dD,rfl,rfl,h1,ab,ar,a7,bs,fF,cv⟩
 refine au (λaF=> ?_) (λaF=> ?_)
 ·have b':cI<dD:=by simpa using aF
  rw [zd (by omega)]
  have uw:cI<=(cI+dD)/2:=by omega
  have ux:(cI+dD)/2<dD:=by omega
  generalize(cI+dD)/2=h at uw ux
  have aE:A[h-p]?=some (A[h-p]'(by omega)):=by simp
  generalize A[h-p]'(by omega)=z at aE
  refine fF.bT.get (k:=m) (x:=y) rfl (by rw [<-ax7,Cj (by simp;omega) (by simp;omega)];simp [aH,hm]) (bh (by omega)) λaC b4 av=>⟨_,_,hL av,?_⟩
  refine fF.bT.get (k:=h) rfl (by rw [Cj (by omega) (by omega),aH];exact aE) (bh (by omega)) λaC b4 av=>⟨_,_,hL av,?_⟩
  refine cd y z H1 _ λao bG=> ?_
  have dk:=fF.ag bG
  have pE:=cv.trans' bG (T:=an a) (λ_ h _=>h) (by simp)
  rw [cE (by omega)]
  refine au (λb5=>⟨⟨h+1,dD,rfl,rfl,by omega,by omega,ar,.inr ⟨⟨z,aE,?_⟩⟩,bs,dk,pE⟩,?_⟩) (λb5=>⟨⟨cI,h,rfl,rfl,h1,by omega,by omega,a7,.inr ⟨⟨z,aE,?_⟩⟩,dk,pE⟩,?_⟩)
  ·have:¬y.1<z.1:=λh=>by rw [bh (ox.2 h)]at b5;cases b5
   omega
  ·show((dD:Nat):Int).toNat-((h+1:Nat):Int).toNat<((dD:Nat):Int).toNat-((cI:Nat):Int).toNat
   omega
  ·have:decide (jB y.1 z.1<0)=true:=by simpa using b5
   exact ox.1 (of_decide_eq_true this)
  ·show((h:Nat):Int).toNat-((cI:Nat):Int).toNat<((dD:Nat):Int).toNat-((cI:Nat):Int).toNat
   omega
 ·have b':cI=dD:=by simp at aF;omega
  subst b'
  obtain⟨bC,V,rfl,lG⟩:=E3 (B:=A) (k:=cI-p) (by omega)
  simp only [ax6]at hm aG
  have Np:∀u∈bC,u.1<=y.1:=λu hu=>by
   obtain⟨k,hk⟩:=aAw hu
   have uc:=(axC.1 hk).1
   rcases a7 with a7|⟨⟨z,aE,a7⟩⟩
   ·omega
   ·have:=ev.le (i:=k) (j:=cI-1-p) (by omega) (by rw [azd uc];exact hk) aE
    omega
  have Nq:∀v∈V,y.1<v.1:=λv aI=>by
   obtain⟨k,hk⟩:=aAw aI
   have uc:=(axC.1 hk).1
   rcases bs with bs|⟨⟨z,aE,bs⟩⟩
   ·omega
   ·have:=ev.le (i:=cI-p) (j:=bC.length+k) (by omega) aE (by rw [aze (by omega)];rw [<-hk];congr 1;omega)
    omega
  obtain⟨fB,gj⟩:=alc ev Np Nq
  refine⟨λae H'=>match ae with
    |[.int _ k]=>∃wG Ab:List bl,V=wG++Ab/\k=((cI+wG.length:Nat):Int)/\Own encS 111 base H' a n c (P++bC++wG++y::(Ab++Q))/\Fr (an a) H H'
    |_=>False,
   λae _=>match ae with|[.int _ k]=>k.toNat|_=>0,⟨V,[],by simp,by omega,by simpa using fF,cv⟩,?_⟩
  rintro br k ao ⟨wG,Ab,rfl,rfl,dk,bG⟩
  simp only [ax6]at hm aG
  refine au (λcT=> ?_) (λcT=> ?_)
  ·have yk:0<wG.length:=by simp at cT;omega
   obtain⟨c8,w,rfl⟩:∃c8 w,wG=c8++[w]:=⟨wG.dropLast,wG.getLast (by intro e;subst e;simp at yk),(aAM _).symm⟩
   have eR:P++bC++(c8++[w])++y::(Ab++Q)=(P++bC++c8)++w::y::(Ab++Q):=by simp
   simp only [ax6,ayi,azs]at hm aG yk⊢
   rw [show cI+(c8.length+(0+1))=(cI+c8.length)+1 by omega,uQ (by omega) (by omega)]
   refine dk.bT.get (k:=cI+c8.length) (by omega) (by rw [eR];exact yp (by simp;omega)) (bh (by omega)) λaC b4 av=>⟨_,_,hL av,?_⟩
   refine dk.bT.get (k:=cI+c8.length+1) rfl (by rw [eR];exact IQ (by simp;omega)) (bh (by omega)) λaC b4 av=>⟨_,_,hL av,?_⟩
   refine VJ (k:=cI+c8.length) dk eR (by simp;omega) rfl (by omega) _ _ (bh (by omega)) (bh (by omega)) λa8 gg cm=> ?_
   refine⟨⟨c8,w::Ab,by simp,by omega,by simpa using gg,bG.trans' cm (λ_ h _=>h) (λ_ h _=>h)⟩,?_⟩
   show(((cI+c8.length+1-1:Nat):Int)).toNat<(((cI+c8.length+1:Nat):Int)).toNat
   omega
  ·have:wG=[]:=ayT (by simp at cT;omega)
   subst this
   exact⟨rfl,hk ao (bC++y::Ab) (by simpa using dk) (by simpa using fB) (by simpa using gj) bG⟩
structure Ends(A B:List bl)(i j:Nat):Prop where
 h:∃x y,A[i]?=some x/\B[j]?=some y/\x.1<=y.1
structure alj(A B:List bl)(i j:Nat):Prop where
 h:∃x y,A[i]?=some x/\B[j]?=some y/\y.1<x.1
theorem VO{order:Value}(cd:yn order):∀(N:Nat) {base:Nat} {H:U} {a:Option Addr} {n c p m q:Nat} {L P A B Q:List bl} {K:U->Prop} (fl:A.length+B.length<=N) (aw:Own encS 111 base H a n c L) (eR:L=P++(A++(B++Q))) (aH:P.length=p) (hm:p+A.length=m) (aO:m+B.length=q) (yr:0<A.length) (yt:0<B.length) (ay:n<=1000000000) (ev:fX A) (bM:fX B)
  (hk:∀H' S,Own encS 111 base H' a n c (P++(S++Q))->fX S->eB (A++B) S->Fr (an a) H H'->K H'),
  dQ Nn [J a n c,o p,o m,o q,order] H K:=by
 intro N
 induction N with
 |zero=>intros;omega
 |succ N ih=>
 intro base H a n c p m q L P A B Q K fl aw eR aH hm aO yr yt ay ev bM hk
 by_cases Ns:A.length=1
 ·obtain⟨x,rfl⟩:∃x,A=[x]:=by cases A with|nil=>simp at Ns|cons x A=>cases A with|nil=>exact⟨x,rfl⟩|cons _ _=>simp at Ns
  exact alh cd aw eR aH hm aO ay bM hk
 by_cases rn:B.length=1
 ·obtain⟨y,rfl⟩:∃y,B=[y]:=by cases B with|nil=>simp at rn|cons x A=>cases A with|nil=>exact⟨x,rfl⟩|cons _ _=>simp at rn
  exact ali cd aw eR aH hm aO (by omega) ay ev hk
 apply No
 have aG:=aw.1
 subst eR
 simp only [ax6]at aG
 have Nr:IntKind.i64.wrap ((m:Int)-p)=((A.length:Nat):Int):=by rw [cj (by omega) (by omega)];omega
 have ku:IntKind.i64.wrap ((q:Int)-m)=((B.length:Nat):Int):=by rw [cj (by omega) (by omega)];omega
 rw [ku,Nr,ak',zd (by omega)]
 refine au (λh=>by simp at h;omega) (λ_=>au (λh=>by simp at h;omega) (λ_=> ?_))
 have alk:2*((p+q)/2)<=p+q:=by omega
 have alm:p+q<=2*((p+q)/2)+1:=by omega
 generalize(p+q)/2=h0 at alk alm
 have aln:IntKind.i64.wrap ((h0:Int)+m)=((h0+m:Nat):Int):=by rw [cj (by omega) (by omega)];omega
 rw [aln]
 refine⟨λae H'=>H'=H/\∃dH az:Nat,ae=[.int .i64 dH,.int .i64 az]/\p<=dH/\dH<=az/\az<=m/\az<=h0/\h0+m<=dH+q/\(dH=p\/h0+m=dH+q)/\(az=m\/az=h0),?_,?_⟩
 ·refine au (λh=>⟨rfl,h0+m-q,h0,?_,?_⟩) (λh=>⟨rfl,p,m,rfl,?_⟩)
  ·have:h0<m:=by simpa using h
   rw [cj (by omega) (by omega),show((h0+m:Nat):Int)-q=((h0+m-q:Nat):Int) by omega]
  ·have:h0<m:=by simpa using h
   omega
  ·have:m<=h0:=by simp at h;omega
   omega
 rintro br hh nT H1 ⟨rfl,dH,az,ed,kd,gA,VP,PX,aal,alo,IX⟩
 simp only [List.cons.injEq,Value.int.injEq,true_and,and_true]at ed
 obtain⟨rfl,rfl⟩:=ed
 refine⟨λae H'=>match ae with
   |[.int _ i,.int _ j]=>∃cI dD:Nat,i=cI/\j=dD/\dH<=cI/\cI<=dD/\dD<=az/\(cI=dH\/Ends A B (cI-1-p) (h0+m-cI-m))/\(dD=az\/alj A B (dD-p) (h0+m-1-dD-m))/\Own encS 111 base H' a n c (P++(A++(B++Q)))/\Fr (an a) H1 H'
   |_=>False,
  λae _=>match ae with|[.int _ i,.int _ j]=>j.toNat-i.toNat|_=>0,⟨dH,az,rfl,rfl,by omega,by omega,by omega,.inl rfl,.inl rfl,aw,Fr.refl _ _⟩,?_⟩
 rintro br i j ao ⟨cI,dD,rfl,rfl,h1,ab,ar,a7,bs,dk,bG⟩
 refine au (λaF=> ?_) (λaF=> ?_)
 ·have b':cI<dD:=by simpa using aF
  rw [zd (by omega)]
  have uw:cI<=(cI+dD)/2:=by omega
  have ux:(cI+dD)/2<dD:=by omega
  generalize(cI+dD)/2=h at uw ux
  have Ch:IntKind.i64.wrap (IntKind.i64.wrap (((h0+m:Nat):Int)-1)-(h:Int))=((h0+m-1-h:Nat):Int):=by
   rw [cj (n:=((h0+m:Nat):Int)-1) (by omega) (by omega),cj (by omega) (by omega)];omega
  rw [Ch]
  have aA:B[h0+m-1-h-m]?=some (B[h0+m-1-h-m]'(by omega)):=by simp
  generalize B[h0+m-1-h-m]'(by omega)=y at aA
  have aa:A[h-p]?=some (A[h-p]'(by omega)):=by simp
  generalize A[h-p]'(by omega)=x at aa
  have hM:(P++(A++(B++Q)))[h0+m-1-h]?=some y:=by
   rw [<-ax7,Cj (by simp;omega) (by simp;omega),<-aA];congr 1;simp;omega
  refine dk.bT.get (k:=h0+m-1-h) rfl hM (bh (by omega)) λaC b4 av=>⟨_,_,hL av,?_⟩
  refine dk.bT.get (k:=h) (x:=x) rfl (by rw [Cj (by omega) (by omega),aH];exact aa) (bh (by omega)) λaC b4 av=>⟨_,_,hL av,?_⟩
  refine cd y x ao _ λaP bP=> ?_
  have fP:=dk.ag bP
  have kT:=bG.trans' bP (T:=an a) (λ_ h _=>h) (by simp)
  rw [cE (by omega)]
  refine au (λb5=>⟨⟨h+1,dD,rfl,rfl,by omega,by omega,ar,.inr ⟨x,y,by simpa using aa,?_,?_⟩,bs,fP,kT⟩,?_⟩) (λb5=>⟨⟨cI,h,rfl,rfl,h1,by omega,by omega,a7,.inr ⟨x,y,aa,aA,?_⟩,fP,kT⟩,?_⟩)
  ·rw [<-aA];congr 1;omega
  ·have:¬y.1<x.1:=λh=>by rw [bh (ox.2 h)]at b5;cases b5
   omega
  ·show((dD:Nat):Int).toNat-((h+1:Nat):Int).toNat<((dD:Nat):Int).toNat-((cI:Nat):Int).toNat
   omega
  ·have:decide (jB y.1 x.1<0)=true:=by simpa using b5
   exact ox.1 (of_decide_eq_true this)
  ·show((h:Nat):Int).toNat-((cI:Nat):Int).toNat<((dD:Nat):Int).toNat-((cI:Nat):Int).toNat
   omega
 have b':cI=dD:=by simp at aF;omega
 subst b'
 obtain⟨e5,hz,rfl,awa⟩:=E3 (B:=A) (k:=cI-p) (by omega)
 obtain⟨l1,kJ,rfl,awb⟩:=E3 (B:=B) (k:=h0-cI) (by omega)
 simp only [ax6]at hm aO aG fl yr yt Ns rn
 have hle:∀x∈e5,∀y∈kJ,x.1<=y.1:=by
  refine alp ev.left bM.right λx y aa aA=> ?_
  have alq:e5≠[]:=by intro e;subst e;cases aa
  have awc:=aAI.2 alq
  have alr:kJ≠[]:=by intro e;subst e;cases aA
  have awd:=aAI.2 alr
  rcases a7 with a7|⟨⟨x',HQ,gw,hM,a7⟩⟩
  ·omega
  ·rw [azd (by omega)]at gw
   rw [aze (by omega)]at hM
   rw [aAF,show e5.length-1=cI-1-p by omega]at aa
   rw [aAT,show 0=h0+m-cI-m-l1.length by omega]at aA
   rw [aa]at gw
   rw [aA]at hM
   cases gw;cases hM;exact a7
 have bQ:∀x∈hz,∀y∈l1,y.1<x.1:=by
  refine als ev.right bM.left λx y aa aA=> ?_
  have alu:hz≠[]:=by intro e;subst e;cases aa
  have awe:=aAI.2 alu
  have alv:l1≠[]:=by intro e;subst e;cases aA
  have awf:=aAI.2 alv
  rcases bs with bs|⟨⟨x',HQ,gw,hM,bs⟩⟩
  ·omega
  ·rw [aze (by omega)]at gw
   rw [azd (by omega)]at hM
   rw [aAT,show 0=cI-p-e5.length by omega]at aa
   rw [aAF,show l1.length-1=h0+m-1-cI-m by omega]at aA
   rw [aa]at gw
   rw [aA]at hM
   cases gw;cases hM;exact bs
 have alw:IntKind.i64.wrap (((h0+m:Nat):Int)-(cI:Int))=((h0+m-cI:Nat):Int):=by rw [cj (by omega) (by omega)];omega
 rw [alw]
 refine⟨λ_ H'=>Own encS 111 base H' a n c (P++(e5++(l1++(hz++(kJ++Q)))))/\Fr (an a) H1 H',?_,?_⟩
 ·have same:hz=[]\/l1=[]->Own encS 111 base ao a n c (P++(e5++(l1++(hz++(kJ++Q)))))/\Fr (an a) H1 ao:=λh=>⟨by rcases h with rfl|rfl<;>simpa using dk,bG⟩
  refine au (λb5=>au (λcT=> ?_) (λcT=>same (.inr (ayT (by simp at cT;omega))))) (λb5=>same (.inl (ayT (by simp at b5;omega))))
  have VQ:cI<m:=by simpa using b5
  have yk:(m:Int)<((h0+m-cI:Nat):Int):=by simpa using cT
  refine ak4 (P:=P++e5) (X:=hz) (Y:=l1) (Q:=kJ++Q) dk (by simp) (by simp;omega) (by omega) (by omega) (by omega) (by omega) ay λaP fP bP=>⟨by simpa using fP,bG.trans' bP (λ_ h _=>h) (λ_ h _=>h)⟩
 rintro br aP ⟨fP,bP⟩
 refine⟨λ_ H'=>∃e0,Own encS 111 base H' a n c (P++(e0++(hz++(kJ++Q))))/\fX e0/\eB (e5++l1) e0/\Fr (an a) H1 H',?_,?_⟩
 ·have same:e5=[]\/l1=[]->∃e0,Own encS 111 base aP a n c (P++(e0++(hz++(kJ++Q))))/\fX e0/\eB (e5++l1) e0/\Fr (an a) H1 aP:=λh=>⟨e5++l1,by simpa using fP,by rcases h with rfl|rfl;exact bM.left;simpa using ev.left,eB.refl _,bP⟩
  refine au (λb5=>au (λcT=> ?_) (λcT=>same (.inr (ayT (by simp at cT;omega))))) (λb5=>same (.inl (ayT (by simp at b5;omega))))
  have VQ:p<cI:=by simpa using b5
  have yk:cI<h0:=by simpa using cT
  refine ih (P:=P) (A:=e5) (B:=l1) (Q:=hz++(kJ++Q)) (by omega) fP rfl aH (by omega) (by omega) (by omega) (by omega) ay ev.left bM.left λa8 e0 gg pU tH cm=>⟨e0,gg,pU,tH,bP.trans' cm (λ_ h _=>h) (λ_ h _=>h)⟩
 rintro br a8 ⟨e0,gg,pU,tH,cm⟩
 have alx:=tH.length
 rw [ax6]at alx
 have fin:∀{bA:U} {S2:List bl},Own encS 111 base bA a n c (P++(e0++(S2++Q)))->fX S2->eB (hz++kJ) S2->Fr (an a) H1 bA->K bA:=λ{bA S2} fZ u3 qm cb=>by
  refine hk bA (e0++S2) (by simpa using fZ) (IT pU u3 λx aa y aA=> ?_) ?_ cb
  ·rcases azb.1 (tH.mem.2 aa)with aa|aa
   ·rcases azb.1 (qm.mem.2 aA)with aA|aA
    ·exact ev.Cg x aa y aA
    ·exact hle x aa y aA
   ·rcases azb.1 (qm.mem.2 aA)with aA|aA
    ·exact aAH (bQ y aA x aa)
    ·exact bM.Cg x aa y aA
  ·have fB:eB ((e5++hz)++(l1++kJ)) ((e5++l1)++(hz++kJ)):=by
    have:=((eB.refl e5).app (eB.swap bQ)).app (eB.refl kJ)
    simpa using this
   exact fB.trans (tH.app qm)
 have same:hz=[]\/kJ=[]->Value.tuple ⟨[]⟩=.tuple ⟨[]⟩/\K a8:=λh=>⟨rfl,fin (S2:=hz++kJ) (by simpa using gg) (by rcases h with rfl|rfl;exact bM.right;simpa using ev.right) (eB.refl _) cm⟩
 refine au (λb5=>au (λcT=> ?_) (λcT=>same (.inr (ayT (by simp at cT;omega))))) (λb5=>same (.inl (ayT (by simp at b5;omega))))
 have VQ:(h0:Int)<((h0+m-cI:Nat):Int):=by simpa using b5
 have yk:((h0+m-cI:Nat):Int)<q:=by simpa using cT
 refine ih (P:=P++e0) (A:=hz) (B:=kJ) (Q:=Q) (by omega) gg (by simp) (by simp;omega) (by omega) (by omega) (by omega) (by omega) ay ev.right bM.right λbA S2 fZ u3 qm cb=> ?_
 exact⟨rfl,fin (by simpa using fZ) u3 qm (cm.trans' cb (λ_ h _=>h) (λ_ h _=>h))⟩
structure r8(cU:Nat)(eO:List (List bl)):Prop where
 h:∀T∈eO,T.length=cU/\fX T
theorem r8.len{cU:Nat}{eO:List (List bl)}(h:r8 cU eO):eO.flatten.length=cU*eO.length:=by
 induction eO with
 |nil=>simp
 |cons T eO ih=>
  have:=(h.h T (by simp)).1
  have:=ih ⟨λbC lG=>h.h bC (by simp [lG])⟩
  simp only [aAz,ax6,ayi,aAA];omega
theorem r8.snoc{cU:Nat}{eO:List (List bl)}{T:List bl}(h:r8 cU eO)(h1:T.length=cU)(ab:fX T):r8 cU (eO++[T]):=⟨λbC lG=>by
 rcases azb.1 lG with lG|lG
 ·exact h.h bC lG
 ·simp at lG;subst lG;exact⟨h1,ab⟩⟩
theorem r8.tail{cU:Nat}{eO:List (List bl)}{T:List bl}(h:r8 cU (T::eO)):r8 cU eO:=⟨λbC lG=>h.h bC (by simp [lG])⟩
theorem IY{x y:Nat}(h:x+y<=1000000000000):IntKind.i64.wrap ((x:Int)+(y:Int))=((x+y:Nat):Int):=by rw [cj (by omega) (by omega)];omega
theorem aly{order:Value}(cd:yn order){base:Nat}{xs:List bl}{K:U->Prop}(aa:Own encS 111 base H a n c xs)(ay:n<=1000000000)
  (hk:∀H' ys,Own encS 111 base H' a n c ys->fX ys->eB xs ys->Fr (an a) H H'->K H'):
  dQ alz [J a n c,o n,order] H K:=by
 apply alA
 have aG:=aa.1
 refine⟨λae H'=>match ae with
   |[.int _ i,.int _ j]=>∃(eO:List (List bl)) (R:List bl),r8 20 eO/\i=((20*eO.length:Nat):Int)/\j=((20*eO.length+20:Nat):Int)/\20*eO.length<=n/\Own encS 111 base H' a n c (eO.flatten++R)/\eB xs (eO.flatten++R)/\Fr (an a) H H'
   |_=>False,
  λae _=>match ae with|[.int _ i,_]=>n-i.toNat|_=>0,⟨[],xs,⟨λT h=>by cases h⟩,rfl,rfl,by simp,aa,eB.refl _,Fr.refl _ _⟩,?_⟩
 rintro br i j H1 ⟨eO,R,bM,rfl,rfl,hle,aw,dW,ai⟩
 have ea:=aw.1
 have fh:=bM.len
 rw [ax6]at ea
 refine au (λaF=> ?_) (λaF=> ?_)
 ·have b':20*eO.length+20<=n:=by simp at aF;omega
  obtain⟨X,mZ,rfl,hc⟩:=E3 (B:=R) (k:=20) (by omega)
  refine VK cd (P:=eO.flatten) (s:=X) (Q:=mZ) (by simpa using aw) (by omega) (by omega) ay λao X' dk bB hSt bG=> ?_
  have awg:=hSt.length
  have ku:IntKind.i64.wrap (((20*eO.length+20:Nat):Int)+20)=((20*(eO++[X']).length+20:Nat):Int):=by
   rw [cj (by omega) (by omega)];simp;omega
  refine⟨⟨eO++[X'],mZ,bM.snoc (by omega) bB,by simp;omega,ku,by simp;omega,by simpa using dk,dW.trans ?_,ai.trans' bG (λ_ h _=>h) (λ_ h _=>h)⟩,?_⟩
  ·have:=((eB.refl eO.flatten).app hSt).app (eB.refl mZ)
   simpa using this
  ·show n-((20*eO.length+20:Nat):Int).toNat<n-((20*eO.length:Nat):Int).toNat
   omega
 have b':n<20*eO.length+20:=by simp at aF;omega
 refine VK cd (P:=eO.flatten) (s:=R) (Q:=[]) (by simpa using aw) (by omega) (by omega) ay λao mZ dk bB hSt bG=> ?_
 have Nt:=hSt.length
 refine⟨λae H'=>match ae with
   |[.int _ k]=>∃(cU:Nat) (eO:List (List bl)) (R:List bl),k=cU/\20<=cU/\r8 cU eO/\R.length<cU/\fX R/\Own encS 111 base H' a n c (eO.flatten++R)/\eB xs (eO.flatten++R)/\Fr (an a) H H'
   |_=>False,
  λae _=>match ae with|[.int _ k]=>n-k.toNat|_=>0,⟨20,eO,mZ,rfl,by omega,bM,by omega,bB,by simpa using dk,?_,ai.trans' bG (λ_ h _=>h) (λ_ h _=>h)⟩,?_⟩
 ·exact dW.trans ((eB.refl eO.flatten).app hSt)
 clear bM hle aw dW ai ea fh aF b' dk bB hSt Nt bG eO R mZ H1 ao
 rintro br k aP ⟨cU,eO,R,rfl,ED,bM,cp,bB,aw,dW,ai⟩
 have ea:=aw.1
 have fh:=bM.len
 rw [ax6]at ea
 refine au (λaF=> ?_) (λaF=> ?_)
 ·have alB:cU<n:=by simpa using aF
  have vg:IntKind.i64.wrap (2*(cU:Int))=((2*cU:Nat):Int):=by rw [cj (by omega) (by omega)];omega
  have Ck:IntKind.i64.wrap ((cU:Int)*2)=((2*cU:Nat):Int):=by rw [cj (by omega) (by omega)];omega
  rw [vg,Ck]
  have Nu:n-((2*cU:Nat):Int).toNat<n-((cU:Nat):Int).toNat:=by omega
  refine⟨λae H'=>match ae with
    |[.int _ i,.int _ j]=>∃(ka eO:List (List bl)),r8 (2*cU) ka/\r8 cU eO/\i=((2*cU*ka.length:Nat):Int)/\j=((2*cU*ka.length+2*cU:Nat):Int)/\Own encS 111 base H' a n c (ka.flatten++(eO.flatten++R))/\eB xs (ka.flatten++(eO.flatten++R))/\Fr (an a) H H'
    |_=>False,
   λae _=>match ae with|[.int _ i,_]=>n-i.toNat|_=>0,⟨[],eO,⟨λT h=>by cases h⟩,bM,by simp,by simp,aw,dW,ai⟩,?_⟩
  clear bM aw dW ai ea fh eO
  rintro br i j a8 ⟨ka,eO,ee,bM,rfl,rfl,aw,dW,ai⟩
  have ea:=aw.1
  have fh:=bM.len
  have uT:=ee.len
  simp only [ax6]at ea
  have p9:2*cU*ka.length<=n:=by omega
  have alC:IntKind.i64.wrap (((2*cU*ka.length:Nat):Int)+(cU:Int))=((2*cU*ka.length+cU:Nat):Int):=IY (by omega)
  rw [alC]
  refine au (λh1=> ?_) (λh1=> ?_)
  ·have fc:2*cU*ka.length+2*cU<=n:=Int.ofNat_le.1 (of_decide_eq_true h1)
   match eO,bM,fh,aw,dW,ea with
   |[],_,fh,_,_,ea=>simp only [aAB,azs,Nat.mul_zero,axJ]at fh ea;omega
   |[X],bM,fh,_,_,ea=>simp only [aAB,aAz,azs,ayi,azh,azZ,axJ]at fh ea;omega
   |X::Y::eO,bM,fh,aw,dW,ea=>
    have hc:=bM.h X (by simp)
    have lU:=bM.h Y (by simp)
    refine VO cd _ (P:=ka.flatten) (A:=X) (B:=Y) (Q:=eO.flatten++R) (axx _) aw (by simp) (by omega) (by omega) (by omega) (by omega) (by omega) ay hc.2 lU.2 λbA Z fZ Nv E5 cb=> ?_
    have Nw:=E5.length
    rw [ax6]at Nw
    have alD:IntKind.i64.wrap (((2*cU*ka.length+2*cU:Nat):Int)+((2*cU:Nat):Int))=((2*cU*(ka++[Z]).length+2*cU:Nat):Int):=by
     rw [IY (by omega)];simp [aAA]
    refine⟨⟨ka++[Z],eO,ee.snoc (by omega) Nv,bM.tail.tail,by simp [aAA],alD,by simpa using fZ,dW.trans ?_,ai.trans' cb (λ_ h _=>h) (λ_ h _=>h)⟩,?_⟩
    ·have:=((eB.refl ka.flatten).app E5).app (eB.refl (eO.flatten++R))
     simpa using this
    ·show n-((2*cU*ka.length+2*cU:Nat):Int).toNat<n-((2*cU*ka.length:Nat):Int).toNat
     omega
  have fc:n<2*cU*ka.length+2*cU:=Nat.lt_of_not_le λh=>of_decide_eq_false h1 (Int.ofNat_le.2 h)
  refine au (λab=> ?_) (λab=> ?_)
  ·have gF:2*cU*ka.length+cU<n:=Int.ofNat_lt.1 (of_decide_eq_true ab)
   match eO,bM,fh,aw,dW,ea with
   |[],_,fh,_,_,ea=>simp only [aAB,azs,Nat.mul_zero,axJ]at fh ea;omega
   |X::Y::eO,bM,fh,aw,dW,ea=>
    simp only [aAz,ax6,ayi,aAA,azZ]at fh ea;omega
   |[X],bM,fh,aw,dW,ea=>
    have hc:=bM.h X (by simp)
    simp only [aAB,aAz,azs,ayi,azh,azZ,axJ]at aw dW ea fh
    refine VO cd _ (P:=ka.flatten) (A:=X) (B:=R) (Q:=[]) (axx _) aw (by simp) (by omega) (by omega) (by omega) (by omega) (by omega) ay hc.2 bB λbA Z fZ Nv E5 cb=> ?_
    have Nw:=E5.length
    rw [ax6]at Nw
    exact⟨⟨2*cU,ka,Z,rfl,by omega,ee,by omega,Nv,by simpa using fZ,dW.trans ((eB.refl ka.flatten).app E5),ai.trans' cb (λ_ h _=>h) (λ_ h _=>h)⟩,Nu⟩
  ·have gF:n<=2*cU*ka.length+cU:=Nat.le_of_not_lt λh=>of_decide_eq_false ab (Int.ofNat_lt.2 h)
   match eO,bM,fh,aw,dW,ea with
   |[],_,fh,aw,dW,ea=>exact⟨⟨2*cU,ka,R,rfl,by omega,ee,by omega,bB,by simpa using aw,by simpa using dW,ai⟩,Nu⟩
   |X::Y::eO,bM,fh,aw,dW,ea=>
    simp only [aAz,ax6,ayi,aAA,azZ]at fh ea;omega
   |[X],bM,fh,aw,dW,ea=>
    have hc:=bM.h X (by simp)
    simp only [aAB,aAz,azs,ayi,azh,azZ,axJ]at aw dW ea fh
    have Nx:R=[]:=ayT (by omega)
    subst Nx
    exact⟨⟨2*cU,ka,X,rfl,by omega,ee,by omega,hc.2,by simpa using aw,by simpa using dW,ai⟩,Nu⟩
 ·have alB:n<=cU:=by simp at aF;omega
  refine⟨rfl,hk aP _ aw ?_ dW ai⟩
  match eO,bM,fh,ea with
  |[],_,_,_=>simpa using bB
  |X::Y::eO,bM,fh,ea=>
   simp only [aAz,ax6,ayi,aAA,azZ]at fh ea;omega
  |[X],bM,fh,ea=>
   have hc:=bM.h X (by simp)
   simp only [aAB,aAz,azs,ayi,azh,azZ,axJ]at ea fh⊢
   have Nx:R=[]:=ayT (by omega)
   subst Nx
   simpa using hc.2
theorem alE{order:Value}(cd:yn order){base:Nat}{xs:List bl}{K:U->Prop}(aa:Own encS 111 base H a n c xs)(ay:n<=1000000000)
  (hk:∀H' ys,Own encS 111 base H' a n c ys->fX ys->eB xs ys->Fr (an a) H H'->K H'):
  dQ alF [J a n c,order] H K:=by
 apply alG
 exact aly cd aa ay λH' ys h1 ab ar a7=>⟨rfl,hk H' ys h1 ab ar a7⟩
def h2{α:Type}(cf:α->α->Int):List α->List α->List α
 |[],b=>b
 |x::a,[]=>x::a
 |x::a,y::b=>if cf x y<0 then x::h2 cf a (y::b)else if cf x y=0 then y::h2 cf a b else y::h2 cf (x::a) b
termination_by a b=>a.length+b.length
theorem wH{α:Type}{cf:α->α->Int}(b:List α):h2 cf [] b=b:=by unfold h2;rfl
theorem yu{α:Type}{cf:α->α->Int}:∀a:List α,h2 cf a []=a
 |[]=>wH _
 |x::a=>by unfold h2;rfl
theorem yv{α:Type}{cf:α->α->Int}(x y:α)(a b:List α):h2 cf (x::a) (y::b)=if cf x y<0 then x::h2 cf a (y::b)else if cf x y=0 then y::h2 cf a b else y::h2 cf (x::a) b:=by
 rw [h2]
abbrev aS:=Int×eH
def dM:di aS:=⟨λx=>[.int .i64 x.1,.slice x.2.1 x.2.2.1 x.2.2.2],2,λ_=>rfl,by decide,λ_ v h=>by simp at h;rcases h with rfl|rfl<;>rfl⟩
abbrev h9(x:aS):Value:=.agg ⟨[.int .i64 x.1,.slice x.2.1 x.2.2.1 x.2.2.2]⟩
theorem Ac:j8 azB 57 2 32=true:=by kernel_rfl
theorem Ad:sliceB azB 52 57=true:=by kernel_rfl
theorem iP{x:aS}(h:gu H aC (dM.cells x)):ah 57 H aC (h9 x):=vU (by kernel_rfl) (by kernel_rfl) h
theorem wI{x:aS}(h:gu H aC (dM.cells x)):ah 55 H (aC.add 1) (.slice x.2.1 x.2.2.1 x.2.2.2):=pC (by kernel_rfl) h (j:=1) rfl
theorem Ny{x:aS}(h:gu H aC (dM.cells x)):ah 3 H aC (.int .i64 x.1):=x7 (by kernel_rfl) (by have:=h 0 _ rfl;simpa [Addr.add]using this)
abbrev dr:=Int×Int×Int
def dP:di dr:=⟨λx=>[.int .i64 x.1,.int .i64 x.2.1,.int .i64 x.2.2],3,λ_=>rfl,by decide,λ_ v h=>by simp at h;rcases h with rfl|rfl|rfl<;>rfl⟩
abbrev E6(x:dr):Value:=.agg ⟨[.int .i64 x.1,.int .i64 x.2.1,.int .i64 x.2.2]⟩
theorem tZ:j8 azB 103 3 24=true:=by kernel_rfl
theorem tY:sliceB azB 82 103=true:=by kernel_rfl
theorem sw{x:dr}(h:gu H aC (dP.cells x)):ah 103 H aC (E6 x):=vU (by kernel_rfl) (by kernel_rfl) h
def lI(x y:aS):Int:=jB x.1 y.1
def lJ(x y:dr):Int:=if jB x.1 y.1≠0 then jB x.1 y.1 else jB x.2.1 y.2.1
def Nz(order:Value):Prop:=∀(x y:aS) (H:U) (K:Int->U->Prop),(∀H',Fr [] H H'->K (lI x y) H')->dY azB order [h9 x,h9 y] H λv H'=>∃n,v=.int .i64 n/\K n H'
def VR(order:Value):Prop:=∀(x y:dr) (H:U) (K:Int->U->Prop),(∀H',Fr [] H H'->K (lJ x y) H')->dY azB order [E6 x,E6 y] H λv H'=>∃n,v=.int .i64 n/\K n H'
theorem VS{x y:aS}{K:Int->U->Prop}(hk:∀H',Fr [] H H'->K (lI x y) H'):cG alH [h9 x,h9 y] H K:=by
 apply alI
 intro b H1 bb b1 ao bK
 have ai:=bb.af.aT bK.af
 exact⟨_,(bb.bz.ag bK.af).bY rfl,_,bK.bz.bY rfl,Dq ⟨_,rfl,hk ao ai⟩⟩
theorem VT:Nz (.func (.func 116) #[] #[]):=λx y H K hk=>⟨116, #[], #[],rfl,by kernel_rfl,VS hk⟩
theorem alJ{order:Value}{b:Option Addr}{d:Nat}{xs ys:List aS}{K:Option Addr->Nat->Nat->U->Prop}(aw:Nz order)(aa:bt dM H a n c xs)(aA:bt dM H b m d ys)
  (hlen:n+m<=1000000000) (hk:∀aV bn bg H',Own dM 57 H.size H' aV bn bg (h2 lI xs ys)->Fr [] H H'->K aV bn bg H'):
  dy alK [J a n c,J b m d,order] H K:=by
 apply alL
 rw [cj (by omega) (by omega)]
 refine IB (E:=dM) Ad Ac (by omega) (by omega) λim H1 fF cv=> ?_
 refine⟨λae H'=>match ae with
   |[.slice a n c,.slice b m d,.slice ad p q]=>∃zs us ws,bt dM H a n c zs/\bt dM H b m d us/\Own dM 57 H.size H' ad p q ws/\ws++h2 lI zs us=h2 lI xs ys/\p+n+m<=1000000000/\Fr [] H H'
   |_=>False,
  λae _=>match ae with|[.slice _ n _,.slice _ m _,_]=>n+m|_=>0,⟨xs,ys,[],aa,aA,fF,rfl,by omega,cv⟩,?_⟩
 rintro br a n c b m d ad p q ao ⟨zs,us,ws,aE,hu,hw,he,dF,ai⟩
 have ay:=aE.len
 have hm:=hu.len
 have aH:=hw.1
 have VA:=aE.cap
 have VB:=hu.cap
 have last:(zs=[]\/us=[])->bO (Builtin.append_ ⟨[52,52]⟩ 52 ⟨[.slice ad p q,.slice a n c]⟩) ao λv H'=>∃a n c,v=.slice a n c/\bO (Builtin.append_ ⟨[52,52]⟩ 52 ⟨[.slice a n c,.slice b m d]⟩) H' λv H'=>∃a n c,v=.slice a n c/\(∃ie iT hg,azV a n c=.slice ie iT hg/\K ie iT hg H'):=by
  intro vc
  refine uJ (E:=dM) Ad Ac hw ai (aE.ag ai) (by omega) λj3 fR b0 aP e8 bG _=> ?_
  have cO:=e8.1
  refine uJ (E:=dM) Ad Ac e8 bG (hu.ag bG) (by simp at cO;omega) λo3 w7 cY a8 vd bP _=>⟨_,_,_,rfl,hk _ _ _ _ ?_ bP⟩
  rw [ax7]at vd
  have:zs++us=h2 lI zs us:=by
   rcases vc with rfl|rfl
   ·rw [wH];rfl
   ·rw [yu];simp
  rwa [this,he]at vd
 refine⟨λ_ H'=>H'=ao/\0<n/\0<m,au (λaF=>au (λh1=>⟨rfl,by simpa using aF,by simpa using h1⟩) (λh1=>last (.inr ?_))) (λaF=>last (.inl ?_)),?_⟩
 rotate_left 2
 ·rintro br ao ⟨rfl,aF,h1⟩
  cases zs with
  |nil=>simp at ay;omega
  |cons x zs=>
  cases us with
  |nil=>simp at hm;omega
  |cons y us=>
  simp only [ayi]at ay hm
  have tw:bt dM H (df c 1 2 a) ((n:Int).toNat-1) (c-1) zs:=by
   have:=aE.drop (k:=1) (by omega)
   rwa [ayS]
  have ve:bt dM H (df d 1 2 b) ((m:Int).toNat-1) (d-1) us:=by
   have:=hu.drop (k:=1) (by omega)
   rwa [ayS]
  refine(aE.ag ai).head (bh (by omega)) λaC b4 av=>⟨_,_,_,_,iP av,?_⟩
  refine(hu.ag ai).head (bh (by omega)) λwm hi aR=>⟨_,_,_,_,iP aR,?_⟩
  refine aw x y ao _ λaP bP=> ?_
  have eE:=ai.aT bP
  have mE:=hw.ag bP
  rw [yv]at he
  refine au (λab=> ?_) (λab=>au (λar=> ?_) (λar=> ?_))
  ·have bQ:lI x y<0:=of_decide_eq_true ab
   rw [if_pos bQ]at he
   refine(aE.ag eE).head (bh (by omega)) λaC b4 av=>⟨_,_,_,_,iP av,gK ⟨by omega,by omega,by omega⟩ ?_⟩
   refine pj (E:=dM) x Ad Ac mE eE rfl (by omega) λ_ j3 fR b0 a8 e8 bG _=> ?_
   have cO:=e8.1
   simp at cO
   exact⟨⟨zs,y::us,ws++[x],tw,hu,e8,by rw [<-he];simp,by omega,bG⟩,by show(n:Int).toNat-1+m<n+m;omega⟩
  ·have eZ:¬lI x y<0/\lI x y=0:=⟨of_decide_eq_false ab,by simpa using ar⟩
   rw [if_neg eZ.1,if_pos eZ.2]at he
   refine gK ⟨by omega,by omega,by omega⟩ ?_
   refine(hu.ag eE).head (bh (by omega)) λaC b4 av=>⟨_,_,_,_,iP av,gK ⟨by omega,by omega,by omega⟩ ?_⟩
   refine pj (E:=dM) y Ad Ac mE eE rfl (by omega) λ_ j3 fR b0 a8 e8 bG _=> ?_
   have cO:=e8.1
   simp at cO
   exact⟨⟨zs,us,ws++[y],tw,ve,e8,by rw [<-he];simp,by omega,bG⟩,by show(n:Int).toNat-1+((m:Int).toNat-1)<n+m;omega⟩
  ·have eZ:¬lI x y<0/\¬lI x y=0:=⟨of_decide_eq_false ab,by simpa using ar⟩
   rw [if_neg eZ.1,if_neg eZ.2]at he
   refine(hu.ag eE).head (bh (by omega)) λaC b4 av=>⟨_,_,_,_,iP av,gK ⟨by omega,by omega,by omega⟩ ?_⟩
   refine pj (E:=dM) y Ad Ac mE eE rfl (by omega) λ_ j3 fR b0 a8 e8 bG _=> ?_
   have cO:=e8.1
   simp at cO
   exact⟨⟨x::zs,us,ws++[y],aE,ve,e8,by rw [<-he];simp,by omega,bG⟩,by show n+((m:Int).toNat-1)<n+m;omega⟩
 ·cases us with
  |nil=>rfl
  |cons y us=>simp at hm h1;omega
 ·cases zs with
  |nil=>rfl
  |cons y us=>simp at ay aF;omega
theorem alM{order:Value}{b:Option Addr}{d:Nat}{xs ys:List dr}{K:Option Addr->Nat->Nat->U->Prop}(aw:VR order)(aa:bt dP H a n c xs)(aA:bt dP H b m d ys)
  (hlen:n+m<=1000000000) (hk:∀aV bn bg H',Own dP 103 H.size H' aV bn bg (h2 lJ xs ys)->Fr [] H H'->K aV bn bg H'):
  dy alN [J a n c,J b m d,order] H K:=by
 apply alO
 rw [cj (by omega) (by omega)]
 refine IB (E:=dP) tY tZ (by omega) (by omega) λim H1 fF cv=> ?_
 refine⟨λae H'=>match ae with
   |[.slice a n c,.slice b m d,.slice ad p q]=>∃zs us ws,bt dP H a n c zs/\bt dP H b m d us/\Own dP 103 H.size H' ad p q ws/\ws++h2 lJ zs us=h2 lJ xs ys/\p+n+m<=1000000000/\Fr [] H H'
   |_=>False,
  λae _=>match ae with|[.slice _ n _,.slice _ m _,_]=>n+m|_=>0,⟨xs,ys,[],aa,aA,fF,rfl,by omega,cv⟩,?_⟩
 rintro br a n c b m d ad p q ao ⟨zs,us,ws,aE,hu,hw,he,dF,ai⟩
 have ay:=aE.len
 have hm:=hu.len
 have aH:=hw.1
 have VA:=aE.cap
 have VB:=hu.cap
 have last:(zs=[]\/us=[])->bO (Builtin.append_ ⟨[82,82]⟩ 82 ⟨[.slice ad p q,.slice a n c]⟩) ao λv H'=>∃a n c,v=.slice a n c/\bO (Builtin.append_ ⟨[82,82]⟩ 82 ⟨[.slice a n c,.slice b m d]⟩) H' λv H'=>∃a n c,v=.slice a n c/\(∃ie iT hg,azV a n c=.slice ie iT hg/\K ie iT hg H'):=by
  intro vc
  refine uJ (E:=dP) tY tZ hw ai (aE.ag ai) (by omega) λj3 fR b0 aP e8 bG _=> ?_
  have cO:=e8.1
  refine uJ (E:=dP) tY tZ e8 bG (hu.ag bG) (by simp at cO;omega) λo3 w7 cY a8 vd bP _=>⟨_,_,_,rfl,hk _ _ _ _ ?_ bP⟩
  rw [ax7]at vd
  have:zs++us=h2 lJ zs us:=by
   rcases vc with rfl|rfl
   ·rw [wH];rfl
   ·rw [yu];simp
  rwa [this,he]at vd
 refine⟨λ_ H'=>H'=ao/\0<n/\0<m,au (λaF=>au (λh1=>⟨rfl,by simpa using aF,by simpa using h1⟩) (λh1=>last (.inr ?_))) (λaF=>last (.inl ?_)),?_⟩
 rotate_left 2
 ·rintro br ao ⟨rfl,aF,h1⟩
  cases zs with
  |nil=>simp at ay;omega
  |cons x zs=>
  cases us with
  |nil=>simp at hm;omega
  |cons y us=>
  simp only [ayi]at ay hm
  have tw:bt dP H (df c 1 3 a) ((n:Int).toNat-1) (c-1) zs:=by
   have:=aE.drop (k:=1) (by omega)
   rwa [ayS]
  have ve:bt dP H (df d 1 3 b) ((m:Int).toNat-1) (d-1) us:=by
   have:=hu.drop (k:=1) (by omega)
   rwa [ayS]
  refine(aE.ag ai).head (bh (by omega)) λaC b4 av=>⟨_,_,_,sw av,?_⟩
  refine(hu.ag ai).head (bh (by omega)) λwm hi aR=>⟨_,_,_,sw aR,?_⟩
  refine aw x y ao _ λaP bP=> ?_
  have eE:=ai.aT bP
  have mE:=hw.ag bP
  rw [yv]at he
  refine au (λab=> ?_) (λab=>au (λar=> ?_) (λar=> ?_))
  ·have bQ:lJ x y<0:=of_decide_eq_true ab
   rw [if_pos bQ]at he
   refine(aE.ag eE).head (bh (by omega)) λaC b4 av=>⟨_,_,_,sw av,gK ⟨by omega,by omega,by omega⟩ ?_⟩
   refine pj (E:=dP) x tY tZ mE eE rfl (by omega) λ_ j3 fR b0 a8 e8 bG _=> ?_
   have cO:=e8.1
   simp at cO
   exact⟨⟨zs,y::us,ws++[x],tw,hu,e8,by rw [<-he];simp,by omega,bG⟩,by show(n:Int).toNat-1+m<n+m;omega⟩
  ·have eZ:¬lJ x y<0/\lJ x y=0:=⟨of_decide_eq_false ab,by simpa using ar⟩
   rw [if_neg eZ.1,if_pos eZ.2]at he
   refine gK ⟨by omega,by omega,by omega⟩ ?_
   refine(hu.ag eE).head (bh (by omega)) λaC b4 av=>⟨_,_,_,sw av,gK ⟨by omega,by omega,by omega⟩ ?_⟩
   refine pj (E:=dP) y tY tZ mE eE rfl (by omega) λ_ j3 fR b0 a8 e8 bG _=> ?_
   have cO:=e8.1
   simp at cO
   exact⟨⟨zs,us,ws++[y],tw,ve,e8,by rw [<-he];simp,by omega,bG⟩,by show(n:Int).toNat-1+((m:Int).toNat-1)<n+m;omega⟩
  ·have eZ:¬lJ x y<0/\¬lJ x y=0:=⟨of_decide_eq_false ab,by simpa using ar⟩
   rw [if_neg eZ.1,if_neg eZ.2]at he
   refine(hu.ag eE).head (bh (by omega)) λaC b4 av=>⟨_,_,_,sw av,gK ⟨by omega,by omega,by omega⟩ ?_⟩
   refine pj (E:=dP) y tY tZ mE eE rfl (by omega) λ_ j3 fR b0 a8 e8 bG _=> ?_
   have cO:=e8.1
   simp at cO
   exact⟨⟨x::zs,us,ws++[y],aE,ve,e8,by rw [<-he];simp,by omega,bG⟩,by show n+((m:Int).toNat-1)<n+m;omega⟩
 ·cases us with
  |nil=>rfl
  |cons y us=>simp at hm h1;omega
 ·cases zs with
  |nil=>rfl
  |cons y us=>simp at ay aF;omega
theorem alP{x y:Int}{K:Int->U->Prop}(aa:bt cH H a 2 c [x,y])(hk:K (if x≠0 then x else y) H):
  cG alQ [J a 2 c] H K:=by
 apply alR
 refine⟨λae H'=>match ae with|[.int _ i]=>H'=H/\(i=0\/(i=1/\x=0)\/(i=2/\x=0/\y=0))|_=>False,λae _=>match ae with|[.int _ i]=>2-i.toNat|_=>0,⟨rfl,.inl rfl⟩,?_⟩
 rintro br i H1 ⟨rfl,h⟩
 rcases h with rfl|⟨rfl,oy⟩|⟨rfl,oy,G8⟩
 ·refine au (λ_=> ?_) (λh=>by simp at h)
  refine aa.get (k:=0) rfl rfl (bh (by omega)) λaC b4 av=>⟨_,jb av,au (λh=>⟨_,rfl,?_⟩) (λh=> ?_)⟩
  ·rw [if_pos (by simpa using h)]at hk;exact hk
  ·exact⟨⟨rfl,.inr (.inl ⟨by decide,by simpa using h⟩)⟩,show 2-(IntKind.i64.wrap (0+1)).toNat<2-(0:Int).toNat by decide⟩
 ·refine au (λ_=> ?_) (λh=>by simp at h)
  refine aa.get (k:=1) rfl rfl (bh (by omega)) λaC b4 av=>⟨_,jb av,au (λh=>⟨_,rfl,?_⟩) (λh=> ?_)⟩
  ·rw [if_neg (by simpa using oy)]at hk;exact hk
  ·exact⟨⟨rfl,.inr (.inr ⟨by decide,oy,by simpa using h⟩)⟩,show 2-(IntKind.i64.wrap (1+1)).toNat<2-(1:Int).toNat by decide⟩
 ·refine au (λh=>by simp at h) (λ_=>⟨_,rfl,?_⟩)
  rw [if_neg (by simpa using oy),G8]at hk;exact hk
theorem alS{x y:dr}{K:Int->U->Prop}(hk:∀H',Fr [] H H'->K (lJ x y) H'):cG alT [E6 x,E6 y] H K:=by
 apply alU
 intro b H1 bb b1 ao bK
 have ai:=bb.af.aT bK.af
 have g1:a6 ao ⟨b,0,none⟩ (dP.cells x):=bb.bz.ag bK.af
 have g2:a6 ao ⟨b1,0,none⟩ (dP.cells y):=bK.bz
 refine⟨_,g1.bY rfl,_,g2.bY rfl,_,g1.cF 1 rfl,_,g2.cF 1 rfl,?_⟩
 refine Dq ⟨g2.cF 1 rfl,g1.cF 1 rfl,Dq ?_⟩
 intro dz aP bw
 have hs:bt cH aP (some ⟨dz,0,none⟩) 2 2 [jB x.1 y.1,jB x.2.1 y.2.1]:=by
  refine⟨rfl,axx _,.inr ⟨dz,0,rfl,λi z aE j v aI=> ?_⟩⟩
  have EF:j=0:=by
   have:(cH.cells z).length=1:=rfl
   have:=(axC.1 aI).1
   omega
  subst EF
  have zZ:v=.int .i64 z:=by simpa [cH]using aI.symm
  subst zZ
  rw [tp bw.get]
  have e:cH.sz=1:=rfl
  rw [e]
  match i with
  |0=>simp at aE;subst aE;rfl
  |1=>simp at aE;subst aE;rfl
  |k+2=>simp at aE
 exact alP hs ⟨_,rfl,hk aP (ai.aT bw.af)⟩
theorem alV:VR (.func (.func 146) #[] #[]):=λx y H K hk=>⟨146, #[], #[],rfl,by kernel_rfl,alS hk⟩
theorem alW{base:Nat}{xs:List bl}{K:U->Prop}(aa:Own encS 111 base H a n c xs)(ay:n<=1000000000)(hk:∀H',Own encS 111 base H' a n c xs.reverse->Fr (an a) H H'->K H'):
  dQ alX [J a n c] H K:=by
 apply alY
 have aG:=aa.1
 rw [cj (n:=(n:Int)-1) (by omega) (by omega)]
 refine⟨λae H'=>match ae with
   |[.int _ i,.int _ j]=>∃A M B:List bl,xs=A++(M++B)/\A.length=B.length/\i=(A.length:Int)/\j=(n:Int)-1-A.length/\Own encS 111 base H' a n c (B.reverse++(M++A.reverse))/\Fr (an a) H H'
   |_=>False,
  λae _=>match ae with|[.int _ i,_]=>n-i.toNat|_=>0,⟨[],xs,[],by simp,rfl,rfl,by simp,by simpa using aa,Fr.refl _ _⟩,?_⟩
 rintro br i j H1 ⟨A,M,B,rfl,VU,rfl,rfl,aw,ai⟩
 simp only [ax6]at aG
 refine au (λaF=> ?_) (λaF=> ?_)
 ·have b':2<=M.length:=by have:=of_decide_eq_true aF;omega
  obtain⟨x,M,rfl⟩:∃x kj,M=x::kj:=by cases M with|nil=>simp at b'|cons x M=>exact⟨x,M,rfl⟩
  obtain⟨M,y,rfl⟩:∃kj y,M=kj++[y]:=⟨M.dropLast,M.getLast (by intro e;subst e;simp at b'),(aAM _).symm⟩
  simp only [ax6,ayi,azs]at aG b'
  have IZ:(n:Int)-1-A.length=((A.length+M.length+1:Nat):Int):=by omega
  rw [IZ]
  have aL:B.reverse++((x::(M++[y]))++A.reverse)=B.reverse++x::(M++y::A.reverse):=by simp
  have a':B.reverse++((x::(M++[y]))++A.reverse)=(B.reverse++x::M)++y::A.reverse:=by simp
  refine aw.bT.get (k:=A.length+M.length+1) rfl (by rw [a'];exact yp (by simp;omega)) (bh (by omega)) λaC b4 av=>⟨_,_,hL av,?_⟩
  refine aw.bT.get (k:=A.length) rfl (by rw [aL];exact yp (by simp;omega)) (bh (by omega)) λaC b4 av=>⟨_,_,hL av,?_⟩
  refine sU (E:=encS) (k:=A.length) y aw rfl (by omega) (bh (by omega)) rfl (by kernel_rfl) (by kernel_rfl) λao dk bG=> ?_
  rw [aL,Cf (by simp;omega)]at dk
  have cX:B.reverse++y::(M++y::A.reverse)=(B.reverse++y::M)++y::A.reverse:=by simp
  refine sU (E:=encS) (k:=A.length+M.length+1) x dk rfl (by omega) (bh (by omega)) rfl (by kernel_rfl) (by kernel_rfl) λaP fP bP=> ?_
  rw [cX,Cf (by simp;omega)]at fP
  rw [cE (by omega),uQ (by omega) (by omega)]
  refine⟨⟨A++[x],M,y::B,by simp,by simp;omega,by simp,by simp;omega,by simpa using fP,(ai.trans' bG (λ_ h _=>h) (λ_ h _=>h)).trans' bP (λ_ h _=>h) (λ_ h _=>h)⟩,?_⟩
  show n-((A.length+1:Nat):Int).toNat<n-((A.length:Nat):Int).toNat
  omega
 ·have b':M.length<=1:=by have:=of_decide_eq_false aF;omega
  refine⟨rfl,hk H1 ?_ ai⟩
  have:M.reverse=M:=by
   match M,b' with
   |[],_=>rfl
   |[x],_=>rfl
  simpa [this]using aw
def ky(p:Option Int):List bl->List bl
 |[]=>[]
 |x::l=>if p=some x.1 then ky (some x.1) l else x::ky (some x.1) l
def Ae(p:Option Int)(u:List bl):Option Int:=match u.getLast? with|some y=>some y.1|none=>p
theorem VV(x:bl):∀(u:List bl) (p:Option Int),ky p (u++[x])=ky p u++(if Ae p u=some x.1 then []else [x])
 |[],p=>by
  unfold Ae
  simp only [ayn,List.getLast?_nil]
  show(if p=some x.1 then ky (some x.1) []else x::ky (some x.1) [])=[]++(if p=some x.1 then []else [x])
  by_cases h:p=some x.1
  ·rw [if_pos h,if_pos h];rfl
  ·rw [if_neg h,if_neg h];rfl
 |y::u,p=>by
  have ih:=VV x u (some y.1)
  have e:Ae p (y::u)=Ae (some y.1) u:=by
   unfold Ae
   rw [List.getLast?_cons]
   cases u.getLast?<;>rfl
  rw [e]
  show(if p=some y.1 then ky (some y.1) (u++[x])else y::ky (some y.1) (u++[x]))=(if p=some y.1 then ky (some y.1) u else y::ky (some y.1) u)++_
  rw [ih]
  split<;>simp
def da(l:List bl):List bl:=ky none l
theorem VW{xs:List bl}{x y:bl}(aA:xs[k]?=some y)(aa:xs[k+1]?=some x):da (xs.take (k+2))=da (xs.take (k+1))++(if y.1=x.1 then []else [x]):=by
 have e:xs.take (k+2)=xs.take (k+1)++[x]:=by rw [azP,aa];rfl
 have a':Ae none (xs.take (k+1))=some y.1:=by
  unfold Ae
  rw [show xs.take (k+1)=xs.take k++[y] by rw [azP,aA];rfl]
  simp
 unfold da
 rw [e,VV,a']
 simp
theorem alZ{xs:List bl}(h:xs≠[]):da (xs.take 1)=xs.take 1:=by
 cases xs with
 |nil=>exact absurd rfl h
 |cons x l=>rfl
def VX(D:Value):Prop:=∀(x y:bl) (H:U) (K:Bool->U->Prop),(∀H',Fr [] H H'->K (x.1==y.1) H')->dY azB D [n' x,n' y] H λv H'=>∃b,v=.bool b/\K b H'
theorem al0:VX (.func (.func 115) #[] #[]):=λx y H K hk=>⟨115, #[], #[],rfl,by kernel_rfl,by
 apply al1
 intro b H1 bb b1 ao bK
 exact⟨_,(bb.bz.ag bK.af).bY rfl,_,bK.bz.bY rfl,_,rfl,hk ao (bb.af.aT bK.af)⟩⟩
theorem VY(p:Option Int):∀l:List bl,(ky p l).length<=l.length
 |[]=>axx _
 |x::l=>by
  have ih:=VY (some x.1) l
  show(if p=some x.1 then ky (some x.1) l else x::ky (some x.1) l).length<=_
  split<;>simp<;>omega
theorem al2{D:Value}{base:Nat}{xs:List bl}{K:Option Addr->Nat->Nat->U->Prop}(ee:VX D)(aw:Own encS 111 base H a n c xs)(ay:n<=1000000000)
  (hk:∀bn H',Own encS 111 base H' a bn c (da xs)->bn<=n->Fr (an a) H H'->K a bn c H'):
  dy al3 [J a n c,D] H K:=by
 apply al4
 have aG:=aw.1
 refine au (λh=>⟨_,_,_,rfl,hk n H ?_ (axx _) (Fr.refl _ _)⟩) (λh=> ?_)
 ·have ab:xs.length<2:=by simp at h;omega
  match xs,ab with
  |[],_=>exact aw
  |[x],_=>exact aw
 have ab:2<=n:=by simp at h;omega
 have cP:xs≠[]:=by intro e;subst e;simp at aG;omega
 refine⟨λae H'=>match ae with|[.int _ i]=>∃k:Nat,i=((k+1:Nat):Int)/\k+1<=n/\da (xs.take (k+1))=xs.take (k+1)/\Fr [] H H'|_=>False,
  λae _=>match ae with|[.int _ i]=>n-i.toNat|_=>0,⟨0,rfl,by omega,alZ cP,Fr.refl _ _⟩,?_⟩
 rintro br i H1 ⟨k,rfl,eC,lf,ai⟩
 have fF:=aw.ag ai
 refine au (λaF=> ?_) (λaF=> ?_)
 ·have b':k+1<n:=by simp at aF;omega
  have cB:xs[k+1]?=some (xs[k+1]'(by omega)):=by simp
  generalize xs[k+1]'(by omega)=x at cB
  have oO:xs[k]?=some (xs[k]'(by omega)):=by simp
  generalize xs[k]'(by omega)=y at oO
  have rS:=VW oO cB
  rw [uQ (by omega) (by omega),show k+1-1=k by omega,cE (by omega)]
  refine fF.bT.get rfl cB (bh (by omega)) λaC b4 av=>⟨_,_,hL av,?_⟩
  refine fF.bT.get rfl oO (bh (by omega)) λaC b4 av=>⟨_,_,hL av,?_⟩
  refine ee x y H1 _ λao bG=> ?_
  have pE:=ai.aT bG
  refine au (λar=> ?_) (λar=>⟨⟨k+1,rfl,by omega,?_,pE⟩,?_⟩)
  rotate_left
  ·rw [rS,if_neg (by intro e;simp [e]at ar),lf,azP (i:=k+1),cB];rfl
  ·show n-((k+1+1:Nat):Int).toNat<n-((k+1:Nat):Int).toNat
   omega
  have r5:x.1=y.1:=by simpa using ar
  refine gK ⟨by omega,by omega,by have:=fF.bT.cap;omega⟩ ?_
  simp only [ayS]
  refine⟨λae H'=>match ae with|[.int _ i,.int _ j]=>∃(m q:Nat) (ws:List bl),i=m/\j=((q+1:Nat):Int)/\m<=k+1+q/\k+1+q+1<=n/\Own encS 111 base H' a n c ws/\ws.take m=da (xs.take (k+1+q+1))/\ws.drop (k+1+q)=xs.drop (k+1+q)/\Fr (an a) H H'|_=>False,
   λae _=>match ae with|[_,.int _ i]=>n-i.toNat|_=>0,⟨k+1,0,xs,rfl,rfl,by omega,by omega,fF.ag bG,?_,rfl,pE.mono (by simp)⟩,?_⟩
  ·rw [rS,if_pos r5.symm,lf,azh]
  rintro br i j aP ⟨m,q,ws,rfl,rfl,awh,zc,tJ,gv,nK,bP⟩
  have akS:=tJ.1
  refine au (λa7=> ?_) (λa7=> ?_)
  ·have al5:k+1+q+1<n:=by have:=of_decide_eq_true a7;omega
   have wv:xs[k+1+q+1]?=some (xs[k+1+q+1]'(by omega)):=by simp
   generalize xs[k+1+q+1]'(by omega)=la at wv
   have NA:xs[k+1+q]?=some (xs[k+1+q]'(by omega)):=by simp
   generalize xs[k+1+q]'(by omega)=E7 at NA
   have NB:ws[k+1+q+1]?=some la:=by
    have:=congrArg (λl=>l[1]?) nK
    simp only [ax5]at this
    rw [show k+1+q+1=k+1+q+1 from rfl,this,wv]
   have al6:ws[k+1+q]?=some E7:=by
    have:=congrArg (λl=>l[0]?) nK
    simp only [ax5,Nat.add_zero]at this
    rw [this,NA]
   have wk:=VW NA wv
   have VZ:ws.drop (k+1+(q+1))=xs.drop (k+1+(q+1)):=by
    have:=congrArg (λl=>l.drop 1) nK
    simpa [List.drop_drop,Nat.add_assoc]using this
   have BR:=tJ.bT.drop (k:=k+1) (by omega)
   rw [uQ (by omega) (by omega),show q+1-1=q by omega]
   have g1:(ws.drop (k+1))[q+1]?=some la:=by rw [ax5];exact NB
   have g2:(ws.drop (k+1))[q]?=some E7:=by rw [ax5];exact al6
   refine BR.get (k:=q+1) rfl g1 (bh (by omega)) λaC b4 av=>⟨_,_,hL av,?_⟩
   refine BR.get rfl g2 (bh (by omega)) λaC b4 av=>⟨_,_,hL av,?_⟩
   refine ee la E7 aP _ λa8 cm=> ?_
   have yo:=tJ.ag cm
   have Iy:=bP.trans' cm (T:=an a) (λ_ h _=>h) (by simp)
   have V0:n-((q+1+1:Nat):Int).toNat<n-((q+1:Nat):Int).toNat:=by omega
   refine au (λbs=> ?_) (λbs=>by rw [cE (by omega)];exact⟨⟨m,q+1,ws,rfl,rfl,by omega,by omega,yo,by
     show ws.take m=da (xs.take (k+1+q+2))
     rw [wk,if_pos (by
       have:la.1=E7.1:=by simpa using bs
       exact this.symm),gv,azh],VZ,Iy⟩,V0⟩)
   ·refine(BR.ag cm).get rfl g1 (bh (by omega)) λaC b4 av=>⟨_,_,hL av,?_⟩
    rw [cE (by omega),cE (by omega)]
    refine sU (E:=encS) la yo rfl (by omega) (bh (by omega)) rfl (by kernel_rfl) (by kernel_rfl) λbA Nj cb=>⟨⟨m+1,q+1,_,rfl,rfl,by omega,by omega,Nj,?_,?_,Iy.trans' cb (λ_ h _=>h) (λ_ h _=>h)⟩,V0⟩
    ·show(ws.set m la).take (m+1)=da (xs.take (k+1+q+2))
     rw [wk,if_neg (by intro e;simp [e]at bs),<-gv,azP,aAP (axx _),aAL (by omega)]
     rfl
    ·rw [aAQ (by omega)];exact VZ
  ·have al5:k+1+q+1=n:=by have:=of_decide_eq_false a7;omega
   have Bf:=tJ.bT.cap
   refine gK ⟨by omega,by omega,by omega⟩ ?_
   simp only [ayS]
   refine VH (E:=encS) qT VD rfl (by simp [aAx]) tJ (by omega) λa8 yo cm=>gK ⟨by omega,by omega,by omega⟩ ?_
   refine⟨_,_,_,rfl,hk _ a8 ?_ (by omega) (bP.trans' cm (λ_ h _=>h) (λ_ h _=>h))⟩
   rw [gv,ayB (by omega)]at yo
   simpa using yo
 ·have b':k+1=n:=by simp at aF;omega
  refine⟨_,_,_,rfl,hk n H1 ?_ (axx _) (ai.mono (by simp))⟩
  rw [ayB (by omega)]at lf
  rw [lf];exact fF
theorem al7{order:Value}(bB:Nz order){xs:List aS}{t:aS}{K:Int->Bool->U->Prop}(aa:bt dM H a n c xs)(ay:n<=1000000000)(aB:xs.Pairwise λx y=>x.1<y.1)
  (eV:∀(k:Nat) x H',xs[k]?=some x->x.1=t.1->Fr [] H H'->K k true H') (cq:(∀x∈xs,x.1≠t.1)->∀(m:Int) H',Fr [] H H'->K m false H'):
  aK al8 [J a n c,h9 t,order] H λv H'=>∃m b,v=.tuple ⟨[.int .i64 m,.bool b]⟩/\K m b H':=by
 apply al9
 intro b H1 bb
 have aG:=aa.len
 have bQ:∀{i j:Nat} {x y:aS},i<j->xs[i]?=some x->xs[j]?=some y->x.1<y.1:=λ{i j x y} mn aa aA=>by
  obtain⟨az,rfl⟩:=axC.1 aa
  obtain⟨bq,rfl⟩:=axC.1 aA
  exact aAD.1 aB i j az bq mn
 refine⟨λae H'=>match ae with
   |[.int _ i,.int _ j]=>∃p q:Nat,i=p/\j=q/\p<=q/\q<=n/\(∀k x,k<p->xs[k]?=some x->x.1<t.1)/\(∀k x,q<=k->xs[k]?=some x->t.1<=x.1)/\Fr [] H1 H'
   |_=>False,
  λae _=>match ae with|[.int _ i,.int _ j]=>j.toNat-i.toNat|_=>0,⟨0,n,rfl,rfl,by omega,by omega,λk x h=>by omega,λk x h aa=>by have:=(axC.1 aa).1;omega,Fr.refl _ _⟩,?_⟩
 rintro br i j ao ⟨p,q,rfl,rfl,Dr,zc,nU,pW,ai⟩
 have pE:=bb.af.aT ai
 have al:a6 ao ⟨b,0,none⟩ (dM.cells t):=bb.bz.ag ai
 have vX:∀{H':U},Fr [] ao H'->ah 57 H' ⟨b,0,none⟩ (h9 t):=λeE=>(al.ag eE).B5 (us:=dM.cells t) (by kernel_rfl) (by kernel_rfl) rfl
 refine au (λaF=> ?_) (λaF=> ?_)
 ·have b':p<q:=by simpa using aF
  rw [zd (by omega)]
  have uw:p<=(p+q)/2:=by omega
  have ux:(p+q)/2<q:=by omega
  generalize(p+q)/2=h at uw ux
  have aE:xs[h]?=some (xs[h]'(by omega)):=by simp
  generalize xs[h]'(by omega)=z at aE
  refine(aa.ag pE).get (k:=h) rfl aE (bh (by omega)) λaC b4 av=>⟨_,_,_,_,iP av,_,_,_,_,vX (Fr.refl _ _),?_⟩
  refine bB z t ao _ λaP bP=> ?_
  rw [cE (by omega)]
  refine au (λb5=>⟨⟨h+1,q,rfl,rfl,by omega,zc,λk x hk aa=> ?_,pW,ai.aT bP⟩,?_⟩) (λb5=>⟨⟨p,h,rfl,rfl,by omega,by omega,nU,λk x hk aa=> ?_,ai.aT bP⟩,?_⟩)
  ·have b5:z.1<t.1:=ox.1 (of_decide_eq_true b5)
   rcases azH k h with cT|cT
   ·have:=bQ cT aa aE;omega
   ·have:k=h:=by omega
    subst this
    rw [aE]at aa;cases aa;exact b5
  ·show((q:Nat):Int).toNat-((h+1:Nat):Int).toNat<((q:Nat):Int).toNat-((p:Nat):Int).toNat
   omega
  ·have b5:¬z.1<t.1:=λh=>of_decide_eq_false b5 (ox.2 h)
   rcases azH h k with cT|cT
   ·have:=bQ cT aE aa;omega
   ·have:k=h:=by omega
    subst this
    rw [aE]at aa;cases aa;omega
  ·show((h:Nat):Int).toNat-((p:Nat):Int).toNat<((q:Nat):Int).toNat-((p:Nat):Int).toNat
   omega
 ·have b':p=q:=by simp at aF;omega
  subst b'
  have V1:(∀x,xs[p]?=some x->x.1≠t.1)->∀x∈xs,x.1≠t.1:=λh x aa=>by
   obtain⟨k,hk⟩:=aAw aa
   rcases azH k p with cT|cT
   ·have:=nU k x cT hk;omega
   ·rcases azH p k with fi|fi
    ·have j2:p<xs.length:=by have:=(axC.1 hk).1;omega
     have aE:xs[p]?=some xs[p]:=by simp
     have kn:=pW p _ (axx _) aE
     have:=bQ fi aE hk
     omega
    ·have:k=p:=by omega
     subst this
     exact h x hk
  refine au (λh1=> ?_) (λh1=>⟨_,_,rfl,cq (V1 λx aa=> ?_) _ ao pE⟩)
  ·have fc:p<n:=by simpa using h1
   have aE:xs[p]?=some (xs[p]'(by omega)):=by simp
   generalize xs[p]'(by omega)=z at aE
   refine(aa.ag pE).get (k:=p) rfl aE (bh (by omega)) λaC b4 av=>⟨_,_,_,_,iP av,_,_,_,_,vX (Fr.refl _ _),?_⟩
   refine bB z t ao _ λaP bP=>⟨_,_,rfl,?_⟩
   have kT:=pE.aT bP
   unfold lI
   by_cases e:z.1=t.1
   ·have:(jB z.1 t.1==0)=true:=by rw [e];unfold jB;simp
    rw [this];exact eV p z aP aE e kT
   ·have:(jB z.1 t.1==0)=false:=by unfold jB;split;rfl;split;rfl;omega
    rw [this]
    exact cq (V1 λx aa=>by rw [aE]at aa;cases aa;exact e) _ aP kT
  ·have:=(axC.1 aa).1
   simp at h1;omega
def fI(l:List bl)(t:Int):Option Int:=(l.find? λx=>decide (x.1=t)).map (·.2)
theorem r9(t:Int):fI [] t=none:=rfl
theorem jH(x:bl)(l:List bl)(t:Int):fI (x::l) t=if x.1=t then some x.2 else fI l t:=by
 unfold fI
 rw [aAN]
 by_cases h:x.1=t
 ·rw [if_pos h,decide_eq_true h];rfl
 ·rw [if_neg h,decide_eq_false h]
theorem amJ(a b:List bl)(t:Int):fI (a++b) t=(fI a t).or (fI b t):=by
 induction a with
 |nil=>rw [ayn,r9];rfl
 |cons x a ih=>
  rw [axV,jH,jH,ih]
  split<;>rfl
theorem sP{l:List bl}{t:Int}:fI l t=none↔∀x∈l,x.1≠t:=by
 induction l with
 |nil=>simp [r9]
 |cons x l ih=>
  rw [jH]
  by_cases h:x.1=t
  ·rw [if_pos h];simp [h]
  ·rw [if_neg h,ih];simp [h]
theorem GN{l:List bl}{t v:Int}(h:fI l t=some v):(t,v)∈l:=by
 induction l with
 |nil=>simp [r9]at h
 |cons x l ih=>
  rw [jH]at h
  by_cases h1:x.1=t
  ·rw [if_pos h1]at h
   simp only [Option.some.injEq]at h
   rw [show(t,v)=x from Prod.ext h1.symm h.symm];simp
  ·rw [if_neg h1]at h
   exact axU _ (ih h)
theorem vN{l:List bl}(aB:gJ l){x:bl}(h:x∈l):fI l x.1=some x.2:=by
 induction l with
 |nil=>cases h
 |cons y l ih=>
  have av:=q6.1 aB
  rw [jH]
  rcases axA.1 h with rfl|h
  ·rw [if_pos rfl]
  ·rw [if_neg (by have:=av.1 x h;omega)];exact ih av.2 h
theorem Wd:∀{a b:List bl},gJ a->gJ b->(∀t,fI a t=fI b t)->a=b
 |[],[],_,_,_=>rfl
 |[],y::b,_,_,h=>by have:=h y.1;rw [r9,jH,if_pos rfl]at this;cases this
 |x::a,[],_,_,h=>by have:=h x.1;rw [r9,jH,if_pos rfl]at this;cases this
 |x::a,y::b,bW,al,h=>by
  have ha':=q6.1 bW
  have ff:=q6.1 al
  have r5:x.1=y.1:=by
   rcases aAJ x.1 y.1 with h1|h1|h1
   ·have:=h x.1
    rw [jH,if_pos rfl]at this
    have ab:fI (y::b) x.1=none:=sP.2 λz aE=>by
     rcases axA.1 aE with rfl|aE
     ·omega
     ·have:=ff.1 z aE;omega
    rw [ab]at this;cases this
   ·exact h1
   ·have:=h y.1
    rw [jH (x:=y),if_pos rfl]at this
    have ab:fI (x::a) y.1=none:=sP.2 λz aE=>by
     rcases axA.1 aE with rfl|aE
     ·omega
     ·have:=ha'.1 z aE;omega
    rw [ab]at this;cases this
  have aI:x.2=y.2:=by
   have:=h x.1
   rw [jH,if_pos rfl,jH,if_pos r5.symm]at this
   simpa using this
  have e:x=y:=Prod.ext r5 aI
  subst e
  rw [Wd ha'.2 ff.2 λt=>by
   by_cases aW:x.1=t
   ·subst aW
    rw [sP.2 λz aE=>by have:=ha'.1 z aE;omega,sP.2 λz aE=>by have:=ff.1 z aE;omega]
   ·have:=h t
    rw [jH,jH,if_neg aW,if_neg aW]at this;exact this]
theorem Cm:∀(a b:List bl) (t:Int),gJ a->gJ b->fI (jm a b) t=(fI b t).or (fI a t)
 |[],b,t,_,_=>by rw [Aa,r9];simp
 |x::a,[],t,_,_=>by rw [EZ,r9];rfl
 |x::a,y::b,t,bW,al=>by
  have ha':=q6.1 bW
  have ff:=q6.1 al
  rw [E0]
  split
  ·rename_i h
   rw [jH,Cm a (y::b) t ha'.2 al,jH x a]
   by_cases aW:x.1=t
   ·rw [if_pos aW,if_pos aW,sP.2 λz aE=>by
     rcases axA.1 aE with rfl|aE
     ·omega
     ·have:=ff.1 z aE;omega]
    rfl
   ·rw [if_neg aW,if_neg aW]
  ·split
   ·rename_i h ab
    rw [jH,Cm a b t ha'.2 ff.2,jH x a,jH y b]
    by_cases aW:y.1=t
    ·rw [if_pos aW,if_pos aW];rfl
    ·rw [if_neg aW,if_neg aW,if_neg (by omega)]
   ·rename_i h ab
    rw [jH,Cm (x::a) b t bW ff.2,jH y b]
    split<;>rfl
termination_by a b=>a.length+b.length
def vi(g f:List bl):Prop:=∃ys,fX ys/\eB g.reverse ys/\f=da ys
theorem NN:∀(l:List bl) (p:Int),fX l->(∀x∈l,p<=x.1)->∀x∈ky (some p) l,p<x.1
 |[],_,_,_,x,h=>by cases h
 |y::l,p,hs,aH,x,h=>by
  have cQ:=aAv.1 hs
  have h':x∈(if some p=some y.1 then ky (some y.1) l else y::ky (some y.1) l):=h
  split at h'
  ·rename_i e
   simp only [Option.some.injEq]at e
   subst e
   exact NN l _ cQ.2 (λz aE=>cQ.1 z aE) x h'
  ·rename_i e
   have aA:=aH y (by simp)
   have cP:p≠y.1:=λdp=>e (by rw [dp])
   rcases axA.1 h' with rfl|h'
   ·omega
   ·have:=NN l y.1 cQ.2 (λz aE=>cQ.1 z aE) x h'
    omega
theorem NO:∀(l:List bl) (p:Option Int),fX l->gJ (ky p l)
 |[],_,_=>gJ.nil
 |y::l,p,hs=>by
  have cQ:=aAv.1 hs
  show gJ (if p=some y.1 then ky (some y.1) l else y::ky (some y.1) l)
  split
  ·exact NO l _ cQ.2
  ·exact q6.2 ⟨NN l y.1 cQ.2 (λz aE=>cQ.1 z aE),NO l _ cQ.2⟩
theorem We:∀(l:List bl) (p:Option Int) (t:Int),fX l->(∀q,p=some q->∀x∈l,q<=x.1)->p≠some t->fI (ky p l) t=fI l t
 |[],_,_,_,_,_=>rfl
 |y::l,p,t,hs,aH,NP=>by
  have cQ:=aAv.1 hs
  show fI (if p=some y.1 then ky (some y.1) l else y::ky (some y.1) l) t=_
  have rest:y.1≠t->fI (ky (some y.1) l) t=fI l t:=λh=>We l (some y.1) t cQ.2 (λq e x aa=>by simp only [Option.some.injEq]at e;subst e;exact cQ.1 x aa) (λe=>h (by simpa using e))
  rw [jH]
  split
  ·rename_i e
   have cP:y.1≠t:=λdp=>NP (by rw [e,dp])
   rw [if_neg cP,rest cP]
  ·rw [jH]
   by_cases h:y.1=t
   ·rw [if_pos h,if_pos h]
   ·rw [if_neg h,if_neg h,rest h]
theorem Wf(l:List bl)(t:Int):fI l t=((l.filter λx=>decide (x.1=t)).head?).map (·.2):=by
 induction l with
 |nil=>rfl
 |cons x l ih=>
  rw [jH,axT]
  by_cases h:x.1=t
  ·rw [if_pos h,if_pos (by simpa using h)];rfl
  ·rw [if_neg h,if_neg (by simpa using h)];exact ih
theorem vi.AL{g f:List bl}(h:vi g f):gJ f:=by
 obtain⟨ys,h1,_,rfl⟩:=h
 exact NO ys none h1
theorem vi.val{g f:List bl}(h:vi g f)(t:Int):fI f t=fI g.reverse t:=by
 obtain⟨ys,h1,ab,rfl⟩:=h
 unfold da
 rw [We ys none t h1 (λq e=>by cases e) (by simp),Wf,Wf,ab t]
theorem vi.ne{g f:List bl}(h:vi g f)(ba:g≠[]):f≠[]:=by
 obtain⟨x,aa⟩:=aAy _ ba
 have h1:fI g.reverse x.1≠none:=λe=>sP.1 e x (by simpa using aa) rfl
 intro e
 subst e
 exact h1 (by rw [<-h.val];rfl)
abbrev bF:=Int×List bl
def cy(ss:List bF):Prop:=ss.Pairwise (λa b=>a.1<b.1)/\∀s∈ss,s.2≠[]/\gJ s.2
def fV(ss:List bF)(id t:Int):Option Int:=match ss with
 |[]=>none
 |s::ss=>if s.1=id then fI s.2 t else fV ss id t
theorem jh(s:bF)(ss:List bF)(id t:Int):fV (s::ss) id t=if s.1=id then fI s.2 t else fV ss id t:=rfl
theorem y1{ss:List bF}{id t:Int}(h:∀s∈ss,s.1≠id):fV ss id t=none:=by
 induction ss with
 |nil=>rfl
 |cons s ss ih=>rw [jh,if_neg (h s (by simp))];exact ih λx aa=>h x (by simp [aa])
theorem cy.nil:cy []:=⟨List.Pairwise.nil,λs h=>by cases h⟩
theorem cy.cons{s:bF}{ss:List bF}:cy (s::ss)↔(∀x∈ss,s.1<x.1)/\(s.2≠[]/\gJ s.2)/\cy ss:=by
 unfold cy
 rw [aAv]
 constructor
 ·rintro⟨⟨h1,ab⟩,ar⟩
  exact⟨h1,ar s (by simp),ab,λx aa=>ar x (by simp [aa])⟩
 ·rintro⟨h1,ab,ar,a7⟩
  refine⟨⟨h1,ar⟩,λx aa=> ?_⟩
  rcases axA.1 aa with rfl|aa
  ·exact ab
  ·exact a7 x aa
theorem A4:∀{a b:List bF},cy a->cy b->(∀id t,fV a id t=fV b id t)->a=b
 |[],[],_,_,_=>rfl
 |[],y::b,_,al,h=>by
  obtain⟨_,⟨h1,ab⟩,_⟩:=cy.cons.1 al
  obtain⟨x,aa⟩:=aAy _ h1
  have:=h y.1 x.1
  rw [jh,if_pos rfl,vN ab aa]at this
  cases this
 |x::a,[],bW,_,h=>by
  obtain⟨_,⟨h1,ab⟩,_⟩:=cy.cons.1 bW
  obtain⟨z,aE⟩:=aAy _ h1
  have:=h x.1 z.1
  rw [jh,if_pos rfl,vN ab aE]at this
  cases this
 |x::a,y::b,bW,al,h=>by
  obtain⟨cW,⟨a2,a3⟩,a4⟩:=cy.cons.1 bW
  obtain⟨b1,⟨bI,dz⟩,jy⟩:=cy.cons.1 al
  have r5:x.1=y.1:=by
   rcases aAJ x.1 y.1 with h1|h1|h1
   ·obtain⟨z,aE⟩:=aAy _ a2
    have:=h x.1 z.1
    rw [jh,if_pos rfl,vN a3 aE,y1 λs hs=>by
     rcases axA.1 hs with rfl|hs
     ·omega
     ·have:=b1 s hs;omega]at this
    cases this
   ·exact h1
   ·obtain⟨z,aE⟩:=aAy _ bI
    have:=h y.1 z.1
    rw [jh y,if_pos rfl,vN dz aE,y1 λs hs=>by
     rcases axA.1 hs with rfl|hs
     ·omega
     ·have:=cW s hs;omega]at this
    cases this
  have bZ:x.2=y.2:=Wd a3 dz λt=>by
   have:=h x.1 t
   rw [jh,if_pos rfl,jh,if_pos r5.symm]at this
   exact this
  have e:x=y:=Prod.ext r5 bZ
  subst e
  rw [A4 a4 jy λid t=>by
   by_cases az:x.1=id
   ·subst az
    rw [y1 λs hs=>by have:=cW s hs;omega,y1 λs hs=>by have:=b1 s hs;omega]
   ·have:=h id t
    rw [jh,jh,if_neg az,if_neg az]at this;exact this]
def wJ(x y:bF):Int:=jB x.1 y.1
theorem Wg{x y:Int}:jB x y=0↔x=y:=by unfold jB;split<;>(try split)<;>omega
theorem Cp{α:Type}{cf:α->α->Int}{z:α}:∀(a b:List α),z∈h2 cf a b->z∈a\/z∈b
 |[],b,h=>by rw [wH]at h;exact .inr h
 |x::a,[],h=>by rw [yu]at h;exact .inl h
 |x::a,y::b,h=>by
  rw [yv]at h
  split at h
  ·rcases axA.1 h with rfl|h
   ·exact .inl (by simp)
   ·exact(Cp a (y::b) h).elim (λh=>.inl (by simp [h])) .inr
  ·split at h
   ·rcases axA.1 h with rfl|h
    ·exact .inr (by simp)
    ·exact(Cp a b h).elim (λh=>.inl (by simp [h])) λh=>.inr (by simp [h])
   ·rcases axA.1 h with rfl|h
    ·exact .inr (by simp)
    ·exact(Cp (x::a) b h).elim .inl λh=>.inr (by simp [h])
termination_by a b=>a.length+b.length
theorem I5:∀{a b:List bF},cy a->cy b->cy (h2 wJ a b)/\∀id t,fV (h2 wJ a b) id t=if∃s∈b,s.1=id then fV b id t else fV a id t
 |[],b,bW,al=>by
  rw [wH]
  refine⟨al,λid t=> ?_⟩
  split
  ·rfl
  ·rename_i h
   exact y1 λs hs e=>h ⟨s,hs,e⟩
 |x::a,[],bW,al=>by
  rw [yu]
  exact⟨bW,λid t=>by rw [if_neg (by simp)]⟩
 |x::a,y::b,bW,al=>by
  obtain⟨cW,a2,a4⟩:=cy.cons.1 bW
  obtain⟨b1,bI,jy⟩:=cy.cons.1 al
  rw [yv]
  by_cases h1:wJ x y<0
  ·have fc:x.1<y.1:=ox.1 h1
   rw [if_pos h1]
   obtain⟨fB,gj⟩:=I5 a4 al
   refine⟨cy.cons.2 ⟨λz aE=> ?_,a2,fB⟩,λid t=> ?_⟩
   ·rcases Cp _ _ aE with aE|aE
    ·exact cW z aE
    ·rcases axA.1 aE with rfl|aE
     ·exact fc
     ·have:=b1 z aE;omega
   ·rw [jh,gj,jh x a]
    by_cases az:x.1=id
    ·have cq:¬∃s∈y::b,s.1=id:=by
      rintro⟨s,hs,e⟩
      rcases axA.1 hs with rfl|hs
      ·omega
      ·have:=b1 s hs;omega
     rw [if_pos az,if_neg cq,if_pos az]
    ·rw [if_neg az,if_neg az]
  ·rw [if_neg h1]
   have fc:¬x.1<y.1:=λh=>h1 (ox.2 h)
   by_cases ab:wJ x y=0
   ·have gF:x.1=y.1:=Wg.1 ab
    rw [if_pos ab]
    obtain⟨fB,gj⟩:=I5 a4 jy
    refine⟨cy.cons.2 ⟨λz aE=> ?_,bI,fB⟩,λid t=> ?_⟩
    ·rcases Cp _ _ aE with aE|aE
     ·have:=cW z aE;omega
     ·exact b1 z aE
    ·rw [jh,gj]
     by_cases az:y.1=id
     ·rw [if_pos az,if_pos ⟨y,by simp,az⟩,jh,if_pos az]
     ·rw [if_neg az,jh y b,if_neg az,jh x a,if_neg (show¬x.1=id by omega)]
      by_cases he:∃s∈b,s.1=id
      ·obtain⟨s,hs,e⟩:=he
       rw [if_pos ⟨s,hs,e⟩,if_pos ⟨s,by simp [hs],e⟩]
      ·rw [if_neg he,if_neg]
       rintro⟨s,hs,e⟩
       rcases axA.1 hs with rfl|hs
       ·exact az e
       ·exact he ⟨s,hs,e⟩
   ·rw [if_neg ab]
    have gF:y.1<x.1:=by
     have:x.1≠y.1:=λe=>ab (Wg.2 e)
     omega
    obtain⟨fB,gj⟩:=I5 bW jy
    refine⟨cy.cons.2 ⟨λz aE=> ?_,bI,fB⟩,λid t=> ?_⟩
    ·rcases Cp _ _ aE with aE|aE
     ·rcases axA.1 aE with rfl|aE
      ·exact gF
      ·have:=cW z aE;omega
     ·exact b1 z aE
    ·rw [jh,gj]
     by_cases az:y.1=id
     ·rw [if_pos az,if_pos ⟨y,by simp,az⟩,jh,if_pos az]
     ·rw [if_neg az,jh y b,if_neg az]
      by_cases he:∃s∈b,s.1=id
      ·obtain⟨s,hs,e⟩:=he
       rw [if_pos ⟨s,hs,e⟩,if_pos ⟨s,by simp [hs],e⟩]
      ·rw [if_neg he,if_neg]
       rintro⟨s,hs,e⟩
       rcases axA.1 hs with rfl|hs
       ·exact az e
       ·exact he ⟨s,hs,e⟩
termination_by a b=>a.length+b.length
def eK(ss:List bF)(x:dr):List bF:=match ss with
 |[]=>[(x.2.1,[(x.1,x.2.2)])]
 |s::ss=>if x.2.1<s.1 then(x.2.1,[(x.1,x.2.2)])::s::ss else if s.1=x.2.1 then(s.1,jm s.2 [(x.1,x.2.2)])::ss else s::eK ss x
theorem Fg(x:bl):gJ [x]:=by simp [gJ]
theorem V8{a b:List bl}(al:b≠[])(bW:gJ a)(ff:gJ b):jm a b≠[]:=by
 obtain⟨x,aa⟩:=aAy _ al
 intro e
 have:=Cm a b x.1 bW ff
 rw [e,r9,vN ff aa]at this
 cases this
theorem Wh{x:dr}{z:bF}:∀{ss:List bF},z∈eK ss x->z.1=x.2.1\/z∈ss
 |[],h=>by simp [eK]at h;subst h;exact .inl rfl
 |s::ss,h=>by
  unfold eK at h
  split at h
  ·rcases axA.1 h with rfl|h
   ·exact .inl rfl
   ·exact .inr h
  ·split at h
   ·rename_i e
    rcases axA.1 h with rfl|h
    ·exact .inl e
    ·exact .inr (by simp [h])
   ·rcases axA.1 h with rfl|h
    ·exact .inr (by simp)
    ·exact(Wh h).imp id λh=>by simp [h]
theorem um{x:dr}:∀{ss:List bF},cy ss->cy (eK ss x)/\∀id t,fV (eK ss x) id t=if x.2.1=id/\x.1=t then some x.2.2 else fV ss id t
 |[],_=>by
  refine⟨cy.cons.2 ⟨by simp,⟨by simp,Fg _⟩,cy.nil⟩,λid t=> ?_⟩
  show(if x.2.1=id then fI [(x.1,x.2.2)] t else none)=_
  rw [jH,r9]
  by_cases h1:x.2.1=id<;>by_cases ab:x.1=t<;>simp [h1,ab,fV]
 |s::ss,h=>by
  obtain⟨cW,a2,a4⟩:=cy.cons.1 h
  unfold eK
  split
  ·rename_i h1
   refine⟨cy.cons.2 ⟨λz aE=> ?_,⟨by simp,Fg _⟩,h⟩,λid t=> ?_⟩
   ·show x.2.1<z.1
    rcases axA.1 aE with rfl|aE
    ·exact h1
    ·have:=cW z aE;omega
   ·rw [jh,jH,r9]
    by_cases ab:x.2.1=id
    ·subst ab
     rw [if_pos rfl]
     have:fV (s::ss) x.2.1 t=none:=y1 λz aE=>by
      rcases axA.1 aE with rfl|aE
      ·omega
      ·have:=cW z aE;omega
     rw [this];simp
    ·rw [if_neg ab];simp [ab]
  ·split
   ·rename_i h1 ab
    refine⟨cy.cons.2 ⟨cW,⟨V8 (by simp) a2.2 (Fg _),Fb _ _ a2.2 (Fg _)⟩,a4⟩,λid t=> ?_⟩
    rw [jh,jh]
    show(if s.1=id then fI (jm s.2 [(x.1,x.2.2)]) t else fV ss id t)=_
    rw [Cm _ _ _ a2.2 (Fg _),jH,r9]
    by_cases ar:s.1=id
    ·have a7:x.2.1=id:=by omega
     rw [if_pos ar,if_pos ar]
     by_cases bs:x.1=t
     ·rw [if_pos bs,if_pos ⟨a7,bs⟩];rfl
     ·rw [if_neg bs,if_neg (λh=>bs h.2)];rfl
    ·rw [if_neg ar,if_neg ar,if_neg (λh=>ar (by omega))]
   ·rename_i h1 ab
    obtain⟨fB,gj⟩:=um (x:=x) a4
    refine⟨cy.cons.2 ⟨λz aE=> ?_,a2,fB⟩,λid t=> ?_⟩
    ·rcases Wh aE with e|aE
     ·omega
     ·exact cW z aE
    ·rw [jh,jh,gj]
     by_cases ar:s.1=id
     ·rw [if_pos ar,if_pos ar,if_neg (λh=>ab (by omega))]
     ·rw [if_neg ar,if_neg ar]
def cL(ss:List bF)(rows:List dr):List bF:=rows.foldl eK ss
def jg(rows:List dr)(id:Int):List bl:=(rows.filter λx=>decide (x.2.1=id)).map λx=>(x.1,x.2.2)
theorem amK(x:dr)(rows:List dr)(id:Int):jg (x::rows) id=if x.2.1=id then(x.1,x.2.2)::jg rows id else jg rows id:=by
 unfold jg
 rw [axT]
 by_cases h:x.2.1=id
 ·rw [if_pos h,if_pos (by simpa using h)];rfl
 ·rw [if_neg h,if_neg (by simpa using h)]
theorem V7(x:dr)(rows:List dr)(id:Int):jg (rows++[x]) id=jg rows id++if x.2.1=id then [(x.1,x.2.2)]else []:=by
 unfold jg
 rw [aAf,azj,axT]
 by_cases h:x.2.1=id
 ·rw [if_pos h,if_pos (by simpa using h)];rfl
 ·rw [if_neg h,if_neg (by simpa using h)];rfl
theorem y0:∀{rows:List dr} {ss:List bF},cy ss->cy (cL ss rows)/\∀id t,fV (cL ss rows) id t=(fI (jg rows id).reverse t).or (fV ss id t)
 |[],ss,h=>⟨h,λid t=>rfl⟩
 |x::rows,ss,h=>by
  obtain⟨fB,gj⟩:=um (x:=x) h
  obtain⟨ca,b0⟩:=y0 (rows:=rows) fB
  refine⟨ca,λid t=> ?_⟩
  show fV (cL (eK ss x) rows) id t=_
  rw [b0,gj,amK]
  by_cases h1:x.2.1=id
  ·rw [if_pos h1,List.reverse_cons,amJ,jH,r9]
   by_cases ab:x.1=t
   ·rw [if_pos ⟨h1,ab⟩,if_pos ab]
    cases fI (jg rows id).reverse t<;>rfl
   ·rw [if_neg (λh=>ab h.2),if_neg ab]
    cases fI (jg rows id).reverse t<;>rfl
  ·rw [if_neg h1,if_neg (λh=>h1 h.1)]
theorem put_eq{ss more:List bF}{rows:List dr}(hs:cy ss)(hm:cy more)(hk:∀id,(∃s∈more,s.1=id)↔jg rows id≠[])
  (aI:∀s∈more,∀t,fI s.2 t=(fI (jg rows s.1).reverse t).or (fV ss s.1 t)):h2 wJ ss more=cL ss rows:=by
 obtain⟨fB,gj⟩:=I5 hs hm
 obtain⟨ca,b0⟩:=y0 (rows:=rows) hs
 refine A4 fB ca λid t=> ?_
 rw [gj,b0]
 by_cases h:∃s∈more,s.1=id
 ·rw [if_pos h]
  obtain⟨s,o9,rfl⟩:=h
  rw [<-aI s o9 t]
  have:∀{l:List bF},cy l->s∈l->fV l s.1 t=fI s.2 t:=by
   intro l
   induction l with
   |nil=>intro _ h;cases h
   |cons y l ih=>
    intro aG h
    obtain⟨cW,_,a4⟩:=cy.cons.1 aG
    rw [jh]
    rcases axA.1 h with rfl|h
    ·rw [if_pos rfl]
    ·rw [if_neg (by have:=cW s h;omega)];exact ih a4 h
  exact this hm o9
 ·rw [if_neg h]
  have:jg rows id=[]:=Classical.byContradiction λh'=>h ((hk id).2 h')
  rw [this];rfl
inductive dd{α β:Type}(R:α->β->Prop):List α->List β->Prop
 |nil:dd R [] []
 |cons {x y xs ys}:R x y->dd R xs ys->dd R (x::xs) (y::ys)
section
variable{α β:Type}{R:α->β->Prop}
theorem dd.len{xs:List α}{ys:List β}(h:dd R xs ys):xs.length=ys.length:=by
 induction h with
 |nil=>rfl
 |cons _ _ ih=>simp [ih]
theorem dd.mono{mZ:α->β->Prop}{xs:List α}{ys:List β}(h:dd R xs ys)(aB:∀x y,x∈xs->y∈ys->R x y->mZ x y):dd mZ xs ys:=by
 induction h with
 |nil=>exact .nil
 |cons h1 _ ih=>exact .cons (aB _ _ (by simp) (by simp) h1) (ih λx y aa aA=>aB x y (by simp [aa]) (by simp [aA]))
theorem dd.app{xs oH:List α}{ys ph:List β}(h:dd R xs ys)(h':dd R oH ph):dd R (xs++oH) (ys++ph):=by
 induction h with
 |nil=>exact h'
 |cons h1 _ ih=>exact .cons h1 ih
theorem dd.get{xs:List α}{ys:List β}(h:dd R xs ys){i:Nat}{x:α}(aa:xs[i]?=some x):∃y,ys[i]?=some y/\R x y:=by
 induction h generalizing i with
 |nil=>simp at aa
 |cons h1 _ ih=>
  cases i with
  |zero=>simp at aa;subst aa;exact⟨_,rfl,h1⟩
  |succ i=>simp at aa;simpa using ih aa
theorem dd.get'{xs:List α}{ys:List β}(h:dd R xs ys){i:Nat}{y:β}(aA:ys[i]?=some y):∃x,xs[i]?=some x/\R x y:=by
 induction h generalizing i with
 |nil=>simp at aA
 |cons h1 _ ih=>
  cases i with
  |zero=>simp at aA;subst aA;exact⟨_,rfl,h1⟩
  |succ i=>simp at aA;simpa using ih aA
theorem dd.set{xs:List α}{ys:List β}(h:dd R xs ys){i:Nat}{x:α}{y:β}(aB:R x y):dd R (xs.set i x) (ys.set i y):=by
 induction h generalizing i with
 |nil=>exact .nil
 |cons h1 ab ih=>
  cases i with
  |zero=>exact .cons aB ab
  |succ i=>exact .cons h1 ih
theorem dd.mem{xs:List α}{ys:List β}(h:dd R xs ys){x:α}(aa:x∈xs):∃y∈ys,R x y:=by
 obtain⟨i,az⟩:=aAw aa
 obtain⟨y,aA,aB⟩:=h.get az
 exact⟨y,azR aA,aB⟩
theorem dd.E8{xs:List α}{ys:List β}(h:dd R xs ys){y:β}(aA:y∈ys):∃x∈xs,R x y:=by
 obtain⟨i,az⟩:=aAw aA
 obtain⟨x,aa,aB⟩:=h.get' az
 exact⟨x,azR aa,aB⟩
end
theorem dd.perm{α β:Type}{R:α->β->Prop}:∀{xs oH:List α} {ys:List β},oH.Perm xs->dd R xs ys->∃ph,ph.Perm ys/\dd R oH ph:=by
 intro xs oH ys aH
 induction aH generalizing ys with
 |nil=>intro h;exact⟨ys,List.Perm.refl _,h⟩
 |cons x _ ih=>
  intro h
  cases h with
  |cons h1 ab=>
   obtain⟨ph,p,q⟩:=ih ab
   exact⟨_::ph,List.Perm.cons _ p,.cons h1 q⟩
 |swap x y l=>
  intro h
  cases h with
  |cons h1 ab=>
   cases ab with
   |cons ar a7=>exact⟨_,List.Perm.swap _ _ _,.cons ar (.cons h1 a7)⟩
 |trans _ _ al' ama=>
  intro h
  obtain⟨awi,eY,ca⟩:=ama h
  obtain⟨amb,fR,b0⟩:=al' ca
  exact⟨amb,fR.trans eY,b0⟩
def kC(H:U)(x:aS)(s:bF):Prop:=x.1=s.1/\bt encS H x.2.1 x.2.2.1 x.2.2.2 s.2
def eG(H:U)(hs:List aS)(ss:List bF):Prop:=dd (kC H) hs ss
theorem eG.ag{hs:List aS}{ss:List bF}(h:eG H hs ss)(ai:Fr [] H H'):eG H' hs ss:=dd.mono h λx y _ _ aB=>⟨aB.1,aB.2.ag ai⟩
theorem eG.merge:∀{hs cQ:List aS} {ss q3:List bF},eG H hs ss->eG H cQ q3->eG H (h2 lI hs cQ) (h2 wJ ss q3)
 |[],cQ,ss,q3,h,h'=>by
  cases h
  rw [wH,wH];exact h'
 |x::hs,[],ss,q3,h,h'=>by
  cases h'
  rw [yu,yu];exact h
 |x::hs,y::cQ,ss,q3,h,h'=>by
  cases h with
  |cons h1 ab=>
   cases h' with
   |cons fc gF=>
    rename_i s ss s' q3
    have e:lI x y=wJ s s':=by unfold lI wJ;rw [h1.1,fc.1]
    rw [yv,yv,e]
    split
    ·exact .cons h1 (eG.merge ab (.cons fc gF))
    ·split
     ·exact .cons fc (eG.merge ab gF)
     ·exact .cons fc (eG.merge (.cons h1 ab) gF)
termination_by hs cQ=>hs.length+cQ.length
theorem eG.amc{hs:List aS}{ss:List bF}(h:eG H hs ss)(aB:ss.Pairwise λa b=>a.1<b.1):hs.Pairwise λa b=>a.1<b.1:=by
 induction h with
 |nil=>exact List.Pairwise.nil
 |cons h1 ab ih=>
  have ks:=aAv.1 aB
  refine aAv.2 ⟨λx aa=> ?_,ih ks.2⟩
  obtain⟨y,aA,e⟩:=dd.mem ab aa
  rw [h1.1,e.1];exact ks.1 y aA
noncomputable abbrev du:nf azB 3 Int:=TS Tryz.underlying3
theorem NC:Tryz.prog.underlying 235=some (.map 3 55):=Tryz.underlying235
theorem amd:zeroOf azB 55=some (.slice none 0 0):=by kernel_rfl
structure qp(H:U)(base r:Nat)(L:List (cR Int))(G:Int->List bl):Prop where
 hb:∀id v,dm id L=some v->∃a n c,v=.slice a n c/\Own encS 111 base H a n c (G id)/\G id≠[]/\r∉an a
 gd:∀id ND a n c aV bn bg,id≠ND->dm id L=some (.slice a n c)->dm ND L=some (.slice aV bn bg)->er (an a) (an aV)
 no:∀id,dm id L=none->G id=[]
theorem qp.start(H:U)(base r:Nat):qp H base r [] (λ_=>[]):=⟨λid v h=>(by simp [dm]at h),λid ND a n c aV bn bg _ h=>(by simp [dm]at h),λ_ _=>rfl⟩
theorem _root_.Go.bk.Own.Af{α:Type}{E:di α}{t:TypeId}{base:Nat}{xs:List α}(h:Own E t base H a n c xs):∀k∈an a,k<H.size:=λk hk=>(h.ge k hk).2
theorem kR{α:Type}{E:di α}{t:TypeId}{base:Nat}{xs:List α}{S:List Nat}(h:Own E t base H a n c xs)(ai:Fr S H H')(aR:er (an a) S):Own E t base H' a n c xs:=
 h.af ai λaC e=>aR aC.block (by subst e;simp [an])
theorem E9{α:Type}{E:di α}{xs:List α}{S:List Nat}(h:bt E H a n c xs)(ai:Fr S H H')(aR:er (an a) S):bt E H' a n c xs:=
 h.af ai λaC e=>aR aC.block (by subst e;simp [an])
theorem qp.put{dn:U}{base ck:Nat}{L:List (cR Int)}{G:Int->List bl}{id:Int}{aV:Option Addr}{bn bg:Nat}{x:bl}{S:List Nat}(h:qp H base r L G)
  (ai:Fr S H H') (bB:∀a n c,dm id L=some (.slice a n c)->S=an a) (sX:dm id L=none->S=[]) (aw:Own encS 111 base H' aV bn bg (G id++[x])) (aB:r<H.size)
  (ba:Grow H S (an aV)) (bG:Fr [r] H' dn):qp dn base r (oq id (.slice aV bn bg) ck L) (λj=>if j=id then G id++[x]else G j):=by
 have Dd:r∉an aV:=λhk=>by
  rcases ba r hk with h1|h1
  ·cases aG:dm id L with
   |none=>rw [sX aG]at h1;cases h1
   |some v=>
    obtain⟨a,n,c,rfl,_,_,a7⟩:=h.hb id v aG
    rw [bB a n c aG]at h1;exact a7 h1
  ·omega
 have V2:∀j a n c,j≠id->dm j L=some (.slice a n c)->er (an a) S:=λj a n c bq aG=>by
  cases xM:dm id L with
  |none=>rw [sX xM];exact λ_ _=>by simp
  |some v=>
   obtain⟨a2,cz,c2,rfl,_,_,_⟩:=h.hb id v xM
   rw [bB a2 cz c2 xM];exact h.gd j id a n c a2 cz c2 bq aG xM
 have V3:∀j a n c,j≠id->dm j L=some (.slice a n c)->er (an a) (an aV):=λj a n c bq aG k hk dc=>by
  rcases ba k dc with h1|h1
  ·exact V2 j a n c bq aG k hk h1
  ·obtain⟨_,_,_,e,ab,_⟩:=h.hb j _ aG
   cases e
   have:=ab.Af k hk;omega
 refine⟨λj v bq=> ?_,λj dD a n c a2 cz c2 cP bq kO=> ?_,λj bq=> ?_⟩
 ·rw [sC]at bq
  by_cases e:j=id
  ·subst e
   rw [if_pos rfl]at bq
   cases bq
   rw [if_pos rfl]
   exact⟨_,_,_,rfl,kR aw bG (λk hk dc=>by simp at dc;subst dc;exact Dd hk),by simp,Dd⟩
  ·rw [if_neg e]at bq
   rw [if_neg e]
   obtain⟨a,n,c,rfl,ab,ar,a7⟩:=h.hb j v bq
   exact⟨a,n,c,rfl,kR (kR ab ai (V2 j a n c e bq)) bG (λk hk dc=>by simp at dc;subst dc;exact a7 hk),ar,a7⟩
 ·rw [sC]at bq kO
  by_cases e:j=id
  ·subst e
   rw [if_pos rfl]at bq
   cases bq
   rw [if_neg (λe=>cP e.symm)]at kO
   exact(V3 dD a2 cz c2 (λe=>cP e.symm) kO).symm
  ·rw [if_neg e]at bq
   by_cases dp:dD=id
   ·subst dp
    rw [if_pos rfl]at kO
    cases kO
    exact V3 j a n c e bq
   ·rw [if_neg dp]at kO
    exact h.gd j dD a n c a2 cz c2 cP bq kO
 ·rw [sC]at bq
  by_cases e:j=id
  ·rw [if_pos e]at bq;cases bq
  ·rw [if_neg e]at bq
   rw [if_neg e];exact h.no j bq
theorem qp.ext{base:Nat}{L:List (cR Int)}{G A9:Int->List bl}(h:qp H base r L G)(e:∀j,G j=A9 j):qp H base r L A9:=by
 have:G=A9:=funext e
 subst this;exact h
theorem qp.ag{base:Nat}{L:List (cR Int)}{G:Int->List bl}(h:qp H base r L G)(ai:Fr [] H H'):qp H' base r L G:=
 ⟨λid v aI=>by obtain⟨a,n,c,e,ab,ar,a7⟩:=h.hb id v aI;exact⟨a,n,c,e,ab.ag ai,ar,a7⟩,h.gd,h.no⟩
def mJ(L:List (cR Int))(id:Int):Option Addr:=match dm id L with|some (.slice a _ _)=>a|_=>none
theorem I0{L:List (cR Int)}{id:Int}(h:dm id L=some (.slice a n c)):mJ L id=a:=by unfold mJ;rw [h]
structure wK(H:U)(base r it ck:Nat)(L:List (cR Int))(G:Int->List bl)(seen:Array Nat)(ad:Option Addr)(l c:Nat)(ms:List aS)(ss:List bF):Prop where
 map:dN du H r ck L
 itr:H[it]?=some (.mapIter (some r) ck seen ck)
 un:∀e∈L,e.2.2∉seen->∃n c,e.2.1=.slice (mJ L e.1) n c/\Own encS 111 base H (mJ L e.1) n c (G e.1)
 msr:dd (λm s=>m.1=s.1/\m.2.1=mJ L m.1/\Own encS 111 base H m.2.1 m.2.2.1 m.2.2.2 s.2/\vi (G m.1) s.2) ms ss
 key:∀id,(∃m∈ms,m.1=id)↔∃e∈L,e.1=id/\e.2.2∈seen
 fL:(ms.map (·.1)).Nodup
 q4:Own dM 57 base H ad l c ms
 hA:∀e∈L,er (an ad) (an (mJ L e.1))
 gd:∀e∈L,∀dp∈L,e.1≠dp.1->er (an (mJ L e.1)) (an (mJ L dp.1))
 ro:r∉an ad/\it∉an ad/\r≠it
 jd:∀e∈L,r∉an (mJ L e.1)/\it∉an (mJ L e.1)
 ne:∀e∈L,G e.1≠[]
theorem wK.start{base it ck:Nat}{L:List (cR Int)}{G:Int->List bl}(h:qp H base r L G)(hm:dN du H r ck L)(ay:dV H it (.mapIter (some r) ck #[] ck) H'):wK H' base r it ck L G #[] none 0 0 [] []:=by
 have az:=ay.eq
 have ba:∀e∈L,∃a n c,e.2.1=.slice a n c/\dm e.1 L=some (.slice a n c)/\Own encS 111 base H a n c (G e.1)/\G e.1≠[]/\r∉an a:=λe he=>by
  have h1:=Mr hm.wf (k:=e.1) (v:=e.2.1) (b:=e.2.2) he
  obtain⟨a,n,c,aL,ab,ar,a7⟩:=h.hb _ _ h1
  exact⟨a,n,c,aL,by rw [<-aL];exact h1,ab,ar,a7⟩
 refine⟨hm.ag du ay.af,ay.get,λe he _=> ?_,.nil,λid=>by simp,by simp,Own.nil _ _ _ _,λe _ k hk=>by simp [an]at hk,λe he dp iH cP=> ?_,⟨by simp [an],by simp [an],by have:=hm.lt;omega⟩,λe he=> ?_,λe he=> ?_⟩
 ·obtain⟨a,n,c,aL,a',ab,_⟩:=ba e he
  rw [I0 a']
  exact⟨n,c,aL,ab.ag ay.af⟩
 ·obtain⟨a,n,c,_,a',_⟩:=ba e he
  obtain⟨aV,bn,bg,_,V4,_⟩:=ba dp iH
  rw [I0 a',I0 V4]
  exact h.gd _ _ _ _ _ _ _ _ cP a' V4
 ·obtain⟨a,n,c,_,a',ab,_,a7⟩:=ba e he
  rw [I0 a']
  exact⟨a7,λhk=>by have:=ab.Af it hk;omega⟩
 ·obtain⟨a,n,c,_,a',ab,ar,a7⟩:=ba e he
  exact ar
theorem wK.step{H1 a8 bA ct:U}{base it ck:Nat}{L:List (cR Int)}{G:Int->List bl}{seen:Array Nat}{ad:Option Addr}{l:Nat}{ms:List aS}{ss:List bF}{e:cR Int}{bn bg:Nat}{f:List bl}{l':Option Addr}{fG d':Nat}
  (h:wK H base r it ck L G seen ad l c ms ss) (he:e∈L) (gY:e.2.2∉seen) (az:H1[it]?=some (.mapIter (some r) ck (seen.push e.2.2) ck)) (cv:Fr [it] H H1) (bG:Fr (an (mJ L e.1)) H1 a8)
  (gg:Own encS 111 base a8 (mJ L e.1) bn bg f) (bS:vi (G e.1) f) (cb:Fr [] a8 bA) (hf:Own dM 57 base ct l' fG d' (ms++[(e.1,(mJ L e.1,bn,bg))])) (de:Fr (an ad) bA ct) (ba:Grow bA (an ad) (an l')):
  wK ct base r it ck L G (seen.push e.2.2) l' fG d' (ms++[(e.1,(mJ L e.1,bn,bg))]) (ss++[(e.1,f)]):=by
 have hw:=h.map.wf
 have s1:=cv.size
 have s2:=bG.size
 have HZ:=cb.size
 have hit:it<H.size:=km h.itr
 have aB:r<H.size:=h.map.lt
 have fB:r∉an (mJ L e.1):=(h.jd e he).1
 have i1:it∉an (mJ L e.1):=(h.jd e he).2
 have own:∀{a:Option Addr} {p q:Nat} {xs:List bl},Own encS 111 base H a p q xs->it∉an a->er (an a) (an (mJ L e.1))->er (an ad) (an a)->Own encS 111 base ct a p q xs:=λaw h1 ab ar=>
  kR ((kR (kR aw cv (λk hk dc=>by simp at dc;subst dc;exact h1 hk)) bG ab).ag cb) de ar.symm
 have ame:∀dp∈L,dp.2.2≠e.2.2->dp.1≠e.1:=λdp iH cP hk=>cP (by rw [Ei hw iH he hk])
 have amf:∀{T:List Nat},er (an ad) T->(∀k∈T,k<bA.size)->er (an l') T:=λaR cd k hk dc=>by
  rcases ba k hk with h1|h1
  ·exact aR k h1 dc
  ·have:=cd k dc;omega
 refine⟨((h.map.af du cv (by simp;exact h.ro.2.2)).af du bG fB|>.ag du cb).af du de h.ro.1,?_,λdp iH I1=> ?_,?_,λid=> ?_,?_,hf,λdp iH=> ?_,h.gd,⟨?_,?_,h.ro.2.2⟩,h.jd,h.ne⟩
 ·exact de.get (cb.vE (bG.get az i1)) h.ro.2.1
 ·have cP:dp.2.2≠e.2.2:=λhk=>I1 (by rw [hk];simp)
  have amg:dp.2.2∉seen:=λhk=>I1 (by simp [hk])
  obtain⟨n,c,aL,ab⟩:=h.un dp iH amg
  exact⟨n,c,aL,own ab (h.jd dp iH).2 (h.gd dp iH e he (ame dp iH cP)) (h.hA dp iH)⟩
 ·refine(h.msr.mono λm s hm hs cp=> ?_).app (.cons ⟨rfl,rfl,kR (gg.ag cb) de (h.hA e he).symm,bS⟩ .nil)
  obtain⟨g1,g2,g3,g4⟩:=cp
  obtain⟨dp,iH,hk,cQ⟩:=(h.key m.1).1 ⟨m,hm,rfl⟩
  have cP:dp.1≠e.1:=λdc=>gY (by rw [<-Ei hw iH he dc];exact cQ)
  refine⟨g1,g2,own g3 ?_ ?_ ?_,g4⟩
  ·rw [g2,<-hk];exact(h.jd dp iH).2
  ·rw [g2,<-hk];exact h.gd dp iH e he cP
  ·rw [g2,<-hk];exact h.hA dp iH
 ·constructor
  ·rintro⟨m,hm,rfl⟩
   rcases azb.1 hm with hm|hm
   ·obtain⟨dp,iH,hk,cQ⟩:=(h.key m.1).1 ⟨m,hm,rfl⟩
    exact⟨dp,iH,hk,by simp [cQ]⟩
   ·simp at hm;subst hm
    exact⟨e,he,rfl,by simp⟩
  ·rintro⟨dp,iH,rfl,cQ⟩
   by_cases hk:dp.2.2=e.2.2
   ·have:=Ma hw iH he hk
    subst this
    exact⟨_,List.mem_append_right _ (ayw.2 rfl),rfl⟩
   ·have mh:dp.2.2∈seen:=by simpa [hk]using cQ
    obtain⟨m,hm,dc⟩:=(h.key dp.1).2 ⟨dp,iH,rfl,mh⟩
    exact⟨m,List.mem_append_left _ hm,dc⟩
 ·rw [azj,List.nodup_append]
  refine⟨h.fL,by simp,λa bW b al oj=> ?_⟩
  simp at al
  subst al
  obtain⟨m,hm,hk⟩:=ayf.1 bW
  obtain⟨dp,iH,dc,cQ⟩:=(h.key m.1).1 ⟨m,hm,rfl⟩
  exact gY (by rw [<-Ei hw iH he (by rw [dc,hk,oj])];exact cQ)
 ·refine amf (h.hA dp iH) λk hk=> ?_
  by_cases cQ:dp.2.2∈seen
  ·obtain⟨m,hm,dc⟩:=(h.key dp.1).2 ⟨dp,iH,rfl,cQ⟩
   obtain⟨s,_,g1,g2,g3,_⟩:=h.msr.mem hm
   rw [<-dc,<-g2]at hk
   have:=g3.Af k hk;omega
  ·obtain⟨_,_,_,ab⟩:=h.un dp iH cQ
   have:=ab.Af k hk;omega
 ·intro hk
  rcases ba r hk with h1|h1
  ·exact h.ro.1 h1
  ·omega
 ·intro hk
  rcases ba it hk with h1|h1
  ·exact h.ro.2.1 h1
  ·omega
end Go.Proofs.aS
section
open Go.Proofs Go.Shelf Go.Sort
namespace Go.bk
section
variable{α:Type}[Inhabited α]
theorem YN(E:di α)(d:Array α):(flatK E.cells E.sz d).toList=d.toList.flatMap E.cells:=by
 apply ayK
 intro t
 have aH:=E.pos
 by_cases aW:t<d.size*E.sz
 ·have h1:t/E.sz<d.size:=by
   rw [Nat.div_lt_iff_lt_mul aH];exact aW
  have ab:t % E.sz<E.sz:=Nat.mod_lt _ aH
  have aa:d.toList[t/E.sz]?=some d[t/E.sz]! :=by
   rw [aAC,getElem!_pos d _ h1];simp [h1]
  have aI:(E.cells d[t/E.sz]!)[t % E.sz]?=some (E.cells d[t/E.sz]!)[t % E.sz]! :=by
   have:t % E.sz<(E.cells d[t/E.sz]!).length:=by rw [E.len];exact ab
   rw [getElem!_pos (E.cells d[t/E.sz]!) (t % E.sz) this];simp [this]
  have ar:=x9 E d.toList (t/E.sz) _ aa (t % E.sz) _ aI
  rw [Nat.mul_comm,Nat.div_add_mod]at ar
  rw [ar,<-get_flatK E.cells E.sz d t aW]
  have a7:t<(flatK E.cells E.sz d).size:=by rw [size_flatK];exact aW
  rw [aAC,getElem!_pos (flatK E.cells E.sz d) t a7]
  simp
 ·rw [ayL (by rw [axM,size_flatK];omega),ayL (by rw [s3,axM];omega)]
theorem grown_of{E:Env}{H:U}{d:kK E}(W:World)(kI:W.heap.size<=H.size)(ai:Fr [] W.heap H)(h1:E.tape=W.tape)(ab:E.os=W.os)(ar:E.output=W.output)(a7:W.drawn<=d.1):∃q atb,bf E H d=grow (W.drewN q) atb:=by
 refine⟨d.1-W.drawn,H.extract W.heap.size H.size,?_⟩
 have hH:H=W.heap++H.extract W.heap.size H.size:=by
  apply Array.ext_getElem?
  intro i
  by_cases az:i<W.heap.size
  ·rw [aAO az]
   exact ai.block i az (by simp)
  ·rw [Array.getElem?_append_right (by omega),Array.getElem?_extract]
   by_cases bs:i<H.size
   ·rw [if_pos (by omega)]
    congr 1;omega
   ·rw [if_neg (by omega),Array.getElem?_eq_none (by omega)]
 unfold bf grow World.drewN
 have aR:W.drawn+(d.1-W.drawn)=d.1:=by omega
 simp only [aR,<-hH,h1,ab,ar]
theorem amn{P:Program}{l6:Ren}(L:SlLaysF0.n6 P l6){kf g:FuncId}(tP:l6.f 6=kf){E:di α}{t:TypeId}(aW:l6.t 24=t)(atc:q' P t=true)(atd:∃d,P.underlying t=some d)(dF:hy P t=E.sz)(CI:(P.info? t).isSome=true)
  (cf:α->α->Int) (hO:SWO (ltOf cf)) (KP:∀args w,(callFunc g args).run P w=.ok (.enter g args) w)
  (av:∀(x y:α) (H:U) (K:Int->U->Prop),(∀H',Fr [] H H'->K (cf x y) H')->fo P g ⟨[.agg ⟨E.cells x⟩,.agg ⟨E.cells y⟩]⟩ H λv H'=>∃n,v=.int .i64 n/\K n H')
  {base:Nat} {H:U} {a:Option Addr} {n c:Nat} {xs:List α} {K:U->Prop} (aw:Own E t base H a n c xs) (ay:n<4611686018427387904)
  (hk:∀H' ys,Own E t base H' a n c ys->ys.Perm xs->ys.Pairwise (λx y=>¬cf y x<0)->Fr (an a) H H'->K H'):
  fo P kf ⟨[.slice a n c,.func (.func g) #[] #[]]⟩ H λv H'=>v=.tuple ⟨[]⟩/\K H':=by
 subst tP
 intro e2 d
 have aG:=aw.1
 obtain⟨_,⟨rfl,aF,y9⟩|⟨b,cur,rfl,al,aq,r3,hm,hs,gv⟩⟩:=id aw
 ·have:=AnyF.slices_SortFunc_none L none c (.func (.func g) #[] #[]) (bf e2 H d)
  rw [aF]
  refine this.mono ?_
  rintro e w' ⟨rfl,rfl⟩
  have aa:xs=[]:=ayT (by omega)
  subst aa
  exact⟨_,H,d,rfl,rfl,rfl,hk H [] (by simpa using aw) (List.Perm.refl _) List.Pairwise.nil (Fr.refl _ _)⟩
 ·have ff:(bf e2 H d).heap[b]?=some (.cells cur t (0,0)):=aq
  obtain⟨axh,hu⟩:=atd
  have ate:(flatK E.cells E.sz xs.toArray).toList=xs.flatMap E.cells:=by rw [YN]
  have zT:(flatK E.cells E.sz xs.toArray).size=n*E.sz:=by rw [size_flatK,aG];simp
  have axi:n*E.sz<=cur.size:=by rw [hs];exact Nat.mul_le_mul_right _ r3
  have hH:HoldsK E.cells E.sz (bf e2 H d) b 0 xs.toArray:=by
   intro j bq
   rw [zT]at bq
   refine⟨?_,by simp [World.frozen?,ff]⟩
   have h1:(cur.toList.take (n*E.sz))[j]?=(flatK E.cells E.sz xs.toArray).toList[j]?:=by rw [gv,ate]
   rw [aAU bq]at h1
   simp only [World.cell?,ff,axJ]
   simp only [Option.isSome_none,Bool.false_eq_true,if_false]
   rw [<-aAC,h1,aAC]
   have:j<(flatK E.cells E.sz xs.toArray).size:=by rw [zT];exact bq
   rw [getElem!_pos (flatK E.cells E.sz xs.toArray) j this]
   simp
  have Ap:CmpLays P g #[] E.cells E.sz cf b 0 xs.toArray.size (bf e2 H d):=by
   intro m os uu BQ x y
   generalize axj:sortWorldK E.cells E.sz (bf e2 H d) b 0 m uu os=W
   have Aw:=av x y W.heap (λr H'=>r=cf x y/\Fr [] W.heap H') (λH' ai=>⟨rfl,ai⟩) ⟨W.tape,W.os,W.output,W.drawn⟩ ⟨W.drawn,axx _⟩
   rw [<-Sr W]at Aw
   refine Aw.mono ?_
   rintro e w' ⟨v,H',d',rfl,rfl,r,rfl,rfl,ai⟩
   exact⟨rfl,grown_of W ai.size ai rfl rfl rfl d'.2⟩
  have xU:=AnyQ.slices_SortFunc L E.sz (λw=>by rw [aW];rw [OO hu];rw [atc]) (λw=>by
   rw [aW]
   cases az:P.info? t with
   |none=>rw [az]at CI;cases CI
   |some i=>rw [mu az];congr 1;simpa [hy,az]using dF) E.cells E.len E.one cf hO g #[] b 0 c xs.toArray (bf e2 H d) KP Ap hH (km aq) (by simpa using by omega)
  have YO:xs.toArray.size=n:=by simp [aG]
  rw [YO]at xU
  refine xU.mono ?_
  rintro e w' ⟨rfl,d',m,os,F5,atf,rfl⟩
  obtain⟨jE,_,iU⟩:=F5
  have JS:d'.size=n:=by rw [jE];simp [aG]
  have pN:d'.toList.Perm xs:=by
   have aL:d'.extract 0 n=d':=by rw [<-JS];simp
   have a':xs.toArray.extract 0 n=xs.toArray:=by rw [<-YO];simp
   rw [aL,a']at iU
   simpa using iU
  have atg:(flatK E.cells E.sz d').toList=d'.toList.flatMap E.cells:=YN E d'
  have YP:(flatK E.cells E.sz d').size=n*E.sz:=by rw [size_flatK,JS]
  have Ec:b<H.size:=km aq
  refine⟨_,(sortWorldK E.cells E.sz (bf e2 H d) b 0 m d' os).heap,⟨d.1+m,ax4 d.2 (Nat.le_add_right _ _)⟩,rfl,rfl,rfl,hk _ d'.toList ?_ pN ?_ ?_⟩
  ·refine⟨by rw [axM,JS],.inr ⟨b,putCells id 0 (flatK E.cells E.sz d') cur,rfl,al,?_,r3,hm,by simp [putCells,hs],?_⟩⟩
   ·show(grow (putRow id (Sort.ahead (bf e2 H d) m) b 0 (flatK E.cells E.sz d')) os).heap[b]?=_
    have s7:H[b]?=some (.cells cur t (0,0)):=aq
    simp only [grow,putRow,mapBlock,Sort.ahead,bf]
    rw [aAO (by simpa using Ec),ayR]
    simp [s7,onCells]
   ·rw [<-atg]
    apply ayK
    intro j
    by_cases bq:j<n*E.sz
    ·rw [aAU bq,aAC,aAC]
     have bs:j<(flatK E.cells E.sz d').size:=by rw [YP];exact bq
     have b5:j<cur.size:=by omega
     simp only [putCells,Array.getElem?_mapIdx,axJ,ayv,true_and,Nat.sub_zero]
     rw [aAV b5]
     simp only [Option.map_some,bs,if_true,id]
     rw [getElem!_pos (flatK E.cells E.sz d') j bs,aAV bs]
    ·rw [List.getElem?_take_eq_none (by omega),ayL (by rw [axM,YP];omega)]
  ·rw [aAD]
   intro i j h1 ab mn
   have:=atf i j (ayv _) mn (by rw [<-JS];simpa using ab)
   have aL:d'[i]! =d'.toList[i]:=by rw [getElem!_pos d' i (by simpa using h1)];simp
   have a':d'[j]! =d'.toList[j]:=by rw [getElem!_pos d' j (by simpa using ab)];simp
   rw [aL,a']at this
   simpa [ltOf]using this
  ·refine⟨?_,λk hk ay=> ?_⟩
   ·show H.size<=(grow (putRow id (Sort.ahead (bf e2 H d) m) b 0 (flatK E.cells E.sz d')) os).heap.size
    simp [grow,putRow,mapBlock,Sort.ahead,bf]
   ·show(grow (putRow id (Sort.ahead (bf e2 H d) m) b 0 (flatK E.cells E.sz d')) os).heap[k]?=_
    have Sq:b≠k:=by simp [an]at ay;exact λe=>ay e.symm
    simp only [grow,putRow,mapBlock,Sort.ahead,bf]
    rw [aAO (by simpa using hk),ayR]
    simp [Sq]
end
end Go.bk
end
namespace Go.Proofs
open Go.Shelf
def Tryz.as7:Go.Shelf.Ren:=⟨fun|6=>118|15=>148|14=>199|28=>221|29=>222|20=>266|21=>267|22=>268|23=>269|24=>270|25=>271|26=>272|27=>273|46=>325|47=>286|48=>287|49=>326|50=>327|57=>365|n=>n,fun|22=>52|24=>57|25=>242|3=>3|39=>213|0=>0|53=>326|55=>89|4=>4|46=>320|45=>319|50=>99|5=>5|9=>9|66=>376|70=>380|76=>428|77=>429|n=>n,fun|n=>n⟩
theorem Tryz.amo:Go.Proofs.SlLaysF0.n6 azB Tryz.as7:=by
 constructor
 case f6=>exact⟨Tryz.f118.name,by decide,Tryz.func118.trans (congrArg some (by kernel_rfl))⟩
 case f14=>exact⟨Tryz.f199.name,by decide,Tryz.func199.trans (congrArg some (by kernel_rfl))⟩
 case f20=>exact⟨Tryz.f266.name,by decide,Tryz.func266.trans (congrArg some (by kernel_rfl))⟩
 case f21=>exact⟨Tryz.f267.name,by decide,Tryz.func267.trans (congrArg some (by kernel_rfl))⟩
 case f22=>exact⟨Tryz.f268.name,by decide,Tryz.func268.trans (congrArg some (by kernel_rfl))⟩
 case f23=>exact⟨Tryz.f269.name,by decide,Tryz.func269.trans (congrArg some (by kernel_rfl))⟩
 case f24=>exact⟨Tryz.f270.name,by decide,Tryz.func270.trans (congrArg some (by kernel_rfl))⟩
 case f25=>exact⟨Tryz.f271.name,by decide,Tryz.func271.trans (congrArg some (by kernel_rfl))⟩
 case f26=>exact⟨Tryz.f272.name,by decide,Tryz.func272.trans (congrArg some (by kernel_rfl))⟩
 case f27=>exact⟨Tryz.f273.name,by decide,Tryz.func273.trans (congrArg some (by kernel_rfl))⟩
 case f46=>exact⟨Tryz.f325.name,by decide,Tryz.func325.trans (congrArg some (by kernel_rfl))⟩
 case f49=>exact⟨Tryz.f326.name,by decide,Tryz.func326.trans (congrArg some (by kernel_rfl))⟩
 case f50=>exact⟨Tryz.f327.name,by decide,Tryz.func327.trans (congrArg some (by kernel_rfl))⟩
 case f57=>exact⟨Tryz.f365.name,by decide,Tryz.func365.trans (congrArg some (by kernel_rfl))⟩
 repeat' first|kernel_rfl|(intro w;kernel_rfl)|constructor
end Go.Proofs
namespace Go.Proofs.aS
variable{H:U}
theorem GR{α:Type}{E:di α}{a:Option Addr}{n c:Nat}{xs:List α}(h:bt E H a n c xs)(aa:xs≠[]):∀k∈an a,k<H.size:=λk hk=>by
 obtain⟨b,off,rfl,al⟩:=h.arr.lt aa
 simp [an]at hk;omega
def q5(ss:List bF)(id:Int):List bl:=match ss with|[]=>[]|s::ss=>if s.1=id then s.2 else q5 ss id
theorem amh(ss:List bF)(id t:Int):fI (q5 ss id) t=fV ss id t:=by
 induction ss with
 |nil=>rfl
 |cons s ss ih=>
  show fI (if s.1=id then s.2 else q5 ss id) t=if s.1=id then fI s.2 t else fV ss id t
  split
  ·rfl
  ·exact ih
theorem ami{ss:List bF}{id:Int}(h:∀s∈ss,s.1≠id):q5 ss id=[]:=by
 induction ss with
 |nil=>rfl
 |cons s ss ih=>
  show(if s.1=id then s.2 else q5 ss id)=[]
  rw [if_neg (h s (by simp))];exact ih λx aa=>h x (by simp [aa])
theorem amj{ss:List bF}(aH:ss.Pairwise λa b=>a.1<b.1){k:Nat}{s:bF}(h:ss[k]?=some s):q5 ss s.1=s.2:=by
 induction ss generalizing k with
 |nil=>simp at h
 |cons x ss ih=>
  have yw:=aAv.1 aH
  show(if x.1=s.1 then x.2 else q5 ss s.1)=s.2
  cases k with
  |zero=>simp at h;subst h;rw [if_pos rfl]
  |succ k=>
   simp at h
   have:=yw.1 s (azR h)
   rw [if_neg (by omega)];exact ih yw.2 h
theorem NF{ss:List bF}(h:cy ss)(id:Int):gJ (q5 ss id):=by
 induction ss with
 |nil=>exact gJ.nil
 |cons x ss ih=>
  obtain⟨_,ab,ar⟩:=cy.cons.1 h
  show gJ (if x.1=id then x.2 else q5 ss id)
  split
  ·exact ab.2
  ·exact ih ar
def yx(ss:List bF)(s:bF):bF:=(s.1,jm (q5 ss s.1) s.2)
theorem V5{x:dr}{m:Nat}:∀{ss:List bF},(∀s∈ss,s.2.length<=m)->(eK ss x).length<=ss.length+1/\∀s∈eK ss x,s.2.length<=m+1
 |[],_=>⟨axx _,λs hs=>by simp [eK]at hs;subst hs;simp⟩
 |y::ss,h=>by
  unfold eK
  split
  ·refine⟨by simp,λs hs=> ?_⟩
   rcases axA.1 hs with rfl|hs
   ·simp
   ·have:=h s hs;omega
  ·split
   ·refine⟨by simp,λs hs=> ?_⟩
    rcases axA.1 hs with rfl|hs
    ·have h1:=E' y.2 [(x.1,x.2.2)]
     have ab:=h y (by simp)
     simp at h1
     show(jm y.2 [(x.1,x.2.2)]).length<=m+1
     omega
    ·have:=h s (by simp [hs]);omega
   ·obtain⟨i1,i2⟩:=V5 (x:=x) (ss:=ss) λs hs=>h s (by simp [hs])
    refine⟨by simp;omega,λs hs=> ?_⟩
    rcases axA.1 hs with rfl|hs
    ·have:=h s (by simp);omega
    ·exact i2 s hs
theorem NG{m:Nat}:∀{rows:List dr} {ss:List bF},(∀s∈ss,s.2.length<=m)->(cL ss rows).length<=ss.length+rows.length/\∀s∈cL ss rows,s.2.length<=m+rows.length
 |[],ss,h=>⟨by simp [cL],λs hs=>by have:=h s hs;simp;omega⟩
 |x::rows,ss,h=>by
  obtain⟨i1,i2⟩:=V5 (x:=x) h
  obtain⟨awj,amk⟩:=NG (m:=m+1) (rows:=rows) (ss:=eK ss x) i2
  refine⟨?_,λs hs=> ?_⟩
  ·show(cL (eK ss x) rows).length<=_
   simp;omega
  ·have:=amk s hs
   simp;omega
theorem NH{x y:aS}:lI x y<0↔x.1<y.1:=ox
theorem aml:Go.Sort.SWO (ltOf lI) where
 irrefl x:=by simp only [ltOf,decide_eq_false_iff_not,NH];omega
 trans x y z h1 ab:=by simp only [ltOf,decide_eq_true_eq,NH]at *;omega
 ntrans x y z h1 ab:=by simp only [ltOf,decide_eq_false_iff_not,NH]at *;omega
theorem amm{base:Nat}{a:Option Addr}{n c:Nat}{xs:List aS}{K:U->Prop}(aw:Own dM 57 base H a n c xs)(ay:n<=1000000000)
  (hk:∀H' ys,Own dM 57 base H' a n c ys->ys.Perm xs->ys.Pairwise (λx y=>¬lI y x<0)->Fr (an a) H H'->K H'):
  dQ 118 [J a n c,.func (.func 116) #[] #[]] H K:=
 amn Tryz.amo (kf:=118) rfl (E:=dM) (t:=57) rfl (by kernel_rfl) ⟨_,Tryz.underlying57⟩ (by kernel_rfl) (by kernel_rfl) lI aml (enters_of Tryz.func116 (by kernel_rfl) rfl) (λx y H K hk=>VS hk) aw (by omega) hk
theorem amp{f:bF->bF}{l:List bF}{k:Nat}{s:bF}(h:l[k]?=some s):((l.take k).map f++l.drop k)[k]?=some s/\((l.take k).map f++l.drop k).set k (f s)=(l.take (k+1)).map f++l.drop (k+1):=by
 obtain⟨hk,rfl⟩:=axC.1 h
 have aG:((l.take k).map f).length=k:=by simp;omega
 have aR:l.drop k=l[k]::l.drop (k+1):=List.drop_eq_getElem_cons hk
 refine⟨?_,?_⟩
 ·rw [aze (by omega),aG,aR];simp
 ·rw [aAS _ _ (by omega),aG,aR,Nat.sub_self,List.set_cons_zero,azP,h,azj]
  simp
theorem Rw{x:dr}{zs:List Value}{K:Nat->U->Prop}(aE:zs.length=3)
  (k:∀b H',H.size<=b->a6 H' ⟨b,0,none⟩ (dP.cells x)->Fr [] H H'->K b H'):
  ∀b H',dV H b (.cells ⟨zs⟩ 103) H'->∃hv,bp 103 H' ⟨b,0,none⟩ (.agg ⟨dP.cells x⟩) hv/\K b hv:=
 iS (by kernel_rfl) (by kernel_rfl) (λv h=>by simp [azI,dP]at h;rcases h with rfl|rfl|rfl<;>rfl) aE k
theorem V6:∀{l m:List Int},l.Nodup->(∀x∈l,x∈m)->l.length<=m.length
 |[],m,_,_=>ayv _
 |x::l,m,h,hs=>by
  have aR:=List.nodup_cons.1 h
  have aa:=hs x (by simp)
  have ih:=V6 (m:=m.erase x) aR.2 λy aA=>(List.mem_erase_of_ne (λe=>aR.1 (by subst e;exact aA))).2 (hs y (by simp [aA]))
  rw [List.length_erase_of_mem aa]at ih
  have:=List.length_pos_of_mem aa
  simp;omega
theorem amq{rows:List dr}{id:Int}(h:jg rows id≠[]):id∈rows.map (·.2.1):=by
 obtain⟨y,aA⟩:=aAy _ h
 unfold jg at aA
 obtain⟨x,aa,_⟩:=ayf.1 aA
 have:=ax2.1 aa
 exact ayf.2 ⟨x,this.1,of_decide_eq_true this.2⟩
theorem wK.len{base r it ck:Nat}{L:List (cR Int)}{rows:List dr}{seen:Array Nat}{ad:Option Addr}{l c:Nat}{ms:List aS}{ss:List bF}(h:wK H base r it ck L (jg rows) seen ad l c ms ss):ms.length<=rows.length:=by
 have:=V6 (m:=rows.map (·.2.1)) h.fL λx aa=>by
  obtain⟨m,hm,rfl⟩:=ayf.1 aa
  obtain⟨e,he,hk,_⟩:=(h.key m.1).1 ⟨m,hm,rfl⟩
  rw [<-hk];exact amq (h.ne e he)
 simpa using this
theorem xe{uv:Option Addr}{ni lc:Nat}{hs:List aS}{ss:List bF}{jd:Option Addr}{cA rc:Nat}{rows:List dr}{K:Option Addr->Nat->Nat->U->Prop}(aa:bt dM H uv ni lc hs)(bB:eG H hs ss)(cp:cy ss)(xv:bt dP H jd cA rc rows)
  (NI:ni<=1000000) (pT:cA<=1000000) (eo:∀s∈ss,s.2.length<=1000000)
  (hk:∀aV bn bg H' cQ,Own dM 57 H.size H' aV bn bg cQ->eG H' cQ (cL ss rows)->(∀m∈cQ,∀q∈an m.2.1,H.size<=q)->Fr [] H H'->K aV bn bg H'):
  dy amr [J uv ni lc,J jd cA rc] H K:=by
 apply ams
 intro b H1 bb
 have Iu:=bb.eq
 have mR:=xv.len
 have rA:=aa.len
 have amt:ss.length=ni:=by rw [rA];exact bB.len.symm
 refine⟨λae H'=>match ae with
   |[.int _ i]=>∃(k ck:Nat) (L:List (cR Int)),i=k/\k<=cA/\dN du H' b ck L/\qp H' H.size b L (jg (rows.take k))/\(∀id,(jg (rows.take k) id).length<=k)/\Fr [] H H'
   |_=>False,
  λae _=>match ae with|[.int _ i]=>cA-i.toNat|_=>0,⟨0,0,[],rfl,by omega,dN.new du bb,(qp.start _ _ _).ext λj=>rfl,λid=>axx _,bb.af⟩,?_⟩
 rintro br i ao ⟨k,ck,L,rfl,eC,hm,cx,Fa,ai⟩
 refine au (λaF=> ?_) (λaF=> ?_)
 ·have b':k<cA:=by simpa using aF
  have cB:rows[k]?=some (rows[k]'(by omega)):=by simp
  generalize rows[k]'(by omega)=x at cB
  refine(xv.ag ai).get rfl cB (bh (by omega)) λaC b4 av=>⟨_,_,_,sw av,?_⟩
  refine Rw rfl λb1 aP dA bM bP=> ?_
  have rG:=hm.ag du bP
  have Cl:=cx.ag bP
  have kT:=ai.aT bP
  have amu:=kT.size
  have fh:b<aP.size:=rG.lt
  obtain⟨a,n,c,amv,dk,pU,sX,kq⟩:∃a n c,(dm x.2.1 L).getD (.slice none 0 0)=.slice a n c/\Own encS 111 H.size ao a n c (jg (rows.take k) x.2.1)/\(∀aV bn bg,dm x.2.1 L=some (.slice aV bn bg)->an a=an aV)/\(dm x.2.1 L=none->an a=[])/\n<=k:=by
   cases aG:dm x.2.1 L with
   |none=>exact⟨none,0,0,rfl,by rw [cx.no _ aG];exact Own.nil _ _ _ _,(λ_ _ _ h=>by cases h),λ_=>rfl,by omega⟩
   |some v=>
    obtain⟨a,n,c,rfl,ab,_,_⟩:=cx.hb _ _ aG
    exact⟨a,n,c,rfl,ab,(λ_ _ _ h=>by cases h;rfl),(λh=>by cases h),by rw [ab.1];exact Fa _⟩
  have aw:=dk.ag bP
  have yd:∀{H':U},Fr [] aP H'->Rd azB (Instr.lookup 235 (.map (some b)) (.int .i64 x.2.1) false) H' (.slice a n c):=λeE=>by
   have:=sQ du NC amd (rG.ag du eE) x.2.1
   rw [amv]at this;exact this
  refine⟨_,bM.cF 1 rfl,_,bM.cF 1 rfl,a,n,c,yd (Fr.refl _ _),_,bM.bY rfl,_,bM.cF 2 rfl,?_⟩
  intro bI a8 cS
  have yz:=bM.ag cS.af
  have Ig:=cS.size
  refine⟨yd cS.af,yz.cF 1 rfl,yz.cF 1 rfl,?_⟩
  have gg:=aw.ag cS.af
  refine ic qT wD gg (fy encS ((x.1,x.2.2):bl) cS rfl) (by omega) (by omega) λaV bn bg bA fZ cb tG=> ?_
  have I2:b∉an a:=λdc=>by
   cases aG:dm x.2.1 L with
   |none=>rw [sX aG]at dc;cases dc
   |some v=>
    obtain⟨a2,cz,c2,rfl,_,_,a7⟩:=Cl.hb _ _ aG
    rw [pU _ _ _ aG]at dc;exact a7 dc
  have mb:a6 bA ⟨b1,0,none⟩ (dP.cells x):=yz.af cb λdc=>by
   have:=dk.Af _ dc
   simp at this;omega
  refine⟨mb.cF 1 rfl,?_⟩
  have mS:=(rG.ag du cS.af).af du cb I2
  refine t' du NC mS x.2.1 λct AR de=> ?_
  rw [cE (by omega)]
  have amw:=(Cl.ag cS.af).put (ck:=ck) cb (λnk pr lT aG=>(pU nk pr lT aG)) sX fZ (by omega) tG de
  have GP:rows.take (k+1)=rows.take k++[x]:=by rw [azP,cB];rfl
  refine⟨⟨k+1,_,_,rfl,by omega,AR,amw.ext λj=> ?_,λid=> ?_,?_⟩,dU b'⟩
  ·rw [GP,V7]
   by_cases e:j=x.2.1
   ·subst e;rw [if_pos rfl,if_pos rfl]
   ·rw [if_neg e,if_neg (λh=>e h.symm)];simp
  ·rw [GP,V7,ax6]
   have:=Fa id
   split<;>simp<;>omega
  ·refine((kT.aT cS.af).ag cb λk dc=>(gg.ge k dc).1).ag de λk dc=> ?_
   simp at dc;omega
 have z8:k=cA:=by simp at aF;omega
 subst z8
 rw [ayB (by omega)]at cx Fa
 refine CV du NC hm λit aP bw=> ?_
 have amx:=wK.start cx hm bw
 have qA:=bw.size
 have kT:=ai.aT bw.af
 have ED:H.size<=b:=by omega
 have awk:H.size<=it:=by have:=bw.eq;have:=ai.size;omega
 refine⟨λae H'=>match ae with
   |[.slice ad l c]=>∃seen ms q3,wK H' H.size b it ck L (jg rows) seen ad l c ms q3/\Fr [] H H'
   |_=>False,
  λ_ H'=>pR H' b it,⟨#[],[],[],amx,kT⟩,?_⟩
 rintro br ad l c a8 ⟨seen,ms,q3,cV,cm⟩
 refine CX du cV.map cV.itr (λfe=> ?_) λe he gY bA hi5 cb=> ?_
 ·have sV:l<=1000000:=by have:=cV.q4.1;have:=cV.len;omega
  have ea:=cV.q4.1
  refine amm cV.q4 (by omega) λbA ys fZ aH EP cb=> ?_
  obtain⟨l2,jE,ev⟩:=dd.perm aH cV.msr
  have yc:Fr [] H bA:=cm.ag cb λk hk=>(cV.q4.ge k hk).1
  have s0:=fZ.1
  have Bm:∀m∈ys,er (an ad) (an m.2.1)/\∃e∈L,e.1=m.1:=λm hm=>by
   obtain⟨e,he,dc,cQ⟩:=(cV.key m.1).1 ⟨m,aH.mem_iff.1 hm,rfl⟩
   obtain⟨s,_,_,g2,_⟩:=ev.mem hm
   rw [g2,<-dc]
   exact⟨cV.hA e he,e,he,rfl⟩
  have jK:eG bA ys l2:=ev.mono λm s hm hs aB=>⟨aB.1,E9 aB.2.2.1.bT cb (Bm m hm).1.symm⟩
  have NJ:∀s∈l2,vi (jg rows s.1) s.2:=λs hs=>by
   obtain⟨m,_,g1,_,_,g4⟩:=ev.E8 hs
   rw [<-g1];exact g4
  have amy:ys.Pairwise λa b=>a.1<b.1:=by
   have iA:(ys.map (·.1)).Nodup:=(aH.map _).nodup_iff.2 cV.fL
   refine(EP.and (az5.1 iA)).imp λ{x y} h=> ?_
   have h1:¬y.1<x.1:=λaq=>h.1 (ox.2 aq)
   have ab:=h.2
   omega
  have amz:l2.Pairwise λa b=>a.1<b.1:=by
   have:∀{ys:List aS} {l2:List bF},eG bA ys l2->ys.Pairwise (λa b=>a.1<b.1)->l2.Pairwise λa b=>a.1<b.1:=by
    intro ys l2 h
    induction h with
    |nil=>intro _;exact List.Pairwise.nil
    |cons h1 ab ih=>
     intro aq
     have s7:=aAv.1 aq
     refine aAv.2 ⟨λs hs=> ?_,ih s7.2⟩
     obtain⟨x,aa,e⟩:=dd.E8 ab hs
     rw [<-h1.1,<-e.1];exact s7.1 x aa
   exact this jK amy
  have awl:l2.length=l:=by rw [s0,jK.len]
  have amA:∀s∈l2,s.2.length<=1000000:=λs hs=>by
   obtain⟨ph,_,ab,ar⟩:=NJ s hs
   have a7:=VY none ph
   have bs:=ab.length
   have b5:=Fa s.1
   rw [ar];unfold da
   rw [List.length_reverse]at bs;omega
  have NK:cy (l2.map (yx ss)):=by
   refine⟨az5.2 (amz.imp λh=>h),λs hs=> ?_⟩
   obtain⟨hh,hx,rfl⟩:=ayf.1 hs
   have bS:=NJ hh hx
   obtain⟨m,hm,g1,_⟩:=ev.E8 hx
   obtain⟨e,he,dc⟩:=(Bm m hm).2
   have cP:hh.2≠[]:=bS.ne (by rw [<-g1,<-dc];exact cV.ne e he)
   exact⟨V8 cP (NF cp _) bS.AL,Fb _ _ (NF cp _) bS.AL⟩
  have V9:h2 wJ ss (l2.map (yx ss))=cL ss rows:=by
   refine put_eq cp NK (λid=>⟨?_,λcP=> ?_⟩) λs hs t=> ?_
   ·rintro⟨s,hs,rfl⟩
    obtain⟨hh,hx,rfl⟩:=ayf.1 hs
    obtain⟨m,hm,g1,_⟩:=ev.E8 hx
    obtain⟨e,he,dc⟩:=(Bm m hm).2
    show jg rows hh.1≠[]
    rw [<-g1,<-dc];exact cV.ne e he
   ·cases aG:dm id L with
    |none=>exact absurd (cx.no id aG) cP
    |some v=>
     obtain⟨o4,al⟩:=Bn aG
     obtain⟨m,hm,dc⟩:=(cV.key id).2 ⟨_,al,rfl,fe _ al⟩
     obtain⟨s,hs,g1,_⟩:=ev.mem (aH.mem_iff.2 hm)
     exact⟨_,ayf.2 ⟨s,hs,rfl⟩,by show s.1=id;rw [<-g1,dc]⟩
   ·obtain⟨hh,hx,rfl⟩:=ayf.1 hs
    have bS:=NJ hh hx
    show fI (jm (q5 ss hh.1) hh.2) t=_
    rw [Cm _ _ _ (NF cp _) bS.AL,bS.val,amh]
    rfl
  have amB:=NG (rows:=rows) eo
  refine⟨λae H'=>match ae with
    |[.int _ i]=>∃(k:Nat) (ws:List aS),i=k/\k<=l/\Own dM 57 H.size H' ad l c ws/\eG H' ws ((l2.take k).map (yx ss)++l2.drop k)/\(∀m∈ws,er (an ad) (an m.2.1))/\Fr [] H H'
    |_=>False,
   λae _=>match ae with|[.int _ i]=>l-i.toNat|_=>0,⟨0,ys,rfl,by omega,fZ,jK,λm hm=>(Bm m hm).1,yc⟩,?_⟩
  rintro br i ct ⟨k,ws,rfl,uc,hf,nM,NL,de⟩
  have ahR:=hf.1
  refine au (λh1=> ?_) (λh1=> ?_)
  ·have fc:k<l:=by simpa using h1
   have hx:l2[k]?=some (l2[k]'(by omega)):=by simp
   generalize l2[k]'(by omega)=s at hx
   have o9:=azR hx
   obtain⟨vR,sS⟩:=amp (f:=yx ss) hx
   obtain⟨x,oy,wL⟩:=dd.get' nM vR
   have sq:=azR oy
   refine hf.bT.get rfl oy (bh (by omega)) λaC b4 av=>⟨_,_,_,_,iP av,?_⟩
   refine al7 VT (t:=x) (aa.ag de) (by omega) (bB.amc cp.1) (λe7 y dx aA hyx e4=> ?_) (λcq mm dx e4=> ?_)
   ·refine au (λ_=> ?_) (λh=>by cases h)
    have rZ:=de.aT e4
    obtain⟨t,aW,NM⟩:=(bB.ag rZ).get aA
    have awm:=(axC.1 aA).1
    have IN:=eo t (azR aW)
    have pS:=amA s o9
    have aL:=NM.2.len
    have a':=wL.2.len
    refine(aa.ag rZ).get rfl aA (bh (by omega)) λaC b4 av=>⟨_,_,_,wI av,?_⟩
    have k6:=hf.ag e4
    refine k6.bT.get rfl oy (bh (by omega)) λaC b4 av=>⟨_,_,_,wI av,?_⟩
    refine akC NM.2 (wL.2.ag e4) (by omega) λaV bn bg eQ jt jl=> ?_
    obtain⟨aC,b4⟩:∃aC,ad=some aC:=by
     cases ad with
     |none=>
      obtain⟨_,⟨_,aF,_⟩|⟨_,_,e,_⟩⟩:=hf
      ·omega
      ·cases e
     |some aC=>exact⟨aC,rfl⟩
    refine w8 b4 (cM (bh (by omega)) ?_)
    refine Fc (x':=((x.1,(aV,bn,bg)):aS)) (j:=1) (k6.ag jl) b4 rfl oy (by kernel_rfl) (by kernel_rfl) (by simp [azI,aAx]) (axx 2) rfl λcN sv p7=> ?_
    have Fe:=(nM.ag e4).ag jl
    have cP:∀m∈ws,∀q,bt encS eQ m.2.1 m.2.2.1 m.2.2.2 q->bt encS cN m.2.1 m.2.2.1 m.2.2.2 q:=λm hm q aO=>E9 aO p7 (NL m hm).symm
    have Ff:er (an ad) (an aV):=λk hk dc=>by
     have ab:=(jt.ge k dc).1
     have ar:=k6.Af k hk
     omega
    rw [cE (by omega)]
    refine⟨⟨k+1,_,rfl,by omega,sv,?_,λm hm=> ?_,?_⟩,dU fc⟩
    ·rw [<-sS]
     refine dd.set (Fe.mono λm s' hm _ aB=>⟨aB.1,cP m hm _ aB.2⟩) ⟨wL.1,?_⟩
     have cX:q5 ss s.1=t.2:=by rw [<-wL.1,<-hyx,NM.1];exact amj cp.1 aW
     show bt encS cN aV bn bg (jm (q5 ss s.1) s.2)
     rw [cX]
     exact E9 jt.bT p7 Ff.symm
    ·rcases aAW hm with hm|rfl
     ·exact NL m hm
     ·exact Ff
    ·exact(rZ.aT jl).ag p7 λk hk=>(hf.ge k hk).1
   ·refine au (λh=>by cases h) (λ_=> ?_)
    rw [cE (by omega)]
    refine⟨⟨k+1,ws,rfl,by omega,hf.ag e4,?_,NL,de.aT e4⟩,dU fc⟩
    have cX:yx ss s=s:=by
     unfold yx
     rw [ami λs' cQ e=> ?_,Aa]
     obtain⟨y,aA,gQ⟩:=dd.E8 bB cQ
     exact cq y aA (by rw [gQ.1,e,wL.1])
    rw [<-sS,cX]
    have:((l2.take k).map (yx ss)++l2.drop k).set k s=(l2.take k).map (yx ss)++l2.drop k:=by
     obtain⟨fA,kg⟩:=axC.1 vR
     rw [<-kg,aAX]
    rw [this];exact nM.ag e4
  ·have amC:k=l:=by simp at h1;omega
   subst amC
   rw [ayB (by omega),az2 (by omega),azh]at nM
   refine alJ VT (aa.ag de) hf.bT (by omega) λke n7 qz dx k6 e4=> ?_
   have ES:eG dx (h2 lI hs ws) (cL ss rows):=by rw [<-V9];exact((bB.ag de).merge nM).ag e4
   have amD:=(y0 (rows:=rows) cp).1
   have rZ:=de.aT e4
   have amE:=de.size
   have ga:n7=(cL ss rows).length:=by rw [k6.1];exact ES.len
   have live:∀{m:aS} {H':U},m∈h2 lI hs ws->er (an ke) (an m.2.1):=λ{m H'} hm k hk dc=>by
    have ab:=(k6.ge k hk).1
    have V':=((bB.ag de).merge nM)
    rw [V9]at V'
    obtain⟨s,cQ,aB⟩:=dd.mem V' hm
    have:=GR aB.2 (amD.2 s cQ).1 k dc
    omega
   refine⟨λae H'=>match ae with
     |[.int _ i]=>∃(k:Nat) (Cn:List aS),i=k/\k<=n7/\Own dM 57 ct.size H' ke n7 qz Cn/\eG H' Cn (cL ss rows)/\(∀m∈Cn,er (an ke) (an m.2.1))/\(∀j m,j<k->Cn[j]?=some m->∀q∈an m.2.1,H.size<=q)/\Fr [] ct H'
     |_=>False,
    λae _=>match ae with|[.int _ i]=>n7-i.toNat|_=>0,⟨0,_,rfl,by omega,k6,ES,λm hm=>live (H':=dx) hm,(λj m bq=>absurd bq (Nat.not_lt_zero _)),e4⟩,?_⟩
   rintro br i eQ ⟨k,Cn,rfl,awn,jt,Fe,Co,Wa,jl⟩
   have awo:=jt.1
   refine au (λab=> ?_) (λab=>⟨_,_,_,rfl,hk ke n7 qz eQ Cn (jt.base amE) Fe (λm hm q aO=>by
    obtain⟨j,bq⟩:=aAK.1 hm
    have HD:=(axC.1 bq).1
    have gF:¬k<n7:=by simpa using ab
    exact Wa j m (by omega) bq q aO) (de.aT jl)⟩)
   have gF:k<n7:=by simpa using ab
   have hx:(cL ss rows)[k]?=some ((cL ss rows)[k]'(by omega)):=by simp
   generalize(cL ss rows)[k]'(by omega)=s at hx
   obtain⟨x,oy,wL⟩:=dd.get' Fe hx
   have pS:=amB.2 s (azR hx)
   have a':=wL.2.len
   refine jt.bT.get rfl oy (bh (by omega)) λaC b4 av=>⟨_,_,_,wI av,?_⟩
   refine xZ wL.2 (by omega) λaV bn bg cN sv p7=> ?_
   obtain⟨aC,b4⟩:∃aC,ke=some aC:=by
    cases ke with
    |none=>
     obtain⟨_,⟨_,aF,_⟩|⟨_,_,e,_⟩⟩:=jt
     ·omega
     ·cases e
    |some aC=>exact⟨aC,rfl⟩
   refine w8 b4 (cM (bh (by omega)) ?_)
   refine Fc (x':=((x.1,(aV,bn,bg)):aS)) (j:=1) (jt.ag p7) b4 rfl oy (by kernel_rfl) (by kernel_rfl) (by simp [azI,aAx]) (axx 2) rfl λhj rC oG=> ?_
   have Ff:er (an ke) (an aV):=λk hk dc=>by
    have ar:=(sv.ge k dc).1
    have a7:=jt.Af k hk
    omega
   rw [cE (by omega)]
   refine⟨⟨k+1,_,rfl,by omega,rC,?_,λm hm=> ?_,λj m bq hm q aO=> ?_,?_⟩,dU gF⟩
   ·have es:(cL ss rows).set k s=cL ss rows:=by
     obtain⟨fA,kg⟩:=axC.1 hx
     rw [<-kg,aAX]
    rw [<-es]
    refine dd.set ((Fe.ag p7).mono λm s' hm _ aB=>⟨aB.1,E9 aB.2 oG (Co m hm).symm⟩) ⟨wL.1,?_⟩
    exact E9 sv.bT oG Ff.symm
   ·rcases aAW hm with hm|rfl
    ·exact Co m hm
    ·exact Ff
   ·by_cases e:j=k
    ·subst e
     rw [aAL (by omega)]at hm
     cases hm
     have ar:=(sv.ge q aO).1
     have a7:=jl.size
     omega
    ·rw [List.getElem?_set_ne (λh=>e h.symm)]at hm
     exact Wa j m (by omega) hm q aO
   ·exact(jl.aT p7).ag oG λk hk=>(jt.ge k hk).1
 ·obtain⟨n,bg,aL,aw⟩:=cV.un e he gY
  have mS:=cV.map.af du cb (by simp;exact cV.ro.2.2)
  have fZ:=kR aw cb (λk hk dc=>by simp at dc;subst dc;exact(cV.jd e he).2 hk)
  have GY:n<=1000000:=by have:=aw.1;have:=Fa e.1;omega
  refine Gy du mS hi5 he rfl ⟨_,rfl,_,_,_,aL,?_⟩
  refine alW fZ (by omega) λct hf de=> ?_
  refine alE Vz hf (by omega) λdx ys k6 amF amG e4=> ?_
  refine al2 al0 k6 (by omega) λbn eQ jt xW jl=> ?_
  have bS:vi (jg rows e.1) (da ys):=⟨ys,amF,amG,rfl⟩
  have I3:Fr (an (mJ L e.1)) bA eQ:=(de.trans' e4 (λ_ h _=>h) (λ_ h _=>h)).trans' jl (λ_ h _=>h) (λ_ h _=>h)
  intro rE cN fC
  have agQ:=cb.size
  have awp:=I3.size
  have TE:=fC.size
  have awq:=cm.size
  have awr:it<a8.size:=km cV.itr
  have Wb:Own dM 57 H.size cN ad l c ms:=by
   refine(kR (kR cV.q4 cb λk hk dc=> ?_) I3 (cV.hA e he)).ag fC.af
   simp at dc;subst dc;exact cV.ro.2.1 hk
  have sV:l<=1000000:=by have:=cV.q4.1;have:=cV.len;omega
  refine ic Ad Ac Wb (fy dM ((e.1,(mJ L e.1,bn,bg)):aS) fC rfl) (by omega) (by omega) λl' fG d' hj rC oG hg10=> ?_
  have wM:=cV.step he gY hi5 cb I3 jt bS fC.af rC oG hg10
  refine⟨⟨_,_,_,wM,?_⟩,?_⟩
  ·refine(((cm.ag cb λk hk=>by simp at hk;omega).ag I3 λk hk=>(fZ.ge k hk).1).aT fC.af).ag oG λk hk=>(Wb.ge k hk).1
  ·show pR hj b it<pR a8 b it
   rw [xg du wM.map wM.itr,xg du cV.map cV.itr]
   exact Gz (List.mem_map_of_mem (f:=λx:cR Int=>x.2.2) he) gY
def ma(a b:dr):Prop:=a.1<b.1\/(a.1=b.1/\a.2.1<b.2.1)
instance(a b:dr):Decidable (ma a b):=inferInstanceAs (Decidable (_\/_))
def Fh(a b:dr):Prop:=a.1=b.1/\a.2.1=b.2.1
theorem Wi{a b:dr}:lJ a b<0↔ma a b:=by
 unfold lJ ma jB
 split<;>(repeat' split)<;>omega
theorem Wj{a b:dr}:lJ a b=0↔Fh a b:=by
 unfold lJ Fh jB
 split<;>(repeat' split)<;>omega
theorem NQ{a b c:dr}(h:ma a b)(h':ma b c):ma a c:=by unfold ma at *;omega
theorem NR{a:dr}:¬ma a a:=by unfold ma;omega
theorem amL(a b:dr):ma a b\/Fh a b\/ma b a:=by unfold ma Fh;omega
def kh(l:List dr):Prop:=l.Pairwise ma
theorem kh.nil:kh []:=List.Pairwise.nil
theorem kh.cons{x:dr}{l:List dr}:kh (x::l)↔(∀y∈l,ma x y)/\kh l:=aAv
theorem KM:∀{a b:List dr},kh a->kh b->(∀x,x∈a↔x∈b)->a=b
 |[],[],_,_,_=>rfl
 |[],y::b,_,_,h=>by have:=(h y).2 (by simp);cases this
 |x::a,[],_,_,h=>by have:=(h x).1 (by simp);cases this
 |x::a,y::b,bW,al,h=>by
  have ha':=kh.cons.1 bW
  have ff:=kh.cons.1 al
  have e:x=y:=by
   rcases axA.1 ((h x).1 (by simp))with e|h1
   ·exact e
   ·rcases axA.1 ((h y).2 (by simp))with e|ab
    ·exact e.symm
    ·exact absurd (NQ (ff.1 x h1) (ha'.1 y ab)) NR
  subst e
  rw [KM ha'.2 ff.2 λz=> ?_]
  have:=h z
  simp only [axA]at this
  constructor
  ·intro aE
   rcases this.1 (.inr aE)with rfl|h1
   ·exact absurd (ha'.1 z aE) NR
   ·exact h1
  ·intro aE
   rcases this.2 (.inr aE)with rfl|h1
   ·exact absurd (ff.1 z aE) NR
   ·exact h1
theorem NS:∀{a b:List dr},kh a->kh b->(∀x∈a,∀y∈b,¬Fh x y)->kh (h2 lJ a b)/\∀z,z∈h2 lJ a b↔z∈a\/z∈b
 |[],b,_,al,_=>by rw [wH];exact⟨al,λz=>by simp⟩
 |x::a,[],bW,_,_=>by rw [yu];exact⟨bW,λz=>by simp⟩
 |x::a,y::b,bW,al,aR=>by
  have ha':=kh.cons.1 bW
  have ff:=kh.cons.1 al
  rw [yv]
  have aF:¬lJ x y=0:=λh=>aR x (by simp) y (by simp) (Wj.1 h)
  by_cases h1:lJ x y<0
  ·rw [if_pos h1]
   have fc:=Wi.1 h1
   obtain⟨fB,gj⟩:=NS ha'.2 al λu hu v aI=>aR u (by simp [hu]) v aI
   refine⟨kh.cons.2 ⟨λz aE=> ?_,fB⟩,λz=> ?_⟩
   ·rcases(gj z).1 aE with aE|aE
    ·exact ha'.1 z aE
    ·rcases axA.1 aE with rfl|aE
     ·exact fc
     ·exact NQ fc (ff.1 z aE)
   ·simp only [axA,gj]
    constructor
    ·rintro(h|h|h|h)
     ·exact .inl (.inl h)
     ·exact .inl (.inr h)
     ·exact .inr (.inl h)
     ·exact .inr (.inr h)
    ·rintro((h|h)|(h|h))
     ·exact .inl h
     ·exact .inr (.inl h)
     ·exact .inr (.inr (.inl h))
     ·exact .inr (.inr (.inr h))
  ·rw [if_neg h1,if_neg aF]
   have fc:ma y x:=by
    rcases amL x y with h|h|h
    ·exact absurd (Wi.2 h) h1
    ·exact absurd (Wj.2 h) aF
    ·exact h
   obtain⟨fB,gj⟩:=NS bW ff.2 λu hu v aI=>aR u hu v (by simp [aI])
   refine⟨kh.cons.2 ⟨λz aE=> ?_,fB⟩,λz=> ?_⟩
   ·rcases(gj z).1 aE with aE|aE
    ·rcases axA.1 aE with rfl|aE
     ·exact fc
     ·exact NQ fc (ha'.1 z aE)
    ·exact ff.1 z aE
   ·simp only [axA,gj]
    constructor
    ·rintro(h|(h|h)|h)
     ·exact .inr (.inl h)
     ·exact .inl (.inl h)
     ·exact .inl (.inr h)
     ·exact .inr (.inr h)
    ·rintro((h|h)|(h|h))
     ·exact .inr (.inl (.inl h))
     ·exact .inr (.inl (.inr h))
     ·exact .inl h
     ·exact .inr (.inr h)
termination_by a b=>a.length+b.length
def hP(s:bF):List dr:=s.2.map λp=>(p.1,s.1,p.2)
theorem Wk{s:bF}(h:gJ s.2):kh (hP s):=az5.2 (h.imp λh=>.inl h)
theorem sM{s:bF}{x:dr}:x∈hP s↔x.2.1=s.1/\(x.1,x.2.2)∈s.2:=by
 unfold hP
 rw [ayf]
 constructor
 ·rintro⟨p,aH,rfl⟩;exact⟨rfl,aH⟩
 ·rintro⟨h1,ab⟩;exact⟨_,ab,by rw [<-h1]⟩
def gP(ss:List bF)(l:List dr):Prop:=kh l/\∀x,x∈l↔∃s∈ss,x∈hP s
theorem gP.nil:gP [] []:=⟨kh.nil,λx=>by simp⟩
def vP(ss:List bF):Prop:=ss.Pairwise (λa b=>a.1<b.1)/\∀s∈ss,gJ s.2
theorem cy.w{ss:List bF}(h:cy ss):vP ss:=⟨h.1,λs hs=>(h.2 s hs).2⟩
theorem amM{ss:List bF}(h:vP ss){k:Nat}{s:bF}(hs:ss[k]?=some s):∀t∈ss.take k,t.1≠s.1:=λt aW=>by
 obtain⟨i,az⟩:=aAw aW
 rw [axN]at az
 split at az
 ·rename_i NT
  obtain⟨h1,rfl⟩:=axC.1 az
  obtain⟨ab,rfl⟩:=axC.1 hs
  have:=aAD.1 h.1 i k h1 ab NT
  omega
 ·cases az
theorem gP.step{ss:List bF}(h:vP ss){k:Nat}{s:bF}(hs:ss[k]?=some s){l:List dr}(aG:gP (ss.take k) l):gP (ss.take (k+1)) (h2 lJ l (hP s)):=by
 have amN:=h.2 s (azR hs)
 obtain⟨fB,gj⟩:=NS aG.1 (Wk amN) λx aa y aA hk=>by
  obtain⟨t,aW,M6⟩:=(aG.2 x).1 aa
  have h1:=(sM.1 M6).1
  have ab:=(sM.1 aA).1
  exact amM h hs t aW (by rw [<-h1,<-ab];exact hk.2)
 refine⟨fB,λx=> ?_⟩
 rw [gj,aG.2,azP,hs]
 constructor
 ·rintro(⟨t,aW,aa⟩|aa)
  ·exact⟨t,by simp [aW],aa⟩
  ·exact⟨s,by simp,aa⟩
 ·rintro⟨t,aW,aa⟩
  rcases azb.1 aW with aW|aW
  ·exact .inl ⟨t,aW,aa⟩
  ·simp at aW;subst aW;exact .inr aa
theorem C'{ss:List bF}(h:cy ss)(x:dr):(∃s∈ss,x∈hP s)↔fV ss x.2.1 x.1=some x.2.2:=by
 induction ss with
 |nil=>simp [fV]
 |cons s ss ih=>
  obtain⟨h1,ab,ar⟩:=cy.cons.1 h
  rw [jh]
  by_cases az:s.1=x.2.1
  ·rw [if_pos az]
   constructor
   ·rintro⟨t,aW,aa⟩
    have gw:=sM.1 aa
    rcases axA.1 aW with rfl|aW
    ·exact vN ab.2 gw.2
    ·have:=h1 t aW;omega
   ·intro aI
    exact⟨s,by simp,sM.2 ⟨az.symm,GN aI⟩⟩
  ·rw [if_neg az,<-ih ar]
   constructor
   ·rintro⟨t,aW,aa⟩
    rcases axA.1 aW with rfl|aW
    ·exact absurd (sM.1 aa).1.symm az
    ·exact⟨t,aW,aa⟩
   ·rintro⟨t,aW,aa⟩
    exact⟨t,by simp [aW],aa⟩
theorem gP.eq{ss:List bF}{l m:List dr}(h:gP ss l)(h':gP ss m):l=m:=KM h.1 h'.1 λx=>by rw [h.2,h'.2]
theorem Rp{rows:List dr}{x:dr}:(x.1,x.2.2)∈jg rows x.2.1↔x∈rows:=by
 unfold jg
 rw [ayf]
 constructor
 ·rintro⟨y,aA,e⟩
  have h1:=ax2.1 aA
  have ab:=of_decide_eq_true h1.2
  simp only [Prod.mk.injEq]at e
  have:y=x:=Prod.ext e.1 (Prod.ext ab e.2)
  rw [<-this];exact h1.1
 ·intro h
  exact⟨x,ax2.2 ⟨h,by simp⟩,rfl⟩
theorem I4{α:Type}{cf:α->α->Int}:∀a b:List α,(h2 cf a b).length<=a.length+b.length
 |[],b=>by rw [wH];simp
 |x::a,[]=>by rw [yu];simp
 |x::a,y::b=>by
  rw [yv]
  split
  ·have:=I4 (cf:=cf) a (y::b);simp at *;omega
  ·split
   ·have:=I4 (cf:=cf) a b;simp at *;omega
   ·have:=I4 (cf:=cf) (x::a) b;simp at *;omega
termination_by a b=>a.length+b.length
theorem Gi{uv:Option Addr}{ni lc:Nat}{hs:List aS}{ss:List bF}{K:Option Addr->Nat->Nat->U->Prop}(aa:bt dM H uv ni lc hs)(bB:eG H hs ss)(cp:vP ss)(NI:ni<=10000)(eo:∀s∈ss,s.2.length<=10000)
  (hk:∀aV bn bg H' rows,Own dP 103 H.size H' aV bn bg rows->gP ss rows->bn<=10000*ni->Fr [] H H'->K aV bn bg H'):
  dy amH [J uv ni lc] H K:=by
 apply amI
 have rA:=aa.len
 have amt:ss.length=ni:=by rw [rA];exact bB.len.symm
 refine⟨λae H'=>match ae with
   |[.slice a n c,.int _ i]=>∃(k:Nat) (rows:List dr),i=k/\k<=ni/\Own dP 103 H.size H' a n c rows/\gP (ss.take k) rows/\n<=10000*k/\Fr [] H H'
   |_=>False,
  λae _=>match ae with|[_,.int _ i]=>ni-i.toNat|_=>0,⟨0,[],rfl,by omega,Own.nil _ _ _ _,gP.nil,by omega,Fr.refl _ _⟩,?_⟩
 rintro br a n c i H1 ⟨k,rows,rfl,eC,cB,mP,bb,cv⟩
 refine au (λaF=> ?_) (λaF=>⟨_,_,_,rfl,?_⟩)
 rotate_left
 ·rw [ayB (by simp at aF;omega)]at mP
  exact hk a n c H1 rows cB mP (by omega) cv
 have b':k<ni:=by simpa using aF
 have hx:ss[k]?=some (ss[k]'(by omega)):=by simp
 generalize ss[k]'(by omega)=s at hx
 obtain⟨y,G8,qq⟩:=dd.get' bB hx
 have pS:=eo s (azR hx)
 have s0:=qq.2.len
 refine(aa.ag cv).get rfl G8 (bh (by omega)) λaC b4 av=>⟨_,_,_,_,iP av,?_⟩
 refine iS (v:=h9 y) (by kernel_rfl) (by kernel_rfl) (by simp [azI,aAx]) rfl λb ao al bM bG=> ?_
 have bM:a6 ao ⟨b,0,none⟩ (dM.cells y):=bM
 have pE:=cv.aT bG
 refine⟨_,_,_,bM.cF 1 rfl,?_⟩
 refine⟨λae H'=>match ae with
   |[.slice ad l d,.int _ i]=>∃j:Nat,i=j/\j<=y.2.2.1/\Own dP 103 ao.size H' ad l d ((hP s).take j)/\Fr [] ao H'
   |_=>False,
  λae _=>match ae with|[_,.int _ i]=>y.2.2.1-i.toNat|_=>0,⟨0,rfl,by omega,Own.nil _ _ _ _,Fr.refl _ _⟩,?_⟩
 rintro br ad l d i aP ⟨j,rfl,bq,fP,bP⟩
 have kT:=pE.aT bP
 have aws:(hP s).length=s.2.length:=by unfold hP;simp
 refine au (λh1=> ?_) (λh1=> ?_)
 ·have fc:j<y.2.2.1:=by simpa using h1
  have aH:s.2[j]?=some (s.2[j]'(by omega)):=by simp
  generalize s.2[j]'(by omega)=p at aH
  refine(qq.2.ag kT).get rfl aH (bh (by omega)) λaC b4 av=>⟨_,_,hL av,?_⟩
  refine iS (v:=n' p) (by kernel_rfl) (by kernel_rfl) (by simp [azI,aAx]) rfl λjy a8 gm yz cm=> ?_
  have yz:a6 a8 ⟨jy,0,none⟩ (encS.cells p):=yz
  refine⟨_,yz.bY rfl,_,((bM.ag bP).ag cm).bY rfl,_,yz.cF 1 rfl,?_⟩
  have ea:=fP.1
  rw [List.length_take]at ea
  refine pj (E:=dP) ((p.1,y.1,p.2):dr) tY tZ (fP.ag cm) (bP.aT cm) rfl (by omega) λ_ l' fG d' bA fZ cb _=> ?_
  rw [cE (by omega)]
  refine⟨⟨j+1,rfl,by omega,?_,cb⟩,dU fc⟩
  have ba:(hP s)[j]?=some (p.1,y.1,p.2):=by unfold hP;rw [List.getElem?_map,aH,qq.1];rfl
  rw [azP,ba];exact fZ
 ·rw [ayB (by simp at h1;omega)]at fP
  have ea:=fP.1
  refine alM alV (cB.bT.ag (bG.aT bP)) fP.bT (by omega) λaV bn bg a8 gg cm=> ?_
  rw [cE (by omega)]
  have dW:=gP.step cp hx mP
  have amu:=kT.size
  refine⟨⟨k+1,_,rfl,by omega,gg.base (by omega),dW,?_,kT.aT cm⟩,dU b'⟩
  have awt:=gg.1
  have iA:=I4 (cf:=lJ) rows (hP s)
  have:=cB.1
  omega
theorem Wc{aC:Addr}{x:bl}(h:gu H aC (encS.cells x)):ah 3 H (aC.add 1) (.int .i64 x.2):=pC (by kernel_rfl) h (j:=1) rfl
end Go.Proofs.aS
namespace Go.Proofs
abbrev apY:=Int×Int×Int
def full(x:apY):Prop:=x.2.1<x.2.2
end Go.Proofs
namespace Go.Proofs.Cv
end Go.Proofs.Cv
namespace Go.Proofs
def Av(hs:List aS.aS):List Nat:=hs.flatMap λm=>an m.2.1
variable{H H':U}{n b cZ q c cu r N M:Nat}{X:U->Prop}{S Sd:List Nat}{s d:Addr}{ae:List Value}
theorem fO{p:Option Addr}(h:∀k∈an p,k∉S):∀aC,p=some aC->aC.block∉S:=λaC e=>h aC.block (by simp [e,an])
theorem eG.af{hs:List aS.aS}{ss:List aS.bF}(h:aS.eG H hs ss)(ai:Fr S H H')(ay:∀k∈Av hs,k∉S):aS.eG H' hs ss:=
 aS.dd.mono h λm y hm _ aB=>⟨aB.1,aB.2.af ai (fO λk hk=>ay k (List.mem_flatMap.2 ⟨m,hm,hk⟩))⟩
open aS (bF eG kC dM encS cy h9 n')
structure so(t:TypeId)(base:Nat)(H:U)(ad:Option Addr)(l d:Nat)(hs:List aS.aS)(ss:List bF):Prop where
 own:Own dM t base H ad l d hs
 kE:eG H hs ss
 gd:∀m∈hs,er (an ad) (an m.2.1)
 ne:∀s∈ss,s.2≠[]
theorem so.ag{t:TypeId}{base:Nat}{ad:Option Addr}{l d:Nat}{hs:List aS.aS}{ss:List bF}(h:so t base H ad l d hs ss)(ai:Fr [] H H'):so t base H' ad l d hs ss:=⟨h.own.ag ai,h.kE.ag ai,h.gd,h.ne⟩
theorem so.nil(t:TypeId)(H:U):so t H.size H none 0 0 [] []:=⟨Own.nil _ _ _ _,.nil,by simp,by simp⟩
theorem so.push{t ts:TypeId}{cw:U}{ad:Option Addr}{l d:Nat}{hs:List aS.aS}{ss:List bF}{ty gk:TypeId}{K:Option Addr->Nat->Nat->U->Prop}(m:aS.aS)(s:bF)(ji:sliceB azB ts t=true)(aW:j8 azB t 2 32=true)
  (h:so t cw.size H ad l d hs ss) (ai:Fr [] cw H) (aB:kC H m s) (ay:s.2≠[]) (aR:er (an ad) (an m.2.1)) (aI:ae=dM.cells m) (aG:l<=1000000000)
  (hk:∀l' fG d' H',so t cw.size H' l' fG d' (hs++[m]) (ss++[s])->Fr [] cw H'->fG=l+1->K l' fG d' H'):
  ∀b H1,dV H b (.cells ⟨ae⟩ gk) H1->bO (Builtin.append_ ⟨[ts,ts]⟩ ty ⟨[.slice ad l d,.slice (some ⟨b,0,none⟩) 1 1]⟩) H1 λv H'=>∃a n c,v=.slice a n c/\K a n c H':=λb H1 bb=>by
 have s1:=bb.size
 have hh:=ai.size
 refine ic (E:=dM) ji aW (h.own.ag bb.af) (fy dM m bb aI) (by omega) (by omega) λl' fG d' ao dk bG ln=> ?_
 have pV:=dk.1
 have kp:=h.own.1
 simp at pV
 have XH:∀m' s',kC H m' s'->s'.2≠[]->er (an ad) (an m'.2.1)->er (an l') (an m'.2.1):=λm' s' ks DP hd' k hk dc=>by
  rcases ln k hk with h1|h1
  ·exact hd' k h1 dc
  ·have:=aS.GR ks.2 DP k dc;omega
 have XI:∀{m':aS.aS} {s':bF},kC H1 m' s'->er (an ad) (an m'.2.1)->kC ao m' s':=λ{m' s'} ks hd'=>⟨ks.1,ks.2.af bG (fO λk hk dc=>hd' k dc hk)⟩
 refine hk l' fG d' ao ⟨dk,aS.dd.app ?_ (.cons (XI ⟨aB.1,aB.2.ag bb.af⟩ aR) .nil),λm' fv=> ?_,λs' cQ=> ?_⟩ ((ai.aT bb.af).ag bG λk hk=>((h.own.ag bb.af).ge k hk).1) (by omega)
 ·exact(h.kE.ag bb.af).mono λm' s' fv _ ks=>XI ks (h.gd m' fv)
 ·rcases azb.1 fv with fv|fv
  ·obtain⟨s',cQ,ks⟩:=aS.dd.mem h.kE fv
   exact XH m' s' ks (h.ne s' cQ) (h.gd m' fv)
  ·simp at fv;subst fv
   exact XH m' s aB ay aR
 ·rcases azb.1 cQ with cQ|cQ
  ·exact h.ne s' cQ
  ·simp at cQ;subst cQ;exact ay
def o1(p:Int->bl->Bool)(ss:List bF):List bF:=(ss.map λs=>(s.1,s.2.filter (p s.1))).filter λs=>decide (s.2≠[])
theorem abJ{p:Int->bl->Bool}{ss:List bF}(h:cy ss):cy (o1 p ss):=by
 unfold o1
 refine⟨List.Pairwise.filter _ (az5.2 (h.1.imp λh=>h)),λs hs=> ?_⟩
 obtain⟨h1,ab⟩:=ax2.1 hs
 obtain⟨hh,ar,rfl⟩:=ayf.1 h1
 exact⟨by simpa using ab,List.Pairwise.filter _ (h.2 hh ar).2⟩
open aS (bF eG kC dM encS cy h9 n' cL)
def sd(m:h6):List Nat:=an m.2.1.1++(an m.2.2.1.1++an m.2.2.2.1.1)
theorem aqh{dE:Nat}{bC:List Nat}{L:List bR}(h:dh.k9 H dE bC L):In H bC:=by
 obtain⟨_,a,n,c,hs,ha,eF,eA,eb,h1,_⟩:=h
 exact h1.jz
theorem pM{v:Value}(h:v.oneCell'=true):∀x∈v.cells.toList,x.oneCell'=true:=by
 cases v<;>first|(intro x aa;simp [azI]at aa;subst aa;exact h)|(simp [aAx]at h)
open aS (bF cL)
theorem mF.af{m:h6}{r:eW}(h:mF H m r)(ai:Fr S H H')(ay:∀k∈sd m,k∉S):mF H' m r:=
 ⟨h.k,h.l.af ai (fO λk hk=>ay k (by simp [sd,hk])),h.rows.af ai (fO λk hk=>ay k (by simp [sd,hk])),h.gU.af ai (fO λk hk=>ay k (by simp [sd,hk])),h.at'⟩
theorem wB.af{ms:List h6}{rs:List eW}(h:wB H ms rs)(ai:Fr S H H')(ay:∀m∈ms,∀k∈sd m,k∉S):wB H' ms rs:=
 ⟨h.1,λi m r hm aB=>mF.af (h.2 i m r hm aB) ai (ay m (azR hm))⟩
theorem aqi:aZ.ly ei:=by
 unfold aZ.ly ei
 decide
theorem aqj(size:Int)(st:aZ.gB)(dat:ByteArray):((aZ.writeS size st ei dat).2=0/\(aZ.writeS size st ei dat).1={st with now:=aZ.oi st.now ei dat})\/((aZ.writeS size st ei dat).2≠0/\(aZ.writeS size st ei dat).1=st):=by
 unfold aZ.writeS
 rw [if_pos aqi]
 unfold aZ.changeM
 split
 ·exact .inl ⟨rfl,rfl⟩
 ·exact .inr ⟨by simp,rfl⟩
open aS (dd)
abbrev ob:=eH×Int×Int
def l5:di ob:=⟨λx=>[.slice x.1.1 x.1.2.1 x.1.2.2,.int .i64 x.2.1,.int .i64 x.2.2],3,λ_=>rfl,by decide,λ_ v h=>by simp at h;rcases h with rfl|rfl|rfl<;>rfl⟩
abbrev dZ:=bR×Int×Int
def FV(H:U)(m:ob)(p:dZ):Prop:=bt g' H m.1.1 m.1.2.1 m.1.2.2 p.1/\m.2=p.2
def wV(H:U)(ms:List ob)(ps:List dZ):Prop:=dd (FV H) ms ps
theorem wV.ag{ms:List ob}{ps:List dZ}(h:wV H ms ps)(ai:Fr [] H H'):wV H' ms ps:=dd.mono h λm p _ _ aB=>⟨aB.1.ag ai,aB.2⟩
abbrev JC(m:ob):Value:=.agg ⟨[.slice m.1.1 m.1.2.1 m.1.2.2,.int .i64 m.2.1,.int .i64 m.2.2]⟩
theorem XJ{aC:Addr}{m:ob}(h:gu H aC (l5.cells m)):ah 47 H aC (JC m):=vU (by kernel_rfl) (by kernel_rfl) h
theorem XK{m:ob}{zs:List Value}{H1:U}(ay:dV H b (.cells ⟨zs⟩ 47) H1)(aE:zs.length=3)(k:∀H',a6 H' ⟨b,0,none⟩ (l5.cells m)->Fr [] H H'->X H'):∃H',bp 47 H1 ⟨b,0,none⟩ (JC m) H'/\X H':=by
 refine ay.bz.iQ (v:=JC m) (by kernel_rfl) (by kernel_rfl) (λx aa=>by simp [azI]at aa;rcases aa with rfl|rfl|rfl<;>rfl) (by simp [azI,aE]) λH' al ai=>k H' ?_ (ay.af.ag ai λk hk=>by simp at hk;have:=ay.eq;omega)
 have e:zs.drop 3=[]:=az2 (by omega)
 simpa [azI,l5,e]using al
def h3(past:Int)(p:dZ):Prop:=fa p.1/\0<=p.2.1/\p.2.1<1099511627776/\past<=p.2.1
theorem aqk{ef:Operand}:kM azB (jk .neq 93 ef (.const .nilIface) .nilIface .nilIface) (.bool false):=
 zx (r:=true) (by simp [eqGuard]) rfl λd w=>by simp [Op.equalIn,eU aAY]
theorem aql{ef:Operand}{t:TypeId}{v:Value}:kM azB (jk .neq 93 ef (.const .nilIface) (.iface t v) .nilIface) (.bool true):=
 zx (r:=false) (by simp [eqGuard]) rfl λd w=>by simp [Op.equalIn,eU aAY]
def XL(H:U)(v:Value)(e:Int):Prop:=(v=.iface 96 (.agg ⟨[.int .i64 e]⟩))\/(v=.iface 165 (.agg ⟨[]⟩)/\e=1)\/(v=.iface 166 (.agg ⟨[]⟩)/\e=211)
open aS (bF cL eK)
def pG(ss:List bF):Prop:=∀s∈ss,(0<=s.1/\s.1<200)/\∀y∈s.2,eM y.1/\eM y.2
def OW(x:Row):Prop:=eM x.1/\(0<=x.2.1/\x.2.1<200)/\eM x.2.2
theorem pG.eK{x:Row}(aa:OW x):∀{ss:List bF},pG ss->pG (aS.eK ss x)
 |[],_=>λs hs=>by
  simp [aS.eK]at hs;subst hs
  exact⟨aa.2.1,λy aA=>by simp at aA;subst aA;exact⟨aa.1,aa.2.2⟩⟩
 |s::ss,h=>by
  unfold aS.eK
  split
  ·intro z aE
   rcases axA.1 aE with rfl|aE
   ·exact⟨aa.2.1,λy aA=>by simp at aA;subst aA;exact⟨aa.1,aa.2.2⟩⟩
   ·exact h z aE
  ·split
   ·intro z aE
    rcases axA.1 aE with rfl|aE
    ·refine⟨(h s (by simp)).1,λy aA=> ?_⟩
     rcases As _ _ aA with q|q
     ·exact(h s (by simp)).2 y q
     ·simp at q;subst q;exact⟨aa.1,aa.2.2⟩
    ·exact h z (by simp [aE])
   ·intro z aE
    rcases axA.1 aE with rfl|aE
    ·exact h z (by simp)
    ·exact pG.eK aa (ss:=ss) (λw hw=>h w (by simp [hw])) z aE
theorem pG.put:∀{rows:List Row} {ss:List bF},pG ss->(∀x∈rows,OW x)->pG (cL ss rows)
 |[],_,h,_=>h
 |x::rows,ss,h,aB=>pG.put (rows:=rows) (ss:=aS.eK ss x) (h.eK (aB x (by simp))) λy aA=>aB y (by simp [aA])
theorem aqm{r:eW}(h:oN r):∀x∈r.rows,OW x:=λx aa=>by
 have h1:=h.wA.row x aa
 have ab:=h.typ x aa
 unfold Ez at h1
 exact⟨⟨by omega,by omega⟩,⟨by omega,by omega⟩,ab⟩
def eD(ss:List bF):Nat:=(ss.map λs=>s.2.length).sum
theorem JD(x:Row):∀ss:List bF,eD (aS.eK ss x)<=eD ss+1
 |[]=>by simp [aS.eK,eD]
 |s::ss=>by
  unfold aS.eK
  split
  ·simp [eD];omega
  ·split
   ·have:=E' s.2 [(x.1,x.2.2)]
    simp only [eD,axE,azT,ayi,azs]at this⊢
    omega
   ·have:=JD x ss
    simp only [eD,axE,azT]at this⊢
    omega
theorem OX:∀(rows:List Row) (ss:List bF),eD (cL ss rows)<=eD ss+rows.length
 |[],ss=>axx _
 |x::rows,ss=>by
  have h1:=JD x ss
  have ab:=OX rows (aS.eK ss x)
  have e:cL ss (x::rows)=cL (aS.eK ss x) rows:=rfl
  rw [e,ayi];omega
theorem n2.af(h:n2 H)(ai:Fr S H H')(ay:∀k∈S,k≠0):n2 H':=λk hk=>ai.cell (h k hk) (λaq=>ay _ aq rfl)
theorem XM:∀rs:List eW,eM (mH rs)
 |[]=>⟨by simp [mH],by simp [mH]⟩
 |r::rs=>by
  unfold mH
  split
  ·unfold pz;split
   ·split<;>exact⟨by decide,by decide⟩
   ·exact⟨by decide,by decide⟩
  ·exact XM rs
open aS (dd)
open dh (qU)
theorem aqn{e:Int}:Rd azB (Instr.typeAssert (.iface 96 (.agg ⟨[.int .i64 e]⟩)) 93 96 true) H (.tuple ⟨[.agg ⟨[.int .i64 e]⟩,.bool true]⟩):=λw _=>by kernel_rfl
theorem aqo:Rd azB (Instr.typeAssert (.iface 165 (.agg ⟨[]⟩)) 93 96 true) H (.tuple ⟨[.agg ⟨[.int .i64 0]⟩,.bool false]⟩):=λw _=>by kernel_rfl
theorem aqp:Rd azB (Instr.typeAssert (.iface 166 (.agg ⟨[]⟩)) 93 96 true) H (.tuple ⟨[.agg ⟨[.int .i64 0]⟩,.bool false]⟩):=λw _=>by kernel_rfl
theorem aqq(w:World):(method (Tryz.prog.types.size+Made.depth) 165 (.agg ⟨[]⟩) "strandline/engine.errno").run azB w=.ok (426,.agg ⟨[]⟩) w:=by kernel_rfl
theorem aqr(w:World):(method (Tryz.prog.types.size+Made.depth) 166 (.agg ⟨[]⟩) "strandline/engine.errno").run azB w=.ok (427,.agg ⟨[]⟩) w:=by kernel_rfl
theorem OY{e:Int}{H1:U}(ay:dV H b (.cells ⟨[.int .i64 0]⟩ 96) H1)(k:∀H',a6 H' ⟨b,0,none⟩ [.int .i64 e]->Fr [] H H'->X H'):∃H',bp 96 H1 ⟨b,0,none⟩ (.agg ⟨[.int .i64 e]⟩) H'/\X H':=
 ay.bz.iQ (v:=.agg ⟨[.int .i64 e]⟩) (by kernel_rfl) (by kernel_rfl) (λx aa=>by simp [azI]at aa;subst aa;rfl) (by simp [azI]) λH' al ai=>k H' (by simpa [azI]using al) (ay.af.ag ai λk hk=>by simp at hk;have:=ay.eq;omega)
theorem aqs{v:Value}{e:Int}{R:Value->U->Prop}(h:XL H v e)(hk:∀H',Fr [] H H'->R (.int .i64 e) H'):
  ∃n b,Rd azB (Instr.typeAssert v 93 96 true) H (.tuple ⟨[.agg ⟨[.int .i64 n]⟩,.bool b]⟩)/\∀(pv:Nat) (H':U),dV H pv (.cells ⟨[.int .i64 0]⟩ 96) H'->∃lz,bp 96 H' ⟨pv,0,none⟩ (.agg ⟨[.int .i64 n]⟩) lz/\aU b (∃n,ah 33 lz ⟨pv,0,none⟩ (.int .i64 n)/\R (.int .i64 n) lz) (Li azB v "strandline/engine.errno" [] lz fun v H'=>∃n,v=.int .i64 n/\R (.int .i64 n) H'):=by
 rcases h with rfl|⟨rfl,rfl⟩|⟨rfl,rfl⟩
 ·exact⟨_,_,aqn,λb1 H1 ay=>OY ay λao al ai=>au (λ_=>⟨_,al.bY rfl,hk ao ai⟩) λc=>by simp at c⟩
 ·refine⟨_,_,aqo,λb1 H1 ay=>OY ay λao al ai=>au (λc=>by simp at c) λ_=>⟨165,_,426,_,rfl,aqq,by kernel_rfl,?_⟩⟩
  exact aqt λdz aP bw=>⟨_,rfl,hk aP (ai.aT bw.af)⟩
 ·refine⟨_,_,aqp,λb1 H1 ay=>OY ay λao al ai=>au (λc=>by simp at c) λ_=>⟨166,_,427,_,rfl,aqr,by kernel_rfl,?_⟩⟩
  exact aqu λdz aP bw=>⟨_,rfl,hk aP (ai.aT bw.af)⟩
noncomputable def iY(L:List bR)(s:List bR×List Row)(p:dZ):List bR×List Row:=
 match hY L p.1 with
 |some i=>(s.1,s.2++[(p.2.1,(i:Int),p.2.2)])
 |none=>match hY s.1 p.1 with
  |some j=>(s.1,s.2++[(p.2.1,((L.length+j:Nat):Int),p.2.2)])
  |none=>(s.1++[p.1],s.2++[(p.2.1,((L.length+s.1.length:Nat):Int),p.2.2)])
noncomputable def b6(L:List bR)(ps:List dZ):List bR×List Row:=ps.foldl (iY L) ([],[])
def oT(l:bR):eW:=⟨0,l,[],[],0⟩
noncomputable def nA(L:List bR)(ps:List dZ):List eW:=(b6 L ps).1.map oT++[⟨1,[],(b6 L ps).2,[],0⟩]
theorem aqv{L:List bR}{ps:List dZ}{k:Nat}{p:dZ}(h:ps[k]?=some p):b6 L (ps.take (k+1))=iY L (b6 L (ps.take k)) p:=by
 unfold b6
 rw [azP,h,aAh,aAZ];rfl
theorem OZ(L:List bR):∀(ps:List dZ) (s:List bR×List Row),(ps.foldl (iY L) s).1.length<=s.1.length+ps.length/\(ps.foldl (iY L) s).2.length=s.2.length+ps.length
 |[],s=>⟨by simp,by simp⟩
 |p::ps,s=>by
  obtain⟨h1,ab⟩:=OZ L ps (iY L s p)
  have ar:(iY L s p).1.length<=s.1.length+1/\(iY L s p).2.length=s.2.length+1:=by
   unfold iY
   split
   ·simp
   ·split<;>simp
  rw [ayF,ayi]
  omega
def JE(n:Nat)(F:List bR)(k:ByteArray):Option Value:=match qV F k with|some i=>some (.int .i64 ((n+i:Nat):Int))|none=>none
structure oc(H:U)(r n:Nat)(F:List bR):Prop where
 w:tk F
 m:∃ck M,dN qU H r ck M/\(∀k,dm k M=JE n F k)/\M.length=F.length
theorem oc.af{F:List bR}(h:oc H r n F)(ai:Fr S H H')(aB:r∉S):oc H' r n F:=by
 obtain⟨w,ck,M,h1,ab,ar⟩:=h
 exact⟨w,ck,M,dN.af qU h1 ai aB,ab,ar⟩
theorem oc.new(h:dV H r (.map ⟨[]⟩ 0) H'):oc H' r n []:=⟨tk.nil,0,[],dN.new qU h,λ_=>rfl,rfl⟩
theorem oc.look{F:List bR}{l:bR}(h:oc H r n F)(aG:fa l):
  Rd azB (Instr.lookup 98 (.map (some r)) (.string ⟨(hW l).toArray⟩) true) H (.tuple ⟨[.int .i64 (match hY F l with|some i=>((n+i:Nat):Int)|none=>0),.bool (hY F l).isSome]⟩):=by
 obtain⟨w,ck,M,h1,ab,ar⟩:=h
 have:=Dg (T:=qU) dh.uI dh.z3 h1 (⟨(hW l).toArray⟩:ByteArray)
 rw [ab]at this
 unfold JE at this
 rw [HT w aG]at this
 unfold hY
 cases e:F.findIdx? (λm=>decide (m=l))with
 |none=>rw [e]at this;exact this
 |some i=>rw [e]at this;exact this
theorem oc.len{F:List bR}(h:oc H r n F):Rd azB (Builtin.len_ ⟨[98]⟩ 3 ⟨[.map (some r)]⟩) H (.int .i64 F.length):=by
 obtain⟨w,ck,M,h1,ab,ar⟩:=h
 rw [<-ar]
 exact Uj qU dh.uI h1
theorem oc.put{F:List bR}{l:bR}{K:U->Prop}(h:oc H r n F)(aG:fa l)(cq:hY F l=none)(hlen:F.length<200)
  (hk:∀H',oc H' r n (F++[l])->Fr [r] H H'->K H'):jc azB (Instr.mapUpdate 98 (.map (some r)) (.string ⟨(hW l).toArray⟩) (.int .i64 ((n+F.length:Nat):Int))) H K:=by
 obtain⟨w,ck,M,h1,ab,ar⟩:=h
 have Ki:qV F ⟨(hW l).toArray⟩=none:=by rw [HT w aG];exact cq
 have ba:dm (⟨(hW l).toArray⟩:ByteArray) M=none:=by rw [ab];unfold JE;rw [Ki]
 refine t' (T:=qU) dh.uI h1 (⟨(hW l).toArray⟩:ByteArray) λH' a7 bs=>hk H' ⟨?_,_,_,a7,λk=> ?_,?_⟩ bs
 ·have:=TL w l
  unfold oF at this
  rwa [if_pos ⟨aG,HS.1 cq,hlen⟩]at this
 ·rw [sC,ab]
  unfold JE
  rw [TB k Ki]
  split<;>rfl
 ·unfold oq
  rw [ba]
  simp [ar]
open aS (dd)
def vn(aR:eH):h6:=(0,aR,(none,0,0),(none,0,0),0)
def od(aR:eH):h6:=(1,(none,0,0),aR,(none,0,0),0)
theorem aqw{b1:Nat}{aR hd':eH}(h:a6 H ⟨b1,0,none⟩ (gV (od aR)))(k:∀H',a6 H' ⟨b1,0,none⟩ (gV (od hd'))->Fr [b1] H H'->X H'):∃H',bp 82 H ⟨b1,2,none⟩ (.slice hd'.1 hd'.2.1 hd'.2.2) H'/\X H':=
 a6.st (a:=⟨b1,0,none⟩) (j:=2) (v:=.slice hd'.1 hd'.2.1 hd'.2.2) h (by kernel_rfl) (by kernel_rfl) (pM rfl) (by simp [azI,gV]) λH' al ai=>k H' (by simpa [azI,gV,od]using al) ai
theorem O0{b1 bI base:Nat}{id:Int}{m:ob}{aR:eH}{rows:List Row}
  (cO:a6 H ⟨bI,0,none⟩ (l5.cells m)) (dA:a6 H ⟨b1,0,none⟩ (gV (od aR))) (aw:Own kW 103 base H aR.1 aR.2.1 aR.2.2 rows) (aG:b1<base) (ED:base<=H.size) (ay:rows.length<=1000)
  (hk:∀hd' H',a6 H' ⟨b1,0,none⟩ (gV (od hd'))->Own kW 103 base H' hd'.1 hd'.2.1 hd'.2.2 (rows++[(m.2.1,id,m.2.2)])->Fr (b1::an aR.1) H H'->X H'):
  ∃a n c,ah 82 H ⟨b1,2,none⟩ (.slice a n c)/\∃n8,ah 3 H ⟨bI,1,none⟩ (.int .i64 n8)/\∃n9,ah 3 H ⟨bI,2,none⟩ (.int .i64 n9)/\∀(b:Nat) (H1:U),dV H b (.cells ⟨[.int .i64 n8,.int .i64 id,.int .i64 n9]⟩ 103) H1->bO (Builtin.append_ ⟨[82,82]⟩ 82 ⟨[.slice a n c,.slice (some ⟨b,0,none⟩) 1 1]⟩) H1 λv ao=>∃a n c,v=.slice a n c/\∃aP,bp 82 ao ⟨b1,2,none⟩ (.slice a n c) aP/\X aP:=by
 refine⟨_,_,_,dA.cF 2 rfl,_,cO.cF 1 rfl,_,cO.cF 2 rfl,λb H1 bb=> ?_⟩
 have ea:=aw.1
 have s1:=bb.size
 refine ic (t:=103) (E:=kW) (bytes:=24) aS.tY aS.tZ (aw.ag bb.af) (fy kW (m.2.1,id,m.2.2) bb rfl) (by omega) (show(aR.2.1+1)*24<=_ by omega) λaV bn bg ao dk bG ba=> ?_
 have zQ:=(dA.ag bb.af).af bG λaq=>by have:=(aw.ge _ aq).1;simp only at this;omega
 refine aqw (hd':=(aV,bn,bg)) zQ λaP fm bP=>hk (aV,bn,bg) aP fm (dk.af bP (fO λk hk aq=>by simp at aq;have:=(dk.ge k hk).1;omega)) ?_
 exact(bb.af.trans' bG (T:=b1::an aR.1) (by simp) λk hk _=>axU _ hk).trans' bP (λk hk _=>hk) λk hk _=>by simp at hk;simp [hk]
theorem aqx(F:List bR)(rows:List Row):lq (F.map oT++[⟨1,[],rows,[],0⟩])=rows.length:=by
 unfold lq
 rw [azj,aAc]
 have:((F.map oT).map pA).sum=0:=by
  induction F with
  |nil=>rfl
  |cons l F ih=>simp only [axE,azT,ih];rfl
 rw [this];simp [pA]
theorem XN{L:List bR}:∀{ps:List dZ} {s:List bR×List Row},(∀x∈s.2,eM x.2.2)->(∀p∈ps,eM p.2.2)->∀x∈(ps.foldl (iY L) s).2,eM x.2.2
 |[],_,h,_=>h
 |p::ps,s,h,aH=>XN (ps:=ps) (s:=iY L s p) (λx aa=>by
   have q:∀(i:Int),x∈s.2++[(p.2.1,i,p.2.2)]->eM x.2.2:=λi aa=>by
    rcases azb.1 aa with w|w
    ·exact h x w
    ·simp at w;subst w;exact aH p (by simp)
   unfold iY at aa
   split at aa
   ·exact q _ aa
   ·split at aa<;>exact q _ aa) λy aA=>aH y (by simp [aA])
abbrev nB(H:U)(base:Nat)(iL:List eH)(F:List bR):Prop:=dd (fun(aR:eH) l=>Own g' 51 base H aR.1 aR.2.1 aR.2.2 l) iL F
theorem nB.af{base:Nat}{iL:List eH}{F:List bR}(h:nB H base iL F)(ai:Fr S H H')(ay:∀aR∈iL,∀k∈an aR.1,k∉S):nB H' base iL F:=dd.mono h λaR l hm _ aB=>aB.af ai (fO (ay aR hm))
open aS (dd bF eG kC dM encS dP cy vP hP gP cL h9 iP ia)
theorem aqy{x y:Int}{K:Bool->U->Prop}(hk:K (decide (x<y)) H):eu 218 [o x,o y] H K:=by
 apply aqz
 apply Nh
 exact⟨_,rfl,au (λh=>by simp at h) λ_=>⟨_,rfl,hk⟩⟩
theorem aqA{a:Option Addr}{os:List Int}{t:Int}{K:Int->Bool->U->Prop}(aa:bt cH H a n c os)(aB:jJ os)(ay:n<=1000000000)(hk:∀i,K i (decide (t∈os)) H):
  aK aqB [J a n c,o t] H λv H'=>∃i b,v=.tuple ⟨[.int .i64 i,.bool b]⟩/\K i b H':=by
 apply aqC
 have aG:=aa.len
 have bQ:∀{p q:Nat} {y z:Int},os[p]?=some y->os[q]?=some z->p<q->y<z:=λ{p q y z} aH aO Dr=>by
  obtain⟨h1,rfl⟩:=axC.1 aH
  obtain⟨ab,rfl⟩:=axC.1 aO
  exact aAD.1 aB p q h1 ab Dr
 refine⟨λae H'=>match ae with|[.int _ i,.int _ j]=>∃cI dD:Nat,i=cI/\j=dD/\cI<=dD/\dD<=n/\(∀p y,os[p]?=some y->p<cI->y<t)/\(∀p y,os[p]?=some y->dD<=p->t<=y)/\H'=H|_=>False,
  λae _=>match ae with|[.int _ i,.int _ j]=>(j-i).toNat|_=>0,⟨0,n,rfl,rfl,by omega,axx _,λp y _ aH=>by omega,λp y aH aO=>by have:=(axC.1 aH).1;omega,rfl⟩,?_⟩
 rintro br i j H1 ⟨cI,dD,rfl,rfl,mn,bq,h1,ab,rfl⟩
 refine au (λc0=> ?_) (λc0=> ?_)
 ·have k4:cI<dD:=by simpa using c0
  rw [aS.zd (by omega)]
  obtain⟨y,aA⟩:=fM (l:=os) (i:=(cI+dD)/2) (by omega)
  refine aa.get rfl aA (bh (by omega)) λaC b4 av=>⟨_,jb av,aqy (au (λc1=> ?_) (λc1=> ?_))⟩
  ·have sx:y<t:=by simpa using c1
   rw [cE (by omega)]
   refine⟨⟨(cI+dD)/2+1,dD,rfl,rfl,by omega,bq,λp z aE aH=> ?_,ab,rfl⟩,by simp only;omega⟩
   by_cases e:p=(cI+dD)/2
   ·subst e;rw [aA]at aE;cases aE;exact sx
   ·have:=bQ aE aA (by omega);omega
  ·have sx:¬y<t:=by simpa using c1
   refine⟨⟨cI,(cI+dD)/2,rfl,rfl,by omega,by omega,h1,λp z aE aH=> ?_,rfl⟩,by simp only;omega⟩
   by_cases e:p=(cI+dD)/2
   ·subst e;rw [aA]at aE;cases aE;omega
   ·have:=bQ aA aE (by omega);omega
 ·have k4:cI=dD:=by simp at c0;omega
  have cq:∀{y:Int},os[cI]?=some y->y≠t->t∉os:=λ{y} aA cP hm=>by
   obtain⟨p,aH⟩:=aAw hm
   rcases Nat.lt_trichotomy p cI with q|q|q
   ·have:=h1 p t aH q;omega
   ·subst q;rw [aA]at aH;cases aH;exact cP rfl
   ·have:=bQ aA aH q
    have:=ab cI y aA (by omega);omega
  refine au (λc1=> ?_) (λc1=>⟨_,_,rfl,?_⟩)
  ·have sx:cI<n:=by simpa using c1
   obtain⟨y,aA⟩:=fM (l:=os) (i:=cI) (by omega)
   refine aa.get rfl aA (bh (by omega)) λaC b4 av=>⟨_,jb av,au (λc2=>⟨_,_,rfl,?_⟩) (λc2=> ?_)⟩
   ·have FW:y=t:=by simpa using c2
    have:=hk (cI:Int)
    rwa [bh (by rw [<-FW];exact azR aA)]at this
   ·have FW:y≠t:=by simpa using c2
    refine aa.get rfl aA (bh (by omega)) λaC b4 av=>⟨_,jb av,aqD _ _ _ ⟨_,rfl,au (λc3=>by simp at c3) λ_=>⟨_,_,rfl,?_⟩⟩⟩
    have:=hk (cI:Int)
    rwa [decide_eq_false (cq aA FW)]at this
  ·have:=hk (cI:Int)
   rwa [decide_eq_false λhm=>by
    obtain⟨p,aH⟩:=aAw hm
    have:=(axC.1 aH).1
    simp at c1
    have:=h1 p t aH (by omega);omega]at this
theorem aqE{a:Option Addr}{os:List Int}{t:Int}{K:Bool->U->Prop}(aa:bt cH H a n c os)(aB:jJ os)(ay:n<=1000000000)(hk:K (decide (t∈os)) H):
  eu aqF [J a n c,o t] H K:=by
 apply aqG
 exact aqA aa aB ay λi=>⟨_,rfl,hk⟩
def O1(f t:Int):Prop:=0<=f/\f<t/\t<=1099511627776
instance(f t:Int):Decidable (O1 f t):=inferInstanceAs (Decidable (_/\_))
theorem aqH{f t:Int}{K:Bool->U->Prop}(hk:∀H',Fr [] H H'->K (decide (O1 f t)) H'):
  eu aqI [ia f t] H K:=by
 apply aqJ
 intro b H1 bb
 have al:a6 H1 ⟨b,0,none⟩ [.int .i64 f,.int .i64 t]:=bb.bz
 have h:=hk H1 bb.af
 have hX:ah 3 H1 ⟨b,0,none⟩ (.int .i64 f):=al.bY rfl
 have kd:ah 3 H1 ⟨b,1,none⟩ (.int .i64 t):=al.cF 1 rfl
 refine⟨_,hX,au (λc1=>⟨_,hX,_,kd,au (λc2=>⟨_,kd,_,rfl,?_⟩) (λc2=>⟨_,rfl,?_⟩)⟩) (λc1=>⟨_,rfl,?_⟩)⟩
 ·have e:decide (O1 f t)=decide (t<=1099511627776):=decide_eq_decide.2 ⟨λh=>h.2.2,λh=>⟨by simpa using c1,by simpa using c2,h⟩⟩
  rwa [e]at h
 ·rwa [decide_eq_false λaq=>by have:=aq.2.1;simp at c2;omega]at h
 ·rwa [decide_eq_false λaq=>by have:=aq.1;simp at c1;omega]at h
open aS (dd bF eG kC dM encS dP cy vP hP gP cL h9 iP ia)
def tO(os:List Int)(f t:Int)(ss:List bF):List Row:=(ss.filter λs=>decide (s.1∈os)).flatMap λs=>hP (s.1,s.2.filter (lP f t))
theorem XO(os:List Int)(f t:Int)(ss:List bF)(s:bF):tO os f t (ss++[s])=tO os f t ss++(if s.1∈os then hP (s.1,s.2.filter (lP f t))else []):=by
 unfold tO
 rw [aAf,List.flatMap_append]
 by_cases h:s.1∈os
 ·rw [if_pos h];simp [axT,h]
 ·rw [if_neg h];simp [axT,h]
theorem XP(os:List Int)(f t:Int):∀ss:List bF,(tO os f t ss).length<=eD ss
 |[]=>axx _
 |s::ss=>by
  have h:=XP os f t ss
  have ab:=aAm (lP f t) s.2
  have ar:(hP (s.1,s.2.filter (lP f t))).length=(s.2.filter (lP f t)).length:=by unfold hP;simp
  unfold tO eD at h⊢
  rw [axT]
  split
  ·rw [List.flatMap_cons,ax6,ar,axE,azT];omega
  ·rw [axE,azT];omega
theorem O2(ss:List bF)(k:Nat):eD (ss.take k)<=eD ss:=by
 have:eD ss=eD (ss.take k)+eD (ss.drop k):=by
  unfold eD
  rw [<-aAc,<-azj,aAd]
 omega
open aS (dd bF eG kC dM encS cy cL h9 iP ia)
theorem yF{α:Type}{E:di α}:bt E H none 0 0 []:=⟨rfl,axx _,.inl rfl⟩
open aS (dd bF eG kC dM encS cy cL h9 iP Ny wI)
theorem aqK{v:Int}(h:eM v):(⟨(mG v).toArray⟩:ByteArray).size<=10:=by
 rw [fD];exact hD (tB h)
theorem XQ{v:Int}{K:ByteArray->U->Prop}(aI:eM v)(hk:∀H',Fr [] H H'->(⟨(mG v).toArray⟩:ByteArray).size<=10->K ⟨(mG v).toArray⟩ H'):aK 40 [o v] H λw H'=>∃s,w=.string s/\K s H':=akr aI λH' ai=>hk H' ai (aqK aI)
theorem aqL{ss:List bF}{k:Nat}{s:bF}(h:ss[k]?=some s):eD (ss.take (k+1))=eD (ss.take k)+s.2.length:=by
 rw [azP,h]
 unfold eD
 rw [azj,aAc];simp
def O3(s:ByteArray)(p:bl):ByteArray:=s++⟨(mG p.1).toArray⟩++⟨(mG p.2).toArray⟩
open Classical in
noncomputable def ra(l:bR):ByteArray:=if fa l then⟨(lW l).toArray⟩else⟨#[]⟩
noncomputable def JF(L:List bR)(id:Int):bR:=if 0<=id then L.getD id.toNat []else []
noncomputable def stepA(L:List bR)(s:ByteArray)(x:bF):ByteArray:=x.2.foldl O3 (s++ra (JF L x.1))++⟨#[10]⟩
theorem aqM(l:bR):(ra l).size<=700:=by
 unfold ra
 split
 ·rename_i h;rw [fD];exact x6 h
 ·exact ayv _
theorem XR{α β:Type}(f:β->α->β)(b:β){l:List α}{k:Nat}{x:α}(h:l[k]?=some x):(l.take (k+1)).foldl f b=f ((l.take k).foldl f b) x:=by
 rw [azP,h,aAh,aAZ];rfl
theorem XS{a:Option Addr}{l:bR}{K:ByteArray->Int->U->Prop}(aa:bt g' H a n c l)(hk:∀e,K (ra l) e H):aK Vr [J a n c] H λv H'=>∃s e,v=.tuple ⟨[.string s,.int .i64 e]⟩/\K s e H':=
 aj8 aa (λdj=>by have:=hk 40;unfold ra at this;rwa [if_neg dj]at this) λdj=>by have:=hk 0;unfold ra at this;rwa [if_pos dj]at this
section
variable{H:U}{b:Nat}{aaw:Int}{bX v:ByteArray}{aR:eH}{X:U->Prop}
end
open aS (dd ia)
open aS (dd ia)
open aS (dd ia)
structure jL(H:U):Prop where
 uy:n2 H
 Kb:∃m,j5 H ⟨1,0,none⟩=some (.int .i64 m)
 p10:∃t f,H[2]?=some (.cells (Lib.pow10Tab.map λz=>Value.int .u64 z).toArray t f)
 syn:∃u x,j5 H ⟨3,0,none⟩=some (.iface u x)
 rng:∃u x,j5 H ⟨4,0,none⟩=some (.iface u x)
theorem jL.af(h:jL H)(ai:Fr S H H')(ay:∀k∈S,7<=k):jL H':=by
 have no:∀k,k<7->k∉S:=λk hk aq=>by have:=ay k aq;omega
 obtain⟨h1,⟨m,ab⟩,⟨t,f,ar⟩,⟨u,x,a7⟩,⟨nZ,x',bs⟩⟩:=h
 exact⟨h1.af ai λk hk=>by have:=ay k hk;omega,⟨m,ai.cell ab (no 1 (by decide))⟩,⟨t,f,ai.get ar (no 2 (by decide))⟩,⟨u,x,ai.cell a7 (no 3 (by decide))⟩,⟨nZ,x',ai.cell bs (no 4 (by decide))⟩⟩
theorem jL.ag(h:jL H)(ai:Fr [] H H'):jL H':=h.af ai (by simp)
theorem jL.acM(h:jL H):∀w:World,w.heap=H->Lib.TabIs azB w "internal/strconv.uint64pow10" .u64 Lib.pow10Tab:=fun w hw=>by
 obtain⟨t,f,ar⟩:=h.p10
 unfold Lib.TabIs World.var?
 have e:Tryz.prog.globalNamed "internal/strconv.uint64pow10" =some 2:=by kernel_rfl
 rw [e,Option.bind_some,hw,ar]
theorem RU{ef:Operand}:kM azB (jk .neq 172 ef (.const .nilIface) .nilIface .nilIface) (.bool false):=
 zx (r:=true) (by simp [eqGuard]) rfl λd w=>by simp [Op.equalIn,eU Tryz.underlying172]
open aS (dd ia eG dM cy)
open aS (dd ia eG dM cy dP)
open aS (dd ia)
abbrev aqN:=Int×Int×Int×Int×Int
section
variable{H:U}{b:Nat}{w:aqN}{X:U->Prop}
end
open aS (dd ia)
open aS (dd ia)
open aS (dd ia eG dM h9 iP)
open aS (ia eG dM)
abbrev JG:=Int×eH×eH×Int×Int×Int×Int×ByteArray
def yG:di JG:=⟨λad=>[.int .i64 ad.1,.slice ad.2.1.1 ad.2.1.2.1 ad.2.1.2.2,.slice ad.2.2.1.1 ad.2.2.1.2.1 ad.2.2.1.2.2,.int .i64 ad.2.2.2.1,.int .i64 ad.2.2.2.2.1,.int .i64 ad.2.2.2.2.2.1,.int .i64 ad.2.2.2.2.2.2.1,.string ad.2.2.2.2.2.2.2],8,λ_=>rfl,by decide,λ_ v h=>by simp at h;rcases h with rfl|rfl|rfl|rfl|rfl|rfl|rfl|rfl<;>rfl⟩
open aS (dd)
theorem xC{P:Program}{t:TypeId}{aC:Addr}{v:Value}(aW:nn P t=false)(h:gu H aC ae)(aI:ae[0]?=some v):jS P t H aC v:=x7 aW (by have:=h 0 v aI;rwa [Ms]at this)
theorem dd.XT{α β:Type}{R:α->β->Prop}:∀{l:List α},(∀x∈l,∃y,R x y)->∃ys,dd R l ys
 |[],_=>⟨[],.nil⟩
 |x::l,h=>by
  obtain⟨y,aA⟩:=h x (by simp)
  obtain⟨ys,ru⟩:=dd.XT (l:=l) λz aE=>h z (by simp [aE])
  exact⟨y::ys,.cons aA ru⟩
abbrev cK:=Int×Int×ByteArray
def gf:di cK:=⟨λx=>[.int .i64 x.1,.int .i64 x.2.1,.string x.2.2],3,λ_=>rfl,by decide,λ_ v h=>by simp at h;rcases h with rfl|rfl|rfl<;>rfl⟩
abbrev JH(x:cK):Value:=.agg ⟨[.int .i64 x.1,.int .i64 x.2.1,.string x.2.2]⟩
theorem vB{aC:Addr}{x:cK}(h:gu H aC (gf.cells x)):ah 122 H aC (JH x):=vU (by kernel_rfl) (by kernel_rfl) h
theorem za:j8 azB 122 3 32=true:=by kernel_rfl
theorem y':sliceB azB 66 122=true:=by kernel_rfl
structure lQ where
 h:eH
 next:Int
 past:Int
abbrev ig(s:lQ):List Value:=[.slice s.h.1 s.h.2.1 s.h.2.2,.int .i64 s.next,.int .i64 s.past,.bool false,.int .i64 0,.int .i64 0,.int .i64 0]
abbrev vG(s:lQ):Value:=.agg ⟨ig s⟩
theorem su{x:cK}{zs:List Value}{K:Nat->U->Prop}(aE:zs.length=3)(k:∀b H',H.size<=b->a6 H' ⟨b,0,none⟩ (gf.cells x)->Fr [] H H'->K b H'):
  ∀b H',dV H b (.cells ⟨zs⟩ 122) H'->∃hv,bp 122 H' ⟨b,0,none⟩ (JH x) hv/\K b hv:=
 iS (by kernel_rfl) (by kernel_rfl) (λv h=>by simp [azI]at h;rcases h with rfl|rfl|rfl<;>rfl) aE k
theorem XU{x:cK}(h:a6 H ⟨b,0,none⟩ ae)(aE:ae.length=3)(k:∀H',a6 H' ⟨b,0,none⟩ (gf.cells x)->Fr [b] H H'->X H'):∃H',bp 122 H ⟨b,0,none⟩ (JH x) H'/\X H':=
 h.iQ (v:=JH x) (by kernel_rfl) (by kernel_rfl) (λv h=>by simp [azI]at h;rcases h with rfl|rfl|rfl<;>rfl) (by simp [azI,aE]) λH' al ai=>k H' (by
  have e:ae.drop 3=[]:=az2 (by omega)
  simpa [azI,gf,e]using al) ai
def fW(ps:List cK)(day:Int):Option cK:=ps.find? λx=>x.1==day
theorem aqS{a:Option Addr}{b1:Nat}{day:Int}{ps:List cK}{K:Int->U->Prop}(aa:bt gf H a n c ps)(ay:n<=1000)(al:a6 H ⟨b1,0,none⟩ [.int .i64 day])
  (hk:∀(i:Nat) H',i<=n->(∀j x,j<i->ps[j]?=some x->x.1≠day)->(∀x,ps[i]?=some x->x.1=day)->Fr [] H H'->K (if i<n then i else -1) H'):
  cG aqT [J a n c,.func (Fn.func 96) ⟨[]⟩ ⟨[ax (some (ak b1))]⟩] H K:=by
 apply aqU
 have aG:=aa.len
 refine⟨λae H'=>match ae with|[.int _ i]=>∃k:Nat,i=k/\k<=n/\(∀j x,j<k->ps[j]?=some x->x.1≠day)/\Fr [] H H'|_=>False,λae _=>match ae with|[.int _ i]=>n-i.toNat|_=>0,⟨0,rfl,by omega,λ_ _ h=>by omega,Fr.refl _ _⟩,?_⟩
 rintro br i H1 ⟨k,rfl,eC,cq,f1⟩
 refine au (λc=> ?_) λc=> ?_
 ·have bg:k<n:=by simpa using c
  obtain⟨y,aA⟩:=fM (l:=ps) (i:=k) (by omega)
  refine(aa.ag f1).get rfl aA (bh (by omega)) λaC b4 av=>⟨_,_,_,vB av,96, #[],_,rfl,by kernel_rfl,?_⟩
  apply aqV
  intro bI ao bK
  refine⟨_,bK.bz.cF 0 rfl,_,((al.ag f1).ag bK.af).bY rfl,_,rfl,au (λe=> ?_) λe=> ?_⟩
  ·have dp:y.1=day:=by simpa using e
   have:=hk k ao eC cq (λx aa=>by rw [aA]at aa;cases aa;exact dp) (f1.aT bK.af)
   rw [if_pos bg]at this
   exact⟨_,rfl,this⟩
  ·have dp:y.1≠day:=by simpa using e
   rw [cE (by omega)]
   refine⟨⟨k+1,rfl,by omega,λj x bq aa=> ?_,f1.aT bK.af⟩,dU bg⟩
   by_cases wh:j<k
   ·exact cq j x wh aa
   ·have:j=k:=by omega
    subst this;rw [aA]at aa;cases aa;exact dp
 ·have e:k=n:=by simp at c;omega
  have:=hk k H1 eC cq (λx aa=>by have:=(axC.1 aa).1;omega) f1
  rw [if_neg (by omega)]at this
  exact⟨_,rfl,this⟩
theorem aqW{ps:List cK}{day:Int}{i:Nat}{x:cK}(h:∀j x,j<i->ps[j]?=some x->x.1≠day)(aa:ps[i]?=some x)(aR:x.1=day):fW ps day=some x:=by
 induction ps generalizing i with
 |nil=>cases aa
 |cons y ps ih=>
  unfold fW
  rw [aAN]
  cases i with
  |zero=>simp at aa;subst aa;simp [aR]
  |succ i=>
   have aF:=h 0 y (by omega) rfl
   rw [show(y.1==day)=false by simpa using aF]
   exact ih (i:=i) (λj x bq aa=>h (j+1) x (by omega) aa) aa
theorem GL{ps:List cK}{day:Int}(h:∀j x,j<ps.length->ps[j]?=some x->x.1≠day):fW ps day=none:=by
 unfold fW
 rw [List.find?_eq_none]
 intro x aa
 obtain⟨j,bq⟩:=aAK.1 aa
 have:=h j x (axC.1 bq).1 bq
 simpa using this
theorem tW{s:lQ}{ps:List cK}{day:Int}{K:Int->Int->ByteArray->Bool->U->Prop}(aa:bt gf H s.h.1 s.h.2.1 s.h.2.2 ps)(ay:s.h.2.1<=1000)(hk:∀H',Fr [] H H'->K ((fW ps day).getD (0,0,⟨#[]⟩)).1 ((fW ps day).getD (0,0,⟨#[]⟩)).2.1 ((fW ps day).getD (0,0,⟨#[]⟩)).2.2 (fW ps day).isSome H'):
  aK aqX [vG s,o day] H λv H'=>∃d l f b,v=.tuple ⟨[.agg ⟨[.int .i64 d,.int .i64 l,.string f]⟩,.bool b]⟩/\K d l f b H':=by
 apply aqY
 intro b H1 bb b1 ao bK bI aP bw
 have f2:=bb.af.aT bK.af
 have f3:=f2.aT bw.af
 have aG:=aa.len
 have al:a6 aP ⟨b,0,none⟩ (ig s):=(bb.bz.ag bK.af).ag bw.af
 have aL:=bb.eq
 have a':=bK.eq
 have cX:=bw.eq
 have s1:=bb.size
 have s2:=bK.size
 have qA:=bw.size
 refine⟨_,_,_,al.bY rfl,aqS (aa.ag f3) ay (bK.bz.ag bw.af) λi a8 az cq eV f4=> ?_⟩
 have kH:=f3.aT f4
 have gm:=al.ag f4
 have fm:=bw.bz.ag f4
 by_cases h:i<s.h.2.1
 ·rw [if_pos h]
  obtain⟨x,wE⟩:=fM (l:=ps) (i:=i) (by omega)
  refine au (λc=>by simp at c;omega) λ_=>⟨_,_,_,gm.bY rfl,(aa.ag kH).get rfl wE (bh (by omega)) λaC b4 av=>⟨_,_,_,vB av,XU (x:=x) fm rfl λbA dI f5=>⟨_,_,_,dI.f' rfl,_,_,_,_,rfl,?_⟩⟩⟩
  have:=hk bA (kH.ag f5 λk hk=>by simp at hk;omega)
  rwa [aqW cq wE (eV x wE)]at this
 ·rw [if_neg h]
  refine au (λ_=>XU (x:=(0,0,⟨#[]⟩)) fm rfl λbA dI f5=>⟨_,_,_,dI.f' rfl,_,_,_,_,rfl,?_⟩) λc=>by simp at c
  have:=hk bA (kH.ag f5 λk hk=>by simp at hk;omega)
  rwa [GL λj x bq aa=>cq j x (by omega) aa]at this
theorem Dt{n m:Int}{K:Bool->U->Prop}(hk:K (decide (0<=n/\n<=m)) H):eu aqZ [o n,o m] H K:=by
 apply aq0
 refine au (λc=>⟨_,rfl,?_⟩) λc=>⟨_,rfl,?_⟩
 ·have bg:0<=n:=by simpa using c
  simpa [bg]using hk
 ·have bg:¬0<=n:=by simpa using c
  simpa [bg]using hk
def aq1:ByteArray:=⟨#[102,48]⟩
open Go.Shelf Go.RowKit in
theorem acS{P:Program}{l6:Go.Shelf.Ren}{k:FuncId}{K:Int->Value->U->Prop}(L:Go.Proofs.LaysC.n244 P l6)(tP:l6.f 244=k){s:ByteArray}{v:Int}(hs:s.size<=1000000)(he:Lib.atoiAll s.data.toList=.ok v)
  (eV:∀H',Fr [] H H'->K v .nilIface H'):
  fo P k ⟨[.string s]⟩ H λv H'=>∃n e,v=.tuple ⟨[.int .i64 n,e]⟩/\K n e H':=by
 subst tP
 refine aq2 λw hw=> ?_
 subst hw
 refine(Any.internal_strconv_Atoi_all L s (by omega) w).mono ?_
 rintro e w' ⟨rfl,hw⟩
 have al:Below w.heap.size w w'/\w.drawn<=w'.drawn:=by
  rcases hw with rfl|⟨t,rfl⟩
  ·exact⟨Below.refl _ _,axx _⟩
  ·exact⟨Lib.bytesWorld_below _ _ _,Nat.le_succ _⟩
 refine⟨_,rfl,al.1,al.2,?_⟩
 rw [he]
 exact⟨_,_,rfl,eV _ (Below.aq3 al.1)⟩
theorem aq4:1-(IntKind.i64.wrap ((0:Int)+1)).toNat<1-(0:Int).toNat:=by
 have e:IntKind.i64.wrap ((0:Int)+1)=1:=by kernel_rfl
 rw [e];decide
theorem aq5{p ds:Nat}{day layout:Int}{K:Int->U->Prop}(aH:a6 H ⟨p,0,none⟩ [.map (some ds)])(hm:H[ds]?=some (.map ⟨[]⟩ 0))(aF:0<=layout)(h1:layout<=1)(hk:∀H',Fr [] H H'->K layout H'):
  cG aq6 [ax (some (ak p)),o day,o layout] H K:=by
 apply aq7
 refine⟨λ_ H'=>H=H',au (λc=>by simp at c;omega) λ_=>au (λc=>by simp at c;omega) λ_=>rfl,?_⟩
 rintro br _ rfl
 have O4:dN aS.du H ds 0 []:=⟨hm,⟨by simp,by simp,by simp⟩⟩
 have kk:=sQ (T:=aS.du) (mt:=137) (e:=297) Tryz.underlying137 (z:=.agg ⟨[.int .i64 0,.int .i64 0]⟩) (by kernel_rfl) O4 day
 refine⟨_,aH.bY rfl,0,0,kk,?_⟩
 refine iS (v:=.agg ⟨[.int .i64 0,.int .i64 0]⟩) (by kernel_rfl) (by kernel_rfl) (λv h=>by simp [azI]at h;subst h;rfl) rfl λb ao al cO f2=> ?_
 have qf:a6 ao ⟨b,0,none⟩ [.int .i64 0,.int .i64 0]:=cO
 have aq8:azQ .i64 (1-0)=1:=by kernel_rfl
 have Rb:azQ .i64 (1-1)=0:=by kernel_rfl
 obtain rfl|rfl:layout=0\/layout=1:=by omega
 ·rw [aq8]
  refine cM (by kernel_rfl) ⟨0,qf.cF 1 rfl,cM (by kernel_rfl) ⟨0,qf.cF 0 rfl,au (λc=> ?_) λ_=>⟨_,rfl,hk ao f2⟩⟩⟩
  rw [show azQ .i64 (azQ .i64 (2*0)+8)=8 from by kernel_rfl]at c
  simp at c
 ·rw [Rb]
  refine cM (by kernel_rfl) ⟨0,qf.cF 0 rfl,cM (by kernel_rfl) ⟨0,qf.cF 1 rfl,au (λc=> ?_) λ_=>⟨_,rfl,hk ao f2⟩⟩⟩
  rw [show azQ .i64 (azQ .i64 (2*0)+8)=8 from by kernel_rfl]at c
  simp at c
theorem aa1{p ds:Nat}{cW a2:Option Addr}{c1 c2:Nat}{cg ls:List Int}{K:Int->Int->Bool->U->Prop}(aR:bt cH H cW n c1 cg)(aG:bt cH H a2 n c2 ls)(JI:∀l∈ls,0<=l/\l<=1)(ay:n<=1000)
  (aH:a6 H ⟨p,0,none⟩ [.map (some ds)]) (hm:H[ds]?=some (.map ⟨[]⟩ 0)) (hk:∀H',Fr [] H H'->K 0 0 false H'):
  aK aq9 [ax (some (ak p)),J cW n c1,J a2 n c2] H λv H'=>∃d l b,v=.tuple ⟨[.int .i64 d,.int .i64 l,.bool b]⟩/\K d l b H':=by
 apply aq'
 have uT:=aR.len
 have rA:=aG.len
 have aw':=aR.cap
 have e:(if(n:Int)<(n:Int)then(n:Int)else(n:Int))=n:=if_neg (by omega)
 simp only [e]
 refine cM (bh (by omega)) ⟨λae H'=>match ae with|[.int _ i]=>∃k:Nat,i=k/\k<=n/\Fr [] H H'|_=>False,λae _=>match ae with|[.int _ i]=>n-i.toNat|_=>0,⟨0,rfl,by omega,Fr.refl _ _⟩,?_⟩
 rintro br i H1 ⟨k,rfl,eC,f1⟩
 refine au (λc=> ?_) λc=>⟨_,_,_,rfl,hk H1 f1⟩
 have bg:k<n:=by simpa using c
 obtain⟨y,aA⟩:=fM (l:=cg) (i:=k) (by omega)
 obtain⟨z,aE⟩:=fM (l:=ls) (i:=k) (by omega)
 have XV:=JI z (azR aE)
 refine(aR.ag f1).get rfl aA (bh (by simp;omega)) λaC b4 av=>⟨y,xC (by kernel_rfl) av rfl,(aG.ag f1).get rfl aE (bh (by omega)) λaC b4 av=>⟨z,xC (by kernel_rfl) av rfl,aq5 (aH.ag f1) (f1.vE hm) XV.1 XV.2 λao f2=>(aG.ag (f1.aT f2)).get rfl aE (bh (by omega)) λaC b4 av=>⟨z,xC (by kernel_rfl) av rfl,au (λc=>by simp at c) λ_=> ?_⟩⟩⟩
 rw [cE (by omega)]
 exact⟨⟨k+1,rfl,by omega,f1.aT f2⟩,dU bg⟩
theorem K0{x:Nat}{cA:Nat}{a:Option Addr}{Q:List Nat}{st:aZ.gB}{m:aZ.eX}{K:Bool->U->Prop}(al:a6 H ⟨x,0,none⟩ ae)(h1:ae[1]?=some (.pointer (some s)))(h:aZ.ib H s d cA cu a n c Q Sd st m N M)
  (hk:K (st.now ei).isSome H):eu ara [ax (some (ak x))] H K:=by
 apply arb
 exact⟨_,al.fk 1 h1,aZ.w9 h ⟨_,rfl,hk⟩⟩
open aS (bF eG dM encS dP cL h9 iP)
def O5:di (Nat×Array Value):=⟨λx=>[.func (.func x.1) ⟨[]⟩ x.2],1,λ_=>rfl,by decide,λ_ v h=>by simp at h;subst h;rfl⟩
def vo(H:U)(cZ:Nat)(s:Addr)(q:Nat)(F:List Nat):Prop:=∃k2 un vp us,a6 H ⟨cZ,0,none⟩ [.pointer (some s),.int .i64 0,.slice k2 un vp]/\Own O5 1 0 H k2 un vp us/\un<=q/\cZ∉an k2/\F=cZ::an k2
theorem vo.af{F:List Nat}(h:vo H cZ s q F)(ai:Fr S H H')(aR:er F S):vo H' cZ s q F:=by
 obtain⟨k2,un,vp,us,h1,ab,ar,a7,rfl⟩:=h
 exact⟨k2,un,vp,us,h1.af ai (aR _ (by simp)),ab.af ai (fO λk hk=>aR k (by simp [hk])),ar,a7,rfl⟩
theorem vo.lt{F:List Nat}(h:vo H cZ s q F):In H F:=by
 obtain⟨k2,un,vp,us,h1,ab,ar,a7,rfl⟩:=h
 intro k hk
 rcases axA.1 hk with rfl|hk
 ·exact h1.lt
 ·exact(ab.ge k hk).2
theorem XW{kf:Nat}{F:List Nat}{cf:Array Value}{K:U->Prop}(h:vo H cZ s q F)(aO:q<=100)(hk:∀H' F',vo H' cZ s (q+1) F'->Grow H F F'->Fr F H H'->K H'):
  dQ arc [ax (some (ak cZ)),o 0,.func (.func kf) #[] cf] H K:=by
 apply ard
 obtain⟨k2,un,vp,us,h1,ab,ar,a7,rfl⟩:=h
 refine h1.st (j:=1) (v:=.int .i64 0) (by kernel_rfl) (by kernel_rfl) (pM rfl) (by simp [azI]) λH1 dA f1=>au (λ_=> ?_) λc=>by simp at c
 have zQ:a6 H1 ⟨cZ,0,none⟩ [.pointer (some s),.int .i64 0,.slice k2 un vp]:=by simpa [azI]using dA
 have ht:=f1.size
 refine⟨_,_,_,zQ.fk 2 rfl,λb ao bK=> ?_⟩
 have a':=bK.eq
 have z2:=bK.size
 refine ic (t:=1) (E:=O5) (bytes:=8) (by kernel_rfl) (by kernel_rfl) ((ab.af f1 (fO λi az aq=>by simp at aq;rw [aq]at az;exact a7 az)).ag bK.af) (fy O5 (kf,cf) bK rfl) (ayv _) (by omega) λa n c aP aw f3 g3=> ?_
 have eZ:=ab.ge
 have bQ:=h1.lt
 simp only at bQ
 refine((zQ.ag bK.af).af f3 a7).st (j:=2) (v:=.slice a n c) (by kernel_rfl) (by kernel_rfl) (pM rfl) (by simp [azI]) λa8 gm f4=>⟨rfl,?_⟩
 have XX:cZ∉an a:=λaq=>by
  rcases g3 cZ aq with q|q
  ·exact a7 q
  ·omega
 refine hk a8 (cZ::an a) ⟨a,n,c,_,by simpa [azI]using gm,aw.af f4 (fO λi az aq=>by simp at aq;rw [aq]at az;exact XX az),by have aL:=aw.1;have a':=ab.1;rw [ax6,List.length_singleton]at aL;omega,XX,rfl⟩ (λk hk=> ?_) ?_
 ·rcases axA.1 hk with rfl|hk
  ·exact .inl (by simp)
  ·rcases g3 k hk with q|q
   ·exact .inl (by simp [q])
   ·exact .inr (by omega)
 ·exact((f1.trans' bK.af (T:=cZ::an k2) (λk hk _=>by simp at hk;simp [hk]) (by simp)).trans' f3 (λk hk _=>hk) λk hk _=>by simp [hk]).trans' f4 (λk hk _=>hk) λk hk _=>by simp at hk;simp [hk]
def nO(H:U)(X Y:Nat->Prop)(s d:Addr)(cu:Nat)(Sd:List Nat)(m:aZ.eX)(N M q cZ:Nat)(st:aZ.gB):Prop:=∃cA F,aZ.ib H s d cA cu none 0 0 [] Sd st m N M/\vo H cZ s q F/\er (s.block::cA::cu::Sd) F/\(∀k∈F,¬X k)/\¬X s.block/\In H (s.block::cA::cu::Sd)/\(∀k,X k->k<H.size)/\(∀k∈s.block::cA::cu::Sd,¬Y k)/\∀k,Y k->k<H.size
def fH(X:Nat->Prop)(H H':U):Prop:=∃T,Fr T H H'/\∀k∈T,¬X k
theorem fH.bz{X:Nat->Prop}{a:Addr}(h:fH X H H')(al:a6 H a ae)(aa:X a.block):a6 H' a ae:=by
 obtain⟨T,h1,ab⟩:=h
 exact al.af h1 λaq=>ab _ aq aa
theorem fH.bT{X:Nat->Prop}{α:Type}{E:di α}{a:Option Addr}{xs:List α}(h:fH X H H')(al:bt E H a n c xs)(aa:∀k∈an a,X k):bt E H' a n c xs:=by
 obtain⟨T,h1,ab⟩:=h
 exact al.af h1 (fO λk hk aq=>ab _ aq (aa k hk))
theorem nO.ag{X X' Y:Nat->Prop}{m:aZ.eX}{st:aZ.gB}(h:nO H X Y s d cu Sd m N M q cZ st)(ai:Fr [] H H')(hc:∀k,X' k->X k\/(H.size<=k/\k<H'.size)):nO H' X' Y s d cu Sd m N M q cZ st:=by
 obtain⟨cA,F,h1,ab,ar,a7,bs,b5,cT,fi,kn⟩:=h
 have aG:=ab.lt
 have aE:=ai.size
 exact⟨cA,F,h1.ag ai,ab.af ai λk _=>by simp,ar,λk hk aa=>(hc k aa).elim (a7 k hk) λq=>by have:=aG k hk;omega,λaa=>(hc _ aa).elim bs λq=>by have:=b5 s.block (by simp);omega,b5.le ai.size,λk hk=>(hc k hk).elim (λq=>by have:=cT k q;omega) λq=>q.2,fi,λk hk=>by have:=kn k hk;omega⟩
theorem nO.put{X Y:Nat->Prop}{m:aZ.eX}{st:aZ.gB}(h:nO H X Y s d cu Sd m N M q cZ st)(ai:Fr [b] H H')(aa:X b)(aA:Y b):nO H' X Y s d cu Sd m N M q cZ st:=by
 obtain⟨cA,F,h1,ab,ar,a7,bs,b5,cT,fi,kn⟩:=h
 have aE:=ai.size
 refine⟨cA,F,h1.af ai (λk hk aq=> ?_) (λk hk aq=> ?_),ab.af ai λk hk aq=> ?_,ar,a7,bs,b5.le aE,λk hk=>by have:=cT k hk;omega,fi,λk hk=>by have:=kn k hk;omega⟩
 ·simp at aq;subst aq;exact fi k (by simp at hk⊢;rcases hk with e|e|e<;>simp [e]) aA
 ·simp at aq;subst aq;exact fi k (by simp [hk]) aA
 ·simp at aq;subst aq;exact a7 k hk aa
theorem O6{u s:ByteArray}(h:a6 H ⟨b,0,none⟩ [.string u])(k:∀H',a6 H' ⟨b,0,none⟩ [.string s]->Fr [b] H H'->X H'):∃H',bp 9 H ⟨b,0,none⟩ (.string s) H'/\X H':=
 h.iQ (v:=.string s) (by kernel_rfl) (by kernel_rfl) (pM rfl) (by simp [azI]) λH' al ai=>k H' (by simpa [azI]using al) ai
theorem are{u s:Bool}(h:a6 H ⟨b,0,none⟩ [.bool u])(k:∀H',a6 H' ⟨b,0,none⟩ [.bool s]->Fr [b] H H'->X H'):∃H',bp 4 H ⟨b,0,none⟩ (.bool s) H'/\X H':=
 h.iQ (v:=.bool s) (by kernel_rfl) (by kernel_rfl) (pM rfl) (by simp [azI]) λH' al ai=>k H' (by simpa [azI]using al) ai
theorem CD{cw:U}{bI dz:Nat}{s:ByteArray}{b:Bool}(f:Fr [] cw H)(ab:a6 H ⟨bI,0,none⟩ [.string ⟨#[]⟩])(ar:a6 H ⟨dz,0,none⟩ [.bool false])(g2:cw.size<=bI)(g3:cw.size<=dz)(k:∀H',Fr [] cw H'->X H'):
  ∃H1,bp 9 H ⟨bI,0,none⟩ (.string s) H1/\∃H',bp 4 H1 ⟨dz,0,none⟩ (.bool b) H'/\X H':=by
 have cP:dz∉[bI]:=λaq=>by
  simp at aq;subst aq
  obtain⟨_,_,aL,ca⟩:=ab
  obtain⟨_,_,a',b0⟩:=ar
  cases aL;cases a'
  rw [ca]at b0;cases b0
 exact O6 ab λH1 dA f1=>are (ar.af f1 cP) λao cO f2=>k ao ((f.ag f1 λk hk=>by simp at hk;omega).ag f2 λk hk=>by simp at hk;omega)
theorem Kp{X Y:Nat->Prop}{m:aZ.eX}{st st':aZ.gB}{name data:ByteArray}{K:U->Prop}(h:nO H X Y s d cu Sd m N M q cZ st)(aO:q<=100)(cV:M+1<=100)(ay:name.size<=1000000)
  (bM:aZ.ly name->aZ.sy st (aZ.oi st.now name data)) (hw:aZ.writeS m.size st name data=(st',0)) (hk:∀H',nO H' X Y s d cu Sd m N (M+1) (q+1) cZ st'->fH X H H'->K H'):
  dQ arf [ax (some (ak cZ)),aj name,aj data] H K:=by
 apply arh
 intro b H1 bb b1 ao bK
 have f2:=bb.af.aT bK.af
 have aL:=bb.eq
 have a':=bK.eq
 have ht:=bb.size
 have z2:=bK.size
 obtain⟨cA,F,h1,ab,ar,a7,bs,b5,cT,fi,kn⟩:=h
 have bS:=ab.lt
 have gF:=ab.af f2 λk _=>by simp
 obtain⟨k2,un,vp,us,c1,c2,c3,c4,rfl⟩:=id gF
 have k3:∀{H'},Fr [] ao H'->a6 H' ⟨b,0,none⟩ [.pointer (some ⟨cZ,0,none⟩)]:=λai=>((bb.bz).ag bK.af).ag ai
 have l1:∀{H'},Fr [] ao H'->a6 H' ⟨b1,0,none⟩ [.string name]:=λai=>(bK.bz).ag ai
 have ju:∀{H'},Fr [] ao H'->ah 182 H' ⟨b,0,none⟩ (.pointer (some ⟨cZ,0,none⟩)):=λai=>(k3 ai).bY rfl
 have oo:∀{H'},Fr [] ao H'->ah 9 H' ⟨b1,0,none⟩ (.string name):=λai=>(l1 ai).bY rfl
 have vq:∀{H'},Fr [] ao H'->ah 59 H' ⟨cZ,0,none⟩ (.pointer (some s)):=λai=>(c1.ag ai).bY rfl
 have S2:∀{H'},Fr [] ao H'->aZ.ib H' s d cA cu none 0 0 [] Sd st m N M:=λai=>(h1.ag f2).ag ai
 have r:=Fr.refl [] ao
 have rd:∀{H':U} {K:ByteArray->Bool->U->Prop},Fr [] ao H'->K ((st.now name).getD ⟨#[]⟩) (st.now name).isSome H'->aK Mq [ax (some s),aj name] H' λv H'=>∃t b,v=.tuple ⟨[.string t,.bool b]⟩/\K t b H':=λai hk=>aZ.w9 (S2 ai) hk
 refine⟨_,ju r,⟨0,c1.fk 1 rfl,au (λc=>by simp at c) λ_=>⟨λ_ H'=>Fr [] ao H',⟨_,ju r,⟨_,vq r,_,oo r,⟨?_,?_,?_⟩⟩⟩,?_⟩⟩⟩
 ·refine rd r ⟨λbI aP bw dz a8 cS=> ?_,λbI aP bw dz a8 cS=> ?_⟩
  ·exact CD (bw.af.aT cS.af) (bw.bz.ag cS.af) cS.bz (by have:=bw.eq;omega) (by have:=bw.size;have:=cS.eq;omega) λH' ai=>ai
  ·exact CD (bw.af.aT cS.af) cS.bz (bw.bz.ag cS.af) (by have:=bw.size;have:=cS.eq;omega) (by have:=bw.eq;omega) λH' ai=>ai
 ·intro bI aP bw
  have g:=bw.af
  refine⟨oo g,vq g,ju g,rd g λdz a8 cS=> ?_,λdz a8 cS=> ?_⟩
  ·exact CD (g.aT cS.af) (bw.bz.ag cS.af) cS.bz (by have:=bw.eq;omega) (by have:=bw.size;have:=cS.eq;omega) λH' ai=>ai
  ·have g4:=g.aT cS.af
   exact⟨oo g4,vq g4,ju g4,rd g4 (CD g4 (bw.bz.ag cS.af) cS.bz (by have:=bw.eq;omega) (by have:=bw.size;have:=cS.eq;omega) λH' ai=>ai)⟩
 ·intro bI aP bw
  have g:=bw.af
  refine⟨oo g,vq g,ju g,rd g λdz a8 cS=> ?_,λdz a8 cS=> ?_⟩
  ·exact CD (g.aT cS.af) cS.bz (bw.bz.ag cS.af) (by have:=bw.size;have:=cS.eq;omega) (by have:=bw.eq;omega) λH' ai=>ai
  ·have g4:=g.aT cS.af
   exact⟨oo g4,vq g4,ju g4,rd g4 (CD g4 cS.bz (bw.bz.ag cS.af) (by have:=bw.size;have:=cS.eq;omega) (by have:=bw.eq;omega) λH' ai=>ai)⟩
 rintro br a aV aP f3
 refine⟨_,ju f3,_,ju f3,⟨_,vq f3,_,oo f3,aZ.UG (S2 f3) cV ay bM λfU a8 pT eo f4=> ?_⟩⟩
 rw [hw]at eo⊢
 have z3:=f3.size
 have z4:=f4.size
 have i5:s.block<H.size:=b5 _ (by simp)
 have O7:s.block∉cZ::an k2:=ar _ (by simp)
 have O8:vo a8 cZ s q (cZ::an k2):=(gF.af f3 λk _=>by simp).af f4 λk hk aq=>by simp at aq;subst aq;exact O7 hk
 have ow:er (s.block::fU::cu::Sd) (cZ::an k2):=λk hk aq=>by
  have:=bS k aq
  simp only [axA]at hk
  rcases hk with e|e|e|e
  ·exact ar k (by simp [e]) aq
  ·rcases pT with q|q
   ·exact ar k (by simp [e,q]) aq
   ·omega
  ·exact ar k (by simp [e]) aq
  ·exact ar k (by simp [e]) aq
 refine⟨((k3 f3).af f4 (by simp;omega)).bY rfl,XW O8 aO λbA F' O9 g5 f5=>⟨rfl,?_⟩⟩
 have jz:In a8 (s.block::fU::cu::Sd):=λk hk=>by
  simp only [axA]at hk
  rcases hk with e|e|e|e
  ·omega
  ·rw [e];exact eo.now.lt
  ·have:=b5 k (by simp [e]);omega
  ·have:=b5 k (by simp [e]);omega
 refine hk bA ⟨fU,F',eo.af f5 (λk hk aq=>ow k (by simp only [axA,azS,or_false]at hk⊢;rcases hk with e|e|e<;>simp [e]) aq) (λk hk aq=>ow k (by simp [hk]) aq),O9,λk hk aq=> ?_,λk hk aa=> ?_,bs,jz.le f5.size,λk hk=>by have:=cT k hk;have:=f5.size;omega,λk hk aA=> ?_,λk hk=>by have:=kn k hk;have:=f5.size;omega⟩ ⟨s.block::(cZ::an k2),?_,λk hk=> ?_⟩
 ·rcases g5 k aq with q|q
  ·exact ow k hk q
  ·have:=jz k hk;omega
 ·rcases g5 k hk with q|q
  ·exact a7 k q aa
  ·have:=cT k aa;omega
 ·simp only [axA]at hk
  have:=kn k aA
  rcases hk with e|e|e|e
  ·exact fi k (by simp [e]) aA
  ·rcases pT with q|q
   ·exact fi k (by simp [e,q]) aA
   ·omega
  ·exact fi k (by simp [e]) aA
  ·exact fi k (by simp [e]) aA
 ·exact((f2.aT f3).trans' f4 (T:=s.block::(cZ::an k2)) (by simp) λk hk _=>by simp at hk;simp [hk]).trans' f5 (λk hk _=>hk) λk hk _=>axU _ hk
 ·rcases axA.1 hk with rfl|hk
  ·exact bs
  ·exact a7 k hk
theorem Rk{X Y:Nat->Prop}{m:aZ.eX}{st st':aZ.gB}{name:ByteArray}{K:U->Prop}(h:nO H X Y s d cu Sd m N M q cZ st)(aO:q<=100)(cV:M+1<=100)(ay:name.size<=1000000)
  (az:(st.now name).isSome=true) (bM:aZ.sy st (aZ.vw st.now name)) (hw:aZ.AN m.size st name=(st',0)) (hk:∀H',nO H' X Y s d cu Sd m N (M+1) (q+1) cZ st'->fH X H H'->K H'):
  dQ ari [ax (some (ak cZ)),aj name] H K:=by
 apply arj
 intro b H1 bb b1 ao bK
 have f2:=bb.af.aT bK.af
 have aL:=bb.eq
 have a':=bK.eq
 have ht:=bb.size
 have z2:=bK.size
 obtain⟨cA,F,h1,ab,ar,a7,bs,b5,cT,fi,kn⟩:=h
 have bS:=ab.lt
 have gF:=ab.af f2 λk _=>by simp
 obtain⟨k2,un,vp,us,c1,c2,c3,c4,rfl⟩:=id gF
 have k3:∀{H'},Fr [] ao H'->a6 H' ⟨b,0,none⟩ [.pointer (some ⟨cZ,0,none⟩)]:=λai=>((bb.bz).ag bK.af).ag ai
 have ju:∀{H'},Fr [] ao H'->ah 182 H' ⟨b,0,none⟩ (.pointer (some ⟨cZ,0,none⟩)):=λai=>(k3 ai).bY rfl
 have oo:∀{H'},Fr [] ao H'->ah 9 H' ⟨b1,0,none⟩ (.string name):=λai=>((bK.bz).ag ai).bY rfl
 have vq:∀{H'},Fr [] ao H'->ah 59 H' ⟨cZ,0,none⟩ (.pointer (some s)):=λai=>(c1.ag ai).bY rfl
 have S2:∀{H'},Fr [] ao H'->aZ.ib H' s d cA cu none 0 0 [] Sd st m N M:=λai=>(h1.ag f2).ag ai
 have r:=Fr.refl [] ao
 have rd:∀{H':U} {K:ByteArray->Bool->U->Prop},Fr [] ao H'->K ((st.now name).getD ⟨#[]⟩) (st.now name).isSome H'->aK Mq [ax (some s),aj name] H' λv H'=>∃t b,v=.tuple ⟨[.string t,.bool b]⟩/\K t b H':=λai hk=>aZ.w9 (S2 ai) hk
 have fin:∀{aP:U} (bI:Nat),Fr [] ao aP->∃a,ah 182 aP ⟨b,0,none⟩ (.pointer a)/\fp a λa=>∃n,ah 33 aP (a.add 1) (.int .i64 n)/\aU (n !=0) False (aU (!(st.now name).isSome) False (∃a,ah 182 aP ⟨b,0,none⟩ (.pointer a)/\∃XY,ah 182 aP ⟨b,0,none⟩ (.pointer XY)/\fp XY λIq=>∃Ey,ah 59 aP Iq (.pointer Ey)/\∃s,ah 9 aP ⟨b1,0,none⟩ (.string s)/\cG 166 [.pointer Ey,.string s] aP λn H'=>ah 182 H' ⟨b,0,none⟩ (.pointer a)/\dQ 78 [.pointer a,.int .i64 n,.func (Fn.func 167) ⟨[]⟩ ⟨[.pointer (some ⟨b,0,none⟩),.pointer (some ⟨b1,0,none⟩),.pointer (some ⟨bI,0,none⟩)]⟩] H' λH'=>(Value.tuple ⟨[]⟩:Value)=.tuple ⟨[]⟩/\K H')):=by
  intro aP bI f3
  refine⟨_,ju f3,⟨0,(c1.ag f3).fk 1 rfl,au (λc=>by simp at c) λ_=>au (λc=>by rw [az]at c;cases c) λ_=>⟨_,ju f3,_,ju f3,⟨_,vq f3,_,oo f3,aZ.ah9 (S2 f3) cV ay bM λfU a8 pT eo f4=> ?_⟩⟩⟩⟩
  rw [hw]at eo⊢
  have z3:=f3.size
  have z4:=f4.size
  have i5:s.block<H.size:=b5 _ (by simp)
  have O7:s.block∉cZ::an k2:=ar _ (by simp)
  have O8:vo a8 cZ s q (cZ::an k2):=(gF.af f3 λk _=>by simp).af f4 λk hk aq=>by simp at aq;subst aq;exact O7 hk
  have ow:er (s.block::fU::cu::Sd) (cZ::an k2):=λk hk aq=>by
   have:=bS k aq
   simp only [axA]at hk
   rcases hk with e|e|e|e
   ·exact ar k (by simp [e]) aq
   ·rcases pT with q|q
    ·exact ar k (by simp [e,q]) aq
    ·omega
   ·exact ar k (by simp [e]) aq
   ·exact ar k (by simp [e]) aq
  refine⟨((k3 f3).af f4 (by simp;omega)).bY rfl,XW O8 aO λbA F' O9 g5 f5=>⟨rfl,?_⟩⟩
  have jz:In a8 (s.block::fU::cu::Sd):=λk hk=>by
   simp only [axA]at hk
   rcases hk with e|e|e|e
   ·omega
   ·rw [e];exact eo.now.lt
   ·have:=b5 k (by simp [e]);omega
   ·have:=b5 k (by simp [e]);omega
  refine hk bA ⟨fU,F',eo.af f5 (λk hk aq=>ow k (by simp only [axA,azS,or_false]at hk⊢;rcases hk with e|e|e<;>simp [e]) aq) (λk hk aq=>ow k (by simp [hk]) aq),O9,λk hk aq=> ?_,λk hk aa=> ?_,bs,jz.le f5.size,λk hk=>by have:=cT k hk;have:=f5.size;omega,λk hk aA=> ?_,λk hk=>by have:=kn k hk;have:=f5.size;omega⟩ ⟨s.block::(cZ::an k2),?_,λk hk=> ?_⟩
  ·rcases g5 k aq with q|q
   ·exact ow k hk q
   ·have:=jz k hk;omega
  ·rcases g5 k hk with q|q
   ·exact a7 k q aa
   ·have:=cT k aa;omega
  ·simp only [axA]at hk
   have:=kn k aA
   rcases hk with e|e|e|e
   ·exact fi k (by simp [e]) aA
   ·rcases pT with q|q
    ·exact fi k (by simp [e,q]) aA
    ·omega
   ·exact fi k (by simp [e]) aA
   ·exact fi k (by simp [e]) aA
  ·exact((f2.aT f3).trans' f4 (T:=s.block::(cZ::an k2)) (by simp) λk hk _=>by simp at hk;simp [hk]).trans' f5 (λk hk _=>hk) λk hk _=>axU _ hk
  ·rcases axA.1 hk with rfl|hk
   ·exact bs
   ·exact a7 k hk
 refine⟨_,ju r,⟨_,vq r,_,oo r,rd r λbI aP bw=> ?_,λbI aP bw=> ?_⟩⟩
 ·exact O6 bw.bz λa8 gm f4=>fin bI (bw.af.ag f4 λk hk=>by simp at hk;have:=bw.eq;omega)
 ·have g:=bw.af
  exact⟨oo g,vq g,ju g,rd g (O6 bw.bz λa8 gm f4=>fin bI (bw.af.ag f4 λk hk=>by simp at hk;have:=bw.eq;omega))⟩
def eY:cK:=(0,0,aq1)
def xh:lQ:=⟨(none,0,0),0,0⟩
theorem yS{s:lQ}(h:a6 H ⟨b,0,none⟩ ae)(aE:ae.length=7)(k:∀H',a6 H' ⟨b,0,none⟩ (ig s)->Fr [b] H H'->X H'):∃H',bp 68 H ⟨b,0,none⟩ (vG s) H'/\X H':=
 h.iQ (v:=vG s) (by kernel_rfl) (by kernel_rfl) (λv h=>by simp [azI]at h;rcases h with rfl|rfl|rfl|rfl|rfl<;>rfl) (by simp [azI,aE]) λH' al ai=>k H' (by
  have e:ae.drop 7=[]:=az2 (by omega)
  simpa [azI,e]using al) ai
theorem Kq{s:lQ}{h':eH}(h:a6 H ⟨b,0,none⟩ (ig s))(k:∀H',a6 H' ⟨b,0,none⟩ (ig {s with h:=h'})->Fr [b] H H'->X H'):∃H',bp 66 H ⟨b,0,none⟩ (.slice h'.1 h'.2.1 h'.2.2) H'/\X H':=
 h.iQ (v:=.slice h'.1 h'.2.1 h'.2.2) (by kernel_rfl) (by kernel_rfl) (pM rfl) (by simp [azI]) λH' al ai=>k H' (by simpa [azI]using al) ai
theorem Qw{j:Nat}{s s':lQ}{v:Int}(h:a6 H ⟨b,0,none⟩ (ig s))(bq:j<7)(e:ig s'=(ig s).take j++.int .i64 v::(ig s).drop (j+1))(k:∀H',a6 H' ⟨b,0,none⟩ (ig s')->Fr [b] H H'->X H'):∃H',bp 3 H ⟨b,j,none⟩ (.int .i64 v) H'/\X H':=by
 have:=a6.st (P:=azB) (t:=3) (a:=⟨b,0,none⟩) (j:=j) (v:=.int .i64 v) (X:=X) h (by kernel_rfl) (by kernel_rfl) (pM rfl) (by simp [azI];omega) λH' al ai=>k H' (by rw [e];simpa [azI]using al) ai
 simpa using this
theorem Qv{h:eH}{ps:List cK}{K:Option Addr->Nat->Nat->U->Prop}(aa:bt gf H h.1 h.2.1 h.2.2 ps)(ay:h.2.1<=1000)(hk:∀(h':eH) H',Own gf 122 H.size H' h'.1 h'.2.1 h'.2.2 ps->Fr [] H H'->K h'.1 h'.2.1 h'.2.2 H'):
  dy ark [J h.1 h.2.1 h.2.2] H K:=by
 apply arl
 refine au (λc=>⟨_,_,_,rfl,?_⟩) λc b H1 bb=> ?_
 ·have e:h.1=none:=by simpa using c
  have lv:ps=[]:=by
   rcases aa.arr with h|⟨_,_,dp,_⟩
   ·exact h
   ·rw [e]at dp;cases dp
  subst lv
  exact hk (none,0,0) H (Own.nil _ _ _ _) (Fr.refl _ _)
 ·exact uJ (E:=gf) y' za (Own.made gf 122 bb (axx _)) bb.af (aa.ag bb.af) (by omega) λad p q ao aw ai _=>⟨_,_,_,rfl,hk (ad,p,q) ao aw ai⟩
def z0:cK:=(0,0,⟨#[]⟩)
open aS (bF cL kh gP hP)
def O':ByteArray:=⟨#[97]⟩
def JJ:ByteArray:=⟨#[98]⟩
def hX:bR:=[(O',JJ)]
def XZ:List dZ:=[(hX,5,7)]
def CE:Row:=(5,0,7)
theorem arn:fa hX:=by
 refine⟨by decide,λx aa=> ?_,λi x y aa aA=> ?_⟩
 ·simp only [hX,ayw]at aa
  subst aa
  refine⟨⟨by decide,by decide,by decide,λi az=> ?_⟩,⟨by decide,?_⟩,by decide⟩
  ·have:i=0:=by simp only [O']at az;have h:(⟨#[97]⟩:ByteArray).size=1:=rfl;omega
   subst this;decide
  ·have h1:ho JJ 0=1:=by decide
   show mI JJ 0=true
   unfold mI
   rw [dif_pos (by decide),dif_neg (by rw [h1];decide),h1]
   exact M1 (by decide)
 ·cases i with
  |zero=>simp [hX]at aA
  |succ i=>simp [hX]at aa
theorem X0:b6 [] XZ=([hX],[CE]):=by
 unfold b6 XZ
 rw [ayF,List.foldl_nil]
 unfold iY
 have e:∀l,hY [] l=none:=λl=>by simp [hY]
 simp only [e]
 rfl
def fB:eW:=⟨1,[],[CE],[],0⟩
theorem JK(h:n<128):(cn n).length<=1:=oX 0 n (by omega)
namespace aZ
end aZ
theorem aro:(aZ.BV).now=aZ.dS []:=by funext x;rfl
theorem arp:aZ.ly ei:=by decide
variable{H H':U}{W:Nat->Prop}{m:aZ.eX}{N M q cZ fz:Nat}{X:Nat->Prop}{st:aZ.gB}{s:lQ}{ps:List cK}{L:List bR}
theorem fH.sub(h:fH X H H')(aa:∀k,W k->X k):fH W H H':=by
 obtain⟨T,h1,ab⟩:=h
 exact⟨T,h1,λk hk hw=>ab k hk (aa k hw)⟩
theorem fH.of(h:Fr [] H H'):fH W H H':=⟨[],h,by simp⟩
theorem fH.trans{dn:U}(h:fH W H H')(h':fH W H' dn):fH W H dn:=by
 obtain⟨S,h1,ab⟩:=h
 obtain⟨T,ar,a7⟩:=h'
 exact⟨S++T,h1.trans ar,λk hk=>(azb.1 hk).elim (ab k) (a7 k)⟩
theorem nO.err{Y:Nat->Prop}{vF:Addr}(h:nO H X Y vF d cu Sd m N M q cZ st):ah 33 H ⟨cZ,1,none⟩ (.int .i64 0):=by
 obtain⟨cA,F,h1,⟨k2,un,vp,us,c1,_⟩,_⟩:=h
 exact c1.cF 1 rfl
def gI:ByteArray:=⟨#[109,97,110,105,102,101,115,116]⟩
def jx:ByteArray:=⟨#[105,110,100,101,120]⟩
open aS (bF eG dM dP cy gP cL h9 iP)
def hQ(l:List (ByteArray×ByteArray)):aZ.gB:={aZ.BV with now:=aZ.dS l}
def CU:List Value->U->Nat:=λae _=>match ae with|[.int _ i]=>1-i.toNat|_=>0
theorem aa4:CU [.int .i64 (IntKind.i64.wrap (0+1))] H<CU [.int .i64 0] H':=aq4
abbrev FX(a:Option Addr)(c:Nat):cR Int:=(0,.slice a 1 c,0)
theorem z82:zeroOf azB 82=some (.slice none 0 0):=by kernel_rfl
def vM(ps:List cK):Prop:=ps.Pairwise λx y=>x.1<y.1
def gp(x:cK):List cK->List cK
 |[]=>[x]
 |y::r=>if y.1<x.1 then y::gp x r else if y.1=x.1 then x::r else x::y::r
def ml(ps:List cK)(day:Int):Nat:=match ps with
 |[]=>0
 |y::r=>if y.1<day then ml r day+1 else 0
theorem acq(ps:List cK)(day:Int):ml ps day<=ps.length:=by
 induction ps with
 |nil=>exact axx _
 |cons y r ih=>unfold ml;split<;>simp;omega
theorem acr{ps:List cK}{day:Int}{p:Nat}(nU:∀k x,k<p->ps[k]?=some x->x.1<day)(pW:∀k x,p<=k->ps[k]?=some x->day<=x.1)(aH:p<=ps.length):ml ps day=p:=by
 induction ps generalizing p with
 |nil=>simp at aH;subst aH;rfl
 |cons y r ih=>
  unfold ml
  cases p with
  |zero=>rw [if_neg];have:=pW 0 y (axx _) rfl;omega
  |succ p=>
   rw [if_pos (nU 0 y (by omega) rfl),ih (p:=p) (λk x hk aa=>nU (k+1) x (by omega) aa) (λk x hk aa=>pW (k+1) x (by omega) aa) (by simpa using aH)]
theorem RP{x:cK}{z:cK}:∀{ps:List cK},(∀y,ps[ml ps x.1]?=some y->y.1≠x.1)->(ps.take (ml ps x.1)++z::ps.drop (ml ps x.1)).set (ml ps x.1) x=gp x ps
 |[],_=>rfl
 |y::r,h=>by
  unfold ml at h⊢
  unfold gp
  split
  ·rename_i aA
   rw [if_pos aA]at h
   rw [List.take_succ_cons,List.drop_succ_cons,axV,aA0,RP (ps:=r) λw hw=>h w (by simpa using hw)]
  ·rename_i aA
   rw [if_neg aA]at h
   rw [if_neg (h y (by simp))]
   rfl
theorem RQ{x:cK}:∀{ps:List cK} {y:cK},ps[ml ps x.1]?=some y->y.1=x.1->ps.set (ml ps x.1) x=gp x ps
 |[],y,h,_=>by simp at h
 |w::r,y,h,e=>by
  unfold ml at h⊢
  unfold gp
  split
  ·rename_i hw
   rw [if_pos hw]at h
   rw [aA0,RQ (ps:=r) (by simpa using h) e]
  ·rename_i hw
   rw [if_neg hw]at h
   simp at h;subst h
   rw [if_pos e];rfl
theorem xx{x:cK}:∀{ps:List cK} {z:cK},z∈gp x ps->z=x\/(z∈ps/\(vM ps->z.1≠x.1))
 |[],z,h=>by simp [gp]at h;exact .inl h
 |y::r,z,h=>by
  unfold gp at h
  split at h
  ·rename_i aA
   rcases axA.1 h with rfl|h
   ·exact .inr ⟨by simp,λ_=>by omega⟩
   ·rcases xx h with e|e
    ·exact .inl e
    ·exact .inr ⟨by simp [e.1],λaR=>e.2 (aAv.1 aR).2⟩
  ·split at h
   ·rename_i aA
    rcases axA.1 h with rfl|h
    ·exact .inl rfl
    ·exact .inr ⟨by simp [h],λaR=>by have:=(aAv.1 aR).1 z h;omega⟩
   ·rename_i h1 ab
    rcases axA.1 h with rfl|h
    ·exact .inl rfl
    ·refine .inr ⟨h,λaR=> ?_⟩
     rcases axA.1 h with rfl|h
     ·exact ab
     ·have:=(aAv.1 aR).1 z h;omega
theorem Dj{x:cK}:∀{ps:List cK},x∈gp x ps
 |[]=>by simp [gp]
 |y::r=>by
  unfold gp
  split
  ·simp [Dj]
  ·split<;>simp
theorem GM{x z:cK}:∀{ps:List cK},z∈ps->z.1≠x.1->z∈gp x ps
 |y::r,h,e=>by
  unfold gp
  split
  ·rcases axA.1 h with rfl|h
   ·simp
   ·simp [GM h e]
  ·split
   ·rcases axA.1 h with rfl|h
    ·rename_i q;exact absurd q e
    ·simp [h]
   ·simp [axA.1 h]
theorem C8{x:cK}:∀{ps:List cK},vM ps->vM (gp x ps)
 |[],_=>by simp [gp,vM]
 |y::r,h=>by
  have h':=aAv.1 h
  unfold gp
  split
  ·rename_i aA
   refine aAv.2 ⟨λz aE=> ?_,C8 h'.2⟩
   rcases xx aE with rfl|aE
   ·exact aA
   ·exact h'.1 z aE.1
  ·split
   ·rename_i aA
    exact aAv.2 ⟨λz aE=>by have:=h'.1 z aE;omega,h'.2⟩
   ·refine aAv.2 ⟨λz aE=> ?_,h⟩
    rcases axA.1 aE with rfl|aE
    ·omega
    ·have:=h'.1 z aE;omega
theorem GF{x:cK}:∀{ps:List cK},(gp x ps).length<=ps.length+1
 |[]=>by simp [gp]
 |y::r=>by
  have:=GF (x:=x) (ps:=r)
  unfold gp
  split
  ·simp;omega
  ·split<;>simp
theorem xt{ps:List cK}{d:Int}{p:cK}(h:fW ps d=some p):p∈ps/\p.1=d:=by
 unfold fW at h
 exact⟨List.mem_of_find?_eq_some h,by simpa using List.find?_some h⟩
theorem C7{ps:List cK}(h:vM ps){p:cK}(aH:p∈ps):fW ps p.1=some p:=by
 induction ps with
 |nil=>simp at aH
 |cons y r ih=>
  have h':=aAv.1 h
  unfold fW at ih⊢
  rw [aAN]
  rcases axA.1 aH with rfl|aH
  ·simp
  ·rw [show(y.1==p.1)=false by have:=h'.1 p aH;simp;omega]
   exact ih h'.2 aH
theorem abm{ps:List cK}(h:vM ps)(x:cK):fW (gp x ps) x.1=some x:=C7 (C8 h) Dj
def c6(n:Nat):ByteArray:=⟨#[102]⟩++⟨(Lib.itoa (n:Int)).toArray⟩
theorem acs:((ayD 100).all λn=>(c6 n).size<=3&&decide (0<(c6 n).size)&&((c6 n).data.toList.all λc=>decide (97<=c.toNat/\c.toNat<=122)||decide (48<=c.toNat/\c.toNat<=57))&&((c6 n).data.toList.head?==some 102)&&Lib.hasPrefix (c6 n).data.toList (⟨#[102]⟩:ByteArray).data.toList&&(Lib.trimPrefix (c6 n).data.toList (⟨#[102]⟩:ByteArray).data.toList==Lib.itoa (n:Int))&&(match Lib.atoiAll (Lib.itoa (n:Int))with| .ok v=>v==(n:Int)|_=>false))=true:=by kernel_rfl
end Go.Proofs
