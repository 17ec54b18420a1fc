/- A part of a proof: see the last text of this claim. -/
import Derived.Test.YtlafckjfkaldaaaGreatDoorP4
import Derived.Test.YtlafckjfkaldaaaGreatDoorP1
import Derived.Shelf.Strconv.AtoiInnerAll
import Derived.Below
import Derived.Lib.AtoiErrMem
import Derived.Shelf.Strconv.Itoa3
import Derived.Shelf.Strings.LastIndex
import Derived.Shelf.Strings.Prefix
import Derived.Shelf.Strings.Cut
import Derived.Shelf.Small.Wraps
import Derived.Ground.NamesProg
import Derived.Test.YtlafckjfkaldaaaGreatDoorProg
import Derived.Test.YtlafckjfkaldaaaGreatDoorP3
open _root_.Go.Proofs.Tryz renaming prog→atf,underlying9→atB,underlying3→atA,isAgg3→atD,sizeOf3→atE,zeroValue3→atF,underlying4→atS,isAgg4→atT,sizeOf4→atU,zeroValue4→atV,isAgg9→atG,sizeOf9→atH,zeroValue9→atI,underlying5→atW,isAgg5→atX,sizeOf5→atY,zeroValue5→atZ,underlying249→at0,isAgg249→at1,sizeOf249→at2,zeroValue249→at3,underlying0→atN,zeroValue0→atQ,underlying2→avz,zeroValue2→avA,underlying209→avB,zeroValue209→avC,underlying89→aum,zeroValue89→aup,underlying371→aui,zeroValue371→aul,underlying73→avD,zeroValue73→avE
open _root_.List renaming length_append→VH,mem_cons→o3,getElem?_eq_some_iff→qb,mem_append→asU,length_cons→asE,eq_nil_of_length_eq_zero→asF,pairwise_cons→ave,append_nil→as0,take_add_one→ats,mem_of_getElem?→att,length_nil→atc,length_map→atw,getElem?_append_left→asW,getElem?_append_right→asX,flatten_cons→avf,filter_append→auV,getElem?_of_mem→avg,mem_singleton→ar7,mem_map→ad6,take_append_drop→auP,take_of_length_le→asG,append_assoc→ar8,range→asl,getElem?_drop→VG,filter_cons→MX,mem_filter→VD,flatten_nil→avi,drop_eq_getElem_cons→avj,mem_nil_iff→aty,pairwise_append→avk,lt_irrefl→avl,getElem?_eq_none→asu,mem_cons_of_mem→MY,flatMap_append→asY,map_cons→qO,take_length→asM,getLast?_eq_getElem?→avn,getLast?_eq_some_getLast→avo,length_pos_iff→avq,drop_of_length_le→avr,map_append→as2,mem_of_mem_take→auL,length_take→apH,find?_eq_none→avs,find?_some→avt,mem_iff_getElem?→avu,mem_of_find?_eq_some→avv,exists_mem_of_ne_nil→avw,dropLast_concat_getLast→avx,pairwise_map→auT,flatMap_cons→Er,mem_map_of_mem→A2,getD_eq_getElem?_getD→apS,length_filter_le→avd,getElem?_take→Ep,length_range→avG,take_set_of_le→avH,getElem?_set_self→avI,drop_set_of_lt→avJ,pairwise_iff_getElem→avK,exists_cons_of_ne_nil→avL,nil_append→as8,head?_eq_getElem?→avM
open _root_.Go.Value renaming cells→atq,slice→atK,bool→atp,oneCell'→avm
open _root_.Nat renaming le_refl→nQ,le_trans→VF,lt_or_ge→atv,mul_one→atM,zero_le→apG,mul_add→avh,zero_add→zd,le_add_right→au3,lt_trichotomy→avF
open _root_.Int renaming toNat_natCast→asD,le_of_lt→avp
open _root_.ByteArray renaming size→ath
open _root_.Option renaming getD_some→avy
open _root_.Bool renaming and_eq_true→oJ
open _root_.Array renaming mem_push→au8
set_option linter.unusedVariables false
set_option maxRecDepth 100000
open Go Go.bs
namespace Go.Proofs.bg
structure tE(st:f')(now:ByteArray->Option ByteArray):Prop where
 dir:st.dir.length<=1000000
 last:∀bP d xs,st.last bP=some (d,xs)->xs.length=me d.size/\d.size<=30000000
 now:∀y d,now y=some d->y.size<=100000/\d.size<=30000000
variable{H:J}{N n cK cy c M:Nat}{s d:Addr}{Sd:List Nat}
theorem ic.len{r:Nat}{now:ByteArray->Option ByteArray}(h:ic H r now N):
  ∃z1:Nat,(∀ty,Rd atf (Builtin.len_ ⟨[141]⟩ ty ⟨[.map (some r)]⟩) H (.int .i64 z1))/\z1<=N/\∀ys,zW now ys->ys.length=z1:=by
 obtain⟨ck,L,hm,aH,aZ⟩:=h
 refine⟨L.length,λty=>Pt ea Tryz.underlying141 hm,aH,λys av=> ?_⟩
 have iF:ys.Nodup:=by
  rw [List.nodup_iff_pairwise_ne]
  have:=av.1
  rw [auT]at this
  exact this.imp λh e=>by rw [e]at h;exact(avl _) h
 have mP:∀k,k∈ys↔k∈L.map (·.1):=λk=>by
  rw [av.2 k]
  have h1:=aZ k
  have ae:=Fv (k:=k) (L:=L)
  cases ay:now k with
  |none=>rw [ay]at h1;simp only [Option.isSome_none,Bool.false_eq_true,false_iff];exact ae.1 h1
  |some v=>
   rw [ay]at h1
   simp only [Option.isSome_some,true_iff]
   refine Classical.byContradiction λh=> ?_
   rw [ae.2 h]at h1;cases h1
 have:=((List.perm_ext_iff_of_nodup iF hm.wf.keys).2 mP).length_eq
 rw [this,atw]
structure aaO(cC:J)(dw df b2 base:Nat)(ie:List Nat)(last:ByteArray->Option (ByteArray×List Int))(now:ByteArray->Option ByteArray)(ys:List ByteArray)(t0:gJ)(j:Nat)(x:ByteArray)(H':J):Prop where
 it:∃(S:List Nat) (t:gJ) (eT:List (ByteArray×ByteArray×List Int)) (all:Nat) (rm:List Nat),kk H' dw df base [.map (some b2),.string ⟨#[]⟩,.slice none 0 0,.int .i64 all] ie S t/\mQ H' b2 rm (yg eT)/\x=⟨(cD ys.length++eT.flatMap rk).toArray⟩∧
  lf last now ys t0=((lf last now (ys.drop j) t).1,eT++(lf last now (ys.drop j) t).2)/\all=(eT.map λf=>f.2.2.length).sum/\eT.length=j/\tC t (480000*j)/\(eT.flatMap rk).length<=6000000*j/\all<=480000*j/\Fr [dw,df,b2] cC H'/\Grow cC [dw,df] S/\(∀k∈rm,cC.size<=k/\k<H'.size/\k∉S)
structure aaP(bY:J)(dw df base b:Nat)(vs:List Value)(ie S:List Nat)(gu:List ByteArray)(ws:List Int)(cs:List ByteArray)(dat:ByteArray)(pre:List UInt8)(t:gJ)(B e4:Nat)(x:ByteArray)(H':J):Prop where
 it:∃(S2:List Nat) (t2:gJ) (jI:Option Addr) (jJ km:Nat) (xs:List Int),kk H' dw df base vs ie S2 t2/\aU H' ⟨b,0,none⟩ [.string dat,.slice jI jJ km]/\Own b' 3 bY.size H' jI jJ km xs/\x=⟨(pre++tD xs).toArray⟩∧
  kn gu ws cs 0 t=((kn gu ws (cs.drop e4) e4 t2).1,xs++(kn gu ws (cs.drop e4) e4 t2).2)/\xs.length=e4/\tC t2 (B+e4)/\Fr (b::S) bY H'/\Grow bY S S2/\(∀k∈ax jI,k∉S2)
structure aaQ(bY:J)(dw df b2 base:Nat)(dy:ByteArray)(all:Nat)(ie S:List Nat)(cs:List ByteArray)(t:gJ)(B e4:Nat)(H':J):Prop where
 it:∃(S2:List Nat) (t2:gJ) (jI:Option Addr) (jJ km:Nat) (xs:List Int),kk H' dw df base [.map (some b2),.string dy,.slice jI jJ km,.int .i64 all] ie S2 t2/\Own b' 3 bY.size H' jI jJ km xs∧
  oe cs t=((oe (cs.drop e4) t2).1,xs++(oe (cs.drop e4) t2).2)/\xs.length=e4/\tC t2 (B+e4)/\Fr S bY H'/\Grow bY S S2/\(∀k∈ax jI,k∉S2)
theorem aaR(last:ByteArray->Option (ByteArray×List Int))(now:ByteArray->Option ByteArray){ys:List ByteArray}{j:Nat}{y:ByteArray}(av:ys[j]?=some y)(t:gJ){wd dat:ByteArray}{ws:List Int}(hw:(last y).getD (⟨#[]⟩,[])=(wd,ws))(aO:(now y).getD ⟨#[]⟩=dat):
  lf last now (ys.drop j) t=((lf last now (ys.drop (j+1)) (kn (eS wd) ws (eS dat) 0 t).1).1,(y,dat,(kn (eS wd) ws (eS dat) 0 t).2)::(lf last now (ys.drop (j+1)) (kn (eS wd) ws (eS dat) 0 t).1).2):=by
 obtain⟨h1,ae⟩:=qb.1 av
 rw [avj h1,ae,lf,hw,aO]
theorem aaS{gu:List ByteArray}{ws:List Int}{cs:List ByteArray}{j:Nat}{c:ByteArray}(ak:cs[j]?=some c)(t:gJ):
  kn gu ws (cs.drop j) j t=((kn gu ws (cs.drop (j+1)) (j+1) (if gu[j]?=some c then(t,ws.getD j 0)else jH t c).1).1,(if gu[j]?=some c then(t,ws.getD j 0)else jH t c).2::(kn gu ws (cs.drop (j+1)) (j+1) (if gu[j]?=some c then(t,ws.getD j 0)else jH t c).1).2):=by
 obtain⟨h1,ae⟩:=qb.1 ak
 rw [avj h1,ae,kn]
theorem aaT{cs:List ByteArray}{j:Nat}{c:ByteArray}(ak:cs[j]?=some c)(t:gJ):
  oe (cs.drop j) t=((oe (cs.drop (j+1)) (jH t c).1).1,(jH t c).2::(oe (cs.drop (j+1)) (jH t c).1).2):=by
 obtain⟨h1,ae⟩:=qb.1 ak
 rw [avj h1,ae,oe]
theorem eR{α:Type}{l:List α}{i:Nat}(h:i<l.length):∃x,l[i]?=some x:=⟨l[i],by simp⟩
theorem Pu(h:n<=30000000):me n<=480000:=by unfold me;omega
theorem wS(l:List UInt8):(⟨l.toArray⟩:ByteArray).size=l.length:=by simp [ath]
theorem aaU{a:Option Addr}{Q:List Nat}{st:f'}{m:ei}{r iv:Nat}{now:ByteArray->Option ByteArray}
  {K:Option Addr->Nat->Nat->Option Nat->ByteArray->Option Addr->Nat->Nat->Int->Int->Bool->J->Prop} (h:hN H s d cK cy a n c Q Sd st m N M) (ay:ic H r now iv) (cQ:iv<=100) (bK:tE st now)
  (hk:∀ys o0 tF tG wT yh sq FR H' rm,zW now ys->bk FO H' o0 tF tG (og m.size st.last st.dir now ys).tH.mg->(∀k∈ax o0,H.size<=k)->mQ H' wT rm (yg (og m.size st.last st.dir now ys).files)→
   bk b' H' yh sq FR (og m.size st.last st.dir now ys).dirS->(∀k∈ax yh,H.size<=k)->(∀k∈rm,H.size<=k)->H.size<=wT->Fr [] H H'→
   wT∉rm++ax yh++ax o0->In H' (rm++ax yh++ax o0)→
   K o0 tF tG (some wT) ⟨(og m.size st.last st.dir now ys).Ju.toArray⟩ yh sq FR (og m.size st.last st.dir now ys).all (og m.size st.last st.dir now ys).tH.hY (og m.size st.last st.dir now ys).fits H'):
  aY atf 362 ⟨[.pointer (some s),.map (some r)]⟩ H λv H'=>∃a n c r s fh eh fZ gV fH b,v=.agg ⟨[.slice a n c,.map r,.string s,.slice fh eh fZ,.int .i64 gV,.int .i64 fH,.bool b]⟩/\K a n c r s fh eh fZ gV fH b H':=by
 apply aaV
 intro dU H1 aB
 have h1:=h.ab aB.ag
 have sf:=h.dir.len
 have aqc:=aB.eq
 have s1:=aB.size
 refine ZZ h1.bo rfl rfl rfl h1.uZ h1.last h1.dir (by have:=bK.dir;omega) (λbP d xs e=>by have:=(bK.last bP d xs e);have:=Pu this.2;omega) λhj fn jc ao hfo bt=> ?_
 refine ia (by kernel_rfl) (by kernel_rfl) (λx aa=>by simp [atq]at aa;subst aa;rfl) (by rfl) λdf aF Cd FT bG b2 aN cp=> ?_
 have FT:aU aF ⟨df,0,none⟩ [.slice hj fn jc]:=by simpa [atq]using FT
 have aqd:=cp.eq
 have FU:=cp.size
 refine ia (by kernel_rfl) (by kernel_rfl) (λx aa=>by simp [atq]at aa;rcases aa with rfl|rfl|rfl|rfl|rfl|rfl|rfl<;>rfl) (by rfl) λdw bw zX FV bW=> ?_
 have FV:aU bw ⟨dw,0,none⟩ [.slice none 0 0,.map (some b2),.string ⟨#[]⟩,.slice none 0 0,.int .i64 0,.int .i64 0,.bool true]:=by simpa [atq]using FV
 have f12:=aB.ag.aw bt
 have f13:=f12.aw bG
 have f14:=f13.aw cp.ag
 have f15:=f14.aw bW
 have s2:=bt.size
 have qt:=bG.size
 have tj:=bW.size
 have aaW:=FT.lt
 have aaX:=FV.lt
 simp only at aaW aaX
 have e7:=ay.ag f15 (by simp)
 obtain⟨z1,hlen,aqe,aaY⟩:=e7.len
 refine⟨z1,hlen 3,?_⟩
 rw [iY (by omega) (by omega)]
 refine oT (n:=z1) (by omega) λbY cB=> ?_
 have BN:=cB.size
 refine(e7.ag cB (by simp)).names (by omega) λys na tk nc cC wU qA cz eJ=> ?_
 have jX:=eJ.size
 have f17:=(f15.aw cB).aw eJ
 have kU:=aaY ys wU
 have kV:=cz.1
 subst kU
 have aqf:dU<dw:=by omega
 have oh:aU cC ⟨dU,0,none⟩ [.slice none 0 0,.map none,.string ⟨#[]⟩,.slice none 0 0,.int .i64 0,.int .i64 0,.bool false]:=((((((aB.bo.ab bt).ab bG).ab cp.ag).ab bW).ab cB).ab eJ)
 have Jv:∀k∈ax hj,H1.size<=k/\k<ao.size:=hfo.ge
 have xS:=((((hfo.bL.ab bG).ab cp.ag).ab bW).ab cB).ab eJ
 have e8:kk cC dw df H.size [.map (some b2),.string ⟨#[]⟩,.slice none 0 0,.int .i64 (0:Nat)] (ax hj) [dw,df] {free:=jo (pL st.last st.dir) m.size.toNat,mg:=[],hY:=0,fits:=true}:=by
  refine⟨rfl,⟨none,0,0,hj,fn,jc,(FV.ab cB).ab eJ,Own.nil _ _ _ _,(((FT.ab cp.ag).ab bW).ab cB).ab eJ,xS,λk hk=>hk,rfl,by simp [ax],by simp [ax]⟩,by omega,?_,?_,?_⟩
  ·intro k hk;have:=Jv k hk;simp;omega
  ·intro k hk;have:=Jv k hk;omega
  ·intro k hk;simp only [o3,aty,or_false]at hk;omega
 have q8:mQ cC b2 [] (yg []):=⟨0,[],(((dM.new ea cp).ab ea bW).ab ea cB).ab ea eJ,by simp,λ_ _=>rfl⟩
 generalize Jw:({free:=jo (pL st.last st.dir) m.size.toNat,mg:=[],hY:=0,fits:=true}:gJ)=t0 at e8
 have FW:∀k∈ax hj,k≠dw/\k≠df/\k≠b2/\k<cC.size:=λk hk=>by have:=Jv k hk;omega
 refine⟨λvs H'=>match vs with|[.string x,.int _ i]=>∃j:Nat,i=j/\j<=ys.length/\aaO cC dw df b2 H.size (ax hj) st.last now ys t0 j x H'|_=>False,
  λvs _=>match vs with|[_,.int _ i]=>ys.length-i.toNat|_=>0,⟨0,rfl,by omega,⟨[dw,df],t0,[],0,[],e8,q8,by simp,by simp,rfl,rfl,⟨by subst Jw;simp,by subst Jw;simp⟩,by simp,by omega,Fr.refl _ _,Grow.refl _ _,by simp⟩⟩,?_⟩
 rintro bm x i Jx ⟨j,rfl,a',⟨S,t,eT,all,rm,e8,uW,rfl,yi,dG,iK,z6,aqg,qB,af,aZ,sr⟩⟩
 have z7:Fr [] H Jx:=f17.ab af (by simp;omega)
 have aqh:=af.size
 have Jy:b2∉S:=λhk=>by
  rcases aZ _ hk with h|h
  ·simp at h;omega
  ·omega
 have z8:=hi (n:=ys.length) (by omega)
 have aaZ:bk bs.dT Jx na tk nc ys:=cz.bL.ag af λal e=>by
  have:=cz.ge al.block (by simp [e,ax])
  simp;omega
 refine ai (λaD=> ?_) (λaD=> ?_)
 ·have bT:j<ys.length:=by simp at aD;omega
  obtain⟨y,av⟩:=eR bT
  obtain⟨dat,Jz⟩:∃dat,now y=some dat:=by
   have:=(wU.2 y).1 (att av)
   cases ay:now y with
   |none=>rw [ay]at this;cases this
   |some v=>exact⟨v,rfl⟩
  have JA:=bK.now y dat Jz
  have aa0:=h.ab z7
  have wN:=(ay.ag z7 (by simp)).look y
  rw [Jz]at wN
  simp only [avy]at wN
  refine aaZ.get rfl av (by simp;omega) λal e ko=>⟨y,iq (by kernel_rfl) ko,dat,wN,?_⟩
  refine ia (by kernel_rfl) (by kernel_rfl) (λx aa=>by simp [atq]at aa;rcases aa with rfl|rfl<;>rfl) (by rfl) λb z' ah fR g1=> ?_
  have fR:aU z' ⟨b,0,none⟩ [.string dat,.slice none 0 0]:=by simpa [atq]using fR
  have Pv:=aa0.ab g1
  obtain⟨wd,FX,wn,FY,ws,_,hv,kp,Ch,aa1⟩:=Pv.last.FM y
  refine⟨some cy,Pv.bo.ld (by kernel_rfl) rfl,wd,FX,wn,FY,hv,?_⟩
  refine ia (by kernel_rfl) (by kernel_rfl) (λx aa=>by simp [atq]at aa;rcases aa with rfl|rfl<;>rfl) (by rfl) λfz su dY Ci g2=> ?_
  have Ci:aU su ⟨fz,0,none⟩ [.string wd,.slice FX wn FY]:=by simpa [atq]using Ci
  have aqi:ws.length=me wd.size/\wd.size<=30000000:=by
   cases aH:st.last y with
   |none=>rw [aH]at kp;cases kp;exact⟨rfl,by simp [ath]⟩
   |some v=>
    rw [aH]at kp
    simp only [avy]at kp
    subst kp
    exact bK.last _ _ _ aH
  refine⟨wd,Ci.b5 (by kernel_rfl) rfl,Je (by omega) λkc on aa2 Pw Cj g3=> ?_⟩
  refine⟨dat,((fR.ab g2).ab g3).b5 (by kernel_rfl) rfl,te (by omega) λPx g4=>⟨(((fR.ab g2).ab g3).ab g4).b5 (by kernel_rfl) rfl,?_⟩⟩
  rw [iY (by omega) (by omega)]
  refine oT (n:=dat.size) (by omega) λPy g5=> ?_
  have aqj:=hi (n:=dat.size) (by omega)
  have aqk:=hi (n:=y.size) (by omega)
  have sv:(cx y).length<=10+y.size:=by
   unfold cx;rw [VH,c6];omega
  refine cb (decide_eq_true (by rw [wS,wS];omega)) (cb (decide_eq_true (by rw [sd,wS,wS];simp only [VH];omega)) ?_)
  have Pz:=((((fR.ab g2).ab g3).ab g4).ab g5)
  refine⟨dat,Pz.b5 (by kernel_rfl) rfl,Je (by omega) λJB qu hP yj yk g6=> ?_⟩
  have t1:=g1.size;have t2:=g2.size;have t3:=g3.size;have t4:=g4.size;have t5:=g5.size;have t6:=g6.size
  have kz:=fR.lt;have aa3:=Ci.lt
  simp only at kz aa3
  have g16:Fr [] Jx yj:=((((g1.aw g2).aw g3).aw g4).aw g5).aw g6
  have Ck:=e8.ag g16 (λ_ _=>by simp) (λ_ _=>by simp)
  have aa4:=Pz.ab g6
  have aa5:=(((Ci.ab g3).ab g4).ab g5).ab g6
  have aa6:=((((Ch.ab g2).ab g3).ab g4).ab g5).ab g6
  have aa7:=((Cj.ab g4).ab g5).ab g6
  have Aa:b∉S:=λhk=>by have:=e8.oW b hk;omega
  have aa8:fz∉S:=λhk=>by have:=e8.oW fz hk;omega
  have kU:=yk.1
  have dk:=Cj.1
  have hF:=wO dat
  have PA:=wO wd
  have aql:=Pu JA.2
  have FZ:(⟨(cD ys.length++eT.flatMap rk).toArray⟩++(⟨(cx y).toArray⟩++⟨(cD dat.size).toArray⟩):ByteArray)=⟨((cD ys.length++eT.flatMap rk++(cx y++cD dat.size))++tD []).toArray⟩:=by
   rw [sd,sd];simp [tD]
  generalize PB:cD ys.length++eT.flatMap rk++(cx y++cD dat.size)=pre at FZ
  have nm:pre.length<=10+6000000*j+100030:=by
   rw [<-PB];simp only [VH];omega
  refine⟨λvs H'=>match vs with|[.string x,.int _ i]=>∃e4:Nat,i=e4/\e4<=(eS dat).length/\aaP yj dw df H.size b [.map (some b2),.string ⟨#[]⟩,.slice none 0 0,.int .i64 all] (ax hj) S (eS wd) ws (eS dat) dat pre t (480000*j) e4 x H'|_=>False,
   λvs _=>match vs with|[_,.int _ i]=>(eS dat).length-i.toNat|_=>0,⟨0,rfl,by omega,⟨S,t,none,0,0,[],Ck,aa4,Own.nil _ _ _ _,FZ,by simp,rfl,z6,Fr.refl _ _,Grow.refl _ _,by simp [ax]⟩⟩,?_⟩
  rintro dF b7 i2 ig ⟨e4,rfl,Jd,⟨S2,t2,jI,jJ,km,xs,rn,JC,o1,rfl,u0,jr,tI,oi,tJ,tw⟩⟩
  have ni:=oi.size
  have Ab:Fr [] H ig:=(z7.aw g16).ab oi (by
   intro k hk
   rcases o3.1 hk with rfl|hk
   ·have:=z7.size;omega
   ·rcases aZ _ hk with h|h
    ·simp only [o3,aty,or_false]at h;omega
    ·omega)
  have PC:b∉S2:=λhk=>(tJ _ hk).elim Aa λh=>by omega
  have aqm:=Ps xs
  have JD:bk bs.dT ig JB qu hP (eS dat):=yk.bL.ag oi λal e aq=>by
   have h1:=yk.ge al.block (by simp [e,ax])
   rcases o3.1 aq with aq|aq
   ·omega
   ·have:=e8.oW _ aq;omega
  refine ai (λh1=> ?_) (λh1=> ?_)
  ·have gp:e4<(eS dat).length:=by simp at h1;omega
   obtain⟨o2,rp⟩:=eR gp
   refine JD.get rfl rp (by simp;omega) λal e ko=>⟨o2,iq (by kernel_rfl) ko,?_⟩
   have aa9:bk bs.dT ig kc on aa2 (eS wd):=aa7.bL.ag oi λal e aq=>by
    have h1:=Cj.ge al.block (by simp [e,ax])
    rcases o3.1 aq with aq|aq
    ·omega
    ·have:=e8.oW _ aq;omega
   refine⟨λvs tK=>match vs with|[.int _ z]=>z=(if(eS wd)[e4]?=some o2 then(t2,ws.getD e4 0)else jH t2 o2).2/\∃lb,kk tK dw df H.size [.map (some b2),.string ⟨#[]⟩,.slice none 0 0,.int .i64 all] (ax hj) lb (if(eS wd)[e4]?=some o2 then(t2,ws.getD e4 0)else jH t2 o2).1/\Fr S2 ig tK/\Grow ig S2 lb|_=>False,
    ⟨λvs tK=>match vs with|[.bool z]=>z=decide ((eS wd)[e4]?=some o2)/\tK=ig|_=>False,ai (λae=> ?_) (λae=> ?_),?_⟩,?_⟩
   ·have iR:e4<(eS wd).length:=by simp at ae;omega
    obtain⟨aa',PD⟩:=eR iR
    refine aa9.get rfl PD (by simp;omega) λal e ko=>⟨aa',iq (by kernel_rfl) ko,?_,rfl⟩
    rw [q6,PD];simp
   ·refine⟨?_,rfl⟩
    have iR:(eS wd).length<=e4:=by simp at ae;omega
    rw [asu iR];simp
   ·rintro hX z tK ⟨rfl,rfl⟩
    refine ai (λau=> ?_) (λau=> ?_)
    ·have uH:(eS wd)[e4]?=some o2:=by simpa using au
     have a6:e4<(eS wd).length:=(qb.1 uH).1
     obtain⟨w,hw⟩:=eR (l:=ws) (i:=e4) (by omega)
     have PE:=Ch.len
     have aba:=aa5.ag oi (by simp only [o3,not_or];exact⟨by omega,aa8⟩)
     refine⟨FX,wn,FY,aba.bV (j:=1) (by kernel_rfl) rfl,?_⟩
     have abb:bk b' tK FX wn FY ws:=aa6.ag oi λal e aq=>by
      have bu:=h.FN _ (aa1 al.block (by simp [e,ax]))
      rcases o3.1 aq with aq|aq
      ·have:=z7.size;omega
      ·rcases aZ _ aq with h|h
       ·simp only [o3,aty,or_false]at h;omega
       ·have:=f17.size;omega
     refine abb.get rfl hw (by simp;omega) λal e ko=>⟨w,iq (by kernel_rfl) ko,?_,S2,?_,Fr.refl _ _,Grow.refl _ _⟩
     ·rw [if_pos uH];simp [List.getD,hw]
     ·rw [if_pos uH];exact rn
    ·have uH:¬(eS wd)[e4]?=some o2:=by simpa using au
     rw [if_neg uH]
     exact Po rn (by have:=Ab.size;omega) (by have:=tI.hY;omega) (by have:=tI.mg;omega) λCl lb pO bG sg=>⟨rfl,lb,pO,bG,sg⟩
   ·rintro hX z tK ⟨rfl,lb,pO,bG,sg⟩
    have PF:=JC.ag bG PC
    have abc:=bG.size
    have oj:∀k,k<ig.size->k∉S2->k∉lb:=λk hk ay F0=>(sg k F0).elim ay λh=>by omega
    have JE:=o1.ag bG λal e=>tw _ (by simp [e,ax])
    refine⟨jI,jJ,km,PF.bV (j:=1) (by kernel_rfl) rfl,λnx Cl bH=> ?_⟩
    have abd:=bH.eq
    have abe:=bH.size
    generalize aI:(if(eS wd)[e4]?=some o2 then(t2,ws.getD e4 0)else jH t2 o2)=v at pO bH⊢
    refine iD (E:=b') (bytes:=8) I5 wu (JE.ab bH.ag) (gd b' v.2 bH rfl) (by omega) (by have:=o1.1;omega) λyl Cm Cn Co Cp bU lD=> ?_
    have rq:∀k∈ax jI,yj.size<=k/\k<ig.size/\k∉S2:=λk hk=>⟨(o1.ge k hk).1,(o1.ge k hk).2,tw k hk⟩
    have abf:=(PF.ab bH.ag).ag bU (λaq=>by have:=rq _ aq;simp only at this;omega)
    have JF:=(pO.ag bH.ag (λ_ _=>by simp) (λ_ _=>by simp)).ag bU (λk hk aq=>by have:=rq k aq;have:=FW k hk;omega) (λk hk aq=>by have:=rq k aq;exact oj k this.2.1 this.2.2 hk)
    refine Go.Proofs.bg.aU.Jq abf (j:=1) (v:=.slice yl Cm Cn) (by kernel_rfl) (by kernel_rfl) rfl rfl (by simp) λCq hbE4 bW=> ?_
    have Cr:∀k∈ax yl,yj.size<=k/\k∉lb/\k≠b:=λk hk=>by
     have gH:=Cp.ge k hk
     refine⟨gH.1,λau=> ?_,by omega⟩
     rcases lD k hk with h|h
     ·exact oj k (rq k h).2.1 (rq k h).2.2 au
     ·have:=pO.oW k au;omega
    have abg:=Cp.ag bW λal e aq=>by
     have:=Cr al.block (by simp [e,ax])
     simp at aq;omega
    have Ck:=JF.ag bW (λk hk aq=>by have:=FW k hk;simp at aq;omega) (λk hk aq=>by
     simp only [ar7]at aq
     subst aq
     exact oj k (by omega) PC hk)
    have sw:=Jt v.2
    have abh:IntKind.u64.wrap v.2=((IntKind.u64.wrap v.2).toNat:Int):=by omega
    have f0:Fr (b::S) yj Cq:=by
     refine((oi.trans' bG (T:=b::S) (λk hk _=>hk) (λk hk cF=> ?_)).trans' bH.ag (T:=b::S) (λk hk _=>hk) (by simp)).trans' (bU.trans bW) (λk hk _=>hk) (λk hk cF=> ?_)
     ·exact(tJ k hk).elim (λh=>MY _ h) λh=>by omega
     ·rcases asU.1 hk with hk|hk
      ·have:=rq k hk;omega
      ·simp at hk;simp [hk]
    rw [abh]
    refine oT (n:=(IntKind.u64.wrap v.2).toNat) (by omega) λJG g7=> ?_
    have aqn:=hi (n:=(IntKind.u64.wrap v.2).toNat) (by omega)
    refine cb (decide_eq_true (by rw [wS,wS];simp only [VH];omega)) ⟨⟨e4+1,b6 (by omega),by omega,⟨lb,v.1,yl,Cm,Cn,xs++[v.2],Ck.ag g7 (λ_ _=>by simp) (λ_ _=>by simp),?_,abg.ab g7,?_,?_,by simp [jr],?_,?_,?_,λk hk=>(Cr k hk).2.1⟩⟩,?_⟩
    ·exact(hbE4.ab g7)
    ·rw [sd,aaN];simp
    ·rw [u0,aaS rp,aI];simp
    ·have ca:tC v.1 (480000*j+e4+1):=by
      rw [<-aI]
      split
      ·exact tI.mono (by omega)
      ·exact tI.take _
     exact ca
    ·exact f0.trans' g7 (λk hk _=>hk) (by simp)
    ·exact tJ.trans ni sg
    ·show(eS dat).length-(IntKind.i64.wrap ((e4:Int)+1)).toNat<(eS dat).length-((e4:Nat):Int).toNat
     rw [b6 (by omega)]
     exact cJ gp
  ·have gp:e4=(eS dat).length:=by simp at h1;omega
   rw [avr (by omega),kn]at u0
   simp only [as0]at u0
   have JH:=(uW.ab g16).ag oi (by simp only [o3,not_or];exact⟨by omega,Jy⟩) (λk hk aq=>by
    have:=sr k hk
    rcases o3.1 aq with aq|aq
    ·omega
    ·exact this.2.2 aq)
   have u1:=o1.ge
   refine⟨some b2,rn.wR (j:=0) (by kernel_rfl) rfl,dat,jI,jJ,km,JC.dX (us:=[.string dat,.slice jI jJ km]) (by kernel_rfl) (by kernel_rfl) rfl,?_⟩
   refine JH.put y o1.bL (λaq=> ?_) λtK k1 b9=> ?_
   ·rcases asU.1 aq with aq|aq
    ·have:=sr _ aq;omega
    ·have:=u1 _ aq;omega
   ·have pO:=rn.ag b9 (λk hk aq=>by have:=FW k hk;simp at aq;omega) (λk hk aq=>by
     simp only [ar7]at aq;subst aq
     exact(tJ k hk).elim Jy λh=>by omega)
    refine⟨all,pO.wR (j:=3) (by kernel_rfl) rfl,jI,jJ,km,(JC.ag b9 (by simp;omega)).bV (j:=1) (by kernel_rfl) rfl,?_⟩
    have du:=o1.1
    rw [dv (by omega) (by omega)]
    refine pO.Jr (j:=3) (v:=.int .i64 ((all:Int)+jJ)) (by kernel_rfl) (by kernel_rfl) rfl rfl (by omega) λCl F1 bt=>⟨⟨j+1,b6 (by omega),by omega,⟨S2,t2,eT++[(y,dat,xs)],all+jJ,rm++ax jI,?_,?_,?_,?_,?_,by simp [iK],tI.mono (by omega),?_,by omega,?_,?_,?_⟩⟩,?_⟩
    ·have e:((all:Int)+jJ)=((all+jJ:Nat):Int):=by omega
     rw [<-e];exact F1
    ·rw [aaJ]
     refine k1.ag bt (by simp;omega) λk hk aq=> ?_
     simp only [ar7]at aq;subst aq
     rcases asU.1 hk with hk|hk
     ·have:=sr _ hk;omega
     ·have:=u1 _ hk;omega
    ·rw [asY,<-PB];simp [rk]
    ·rw [yi,aaR st.last now av t (dat:=dat) kp (by simp [Jz]),u0];simp
    ·simp [<-dG];omega
    ·rw [asY,VH]
     have:(List.flatMap rk [(y,dat,xs)]).length<=6000000:=by
      simp only [Er,List.flatMap_nil,as0,rk,VH];omega
     omega
    ·refine(((af.trans' g16 (T:=[dw,df,b2]) (λk hk _=>hk) (by simp)).trans' oi (T:=[dw,df,b2]) (λk hk _=>hk) (λk hk cF=> ?_)).trans' b9 (T:=[dw,df,b2]) (λk hk _=>hk) (λk hk _=>by simp at hk;simp [hk])).trans' bt (λk hk _=>hk) (λk hk _=>by simp at hk;simp [hk])
     rcases o3.1 hk with rfl|hk
     ·omega
     ·rcases aZ _ hk with h|h
      ·simp only [o3,aty,or_false]at h;rcases h with h|h<;>simp [h]
      ·omega
    ·exact aZ.trans (by omega) tJ
    ·intro k hk
     have F2:=b9.size
     have F3:=bt.size
     rcases asU.1 hk with hk|hk
     ·have:=sr _ hk
      exact⟨this.1,by omega,λh=>(tJ k h).elim this.2.2 λh=>by omega⟩
     ·have:=u1 _ hk
      exact⟨by omega,by omega,tw k hk⟩
    ·show ys.length-(IntKind.i64.wrap ((j:Int)+1)).toNat<ys.length-((j:Nat):Int).toNat
     rw [b6 (by omega)]
     exact cJ bT
 ·have bT:j=ys.length:=by simp at aD;omega
  rw [avr (by omega),lf]at yi
  simp only [as0]at yi
  have PG:cD ys.length++eT.flatMap rk=rl eT:=by rw [Pr,iK,bT]
  rw [PG]
  have abi:(rl eT).length<=10+6000000*j:=by rw [<-PG,VH];omega
  generalize wV:(⟨(rl eT).toArray⟩:ByteArray)=dy
  have kq:dy.size<=10+6000000*j:=by rw [<-wV,wS];exact abi
  have JI:∀k∈S,k=dw\/k=df\/cC.size<=k:=λk hk=>by
   rcases aZ _ hk with h|h
   ·simp only [o3,aty,or_false]at h;omega
   ·omega
  have abj:=e8.aaK
  refine e8.Jr (j:=1) (v:=.string dy) (by kernel_rfl) (by kernel_rfl) rfl rfl (by omega) λz' u2 g1=> ?_
  have u2:kk z' dw df H.size [.map (some b2),.string dy,.slice none 0 0,.int .i64 all] (ax hj) S t:=u2
  refine Je (by omega) λJB qu hP su yk g2=> ?_
  have t1:=g1.size;have t2:=g2.size
  have kU:=yk.1
  have hF:=wO dy
  have Cs:me dy.size<=20000000:=by unfold me;omega
  refine⟨λvs H'=>match vs with|[.int _ i]=>∃e4:Nat,i=e4/\e4<=(eS dy).length/\aaQ su dw df b2 H.size dy all (ax hj) S (eS dy) t (480000*j) e4 H'|_=>False,
   λvs _=>match vs with|[.int _ i]=>(eS dy).length-i.toNat|_=>0,⟨0,rfl,by omega,⟨S,t,none,0,0,[],u2.ag g2 (λ_ _=>by simp) (λ_ _=>by simp),Own.nil _ _ _ _,by simp,rfl,z6,Fr.refl _ _,Grow.refl _ _,by simp [ax]⟩⟩,?_⟩
  rintro dF i2 ig ⟨e4,rfl,Jd,⟨S2,t2,jI,jJ,km,xs,rn,o1,u0,jr,tI,oi,tJ,tw⟩⟩
  have ni:=oi.size
  have Ab:Fr [] H ig:=((z7.ab g1 (by simp;omega)).aw g2).ab oi (by
   intro k hk
   have:=JI k hk
   omega)
  refine ai (λh1=> ?_) (λh1=> ?_)
  ·have gp:e4<(eS dy).length:=by simp at h1;omega
   obtain⟨o2,rp⟩:=eR gp
   have JD:bk bs.dT ig JB qu hP (eS dy):=yk.bL.ag oi λal e aq=>by
    have h1:=yk.ge al.block (by simp [e,ax])
    have:=e8.oW _ aq;omega
   refine JD.get rfl rp (by simp;omega) λal e ko=>⟨o2,iq (by kernel_rfl) ko,jI,jJ,km,rn.wR (j:=2) (by kernel_rfl) rfl,?_⟩
   refine Po rn (by have:=Ab.size;omega) (by have:=tI.hY;omega) (by have:=tI.mg;omega) λtK lb pO bG sg=>⟨pO.wR (j:=2) (by kernel_rfl) rfl,λnx Cl bH=> ?_⟩
   have abc:=bG.size
   have abd:=bH.eq
   have abe:=bH.size
   have oj:∀k,k<ig.size->k∉S2->k∉lb:=λk hk ay F0=>(sg k F0).elim ay λh=>by omega
   have JE:=o1.ag bG λal e=>tw _ (by simp [e,ax])
   have F1:=pO.ag bH.ag (λ_ _=>by simp) (λ_ _=>by simp)
   refine⟨F1.wR (j:=2) (by kernel_rfl) rfl,?_⟩
   refine iD (E:=b') (bytes:=8) I5 wu (JE.ab bH.ag) (gd b' (jH t2 o2).2 bH rfl) (by omega) (by have:=o1.1;omega) λyl Cm Cn Co Cp bU lD=> ?_
   have rq:∀k∈ax jI,su.size<=k/\k<ig.size/\k∉S2:=λk hk=>⟨(o1.ge k hk).1,(o1.ge k hk).2,tw k hk⟩
   have JF:=F1.ag bU (λk hk aq=>by have:=rq k aq;have:=FW k hk;omega) (λk hk aq=>by have:=rq k aq;exact oj k this.2.1 this.2.2 hk)
   refine JF.Jr (j:=2) (v:=.slice yl Cm Cn) (by kernel_rfl) (by kernel_rfl) rfl rfl (by omega) λCq Ck bW=> ?_
   have Cr:∀k∈ax yl,su.size<=k/\k∉lb/\k≠dw:=λk hk=>by
    have gH:=Cp.ge k hk
    have dJ:k∉lb:=λau=>by
     rcases lD k hk with h|h
     ·exact oj k (rq k h).2.1 (rq k h).2.2 au
     ·have:=pO.oW k au;omega
    exact⟨gH.1,dJ,by omega⟩
   refine⟨⟨e4+1,b6 (by omega),by omega,⟨lb,(jH t2 o2).1,yl,Cm,Cn,xs++[(jH t2 o2).2],Ck,Cp.ag bW (λal e aq=> ?_),?_,by simp [jr],?_,?_,tJ.trans ni sg,λk hk=>(Cr k hk).2.1⟩⟩,?_⟩
   ·have:=Cr al.block (by simp [e,ax])
    simp at aq;omega
   ·rw [u0,aaT rp];simp
   ·exact tI.take _
   ·refine((oi.trans' bG (T:=S) (λk hk _=>hk) (λk hk cF=> ?_)).trans' bH.ag (T:=S) (λk hk _=>hk) (by simp)).trans' (bU.trans bW) (λk hk _=>hk) (λk hk cF=> ?_)
    ·exact(tJ k hk).elim id λh=>by omega
    ·rcases asU.1 hk with hk|hk
     ·have:=rq k hk;omega
     ·simp only [ar7]at hk;rw [hk];exact abj.1
   ·show(eS dy).length-(IntKind.i64.wrap ((e4:Int)+1)).toNat<(eS dy).length-((e4:Nat):Int).toNat
    rw [b6 (by omega)]
    exact cJ gp
  ·have gp:e4=(eS dy).length:=by simp at h1;omega
   rw [avr (by omega),oe]at u0
   simp only [as0]at u0
   have du:=o1.1
   have F4:og m.size st.last st.dir now ys={tH:=t2,files:=eT,Ju:=rl eT,dirS:=xs,all:=all,fits:=t2.fits&&decide (xs.length<=20)&&decide ((all:Int)+2*xs.length<=m.size-2)}:=by
    unfold og
    simp only [Jw,yi,wV,u0,dG]
   have dC:8<=m.size/\m.size<=512:=by
    obtain⟨iH,Z2,jb,sf⟩:=h.uZ.it
    exact sf.size
   have abk:aU ig ⟨dU,0,none⟩ [.slice none 0 0,.map none,.string ⟨#[]⟩,.slice none 0 0,.int .i64 0,.int .i64 0,.bool false]:=by
    refine(((oh.ag af (by simp;omega)).ag g1 (by simp;omega)).ab g2).ag oi λaq=> ?_
    have:=JI _ aq
    simp only at this;omega
   have JH:mQ ig b2 rm (yg eT):=((uW.ag g1 (by simp;omega) (λk hk aq=>by have:=sr k hk;simp at aq;omega)).ab g2).ag oi Jy (λk hk=>(sr k hk).2.2)
   have fin:∀(f:Bool),f=(og m.size st.last st.dir now ys).fits->∃lg,fb atf 4 ig ⟨dw,6,none⟩ (.bool f) lg/\∃a n c r s ym hZ fZ jd rr PH,cR atf 471 lg ⟨dw,0,none⟩ (.agg ⟨[.slice a n c,.map r,.string s,.slice ym hZ fZ,.int .i64 jd,.int .i64 rr,.bool PH]⟩)∧
     ∃H',fb atf 471 lg ⟨dU,0,none⟩ (.agg ⟨[.slice a n c,.map r,.string s,.slice ym hZ fZ,.int .i64 jd,.int .i64 rr,.bool PH]⟩) H'/\∃a n c r s Ct om wW mS o4 PI,cR atf 471 H' ⟨dU,0,none⟩ (.agg ⟨[.slice a n c,.map r,.string s,.slice Ct om wW,.int .i64 mS,.int .i64 o4,.bool PI]⟩)∧
     ∃fh eh fZ Cu oV pP gV Cw fH js b,(Value.agg ⟨[.slice a n c,.map r,.string s,.slice Ct om wW,.int .i64 mS,.int .i64 o4,.bool PI]⟩)=.agg ⟨[.slice fh eh fZ,.map Cu,.string oV,.slice pP gV Cw,.int .i64 fH,.int .i64 js,.bool b]⟩/\K fh eh fZ Cu oV pP gV Cw fH js b H':=by
    intro f wX
    refine rn.aaL (b:=f) λtK pO b9=> ?_
    obtain⟨_,⟨o0,tF,tG,aqo,PJ,aqp,fR,an,od,eo,a1,bI,cW,cr⟩,ne,iI,tB,rj⟩:=pO
    have F2:=b9.size
    refine⟨o0,tF,tG,some b2,dy,jI,jJ,km,all,t2.hY,f,fR.dX (us:=[.slice o0 tF tG,.map (some b2),.string dy,.slice jI jJ km,.int .i64 all,.int .i64 t2.hY,.bool f]) (by kernel_rfl) (by kernel_rfl) rfl,?_⟩
    refine(abk.ag b9 (by simp;omega)).jq (by kernel_rfl) (by kernel_rfl) (λx aa=>by simp [atq]at aa;rcases aa with rfl|rfl|rfl|rfl|rfl|rfl|rfl<;>rfl) (by simp [atq]) λCl abl bt=> ?_
    have F3:=bt.size
    refine⟨o0,tF,tG,some b2,dy,jI,jJ,km,all,t2.hY,f,abl.dX (us:=[.slice o0 tF tG,.map (some b2),.string dy,.slice jI jJ km,.int .i64 all,.int .i64 t2.hY,.bool f]) (by kernel_rfl) (by kernel_rfl) (by simp [atq]),?_⟩
    have u1:=o1.ge
    have PK:=an.ge
    have abm:∀k∈ax o0,k∈S2:=λk hk=>by rw [bI];simp [hk]
    have PL:∀k∈ax o0,k≠dw/\k≠dU/\k≠b2:=λk hk=>by
     refine⟨λe=>cW (by rw [<-e];exact hk),?_⟩
     rcases tJ k (abm k hk)with h|h
     ·have:=JI k h
      have hx:k≠dw:=λe=>cW (by rw [<-e];exact hk)
      have kI:k≠df:=λe=>cr (by rw [<-e];exact hk)
      omega
     ·omega
    have hk:=hk ys
    rw [F4]at hk wX
    simp only at hk wX
    rw [wV,<-wX]at hk
    refine⟨o0,tF,tG,some b2,dy,jI,jJ,km,all,t2.hY,f,rfl,hk o0 tF tG b2 jI jJ km Cl rm wU ?_ (λk hk=>(PK k hk).1) ?_ ?_ (λk hk=>by have:=u1 k hk;have:=f17.size;omega) (λk hk=>by have:=sr k hk;have:=f17.size;omega) (by omega) ?_ ?_ ?_⟩
    ·exact an.bL.ag bt λal e aq=>by
      have:=PL al.block (by simp [e,ax])
      simp at aq;omega
    ·refine(JH.ag b9 (by simp;omega) ?_).ag bt (by simp;omega) ?_
     ·intro k hk aq
      have:=sr k hk;simp at aq;omega
     ·intro k hk aq
      have:=sr k hk;simp at aq;omega
    ·refine(o1.bL.ag b9 λal e aq=> ?_).ag bt λal e aq=> ?_
     ·have:=u1 al.block (by simp [e,ax]);simp at aq;omega
     ·have:=u1 al.block (by simp [e,ax]);simp at aq;omega
    ·exact(Ab.ab b9 (by simp;omega)).ab bt (by simp;omega)
    ·simp only [asU,not_or]
     refine⟨⟨λh=> ?_,λh=> ?_⟩,λh=> ?_⟩
     ·have:=sr _ h;omega
     ·have:=u1 _ h;omega
     ·exact(PL _ h).2.2 rfl
    ·intro k hk
     simp only [asU]at hk
     rcases hk with(h|h)|h
     ·have:=sr _ h;omega
     ·have:=u1 _ h;omega
     ·have:=PK _ h;omega
   have aqq:=tI.hY
   refine⟨jI,jJ,km,rn.wR (j:=2) (by kernel_rfl) rfl,t2.fits,rn.aaM,ai (λau=> ?_) (λau=> ?_)⟩
   ·refine ai (λa6=> ?_) (λa6=> ?_)
    ·refine⟨all,rn.wR (j:=3) (by kernel_rfl) rfl,some d,(h.ab Ab).bo.b5 (by kernel_rfl) rfl,O7 (h.ab Ab).uZ ?_⟩
     refine⟨rn.wR (j:=3) (by kernel_rfl) rfl,?_⟩
     refine fin _ ?_
     rw [F4,au,dv (n:=2*(jJ:Int)) (by omega) (by omega),dv (by omega) (by omega),dv (by omega) (by omega)]
     have:decide (xs.length<=20)=true:=by simp at a6⊢;omega
     rw [this,du]
     simp
    ·refine fin _ ?_
     rw [F4]
     have:decide (xs.length<=20)=false:=by simp at a6⊢;omega
     rw [this];simp
   ·refine fin _ ?_
    rw [F4]
    simp only [au,Bool.false_and]
theorem PM:∀{a b:List ByteArray},(a.map bj).Pairwise (·<·)->(b.map bj).Pairwise (·<·)->(∀y,y∈a↔y∈b)->a=b
 |[],[],_,_,_=>rfl
 |[],y::b,_,_,h=>absurd ((h y).2 (by simp)) (by simp)
 |x::a,[],_,_,h=>absurd ((h x).1 (by simp)) (by simp)
 |x::a,y::b,h1,ae,h=>by
  rw [qO,ave]at h1 ae
  have PN:∀z∈a,bj x<bj z:=λz aC=>h1.1 _ (A2 aC)
  have PO:∀z∈b,bj y<bj z:=λz aC=>ae.1 _ (A2 aC)
  have u3:x=y:=by
   rcases o3.1 ((h x).1 (by simp))with e|e
   ·exact e
   ·rcases o3.1 ((h y).2 (by simp))with cV|cV
    ·exact cV.symm
    ·exact absurd (List.lt_trans (PN y cV) (PO x e)) (avl _)
  subst u3
  congr 1
  refine PM h1.2 ae.2 λz=> ?_
  have:=h z
  constructor
  ·intro aC
   rcases o3.1 (this.1 (MY _ aC))with e|e
   ·subst e;exact absurd (PN z aC) (avl _)
   ·exact e
  ·intro aC
   rcases o3.1 (this.2 (MY _ aC))with e|e
   ·subst e;exact absurd (PO z aC) (avl _)
   ·exact e
noncomputable def namesL(now:ByteArray->Option ByteArray):List ByteArray:=open Classical in if h:∃ys,zW now ys then h.choose else []
theorem PQ{now:ByteArray->Option ByteArray}{ys:List ByteArray}(h:zW now ys):namesL now=ys:=by
 have aa:∃ys,zW now ys:=⟨ys,h⟩
 unfold namesL
 rw [dif_pos aa]
 have ak:=aa.choose_spec
 exact PM ak.1 h.1 λy=>by rw [ak.2,h.2]
noncomputable def planN(size:Int)(st:f')(now:ByteArray->Option ByteArray):PR:=og size st.last st.dir now (namesL now)
noncomputable def changeM(size:Int)(st:f')(ch:(ByteArray->Option ByteArray)->ByteArray->Option ByteArray):f'×Int:=
 if(planN size st (ch st.now)).fits then({st with now:=ch st.now},0)else(st,2)
theorem hN.mono{a:Option Addr}{Q:List Nat}{st:f'}{m:ei}{iv:Nat}(h:hN H s d cK cy a n c Q Sd st m N M)(cQ:M<=iv):hN H s d cK cy a n c Q Sd st m N iv:=
 ⟨h.bo,h.now.mono cQ,h.last,h.dir,h.Cb,h.uZ,h.own,h.apart,h.FN⟩
theorem PS{a:Option Addr}{Q:List Nat}{st:f'}{m:ei}{FQ:Value}{G:J->Prop}{ch:(ByteArray->Option ByteArray)->ByteArray->Option ByteArray}{K:Int->J->Prop}
  (h:hN H s d cK cy a n c Q Sd st m N M) (cQ:M+1<=100) (bK:tE st (ch st.now)) (ak:Jp FQ G ch) (b4:∀H',Fr [] H H'->G H')
  (hk:∀fA H',(fA=cK\/H.size<=fA)->hN H' s d fA cy a n c Q Sd (changeM m.size st ch).1 m N (M+1)->Fr [s.block] H H'->K (changeM m.size st ch).2 H'):
  aY atf 295 ⟨[.pointer (some s),FQ]⟩ H λv H'=>∃n,v=.int .i64 n/\K n H':=by
 apply abn
 refine⟨some cK,h.bo.ld (by kernel_rfl) rfl,?_⟩
 refine aY.mono (h.now.clone (K:=λeU H'=>H.size<=eU/\ic H' eU st.now M/\Fr [] H H') λeU H' h1 ae au=>⟨h1,ae,au⟩) λv H1=> ?_
 rintro⟨j0,rfl,eU,rfl,aA,aB,b9⟩
 refine⟨some eU,rfl,ak eU M st.now H1 _ (b4 H1 b9) aB λao bH bt=> ?_⟩
 have s1:=b9.size
 have s2:=bt.size
 have f2:Fr [] H ao:=b9.ab bt (by simp;omega)
 have ae:=h.ab f2
 refine aaU ae bH (by omega) bK λys o0 tF tG wT yh sq FR aF rm wU _ _ _ _ _ _ _ bG _ _=> ?_
 have f3:=f2.aw bG
 have au:=ae.ab bG
 have bF:=bH.ag bG (by simp)
 have bh:planN m.size st (ch st.now)=og m.size st.last st.dir (ch st.now) ys:=by unfold planN;rw [PQ wU]
 unfold changeM at hk
 rw [bh]at hk
 refine ai (λaD=>⟨_,rfl,?_⟩) (λaD=> ?_)
 ·have bT:(og m.size st.last st.dir (ch st.now) ys).fits=false:=by simpa using aD
  rw [bT]at hk
  exact hk cK aF (.inl rfl) (au.mono (by omega)) (f3.mono (by simp))
 ·have bT:(og m.size st.last st.dir (ch st.now) ys).fits=true:=by simpa using aD
  rw [bT]at hk
  have hs:=h.bo.lt
  refine Go.Proofs.bg.aU.set au.bo (j:=1) (v:=.map (some eU)) (by kernel_rfl) (by kernel_rfl) rfl rfl (by simp) λaN ah bU=>⟨_,rfl,hk eU aN (.inr aA) ⟨?_,?_,?_,?_,h.Cb,?_,?_,?_,?_⟩ (f3.trans' bU (by simp) (λk hk _=>hk))⟩
  ·exact ah
  ·exact bF.ag bU (by simp;omega)
  ·refine au.last.ag bU (λaq=> ?_) (λk hk aq=> ?_)
   ·exact h.own (by simp only [ar7]at aq;simp [aq])
   ·exact h.own (by simp only [ar7]at aq;rw [<-aq];simp [hk])
  ·exact au.dir.ag bU λal e aq=>h.own (by simp only [ar7]at aq;rw [<-aq];simp [h.Cb al.block (by simp [e,ax])])
  ·exact au.uZ.ag bU λk hk aq=>h.apart s.block (by simp) (by simp only [ar7]at aq;rw [<-aq];exact hk)
  ·intro aq
   rcases o3.1 aq with aq|aq
   ·omega
   ·exact h.own (MY _ aq)
  ·intro k hk aq
   simp only [o3]at hk
   rcases hk with rfl|rfl|rfl|hk
   ·exact h.apart _ (by simp) aq
   ·have:=h.uZ.oW _ aq;omega
   ·exact h.apart _ (by simp) aq
   ·exact h.apart _ (by simp [hk]) aq
  ·exact au.FN.le bU.size
noncomputable def writeS(size:Int)(st:f')(name data:ByteArray):f'×Int:=if mf name then changeM size st (λnow=>oY now name data)else(st,100)
theorem PT{a:Option Addr}{Q:List Nat}{st:f'}{m:ei}{name data:ByteArray}{K:Int->J->Prop}
  (h:hN H s d cK cy a n c Q Sd st m N M) (cQ:M+1<=100) (ay:name.size<=1000000) (bK:mf name->tE st (oY st.now name data))
  (hk:∀fA H',(fA=cK\/H.size<=fA)->hN H' s d fA cy a n c Q Sd (writeS m.size st name data).1 m N (M+1)->Fr [s.block] H H'->K (writeS m.size st name data).2 H'):
  aY atf 202 ⟨[.pointer (some s),.string name,.string data]⟩ H λv H'=>∃n,v=.int .i64 n/\K n H':=by
 apply abo
 intro b H1 aB b1 ao bH
 have f2:=aB.ag.aw bH.ag
 refine⟨name,(aB.bo.ab bH.ag).b5 (by kernel_rfl) rfl,Pk (by omega) λaF f3=> ?_⟩
 have nA:=f2.aw f3
 unfold writeS at hk
 refine ai (λaD=> ?_) (λaD=> ?_)
 ·have bT:¬mf name:=by simpa using aD
  rw [if_neg bT]at hk
  exact⟨_,rfl,hk cK aF (.inl rfl) ((h.ab nA).mono (by omega)) (nA.mono (by simp))⟩
 ·have bT:mf name:=by simpa using aD
  rw [if_pos bT]at hk
  refine PS (h.ab nA) cQ (bK bT) (aaE (name:=name) (data:=data)) (λH' af=>⟨(bH.bo.ab f3).ab af,((aB.bo.ab bH.ag).ab f3).ab af⟩) λfA H' a1 h' af=>⟨_,rfl,hk fA H' (a1.imp id λz=>by have:=nA.size;omega) h' (nA.trans' af (by simp) (λk hk _=>hk))⟩
theorem abp{a:Option Addr}{Q:List Nat}{st:f'}{m:ei}{name data:ByteArray}{K:Int->J->Prop}
  (h:hN H s d cK cy a n c Q Sd st m N M) (cQ:M+1<=100) (ay:name.size<=1000000) (aO:((st.now name).getD ⟨#[]⟩).size+data.size<=1000000000) (bK:mf name->tE st (oY st.now name ((st.now name).getD ⟨#[]⟩++data)))
  (hk:∀fA H',(fA=cK\/H.size<=fA)->hN H' s d fA cy a n c Q Sd (writeS m.size st name ((st.now name).getD ⟨#[]⟩++data)).1 m N (M+1)->Fr [s.block] H H'->K (writeS m.size st name ((st.now name).getD ⟨#[]⟩++data)).2 H'):
  aY atf 177 ⟨[.pointer (some s),.string name,.string data]⟩ H λv H'=>∃n,v=.int .i64 n/\K n H':=by
 apply abq
 refine⟨some cK,h.bo.ld (by kernel_rfl) rfl,_,h.now.look name,cb (decide_eq_true (by omega)) ?_⟩
 exact PT h cQ ay bK λfA H' a1 h' af=>⟨_,rfl,hk fA H' a1 h' af⟩
noncomputable def deleteS(size:Int)(st:f')(name:ByteArray):f'×Int:=if mf name then(if(st.now name).isSome then changeM size st (λnow=>tz now name)else(st,3))else(st,100)
theorem abr{a:Option Addr}{Q:List Nat}{st:f'}{m:ei}{name:ByteArray}{K:Int->J->Prop}
  (h:hN H s d cK cy a n c Q Sd st m N M) (cQ:M+1<=100) (ay:name.size<=1000000) (bK:tE st (tz st.now name))
  (hk:∀fA H',(fA=cK\/H.size<=fA)->hN H' s d fA cy a n c Q Sd (deleteS m.size st name).1 m N (M+1)->Fr [s.block] H H'->K (deleteS m.size st name).2 H'):
  aY atf 204 ⟨[.pointer (some s),.string name]⟩ H λv H'=>∃n,v=.int .i64 n/\K n H':=by
 apply abt
 intro b H1 aB
 refine⟨name,aB.bo.b5 (by kernel_rfl) rfl,Pk (by omega) λaF f3=> ?_⟩
 have nA:=aB.ag.aw f3
 unfold deleteS at hk
 refine ai (λaD=> ?_) (λaD=> ?_)
 ·have bT:¬mf name:=by simpa using aD
  rw [if_neg bT]at hk
  exact⟨_,rfl,hk cK aF (.inl rfl) ((h.ab nA).mono (by omega)) (nA.mono (by simp))⟩
 ·have bT:mf name:=by simpa using aD
  rw [if_pos bT]at hk
  have au:=h.ab nA
  refine⟨some cK,au.bo.ld (by kernel_rfl) rfl,name,(aB.bo.ab f3).b5 (by kernel_rfl) rfl,_,_,au.now.FM name,ai (λh1=> ?_) (λh1=> ?_)⟩
  ·have gp:¬(st.now name).isSome=true:=by simpa using h1
   rw [if_neg gp]at hk
   exact⟨_,rfl,hk cK aF (.inl rfl) (au.mono (by omega)) (nA.mono (by simp))⟩
  ·have gp:(st.now name).isSome=true:=by simpa using h1
   rw [if_pos gp]at hk
   refine PS au cQ bK (aaG (name:=name)) (λH' af=>(aB.bo.ab f3).ab af) λfA H' a1 h' af=>⟨_,rfl,hk fA H' (a1.imp id λz=>by have:=nA.size;omega) h' (nA.trans' af (by simp) (λk hk _=>hk))⟩
end Go.Proofs.bg
namespace Go.Proofs
open Classical in
noncomputable def o8(r:eK):Int:=if pQ r then(if r.k=0/\¬fE r.l then 40 else 0)else 1
noncomputable def mi:List eK->Int
 |[]=>0
 |r::l=>if o8 r≠0 then o8 r else mi l
theorem P4{r:eK}(dc:rv r):o8 r=0↔pS r:=by
 unfold o8
 constructor
 ·intro h
  split at h
  ·rename_i cn
   split at h
   ·exact absurd h (by decide)
   ·rename_i ak
    exact⟨cn,dc,λaD=>Classical.byContradiction λay=>ak ⟨aD,ay⟩⟩
  ·exact absurd h (by decide)
 ·intro h
  rw [if_pos h.u6,if_neg λak=>ak.2 (h.da ak.1)]
theorem Ge:∀{rs:List eK},(∀r∈rs,rv r)->(mi rs=0↔∀r∈rs,pS r)
 |[],_=>by simp [mi]
 |r::l,dc=>by
  have h1:=P4 (dc r (by simp))
  have ae:=Ge (rs:=l) λx aa=>dc x (by simp [aa])
  unfold mi
  by_cases h:o8 r≠0
  ·rw [if_pos h]
   exact⟨λe=>absurd e h,λaZ=>absurd (h1.2 (aZ r (by simp))) h⟩
  ·rw [if_neg h,ae]
   have aD:o8 r=0:=Decidable.not_not.1 h
   exact⟨λaZ x aa=>(o3.1 aa).elim (λe=>by rw [e];exact h1.1 aD) (aZ x),λaZ x aa=>aZ x (by simp [aa])⟩
theorem P5:∀{rs:List eK} {k:Nat},(∀r∈rs,rv r)->(∀r∈rs.take k,pS r)->mi rs=mi (rs.drop k)
 |[],k,_,_=>by simp
 |r::l,0,_,_=>by simp
 |r::l,k+1,dc,aZ=>by
  rw [List.take_succ_cons]at aZ
  rw [List.drop_succ_cons,<-P5 (rs:=l) (k:=k) (λx aa=>dc x (by simp [aa])) λx aa=>aZ x (by simp [aa])]
  have:o8 r=0:=(P4 (dc r (by simp))).2 (aZ r (by simp))
  conv=>lhs;unfold mi
  rw [if_neg (by simp [this])]
def lj(l:List UInt8):ByteArray:=⟨l.toArray⟩
theorem CH(l:List UInt8):(lj l).size=l.length:=eQ l
def lL(rs:List eK):List UInt8:=rs.flatMap λr=>hW (lj (kr r))
def nE(r:eK):Nat:=r.rows.length+r.fq.length
def j1(rs:List eK):Nat:=(rs.map nE).sum
theorem P6{r:eK}(h:pS r):(kr r).length<=740+30*nE r:=by
 have hk:=h.u6.k
 have ae:=tL (v:=r.k) ⟨hk.1,by omega⟩
 unfold kr
 rw [VH]
 have ah:(lh r).length<=720+30*nE r:=by
  unfold lh nE
  split
  ·rename_i aD
   have:=wH (h.da aD)
   unfold cx
   rw [VH,c6,show(oS r.l).size=(ny r.l).length from eQ _]
   have:=hi (n:=(ny r.l).length) (by omega)
   omega
  ·split
   ·have aA:∀x∈r.rows,(o5 x).length<=30:=λx aa=>F8 (h.u6.row x aa) (h.typ x aa)
    have:=JO (f:=o5) aA
    have:=hi (n:=r.rows.length) (by have:=h.u6.nr;omega)
    rw [VH]
    omega
   ·split
    ·have aA:∀x∈r.fq,(pR x).length<=30:=λx aa=>F9 (h.u6.tomb x aa)
     have:=JO (f:=pR) aA
     have:=hi (n:=r.fq.length) (by have:=h.u6.F5;omega)
     rw [VH]
     omega
    ·have:=tL (v:=r.at') ⟨h.u6.at'.1,by have:=h.u6.at'.2;omega⟩
     omega
 omega
theorem Gf:∀{rs:List eK},(∀r∈rs,pS r)->(∀r∈rs,nE r<=10000)->(lL rs).length<=760*rs.length+30*j1 rs
 |[],_,_=>by simp [lL]
 |r::l,h,hw=>by
  have ih:=Gf (rs:=l) (λx aa=>h x (by simp [aa])) λx aa=>hw x (by simp [aa])
  have h1:=P6 (h r (by simp))
  have ae:=hw r (by simp)
  have af:(hW (lj (kr r))).length<=(kr r).length+12:=by
   rw [yb]
   unfold cx
   rw [VH,c6,CH]
   have:=hi (n:=(kr r).length) (by omega)
   omega
  unfold lL at ih⊢
  unfold j1 at ih⊢
  rw [Er,VH,qO,List.sum_cons,asE]
  omega
theorem ab0{rs:List eK}{k:Nat}{r:eK}(h:rs[k]?=some r):lL (rs.take (k+1))=lL (rs.take k)++hW (lj (kr r)):=by
 unfold lL
 rw [ats,h,asY]
 simp
theorem JT(rs:List eK)(k:Nat):j1 (rs.take k)<=j1 rs:=by
 unfold j1
 have:(rs.map nE).sum=((rs.take k).map nE).sum+((rs.drop k).map nE).sum:=by
  rw [<-List.sum_append,<-as2,auP]
 omega
theorem CI{rs:List eK}{r:eK}(h:r∈rs):nE r<=j1 rs:=by
 unfold j1
 induction rs with
 |nil=>simp at h
 |cons a l ih=>
  rw [qO,List.sum_cons]
  rcases o3.1 h with e|e
  ·rw [e];omega
  ·have:=ih e;omega
def cY:ByteArray:=⟨#[119,97,108]⟩
theorem ab1{H:J}{m:g'}{r:eK}{K:ByteArray->Int->J->Prop}(h:lK H m r)(hs:Small m)(dc:rv r)
  (cz:o8 r≠0->∀H',Fr [] H H'->K ⟨#[]⟩ (o8 r) H') (ff:pS r->∀H',Fr [] H H'->K (lj (kr r)) 0 H'):
  aY atf P2 ⟨[.agg ⟨fI m⟩]⟩ H λv H'=>∃s e,v=.tuple ⟨[.string s,.int .i64 e]⟩/\K s e H':=by
 have bc:¬pQ r->o8 r=1:=λh=>by unfold o8;rw [if_neg h]
 have bN:pQ r->r.k=0->¬fE r.l->o8 r=40:=λh aD ak=>by unfold o8;rw [if_pos h,if_pos ⟨aD,ak⟩]
 refine IY h hs dc (λcn H' af=> ?_) (λcn aD ak H' af=> ?_) λcn ak H' af=>ff ⟨cn,dc,ak⟩ H' af
 ·have:=cz (by rw [bc cn];decide) H' af
  rw [bc cn]at this;exact this
 ·have:=cz (by rw [bN cn aD ak];decide) H' af
  rw [bN cn aD ak]at this;exact this
theorem ab2{st:Addr}{a:Option Addr}{n c:Nat}{ms:List g'}{rs:List eK}{H:J}{K:Int->J->Prop}(aa:bk pT H a n c ms)(aA:qE H ms rs)(dc:∀r∈rs,rv r)(lk:∀m∈ms,Small m)(JU:k8 H)(ay:n<=10000)(hw:j1 rs<=10000)
  (cz:mi rs≠0->∀H',Fr [] H H'->K (mi rs) H') (ff:mi rs=0->(∀r∈rs,pS r)->∀H',Fr [] H H'->aY atf ab3 ⟨[.pointer (some st),.string cY,.string (lj (lL rs))]⟩ H' λv H'=>∃n,v=.int .i64 n/\K n H'):
  aY atf ab4 ⟨[.pointer (some st),.slice a n c]⟩ H λv H'=>∃n,v=.int .i64 n/\K n H':=by
 apply ab5
 intro b H1 aB
 have F7:=aB.eq
 have CB:=aB.size
 have jr:=aa.len
 have ry:=aA.1
 refine⟨λvs H'=>match vs with|[.int _ i]=>∃(k:Nat) (S:List Nat),i=k/\k<=n/\hI H' b S (lL (rs.take k))/\(∀j∈S,H.size<=j)/\(∀r∈rs.take k,pS r)/\Fr [] H H'|_=>False,
  λvs _=>match vs with|[.int _ i]=>n-i.toNat|_=>0,⟨0,[b],rfl,by omega,l4.new aB,λj a'=>by simp at a';omega,by simp,aB.ag⟩,?_⟩
 rintro bm i ao ⟨k,S,rfl,du,ah,bI,aZ,af⟩
 have JV:=Gf aZ λr aA=>by have:=CI (auL aA);omega
 have ab6:=JT rs k
 have sv:(rs.take k).length<=10000:=by rw [apH];omega
 refine ai (λaD=> ?_) (λaD=> ?_)
 ·have bT:k<n:=by simpa using aD
  obtain⟨m,hm⟩:=eR (l:=ms) (i:=k) (by omega)
  obtain⟨r,w0,hh⟩:=aA.at hm
  have ab7:=lk m (att hm)
  have ab8:=dc r (att w0)
  refine(aa.ab af).get rfl hm (decide_eq_true (by omega)) λal bS ak=>⟨_,_,_,_,_,_,_,_,_,_,_,P3 ak,λb1 aF bF=> ?_⟩
  have dP:=bF.eq
  have qt:=bF.size
  refine Gd (m:=m) (m':=m0 0) bF.bo λaN dY bU=>⟨_,_,_,_,_,_,_,_,_,_,_,dY.dX (by kernel_rfl) (by kernel_rfl) rfl,?_⟩
  have kJ:Fr [] ao aN:=bF.ag.ab bU λk hk=>by simp at hk;omega
  have lG:=af.aw kJ
  have JW:=P5 dc aZ
  have ll:rs.drop k=r::rs.drop (k+1):=by
   obtain⟨dN,dm⟩:=qb.1 w0
   rw [avj dN,dm]
  refine ab1 (hh.ab lG) ab7 ab8 (λhe bw bW=>ai (λ_=>⟨_,rfl,?_⟩) (λh=>absurd (by simpa using h) he)) λb4 bw bW=>ai (λh=>by simp at h) λ_=> ?_
  ·have e:mi rs=o8 r:=by
    rw [JW,ll];conv=>lhs;unfold mi
    rw [if_pos he]
   have:=cz (by rw [e];exact he) bw (lG.aw bW)
   rw [e]at this;exact this
  ·have rz:=P6 b4
   have sw:=CI (att w0)
   refine OR ((JU.ab lG).ab bW) (by rw [CH];omega) λbY cB=> ?_
   have JX:=(kJ.aw bW).aw cB
   have iK:(hW (lj (kr r))).length<=1000000:=by
    rw [yb];unfold cx
    rw [VH,c6,CH]
    have:=hi (n:=(kr r).length) (by omega)
    omega
   refine r4 (ah.ab JX) (by rw [eQ (hW (lj (kr r)))];omega) λcC BC ji eJ pC=> ?_
   rw [b6 (by omega)]
   rw [mh (hW (lj (kr r)))]at ji
   refine⟨⟨k+1,BC,rfl,by omega,by rw [ab0 w0];exact ji,λj a'=> ?_,λx aa=> ?_,(af.aw JX).ab eJ bI⟩,cJ bT⟩
   ·rcases pC j a' with h|h
    ·exact bI j h
    ·have:=af.size;have:=JX.size;omega
   ·rw [ats,w0]at aa
    rcases asU.1 aa with aa|aa
    ·exact aZ x aa
    ·simp at aa;rw [aa];exact b4
 ·have u7:k=n:=by simp at aD;omega
  rw [asG (by omega)]at ah aZ JV
  refine r5 ah (by omega) λaF bG=> ?_
  exact aY.mono (ff ((Ge dc).2 aZ) aZ aF (af.ab bG bI)) λv H' h=>by
   obtain⟨n,rfl,hk⟩:=h
   exact⟨n,rfl,n,rfl,hk⟩
end Go.Proofs
section
open Go.Proofs Go.Shelf Go.RowKit
namespace Go.bs
theorem HK{P:Program}{k:FuncId}{args:Array Value}{v:Value}{H:J}{K:Value->J->Prop}(h:∀w,Calls P k args w λe w'=>e=.returned v/\w'=w)(hk:K v H):aY P k args H K:=
 λE d=>(h _).mono λe w' ⟨h1,ae⟩=>⟨v,H,d,h1,ae,hk⟩
theorem apr{P:Program}{k:FuncId}{args:Array Value}{v:Value}{H:J}{K:Value->J->Prop}(h:∀w,w.heap=H->Calls P k args w λe w'=>e=.returned v/\∃n,w'=w.drewN n)(hk:K v H):aY P k args H K:=
 λE d=>(h (a8 E H d) rfl).mono λe w' ⟨h1,n,ae⟩=>⟨v,H,⟨d.1+n,VF d.2 (au3 _ _)⟩,h1,ae,hk⟩
theorem T6{P:Program}{k:FuncId}{args:Array Value}{H:J}{K:Value->J->Prop}(h:∀w,w.heap=H->Calls P k args w λe w'=>∃v,e=.returned v/\Below w.heap.size w w'/\w.drawn<=w'.drawn/\K v w'.heap):aY P k args H K:=
 λE d=>(h (a8 E H d) rfl).mono λe w' ⟨v,h1,ah,aO,hk⟩=>⟨v,w'.heap,⟨w'.drawn,VF d.2 aO⟩,h1,by
  cases w';obtain⟨dN,dm,hQ,_,_⟩:=ah;simp only at dN dm hQ;subst dN dm hQ;rfl,hk⟩
theorem Below.Hp{w w':World}(h:Below w.heap.size w w'):Fr [] w.heap w'.heap:=⟨h.size,λk hk _=>h.block k hk⟩
variable{P:Program}{hT:Ren}{H:J}{k:FuncId}
theorem TA{K:ByteArray->J->Prop}(L:LaysM.n171 P hT)(lA:hT.f 171=k){n:Int}(ay:dp n)(bf:∀w:World,w.heap=H->Lib.TabIs P w "internal/strconv.uint64pow10" .u64 Lib.pow10Tab)(hk:∀H',Fr [] H H'->K ⟨(Lib.itoa n).toArray⟩ H'):
  aY P k ⟨[.int .i64 n]⟩ H λv H'=>∃s,v=.string s/\K s H':=by
 subst lA
 intro E d
 refine(Any.strconv_Itoa L n ay.1 ay.2 (a8 E H d) (bf _ rfl)).mono ?_
 rintro e w' ⟨rfl,m,os,rfl⟩
 refine⟨_,(Go.Sort.grow ((a8 E H d).drewN m) os).heap,⟨d.1+m,VF d.2 (au3 _ _)⟩,rfl,rfl,_,rfl,hk _ ⟨by simp [Go.Sort.grow,World.drewN,a8],λj a' _=> ?_⟩⟩
 show(H++os)[j]?=H[j]?
 rw [Array.getElem?_append_left a']
theorem akp{K:Int->Value->J->Prop}(L:LaysC.n244 P hT)(lA:hT.f 244=k){s:ByteArray}(hs:s.size<=1000000)
  (ff:∀n H',Fr [] H H'->K n .nilIface H') (cz:∀n z H',z=2\/z=1->Fr [] H H'->K n (.iface (hT.t 167) (.int .i64 z)) H'):
  aY P k ⟨[.string s]⟩ H λv H'=>∃n e,v=.tuple ⟨[.int .i64 n,e]⟩/\K n e H':=by
 subst lA
 refine T6 λw hw=> ?_
 subst hw
 refine(Any.internal_strconv_Atoi_all L s (by omega) w).mono ?_
 rintro e w' ⟨rfl,hw⟩
 have ah:Below w.heap.size w w'/\w.drawn<=w'.drawn:=by
  rcases hw with rfl|⟨t,rfl⟩
  ·exact⟨Below.refl _ _,nQ _⟩
  ·exact⟨Lib.bytesWorld_below _ _ _,Nat.le_succ _⟩
 refine⟨_,rfl,ah.1,ah.2,?_⟩
 cases Lib.atoiAll s.data.toList
 ·exact⟨_,_,rfl,ff _ _ (Below.Hp ah.1)⟩
 ·exact⟨_,_,rfl,cz _ _ _ (.inl rfl) (Below.Hp ah.1)⟩
 ·exact⟨_,_,rfl,cz _ _ _ (.inr rfl) (Below.Hp ah.1)⟩
theorem Oo{K:Bool->J->Prop}(L:Lays.n99 P hT)(lA:hT.f 99=k){s p:ByteArray}(hk:K (Lib.hasPrefix s.data.toList p.data.toList) H):aY P k ⟨[.string s,.string p]⟩ H λv H'=>∃b,v=.bool b/\K b H':=by
 subst lA;exact HK (λw=>Any.strings_HasPrefix L s p w) ⟨_,rfl,hk⟩
theorem LW{K:ByteArray->Bool->J->Prop}(L:Lays.n103 P hT)(lA:hT.f 103=k){s p:ByteArray}(hk:K ⟨(Lib.trimPrefix s.data.toList p.data.toList).toArray⟩ (Lib.hasPrefix s.data.toList p.data.toList) H):aY P k ⟨[.string s,.string p]⟩ H λv H'=>∃t b,v=.tuple ⟨[.string t,.bool b]⟩/\K t b H':=by
 subst lA;exact HK (λw=>Any.strings_CutPrefix L s p w) ⟨_,_,rfl,hk⟩
theorem aj1{K:ByteArray->Bool->J->Prop}(L:Lays.n104 P hT)(lA:hT.f 104=k){s p:ByteArray}(hs:s.size<=1000000000)(hk:K ⟨(Lib.trimSuffix s.data.toList p.data.toList).toArray⟩ (Lib.hasSuffix s.data.toList p.data.toList) H):aY P k ⟨[.string s,.string p]⟩ H λv H'=>∃t b,v=.tuple ⟨[.string t,.bool b]⟩/\K t b H':=by
 subst lA;exact HK (λw=>Any.strings_CutSuffix L s p w (by omega)) ⟨_,_,rfl,hk⟩
theorem aks{K:Int->J->Prop}(L:Lays.n149 P hT)(lA:hT.f 149=k){s:ByteArray}{c:Int}(hs:s.size<=1000000000)(hk:K (Lib.lastIndexByte s c) H):aY P k ⟨[.string s,.int .u8 c]⟩ H λv H'=>∃n,v=.int .i64 n/\K n H':=by
 subst lA;exact HK (λw=>Any.strings_LastIndexByte L s c (by omega) w) ⟨_,rfl,hk⟩
theorem ajZ{K:ByteArray->ByteArray->Bool->J->Prop}(L:Lays.n145 P hT)(lA:hT.f 145=k){s p:ByteArray}(hs:s.size<=1000000000)(hm:∃m,hM H ⟨hT.g 1,0,none⟩=some (.int .i64 m))
  (hk:K ⟨(Lib.cut s.data.toList p.data.toList).1.toArray⟩ ⟨(Lib.cut s.data.toList p.data.toList).2.1.toArray⟩ (Lib.cut s.data.toList p.data.toList).2.2 H):aY P k ⟨[.string s,.string p]⟩ H λv H'=>∃t u b,v=.tuple ⟨[.string t,.string u,.bool b]⟩/\K t u b H':=by
 subst lA
 obtain⟨m,hm⟩:=hm
 exact apr (λw hw=>Any.strings_Cut L s p m w (by omega) (by subst hw;rw [xn];exact hm)) ⟨_,_,_,rfl,hk⟩
end Go.bs
end
namespace Go.Proofs
open Go.Shelf
def Tryz.apj:Go.Shelf.Ren:=⟨fun|244=>301|247=>368|287=>410|321=>431|322=>432|n=>n,fun|9=>9|3=>3|75=>213|4=>4|5=>5|167=>477|37=>209|0=>0|85=>478|2=>2|53=>89|175=>518|46=>249|21=>21|80=>216|n=>n,fun|n=>n⟩
theorem Tryz.Tw:Go.Proofs.LaysC.n244 atf Tryz.apj:={
 mixed:=by kernel_rfl
 f244:=Tryz.func301.trans (congrArg some (by kernel_rfl))
 f247:=Tryz.func368.trans (congrArg some (by kernel_rfl))
 f287:=Tryz.func410.trans (congrArg some (by kernel_rfl))
 f321:=Tryz.func431.trans (congrArg some (by kernel_rfl))
 f322:=Tryz.func432.trans (congrArg some (by kernel_rfl))
 t0:=atN
 a0:=Tryz.isAgg0
 z0:=Tryz.sizeOf0
 v0:=atQ
 t2:=avz
 a2:=Tryz.isAgg2
 z2:=Tryz.sizeOf2
 v2:=avA
 t3:=atA
 a3:=atD
 z3:=atE
 v3:=atF
 t4:=atS
 a4:=atT
 z4:=atU
 v4:=atV
 t5:=atW
 a5:=atX
 z5:=atY
 v5:=atZ
 t9:=atB
 a9:=atG
 z9:=atH
 v9:=atI
 t21:=Tryz.underlying21
 a21:=Tryz.isAgg21
 z21:=Tryz.sizeOf21
 v21:=Tryz.zeroValue21
 t37:=avB
 a37:=Tryz.isAgg209
 z37:=Tryz.sizeOf209
 v37:=avC
 t46:=at0
 a46:=at1
 z46:=at2
 v46:=at3
 t53:=aum
 a53:=Tryz.isAgg89
 z53:=Tryz.sizeOf89
 v53:=aup
 t75:=Tryz.underlying213
 a75:=Tryz.isAgg213
 z75:=Tryz.sizeOf213
 v75:=Tryz.zeroValue213
 t85:=Tryz.underlying478
 a85:=Tryz.isAgg478
 z85:=Tryz.sizeOf478
 v85:=Tryz.zeroValue478
 t167:=Tryz.underlying477
 a167:=Tryz.isAgg477
 z167:=Tryz.sizeOf477
 v167:=Tryz.zeroValue477
 t175:=Tryz.underlying518
 a175:=Tryz.isAgg518
 z175:=Tryz.sizeOf518
 v175:=Tryz.zeroValue518
 t80:=Tryz.underlying216
 a80:=Tryz.isAgg216
 z80:=Tryz.sizeOf216
 v80:=Tryz.zeroValue216
 i0:=by kernel_rfl
 i2:=by kernel_rfl
 i3:=by kernel_rfl
 i4:=by kernel_rfl
 i5:=by kernel_rfl
 i9:=by kernel_rfl
 i21:=by kernel_rfl
 i37:=by kernel_rfl
 i46:=by kernel_rfl
 i53:=by kernel_rfl
 i75:=by kernel_rfl
 i80:=by kernel_rfl
 i85:=by kernel_rfl
 i167:=by kernel_rfl
 i175:=by kernel_rfl
 c0:=by kernel_rfl
 c2:=by kernel_rfl
 c3:=by kernel_rfl
 c4:=by kernel_rfl
 c5:=by kernel_rfl
 c9:=by kernel_rfl
 c21:=by kernel_rfl
 c37:=by kernel_rfl
 c46:=by kernel_rfl
 c53:=by kernel_rfl
 c75:=by kernel_rfl
 c80:=by kernel_rfl
 c85:=by kernel_rfl
 c167:=by kernel_rfl
 c175:=by kernel_rfl}
def Tryz.apk:Go.Shelf.Ren:=⟨fun|171=>120|243=>210|246=>299|283=>363|284=>364|285=>365|286=>366|129=>248|317=>406|318=>407|319=>408|320=>409|337=>429|338=>430|n=>n,fun|3=>3|9=>9|2=>2|4=>4|171=>473|0=>0|53=>89|37=>209|5=>5|173=>475|212=>516|51=>371|20=>20|213=>517|46=>249|232=>547|233=>548|n=>n,fun|17=>2|18=>5|19=>6|n=>n⟩
theorem Tryz.itoa:Go.Proofs.LaysM.n171 atf Tryz.apk:={
 mixed:=by kernel_rfl
 f129:=Tryz.func248.trans (congrArg some (by kernel_rfl))
 f171:=Tryz.func120.trans (congrArg some (by kernel_rfl))
 f243:=Tryz.func210.trans (congrArg some (by kernel_rfl))
 f246:=Tryz.func299.trans (congrArg some (by kernel_rfl))
 f283:=Tryz.func363.trans (congrArg some (by kernel_rfl))
 f284:=Tryz.func364.trans (congrArg some (by kernel_rfl))
 f285:=Tryz.func365.trans (congrArg some (by kernel_rfl))
 f286:=Tryz.func366.trans (congrArg some (by kernel_rfl))
 f317:=Tryz.func406.trans (congrArg some (by kernel_rfl))
 f318:=Tryz.func407.trans (congrArg some (by kernel_rfl))
 f319:=Tryz.func408.trans (congrArg some (by kernel_rfl))
 f320:=Tryz.func409.trans (congrArg some (by kernel_rfl))
 f337:=Tryz.func429.trans (congrArg some (by kernel_rfl))
 f338:=Tryz.func430.trans (congrArg some (by kernel_rfl))
 t0:=atN
 a0:=Tryz.isAgg0
 z0:=Tryz.sizeOf0
 v0:=atQ
 t2:=avz
 a2:=Tryz.isAgg2
 z2:=Tryz.sizeOf2
 v2:=avA
 t3:=atA
 a3:=atD
 z3:=atE
 v3:=atF
 t4:=atS
 a4:=atT
 z4:=atU
 v4:=atV
 t5:=atW
 a5:=atX
 z5:=atY
 v5:=atZ
 t9:=atB
 a9:=atG
 z9:=atH
 v9:=atI
 t20:=Tryz.underlying20
 a20:=Tryz.isAgg20
 z20:=Tryz.sizeOf20
 v20:=Tryz.zeroValue20
 t37:=avB
 a37:=Tryz.isAgg209
 z37:=Tryz.sizeOf209
 v37:=avC
 t46:=at0
 a46:=at1
 z46:=at2
 v46:=at3
 t51:=aui
 a51:=Tryz.isAgg371
 z51:=Tryz.sizeOf371
 v51:=aul
 t53:=aum
 a53:=Tryz.isAgg89
 z53:=Tryz.sizeOf89
 v53:=aup
 t171:=Tryz.underlying473
 a171:=Tryz.isAgg473
 z171:=Tryz.sizeOf473
 v171:=Tryz.zeroValue473
 t173:=Tryz.underlying475
 a173:=Tryz.isAgg475
 z173:=Tryz.sizeOf475
 v173:=Tryz.zeroValue475
 t212:=Tryz.underlying516
 a212:=Tryz.isAgg516
 z212:=Tryz.sizeOf516
 v212:=Tryz.zeroValue516
 t213:=Tryz.underlying517
 a213:=Tryz.isAgg517
 z213:=Tryz.sizeOf517
 t232:=Tryz.underlying547
 a232:=Tryz.isAgg547
 z232:=Tryz.sizeOf547
 v232:=Tryz.zeroValue547
 t233:=Tryz.underlying548
 a233:=Tryz.isAgg548
 z233:=Tryz.sizeOf548
 v233:=Tryz.zeroValue548
 g17:=by kernel_rfl
 g18:=by kernel_rfl
 g19:=by kernel_rfl
 i0:=by kernel_rfl
 i2:=by kernel_rfl
 i3:=by kernel_rfl
 i4:=by kernel_rfl
 i5:=by kernel_rfl
 i9:=by kernel_rfl
 i20:=by kernel_rfl
 i37:=by kernel_rfl
 i46:=by kernel_rfl
 i51:=by kernel_rfl
 i53:=by kernel_rfl
 i171:=by kernel_rfl
 i173:=by kernel_rfl
 i212:=by kernel_rfl
 i232:=by kernel_rfl
 i233:=by kernel_rfl
 m17:=by kernel_rfl
 m18:=by kernel_rfl
 m19:=by kernel_rfl}
def Tryz.apl:Go.Shelf.Ren:=⟨fun|149=>252|222=>340|n=>n,fun|9=>9|5=>5|3=>3|4=>4|n=>n,fun|n=>n⟩
theorem Tryz.akt:Go.Proofs.Lays.n149 atf Tryz.apl:={
 mixed:=by kernel_rfl
 f149:=Tryz.func252.trans (congrArg some (by kernel_rfl))
 f222:=Tryz.func340.trans (congrArg some (by kernel_rfl))
 t3:=atA
 a3:=atD
 z3:=atE
 v3:=atF
 t4:=atS
 a4:=atT
 z4:=atU
 v4:=atV
 t5:=atW
 a5:=atX
 z5:=atY
 v5:=atZ
 t9:=atB
 a9:=atG
 z9:=atH
 v9:=atI}
def Tryz.apm:Go.Shelf.Ren:=⟨fun|99=>336|206=>367|n=>n,fun|9=>9|4=>4|3=>3|n=>n,fun|n=>n⟩
theorem Tryz.Oq:Go.Proofs.Lays.n99 atf Tryz.apm:={
 mixed:=by kernel_rfl
 f99:=Tryz.func336.trans (congrArg some (by kernel_rfl))
 f206:=Tryz.func367.trans (congrArg some (by kernel_rfl))
 t3:=atA
 a3:=atD
 z3:=atE
 v3:=atF
 t4:=atS
 a4:=atT
 z4:=atU
 v4:=atV
 t9:=atB
 a9:=atG
 z9:=atH
 v9:=atI}
def Tryz.apn:Go.Shelf.Ren:=⟨fun|145=>124|220=>213|219=>303|217=>373|225=>374|224=>375|267=>376|266=>413|314=>414|n=>n,fun|9=>9|4=>4|59=>257|3=>3|5=>5|46=>249|146=>523|51=>371|n=>n,fun|1=>1|n=>n⟩
theorem Tryz.cut:Go.Proofs.Lays.n145 atf Tryz.apn:={
 mixed:=by kernel_rfl
 f145:=Tryz.func124.trans (congrArg some (by kernel_rfl))
 f217:=Tryz.func373.trans (congrArg some (by kernel_rfl))
 f219:=Tryz.func303.trans (congrArg some (by kernel_rfl))
 f220:=Tryz.func213.trans (congrArg some (by kernel_rfl))
 f224:=Tryz.func375.trans (congrArg some (by kernel_rfl))
 f225:=Tryz.func374.trans (congrArg some (by kernel_rfl))
 f266:=Tryz.func413.trans (congrArg some (by kernel_rfl))
 f267:=Tryz.func376.trans (congrArg some (by kernel_rfl))
 f314:=Tryz.func414.trans (congrArg some (by kernel_rfl))
 t3:=atA
 a3:=atD
 z3:=atE
 v3:=atF
 t4:=atS
 a4:=atT
 z4:=atU
 v4:=atV
 t5:=atW
 a5:=atX
 z5:=atY
 v5:=atZ
 t9:=atB
 a9:=atG
 z9:=atH
 v9:=atI
 t46:=at0
 a46:=at1
 z46:=at2
 v46:=at3
 t51:=aui
 a51:=Tryz.isAgg371
 z51:=Tryz.sizeOf371
 v51:=aul
 t59:=Tryz.underlying257
 a59:=Tryz.isAgg257
 z59:=Tryz.sizeOf257
 v59:=Tryz.zeroValue257
 t146:=Tryz.underlying523
 a146:=Tryz.isAgg523
 z146:=Tryz.sizeOf523
 v146:=Tryz.zeroValue523
 g1:=by kernel_rfl}
def Tryz.apo:Go.Shelf.Ren:=⟨fun|103=>211|210=>300|206=>367|n=>n,fun|9=>9|4=>4|24=>73|3=>3|n=>n,fun|n=>n⟩
theorem Tryz.LX:Go.Proofs.Lays.n103 atf Tryz.apo:={
 mixed:=by kernel_rfl
 f103:=Tryz.func211.trans (congrArg some (by kernel_rfl))
 f206:=Tryz.func367.trans (congrArg some (by kernel_rfl))
 f210:=Tryz.func300.trans (congrArg some (by kernel_rfl))
 t3:=atA
 a3:=atD
 z3:=atE
 v3:=atF
 t4:=atS
 a4:=atT
 z4:=atU
 v4:=atV
 t9:=atB
 a9:=atG
 z9:=atH
 v9:=atI
 t24:=avD
 a24:=Tryz.isAgg73
 z24:=Tryz.sizeOf73
 v24:=avE}
def Tryz.apq:Go.Shelf.Ren:=⟨fun|104=>341|211=>390|207=>420|n=>n,fun|9=>9|4=>4|24=>73|3=>3|n=>n,fun|n=>n⟩
theorem Tryz.aj2:Go.Proofs.Lays.n104 atf Tryz.apq:={
 mixed:=by kernel_rfl
 f104:=Tryz.func341.trans (congrArg some (by kernel_rfl))
 f207:=Tryz.func420.trans (congrArg some (by kernel_rfl))
 f211:=Tryz.func390.trans (congrArg some (by kernel_rfl))
 t3:=atA
 a3:=atD
 z3:=atE
 v3:=atF
 t4:=atS
 a4:=atT
 z4:=atU
 v4:=atV
 t9:=atB
 a9:=atG
 z9:=atH
 v9:=atI
 t24:=avD
 a24:=Tryz.isAgg73
 z24:=Tryz.sizeOf73
 v24:=avE}
end Go.Proofs
namespace Go.Proofs.cU
variable{H H':J}{bJ:List Nat}{a:Option Addr}{n c r di et:Nat}
theorem Ip{xs:List gT}{K:ByteArray->Int->J->Prop}(aa:bk gb H a n c xs)(ay:n<=1000000000)
  (cz:¬fE xs->∀H',Fr [] H H'->K ⟨#[]⟩ 40 H') (ff:fE xs->∀H',Fr [] H H'->K ⟨(hr xs).toArray⟩ 0 H'):
  aY atf WO ⟨[.slice a n c]⟩ H λv H'=>∃s e,v=.tuple ⟨[.string s,.int .i64 e]⟩/\K s e H':=by
 apply WQ
 have gE:=aa.len
 refine Iq aa ay λH1 b9=> ?_
 by_cases cL:¬fE xs
 ·rw [zu cL]
  exact⟨_,_,rfl,cz cL H1 b9⟩
 have cL:=Classical.not_not.1 cL
 rw [Bz cL]
 refine ai (λh=>by simp at h) (λ_=> ?_)
 intro b ao bH
 have jB:=cL.1
 refine⟨λvs H'=>match vs with
   |[.int _ i]=>∃(k:Nat) (S:List Nat),i=k/\k<=n/\hI H' b S (hr (xs.take k))/\(∀j∈S,H.size<=j)/\Fr [] H H'
   |_=>False,
  λvs _=>match vs with|[.int _ i]=>n-i.toNat|_=>0,⟨0,[b],rfl,by omega,l4.new bH,λj a'=>by simp at a';subst a';have:=bH.eq;have:=b9.size;omega,b9.aw bH.ag⟩,?_⟩
 rintro bm i aF ⟨k,S,rfl,hle,ah,bI,af⟩
 have uM:(hr (xs.take k)).length<=400:=by
  have:=WR (l:=xs.take k) λx aa=>cL.2.1 x (auL aa)
  rw [apH]at this
  omega
 refine ai (λaD=> ?_) (λaD=> ?_)
 ·have bT:k<n:=by simpa using aD
  have b0:xs[k]?=some (xs[k]'(by omega)):=by simp
  generalize xs[k]'(by omega)=x at b0
  have gF:=cL.2.1 x (att b0)
  have NZ:=gF
  unfold pB kX kY at NZ
  refine(aa.ab af).get rfl b0 (decide_eq_true (by omega)) λal bS ak=>⟨_,_,BA ak,?_⟩
  refine BB rfl λb1 aN cI aI bU=> ?_
  refine⟨_,aI.hJ,_,aI.s1,te (by omega) λbw bW=>⟨(aI.ab bW).s1,te (by omega) λbY cB=> ?_⟩⟩
  have t1:(cx x.1).length<=33:=by unfold cx;rw [qp (by omega),VH,c6];simp;omega
  have t2:(cx x.2).length<=33:=by unfold cx;rw [qp (by omega),VH,c6];simp;omega
  refine cb (decide_eq_true (by show(cx x.1).length+(cx x.2).length<=_;omega)) ?_
  have gj:=((ah.ab bU).ab bW).ab cB
  have xV:=((af.aw bU).aw bW).aw cB
  have kE:bj (⟨(cx x.1).toArray⟩++⟨(cx x.2).toArray⟩:ByteArray)=cx x.1++cx x.2:=by rw [kF]
  refine r4 gj (by rw [<-c6,kE,VH];omega) λcC BC ji eJ pC=> ?_
  rw [b6 (by omega)]
  refine⟨⟨k+1,BC,rfl,by omega,?_,λj a'=> ?_,xV.ab eJ bI⟩,cJ bT⟩
  ·rw [kE]at ji
   rw [ats,b0]
   simpa [hr,asY]using ji
  ·rcases pC j a' with h|h
   ·exact bI j h
   ·have:=xV.size;omega
 ·have du:k=n:=by simp at aD;omega
  subst du
  rw [gE,asM]at ah uM
  exact r5 ah (by omega) λaN bU=>⟨_,_,rfl,ff cL aN (af.ab bU bI)⟩
def nY:dd dH:=⟨λh=>[.slice h.1 h.2.1 h.2.2],1,λ_=>rfl,by decide,λ_ v h=>by simp at h;subst h;rfl⟩
theorem WS:jC atf 44 1 24=true:=by kernel_rfl
theorem nZ:sliceB atf 150 44=true:=by kernel_rfl
theorem wu:jC atf 3 1 8=true:=by kernel_rfl
theorem E8:sliceB atf 132 3=true:=by kernel_rfl
theorem N0{al:Addr}{x:dH}(h:eP H al (nY.cells x)):cR atf 44 H al (.slice x.1 x.2.1 x.2.2):=iq (by kernel_rfl) h
noncomputable def kg:mI atf 9 ByteArray:=N1 atB
def hK(H:J)(r:Nat)(f:ByteArray->Option Value):Prop:=∃ck L,dM kg H r ck L/\∀k,dA k L=f k
theorem hK.ag{f:ByteArray->Option Value}{S:List Nat}(h:hK H r f)(af:Fr S H H')(ay:r∉S):hK H' r f:=by
 obtain⟨ck,L,h1,ae⟩:=h
 exact⟨ck,L,dM.ag kg h1 af ay,ae⟩
theorem hK.new(h:ds H r (.map ⟨[]⟩ 0) H'):hK H' r (λ_=>none):=⟨0,[],dM.new kg h,λ_=>rfl⟩
theorem hK.look{f:ByteArray->Option Value}{mt e:TypeId}{z v:Value}(h:hK H r f)(hm:Tryz.prog.underlying mt=some (.map 9 e))(aC:zeroOf atf e=some z)(k:ByteArray)(aI:(f k).getD z=v):
  Rd atf (Instr.lookup mt (.map (some r)) (.string k) false) H v:=by
 obtain⟨ck,L,h1,ae⟩:=h
 have:=r6 (T:=kg) hm aC h1 k
 rw [ae k,aI]at this
 exact this
theorem hK.zv{f:ByteArray->Option Value}{mt e:TypeId}{z v:Value}{b:Bool}(h:hK H r f)(hm:Tryz.prog.underlying mt=some (.map 9 e))(aC:zeroOf atf e=some z)(k:ByteArray)(aI:(f k).getD z=v)(ah:(f k).isSome=b):
  Rd atf (Instr.lookup mt (.map (some r)) (.string k) true) H (.tuple ⟨[v,.bool b]⟩):=by
 obtain⟨ck,L,h1,ae⟩:=h
 have:=E9 (T:=kg) hm aC h1 k
 rw [ae k,aI,ah]at this
 exact this
theorem hK.put{f:ByteArray->Option Value}{mt e:TypeId}{v:Value}{K:J->Prop}(h:hK H r f)(hm:Tryz.prog.underlying mt=some (.map 9 e))(k:ByteArray)
  (hk:∀H',hK H' r (λs=>if s=k then some v else f s)->Fr [r] H H'->K H'):iQ atf (Instr.mapUpdate mt (.map (some r)) (.string k) v) H K:=by
 obtain⟨ck,L,h1,ae⟩:=h
 refine uN (T:=kg) hm h1 k λH' au a6=>hk H' ⟨_,_,au,λs=> ?_⟩ a6
 rw [uO,ae]
theorem hK.bo{f:ByteArray->Option Value}(h:hK H r f):∃es ck,H[r]?=some (.map es ck):=by
 obtain⟨ck,L,h1,ae⟩:=h
 exact⟨_,_,dM.bo h1⟩
theorem E'{α:Type}{E:dd α}{t:TypeId}{base:Nat}{xs:List α}(h:Own E t base H a n c xs){k:Nat}(hk:k∈ax a):∃cur,H[k]?=some (.cells cur t (0,0)):=by
 obtain⟨_,⟨rfl,_⟩|⟨b,cur,rfl,_,h1,_⟩⟩:=h
 ·cases hk
 ·simp [ax]at hk;subst hk;exact⟨cur,h1⟩
theorem r7{α:Type}{E:dd α}{t:TypeId}{base:Nat}{xs:List α}{f:ByteArray->Option Value}(h:Own E t base H a n c xs)(hm:hK H r f):r∉ax a:=λhk=>by
 obtain⟨cur,h1⟩:=E' h hk
 obtain⟨es,ck,ae⟩:=hm.bo
 rw [h1]at ae;cases ae
theorem qq{α β:Type}{E:dd α}{WT:dd β}{t t':TypeId}{base base':Nat}{aK:Option Addr}{aQ aT:Nat}{xs:List α}{ys:List β}(bf:t≠t')(h:Own E t base H a n c xs)(h':Own WT t' base' H aK aQ aT ys):∀k∈ax a,k∉ax aK:=λk hk cA=>by
 obtain⟨cur,h1⟩:=E' h hk
 obtain⟨WU,ae⟩:=E' h' cA
 rw [h1]at ae
 injection ae with ae
 injection ae with _ ae _
 exact bf ae
theorem zw{α:Type}{E:dd α}{t eZ:TypeId}{base:Nat}{xs:List α}{b:Nat}{cs:Array Value}{oQ:Nat×Nat}(bf:t≠eZ)(h:Own E t base H a n c xs)(ah:H[b]?=some (.cells cs eZ oQ)):b∉ax a:=λhk=>by
 obtain⟨cur,h1⟩:=E' h hk
 rw [h1]at ah
 injection ah with ah
 injection ah with _ ah _
 exact bf ah
theorem Fa{b:Nat}{f:ByteArray->Option Value}{cs:Array Value}{eZ:TypeId}{oQ:Nat×Nat}(hm:hK H r f)(ah:H[b]?=some (.cells cs eZ oQ)):b≠r:=λe=>by
 subst e
 obtain⟨es,ck,ae⟩:=hm.bo
 rw [ah]at ae;cases ae
theorem jV{α:Type}{E:dd α}{t:TypeId}{base:Nat}{xs:List α}{S:List Nat}(h:Own E t base H a n c xs)(af:Fr S H H')(ay:∀k∈ax a,k∉S):Own E t base H' a n c xs:=h.ag af λal e=>ay _ (by simp [e,ax])
def qY(H:J)(bJ:List Nat)(hs:List dH)(L:List bX):Prop:=hs.length=L.length/\∀(i:Nat) (h:dH) (l:bX),hs[i]?=some h->L[i]?=some l->Own gb 48 0 H h.1 h.2.1 h.2.2 l/\∀k∈ax h.1,k∈bJ
theorem qY.ag{S:List Nat}{hs:List dH}{L:List bX}(h:qY H bJ hs L)(af:Fr S H H')(bI:∀(i:Nat) (h:dH) (l:bX),hs[i]?=some h->L[i]?=some l->∀k∈ax h.1,k∉S):qY H' bJ hs L:=
 ⟨h.1,λi x l aa aH=>⟨jV (h.2 i x l aa aH).1 af (bI i x l aa aH),(h.2 i x l aa aH).2⟩⟩
theorem qY.mono{kh:List Nat}{hs:List dH}{L:List bX}(h:qY H bJ hs L)(hu:∀k∈bJ,k∈kh):qY H kh hs L:=
 ⟨h.1,λi x l aa aH=>⟨(h.2 i x l aa aH).1,λk hk=>hu k ((h.2 i x l aa aH).2 k hk)⟩⟩
theorem qY.snoc{hs:List dH}{L:List bX}{aD:dH}{c7:bX}(h:qY H bJ hs L)(an:Own gb 48 0 H aD.1 aD.2.1 aD.2.2 c7)(hu:∀k∈ax aD.1,k∈bJ):qY H bJ (hs++[aD]) (L++[c7]):=by
 refine⟨by simp [h.1],λi x l aa aH=> ?_⟩
 rcases atv i hs.length with az|az
 ·rw [asW az]at aa
  rw [asW (by rw [<-h.1];exact az)]at aH
  exact h.2 i x l aa aH
 ·rw [asX az]at aa
  rw [asX (by rw [<-h.1];exact az)]at aH
  have BD:i-hs.length=0:=by
   have:=(qb.1 aa).1
   simpa using this
  rw [BD]at aa
  rw [<-h.1,BD]at aH
  simp at aa aH
  subst aa aH
  exact⟨an,hu⟩
structure mJ(H:J)(bJ:List Nat)(et:Nat)(dW:ByteArray->Option Nat)(dE:ByteArray->ByteArray->Option dH)(h8:ByteArray->ByteArray->List Int):Prop where
 top:hK H et (λbP=>(dW bP).map λr=>.map (some r))
 inner:∀bP r,dW bP=some r->hK H r (λv=>(dE bP v).map λh=>.slice h.1 h.2.1 h.2.2)
 out:∀bP v h,dE bP v=some h->dW bP≠none
 own:∀bP v h,dE bP v=some h->Own b' 3 0 H h.1 h.2.1 h.2.2 (h8 bP v)/\h8 bP v≠[]
 no:∀bP v,dE bP v=none->h8 bP v=[]
 inj:∀bP r8 r,dW bP=some r->dW r8=some r->bP=r8
 ne:∀bP r,dW bP=some r->r≠et
 sep:∀bP v r8 gr h h' k,dE bP v=some h->dE r8 gr=some h'->k∈ax h.1->k∈ax h'.1->bP=r8/\v=gr
 wv:et∈bJ
 wx:∀bP r,dW bP=some r->r∈bJ
 xW:∀bP v h k,dE bP v=some h->k∈ax h.1->k∈bJ
theorem mJ.ag{S:List Nat}{dW:ByteArray->Option Nat}{dE:ByteArray->ByteArray->Option dH}{h8:ByteArray->ByteArray->List Int}(h:mJ H bJ et dW dE h8)(af:Fr S H H')(aO:et∉S)(mK:∀bP r,dW bP=some r->r∉S)(mL:∀bP v h k,dE bP v=some h->k∈ax h.1->k∉S):mJ H' bJ et dW dE h8:=
 {h with
  top:=h.top.ag af aO
  inner:=λbP r e=>(h.inner bP r e).ag af (mK bP r e)
  own:=λbP v x e=>⟨jV (h.own bP v x e).1 af (λk hk=>mL bP v x k e hk),(h.own bP v x e).2⟩}
theorem mJ.mono{kh:List Nat}{dW:ByteArray->Option Nat}{dE:ByteArray->ByteArray->Option dH}{h8:ByteArray->ByteArray->List Int}(h:mJ H bJ et dW dE h8)(hu:∀k∈bJ,k∈kh):mJ H kh et dW dE h8:=
 {h with wv:=hu _ h.wv,wx:=λbP r e=>hu _ (h.wx bP r e),xW:=λbP v x k e hk=>hu _ (h.xW bP v x k e hk)}
theorem mJ.ext{dW:ByteArray->Option Nat}{dE:ByteArray->ByteArray->Option dH}{h8 Ir:ByteArray->ByteArray->List Int}(h:mJ H bJ et dW dE h8)(he:∀bP v,h8 bP v=Ir bP v):mJ H bJ et dW dE Ir:=by
 have:h8=Ir:=by funext bP v;exact he bP v
 rwa [<-this]
theorem mJ.name{H1 ao:J}{dW:ByteArray->Option Nat}{dE:ByteArray->ByteArray->Option dH}{h8:ByteArray->ByteArray->List Int}(h:mJ H bJ et dW dE h8)(eC:In H bJ){bP:ByteArray}(cz:dW bP=none){b:Nat}(ay:ds H b (.map ⟨[]⟩ 0) H1)
  (bf:hK ao et (λs=>if s=bP then some (.map (some b))else(dW s).map λr=>.map (some r))) (af:Fr [et] H1 ao):
  mJ ao (b::bJ) et (λs=>if s=bP then some b else dW s) dE h8:=by
 have tf:b∉bJ:=λhk=>by have:=eC b hk;have:=ay.eq;omega
 have N2:b≠et:=λe=>tf (e▸h.wv)
 have WV:∀v,dE bP v=none:=λv=>by
  cases aI:dE bP v with
  |none=>rfl
  |some x=>exact absurd cz (h.out bP v x aI)
 have h1:mJ H1 bJ et dW dE h8:=h.ag ay.ag (by simp) (by simp) (by simp)
 refine⟨?_,λs r e=> ?_,λs v x e=> ?_,λs v x e=> ?_,h.no,λs s' r e cV=> ?_,λs r e=> ?_,h.sep,by simp [h.wv],λs r e=> ?_,λs v x k e hk=>by simp [h.xW s v x k e hk]⟩
 ·have e:(λs=>((if s=bP then some b else dW s).map λr=>Value.map (some r)))=λs=>if s=bP then some (.map (some b))else(dW s).map λr=>.map (some r):=by
   funext s;split<;>rfl
  rw [e];exact bf
 ·split at e
  ·rename_i hs
   cases e
   subst hs
   have:hK ao b (λ_=>none):=(hK.new ay).ag af (by simp;exact N2)
   have bN:(λv=>(dE s v).map λh:dH=>atK h.1 h.2.1 h.2.2)=λ_=>none:=by funext v;rw [WV v];rfl
   rw [bN];exact this
  ·exact(h1.inner s r e).ag af (by simp;exact h.ne s r e)
 ·split
  ·simp
  ·exact h.out s v x e
 ·exact⟨jV (h1.own s v x e).1 af (λk hk=>by
   have:=r7 (h1.own s v x e).1 h1.top
   simp;exact λe=>this (e▸hk)),(h.own s v x e).2⟩
 ·split at e<;>split at cV
  ·rename_i ae au;rw [ae,au]
  ·cases e;exact absurd (h.wx s' b cV) tf
  ·cases cV;exact absurd (h.wx s b e) tf
  ·exact h.inj s s' r e cV
 ·split at e
  ·cases e;exact N2
  ·exact h.ne s r e
 ·split at e
  ·cases e;simp
  ·simp [h.wx s r e]
theorem mJ.add{H1 ao:J}{dW:ByteArray->Option Nat}{dE:ByteArray->ByteArray->Option dH}{h8:ByteArray->ByteArray->List Int}(h:mJ H bJ et dW dE h8)(eC:In H bJ){bP v:ByteArray}(aA:dW bP=some r){x:Int}{gu new:dH}
  (an:(dE bP v).getD (none,0,0)=gu) (l5:Own b' 3 0 H1 new.1 new.2.1 new.2.2 (h8 bP v++[x])) (b9:Fr (ax gu.1) H H1) (aZ:Grow H (ax gu.1) (ax new.1))
  (bf:hK ao r (λs=>if s=v then some (.slice new.1 new.2.1 new.2.2)else(dE bP s).map λh=>.slice h.1 h.2.1 h.2.2)) (af:Fr [r] H1 ao):
  mJ ao (ax new.1++bJ) et dW (λs t=>if s=bP/\t=v then some new else dE s t) (λs t=>if s=bP/\t=v then h8 bP v++[x]else h8 s t):=by
 have hold:∀k∈ax gu.1,dE bP v=some gu:=λk hk=>by
  cases aI:dE bP v with
  |none=>rw [aI]at an;simp at an;subst an;cases hk
  |some y=>rw [aI]at an;simp at an;rw [an]
 have Is:∀{eU:Nat} {f:ByteArray->Option Value},hK H eU f->hK H1 eU f:=λ{eU f} hm=>hm.ag b9 (λhk=>r7 (h.own bP v gu (hold _ hk)).1 hm hk)
 have N3:∀s t y,dE s t=some y->¬(s=bP/\t=v)->Own b' 3 0 H1 y.1 y.2.1 y.2.2 (h8 s t):=λs t y e cH=>jV (h.own s t y e).1 b9 λk hk cA=>cH (h.sep s t bP v y gu k e (hold k cA) hk cA)
 have N4:∀k∈ax new.1,∀s t y,dE s t=some y->k∈ax y.1->s=bP/\t=v:=λk hk s t y e av=>by
  rcases aZ k hk with h1|h1
  ·exact h.sep s t bP v y gu k e (hold k h1) av h1
  ·have:=eC k (h.xW s t y k e av);omega
 have N5:hK H1 r (λv=>(dE bP v).map λh=>.slice h.1 h.2.1 h.2.2):=Is (h.inner bP r aA)
 refine⟨?_,λs eU e=> ?_,λs t y e=> ?_,λs t y e=> ?_,λs t e=> ?_,h.inj,h.ne,λs t s' t' y Fb k e cV hk cA=> ?_,by simp [h.wv],λs eU e=>by simp [h.wx s eU e],λs t y k e hk=> ?_⟩
 ·exact(Is h.top).ag af (by simp;exact λe=>h.ne bP r aA e.symm)
 ·by_cases hs:s=bP
  ·subst hs
   rw [aA]at e;cases e
   have bN:(λt=>((if s=s/\t=v then some new else dE s t).map λh:dH=>atK h.1 h.2.1 h.2.2))=λt=>if t=v then some (.slice new.1 new.2.1 new.2.2)else(dE s t).map λh=>.slice h.1 h.2.1 h.2.2:=by
    funext t
    by_cases bf:t=v
    ·simp [bf]
    ·simp [bf]
   rw [bN];exact bf
  ·have bN:(λt=>((if s=bP/\t=v then some new else dE s t).map λh:dH=>atK h.1 h.2.1 h.2.2))=λt=>(dE s t).map λh=>.slice h.1 h.2.1 h.2.2:=by
    funext t;simp [hs]
   rw [bN]
   exact(Is (h.inner s eU e)).ag af (by simp;intro dP;subst dP;exact hs (h.inj s bP eU e aA))
 ·split at e
  ·rename_i h1;rw [h1.1,aA];simp
  ·exact h.out s t y e
 ·split at e
  ·rename_i h1
   cases e
   rw [if_pos h1]
   exact⟨jV l5 af (λk hk=>by
    have:=r7 l5 N5
    simp;exact λe=>this (e▸hk)),by simp⟩
  ·rename_i h1
   rw [if_neg h1]
   exact⟨jV (N3 s t y e h1) af (λk hk=>by
    have:=r7 (N3 s t y e h1) N5
    simp;exact λe=>this (e▸hk)),(h.own s t y e).2⟩
 ·split at e
  ·cases e
  ·rename_i h1;rw [if_neg h1];exact h.no s t e
 ·split at e<;>split at cV
  ·rename_i h1 ae;exact⟨h1.1.trans ae.1.symm,h1.2.trans ae.2.symm⟩
  ·rename_i h1 ae
   cases e
   exact absurd (N4 k hk s' t' Fb cV cA) ae
  ·rename_i h1 ae
   cases cV
   exact absurd (N4 k cA s t y e hk) h1
  ·exact h.sep s t s' t' y Fb k e cV hk cA
 ·split at e
  ·cases e;simp [hk]
  ·simp [h.xW s t y k e hk]
def mM(L:List bX)(s:ByteArray):Option Value:=match qs L s with|some i=>some (.int .i64 (i:Nat))|none=>none
structure qZ(H:J)(di:Nat)(bJ:List Nat)(L:List bX)(h8:ByteArray->ByteArray->List Int)(a:Option Addr)(n c:Nat)(hs:List dH)(gv et:Nat)(dW:ByteArray->Option Nat)(dE:ByteArray->ByteArray->Option dH):Prop where
 cell:H[di]?=some (.cells ⟨[.slice a n c,.map (some gv),.map (some et)]⟩ 152 (0,0))
 all:Own nY 44 0 H a n c hs
 l6:qY H bJ hs L
 keys:hK H gv (mM L)
 has:mJ H bJ et dW dE h8
 BE:gv≠et
 BF:∀bP r,dW bP=some r->r≠gv
 BG:di∈bJ
 zx:gv∈bJ
 BH:∀k∈ax a,k∈bJ
 iC:In H bJ
theorem qZ.ag{S:List Nat}{L:List bX}{h8:ByteArray->ByteArray->List Int}{hs:List dH}{gv:Nat}{dW:ByteArray->Option Nat}{dE:ByteArray->ByteArray->Option dH}
  (h:qZ H di bJ L h8 a n c hs gv et dW dE) (af:Fr S H H') (aO:∀k∈bJ,k∉S):qZ H' di bJ L h8 a n c hs gv et dW dE:=
 {h with
  cell:=af.get h.cell (aO _ h.BG)
  all:=jV h.all af (λk hk=>aO k (h.BH k hk))
  l6:=h.l6.ag af (λi x l aa aH k hk=>aO k ((h.l6.2 i x l aa aH).2 k hk))
  keys:=h.keys.ag af (aO _ h.zx)
  has:=h.has.ag af (aO _ h.has.wv) (λbP r e=>aO _ (h.has.wx bP r e)) (λbP v x k e hk=>aO k (h.has.xW bP v x k e hk))
  iC:=h.iC.le af.size}
def N6(dW:ByteArray->Option Nat)(dE:ByteArray->ByteArray->Option dH):Prop:=∀bP,dW bP≠none->∃v,dE bP v≠none
def kZ(H:J)(di:Nat)(bJ:List Nat)(L:List bX):Prop:=q0 L/\∃a n c hs gv et dW dE,qZ H di bJ L (jD L) a n c hs gv et dW dE/\N6 dW dE
theorem kZ.ag{S:List Nat}{L:List bX}(h:kZ H di bJ L)(af:Fr S H H')(aO:∀k∈bJ,k∉S):kZ H' di bJ L:=by
 obtain⟨hw,a,n,c,hs,gv,et,dW,dE,h1,ae⟩:=h
 exact⟨hw,a,n,c,hs,gv,et,dW,dE,h1.ag af aO,ae⟩
theorem kZ.ab{L:List bX}(h:kZ H di bJ L)(af:Fr [] H H'):kZ H' di bJ L:=h.ag af (by simp)
theorem tg:Tryz.prog.underlying 123=some (.map 9 3):=Tryz.underlying123
theorem BI:Tryz.prog.underlying 149=some (.map 9 260):=Tryz.underlying149
theorem Fc:Tryz.prog.underlying 260=some (.map 9 132):=Tryz.underlying260
theorem z3:zeroOf atf 3=some (.int .i64 0):=by kernel_rfl
theorem z76:zeroOf atf 260=some (.map none):=by kernel_rfl
theorem z40:zeroOf atf 132=some (.slice none 0 0):=by kernel_rfl
theorem zy{α:Type}{E:dd α}{xs:List α}{S:List Nat}(h:bk E H a n c xs)(af:Fr S H H')(ay:xs≠[]->∀al,a=some al->al.block∉S):bk E H' a n c xs:=by
 by_cases aa:xs=[]
 ·subst aa;exact⟨h.len,h.cap,.inl rfl⟩
 ·exact h.ag af (ay aa)
theorem It{K:Option Addr->J->Prop}(hk:∀H' di bJ,kZ H' di bJ []->(∀k∈bJ,H.size<=k)->Fr [] H H'->K (some ⟨di,0,none⟩) H'):
  aY atf WW ⟨[]⟩ H λv H'=>∃a,v=.pointer a/\K a H':=by
 apply WX
 intro b H1 h1 b1 ao ae b2 aF au
 have bc:=h1.eq
 have bN:=ae.eq
 have dP:=au.eq
 have s1:=h1.size
 have s2:=ae.size
 have qt:=au.size
 have m1:hK aF b (mM []):=((hK.new h1).ag ae.ag (by simp)).ag au.ag (by simp)
 have m2:hK aF b1 (λ_=>none):=(hK.new ae).ag au.ag (by simp)
 refine⟨_,rfl,hk aF b2 [b2,b,b1] ⟨q0.nil,none,0,0,[],b,b1,λ_=>none,λ_ _=>none,?_,λbP h=>absurd rfl h⟩ ?_ ((h1.ag.aw ae.ag).aw au.ag)⟩
 ·refine⟨au.get,Own.nil _ _ _ _,⟨rfl,by simp⟩,m1,⟨m2,by simp,by simp,by simp,by simp [N7],by simp,by simp,by simp,by simp,by simp,by simp⟩,by omega,by simp,by simp,by simp,by simp [ax],?_⟩
  intro k hk
  simp at hk
  omega
 ·intro k hk
  simp at hk
  omega
theorem r9{l:bX}{K:Option Addr->Nat->Nat->J->Prop}(aa:bk gb H a n c l)(ay:n<=1000000000)
  (hk:∀aK aQ aT H',Own gb 48 H.size H' aK aQ aT l->Fr [] H H'->K aK aQ aT H'):
  aY atf WY ⟨[.slice a n c]⟩ H λv H'=>∃a n c,v=.slice a n c/\K a n c H':=by
 apply WZ
 refine ai (λh=> ?_) (λh=> ?_)
 ·have:a=none:=by simpa using h
  subst this
  have aH:l=[]:=by
   rcases aa.arr with h|⟨b,off,e,_⟩
   ·exact h
   ·cases e
  subst aH
  exact⟨_,_,_,rfl,hk none 0 0 H (Own.nil _ _ _ _) (Fr.refl _ _)⟩
 ·intro b H1 h1
  have kG:Own gb 48 H.size H1 (some ⟨b,0,none⟩) 0 0 []:=Own.made gb 48 h1 (nQ _)
  exact pD (E:=gb) W0 W1 kG h1.ag (aa.ab h1.ag) (by omega) λaK aQ aT ao ae bt _=>⟨_,_,_,rfl,hk _ _ _ _ (by simpa using ae) bt⟩
theorem mN{L:List bX}{h8:ByteArray->ByteArray->List Int}{hs:List dH}{gv:Nat}{dW:ByteArray->Option Nat}{dE:ByteArray->ByteArray->Option dH}
  (h:qZ H di bJ L h8 a n c hs gv et dW dE):aU H ⟨di,0,none⟩ [.slice a n c,.map (some gv),.map (some et)]:=⟨di,_,rfl,h.cell⟩
theorem wy{L:List bX}{l:bX}{K:Int->Bool->J->Prop}(h:kZ H di bJ L)(aa:bk gb H a n c l)(ay:n<=1000000000)
  (hk:∀H',Fr [] H H'->K (BJ L l) (ki L l).isSome H'):
  aY atf W2 ⟨[.pointer (some ⟨di,0,none⟩),.slice a n c]⟩ H λv H'=>∃i b,v=.tuple ⟨[.int .i64 i,.bool b]⟩/\K i b H':=by
 apply W3
 obtain⟨hw,a0,jE,c0,hs,gv,et,dW,dE,bh,xX⟩:=h
 refine Ip aa ay (λcL H1 b9=> ?_) (λcL H1 b9=> ?_)
 ·have k0:=bh.ag b9 (by simp)
  refine⟨_,(mN k0).ld (by kernel_rfl) (j:=1) rfl,?_⟩
  have cz:ki L l=none:=by rw [Iu];exact λhm=>cL (hw.da l hm)
  have cP:=hk H1 b9
  unfold BJ at cP
  rw [cz]at cP
  cases aI:qs L ⟨#[]⟩with
  |none=>exact⟨0,false,k0.keys.zv tg z3 _ (by unfold mM;rw [aI];rfl) (by unfold mM;rw [aI];rfl),_,_,rfl,cP⟩
  |some i=>exact⟨i,true,k0.keys.zv tg z3 _ (by unfold mM;rw [aI];rfl) (by unfold mM;rw [aI];rfl),_,_,rfl,cP⟩
 ·have k0:=bh.ag b9 (by simp)
  refine⟨_,(mN k0).ld (by kernel_rfl) (j:=1) rfl,?_⟩
  have aI:qs L ⟨(hr l).toArray⟩=ki L l:=Fe hw cL
  have cP:=hk H1 b9
  unfold BJ at cP
  cases kH:ki L l with
  |none=>
   rw [kH]at aI cP
   exact⟨0,false,k0.keys.zv tg z3 _ (by unfold mM;rw [aI];rfl) (by unfold mM;rw [aI];rfl),_,_,rfl,cP⟩
  |some i=>
   rw [kH]at aI cP
   exact⟨i,true,k0.keys.zv tg z3 _ (by unfold mM;rw [aI];rfl) (by unfold mM;rw [aI];rfl),_,_,rfl,cP⟩
theorem Ff{L:List bX}{K:Int->J->Prop}(h:kZ H di bJ L)(hk:K L.length H):
  aY atf W4 ⟨[.pointer (some ⟨di,0,none⟩)]⟩ H λv H'=>∃i,v=.int .i64 i/\K i H':=by
 apply W5
 obtain⟨hw,a0,jE,c0,hs,gv,et,dW,dE,bh,xX⟩:=h
 have e:jE=L.length:=by rw [bh.all.1,bh.l6.1]
 exact⟨_,_,_,(mN bh).b5 (by kernel_rfl) rfl,_,rfl,by rw [e];exact hk⟩
theorem Iv{L:List bX}{id:Int}{K:Option Addr->Nat->Nat->J->Prop}(h:kZ H di bJ L)
  (hk:∀aK aQ aT H',Own gb 48 H.size H' aK aQ aT (if 0<=id then L.getD id.toNat []else [])->Fr [] H H'->K aK aQ aT H'):
  aY atf W6 ⟨[.pointer (some ⟨di,0,none⟩),.int .i64 id]⟩ H λv H'=>∃a n c,v=.slice a n c/\K a n c H':=by
 apply W7
 obtain⟨hw,a0,jE,c0,hs,gv,et,dW,dE,bh,xX⟩:=h
 have e:jE=L.length:=by rw [bh.all.1,bh.l6.1]
 have nil:¬(0<=id/\id<L.length)->∃a n c,atK none 0 0=.slice a n c/\K a n c H:=λcz=>⟨_,_,_,rfl,hk none 0 0 H (by
  have:(if 0<=id then L.getD id.toNat []else [])=([]:bX):=by
   split
   ·rw [apS,asu (by omega)];rfl
   ·rfl
  rw [this];exact Own.nil _ _ _ _) (Fr.refl _ _)⟩
 refine⟨λ_ H'=>H'=H/\0<=id/\id<L.length,?_,?_⟩
 ·refine ai (λh=>nil ?_) (λh=>⟨_,_,_,(mN bh).b5 (by kernel_rfl) rfl,ai (λae=>nil ?_) (λae=>⟨rfl,?_,?_⟩)⟩)
  ·simp at h;omega
  ·simp at ae;omega
  ·simp at h;omega
  ·simp at ae;omega
 rintro bm H1 ⟨rfl,aD,h1⟩
 refine⟨_,_,_,(mN bh).b5 (by kernel_rfl) rfl,?_⟩
 have az:id.toNat<hs.length:=by rw [bh.l6.1];omega
 have b0:hs[id.toNat]?=some (hs[id.toNat]'az):=by simp
 have k1:L[id.toNat]?=some (L[id.toNat]'(by omega)):=by simp
 generalize hs[id.toNat]'az=aO at b0
 have bN:(if 0<=id then L.getD id.toNat []else [])=L[id.toNat]'(by omega):=by rw [if_pos aD,apS,k1];rfl
 rw [bN]at hk
 generalize L[id.toNat]'(by omega)=l at k1 hk
 have aH:=(bh.l6.2 _ _ _ b0 k1).1
 refine bh.all.bL.get (k:=id.toNat) (by omega) b0 (decide_eq_true (by omega)) λal bS ak=>⟨_,_,_,N0 ak,?_⟩
 have apW:=(hw.da l (att k1)).1
 exact r9 aH.bL (by have:=aH.1;omega) λaK aQ aT ao ae bt=>⟨_,_,_,rfl,hk aK aQ aT ao ae bt⟩
open Classical in
noncomputable def idK(L:List bX)(l:bX)(k:Nat)(bP v:ByteArray):List Int:=jD L bP v++if(bP,v)∈l.take k then [(L.length:Int)]else []
theorem W8(L:List bX)(l:bX)(bP v:ByteArray):idK L l 0 bP v=jD L bP v:=by simp [idK]
theorem W9(L:List bX)(l:bX)(bP v:ByteArray):idK L l l.length bP v=jD (L++[l]) bP v:=by
 rw [N8];unfold idK;rw [asM]
theorem Xa{L:List bX}{l:bX}{k:Nat}{x:gT}(aA:BK l)(aa:l[k]?=some x)(bP v:ByteArray):
  (if bP=x.1/\v=x.2 then idK L l k x.1 x.2++[(L.length:Int)]else idK L l k bP v)=idK L l (k+1) bP v:=by
 have cz:∀w,(x.1,w)∉l.take k:=λw h=>Xb aA aa h rfl
 unfold idK
 rw [ats,aa]
 by_cases h:bP=x.1/\v=x.2
 ·obtain⟨rfl,rfl⟩:=h
  rw [if_pos ⟨rfl,rfl⟩,if_neg (cz _),if_pos (by simp)]
  simp
 ·rw [if_neg h]
  congr 1
  have e:((bP,v)∈l.take k++(some x).toList)↔((bP,v)∈l.take k):=by
   rw [asU]
   refine⟨λh'=>h'.elim id λh'=> ?_,.inl⟩
   simp at h'
   exact absurd ⟨congrArg Prod.fst h',congrArg Prod.snd h'⟩ h
  by_cases ae:(bP,v)∈l.take k
  ·rw [if_pos ae,if_pos (e.2 ae)]
  ·rw [if_neg ae,if_neg λau=>ae (e.1 au)]
theorem Xc{L:List bX}{l:bX}{K:Int->Int->J->Prop}(h:kZ H di bJ L)(aa:bk gb H a n c l)(ay:n<=1000000000)
  (Xd:l≠[]->∀al,a=some al->al.block∉bJ)
  (hk:∀H' kh,kZ H' di kh (q1 L l)->Fr bJ H H'->Grow H bJ kh->K (xY L l) (xZ L l) H'):
  aY atf Xe ⟨[.pointer (some ⟨di,0,none⟩),.slice a n c]⟩ H λv H'=>∃i e,v=.tuple ⟨[.int .i64 i,.int .i64 e]⟩/\K i e H':=by
 apply Xf
 have hw:=h.1
 have gE:=aa.len
 have same:∀H1,Fr [] H H1->¬(fE l/\l∉L/\L.length<200)->K (xY L l) (xZ L l) H1:=λH1 b9 cz=>hk H1 bJ (by
  have:q1 L l=L:=if_neg cz
  rw [this];exact h.ab b9) (b9.mono (by simp)) (Grow.refl _ _)
 refine Ip aa ay (λcL H1 b9=> ?_) (λcL H1 b9=> ?_)
 ·have cP:=same H1 b9 (λaq=>cL aq.1)
  unfold xY xZ at cP
  rw [if_neg cL,if_neg cL]at cP
  exact⟨_,_,rfl,cP⟩
 obtain⟨_,a0,jE,c0,hs,gv,et,dW,dE,bh,xX⟩:=id h
 have k0:=bh.ag b9 (by simp)
 refine ai (λh=>by simp at h) (λ_=>⟨_,(mN k0).ld (by kernel_rfl) (j:=1) rfl,?_⟩)
 have aI:qs L ⟨(hr l).toArray⟩=ki L l:=Fe hw cL
 cases kH:ki L l with
 |some i=>
  have cP:=same H1 b9 (λaq=>aq.2.1 (att (Xg kH)))
  unfold xY xZ at cP
  rw [if_pos cL,if_pos cL,kH]at cP
  rw [kH]at aI
  exact⟨i,true,k0.keys.zv tg z3 _ (by unfold mM;rw [aI];rfl) (by unfold mM;rw [aI];rfl),_,_,rfl,cP⟩
 |none=>
 have l5:l∉L:=Iu.1 kH
 have fC:jE=L.length:=by rw [bh.all.1,bh.l6.1]
 refine⟨0,false,k0.keys.zv tg z3 _ (by unfold mM;rw [aI,kH];rfl) (by unfold mM;rw [aI,kH];rfl),?_⟩
 refine⟨_,_,_,(mN k0).b5 (by kernel_rfl) rfl,ai (λae=> ?_) (λae=> ?_)⟩
 ·have N9:¬L.length<200:=by simp at ae;omega
  have cP:=same H1 b9 (λaq=>N9 aq.2.2)
  unfold xY xZ at cP
  rw [if_pos cL,if_pos cL,kH]at cP
  simp only [if_neg N9]at cP
  exact⟨_,_,rfl,cP⟩
 have wz:L.length<200:=by simp at ae;omega
 have hd:q1 L l=L++[l]:=if_pos ⟨cL,l5,wz⟩
 have Xh:xY L l=L.length:=by unfold xY;rw [if_pos cL,kH];simp only [if_pos wz]
 have Xi:xZ L l=0:=by unfold xZ;rw [if_pos cL,kH];simp only [if_pos wz]
 rw [hd,Xh,Xi]at hk
 refine⟨_,_,_,(mN k0).b5 (by kernel_rfl) rfl,r9 (aa.ab b9) ay λcM cW c1 ao fw bt=> ?_⟩
 have th:=k0.ag bt (by simp)
 refine⟨(mN th).b5 (by kernel_rfl) rfl,?_⟩
 intro cX aF bF
 have iV:=th.ag bF.ag (by simp)
 have jj:Fr [] H aF:=(b9.aw bt).aw bF.ag
 have eN:Own gb 48 0 aF cM cW c1 l:=(fw.ab bF.ag).base (apG _)
 refine⟨(mN iV).b5 (by kernel_rfl) rfl,?_⟩
 have e6:bk nY aF (some ⟨cX,0,none⟩) 1 1 [((cM,cW,c1):dH)]:=gd nY (cM,cW,c1) bF rfl
 refine iD (E:=nY) nZ WS iV.all e6 (apG _) (by omega) λaK aQ aT aN eV bU lD=> ?_
 have Iw:di∉ax a0:=zw (by decide) iV.all iV.cell
 have N':aN[di]?=some (.cells ⟨[.slice a0 jE c0,.map (some gv),.map (some et)]⟩ 152 (0,0)):=bU.get iV.cell Iw
 have Ix:di<aF.size:=k2 iV.cell
 refine BL (off:=0) (v:=.slice aK aQ aT) N' (by kernel_rfl) (by kernel_rfl) (λx aa=>by simp [atq]at aa;subst aa;rfl) (by simp [atq]) λbw zz bW=> ?_
 have zz:bw[di]?=some (.cells ⟨[.slice aK aQ aT,.map (some gv),.map (some et)]⟩ 152 (0,0)):=zz
 have Oa:di∉ax aK:=λhk=>by
  rcases lD di hk with bu|bu
  ·exact Iw bu
  ·omega
 let pE:=ax cM++(ax aK++bJ)
 have Ob:∀k∈bJ,k<aF.size:=λk hk=>iV.iC k hk
 have Fg:Own nY 44 0 bw aK aQ aT (hs++[(cM,cW,c1)]):=jV eV bW (λk hk=>by simp;exact λe=>Oa (e▸hk))
 have Xj:∀{k:Nat},k∉ax a0->k≠di->∀{o:Obj},aF[k]?=some o->bw[k]?=some o:=λ{k} h1 ae {o} an=>bW.get (bU.get an h1) (by simp;exact ae)
 have ti:Fr (di::ax a0) aF bw:=bU.trans' bW (λk hk _=>by simp [hk]) (λk hk _=>by simp at hk;simp [hk])
 have Iy:qY bw pE (hs++[(cM,cW,c1)]) (L++[l]):=by
  refine qY.snoc ?_ ?_ (λk hk=>by simp [pE,hk])
  ·refine(iV.l6.ag ti λi x m aa hm k hk=> ?_).mono (λk hk=>by simp [pE,hk])
   have BM:=(iV.l6.2 i x m aa hm).1
   simp only [o3,not_or]
   exact⟨λe=>zw (by decide) BM iV.cell (e▸hk),qq (by decide) BM iV.all k hk⟩
  ·refine jV eN ti λk hk=> ?_
   simp only [o3,not_or]
   exact⟨λe=>zw (by decide) eN iV.cell (e▸hk),qq (by decide) eN iV.all k hk⟩
 have Fh:∀{r:Nat} {f:ByteArray->Option Value},hK aF r f->r∉di::ax a0:=λ{r f} hm=>by
  simp only [o3,not_or]
  exact⟨λe=>Fa hm iV.cell e.symm,r7 iV.all hm⟩
 have Fi:=iV.keys.ag ti (Fh iV.keys)
 have Iz:mJ bw pE et dW dE (jD L):=(iV.has.ag ti (Fh iV.has.top) (λbP r e=>Fh (iV.has.inner bP r e)) (λbP v x k e hk=>by
  have BM:=(iV.has.own bP v x e).1
  simp only [o3,not_or]
  exact⟨λe=>zw (by decide) BM iV.cell (e▸hk),qq (by decide) BM iV.all k hk⟩)).mono (λk hk=>by simp [pE,hk])
 have dI:aU bw ⟨di,0,none⟩ [.slice aK aQ aT,.map (some gv),.map (some et)]:=⟨di,_,rfl,zz⟩
 refine⟨_,dI.ld (by kernel_rfl) (j:=1) rfl,?_⟩
 refine Fi.put tg _ λbY Fj cB=> ?_
 have Fj:hK bY gv (mM (L++[l])):=by
  have e:mM (L++[l])=λs=>if s=⟨(hr l).toArray⟩then some (.int .i64 (jE:Int))else mM L s:=by
   funext s
   unfold mM
   rw [Oc s (by rw [aI,kH]),fC]
   by_cases hs:s=⟨(hr l).toArray⟩
   ·rw [if_pos hs,if_pos hs]
   ·rw [if_neg hs,if_neg hs]
  rw [e];exact Fj
 have Od:qZ bY di pE (L++[l]) (idK L l 0) aK aQ aT (hs++[(cM,cW,c1)]) gv et dW dE:=by
  have IA:∀{α:Type} {E:dd α} {t base:Nat} {a:Option Addr} {n c:Nat} {xs:List α},Own E t base bw a n c xs->∀k∈ax a,k∉[gv]:=λan k hk=>by
   simp;exact λe=>r7 an Fi (e▸hk)
  refine⟨cB.get zz (by simp;exact Fa Fi zz),jV Fg cB (IA Fg),Iy.ag cB (λi x m aa hm=>IA (Iy.2 i x m aa hm).1),Fj,?_,bh.BE,bh.BF,by simp [pE,bh.BG],by simp [pE,bh.zx],λk hk=>by simp [pE,hk],?_⟩
  ·exact(Iz.ag cB (by simp;exact λe=>bh.BE e.symm) (λbP r e=>by simp;exact bh.BF bP r e) (λbP v x k e hk=>IA (Iz.own bP v x e).1 k hk)).ext (λbP v=>(W8 L l bP v).symm)
  ·intro k hk
   have BN:=cB.size
   have tj:=ti.size
   simp only [pE,asU]at hk
   rcases hk with hk|hk|hk
   ·have:=(eN.ge k hk).2;omega
   ·have:=(Fg.ge k hk).2;omega
   ·have:=Ob k hk;omega
 have Oe:Grow H bJ pE:=λk hk=>by
  have qt:=jj.size
  simp only [pE,asU]at hk
  rcases hk with hk|hk|hk
  ·exact .inr (by have:=(fw.ge k hk).1;have:=b9.size;omega)
  ·rcases lD k hk with bu|bu
   ·exact .inl (bh.BH k bu)
   ·exact .inr (by omega)
  ·exact .inl hk
 have l7:Fr bJ H bY:=(jj.trans' ti (T:=bJ) (by simp) (λk hk _=>by
  rcases o3.1 hk with rfl|hk
  ·exact bh.BG
  ·exact bh.BH k hk)).trans' cB (λk hk _=>hk) (λk hk _=>by simp at hk;subst hk;exact bh.zx)
 have Xk:l≠[]->∀al,a=some al->al.block<H.size/\al.block∉bJ:=λcH al e=>⟨by
  obtain⟨b,off,bN,ah⟩:=aa.arr.lt cH
  rw [e]at bN;cases bN;exact ah,Xd cH al e⟩
 clear_value pE
 clear k0 th iV bF e6 fw eN eV bU lD N' zz bW Xj ti Iy Fi Iz dI Fg Fj cB Ob Iw Oa Fh jj
 refine⟨λvs H'=>match vs with
   |[.int _ i]=>∃(k:Nat) (kh:List Nat) (dW:ByteArray->Option Nat) (dE:ByteArray->ByteArray->Option dH),i=k/\k<=n/\qZ H' di kh (L++[l]) (idK L l k) aK aQ aT (hs++[(cM,cW,c1)]) gv et dW dE/\Fr bJ H H'/\Grow H bJ kh/\N6 dW dE
   |_=>False,
  λvs _=>match vs with|[.int _ i]=>n-i.toNat|_=>0,⟨0,pE,dW,dE,rfl,by omega,Od,l7,Oe,xX⟩,?_⟩
 clear Od l7 Oe
 rintro bm i cC ⟨k,BO,zA,IB,rfl,hle,q2,eJ,pC,IC⟩
 refine ai (λaD=> ?_) (λaD=>⟨_,_,rfl,?_⟩)
 ·have bT:k<n:=by simpa using aD
  have b0:l[k]?=some (l[k]'(by omega)):=by simp
  generalize l[k]'(by omega)=x at b0
  have cH:l≠[]:=λe=>by subst e;simp at b0
  have Of:bk gb cC a n c l:=aa.ag eJ λal e=>(Xk cH al e).2
  refine Of.get rfl b0 (decide_eq_true (by omega)) λal bS ak=>⟨_,_,BA ak,?_⟩
  refine BB rfl λb ed ah x0 l8=> ?_
  have q3:=q2.ag l8 (by simp)
  have tf:b∉BO:=λhk=>by have:=q2.iC b hk;omega
  refine⟨λ_ H'=>∃(kh:List Nat) (dW:ByteArray->Option Nat) (dE:ByteArray->ByteArray->Option dH) (r:Nat),qZ H' di kh (L++[l]) (idK L l k) aK aQ aT (hs++[(cM,cW,c1)]) gv et dW dE/\dW x.1=some r/\aU H' ⟨b,0,none⟩ [.string x.1,.string x.2]/\b∉kh/\b<H'.size/\Fr bJ H H'/\Grow H bJ kh/\(∀bP,dW bP≠none->(∃v,dE bP v≠none)\/bP=x.1),?_,?_⟩
  ·refine⟨_,(mN q3).ld (by kernel_rfl) (j:=2) rfl,_,x0.hJ,(zA x.1),q3.has.top.look BI z76 _ (by cases zA x.1<;>rfl),?_⟩
   refine ai (λh1=> ?_) (λh1=> ?_)
   ·have cz:zA x.1=none:=by simpa using h1
    refine⟨_,(mN q3).ld (by kernel_rfl) (j:=2) rfl,_,x0.hJ,?_⟩
    intro b1 ee fF
    have iW:=q3.ag fF.ag (by simp)
    have wA:=x0.ab fF.ag
    refine⟨wA.hJ,(mN iW).ld (by kernel_rfl) (j:=2) rfl,?_⟩
    refine iW.has.top.put BI x.1 λfx Xl n0=> ?_
    have Xm:et≠b:=λe=>tf (e▸q2.has.wv)
    have cI:b1=ed.size:=fF.eq
    have ID:=fF.size
    have BP:=x0.lt
    have Og:∀{α:Type} {E:dd α} {t base:Nat} {a:Option Addr} {n c:Nat} {xs:List α},Own E t base ee a n c xs->∀k∈ax a,k∉[et]:=λan k hk=>by
     simp;exact λe=>r7 an iW.has.top (e▸hk)
    refine⟨b1::BO,_,IB,b1,⟨n0.get iW.cell (by simp;exact Fa iW.has.top iW.cell),jV iW.all n0 (Og iW.all),(iW.l6.ag n0 (λi x m aa hm=>Og (iW.l6.2 i x m aa hm).1)).mono (λk hk=>by simp [hk]),iW.keys.ag n0 (by simp;exact iW.BE),q3.has.name q3.iC cz fF Xl n0,iW.BE,?_,by simp [iW.BG],by simp [iW.zx],λk hk=>by simp [iW.BH k hk],?_⟩,if_pos rfl,wA.ag n0 (by simp;exact λe=>Xm e.symm),?_,?_,?_,?_,λs hs=> ?_⟩
    ·intro bP r e
     split at e
     ·cases e
      intro bN
      have:=q3.iC gv q3.zx;omega
     ·exact iW.BF bP r e
    ·intro j a'
     have:=n0.size
     rcases o3.1 a' with rfl|a'
     ·omega
     ·have:=iW.iC j a';omega
    ·intro hk
     rcases o3.1 hk with bu|bu
     ·have:b<ed.size:=BP
      omega
     ·exact tf bu
    ·have:=n0.size;have:b<ed.size:=BP;omega
    ·exact((eJ.trans' l8 (λk hk _=>hk) (by simp)).trans' fF.ag (λk hk _=>hk) (by simp)).trans' n0 (λk hk _=>hk) (λk hk cF=>by
      simp at hk;subst hk
      rcases pC _ q2.has.wv with bu|bu
      ·exact bu
      ·omega)
    ·intro j a'
     rcases o3.1 a' with rfl|a'
     ·exact .inr (by have:=eJ.size;have:=l8.size;omega)
     ·exact pC j a'
    ·by_cases bu:s=x.1
     ·exact .inr bu
     ·exact .inl (IC s (by rwa [if_neg bu]at hs))
   ·cases hm:zA x.1 with
    |none=>rw [hm]at h1;simp at h1
    |some r=>exact⟨BO,zA,IB,r,q3,hm,x0,tf,x0.lt,eJ.trans' l8 (λk hk _=>hk) (by simp),pC,λs hs=>.inl (IC s hs)⟩
  ·clear q2 eJ pC q3 x0 l8 tf Of
   rintro bm ee ⟨BQ,Fk,x1,r,iW,aA,wA,tf,BP,pF,Fl,Xn⟩
   have zB:∀{H':J},qZ H' di BQ (L++[l]) (idK L l k) aK aQ aT (hs++[(cM,cW,c1)]) gv et Fk x1->cR atf 149 H' (Addr.add ⟨di,0,none⟩ 2) (.map (some et)):=λbh=>(mN bh).ld (by kernel_rfl) (j:=2) rfl
   have mO:∀{H':J},qZ H' di BQ (L++[l]) (idK L l k) aK aQ aT (hs++[(cM,cW,c1)]) gv et Fk x1->Rd atf (Instr.lookup 149 (.map (some et)) (.string x.1) false) H' (.map (some r)):=λbh=>bh.has.top.look BI z76 _ (by rw [aA];rfl)
   obtain⟨an,dk⟩:∃an:dH,(x1 x.1 x.2).getD (none,0,0)=an:=⟨_,rfl⟩
   have Oh:∀{H':J},qZ H' di BQ (L++[l]) (idK L l k) aK aQ aT (hs++[(cM,cW,c1)]) gv et Fk x1->Rd atf (Instr.lookup 260 (.map (some r)) (.string x.2) false) H' (.slice an.1 an.2.1 an.2.2):=λbh=>(bh.has.inner _ _ aA).look Fc z40 _ (by
    rw [<-dk];cases x1 x.1 x.2<;>rfl)
   refine⟨_,zB iW,_,wA.hJ,_,mO iW,_,wA.s1,_,zB iW,_,wA.hJ,_,mO iW,_,wA.s1,_,_,_,Oh iW,?_⟩
   intro b1 fx BR
   have ht:=iW.ag BR.ag (by simp)
   have BS:=wA.ab BR.ag
   refine⟨Oh ht,BS.s1,mO ht,BS.hJ,zB ht,BS.s1,mO ht,BS.hJ,zB ht,?_⟩
   have wB:Own b' 3 0 fx an.1 an.2.1 an.2.2 (idK L l k x.1 x.2):=by
    cases aI:x1 x.1 x.2 with
    |none=>rw [aI]at dk;simp at dk;subst dk;rw [ht.has.no _ _ aI];exact Own.nil _ _ _ _
    |some y=>rw [aI]at dk;simp at dk;subst dk;exact(ht.has.own _ _ _ aI).1
   have hlen:(idK L l k x.1 x.2).length<=1000:=by
    unfold idK
    rw [VH]
    have h1:(jD L x.1 x.2).length<=L.length:=by
     unfold jD
     rw [atw]
     exact VF (avd _ _) (by simp)
    split<;>simp<;>omega
   have e6:bk b' fx (some ⟨b1,0,none⟩) 1 1 [(jE:Int)]:=gd b' _ BR rfl
   refine iD (E:=b') E8 wu wB e6 (apG _) (by rw [wB.1];omega) λOi tk qu lE Fm x2 Oj=> ?_
   have IE:∀k∈ax an.1,k∈BQ:=λj a'=>by
    cases aI:x1 x.1 x.2 with
    |none=>rw [aI]at dk;simp at dk;subst dk;cases a'
    |some y=>rw [aI]at dk;simp at dk;subst dk;exact iW.has.xW _ _ _ j aI a'
   have Xo:b∉ax an.1:=λhk=>tf (IE b hk)
   have Ol:=BS.ag x2 Xo
   have Xp:=x2.get ht.cell (zw (by decide) wB ht.cell)
   have Xq:=ht.has.top.ag x2 (r7 wB ht.has.top)
   have Xr:=(ht.has.inner _ _ aA).ag x2 (r7 wB (ht.has.inner _ _ aA))
   have IF:aU lE ⟨di,0,none⟩ [.slice aK aQ aT,.map (some gv),.map (some et)]:=⟨di,_,rfl,Xp⟩
   refine⟨Ol.s1,Xq.look BI z76 _ (by rw [aA];rfl),Ol.hJ,IF.ld (by kernel_rfl) (j:=2) rfl,?_⟩
   refine Xr.put Fc x.2 λn1 Xs BT=> ?_
   rw [b6 (by omega)]
   have zC:Fr (r::ax an.1) fx n1:=x2.trans' BT (λk hk _=>by simp [hk]) (λk hk _=>by simp at hk;simp [hk])
   have Om:∀{α:Type} {E:dd α} {t base:Nat} {a:Option Addr} {n c:Nat} {xs:List α},t≠3->Own E t base fx a n c xs->∀k∈ax a,k∉r::ax an.1:=λbf an k hk=>by
    simp only [o3,not_or]
    exact⟨λe=>r7 an (ht.has.inner _ _ aA) (e▸hk),qq bf an wB k hk⟩
   have apX:=BR.size
   refine⟨⟨k+1,ax Oi++BQ,Fk,_,rfl,by omega,⟨?_,jV ht.all zC (Om (by decide) ht.all),(ht.l6.ag zC (λi x m aa hm=>Om (by decide) (ht.l6.2 i x m aa hm).1)).mono (λk hk=>by simp [hk]),?_,
     (ht.has.add (new:=(Oi,tk,qu)) ht.iC aA dk Fm x2 Oj Xs BT).ext (λbP v=> ?_),ht.BE,ht.BF,by simp [ht.BG],by simp [ht.zx],λk hk=>by simp [ht.BH k hk],?_⟩,?_,?_,λs hs=> ?_⟩,cJ bT⟩
   ·refine zC.get ht.cell ?_
    simp only [o3,not_or]
    exact⟨λe=>Fa (ht.has.inner _ _ aA) ht.cell e,zw (by decide) wB ht.cell⟩
   ·refine ht.keys.ag zC ?_
    simp only [o3,not_or]
    exact⟨λe=>ht.BF _ _ aA e.symm,r7 wB ht.keys⟩
   ·rw [<-Xa cL.2.2 b0 bP v,fC]
   ·intro j a'
    have:=zC.size
    have:=x2.size
    have:=BT.size
    rcases asU.1 a' with a'|a'
    ·have:=(Fm.ge j a').2;omega
    ·have:=ht.iC j a';omega
   ·refine(pF.trans' BR.ag (λk hk _=>hk) (by simp)).trans' zC (λk hk _=>hk) λj a' cF=> ?_
    rcases o3.1 a' with rfl|a'
    ·rcases Fl _ (iW.has.wx _ _ aA)with bu|bu
     ·exact bu
     ·omega
    ·rcases Fl _ (IE j a')with bu|bu
     ·exact bu
     ·omega
   ·intro j a'
    rcases asU.1 a' with a'|a'
    ·rcases Oj j a' with bu|bu
     ·exact Fl j (IE j bu)
     ·exact .inr (by have:=pF.size;omega)
    ·exact Fl j a'
   ·rcases Xn s hs with⟨v,bu⟩|bu
    ·refine⟨v,?_⟩
     dsimp only
     split
     ·simp
     ·exact bu
    ·exact⟨x.2,by dsimp only;rw [if_pos ⟨bu,rfl⟩];simp⟩
 ·have du:k=n:=by simp at aD;omega
  subst du
  have Xt:qZ cC di BO (L++[l]) (jD (L++[l])) aK aQ aT (hs++[(cM,cW,c1)]) gv et zA IB:={q2 with has:=q2.has.ext λbP v=>by rw [gE];exact W9 L l bP v}
  have nq:q0 (L++[l]):=by have:=On hw l;rwa [hd]at this
  rw [fC]
  exact hk cC BO ⟨nq,_,_,_,_,_,_,_,_,Xt,IC⟩ eJ pC
end Go.Proofs.cU
namespace Go.Proofs
def h9(xs:List Int):Prop:=xs.Pairwise (·<·)
theorem h9.nil:h9 []:=List.Pairwise.nil
theorem h9.ext:∀{xs ys:List Int},h9 xs->h9 ys->(∀z,z∈xs↔z∈ys)->xs=ys
 |[],[],_,_,_=>rfl
 |[],y::ys,_,_,h=>by have:=(h y).2 (by simp);cases this
 |x::xs,[],_,_,h=>by have:=(h x).1 (by simp);cases this
 |x::xs,y::ys,aa,av,h=>by
  have eF:=ave.1 aa
  have hn:=ave.1 av
  have e:x=y:=by
   have h1:=(h x).1 (by simp)
   have ae:=(h y).2 (by simp)
   rcases o3.1 h1 with h1|h1
   ·exact h1
   ·rcases o3.1 ae with ae|ae
    ·exact ae.symm
    ·have:=eF.1 y ae;have:=hn.1 x h1;omega
  subst e
  rw [h9.ext eF.2 hn.2 λz=> ?_]
  refine⟨λaC=> ?_,λaC=> ?_⟩
  ·rcases o3.1 ((h z).1 (by simp [aC]))with h1|h1
   ·subst h1;have:=eF.1 z aC;omega
   ·exact h1
  ·rcases o3.1 ((h z).2 (by simp [aC]))with h1|h1
   ·subst h1;have:=hn.1 z aC;omega
   ·exact h1
variable{xs:List Int}
theorem h9.snoc{z:Int}(h:h9 xs)(aC:∀x∈xs,x<z):h9 (xs++[z]):=by
 unfold h9 at *
 rw [avk]
 exact⟨h,by simp,λa bQ b ah=>by simp at ah;subst ah;exact aC a bQ⟩
def hf(xs:List Int)(p:Int->Prop):Prop:=h9 xs/\∀z,z∈xs↔p z
theorem hf.eq{ys:List Int}{p:Int->Prop}(h:hf xs p)(h':hf ys p):xs=ys:=h9.ext h.1 h'.1 λz=>(h.2 z).trans (h'.2 z).symm
theorem hf.iff{p q:Int->Prop}(h:hf xs p)(a1:∀z,p z↔q z):hf xs q:=⟨h.1,λz=>(h.2 z).trans (a1 z)⟩
def pG(b:Bool)(x:Int)(l:List Int):List Int:=if b then x::l else l
def fs(w:Bool->Bool->Bool):List Int->List Int->List Int
 |[],[]=>[]
 |x::xs,[]=>pG (w true false) x (fs w xs [])
 |[],y::ys=>pG (w false true) y (fs w [] ys)
 |x::xs,y::ys=>if x<y then pG (w true false) x (fs w xs (y::ys))else if y<x then pG (w false true) y (fs w (x::xs) ys)else pG (w true true) y (fs w xs ys)
termination_by xs ys=>xs.length+ys.length
theorem Dq{b:Bool}{x z:Int}{l:List Int}:z∈pG b x l↔(b=true/\z=x)\/z∈l:=by unfold pG;split<;>simp_all
theorem Dr(b:Bool)(x:Int)(l:List Int):(pG b x l).length<=l.length+1:=by unfold pG;split<;>simp
theorem qJ{w:Bool->Bool->Bool}:∀{xs ys:List Int},h9 xs->h9 ys->∀z,z∈fs w xs ys↔(z∈xs\/z∈ys)/\w (decide (z∈xs)) (decide (z∈ys))=true
 |[],[],_,_,z=>by rw [fs];simp
 |x::xs,[],aa,av,z=>by
  have eF:=ave.1 aa
  rw [fs,Dq,qJ eF.2 av z]
  by_cases h1:z=x
  ·subst h1
   have:z∉xs:=λh=>by have:=eF.1 z h;omega
   simp [this]
  ·simp [h1]
 |[],y::ys,aa,av,z=>by
  have hn:=ave.1 av
  rw [fs,Dq,qJ aa hn.2 z]
  by_cases h1:z=y
  ·subst h1
   have:z∉ys:=λh=>by have:=hn.1 z h;omega
   simp [this]
  ·simp [h1]
 |x::xs,y::ys,aa,av,z=>by
  have eF:=ave.1 aa
  have hn:=ave.1 av
  rw [fs]
  split
  ·rename_i cF
   rw [Dq,qJ eF.2 av z]
   by_cases h1:z=x
   ·subst h1
    have ae:z∉xs:=λh=>by have:=eF.1 z h;omega
    have au:z∉ys:=λh=>by have:=hn.1 z h;omega
    have a6:z≠y:=by omega
    simp [ae,au,a6]
   ·simp [h1]
  ·split
   ·rename_i gH cF
    rw [Dq,qJ aa hn.2 z]
    by_cases h1:z=y
    ·subst h1
     have ae:z∉ys:=λh=>by have:=hn.1 z h;omega
     have au:z∉xs:=λh=>by have:=eF.1 z h;omega
     have a6:z≠x:=by omega
     simp [ae,au,a6]
    ·simp [h1]
   ·rename_i gH aqW
    have e:x=y:=by omega
    subst e
    rw [Dq,qJ eF.2 hn.2 z]
    by_cases h1:z=x
    ·subst h1
     have ae:z∉ys:=λh=>by have:=hn.1 z h;omega
     have au:z∉xs:=λh=>by have:=eF.1 z h;omega
     simp [ae,au]
    ·simp [h1]
termination_by xs ys=>xs.length+ys.length
theorem Ds{b:Bool}{x:Int}{l:List Int}(h:h9 l)(aH:∀z∈l,x<z):h9 (pG b x l):=by
 unfold pG
 split
 ·exact ave.2 ⟨aH,h⟩
 ·exact h
theorem xm{w:Bool->Bool->Bool}:∀{xs ys:List Int},h9 xs->h9 ys->h9 (fs w xs ys)
 |[],[],_,_=>by rw [fs];exact h9.nil
 |x::xs,[],aa,av=>by
  have eF:=ave.1 aa
  rw [fs]
  exact Ds (xm eF.2 av) λz aC=>by
   rw [qJ eF.2 av]at aC
   rcases aC.1 with h|h
   ·exact eF.1 z h
   ·cases h
 |[],y::ys,aa,av=>by
  have hn:=ave.1 av
  rw [fs]
  exact Ds (xm aa hn.2) λz aC=>by
   rw [qJ aa hn.2]at aC
   rcases aC.1 with h|h
   ·cases h
   ·exact hn.1 z h
 |x::xs,y::ys,aa,av=>by
  have eF:=ave.1 aa
  have hn:=ave.1 av
  rw [fs]
  split
  ·exact Ds (xm eF.2 av) λz aC=>by
    rw [qJ eF.2 av]at aC
    rcases aC.1 with h|h
    ·exact eF.1 z h
    ·rcases o3.1 h with h|h
     ·omega
     ·have:=hn.1 z h;omega
  ·split
   ·exact Ds (xm aa hn.2) λz aC=>by
     rw [qJ aa hn.2]at aC
     rcases aC.1 with h|h
     ·rcases o3.1 h with h|h
      ·omega
      ·have:=eF.1 z h;omega
     ·exact hn.1 z h
   ·exact Ds (xm eF.2 hn.2) λz aC=>by
     rw [qJ eF.2 hn.2]at aC
     rcases aC.1 with h|h
     ·have:=eF.1 z h;omega
     ·exact hn.1 z h
termination_by xs ys=>xs.length+ys.length
theorem wD{w:Bool->Bool->Bool}:∀(xs ys:List Int),(fs w xs ys).length<=xs.length+ys.length
 |[],[]=>by rw [fs];simp
 |x::xs,[]=>by
  rw [fs]
  have:=Dr (w true false) x (fs w xs [])
  have:=wD (w:=w) xs []
  simp at *;omega
 |[],y::ys=>by
  rw [fs]
  have:=Dr (w false true) y (fs w [] ys)
  have:=wD (w:=w) [] ys
  simp at *;omega
 |x::xs,y::ys=>by
  rw [fs]
  split
  ·have:=Dr (w true false) x (fs w xs (y::ys))
   have:=wD (w:=w) xs (y::ys)
   simp at *;omega
  ·split
   ·have:=Dr (w false true) y (fs w (x::xs) ys)
    have:=wD (w:=w) (x::xs) ys
    simp at *;omega
   ·have:=Dr (w true true) y (fs w xs ys)
    have:=wD (w:=w) xs ys
    simp at *;omega
termination_by xs ys=>xs.length+ys.length
def zD(a b:Bool):Bool:=a&&b
def zE(_ _:Bool):Bool:=true
def x3(a b:Bool):Bool:=a&& !b
theorem hf.and{ys:List Int}{p q:Int->Prop}(h:hf xs p)(h':hf ys q):hf (fs zD xs ys) (λz=>p z/\q z):=
 ⟨xm h.1 h'.1,λz=>by rw [qJ h.1 h'.1];simp only [zD,oJ,decide_eq_true_eq,h.2 z,h'.2 z];exact⟨λh=>h.2,λh=>⟨.inl h.1,h⟩⟩⟩
theorem hf.or{ys:List Int}{p q:Int->Prop}(h:hf xs p)(h':hf ys q):hf (fs zE xs ys) (λz=>p z\/q z):=
 ⟨xm h.1 h'.1,λz=>by rw [qJ h.1 h'.1];simp only [zE,and_true,h.2 z,h'.2 z]⟩
theorem hf.not{ys:List Int}{p q:Int->Prop}(h:hf xs p)(h':hf ys q):hf (fs x3 xs ys) (λz=>p z/\¬q z):=
 ⟨xm h.1 h'.1,λz=>by rw [qJ h.1 h'.1];simp only [x3,oJ,Bool.not_eq_true',decide_eq_true_eq,decide_eq_false_iff_not,h.2 z,h'.2 z];exact⟨λh=>h.2,λh=>⟨.inl h.1,h⟩⟩⟩
theorem zF(L:List bX)(bP v:ByteArray):hf (jD L bP v) (λz=>∃(k:Nat) (l:bX),z=k/\L[k]?=some l/\(bP,v)∈l):=by
 have:∀(n:Nat) (L:List bX),L.length=n->hf (jD L bP v) (λz=>∃(k:Nat) (l:bX),z=k/\L[k]?=some l/\(bP,v)∈l):=by
  intro n
  induction n with
  |zero=>
   intro L gF
   have:L=[]:=asF gF
   subst this
   exact⟨h9.nil,λz=>by simp [N7]⟩
  |succ n ih=>
   intro L gF
   rcases List.eq_nil_or_concat L with rfl|⟨M,l,rfl⟩
   ·simp at gF
   rw [List.concat_eq_append]at gF⊢
   have cQ:M.length=n:=by simpa using gF
   have h:=ih M cQ
   rw [N8]
   have cF:∀x∈jD M bP v,x<(M.length:Int):=λx aa=>by
    obtain⟨k,m,rfl,hk,_⟩:=(h.2 x).1 aa
    have:=(qb.1 hk).1
    omega
   have yw:∀(k:Nat) (m:bX),(M++[l])[k]?=some m↔M[k]?=some m\/(k=M.length/\m=l):=λk m=>by
    rcases avF k M.length with h1|h1|h1
    ·rw [asW h1]
     exact⟨.inl,λh=>h.elim id λh=>by omega⟩
    ·subst h1
     simp
     exact eq_comm
    ·rw [asu (by simp;omega),asu (by omega)]
     simp;omega
   by_cases eC:(bP,v)∈l
   ·rw [if_pos eC]
    refine⟨h.1.snoc cF,λz=> ?_⟩
    rw [asU,h.2 z]
    refine⟨λaC=> ?_,λaC=> ?_⟩
    ·rcases aC with⟨k,m,e,hk,hm⟩|aC
     ·exact⟨k,m,e,(yw k m).2 (.inl hk),hm⟩
     ·simp at aC
      exact⟨M.length,l,aC,(yw _ _).2 (.inr ⟨rfl,rfl⟩),eC⟩
    ·obtain⟨k,m,e,hk,hm⟩:=aC
     rcases(yw k m).1 hk with h1|⟨h1,ae⟩
     ·exact .inl ⟨k,m,e,h1,hm⟩
     ·subst h1;right;simp [e]
   ·rw [if_neg eC,as0]
    refine h.iff λz=>⟨fun⟨k,m,e,hk,hm⟩=>⟨k,m,e,(yw k m).2 (.inl hk),hm⟩,fun⟨k,m,e,hk,hm⟩=> ?_⟩
    rcases(yw k m).1 hk with h1|⟨h1,ae⟩
    ·exact⟨k,m,e,h1,hm⟩
    ·subst ae;exact absurd hm eC
 exact this _ L rfl
theorem OE(n:Nat):hf ((asl n).map λk:Nat=>(k:Int)) (λz=>∃k:Nat,z=k/\k<n):=by
 refine⟨?_,λz=> ?_⟩
 ·unfold h9
  rw [auT]
  exact List.pairwise_lt_range.imp λh=>by omega
 ·simp only [ad6,List.mem_range]
  exact⟨fun⟨k,h,e⟩=>⟨k,e.symm,h⟩,fun⟨k,e,h⟩=>⟨k,h,e.symm⟩⟩
abbrev fg:=Int×ByteArray×ByteArray×List ByteArray
def n3(l:bX)(bP:ByteArray):ByteArray:=match l.find? (λx=>decide (x.1=bP))with|some x=>x.2|none=>⟨#[]⟩
theorem OB{l:bX}(ak:fE l){bP v:ByteArray}(h:(bP,v)∈l):n3 l bP=v:=by
 unfold n3
 cases af:l.find? (λx=>decide (x.1=bP))with
 |none=>
  have:=avs.1 af _ h
  simp at this
 |some x=>
  have h1:x.1=bP:=by simpa using avt af
  obtain⟨i,az⟩:=avu.1 (avv af)
  obtain⟨j,a'⟩:=avu.1 h
  rcases avF i j with ae|ae|ae
  ·have:=K7 ak.2.2 ae az a'
   rw [h1,CN]at this;cases this
  ·subst ae;rw [az]at a';cases a';rfl
  ·have:=K7 ak.2.2 ae a' az
   rw [h1,CN]at this;cases this
theorem II{l:bX}{bP:ByteArray}(h:∀v,(bP,v)∉l):n3 l bP=⟨#[]⟩:=by
 unfold n3
 cases af:l.find? (λx=>decide (x.1=bP))with
 |none=>rfl
 |some x=>
  have h1:x.1=bP:=by simpa using avt af
  exact absurd (avv af) (λhm=>h x.2 (by rw [<-h1];exact hm))
theorem ahb{l:bX}{bP:ByteArray}(h:∃v,(bP,v)∈l):∃v,(bP,v)∈l/\n3 l bP=v:=by
 obtain⟨v,aI⟩:=h
 unfold n3
 cases af:l.find? (λx=>decide (x.1=bP))with
 |none=>
  have:=avs.1 af _ aI
  simp at this
 |some x=>
  have h1:x.1=bP:=by simpa using avt af
  exact⟨x.2,by have:=avv af;rw [<-h1];exact this,rfl⟩
open Classical in
noncomputable def gD(m:fg)(v:ByteArray):Bool:=
 if m.1=0 then decide (v=m.2.2.1)else if m.1=1 then !decide (v=m.2.2.1)
 else if m.1=2 then decide (m.2.2.1.size<=v.size/\(bj v).take m.2.2.1.size=bj m.2.2.1)else if m.1=3 then decide (v∈m.2.2.2)else false
def OG(l:List ByteArray):Prop:=∀i x y,l[i]?=some x->l[i+1]?=some y->jn x y=true
def k7(m:fg):Prop:=kX m.2.1/\((0<=m.1/\m.1<3/\m.2.2.2=[]/\kY m.2.2.1)\/(m.1=3/\m.2.2.1=⟨#[]⟩/\1<=m.2.2.2.length/\m.2.2.2.length<=8/\(∀v∈m.2.2.2,kY v)/\OG m.2.2.2))
open Classical in
noncomputable def FB(m:fg):Int:=if k7 m then 0 else 50
theorem IU{m:fg}(h:¬k7 m):FB m=50:=if_neg h
theorem OJ{m:fg}(h:k7 m):FB m=0:=if_pos h
def IM(L:List bX)(m:fg)(z:Int):Prop:=∃(k:Nat) (l:bX),z=k/\L[k]?=some l/\gD m (n3 l m.2.1)=true
def rb(L:List bX)(ms:List fg)(z:Int):Prop:=∃(k:Nat) (l:bX),z=k/\L[k]?=some l/\∀m∈ms,gD m (n3 l m.2.1)=true
theorem OF{L:List bX}(hw:q0 L)(m:fg)(z:Int):
  ((∃v,gD m v=true/\z∈jD L m.2.1 v)\/(gD m ⟨#[]⟩=true/\(∃k:Nat,z=k/\k<L.length)/\¬∃v,z∈jD L m.2.1 v))↔IM L m z:=by
 refine⟨λh=> ?_,fun⟨k,l,e,hk,an⟩=> ?_⟩
 ·rcases h with⟨v,an,aC⟩|⟨an,⟨k,e,hk⟩,cz⟩
  ·obtain⟨k,l,e,hk,hm⟩:=((zF L m.2.1 v).2 z).1 aC
   exact⟨k,l,e,hk,by rw [OB (hw.da l (att hk)) hm];exact an⟩
  ·have pH:L[k]?=some L[k]:=by simp [hk]
   refine⟨k,L[k],e,pH,?_⟩
   rw [II λv aI=>cz ⟨v,((zF L m.2.1 v).2 z).2 ⟨k,_,e,pH,aI⟩⟩]
   exact an
 ·by_cases aq:∃v,(m.2.1,v)∈l
  ·obtain⟨v,aI,aZ⟩:=ahb aq
   exact .inl ⟨v,by rw [<-aZ];exact an,((zF L m.2.1 v).2 z).2 ⟨k,l,e,hk,aI⟩⟩
  ·refine .inr ⟨?_,⟨k,e,(qb.1 hk).1⟩,fun⟨v,aC⟩=> ?_⟩
   ·rw [II λv aI=>aq ⟨v,aI⟩]at an;exact an
   ·obtain⟨k',lP,cV,cA,hm⟩:=((zF L m.2.1 v).2 z).1 aC
    have:k=k':=by omega
    subst this
    rw [hk]at cA;cases cA
    exact aq ⟨v,hm⟩
theorem YO(L:List bX)(z:Int):rb L [] z↔∃k:Nat,z=k/\k<L.length:=
 ⟨fun⟨k,l,e,hk,_⟩=>⟨k,e,(qb.1 hk).1⟩,fun⟨k,e,hk⟩=>⟨k,L[k],e,by simp [hk],by simp⟩⟩
theorem YP(L:List bX)(ms:List fg)(m:fg)(z:Int):rb L (ms++[m]) z↔rb L ms z/\IM L m z:=by
 refine⟨fun⟨k,l,e,hk,h⟩=>⟨⟨k,l,e,hk,λx aa=>h x (by simp [aa])⟩,k,l,e,hk,h m (by simp)⟩,fun⟨⟨k,l,e,hk,h⟩,k',lP,cV,cA,h'⟩=>⟨k,l,e,hk,λx aa=> ?_⟩⟩
 have:k=k':=by omega
 subst this
 rw [hk]at cA;cases cA
 rcases asU.1 aa with aa|aa
 ·exact h x aa
 ·simp at aa;subst aa;exact h'
end Go.Proofs
namespace Go.Proofs.cU
variable{H H':J}{a:Option Addr}{n c b di:Nat}{al:Addr}
theorem q4{x:Int}(h:eP H al (b'.cells x)):cR atf 3 H al (.int .i64 x):=iq (by kernel_rfl) h
def Fo(w:Bool->Bool->Bool)(uP:Value):Prop:=∀(a b:Bool) (H:J) (K:Bool->J->Prop),K (w a b) H->dO atf uP [.bool a,.bool b] H λv H'=>∃r,v=.bool r/\K r H'
theorem Xv:Fo zD (.func (.func 260) ⟨[]⟩ ⟨[]⟩):=λa b H K hk=>⟨260,⟨[]⟩,⟨[]⟩,rfl,by kernel_rfl,by
 apply Xw
 unfold zD at hk
 refine ai (λh=>⟨_,rfl,?_⟩) (λh=>⟨_,rfl,?_⟩)
 ·rw [h]at hk;exact hk
 ·rw [h]at hk;exact hk⟩
theorem Xx:Fo zE (.func (.func 345) ⟨[]⟩ ⟨[]⟩):=λa b H K hk=>⟨345,⟨[]⟩,⟨[]⟩,rfl,by kernel_rfl,by
 apply Xy
 exact⟨_,rfl,hk⟩⟩
theorem Xz:Fo x3 (.func (.func 346) ⟨[]⟩ ⟨[]⟩):=λa b H K hk=>⟨346,⟨[]⟩,⟨[]⟩,rfl,by kernel_rfl,by
 apply XA
 unfold x3 at hk
 refine ai (λh=>⟨_,rfl,?_⟩) (λh=>⟨_,rfl,?_⟩)
 ·rw [h]at hk;exact hk
 ·rw [h]at hk;exact hk⟩
theorem BU{w:Bool->Bool->Bool}{uP:Value}{b:Option Addr}{m d:Nat}{X Y:List Int}{K:Option Addr->Nat->Nat->J->Prop}(hw:Fo w uP)(aa:bk b' H a n c X)(av:bk b' H b m d Y)
  (hlen:n+m<=1000000000) (hk:∀aK aQ aT H',Own b' 3 H.size H' aK aQ aT (fs w X Y)->Fr [] H H'->K aK aQ aT H'):
  aY atf XB ⟨[.slice a n c,.slice b m d,uP]⟩ H λv H'=>∃a n c,v=.slice a n c/\K a n c H':=by
 apply XC
 refine⟨λvs H'=>match vs with
   |[.slice a n c,.slice b m d,.slice o p q]=>∃xs ys os,bk b' H a n c xs/\bk b' H b m d ys/\Own b' 3 H.size H' o p q os/\os++fs w xs ys=fs w X Y/\p+n+m<=1000000000/\Fr [] H H'
   |_=>False,
  λvs _=>match vs with|[.slice _ n _,.slice _ m _,_]=>n+m|_=>0,⟨X,Y,[],aa,av,Own.nil _ _ _ _,rfl,by omega,Fr.refl _ _⟩,?_⟩
 rintro bm a n c b m d o p q ao ⟨xs,ys,os,aa,av,an,he,dC,af⟩
 have ay:=aa.len
 have hm:=av.len
 have bh:=an.1
 have XD:=aa.cap
 have apY:=av.cap
 have step:∀(r:Bool) (z:Int) {aK fO:Option Addr} {aQ aT m' d':Nat} {n2 oR:List Int},bk b' H aK aQ aT n2->bk b' H fO m' d' oR->aQ+m'<n+m->os++pG r z (fs w n2 oR)=fs w X Y→
   aJ r (∀(b1:Nat) (bw:J),ds ao b1 (.cells ⟨[.int .i64 z]⟩ 3) bw->cj atf (Builtin.append_ ⟨[132,132]⟩ 132 ⟨[.slice o p q,.slice (some ⟨b1,0,none⟩) 1 1]⟩) bw λv bY=>∃qv n5 c3,v=.slice qv n5 c3∧
     (∃xs ys os,bk b' H aK aQ aT xs/\bk b' H fO m' d' ys/\Own b' 3 H.size bY qv n5 c3 os/\os++fs w xs ys=fs w X Y/\n5+aQ+m'<=1000000000/\Fr [] H bY)/\aQ+m'<n+m)
    ((∃xs ys os,bk b' H aK aQ aT xs/\bk b' H fO m' d' ys/\Own b' 3 H.size ao o p q os/\os++fs w xs ys=fs w X Y/\p+aQ+m'<=1000000000/\Fr [] H ao)/\aQ+m'<n+m):=by
  intro r z aK fO aQ aT m' d' n2 oR h1 ae cF h7
  refine ai (λaA=> ?_) (λaA=> ?_)
  ·subst aA
   exact k3 (E:=b') z E8 wu an af rfl (by omega) λ_ jk jh dm bY ca cB _=>⟨⟨n2,oR,_,h1,ae,ca,by rw [<-h7];simp [pG],by have:=ca.1;simp at this;omega,cB⟩,cF⟩
  ·subst aA
   exact⟨⟨n2,oR,os,h1,ae,an,by simpa [pG]using h7,by omega,af⟩,cF⟩
 have tail:∀{a:Option Addr} {n c:Nat} {x:Int} {l:List Int},bk b' H a n c (x::l)->bk b' H (dh c 1 1 a) ((n:Int).toNat-1) (c-1) l:=λ{a n c x l} h=>by
  have ae:=h.drop (k:=1) (by have:=h.len;simp at this;omega)
  rwa [asD]
 cases xs with
 |nil=>
  have ns:n=0:=ay
  subst ns
  cases ys with
  |nil=>
   have jl:m=0:=hm
   subst jl
   rw [fs,as0]at he
   rw [he]at an
   refine⟨λ_ _=>False,ai (λh=>by simp at h) (λ_=>ai (λh=>by simp at h) (λ_=>⟨_,_,_,rfl,hk _ _ _ _ an af⟩)),λ_ _ h=>h.elim⟩
  |cons y ys=>
   have iE:m=ys.length+1:=by simpa using hm
   refine⟨λ_ H'=>H'=ao,ai (λh=>by simp at h) (λ_=>ai (λ_=>rfl) (λh=>by simp at h;omega)),?_⟩
   rintro bm aF rfl
   refine⟨λvs H'=>vs=[.bool false]/\H'=aF,ai (λh=>by simp at h;omega) (λ_=>ai (λh=>by simp at h) (λ_=>⟨rfl,rfl⟩)),?_⟩
   rintro bm b1 aN ⟨cI,rfl⟩
   simp only [List.cons.injEq,Value.bool.injEq,and_true]at cI
   subst cI
   refine⟨λvs H'=>vs=[.bool true]/\H'=aN,ai (λ_=>⟨rfl,rfl⟩) (λh=>by simp at h),?_⟩
   rintro bm b2 bw ⟨b8,rfl⟩
   simp only [List.cons.injEq,Value.bool.injEq,and_true]at b8
   subst b8
   refine(av.ab af).head (decide_eq_true (by omega)) λal bS ak=>⟨_,q4 ak,gC ⟨by omega,by omega,by omega⟩ (hw _ _ _ _ ?_)⟩
   rw [fs]at he
   exact step _ y aa (tail av) (by omega) he
 |cons x xs=>
  have aB:n=xs.length+1:=by simpa using ay
  cases ys with
  |nil=>
   have jl:m=0:=hm
   subst jl
   refine⟨λ_ H'=>H'=ao,ai (λ_=>rfl) (λh=>by simp at h;omega),?_⟩
   rintro bm aF rfl
   refine⟨λvs H'=>vs=[.bool true]/\H'=aF,ai (λ_=>⟨rfl,rfl⟩) (λh=>by simp at h),?_⟩
   rintro bm b1 aN ⟨cI,rfl⟩
   simp only [List.cons.injEq,Value.bool.injEq,and_true]at cI
   subst cI
   refine⟨λvs H'=>vs=[.bool false]/\H'=aN,ai (λh=>by simp at h;omega) (λ_=>ai (λh=>by simp at h) (λ_=>⟨rfl,rfl⟩)),?_⟩
   rintro bm b2 bw ⟨b8,rfl⟩
   simp only [List.cons.injEq,Value.bool.injEq,and_true]at b8
   subst b8
   refine(aa.ab af).head (decide_eq_true (by omega)) λal bS ak=>⟨_,q4 ak,gC ⟨by omega,by omega,by omega⟩ (hw _ _ _ _ ?_)⟩
   rw [fs]at he
   exact step _ x (tail aa) av (by omega) he
  |cons y ys=>
   have iE:m=ys.length+1:=by simpa using hm
   refine⟨λ_ H'=>H'=ao,ai (λ_=>rfl) (λh=>by simp at h;omega),?_⟩
   rintro bm aF rfl
   refine⟨λvs H'=>vs=[.bool (decide (x<=y))]/\H'=aF,ai (λh=>by simp at h;omega) (λ_=>ai (λ_=> ?_) (λh=>by simp at h;omega)),?_⟩
   ·exact(aa.ab af).head (decide_eq_true (by omega)) λal bS ak=>⟨_,q4 ak,(av.ab af).head (decide_eq_true (by omega)) λbd kE aO=>⟨_,q4 aO,rfl,rfl⟩⟩
   rintro bm b1 aN ⟨cI,rfl⟩
   simp only [List.cons.injEq,Value.bool.injEq,and_true]at cI
   subst cI
   refine⟨λvs H'=>vs=[.bool (decide (y<=x))]/\H'=aN,ai (λh=>by simp at h;omega) (λ_=>ai (λ_=> ?_) (λh=>by simp at h;omega)),?_⟩
   ·exact(av.ab af).head (decide_eq_true (by omega)) λal bS ak=>⟨_,q4 ak,(aa.ab af).head (decide_eq_true (by omega)) λbd kE aO=>⟨_,q4 aO,rfl,rfl⟩⟩
   rintro bm b2 bw ⟨b8,rfl⟩
   simp only [List.cons.injEq,Value.bool.injEq,and_true]at b8
   subst b8
   rw [fs]at he
   rcases Int.lt_trichotomy x y with h|h|h
   ·rw [if_pos h]at he
    rw [decide_eq_true (show x<=y by omega),decide_eq_false (show¬y<=x by omega)]
    refine(aa.ab af).head (decide_eq_true (by omega)) λal bS ak=>⟨_,q4 ak,gC ⟨by omega,by omega,by omega⟩ (hw _ _ _ _ ?_)⟩
    exact step _ x (tail aa) av (by omega) he
   ·rw [if_neg (by omega),if_neg (by omega)]at he
    rw [decide_eq_true (show x<=y by omega),decide_eq_true (show y<=x by omega)]
    refine(aa.ab af).head (decide_eq_true (by omega)) λal bS ak=>⟨_,q4 ak,gC ⟨by omega,by omega,by omega⟩ ?_⟩
    refine(av.ab af).head (decide_eq_true (by omega)) λal bS ak=>⟨_,q4 ak,gC ⟨by omega,by omega,by omega⟩ (hw _ _ _ _ ?_)⟩
    exact step _ y (tail aa) (tail av) (by omega) he
   ·rw [if_neg (by omega),if_pos h]at he
    rw [decide_eq_false (show¬x<=y by omega),decide_eq_true (show y<=x by omega)]
    refine(av.ab af).head (decide_eq_true (by omega)) λal bS ak=>⟨_,q4 ak,gC ⟨by omega,by omega,by omega⟩ (hw _ _ _ _ ?_)⟩
    exact step _ y aa (tail av) (by omega) he
theorem XE{b:Option Addr}{m d:Nat}{X Y:List Int}{K:Option Addr->Nat->Nat->J->Prop}(aa:bk b' H a n c X)(av:bk b' H b m d Y)
  (hlen:n+m<=1000000000) (hk:∀aK aQ aT H',Own b' 3 H.size H' aK aQ aT (fs zD X Y)->Fr [] H H'->K aK aQ aT H'):
  aY atf XF ⟨[.slice a n c,.slice b m d]⟩ H λv H'=>∃a n c,v=.slice a n c/\K a n c H':=by
 apply XG
 exact BU Xv aa av hlen λaK aQ aT H' h1 ae=>⟨_,_,_,rfl,hk _ _ _ _ h1 ae⟩
theorem Fp{b:Option Addr}{m d:Nat}{X Y:List Int}{K:Option Addr->Nat->Nat->J->Prop}(aa:bk b' H a n c X)(av:bk b' H b m d Y)
  (hlen:n+m<=1000000000) (hk:∀aK aQ aT H',Own b' 3 H.size H' aK aQ aT (fs zE X Y)->Fr [] H H'->K aK aQ aT H'):
  aY atf XH ⟨[.slice a n c,.slice b m d]⟩ H λv H'=>∃a n c,v=.slice a n c/\K a n c H':=by
 apply XI
 exact BU Xx aa av hlen λaK aQ aT H' h1 ae=>⟨_,_,_,rfl,hk _ _ _ _ h1 ae⟩
theorem XJ{b:Option Addr}{m d:Nat}{X Y:List Int}{K:Option Addr->Nat->Nat->J->Prop}(aa:bk b' H a n c X)(av:bk b' H b m d Y)
  (hlen:n+m<=1000000000) (hk:∀aK aQ aT H',Own b' 3 H.size H' aK aQ aT (fs x3 X Y)->Fr [] H H'->K aK aQ aT H'):
  aY atf XK ⟨[.slice a n c,.slice b m d]⟩ H λv H'=>∃a n c,v=.slice a n c/\K a n c H':=by
 apply XL
 exact BU Xz aa av hlen λaK aQ aT H' h1 ae=>⟨_,_,_,rfl,hk _ _ _ _ h1 ae⟩
theorem XM{l:List Int}{K:Option Addr->Nat->Nat->J->Prop}(aa:bk b' H a n c l)(ay:n<=1000000000)
  (hk:∀aK aQ aT H',Own b' 3 H.size H' aK aQ aT l->Fr [] H H'->K aK aQ aT H'):
  aY atf XN ⟨[.slice a n c]⟩ H λv H'=>∃a n c,v=.slice a n c/\K a n c H':=by
 apply XO
 refine ai (λh=> ?_) (λh=> ?_)
 ·have:a=none:=by simpa using h
  subst this
  have aH:l=[]:=by
   rcases aa.arr with h|⟨b,off,e,_⟩
   ·exact h
   ·cases e
  subst aH
  exact⟨_,_,_,rfl,hk none 0 0 H (Own.nil _ _ _ _) (Fr.refl _ _)⟩
 ·intro b H1 h1
  have kG:Own b' 3 H.size H1 (some ⟨b,0,none⟩) 0 0 []:=Own.made b' 3 h1 (nQ _)
  exact pD (E:=b') E8 wu kG h1.ag (aa.ab h1.ag) (by omega) λaK aQ aT ao ae bt _=>⟨_,_,_,rfl,hk _ _ _ _ (by simpa using ae) bt⟩
structure wC(H:J)(hs:List dH)(jW:List (List Int)):Prop where
 len:hs.length=jW.length
 at':∀(i:Nat) (h:dH) (l:List Int),hs[i]?=some h->jW[i]?=some l->bk b' H h.1 h.2.1 h.2.2 l
 Fq:∀l∈jW,h9 l
theorem wC.ab{hs:List dH}{jW:List (List Int)}(h:wC H hs jW)(af:Fr [] H H'):wC H' hs jW:=⟨h.len,λi x l aa aH=>(h.at' i x l aa aH).ab af,h.Fq⟩
theorem XP{x:dH}(h:eP H al (nY.cells x)):cR atf 132 H al (.slice x.1 x.2.1 x.2.2):=iq (by kernel_rfl) h
theorem XQ:∀(N:Nat) {H:J} {a:Option Addr} {n c:Nat} {hs:List dH} {jW:List (List Int)} {K:Option Addr->Nat->Nat->J->Prop},n<=N->bk nY H a n c hs->wC H hs jW->n<=100000->jW.flatten.length<=100000000→
  (∀aK aQ aT H' os,Own b' 3 H.size H' aK aQ aT os->hf os (λz=>∃l∈jW,z∈l)->aQ<=jW.flatten.length->Fr [] H H'->K aK aQ aT H')→
  aY atf XR ⟨[.slice a n c]⟩ H λv H'=>∃a n c,v=.slice a n c/\K a n c H':=by
 intro N
 induction N with
 |zero=>
  intro H a n c hs jW K e1 aa aH cp q5 hk
  apply Ot
  have ns:n=0:=by omega
  subst ns
  have gU:jW=[]:=asF (by rw [<-aH.len,<-aa.len])
  subst gU
  exact ai (λ_=>⟨_,_,_,rfl,hk none 0 0 H [] (Own.nil _ _ _ _) ⟨h9.nil,λz=>by simp⟩ (by simp) (Fr.refl _ _)⟩) (λh=>by simp at h)
 |succ N ih=>
  intro H a n c hs jW K e1 aa aH cp q5 hk
  apply Ot
  have hlen:=aa.len
  have x4:=aa.cap
  have Ou:jW.length=n:=by rw [<-aH.len,<-aa.len]
  refine ai (λh=> ?_) (λh=>ai (λh1=> ?_) (λh1=> ?_))
  ·have ns:n=0:=by
    have h:(n:Int)=0:=by simpa using h
    omega
   have gU:jW=[]:=asF (by omega)
   subst gU
   exact⟨_,_,_,rfl,hk none 0 0 H [] (Own.nil _ _ _ _) ⟨h9.nil,λz=>by simp⟩ (by simp) (Fr.refl _ _)⟩
  ·have aB:n=1:=by
    have h1:(n:Int)=1:=by simpa using h1
    omega
   subst aB
   obtain⟨aO,rfl⟩:=Ov hlen.symm
   obtain⟨l,rfl⟩:=Ov Ou
   have e6:=aH.at' 0 aO l rfl rfl
   refine aa.head (decide_eq_true (by omega)) λal bS ak=>⟨_,_,_,XP ak,?_⟩
   simp at q5
   exact XM e6 (by have:=e6.len;omega) λaK aQ aT H' h1 ae=>⟨_,_,_,rfl,hk aK aQ aT H' l h1 ⟨aH.Fq l (by simp),λz=>by simp⟩ (by simp [h1.1]) ae⟩
  ·have bH:2<=n:=by
    have h:(n:Int)≠0:=by simpa using h
    have h1:(n:Int)≠1:=by simpa using h1
    omega
   have XS:IntKind.i64.wrap (Int.tdiv (n:Int) 2)=((n/2:Nat):Int):=by
    have:Int.tdiv (n:Int) 2=((n/2:Nat):Int):=by rw [Int.tdiv_eq_ediv_of_nonneg (by omega)];omega
    rw [this,dv (by omega) (by omega)]
   rw [XS]
   refine gC ⟨by omega,by omega,by omega⟩ (gC ⟨by omega,by omega,by omega⟩ ?_)
   rw [asD,asD,Nat.sub_zero,Nat.sub_zero]
   have h1:bk nY H a (n/2) c (hs.take (n/2)):=aa.take (by omega)
   have ae:bk nY H (dh c (n/2) 1 a) (n-n/2) (c-n/2) (hs.drop (n/2)):=aa.drop (by omega)
   have fy:wC H (hs.take (n/2)) (jW.take (n/2)):=⟨by simp [aH.len],(λi x l aa iS=>by
    rw [Ep]at aa iS
    split at aa
    ·exact aH.at' i x l aa (by rwa [if_pos ‹_›]at iS)
    ·cases aa),λl h=>aH.Fq l (auL h)⟩
   have hv:wC H (hs.drop (n/2)) (jW.drop (n/2)):=⟨by simp [aH.len],(λi x l aa iS=>by
    rw [VG]at aa iS
    exact aH.at' _ x l aa iS),λl h=>aH.Fq l (List.mem_of_mem_drop h)⟩
   have Fs:(jW.take (n/2)).flatten.length+(jW.drop (n/2)).flatten.length=jW.flatten.length:=by
    rw [<-VH,<-List.flatten_append,auP]
   refine ih (by omega) h1 fy (by omega) (by omega) λcM cW c1 H1 IG fw e6 aB b9=> ?_
   refine ih (by omega) (ae.ab b9) (hv.ab b9) (by omega) (by omega) λa2 cr c2 ao jk de gZ hn2' bt=> ?_
   have XT:=fw.ab bt
   refine Fp XT.bL de.bL (by omega) λa3 fG c3 aF eN bG=>⟨_,_,_,rfl,hk a3 fG c3 aF _ (eN.base (VF b9.size bt.size)) ((e6.or gZ).iff λz=> ?_) ?_ ((b9.aw bt).aw bG)⟩
   ·have hm:∀l,l∈jW↔l∈jW.take (n/2)\/l∈jW.drop (n/2):=λl=>by rw [<-asU,auP]
    refine⟨λh=>h.elim (fun⟨l,h,aC⟩=>⟨l,(hm l).2 (.inl h),aC⟩) (fun⟨l,h,aC⟩=>⟨l,(hm l).2 (.inr h),aC⟩),fun⟨l,h,aC⟩=> ?_⟩
    rcases(hm l).1 h with h|h
    ·exact .inl ⟨l,h,aC⟩
    ·exact .inr ⟨l,h,aC⟩
   ·have:=wD (w:=zE) IG jk
    have:=eN.1
    have:=fw.1
    have:=de.1
    omega
theorem Xu{s p:ByteArray}{K:Bool->J->Prop}(hk:K (decide (p.size<=s.size/\(bj s).take p.size=bj p)) H):
  aY atf 336 ⟨[.string s,.string p]⟩ H λv H'=>∃b,v=.bool b/\K b H':=by
 refine Oo Tryz.Oq rfl ?_
 have e:Lib.hasPrefix s.data.toList p.data.toList=decide (p.size<=s.size/\(bj s).take p.size=bj p):=by
  have h1:s.data.toList=bj s:=rfl
  have ae:p.data.toList=bj p:=rfl
  have fy:=c6 s
  have hv:=c6 p
  unfold Lib.hasPrefix
  rw [h1,ae,Bool.eq_iff_iff,List.isPrefixOf_iff_prefix,List.prefix_iff_eq_take,hv,decide_eq_true_eq]
  constructor
  ·intro h
   refine⟨?_,h.symm⟩
   have:=congrArg List.length h
   rw [apH]at this
   omega
  ·exact λh=>h.2.symm
 rw [e];exact hk
theorem IH{x:ByteArray}(h:eP H al (dT.cells x)):cR atf 9 H al (.string x):=iq (by kernel_rfl) h
theorem XU{l:bX}{bP:ByteArray}{k:Nat}{x:gT}(aa:l[k]?=some x)(cz:∀y∈l.take k,y.1≠bP)(he:x.1=bP):n3 l bP=x.2:=by
 have e:l.find? (λx=>decide (x.1=bP))=some x:=by
  have hk:=(qb.1 aa).1
  have ae:l=l.take k++x::l.drop (k+1):=by
   have au:=avj hk
   have a6:l[k]=x:=by have:=(qb.1 aa).2;exact this
   rw [a6]at au
   rw [<-au,auP]
  rw [ae,List.find?_append]
  have bu:(l.take k).find? (λx=>decide (x.1=bP))=none:=avs.2 λy av=>by simp [cz y av]
  rw [bu]
  simp [he]
 unfold n3
 rw [e]
theorem XV{l:bX}{bP:ByteArray}(cz:∀y∈l,y.1≠bP):n3 l bP=⟨#[]⟩:=II λv aI=>cz _ aI rfl
theorem XW{l:bX}{bP:ByteArray}{K:ByteArray->J->Prop}(aa:bk gb H a n c l)(ay:n<=1000000000)(hk:∀H',Fr [] H H'->K (n3 l bP) H'):
  aY atf XX ⟨[.slice a n c,.string bP]⟩ H λv H'=>∃s,v=.string s/\K s H':=by
 apply XY
 have gE:=aa.len
 refine⟨λvs H'=>match vs with|[.int _ i]=>∃k:Nat,i=k/\k<=n/\(∀y∈l.take k,y.1≠bP)/\Fr [] H H'|_=>False,
  λvs _=>match vs with|[.int _ i]=>n-i.toNat|_=>0,⟨0,rfl,by omega,by simp,Fr.refl _ _⟩,?_⟩
 rintro bm i H1 ⟨k,rfl,hle,dG,af⟩
 refine ai (λaD=> ?_) (λaD=>⟨_,rfl,?_⟩)
 ·have bT:k<n:=by simpa using aD
  have b0:l[k]?=some (l[k]'(by omega)):=by simp
  generalize l[k]'(by omega)=x at b0
  refine(aa.ab af).get rfl b0 (decide_eq_true (by omega)) λal bS ak=>⟨_,_,BA ak,?_⟩
  refine BB rfl λb ao ah aI bt=>⟨_,aI.hJ,?_⟩
  have k4:=af.aw bt
  rw [q6]
  refine ai (λh=>⟨_,aI.s1,_,rfl,?_⟩) (λh=> ?_)
  ·have:=hk ao k4
   rwa [XU b0 dG (of_decide_eq_true h)]at this
  ·rw [b6 (by omega)]
   refine⟨⟨k+1,rfl,by omega,λy av=> ?_,k4⟩,cJ bT⟩
   rw [ats,b0]at av
   rcases asU.1 av with h1|h1
   ·exact dG y h1
   ·simp at h1;subst h1;exact of_decide_eq_false h
 ·have du:l.take k=l:=asG (by simp at aD;omega)
  rw [du]at dG
  have:=hk H1 af
  rwa [XV dG]at this
open Classical in
theorem XZ{S:List ByteArray}{s:ByteArray}{K:Bool->J->Prop}(aa:bk dT H a n c S)(ay:n<=1000000000)(hk:K (decide (s∈S)) H):
  aY atf X0 ⟨[.slice a n c,.string s]⟩ H λv H'=>∃b,v=.bool b/\K b H':=by
 apply X1
 apply X2
 have gE:=aa.len
 refine⟨λvs H'=>match vs with|[.int _ i]=>∃k:Nat,i=k/\k<=n/\(∀y∈S.take k,s≠y)/\H'=H|_=>False,
  λvs _=>match vs with|[.int _ i]=>n-i.toNat|_=>0,⟨0,rfl,by omega,by simp,rfl⟩,?_⟩
 rintro bm i H1 ⟨k,rfl,hle,dG,rfl⟩
 refine ai (λaD=> ?_) (λaD=>⟨_,rfl,_,rfl,?_⟩)
 ·have bT:k<n:=by simpa using aD
  have b0:S[k]?=some (S[k]'(by omega)):=by simp
  generalize S[k]'(by omega)=x at b0
  refine aa.get rfl b0 (decide_eq_true (by omega)) λal bS ak=>⟨_,IH ak,?_⟩
  rw [q6]
  refine ai (λh=>⟨_,rfl,_,rfl,?_⟩) (λh=> ?_)
  ·have:s∈S:=by rw [of_decide_eq_true h];exact att b0
   rw [decide_eq_true this]at hk
   rwa [decide_eq_true (show((k:Int)>=0) by omega)]
  ·rw [b6 (by omega)]
   refine⟨⟨k+1,rfl,by omega,λy av=> ?_,rfl⟩,cJ bT⟩
   rw [ats,b0]at av
   rcases asU.1 av with h1|h1
   ·exact dG y h1
   ·simp at h1;subst h1;exact of_decide_eq_false h
 ·have du:S.take k=S:=asG (by simp at aD;omega)
  rw [du]at dG
  have:¬s∈S:=λh=>dG s h rfl
  rwa [decide_eq_false this]at hk
abbrev eu:=Int×ByteArray×ByteArray×dH
def hg:dd eu:=⟨λx=>[.int .i64 x.1,.string x.2.1,.string x.2.2.1,.slice x.2.2.2.1 x.2.2.2.2.1 x.2.2.2.2.2],4,λ_=>rfl,by decide,λ_ v h=>by simp at h;rcases h with rfl|rfl|rfl|rfl<;>rfl⟩
abbrev jF(x:eu):Value:=.agg ⟨[.int .i64 x.1,.string x.2.1,.string x.2.2.1,.slice x.2.2.2.1 x.2.2.2.2.1 x.2.2.2.2.2]⟩
theorem Ft{x:eu}(h:eP H al (hg.cells x)):cR atf 116 H al (jF x):=r' (by kernel_rfl) (by kernel_rfl) h
structure l9(H:J)(x:eu)(m:fg):Prop where
 kind:m.1=x.1
 name:m.2.1=x.2.1
 val:m.2.2.1=x.2.2.1
 set:bk dT H x.2.2.2.1 x.2.2.2.2.1 x.2.2.2.2.2 m.2.2.2
 len:x.2.2.2.2.1<=1000000000
theorem l9.ab{x:eu}{m:fg}(h:l9 H x m)(af:Fr [] H H'):l9 H' x m:={h with set:=h.set.ab af}
def eW(H:J)(b:Nat)(x:eu):Prop:=aU H ⟨b,0,none⟩ (hg.cells x)
theorem eW.ab{x:eu}(h:eW H b x)(af:Fr [] H H'):eW H' b x:=aU.ab h af
theorem eW.c7{x:eu}(h:eW H b x):cR atf 3 H ⟨b,0,none⟩ (.int .i64 x.1):=aU.b5 (by kernel_rfl) h rfl
theorem eW.fy{x:eu}(h:eW H b x):cR atf 9 H ⟨b,1,none⟩ (.string x.2.1):=aU.bV (j:=1) (by kernel_rfl) h rfl
theorem eW.hv{x:eu}(h:eW H b x):cR atf 9 H ⟨b,2,none⟩ (.string x.2.2.1):=aU.bV (j:=2) (by kernel_rfl) h rfl
theorem eW.n4{x:eu}(h:eW H b x):cR atf 114 H ⟨b,3,none⟩ (.slice x.2.2.2.1 x.2.2.2.2.1 x.2.2.2.2.2):=aU.bV (j:=3) (by kernel_rfl) h rfl
theorem eW.nt{x:eu}(h:eW H b x):cR atf 116 H ⟨b,0,none⟩ (jF x):=aU.dX (by kernel_rfl) (by kernel_rfl) h rfl
abbrev X3:Value:=.agg ⟨[.string ⟨#[61]⟩,.func (.func 333) ⟨[]⟩ ⟨[]⟩,.string ⟨#[33,61]⟩,.func (.func 334) ⟨[]⟩ ⟨[]⟩,.string ⟨#[94,61]⟩,.func (.func 335) ⟨[]⟩ ⟨[]⟩,.string ⟨#[64,61]⟩,.func (.func 337) ⟨[]⟩ ⟨[]⟩]⟩
theorem IJ{R:Value->J->Prop}(hk:∀H',Fr [] H H'->R X3 H'):aY atf X4 ⟨[]⟩ H R:=by
 apply X5
 refine ia (by kernel_rfl) (by kernel_rfl) (λv h=>by simp [atq]at h;rcases h with rfl|rfl|rfl|rfl|rfl|rfl|rfl|rfl<;>rfl) rfl λb H' ah aI af=> ?_
 exact⟨_,_,_,_,_,_,_,_,aI.dX (by kernel_rfl) (by kernel_rfl) rfl,hk H' af⟩
theorem X6{m:fg}{v:ByteArray}(h:m.1=0):gD m v=decide (v=m.2.2.1):=by unfold gD;rw [if_pos h]
theorem X7{m:fg}{v:ByteArray}(h:m.1=1):gD m v= !decide (v=m.2.2.1):=by unfold gD;rw [if_neg (by omega),if_pos h]
theorem X8{m:fg}{v:ByteArray}(h:m.1=2):gD m v=decide (m.2.2.1.size<=v.size/\(bj v).take m.2.2.1.size=bj m.2.2.1):=by unfold gD;rw [if_neg (by omega),if_neg (by omega),if_pos h]
open Classical in
theorem X9{m:fg}{v:ByteArray}(h:m.1=3):gD m v=decide (v∈m.2.2.2):=by unfold gD;rw [if_neg (by omega),if_neg (by omega),if_neg (by omega),if_pos h]
theorem Ya{m:fg}{v:ByteArray}(h:m.1<0\/3<m.1):gD m v=false:=by unfold gD;rw [if_neg (by omega),if_neg (by omega),if_neg (by omega),if_neg (by omega)]
theorem Yb{x:eu}{m:fg}{l:bX}{K:Bool->J->Prop}(hm:l9 H x m)(aH:bk gb H a n c l)(ay:n<=1000000000)
  (hk:∀H',Fr [] H H'->K (gD m (n3 l m.2.1)) H'):
  aY atf Yc ⟨[jF x,.slice a n c]⟩ H λv H'=>∃b,v=.bool b/\K b H':=by
 apply Yd
 intro b H1 aB
 have ah:eW H1 b x:=aB.bo
 have no:¬(0<=x.1/\x.1<=3)->∃b,atp false=.bool b/\K b H1:=λh=>⟨_,rfl,by
  have:=hk H1 aB.ag
  rwa [Ya (by rw [hm.kind];omega)]at this⟩
 refine⟨λ_ H'=>H'=H1/\0<=x.1/\x.1<=3,?_,?_⟩
 ·refine⟨_,ah.c7,ai (λh=>no ?_) (λh=>⟨_,ah.c7,ai (λae=>no ?_) (λae=>⟨rfl,?_,?_⟩)⟩)⟩
  ·simp at h;omega
  ·simp at ae;omega
  ·simp at h;omega
  ·simp at ae;omega
 rintro bm ao ⟨rfl,g0,g3⟩
 refine⟨_,ah.c7,_,_,_,_,_,_,ah.nt,_,ah.fy,IJ λaF bG=>⟨_,_,_,_,_,_,_,_,rfl,?_⟩⟩
 have dQ:=ah.ab bG
 refine⟨dQ.fy,dQ.nt,dQ.c7,gC ⟨by omega,by omega⟩ ?_⟩
 have nu:=aB.ag.aw bG
 have go:∀(v:Value) (jX:ByteArray),iB atf 375 [.string ⟨#[61]⟩,.func (.func 333) ⟨[]⟩ ⟨[]⟩,.string ⟨#[33,61]⟩,.func (.func 334) ⟨[]⟩ ⟨[]⟩,.string ⟨#[94,61]⟩,.func (.func 335) ⟨[]⟩ ⟨[]⟩,.string ⟨#[64,61]⟩,.func (.func 337) ⟨[]⟩ ⟨[]⟩] (x.1.toNat *2) (.agg ⟨[.string jX,v]⟩)→
   (∀(s:ByteArray) (H':J) (b3:Bool->J->Prop),Fr [] H H'->(∀cG,Fr [] H' cG->b3 (gD m s) cG)->dO atf v [jF x,.string s] H' λv H'=>∃b,v=.bool b/\b3 b H')→
   ∃Ye v,iB atf 375 [.string ⟨#[61]⟩,.func (.func 333) ⟨[]⟩ ⟨[]⟩,.string ⟨#[33,61]⟩,.func (.func 334) ⟨[]⟩ ⟨[]⟩,.string ⟨#[94,61]⟩,.func (.func 335) ⟨[]⟩ ⟨[]⟩,.string ⟨#[64,61]⟩,.func (.func 337) ⟨[]⟩ ⟨[]⟩] (x.1.toNat *2) (.agg ⟨[.string Ye,v]⟩)∧
    aY atf 343 ⟨[.slice a n c,.string x.2.1]⟩ aF λx5 H'=>∃Ow,x5=.string Ow/\cR atf 116 H' ⟨b,0,none⟩ (jF x)/\cR atf 3 H' ⟨b,0,none⟩ (.int .i64 x.1)/\dO atf v [jF x,.string Ow] H' λv H'=>∃b,v=.bool b/\∃ir,atp b=.bool ir/\K ir H':=by
  intro v jX bh aI
  refine⟨jX,v,bh,?_⟩
  refine XW (aH.ab nu) ay λaN bU=> ?_
  have dY:=dQ.ab bU
  refine⟨dY.nt,dY.c7,aI _ aN _ (nu.aw bU) λbw bW=>⟨_,rfl,?_⟩⟩
  have:=hk bw ((nu.aw bU).aw bW)
  rwa [hm.name]at this
 have Yf:x.1=0\/x.1=1\/x.1=2\/x.1=3:=by omega
 rcases Yf with h|h|h|h
 ·refine go (.func (.func 333) ⟨[]⟩ ⟨[]⟩) ⟨#[61]⟩ (by rw [h];unfold iB;kernel_rfl) λs H' b3 af cP=>⟨333,⟨[]⟩,⟨[]⟩,rfl,by kernel_rfl,?_⟩
  apply Yg
  intro b1 aN cp
  have dY:eW aN b1 x:=cp.bo
  refine⟨_,dY.hv,_,rfl,?_⟩
  have:=cP aN cp.ag
  rwa [X6 (by rw [hm.kind];exact h),hm.val,<-q6]at this
 ·refine go (.func (.func 334) ⟨[]⟩ ⟨[]⟩) ⟨#[33,61]⟩ (by rw [h];unfold iB;kernel_rfl) λs H' b3 af cP=>⟨334,⟨[]⟩,⟨[]⟩,rfl,by kernel_rfl,?_⟩
  apply Yh
  intro b1 aN cp
  have dY:eW aN b1 x:=cp.bo
  refine⟨_,dY.hv,_,rfl,?_⟩
  have:=cP aN cp.ag
  rwa [X7 (by rw [hm.kind];exact h),hm.val,<-q6]at this
 ·refine go (.func (.func 335) ⟨[]⟩ ⟨[]⟩) ⟨#[94,61]⟩ (by rw [h];unfold iB;kernel_rfl) λs H' b3 af cP=>⟨335,⟨[]⟩,⟨[]⟩,rfl,by kernel_rfl,?_⟩
  apply Yi
  intro b1 aN cp
  have dY:eW aN b1 x:=cp.bo
  refine⟨_,dY.hv,Xu ⟨_,rfl,?_⟩⟩
  have:=cP aN cp.ag
  rwa [X8 (by rw [hm.kind];exact h),hm.val]at this
 ·refine go (.func (.func 337) ⟨[]⟩ ⟨[]⟩) ⟨#[64,61]⟩ (by rw [h];unfold iB;kernel_rfl) λs H' b3 af cP=>⟨337,⟨[]⟩,⟨[]⟩,rfl,by kernel_rfl,?_⟩
  apply Yj
  intro b1 aN cp
  have dY:eW aN b1 x:=cp.bo
  refine⟨_,_,_,dY.n4,XZ ((hm.ab af).ab cp.ag).set hm.len ⟨_,rfl,?_⟩⟩
  have:=cP aN cp.ag
  rwa [X9 (by rw [hm.kind];exact h)]at this
theorem Yk{P:Program}{mt jm e:TypeId}{K:Option Addr->J->Prop}(hm:P.underlying mt=some (.map jm e))
  (hk:∀b H',ds H b (.mapIter none 0 #[] 0) H'->K (some ⟨b,0,none⟩) H'):cj P (Instr.range mt (.map none)) H λv H'=>∃a,v=.pointer a/\K a H':=by
 intro E d
 refine⟨_,H.push (.mapIter none 0 #[] 0),d,?_,_,rfl,hk H.size _ ⟨rfl,rfl⟩⟩
 simp [Instr.range,eE hm]
 exact⟨rfl,rfl⟩
theorem Yl{P:Program}{it:Nat}{ty:TypeId}{X:Value->J->Prop}(az:H[it]?=some (.mapIter none 0 #[] 0))(hk:X (.tuple ⟨[.bool false]⟩) H):
  cj P (Instr.next (.pointer (some ⟨it,0,none⟩)) false ty) H X:=by
 intro E d
 have aA:(a8 E H d).heap[it]?=some (.mapIter none 0 #[] 0):=az
 refine⟨_,H,d,?_,hk⟩
 simp [Instr.next,getObj,Sem.run,aA]
theorem Fu{α:Type}[DecidableEq α]:∀{l m:List α},l.Nodup->(∀x∈l,x∈m)->l.length<=m.length
 |[],_,_,_=>apG _
 |a::l,m,ay,h=>by
  have uF:=List.nodup_cons.1 ay
  have bQ:=h a (by simp)
  have ae:=Fu (l:=l) (m:=m.erase a) uF.2 λx aa=>by
   rw [List.mem_erase_of_ne (λe=>uF.1 (by rw [<-e];exact aa))]
   exact h x (by simp [aa])
  rw [List.length_erase_of_mem bQ]at ae
  have:=List.length_pos_of_mem bQ
  simp only [asE]
  omega
theorem Ym(L:List bX)(bP v:ByteArray):(jD L bP v).length<=L.length:=by
 unfold jD
 rw [atw]
 exact VF (avd _ _) (by simp)
def IK(H0:J)(W:ByteArray->Bool)(uP:Value):Prop:=∀(s:ByteArray) (H:J) (K:Bool->J->Prop),Fr [] H0 H->(∀H',Fr [] H H'->K (W s) H')->dO atf uP [.string s] H λv H'=>∃r,v=.bool r/\K r H'
theorem Yn(H:J):IK H (λ_=>true) (.func (.func 266) ⟨[]⟩ ⟨[]⟩):=λs H K af hk=>⟨266,⟨[]⟩,⟨[]⟩,rfl,by kernel_rfl,by
 apply Yo
 exact⟨_,rfl,hk H (Fr.refl _ _)⟩⟩
theorem Ox{H0:J}{x:eu}{m:fg}(hm:l9 H0 x m)(ah:eW H0 b x):IK H0 (gD m) (.func (.func 261) ⟨[]⟩ ⟨[.pointer (some ⟨b,0,none⟩)]⟩):=λs H K af hk=>⟨261,⟨[]⟩,⟨[.pointer (some ⟨b,0,none⟩)]⟩,rfl,by kernel_rfl,by
 apply Yp
 have cI:=ah.ab af
 refine⟨_,_,_,_,_,_,cI.nt,_,cI.fy,?_⟩
 intro b2 ao bH
 have hs:bk gb ao (some ⟨b2,0,none⟩) 1 1 [((x.2.1,s):gT)]:=gd gb (x.2.1,s) bH rfl
 refine Yb ((hm.ab af).ab bH.ag) hs (by omega) λaF bG=>⟨_,rfl,?_⟩
 have e:n3 [((x.2.1,s):gT)] m.2.1=s:=by rw [hm.name];simp [n3]
 rw [e]
 exact hk aF (bH.ag.aw bG)⟩
theorem Yq:jC atf 132 1 24=true:=by kernel_rfl
theorem Yr:sliceB atf 448 132=true:=by kernel_rfl
theorem Oy{bJ:List Nat}{L:List bX}{K:Option Addr->Nat->Nat->J->Prop}(h:kZ H di bJ L)
  (hk:∀aK aQ aT H',Own b' 3 H.size H' aK aQ aT ((asl L.length).map λk:Nat=>(k:Int))->Fr [] H H'->K aK aQ aT H'):
  aY atf Ys ⟨[.pointer (some ⟨di,0,none⟩)]⟩ H λv H'=>∃a n c,v=.slice a n c/\K a n c H':=by
 apply Yt
 obtain⟨hw,a0,jE,c0,hs,gv,et,dW,dE,bh,xX⟩:=h
 have e:jE=L.length:=by rw [bh.all.1,bh.l6.1]
 have hlen:=hw.len
 refine⟨_,_,_,(mN bh).b5 (by kernel_rfl) rfl,?_⟩
 refine⟨λvs H'=>match vs with|[.slice a n c,.int _ i]=>∃k:Nat,i=k/\k<=jE/\Own b' 3 H.size H' a n c ((asl k).map λk:Nat=>(k:Int))/\Fr [] H H'|_=>False,
  λvs _=>match vs with|[_,.int _ i]=>jE-i.toNat|_=>0,⟨0,rfl,by omega,Own.nil _ _ _ _,Fr.refl _ _⟩,?_⟩
 rintro bm a n c i ao ⟨k,rfl,hle,an,af⟩
 refine ai (λaD=> ?_) (λaD=>⟨_,_,_,rfl,?_⟩)
 ·have bT:k<jE:=by simpa using aD
  have dk:=an.1
  simp at dk
  refine k3 (E:=b') (k:Int) E8 wu an af rfl (by omega) λ_ jk jh dm aN fP bt _=> ?_
  rw [b6 (by omega)]
  refine⟨⟨k+1,rfl,by omega,?_,bt⟩,cJ bT⟩
  rw [List.range_succ,as2];exact fP
 ·have du:k=jE:=by simp at aD;omega
  subst du
  rw [e]at an
  exact hk _ _ _ _ an af
theorem Oz{bJ:List Nat}{L:List bX}{bP:ByteArray}{W:ByteArray->Bool}{uP:Value}{K:Option Addr->Nat->Nat->J->Prop}(h:kZ H di bJ L)(qo:IK H W uP)
  (hk:∀aK aQ aT H' os,Own b' 3 H.size H' aK aQ aT os->hf os (λz=>∃v,W v=true/\z∈jD L bP v)->aQ<=100000->Fr [] H H'->K aK aQ aT H'):
  aY atf Yu ⟨[.pointer (some ⟨di,0,none⟩),.string bP,uP]⟩ H λv H'=>∃a n c,v=.slice a n c/\K a n c H':=by
 apply Yv
 obtain⟨hw,a0,jE,c0,hs,gv,et,dW,dE,bh,xX⟩:=h
 have hlen:=hw.len
 refine⟨_,(mN bh).ld (by kernel_rfl) (j:=2) rfl,(dW bP),bh.has.top.look BI z76 _ (by cases dW bP<;>rfl),?_⟩
 have fin:∀{a:Option Addr} {n c:Nat} {H1:J} {hs:List dH} {vs:List ByteArray},Own nY 132 H.size H1 a n c hs->wC H hs (vs.map (jD L bP))->vs.length<=200->(∀v∈vs,W v=true)->(∀v,W v=true->jD L bP v≠[]->v∈vs)->Fr [] H H1→
   aY atf 344 ⟨[.slice a n c]⟩ H1 λv H'=>∃a n c,v=.slice a n c/\∃fh eh fZ,atK a n c=.slice fh eh fZ/\K fh eh fZ H':=by
  intro a n c H1 hs vs an aH aI OA dG af
  have q5:(vs.map (jD L bP)).flatten.length<=200*vs.length:=by
   clear aH OA dG aI
   induction vs with
   |nil=>simp
   |cons v vs ih=>
    have:=Ym L bP v
    simp only [qO,avf,VH,asE]
    omega
  have ay:n=vs.length:=by rw [an.1,aH.len,atw]
  refine XQ n (nQ _) an.bL (aH.ab af) (by omega) (by omega) λaK aQ aT H' os h1 ae au a6=>⟨_,_,_,rfl,hk aK aQ aT H' os (h1.base af.size) (ae.iff λz=> ?_) (by omega) (af.aw a6)⟩
  refine⟨fun⟨l,iS,aC⟩=> ?_,fun⟨v,aI,aC⟩=>⟨_,ad6.2 ⟨v,dG v aI (λe=>by rw [e]at aC;cases aC),rfl⟩,aC⟩⟩
  obtain⟨v,aI,rfl⟩:=ad6.1 iS
  exact⟨v,OA v aI,aC⟩
 cases hmF:dW bP with
 |none=>
  refine Yk Fc λb H1 aB=> ?_
  have cz:∀v,jD L bP v=[]:=λv=>bh.has.no bP v (by
   cases aI:dE bP v with
   |none=>rfl
   |some x=>exact absurd hmF (bh.has.out bP v x aI))
  refine⟨λvs H'=>vs=[.slice none 0 0]/\H'=H1,λ_ _=>0,⟨rfl,rfl⟩,?_⟩
  rintro bm a n c ao ⟨e,rfl⟩
  simp only [List.cons.injEq,Value.slice.injEq,and_true]at e
  obtain⟨rfl,rfl,rfl⟩:=e
  refine Yl aB.get (.inl ⟨rfl,fin (hs:=[]) (vs:=[]) (Own.nil _ _ _ _) ⟨rfl,λi h l e=>by simp at e,by simp⟩ (by simp) (by simp) (λv _ h=>absurd (cz v) h) aB.ag⟩)
 |some r=>
 obtain⟨ck,nv,q8,BV⟩:=bh.has.inner bP r hmF
 have Yw:∀v,v∈nv.map (·.1)->v∈L.map λl=>n3 l bP:=λv aI=>by
  have aZ:dA v nv≠none:=λe=>Fv.1 e aI
  rw [BV v]at aZ
  dsimp only at aZ
  cases hvF:dE bP v with
  |none=>rw [hvF]at aZ;exact absurd rfl aZ
  |some x=>
   have ae:=(bh.has.own bP v x hvF).2
   obtain⟨z,aC⟩:=avw _ ae
   obtain⟨k,l,e,pH,hm⟩:=((zF L bP v).2 z).1 aC
   exact ad6.2 ⟨l,att pH,OB (hw.da l (att pH)) hm⟩
 have NZ:nv.length<=200:=by
  have:=Fu q8.wf.keys Yw
  simp at this
  omega
 refine x6 kg Fc q8 λit H1 aB=> ?_
 have hit:H.size<=it:=by have:=aB.eq;omega
 refine⟨λvs H'=>match vs with
   |[.slice a n c]=>∃(seen:Array Nat) (hs:List dH) (vs:List ByteArray),H'[it]?=some (.mapIter (some r) ck seen ck)/\Own nY 132 H.size H' a n c hs/\it∉ax a/\wC H hs (vs.map (jD L bP))/\vs.Nodup/\(∀v∈vs,W v=true/\∃x∈nv,x.1=v/\x.2.2∈seen)/\(∀x∈nv,x.2.2∈seen->W x.1=true->x.1∈vs)/\Fr [] H H'
   |_=>False,
  λ_ H'=>lF H' r it,⟨#[],[],[],aB.get,Own.nil _ _ _ _,by simp [ax],⟨rfl,λi h l e=>by simp at e,by simp⟩,by simp,by simp,by simp,aB.ag⟩,?_⟩
 rintro bm a n c ao ⟨seen,gZ,vs,BW,an,Fw,aH,iF,zG,dG,bt⟩
 have OC:=dM.ab kg q8 bt
 have apZ:vs.length<=nv.length:=by
  have:=Fu (l:=vs) (m:=nv.map (·.1)) iF λv aI=>by
   obtain⟨_,x,aa,e,_⟩:=zG v aI
   exact ad6.2 ⟨x,aa,e⟩
  simpa using this
 refine wE kg OC BW (λzH=> ?_) λx aa jY aF hi3 bG=> ?_
 ·refine fin an aH (by omega) (λv aI=>(zG v aI).1) (λv aI cH=> ?_) bt
  cases aZ:dA v nv with
  |none=>
   rw [BV v]at aZ
   dsimp only at aZ
   cases hvF:dE bP v with
   |none=>exact absurd (bh.has.no bP v hvF) cH
   |some y=>rw [hvF]at aZ;cases aZ
  |some y=>
   obtain⟨b,ah⟩:=zI aZ
   exact dG _ ah (zH _ ah) aI
 ·have q9:Fr [] H aF:=bt.ab bG (λk hk=>by simp at hk;omega)
  refine zJ kg (dM.ab kg q8 q9) hi3 aa rfl ?_
  have x7:dA x.1 nv=some x.2.1:=by
   obtain⟨bO,b7,cN⟩:=x
   exact Fx q8.wf aa
  rw [BV]at x7
  dsimp only at x7
  cases hvF:dE bP x.1 with
  |none=>rw [hvF]at x7;cases x7
  |some y=>
  rw [hvF]at x7
  simp only [Option.map_some,Option.some.injEq]at x7
  have uQ:=(bh.has.own bP x.1 y hvF).1
  refine⟨x.1,rfl,y.1,y.2.1,y.2.2,x7.symm,qo x.1 aF _ q9 λaN bU=> ?_⟩
  have lG:=q9.aw bU
  have Fy:x.1∉vs:=λaI=>by
   obtain⟨_,x',eF,e,hs'⟩:=zG _ aI
   have:x'=x:=zK q8.wf eF aa e
   subst this
   exact jY hs'
  have uR:aN[it]?=some (.mapIter (some r) ck (seen.push x.2.2) ck):=bU.nw hi3
  have eV:Own nY 132 H.size aN a n c gZ:=(jV an bG (λk hk=>by simp;exact λe=>Fw (e▸hk))).ab bU
  have OD:wF (seen.push x.2.2) (nv.map (·.2.2))<lF ao r it:=by
   rw [sa kg OC BW]
   exact BX (ad6.2 ⟨x,aa,rfl⟩) jY
  refine ai (λah=> ?_) (λah=>⟨⟨_,gZ,vs,uR,eV,Fw,aH,iF,λv aI=>⟨(zG v aI).1,?_⟩,λx' eF hs' x8=> ?_,lG⟩,?_⟩)
  ·have ap0:=eV.1
   have Fz:gZ.length=vs.length:=by rw [aH.len,atw]
   intro nx bw e7
   have e6:bk nY bw (some ⟨nx,0,none⟩) 1 1 [y]:=gd nY y e7 rfl
   have ra:=e7.ag.nw uR
   have Yx:it<bw.size:=k2 ra
   refine iD (E:=nY) Yr Yq (eV.ab e7.ag) e6 (by have:=lG.size;have:=e7.size;omega) (by omega) λjk jh dm bY ca cB IL=> ?_
   have tl:bY[it]?=some (.mapIter (some r) ck (seen.push x.2.2) ck):=cB.get ra Fw
   have Yy:it∉ax jk:=λhk=>by
    rcases IL it hk with h|h
    ·exact Fw h
    ·omega
   have xV:Fr [] H bY:=(lG.aw e7.ag).ab cB λk hk=>(eV.ge k hk).1
   refine⟨⟨_,gZ++[y],vs++[x.1],tl,ca,Yy,⟨by simp [Fz],λi h l eF iS=> ?_,λl iS=> ?_⟩,?_,λv aI=> ?_,λx' eF hs' x8=> ?_,xV⟩,?_⟩
   ·rw [as2]at iS
    rcases atv i gZ.length with h1|h1
    ·rw [asW h1]at eF
     rw [asW (by rw [atw,<-Fz];exact h1)]at iS
     exact aH.at' i h l eF iS
    ·rw [asX h1]at eF
     rw [asX (by rw [atw,<-Fz];exact h1),atw,<-Fz]at iS
     have aD:i-gZ.length=0:=by
      have:=(qb.1 eF).1
      simpa using this
     rw [aD]at eF iS
     simp at eF iS
     subst eF iS
     exact uQ.bL
   ·obtain⟨v,_,rfl⟩:=ad6.1 iS
    exact(zF L bP v).1
   ·rw [List.nodup_append]
    exact⟨iF,by simp,λa bQ b ah=>by simp at ah;subst ah;exact λe=>Fy (e▸bQ)⟩
   ·rcases asU.1 aI with aI|aI
    ·obtain⟨h1,x',eF,e,hs'⟩:=zG v aI
     exact⟨h1,x',eF,e,by simp [hs']⟩
    ·simp at aI;subst aI
     exact⟨ah,x,aa,rfl,by simp⟩
   ·rcases au8.1 hs' with h1|h1
    ·simp [dG x' eF h1 x8]
    ·have:x'=x:=BY q8.wf eF aa h1
     subst this;simp
   ·show lF bY r it<lF ao r it
    rw [sa kg (dM.ab kg q8 xV) tl];exact OD
  ·obtain⟨_,x',eF,e,hs'⟩:=zG v aI
   exact⟨x',eF,e,by simp [hs']⟩
  ·rcases au8.1 hs' with h1|h1
   ·exact dG x' eF h1 x8
   ·have:x'=x:=BY q8.wf eF aa h1
    subst this
    rw [ah]at x8;cases x8
  ·show lF aN r it<lF ao r it
   rw [sa kg (dM.ab kg q8 lG) uR];exact OD
theorem Yz{bJ:List Nat}{L:List bX}{x:eu}{m:fg}{K:Option Addr->Nat->Nat->J->Prop}(h:kZ H di bJ L)(hm:l9 H x m)
  (hk:∀aK aQ aT H' os,Own b' 3 H.size H' aK aQ aT os->hf os (IM L m)->aQ<=1000000->Fr [] H H'->K aK aQ aT H'):
  aY atf YA ⟨[.pointer (some ⟨di,0,none⟩),jF x]⟩ H λv H'=>∃a n c,v=.slice a n c/\K a n c H':=by
 apply YB
 intro b H1 aB
 have cI:eW H1 b x:=aB.bo
 have hw:=h.1
 have hlen:=hw.len
 have h1:=h.ab aB.ag
 have iE:=hm.ab aB.ag
 refine⟨_,cI.fy,Oz h1 (Ox iE cI) λa2 cr c2 ao jk de gZ bH bt=> ?_⟩
 rw [<-hm.name]at gZ
 refine Ox iE cI ⟨#[]⟩ ao _ bt λaF bG=> ?_
 have nu:=bt.aw bG
 have dQ:=cI.ab nu
 have eN:=de.ab bG
 refine ai (λhe=>⟨_,dQ.fy,?_⟩) (λhe=>⟨_,_,_,rfl,hk a2 cr c2 aF jk (eN.base aB.ag.size) (gZ.iff λz=> ?_) (by omega) (aB.ag.aw nu)⟩)
 ·have au:=h1.ab nu
  refine Oy au λa4 k5 c4 aN eV bU=> ?_
  have dY:=dQ.ab bU
  have a6:=au.ab bU
  refine⟨dY.fy,Oz a6 (Yn aN) λa5 n5 c5 bw FA ey tm e7 bW=> ?_⟩
  rw [<-hm.name]at tm
  have YC:=eV.ab bW
  have cp:=eV.1
  rw [atw,avG]at cp
  refine XJ YC.bL ey.bL (by omega) λiX n6 k6 bY gw cB=> ?_
  have hL:=gw.1
  have IN:=wD (w:=x3) ((asl L.length).map λk:Nat=>(k:Int)) FA
  have IP:=ey.1
  rw [atw,avG]at IN
  have YD:=((eN.ab bU).ab bW).ab cB
  refine Fp YD.bL gw.bL (by omega) λib n7 pI cC fo eJ=>⟨_,_,_,rfl,hk ib n7 pI cC _ (fo.base (by have:=aB.ag.size;have:=nu.size;have:=bU.size;have:=bW.size;have:=cB.size;omega)) ((gZ.or ((OE L.length).not tm)).iff λz=> ?_) ?_ ?_⟩
  ·rw [<-OF hw m z]
   simp only [he,true_and]
  ·have:=wD (w:=zE) jk (fs x3 ((asl L.length).map λk:Nat=>(k:Int)) FA)
   have:=fo.1
   have:=de.1
   omega
  ·exact aB.ag.aw ((((nu.aw bU).aw bW).aw cB).aw eJ)
 ·rw [<-OF hw m z]
  simp [he]
def BZ(S:List ByteArray):Prop:=(∀v∈S,kY v)/\OG S
open Classical in
theorem YE{S:List ByteArray}{K:Bool->J->Prop}(aa:bk dT H a n c S)(ay:n<=1000000000)(hk:∀H',Fr [] H H'->K (decide (BZ S)) H'):
  aY atf YF ⟨[.slice a n c]⟩ H λv H'=>∃b,v=.bool b/\K b H':=by
 apply YG
 have gE:=aa.len
 have no:∀H',Fr [] H H'->¬BZ S->∃b,atp false=.bool b/\K b H':=λH' af h=>⟨_,rfl,by have:=hk H' af;rwa [decide_eq_false h]at this⟩
 refine⟨λvs H'=>match vs with|[.int _ i]=>∃k:Nat,i=k/\k<=n/\(∀v∈S.take k,kY v)/\(∀i x y,i+1<k->S[i]?=some x->S[i+1]?=some y->jn x y=true)/\Fr [] H H'|_=>False,
  λvs _=>match vs with|[.int _ i]=>n-i.toNat|_=>0,⟨0,rfl,by omega,by simp,λ_ _ _ h=>by omega,Fr.refl _ _⟩,?_⟩
 rintro bm i H1 ⟨k,rfl,hle,dG,aA,af⟩
 refine ai (λaD=> ?_) (λaD=>⟨_,rfl,?_⟩)
 ·have bT:k<n:=by simpa using aD
  have b0:S[k]?=some (S[k]'(by omega)):=by simp
  generalize S[k]'(by omega)=x at b0
  refine(aa.ab af).get rfl b0 (decide_eq_true (by omega)) λal bS ak=>⟨_,IH ak,IQ λao bt=> ?_⟩
  have k4:=af.aw bt
  refine ai (λh=>no ao k4 λh'=> ?_) (λh=> ?_)
  ·have:=h'.1 x (att b0);simp [this]at h
  have tn:kY x:=by simpa using h
  have mem:∀v∈S.take (k+1),kY v:=λv aI=>by
   rw [ats,b0]at aI
   rcases asU.1 aI with h|h
   ·exact dG v h
   ·simp at h;subst h;exact tn
  rw [b6 (by omega)]
  refine ai (λh1=> ?_) (λh1=>⟨⟨k+1,rfl,by omega,mem,λi u w az=>by simp at h1;omega,k4⟩,cJ bT⟩)
  have wG:0<k:=by simpa using h1
  have jZ:S[k-1]?=some (S[k-1]'(by omega)):=by simp
  generalize S[k-1]'(by omega)=y at jZ
  rw [pJ (by omega) wG]
  refine(aa.ab k4).get rfl jZ (decide_eq_true (by omega)) λbd kE aO=>⟨_,IH aO,?_⟩
  rw [IS]
  refine ai (λh=>no ao k4 λh'=> ?_) (λh=>⟨⟨k+1,rfl,by omega,mem,λi u w az hu hw=> ?_,k4⟩,cJ bT⟩)
  ·have:=h'.2 (k-1) y x jZ (by rw [show k-1+1=k by omega];exact b0)
   rw [this]at h;cases h
  ·rcases atv (i+1) k with ae|ae
   ·exact aA i u w ae hu hw
   ·have:i+1=k:=by omega
    subst this
    rw [b0]at hw;cases hw
    rw [show i+1-1=i by omega,hu]at jZ;cases jZ
    simpa using h
 ·have du:k=n:=by simp at aD;omega
  subst du
  rw [gE,asM]at dG
  have hh:BZ S:=⟨dG,λi x y aa av=>aA i x y (by have:=(qb.1 av).1;omega) aa av⟩
  have:=hk H1 af
  rwa [decide_eq_true hh]at this
open Classical in
theorem OH{x:eu}{m:fg}{K:Int->J->Prop}(hm:l9 H x m)(hk:∀H',Fr [] H H'->K (FB m) H'):
  aY atf YH ⟨[jF x]⟩ H λv H'=>∃e,v=.int .i64 e/\K e H':=by
 apply YI
 intro b H1 aB
 have ah:eW H1 b x:=aB.bo
 have uS:=hm.set.len
 refine⟨_,ah.fy,OI λao bt=> ?_⟩
 have b8:=ah.ab bt
 have k4:=aB.ag.aw bt
 refine⟨λvs H'=>∃r,vs=[.bool r]/\Fr [] H H'/\(r=true↔k7 m),?_,?_⟩
 ·have dP:(x.1==3)=decide (x.1=3):=rfl
  have x9:∀H',Fr [] H H'->¬k7 m->∃r,[atp false]=[.bool r]/\Fr [] H H'/\(r=true↔k7 m):=λH' af h=>⟨false,rfl,af,by simp [h]⟩
  have YJ:∀{N:Prop} [Decidable N],decide N=false->(k7 m->N)->¬k7 m:=λh h' ak=>of_decide_eq_false h (h' ak)
  have IT:k7 m->kX x.2.1:=λh=>by rw [<-hm.name];exact h.1
  refine⟨_,b8.c7,?_⟩
  refine⟨λvs H'=>∃r,vs=[.bool r]/\H'=ao/\(r=true↔kX x.2.1)/\0<=x.1/\x.1<3,?_,?_⟩
  ·have gG:0<=x.1->x.1<3->∃r,[atp (decide (kX x.2.1))]=[.bool r]/\ao=ao/\(r=true↔kX x.2.1)/\0<=x.1/\x.1<3:=λh1 ae=>⟨_,rfl,rfl,by simp,h1,ae⟩
   have out:x.1≠3->¬(0<=x.1/\x.1<3)->¬k7 m:=λh1 ae h=>by
    have:=h.2
    rw [hm.kind]at this
    omega
   refine ai (λau=> ?_) (λau=> ?_)
   ·have au:x.1=3:=by simpa using au
    have iG:k7 m↔kX x.2.1/\(x.2.2.1=⟨#[]⟩/\1<=m.2.2.2.length/\m.2.2.2.length<=8/\BZ m.2.2.2):=by
     unfold k7 BZ
     rw [hm.name,hm.kind,hm.val,au]
     constructor
     ·rintro⟨h1,h|⟨_,h⟩⟩
      ·omega
      ·exact⟨h1,h⟩
     ·rintro⟨h1,h⟩
      exact⟨h1,.inr ⟨rfl,h⟩⟩
    refine ai (λh=>⟨_,b8.hv,?_⟩) (λh=>x9 ao k4 (YJ h IT))
    have e1:=of_decide_eq_true h
    rw [q6]
    refine ai (λh=>⟨_,_,_,b8.n4,ai (λa6=>⟨_,_,_,b8.n4,ai (λbu=>⟨_,_,_,b8.n4,?_⟩) (λbu=>x9 ao k4 λak=> ?_)⟩) (λa6=>x9 ao k4 λak=> ?_)⟩) (λh=>x9 ao k4 λak=> ?_)
    ·refine YE (hm.set.ab k4) hm.len λaF bG=>⟨_,rfl,k4.aw bG,?_⟩
     rw [decide_eq_true_eq,iG]
     refine⟨λaA=>⟨e1,of_decide_eq_true h,?_,?_,aA⟩,λak=>ak.2.2.2.2⟩
     ·simp at a6;omega
     ·simp at bu;omega
    ·have:=(iG.1 ak).2.2.2.1;simp at bu;omega
    ·have:=(iG.1 ak).2.2.1;simp at a6;omega
    ·exact of_decide_eq_false h (iG.1 ak).2.1
   ·have fG:x.1≠3:=by simpa using au
    refine ai (λaD=> ?_) (λaD=> ?_)
    ·have aD:x.1=0:=by simpa using aD
     refine ai (λ_=>gG (by omega) (by omega)) (λh=>by rw [aD]at h;simp at h)
    ·have aD:x.1≠0:=by simpa using aD
     refine ai (λh1=>gG (by simp at h1;omega) (by simp at h1;omega)) (λh1=>ai (λae=>gG (by simp at ae;omega) (by simp at ae;omega)) (λae=>x9 ao k4 (out fG ?_)))
     have h1:x.1≠1:=by simpa using h1
     have ae:x.1≠2:=by simpa using ae
     omega
  ·rintro bm r aF ⟨eU,hG,rfl,aA,g0,g3⟩
   simp only [List.cons.injEq,Value.bool.injEq,and_true]at hG
   subst hG
   have sb:k7 m↔kX x.2.1/\m.2.2.2=[]/\kY x.2.2.1:=by
    unfold k7
    rw [hm.name,hm.kind,hm.val]
    constructor
    ·rintro⟨h1,⟨_,_,h⟩|⟨h,_⟩⟩
     ·exact⟨h1,h⟩
     ·omega
    ·rintro⟨h1,h⟩
     exact⟨h1,.inl ⟨g0,g3,h⟩⟩
   refine ai (λh=>⟨_,_,_,b8.n4,ai (λa6=>⟨_,b8.hv,IQ λaN bU=>⟨_,rfl,k4.aw bU,?_⟩⟩) (λa6=>x9 aF k4 λak=> ?_)⟩) (λh=>x9 aF k4 λak=> ?_)
   ·rw [decide_eq_true_eq,sb]
    have qm:m.2.2.2=[]:=asF (by
     have a6:(x.2.2.2.2.1:Int)=0:=by simpa using a6
     omega)
    exact⟨λaI=>⟨aA.1 h,qm,aI⟩,λak=>ak.2.2⟩
   ·have:=(sb.1 ak).2.1
    rw [this]at uS
    rw [uS]at a6;simp at a6
   ·have:=aA.2 (sb.1 ak).1
    rw [this]at h;cases h
 ·rintro bm r aF ⟨eU,hG,bG,aA⟩
  simp only [List.cons.injEq,Value.bool.injEq,and_true]at hG
  subst hG
  have cP:=hk aF bG
  refine ai (λh=>⟨_,rfl,?_⟩) (λh=>⟨_,rfl,?_⟩)
  ·rwa [IU λak=>by rw [aA.2 ak]at h;cases h]at cP
  ·rwa [OJ (aA.1 (by simpa using h))]at cP
theorem FC{os:List Int}{p:Int->Prop}{N:Nat}(h:hf os p)(bh:∀z,p z->∃k:Nat,z=k/\k<N):os.length<=N:=by
 have iF:os.Nodup:=by
  unfold List.Nodup
  exact h.1.imp λh=>by omega
 have:=Fu (m:=(asl N).map λk:Nat=>(k:Int)) iF λz aC=>by
  obtain⟨k,e,hk⟩:=bh z ((h.2 z).1 aC)
  exact ad6.2 ⟨k,List.mem_range.2 hk,e.symm⟩
 simpa using this
theorem YK{L:List bX}{ms:List fg}{z:Int}(h:rb L ms z):∃k:Nat,z=k/\k<L.length:=by
 obtain⟨k,l,e,hk,_⟩:=h
 exact⟨k,e,(qb.1 hk).1⟩
structure iu(H:J)(xs:List eu)(ms:List fg):Prop where
 len:xs.length=ms.length
 at':∀(i:Nat) (x:eu) (m:fg),xs[i]?=some x->ms[i]?=some m->l9 H x m
theorem iu.ab{xs:List eu}{ms:List fg}(h:iu H xs ms)(af:Fr [] H H'):iu H' xs ms:=⟨h.len,λi x m aa hm=>(h.at' i x m aa hm).ab af⟩
theorem OK{x:eu}{zs:List Value}{K:Nat->J->Prop}(aC:zs.length=4)
  (k:∀b H',H.size<=b->eW H' b x->Fr [] H H'->K b H'):
  ∀b H',ds H b (.cells ⟨zs⟩ 116) H'->∃cv,fb atf 116 H' ⟨b,0,none⟩ (jF x) cv/\K b cv:=
 ia (by kernel_rfl) (by kernel_rfl) (λv h=>by simp [atq]at h;rcases h with rfl|rfl|rfl|rfl<;>rfl) aC k
theorem YL{bJ:List Nat}{L:List bX}{xs:List eu}{ms:List fg}{K:Option Addr->Nat->Nat->Int->J->Prop}(h:kZ H di bJ L)(aa:bk hg H a n c xs)(hm:iu H xs ms)(ay:n<=1000000000)
  (cz:¬(∀m∈ms,k7 m)->∀H',Fr [] H H'->K none 0 0 50 H')
  (ff:(∀m∈ms,k7 m)->∀aK aQ aT H' os,Own b' 3 H.size H' aK aQ aT os->hf os (rb L ms)->aQ<=200->Fr [] H H'->K aK aQ aT 0 H'):
  aY atf YM ⟨[.pointer (some ⟨di,0,none⟩),.slice a n c]⟩ H λv H'=>∃a n c e,v=.tuple ⟨[.slice a n c,.int .i64 e]⟩/\K a n c e H':=by
 apply YN
 have gE:=aa.len
 have hlen:=h.1.len
 have qw:=hm.len
 have bound:∀{os:List Int} {j:Nat},hf os (rb L (ms.take j))->os.length<=200:=λhs=>VF (FC hs λz aC=>YK aC) hlen
 refine Oy h λcM cW c1 H1 fw b9=> ?_
 refine⟨λvs H'=>match vs with|[.slice a n c,.int _ i]=>∃(k:Nat) (os:List Int),i=k/\k<=xs.length/\Own b' 3 H.size H' a n c os/\hf os (rb L (ms.take k))/\(∀m∈ms.take k,k7 m)/\Fr [] H H'|_=>False,
  λvs _=>match vs with|[_,.int _ i]=>xs.length-i.toNat|_=>0,⟨0,_,rfl,by omega,fw,(OE L.length).iff λz=>(YO L z).symm,by simp,b9⟩,?_⟩
 rintro bm a2 cr c2 i ao ⟨k,os,rfl,hle,an,hs,IV,af⟩
 refine ai (λaD=> ?_) (λaD=>⟨_,_,_,_,rfl,?_⟩)
 ·have bT:k<n:=by simpa using aD
  have b0:xs[k]?=some (xs[k]'(by omega)):=by simp
  have iE:ms[k]?=some (ms[k]'(by omega)):=by simp
  generalize xs[k]'(by omega)=x at b0
  generalize ms[k]'(by omega)=m at iE
  have cQ:=hm.at' k x m b0 iE
  have zL:ms.take (k+1)=ms.take k++[m]:=by rw [ats,iE];rfl
  refine(aa.ab af).get rfl b0 (decide_eq_true (by omega)) λal bS ak=>⟨_,_,_,_,_,_,Ft ak,?_⟩
  refine OK rfl λb aF ah aI bG=>⟨_,_,_,_,_,_,aI.nt,?_⟩
  have q9:=af.aw bG
  refine OH (cQ.ab q9) λaN bU=> ?_
  have lG:=q9.aw bU
  by_cases ak:¬k7 m
  ·rw [IU ak]
   exact⟨_,_,_,_,rfl,cz (λaq=>ak (aq m (att iE))) aN lG⟩
  have ak:=Classical.not_not.1 ak
  rw [OJ ak]
  refine ai (λh=>by simp at h) (λ_=>⟨_,_,_,_,_,_,(aI.ab bU).nt,?_⟩)
  refine Yz (h.ab lG) (cQ.ab lG) λa5 n5 c5 bw FA ey tm e7 bW=> ?_
  have l1:=((an.ab bG).ab bU).ab bW
  have cI:=bound hs
  have dk:=an.1
  refine XE l1.bL ey.bL (by omega) λiX n6 k6 bY gw cB=> ?_
  have xV:=(lG.aw bW).aw cB
  rw [b6 (by omega)]
  have IW:hf (fs zD os FA) (rb L (ms.take (k+1))):=(hs.and tm).iff λz=>by rw [zL,YP]
  refine⟨⟨k+1,_,rfl,by omega,gw.base (by have:=lG.size;have:=bW.size;omega),IW,λy av=> ?_,xV⟩,cJ (by omega)⟩
  rw [zL]at av
  rcases asU.1 av with h|h
  ·exact IV y h
  ·simp at h;subst h;exact ak
 ·have du:ms.take k=ms:=asG (by simp at aD;omega)
  rw [du]at IV hs
  have:=bound (j:=ms.length) (by rw [asM];exact hs)
  exact ff IV a2 cr c2 ao os an hs (by have:=an.1;omega) af
end Go.Proofs.cU
namespace Go.Proofs
abbrev bC:=Int×Int
def iL:List bC->List bC->List bC
 |[],b=>b
 |x::a,[]=>x::a
 |x::a,y::b=>if x.1<y.1 then x::iL a (y::b)else if x.1=y.1 then y::iL a b else y::iL (x::a) b
termination_by a b=>a.length+b.length
theorem yD(b:List bC):iL [] b=b:=by unfold iL;rfl
theorem C4:∀a:List bC,iL a []=a
 |[]=>yD _
 |x::a=>by unfold iL;rfl
theorem C5(x y:bC)(a b:List bC):iL (x::a) (y::b)=if x.1<y.1 then x::iL a (y::b)else if x.1=y.1 then y::iL a b else y::iL (x::a) b:=by
 rw [iL]
def ik(l:List bC):Prop:=l.Pairwise λx y=>x.1<y.1
instance(l:List bC):Decidable (ik l):=by unfold ik;infer_instance
theorem ik.nil:ik []:=List.Pairwise.nil
theorem sK{x:bC}{l:List bC}:ik (x::l)↔(∀y∈l,x.1<y.1)/\ik l:=ave
theorem yP{z:bC}:∀a b:List bC,z∈iL a b->z∈a\/z∈b
 |[],b,h=>by rw [yD]at h;exact .inr h
 |x::a,[],h=>by rw [C4]at h;exact .inl h
 |x::a,y::b,h=>by
  rw [C5]at h
  split at h
  ·rcases o3.1 h with rfl|h
   ·exact .inl (by simp)
   ·rcases yP a (y::b) h with h|h
    ·exact .inl (by simp [h])
    ·exact .inr h
  ·split at h
   ·rcases o3.1 h with rfl|h
    ·exact .inr (by simp)
    ·rcases yP a b h with h|h
     ·exact .inl (by simp [h])
     ·exact .inr (by simp [h])
   ·rcases o3.1 h with rfl|h
    ·exact .inr (by simp)
    ·rcases yP (x::a) b h with h|h
     ·exact .inl h
     ·exact .inr (by simp [h])
termination_by a b=>a.length+b.length
theorem Di:∀a b:List bC,ik a->ik b->ik (iL a b)
 |[],b,_,ah=>by rw [yD];exact ah
 |x::a,[],bQ,_=>by rw [C4];exact bQ
 |x::a,y::b,bQ,ah=>by
  have ha':=sK.1 bQ
  have e3:=sK.1 ah
  rw [C5]
  split
  ·rename_i h
   refine sK.2 ⟨λz aC=> ?_,Di a (y::b) ha'.2 ah⟩
   rcases yP _ _ aC with aC|aC
   ·exact ha'.1 z aC
   ·rcases o3.1 aC with rfl|aC
    ·exact h
    ·exact Int.lt_trans h (e3.1 z aC)
  ·split
   ·rename_i h1 h
    refine sK.2 ⟨λz aC=> ?_,Di a b ha'.2 e3.2⟩
    rcases yP _ _ aC with aC|aC
    ·have:=ha'.1 z aC;omega
    ·exact e3.1 z aC
   ·rename_i h1 ae
    refine sK.2 ⟨λz aC=> ?_,Di (x::a) b bQ e3.2⟩
    rcases yP _ _ aC with aC|aC
    ·rcases o3.1 aC with rfl|aC
     ·omega
     ·have:=ha'.1 z aC;omega
    ·exact e3.1 z aC
termination_by a b=>a.length+b.length
theorem De:∀a b:List bC,(iL a b).length<=a.length+b.length
 |[],b=>by rw [yD];simp
 |x::a,[]=>by rw [C4];simp
 |x::a,y::b=>by
  rw [C5]
  split
  ·have:=De a (y::b);simp at this⊢;omega
  ·split
   ·have:=De a b;simp at this⊢;omega
   ·have:=De (x::a) b;simp at this⊢;omega
termination_by a b=>a.length+b.length
def nI(f t:Int)(x:bC):Bool:=decide (f<=x.1)&&decide (x.1<t)
end Go.Proofs
namespace Go.Proofs.bb
def encS:dd bC:=⟨λx=>[.int .i64 x.1,.int .i64 x.2],2,λ_=>rfl,by decide,λ_ v h=>by simp at h;rcases h with rfl|rfl<;>rfl⟩
theorem xa:jC atf 113 2 16=true:=by kernel_rfl
theorem nZ:sliceB atf 55 113=true:=by kernel_rfl
abbrev e5(x:bC):Value:=.agg ⟨[.int .i64 x.1,.int .i64 x.2]⟩
variable{H:J}{n c:Nat}
theorem gx{al:Addr}{x:bC}(h:eP H al (encS.cells x)):cR atf 113 H al (e5 x):=r' (by kernel_rfl) (by kernel_rfl) h
theorem C3{al:Addr}{x:bC}(h:eP H al (encS.cells x)):cR atf 3 H al (.int .i64 x.1):=n' (by kernel_rfl) (by have:=h 0 _ rfl;simpa [Addr.add]using this)
def gX(x y:Int):Int:=if x<y then -1 else if x>y then 1 else 0
theorem w6{x y:Int}{K:Int->J->Prop}(hk:K (gX x y) H):aY atf Qu ⟨[.int .i64 x,.int .i64 y]⟩ H λv H'=>∃n,v=.int .i64 n/\K n H':=by
 apply Qv
 apply CW
 refine⟨_,rfl,?_⟩
 apply CW
 refine⟨_,rfl,?_⟩
 refine ai (λh=>by simp at h) (λ_=>ai (λh=>by simp at h) (λ_=> ?_))
 unfold gX at hk
 refine ai (λh=>⟨_,rfl,?_⟩) (λh=>ai (λh1=>⟨_,rfl,?_⟩) (λh1=>⟨_,rfl,?_⟩))
 ·rwa [if_pos (by simpa using h)]at hk
 ·rwa [if_neg (by simpa using h),if_pos (by simpa using h1)]at hk
 ·rwa [if_neg (by simpa using h),if_neg (by simpa using h1)]at hk
theorem QI{x y:bC}{K:Int->J->Prop}(hk:∀H',Fr [] H H'->K (gX x.1 y.1) H'):aY atf ae1 ⟨[e5 x,e5 y]⟩ H λv H'=>∃n,v=.int .i64 n/\K n H':=by
 apply ae2
 intro b H1 ay b1 ao bH
 refine⟨_,(ay.bo.ab bH.ag).b5 (by kernel_rfl) rfl,_,bH.bo.b5 (by kernel_rfl) rfl,?_⟩
 exact w6 ⟨_,rfl,hk _ (ay.ag.aw bH.ag)⟩
def xb(order:Value):Prop:=∀(x y:bC) (H:J) (K:Int->J->Prop),(∀H',Fr [] H H'->K (gX x.1 y.1) H')->dO atf order [e5 x,e5 y] H λv H'=>∃n,v=.int .i64 n/\K n H'
theorem QJ:xb (.func (.func 132) #[] #[]):=λx y H K hk=>⟨132, #[], #[],rfl,by kernel_rfl,QI hk⟩
theorem BU{order:Value}{a b:Option Addr}{m d:Nat}{xs ys:List bC}{K:Option Addr->Nat->Nat->J->Prop}(an:xb order)(aa:bk encS H a n c xs)(av:bk encS H b m d ys)
  (hlen:n+m<=1000000000) (hk:∀aK aQ aT H',Own encS 113 H.size H' aK aQ aT (iL xs ys)->Fr [] H H'->K aK aQ aT H'):
  aY atf ae3 ⟨[.slice a n c,.slice b m d,order]⟩ H λv H'=>∃a n c,v=.slice a n c/\K a n c H':=by
 apply ae4
 rw [dv (by omega) (by omega)]
 refine Gg (E:=encS) nZ xa (by omega) (by omega) λdU H1 fw b9=> ?_
 refine⟨λvs H'=>match vs with
   |[.slice a n c,.slice b m d,.slice o p q]=>∃zs us ws,bk encS H a n c zs/\bk encS H b m d us/\Own encS 113 H.size H' o p q ws/\ws++iL zs us=iL xs ys/\p+n+m<=1000000000/\Fr [] H H'
   |_=>False,
  λvs _=>match vs with|[.slice _ n _,.slice _ m _,_]=>n+m|_=>0,⟨xs,ys,[],aa,av,fw,rfl,by omega,b9⟩,?_⟩
 rintro bm a n c b m d o p q ao ⟨zs,us,ws,aC,hu,hw,he,dC,af⟩
 have ay:=aC.len
 have hm:=hu.len
 have bh:=hw.1
 have QK:=aC.cap
 have QL:=hu.cap
 have last:(zs=[]\/us=[])->cj atf (Builtin.append_ ⟨[55,55]⟩ 55 ⟨[.slice o p q,.slice a n c]⟩) ao λv H'=>∃a n c,v=.slice a n c/\cj atf (Builtin.append_ ⟨[55,55]⟩ 55 ⟨[.slice a n c,.slice b m d]⟩) H' λv H'=>∃a n c,v=.slice a n c/\(∃fh eh fZ,atK a n c=.slice fh eh fZ/\K fh eh fZ H'):=by
  intro pX
  refine pD (E:=encS) nZ xa hw af (aC.ab af) (by omega) λjk jh dm aF fP bt _=> ?_
  have b8:=fP.1
  refine pD (E:=encS) nZ xa fP bt (hu.ab bt) (by simp at b8;omega) λo3 Gy hQ aN hw3 bG _=>⟨_,_,_,rfl,hk _ _ _ _ ?_ bG⟩
  rw [ar8]at hw3
  have:zs++us=iL zs us:=by
   rcases pX with rfl|rfl
   ·rw [yD];rfl
   ·rw [C4];simp
  rwa [this,he]at hw3
 refine ai (λaD=>ai (λh1=> ?_) (λh1=>last (.inr ?_))) (λaD=>last (.inl ?_))
 ·cases zs with
  |nil=>simp at ay aD;omega
  |cons x zs=>
  cases us with
  |nil=>simp at hm h1;omega
  |cons y us=>
  simp only [asE]at ay hm
  have sn:bk encS H (dh c 1 2 a) ((n:Int).toNat-1) (c-1) zs:=by
   have:=aC.drop (k:=1) (by omega)
   rwa [asD]
  have tR:bk encS H (dh d 1 2 b) ((m:Int).toNat-1) (d-1) us:=by
   have:=hu.drop (k:=1) (by omega)
   rwa [asD]
  refine(aC.ab af).head (decide_eq_true (by omega)) λal bS ak=>⟨_,_,gx ak,?_⟩
  refine(hu.ab af).head (decide_eq_true (by omega)) λbd kE aO=>⟨_,_,gx aO,?_⟩
  refine an x y ao _ λaF bG=> ?_
  have dZ:=af.aw bG
  have nq:=hw.ab bG
  rw [C5]at he
  unfold gX
  refine ai (λae=> ?_) (λae=>ai (λau=> ?_) (λau=> ?_))
  ·have cF:x.1<y.1:=by
    simp only [decide_eq_true_eq]at ae
    split at ae
    ·assumption
    ·split at ae<;>omega
   rw [if_pos cF]at he
   refine(aC.ab dZ).head (decide_eq_true (by omega)) λal bS ak=>⟨_,_,gx ak,gC ⟨by omega,by omega,by omega⟩ ?_⟩
   refine k3 (E:=encS) x nZ xa nq dZ rfl (by omega) λ_ jk jh dm aN fP bt _=> ?_
   have b8:=fP.1
   simp at b8
   exact⟨⟨zs,y::us,ws++[x],sn,hu,fP,by rw [<-he];simp,by omega,bt⟩,by show(n:Int).toNat-1+m<n+m;omega⟩
  ·have gH:¬x.1<y.1/\x.1=y.1:=by
    simp only [beq_iff_eq]at au
    split at au
    ·cases au
    ·split at au
     ·cases au
     ·omega
   rw [if_neg gH.1,if_pos gH.2]at he
   refine gC ⟨by omega,by omega,by omega⟩ ?_
   refine(hu.ab dZ).head (decide_eq_true (by omega)) λal bS ak=>⟨_,_,gx ak,gC ⟨by omega,by omega,by omega⟩ ?_⟩
   refine k3 (E:=encS) y nZ xa nq dZ rfl (by omega) λ_ jk jh dm aN fP bt _=> ?_
   have b8:=fP.1
   simp at b8
   exact⟨⟨zs,us,ws++[y],sn,tR,fP,by rw [<-he];simp,by omega,bt⟩,by show(n:Int).toNat-1+((m:Int).toNat-1)<n+m;omega⟩
  ·have gH:¬x.1<y.1/\¬x.1=y.1:=by
    simp only [decide_eq_false_iff_not,beq_eq_false_iff_ne,ne_eq]at ae au
    split at ae
    ·omega
    ·rename_i a6
     rw [if_neg a6]at au
     split at au
     ·omega
     ·omega
   rw [if_neg gH.1,if_neg gH.2]at he
   refine(hu.ab dZ).head (decide_eq_true (by omega)) λal bS ak=>⟨_,_,gx ak,gC ⟨by omega,by omega,by omega⟩ ?_⟩
   refine k3 (E:=encS) y nZ xa nq dZ rfl (by omega) λ_ jk jh dm aN fP bt _=> ?_
   have b8:=fP.1
   simp at b8
   exact⟨⟨x::zs,us,ws++[y],aC,tR,fP,by rw [<-he];simp,by omega,bt⟩,by show n+((m:Int).toNat-1)<n+m;omega⟩
 ·cases us with
  |nil=>rfl
  |cons y us=>simp at hm h1;omega
 ·cases zs with
  |nil=>rfl
  |cons y us=>simp at ay aD;omega
theorem ae5{a b:Option Addr}{m d:Nat}{xs ys:List bC}{K:Option Addr->Nat->Nat->J->Prop}(aa:bk encS H a n c xs)(av:bk encS H b m d ys)
  (hlen:n+m<=1000000000) (hk:∀aK aQ aT H',Own encS 113 H.size H' aK aQ aT (iL xs ys)->Fr [] H H'->K aK aQ aT H'):
  aY atf ae6 ⟨[.slice a n c,.slice b m d]⟩ H λv H'=>∃a n c,v=.slice a n c/\K a n c H':=by
 apply ae7
 exact BU QJ aa av hlen λaK aQ aT H' h1 ae=>⟨_,_,_,rfl,hk _ _ _ _ h1 ae⟩
abbrev fJ(f t:Int):Value:=.agg ⟨[.int .i64 f,.int .i64 t]⟩
def tQ(D:Value)(p:bC->Bool)(G:J->Prop):Prop:=∀(x:bC) (H:J) (K:Bool->J->Prop),G H->(∀H',Fr [] H H'->K (p x) H')->dO atf D [e5 x] H λv H'=>∃b,v=.bool b/\K b H'
theorem wY{f t:Int}{K:Value->J->Prop}(hk:∀H' b,H.size<=b->aU H' ⟨b,0,none⟩ [.int .i64 f,.int .i64 t]->Fr [] H H'->K (.func (.func 232) #[] #[.pointer (some ⟨b,0,none⟩)]) H'):
  aY atf ae8 ⟨[fJ f t]⟩ H λv H'=>∃u,v=u/\K u H':=by
 apply ae9
 intro b H1 aB
 exact⟨_,rfl,hk H1 b (Nat.le_of_eq aB.eq.symm) aB.bo aB.ag⟩
theorem QM{f t:Int}{b:Nat}:tQ (.func (.func 232) #[] #[.pointer (some ⟨b,0,none⟩)]) (nI f t) (λH=>aU H ⟨b,0,none⟩ [.int .i64 f,.int .i64 t]):=by
 intro x H K aZ hk
 refine⟨232, #[],_,rfl,by kernel_rfl,?_⟩
 apply ae'
 intro b1 H1 aB
 have cA:=hk H1 aB.ag
 have QN:=aZ.ab aB.ag
 unfold nI at cA
 refine⟨_,aB.bo.bV (j:=0) (by kernel_rfl) rfl,_,QN.b5 (by kernel_rfl) rfl,ai (λh=>⟨_,aB.bo.bV (j:=0) (by kernel_rfl) rfl,_,QN.ld (j:=1) (by kernel_rfl) rfl,_,rfl,?_⟩) (λh=>⟨_,rfl,?_⟩)⟩
 ·have h':decide (f<=x.1)=true:=h
  rwa [h',Bool.true_and]at cA
 ·have h':decide (f<=x.1)=false:=h
  rwa [h',Bool.false_and]at cA
theorem afa{D:Value}{p:bC->Bool}{G:J->Prop}{b:Nat}(dz:tQ D p G)(b4:∀H H',G H->Fr [] H H'->G H')(h1:D.oneCell'=true):tQ (.func (.func 189) #[] #[.pointer (some ⟨b,0,none⟩)]) (λx=> !p x) (λH=>G H/\aU H ⟨b,0,none⟩ [D]):=by
 intro x H K aZ hk
 refine⟨189, #[],_,rfl,by kernel_rfl,?_⟩
 apply afb
 intro b1 H1 aB
 refine⟨D,(aZ.2.ab aB.ag).b5 (by kernel_rfl) rfl,_,_,aB.bo.vf (j:=0) (us:=[.int .i64 x.1,.int .i64 x.2]) (by kernel_rfl) (by kernel_rfl) rfl,?_⟩
 exact dz x H1 _ (b4 _ _ aZ.1 aB.ag) λao bt=>⟨_,rfl,hk ao (aB.ag.aw bt)⟩
theorem Kf{D:Value}{p:bC->Bool}{G:J->Prop}{a:Option Addr}{xs:List bC}{K:Int->J->Prop}(dz:tQ D p G)(b4:∀H',Fr [] H H'->G H')(aa:bk encS H a n c xs)(ay:n<=1000000000)
  (hk:∀(i:Nat) H',i<=n->(∀j x,j<i->xs[j]?=some x->p x=false)->(i<n->∀x,xs[i]?=some x->p x=true)->Fr [] H H'->K (if i<n then i else -1) H'):
  aY atf QB ⟨[.slice a n c,D]⟩ H λv H'=>∃r,v=.int .i64 r/\K r H':=by
 apply QC
 have gE:=aa.len
 refine⟨λvs H'=>match vs with|[.int _ i]=>∃k:Nat,i=k/\k<=n/\(∀j x,j<k->xs[j]?=some x->p x=false)/\Fr [] H H'|_=>False,
  λvs _=>match vs with|[.int _ i]=>n-i.toNat|_=>0,⟨0,rfl,by omega,λ_ _ h=>by omega,Fr.refl _ _⟩,?_⟩
 rintro bm i H' ⟨k,rfl,hle,bf,af⟩
 refine ai (λaD=> ?_) (λaD=>⟨_,rfl,?_⟩)
 ·have bT:k<n:=by simpa using aD
  have b0:xs[k]?=some (xs[k]'(by omega)):=by simp
  generalize xs[k]'(by omega)=y at b0
  rw [b6 (by omega)]
  refine(aa.ab af).get rfl b0 (decide_eq_true (by omega)) λal bS ak=>⟨_,_,gx ak,?_⟩
  refine dz y H' _ (b4 _ af) λao bt=> ?_
  have dZ:=af.aw bt
  refine ai (λh1=>⟨_,rfl,?_⟩) (λh1=> ?_)
  ·have:=hk k ao hle bf (λ_ x aa=>by rw [b0]at aa;cases aa;exact h1) dZ
   rwa [if_pos bT]at this
  ·refine⟨⟨k+1,rfl,by omega,λj x a' py=> ?_,dZ⟩,cJ bT⟩
   by_cases qk:j<k
   ·exact bf j x qk py
   ·have:j=k:=by omega
    subst this
    rw [b0]at py
    cases py
    exact h1
 ·have du:¬k<n:=by simpa using aD
  have:=hk k H' hle bf (λh=>absurd h du) af
  rwa [if_neg du]at this
theorem QO:zeroOf atf 113=some (.agg ⟨[.int .i64 0,.int .i64 0]⟩):=by kernel_rfl
theorem filter_none{l:List bC}{p:bC->Bool}(h:∀(j:Nat) (x:bC),l[j]?=some x->p x=false):l.filter (λx=> !p x)=l:=by
 refine List.filter_eq_self.2 λx aa=> ?_
 obtain⟨j,a'⟩:=avu.1 aa
 rw [h j x a'];rfl
theorem CX{D:Value}{p:bC->Bool}{G:J->Prop}{base:Nat}{a:Option Addr}{xs:List bC}{K:Option Addr->Nat->Nat->J->Prop}(dz:tQ D p G)(b4:∀H',Fr (ax a) H H'->G H')(an:Own encS 113 base H a n c xs)(ay:n<=1000000000)
  (hk:∀aQ H',Own encS 113 base H' a aQ c (xs.filter λx=> !p x)->aQ<=n->Fr (ax a) H H'->K a aQ c H'):
  aY atf QE ⟨[.slice a n c,D]⟩ H λv H'=>∃a n c,v=.slice a n c/\K a n c H':=by
 apply QF
 have gE:=an.1
 refine Kf dz (λH' af=>b4 H' (af.mono (by simp))) an.bL ay λi H1 az cz ff b9=> ?_
 have w7:Fr (ax a) H H1:=b9.mono (by simp)
 by_cases eC:i<n
 ·rw [if_pos eC]
  refine ai (λh=>by have:=(beq_iff_eq.1 h);omega) (λ_=> ?_)
  rw [b6 (by omega)]
  have mW:xs[i]?=some (xs[i]'(by omega)):=by simp
  have Aj:p (xs[i]'(by omega))=true:=ff eC _ mW
  have CY:(xs.take i).filter (λx=> !p x)=xs.take i:=filter_none λj x a'=>by
   rw [Ep]at a'
   split at a'
   ·exact cz j x (by assumption) a'
   ·cases a'
  refine⟨λvs H'=>match vs with|[.int _ i,.int _ j]=>∃(k m:Nat) (ws:List bC),i=k/\j=m/\k<m/\m<=n/\Own encS 113 base H' a n c ws/\ws.take k=(xs.take m).filter (λx=> !p x)/\ws.drop m=xs.drop m/\Fr (ax a) H H'|_=>False,
   λvs _=>match vs with|[_,.int _ i]=>n-i.toNat|_=>0,⟨i,i+1,xs,rfl,rfl,by omega,by omega,an.ab b9,?_,rfl,w7⟩,?_⟩
  ·rw [ats,mW,auV,CY]
   simp [Aj]
  ·rintro bm i' dK ao ⟨k,m,ws,rfl,rfl,CZ,ou,ku,e8,ll,bt⟩
   have Kg:=ku.1
   refine ai (λaD=> ?_) (λaD=> ?_)
   ·have bT:m<n:=by simpa using aD
    have ov:xs[m]?=some (xs[m]'(by omega)):=by simp
    have w8:ws[m]?=some (xs[m]'(by omega)):=by
     have:=congrArg (λl=>l[0]?) ll
     simp only [VG,Nat.add_zero]at this
     rw [this,ov]
    have rD:xs.take (m+1)=xs.take m++[xs[m]'(by omega)]:=by rw [ats,ov];rfl
    have rE:ws.drop (m+1)=xs.drop (m+1):=by
     have:=congrArg (λl=>l.drop 1) ll
     simpa [List.drop_drop]using this
    generalize xs[m]'(by omega)=y at ov w8 rD
    rw [b6 (by omega),b6 (by omega)]
    refine ku.bL.get rfl w8 (decide_eq_true (by omega)) λal bS ak=>⟨_,_,gx ak,?_⟩
    refine ia (by kernel_rfl) (by kernel_rfl) (by simp [atq,avm]) rfl λb aF ah bK bG=> ?_
    have ow:∀{H':J},Fr [] aF H'->cR atf 113 H' ⟨b,0,none⟩ (e5 y):=λaf=>(bK.ab af).vf (j:=0) (us:=[.int .i64 y.1,.int .i64 y.2]) (by kernel_rfl) (by kernel_rfl) rfl
    refine⟨_,_,ow (Fr.refl _ _),?_⟩
    have w9:Fr (ax a) H aF:=bt.trans' bG (λ_ h _=>h) (by simp)
    refine dz y aF _ (b4 _ w9) λaN bU=> ?_
    have kJ:Fr (ax a) H aN:=w9.trans' bU (λ_ h _=>h) (by simp)
    have pW:=(ku.ab bG).ab bU
    refine ai (λh1=> ?_) (λh1=> ?_)
    ·refine⟨_,_,ow bU,?_⟩
     refine qH (E:=encS) y pW rfl (by omega) (decide_eq_true (by omega)) rfl (by kernel_rfl) (by kernel_rfl) λbw yA bW=>⟨⟨k+1,m+1,_,rfl,rfl,by omega,by omega,yA,?_,?_,kJ.trans' bW (λ_ h _=>h) (λ_ h _=>h)⟩,cJ bT⟩
     ·rw [rD,auV,MX,if_pos h1,<-e8,ats,avH (nQ _),avI (by omega)]
      rfl
     ·rw [avJ (by omega),rE]
    ·refine⟨⟨k,m+1,ws,rfl,rfl,by omega,by omega,pW,?_,rE,kJ⟩,cJ bT⟩
     rw [rD,auV,MX,if_neg (by simpa using h1),e8]
     simp
   ·have C0:m=n:=by simp at aD;omega
    subst C0
    have x4:=ku.bL.cap
    refine gC ⟨by omega,by omega,by omega⟩ ?_
    simp only [asD]
    refine Gt (E:=encS) nZ QO rfl (by simp [avm]) ku (by omega) λaF how3 bG=>gC ⟨by omega,by omega,by omega⟩ ?_
    refine⟨_,_,_,rfl,hk _ aF ?_ (by omega) (bt.trans' bG (λ_ h _=>h) (λ_ h _=>h))⟩
    rw [e8,asG (by omega)]at how3
    simpa using how3
 ·rw [if_neg eC]
  refine ai (λ_=>⟨_,_,_,rfl,hk n H1 ?_ (nQ _) w7⟩) (λh=>by simp at h)
  rw [filter_none λj x a'=>cz j x (by have:=(qb.1 a').1;omega) a']
  exact an.ab b9
theorem r9{a:Option Addr}{xs:List bC}{K:Option Addr->Nat->Nat->J->Prop}(aa:bk encS H a n c xs)(ay:n<=1000000000)
  (hk:∀aK aQ aT H',Own encS 113 H.size H' aK aQ aT xs->Fr [] H H'->K aK aQ aT H'):
  aY atf QG ⟨[.slice a n c]⟩ H λv H'=>∃a n c,v=.slice a n c/\K a n c H':=by
 apply QH
 refine ai (λh=>⟨_,_,_,rfl,?_⟩) (λh b H1 aB=> ?_)
 ·have:a=none:=by simpa using h
  subst this
  have kM:xs=[]:=by
   rcases aa.arr with h|⟨_,_,e,_⟩
   ·exact h
   ·cases e
  subst kM
  exact hk none 0 0 H (Own.nil _ _ _ _) (Fr.refl _ _)
 ·have kG:Own encS 113 H.size H1 (some ⟨b,0,none⟩) 0 0 []:=Own.made encS 113 aB (nQ _)
  refine pD (E:=encS) nZ xa kG aB.ag (aa.ab aB.ag) (by omega) λo p q ao an af _=>⟨_,_,_,rfl,hk _ _ _ _ an af⟩
theorem QP{a:Option Addr}{xs:List bC}{f t:Int}{K:Option Addr->Nat->Nat->J->Prop}(aa:bk encS H a n c xs)(ay:n<=1000000000)
  (hk:∀aK aQ aT H',Own encS 113 H.size H' aK aQ aT (xs.filter (nI f t))->Fr [] H H'->K aK aQ aT H'):
  aY atf afc ⟨[.slice a n c,fJ f t]⟩ H λv H'=>∃a n c,v=.slice a n c/\K a n c H':=by
 apply afd
 intro b H1 aB
 refine⟨_,_,aB.bo.vf (j:=0) (us:=[.int .i64 f,.int .i64 t]) (by kernel_rfl) (by kernel_rfl) rfl,?_⟩
 refine wY λao b2 b8 w3 bt=> ?_
 refine ia (by kernel_rfl) (by kernel_rfl) (by simp [atq,avm]) rfl λcX aF dQ sF bG=> ?_
 have nu:Fr [] H aF:=(aB.ag.aw bt).aw bG
 refine r9 (aa.ab nu) ay λo p q aN an bU=> ?_
 have bh:=an.1
 have gE:=aa.len
 have od:b2<aF.size:=(w3.ab bG).lt
 have CQ:cX<aF.size:=sF.lt
 have dz:=afa (b:=cX) (QM (f:=f) (t:=t) (b:=b2)) (λH H' h af=>h.ab af) rfl
 refine CX dz (λbw bW=>⟨?_,?_⟩) an (by omega) λaQ bw ey uF bW=>⟨_,_,_,rfl,hk _ _ _ _ ?_ ?_⟩
 ·refine(((w3.ab bG).ab bU)).ag bW λh=> ?_
  have:=(an.ge _ h).1
  simp at this
  omega
 ·refine(sF.ab bU).ag bW λh=> ?_
  have:=(an.ge _ h).1
  simp at this
  omega
 ·simp only [Bool.not_not]at ey
  exact ey.base nu.size
 ·exact(nu.aw bU).ab bW λk hk=>VF nu.size (an.ge k hk).1
theorem afe{a:Option Addr}{xs:List bC}{f t:Int}{K:Option Addr->Nat->Nat->J->Prop}(aa:bk encS H a n c xs)(ay:n<=1000000000)
  (hk:∀aK aQ aT H',Own encS 113 H.size H' aK aQ aT (xs.filter (λx=> !nI f t x))->Fr [] H H'->K aK aQ aT H'):
  aY atf aff ⟨[.slice a n c,fJ f t]⟩ H λv H'=>∃a n c,v=.slice a n c/\K a n c H':=by
 apply afg
 intro b H1 aB
 have gE:=aa.len
 refine⟨_,_,aB.bo.vf (j:=0) (us:=[.int .i64 f,.int .i64 t]) (by kernel_rfl) (by kernel_rfl) rfl,?_⟩
 refine r9 (aa.ab aB.ag) ay λo p q ao an bt=>⟨(aB.bo.ab bt).vf (j:=0) (us:=[.int .i64 f,.int .i64 t]) (by kernel_rfl) (by kernel_rfl) rfl,?_⟩
 have bh:=an.1
 refine wY λaF cX dQ sF bG=> ?_
 refine CX (QM (f:=f) (t:=t) (b:=cX)) (λbw bW=> ?_) (an.ab bG) (by omega) λaQ bw ey uF bW=>⟨_,_,_,rfl,hk _ _ _ _ (ey.base aB.ag.size) ?_⟩
 ·refine sF.ag bW λh=> ?_
  have:=(an.ge _ h).2
  simp at this
  omega
 ·exact((aB.ag.aw bt).aw bG).ab bW λk hk=>VF aB.ag.size (an.ge k hk).1
end Go.Proofs.bb
namespace Go.Proofs
def fB(l:List bC):Prop:=l.Pairwise λx y=>x.1<=y.1
def ep(l m:List bC):Prop:=∀t,l.filter (λx=>decide (x.1=t))=m.filter (λx=>decide (x.1=t))
theorem ep.refl(l:List bC):ep l l:=λ_=>rfl
theorem ep.trans{l m k:List bC}(h:ep l m)(h':ep m k):ep l k:=λt=>(h t).trans (h' t)
theorem ep.app{l m lP m':List bC}(h:ep l m)(h':ep lP m'):ep (l++lP) (m++m'):=λt=>by rw [auV,auV,h t,h' t]
theorem ep.mem{l m:List bC}(h:ep l m){x:bC}:x∈l↔x∈m:=by
 have e:=h x.1
 constructor
 ·intro aa
  have:x∈l.filter (λy=>decide (y.1=x.1)):=VD.2 ⟨aa,by simp⟩
  rw [e]at this;exact(VD.1 this).1
 ·intro aa
  have:x∈m.filter (λy=>decide (y.1=x.1)):=VD.2 ⟨aa,by simp⟩
  rw [<-e]at this;exact(VD.1 this).1
theorem ep.swap{A B:List bC}(h:∀x∈A,∀y∈B,y.1<x.1):ep (A++B) (B++A):=λt=>by
 rw [auV,auV]
 by_cases e0:A.filter (λx=>decide (x.1=t))=[]
 ·rw [e0];simp
 ·by_cases bK:B.filter (λx=>decide (x.1=t))=[]
  ·rw [bK];simp
  ·obtain⟨x,aa⟩:=avw _ e0
   obtain⟨y,av⟩:=avw _ bK
   have h1:=VD.1 aa
   have ae:=VD.1 av
   have:=h x h1.1 y ae.1
   have bc:=of_decide_eq_true h1.2
   have bN:=of_decide_eq_true ae.2
   omega
theorem ep.QT{A:List bC}{y:bC}(h:∀x∈A,y.1<x.1):ep (A++[y]) (y::A):=ep.swap (B:=[y]) λx aa z aC=>by simp at aC;subst aC;exact h x aa
theorem ep.front{B:List bC}{x:bC}(h:∀y∈B,y.1<x.1):ep (x::B) (B++[x]):=ep.swap (A:=[x]) λz aC y av=>by simp at aC;subst aC;exact h y av
theorem ep.length{l m:List bC}(h:ep l m):l.length=m.length:=by
 induction l generalizing m with
 |nil=>
  cases m with
  |nil=>rfl
  |cons y m=>have:=(h.mem (x:=y)).2 (by simp);simp at this
 |cons x l ih=>
  have aa:=(h.mem (x:=x)).1 (by simp)
  have:∃u v,m=u++x::v/\∀y∈u,y.1≠x.1:=by
   have e:=h x.1
   rw [MX,if_pos (by simp)]at e
   clear ih h aa
   induction m with
   |nil=>simp at e
   |cons z m ahh=>
    rw [MX]at e
    split at e
    ·rename_i aC
     simp only [List.cons.injEq]at e
     exact⟨[],m,by rw [e.1];rfl,by simp⟩
    ·rename_i aC
     obtain⟨u,v,rfl,hu⟩:=ahh e
     refine⟨z::u,v,rfl,λy av=> ?_⟩
     rcases o3.1 av with rfl|av
     ·simpa using aC
     ·exact hu y av
  obtain⟨u,v,rfl,hu⟩:=this
  have h':ep l (u++v):=λt=>by
   have e:=h t
   rw [MX,auV,MX]at e
   rw [auV]
   by_cases bf:x.1=t
   ·subst bf
    rw [if_pos (by simp),if_pos (by simp)]at e
    have:u.filter (λy=>decide (y.1=x.1))=[]:=List.filter_eq_nil_iff.2 λy av=>by simpa using hu y av
    rw [this]at e⊢
    simpa using e
   ·rw [if_neg (by simpa using bf),if_neg (by simpa using bf)]at e
    exact e
  have:=ih h'
  simp at this⊢;omega
theorem GB{A B:List bC}(e0:fB A)(bK:fB B)(h:∀x∈A,∀y∈B,x.1<=y.1):fB (A++B):=avk.2 ⟨e0,bK,h⟩
theorem fB.left{A B:List bC}(h:fB (A++B)):fB A:=(avk.1 h).1
theorem fB.right{A B:List bC}(h:fB (A++B)):fB B:=(avk.1 h).2.1
theorem fB.An{A B:List bC}(h:fB (A++B)):∀x∈A,∀y∈B,x.1<=y.1:=(avk.1 h).2.2
theorem fB.le{l:List bC}(h:fB l){i j:Nat}{x y:bC}(mD:i<=j)(aa:l[i]?=some x)(av:l[j]?=some y):x.1<=y.1:=by
 rcases atv i j with h1|h1
 ·obtain⟨az,rfl⟩:=qb.1 aa
  obtain⟨a',rfl⟩:=qb.1 av
  exact avK.1 h i j az a' h1
 ·have:i=j:=by omega
  subst this
  rw [aa]at av;cases av;exact Int.le_refl _
theorem afI{A B:List bC}(e0:fB A)(bK:fB B)(h:∀x y,A.getLast?=some x->B.head?=some y->x.1<=y.1):∀x∈A,∀y∈B,x.1<=y.1:=λx aa y av=>by
 have xe:A≠[]:=by intro e;subst e;cases aa
 have xf:B≠[]:=by intro e;subst e;cases av
 obtain⟨i,az⟩:=avg aa
 obtain⟨j,a'⟩:=avg av
 have aqX:=(qb.1 az).1
 have h1:x.1<=(A.getLast xe).1:=e0.le (i:=i) (j:=A.length-1) (by omega) az (by rw [<-avn];exact avo xe)
 obtain⟨b,Js,rfl⟩:=avL xf
 have ae:b.1<=y.1:=bK.le (i:=0) (j:=j) (apG _) rfl a'
 have:=h _ b (avo xe) rfl
 omega
theorem afL{A B:List bC}(e0:fB A)(bK:fB B)(h:∀x y,A.head?=some x->B.getLast?=some y->y.1<x.1):∀x∈A,∀y∈B,y.1<x.1:=λx aa y av=>by
 have xe:A≠[]:=by intro e;subst e;cases aa
 have xf:B≠[]:=by intro e;subst e;cases av
 obtain⟨i,az⟩:=avg aa
 obtain⟨j,a'⟩:=avg av
 have aqY:=(qb.1 a').1
 have h1:y.1<=(B.getLast xf).1:=bK.le (i:=j) (j:=B.length-1) (by omega) a' (by rw [<-avn];exact avo xf)
 obtain⟨a,eM,rfl⟩:=avL xe
 have ae:a.1<=x.1:=e0.le (i:=0) (j:=i) (apG _) rfl az
 have:=h a _ rfl (avo xf)
 omega
def RM(l m:List bC)(a b:Nat):Prop:=∃P s s' Q,l=P++s++Q/\m=P++s'++Q/\P.length=a/\a+s.length=b/\fB s'/\ep s s'
theorem RM.len{l m:List bC}{a b:Nat}(h:RM l m a b):m.length=l.length:=by
 obtain⟨P,s,s',Q,rfl,rfl,_,_,_,h⟩:=h
 have:=h.length
 simp only [VH];omega
end Go.Proofs
namespace Go.Proofs.bb
variable{H:J}{a:Option Addr}{c n k p q m:Nat}{al:Addr}
theorem xc{A B:List bC}{w:bC}(h:A.length=k):(A++w::B)[k]?=some w:=by subst h;simp
theorem Gz{A B:List bC}{w x:bC}(h:A.length+1=k):(A++w::x::B)[k]?=some x:=by
 subst h
 rw [asX (by omega)]
 simp
theorem Am{A B:List bC}{w y:bC}(h:A.length=k):(A++w::B).set k y=A++y::B:=by subst h;simp
theorem QQ{A B:List bC}{w x y:bC}(h:A.length+1=k):(A++w::x::B).set k y=A++w::y::B:=by
 subst h
 rw [List.set_append_right _ _ (by omega)]
 simp
theorem lN{x y:Int}:gX x y<0↔x<y:=by unfold gX;split<;>(try split)<;>omega
theorem QR{base:Nat}{A B L:List bC}{w x:bC}{i1 i2:Int}{X:J->Prop}(an:Own encS 113 base H a n c L)(hd:L=A++w::x::B)(e0:A.length=k)(bc:i1=((k+1:Nat):Int))(bN:i2=(k:Int))(b1 b2:Bool)(h1:b1=true)(ae:b2=true)
  (hk:∀H',Own encS 113 base H' a n c (A++x::w::B)->Fr (ax a) H H'->X H'):
  eO a λal=>da b1 (∃ft,fb atf 113 H (Addr.add al (i1.toNat *2)) (e5 w) ft/\eO a λal=>da b2 (∃H',fb atf 113 ft (Addr.add al (i2.toNat *2)) (e5 x) H'/\X H')):=by
 subst hd bc bN
 have aH:=an.1
 simp at aH
 refine qH (E:=encS) (k:=k+1) w an rfl (by omega) h1 rfl (by kernel_rfl) (by kernel_rfl) λao de bt=> ?_
 rw [QQ (by omega)]at de
 refine qH (E:=encS) (k:=k) x de rfl (by omega) ae rfl (by kernel_rfl) (by kernel_rfl) λaF eN bG=> ?_
 rw [Am e0]at eN
 exact hk aF eN (bt.trans' bG (λ_ h _=>h) (λ_ h _=>h))
theorem QS{order:Value}(dc:xb order){base:Nat}{P s Q:List bC}{K:J->Prop}(aa:Own encS 113 base H a n c (P++s++Q))(bh:P.length=p)(a1:p+s.length=q)(ay:n<=1000000000)
  (hk:∀H' s',Own encS 113 base H' a n c (P++s'++Q)->fB s'->ep s s'->Fr (ax a) H H'->K H'):
  aY atf afh ⟨[.slice a n c,.int .i64 p,.int .i64 q,order]⟩ H λv H'=>v=.tuple ⟨[]⟩/\K H':=by
 apply afi
 have aH:=aa.1
 simp at aH
 rw [b6 (by omega)]
 refine⟨λvs H'=>match vs with
   |[.int _ i]=>∃(u l3 v:List bC),i=((p+u.length:Nat):Int)/\(s=u++v\/(s=[]/\l3=[]/\v=[]/\u.length=1))/\1<=u.length/\Own encS 113 base H' a n c (P++(l3++v)++Q)/\fB l3/\(s≠[]->ep u l3)/\Fr (ax a) H H'
   |_=>False,
  λvs _=>match vs with|[.int _ i]=>q+1-i.toNat|_=>0,?_,?_⟩
 ·cases s with
  |nil=>exact⟨[(0,0)],[],[],rfl,.inr ⟨rfl,rfl,rfl,rfl⟩,nQ _,aa,List.Pairwise.nil,λh=>absurd rfl h,Fr.refl _ _⟩
  |cons x s=>exact⟨[x],[x],s,rfl,.inl rfl,nQ _,aa,by simp [fB],λ_=>ep.refl _,Fr.refl _ _⟩
 rintro bm i H1 ⟨u,l3,v,rfl,hs,tR,an,bI,bK,af⟩
 refine ai (λaD=> ?_) (λaD=> ?_)
 ·have bT:p+u.length<q:=by simp at aD;omega
  rcases hs with hs|⟨rfl,_,_,h1⟩
  rotate_left
  ·simp at a1;omega
  have ij:s≠[]:=by intro e;subst e;simp at a1;omega
  have bK:=bK ij
  have z8:=bK.length
  cases v with
  |nil=>subst hs;simp at a1;omega
  |cons x v=>
   have kV:=an.1
   simp only [VH,asE]at kV
   refine⟨λvs H'=>match vs with
     |[.int _ j]=>∃bJ V:List bC,l3=bJ++V/\j=((p+bJ.length:Nat):Int)/\(∀w∈V,x.1<w.1)/\Own encS 113 base H' a n c (P++(bJ++x::V++v)++Q)/\Fr (ax a) H H'
     |_=>False,
    λvs _=>match vs with|[.int _ j]=>j.toNat|_=>0,⟨l3,[],by simp,by rw [z8],by simp,by simpa using an,af⟩,?_⟩
   rintro bm j ao ⟨bJ,V,rfl,rfl,tn,de,bt⟩
   rw [VH]at z8
   have fin:∀{aF:J},Own encS 113 base aF a n c (P++(bJ++x::V++v)++Q)->Fr (ax a) H aF->(∀w∈bJ,w.1<=x.1)→
     (∃(C6 GA jG:List bC),IntKind.i64.wrap (((p+u.length:Nat):Int)+1)=((p+C6.length:Nat):Int)/\(s=C6++jG\/(s=[]/\GA=[]/\jG=[]/\C6.length=1))/\1<=C6.length/\Own encS 113 base aF a n c (P++(GA++jG)++Q)/\fB GA/\(s≠[]->ep C6 GA)/\Fr (ax a) H aF)/\q+1-(IntKind.i64.wrap (((p+u.length:Nat):Int)+1)).toNat<q+1-(((p+u.length:Nat):Int)).toNat:=λeN bG lp=>by
    rw [b6 (by omega)]
    refine⟨⟨u++[x],bJ++x::V,v,by simp;omega,.inl (by rw [hs];simp),by simp,eN,?_,λ_=> ?_,bG⟩,by omega⟩
    ·refine GB bI.left (ave.2 ⟨λw hw=>avp (tn w hw),bI.right⟩) λw hw z aC=> ?_
     rcases o3.1 aC with rfl|aC
     ·exact lp w hw
     ·exact bI.An w hw z aC
    ·refine(bK.app (ep.refl [x])).trans ?_
     rw [ar8]
     exact(ep.refl bJ).app (ep.QT tn)
   refine⟨λ_ H'=>∃kN w,bJ=kN++[w]/\x.1<w.1/\Own encS 113 base H' a n c (P++(bJ++x::V++v)++Q)/\Fr (ax a) H H',?_,?_⟩
   ·refine ai (λh1=> ?_) (λh1=>fin de bt λw hw=> ?_)
    ·have QU:0<bJ.length:=by simp at h1;omega
     obtain⟨kN,w,rfl⟩:∃kN w,bJ=kN++[w]:=⟨bJ.dropLast,bJ.getLast (by intro e;subst e;simp at QU),(avx _).symm⟩
     have hd:P++(kN++[w]++x::V++v)++Q=(P++kN)++w::x::(V++v++Q):=by simp
     simp only [VH,asE,atc]at z8 bT QU⊢
     rw [show p+(kN.length+(0+1))=(p+kN.length)+1 by omega,pJ (by omega) (by omega)]
     refine de.bL.get (k:=p+kN.length+1) rfl (by rw [hd];exact Gz (by simp;omega)) (decide_eq_true (by omega)) λal bS ak=>⟨_,_,gx ak,?_⟩
     refine de.bL.get (k:=p+kN.length) (by omega) (by rw [hd];exact xc (by simp;omega)) (decide_eq_true (by omega)) λal bS ak=>⟨_,_,gx ak,?_⟩
     refine dc x w ao _ λaF bG=>ai (λae=>⟨kN,w,rfl,lN.1 (of_decide_eq_true ae),de.ab bG,bt.trans' bG (λ_ h _=>h) (by simp)⟩) (λae=> ?_)
     have iR:¬x.1<w.1:=λh=>of_decide_eq_false ae (lN.2 h)
     have:=fin (de.ab bG) (bt.trans' bG (λ_ h _=>h) (by simp)) λz aC=>by
      rcases asU.1 aC with aC|aC
      ·have:=bI.left.An z aC w (by simp)
       omega
      ·simp at aC;subst aC;omega
     exact this
    ·have:bJ=[]:=asF (by simp at h1;omega)
     subst this;cases hw
   ·rintro bm aF ⟨kN,w,rfl,afj,eN,bG⟩
    have hd:P++(kN++[w]++x::V++v)++Q=(P++kN)++w::x::(V++v++Q):=by simp
    simp only [VH,asE,atc]at z8 bT⊢
    rw [show p+(kN.length+(0+1))=(p+kN.length)+1 by omega,pJ (by omega) (by omega)]
    refine eN.bL.get (k:=p+kN.length) (by omega) (by rw [hd];exact xc (by simp;omega)) (decide_eq_true (by omega)) λal bS ak=>⟨_,_,gx ak,?_⟩
    refine eN.bL.get (k:=p+kN.length+1) rfl (by rw [hd];exact Gz (by simp;omega)) (decide_eq_true (by omega)) λal bS ak=>⟨_,_,gx ak,?_⟩
    refine QR (k:=p+kN.length) eN hd (by simp;omega) rfl (by omega) _ _ (decide_eq_true (by omega)) (decide_eq_true (by omega)) λaN eV bU=> ?_
    refine⟨⟨kN,w::V,by simp,by omega,λz aC=> ?_,by simpa using eV,bG.trans' bU (λ_ h _=>h) (λ_ h _=>h)⟩,?_⟩
    ·rcases o3.1 aC with rfl|aC
     ·exact afj
     ·exact tn z aC
    ·show(((p+kN.length+1-1:Nat):Int)).toNat<(((p+kN.length+1:Nat):Int)).toNat
     omega
 ·rcases hs with hs|⟨rfl,rfl,rfl,h1⟩
  ·have aI:v=[]:=asF (by subst hs;simp at a1 aD;omega)
   subst aI
   rw [as0]at hs an
   subst hs
   have ij:s≠[]:=by intro e;subst e;simp at tR
   exact⟨rfl,hk H1 l3 an bI (bK ij) af⟩
  ·exact⟨rfl,hk H1 [] an List.Pairwise.nil (ep.refl _) af⟩
theorem Ko{order:Value}{base:Nat}{L P X M Y Q:List bC}{K:J->Prop}(aa:Own encS 113 base H a n c L)(hd:L=P++(X++(M++(Y++Q))))(bh:P.length=p)(a1:p+X.length+M.length=q)(GC:X.length=Y.length)(ay:n<=1000000000)
  (hk:∀H',Own encS 113 base H' a n c (P++(Y++(M++(X++Q))))->Fr (ax a) H H'->K H'):
  aY atf afk ⟨[.slice a n c,.int .i64 p,.int .i64 q,.int .i64 X.length,order]⟩ H λv H'=>v=.tuple ⟨[]⟩/\K H':=by
 apply afl
 have aH:=aa.1
 subst hd
 simp only [VH]at aH
 refine⟨λvs H'=>match vs with
   |[.int _ i]=>∃(iw lq lO lr:List bC),i=(iw.length:Int)/\X=iw++lq/\Y=lO++lr/\iw.length=lO.length/\Own encS 113 base H' a n c (P++(lO++(lq++(M++(iw++(lr++Q))))))/\Fr (ax a) H H'
   |_=>False,
  λvs _=>match vs with|[.int _ i]=>X.length-i.toNat|_=>0,⟨[],X,[],Y,rfl,rfl,rfl,rfl,aa,Fr.refl _ _⟩,?_⟩
 rintro bm i H1 ⟨iw,lq,lO,lr,rfl,rfl,rfl,YX,an,af⟩
 simp only [VH]at GC a1 aH
 have Kp:IntKind.i64.wrap ((q:Int)+(iw.length:Nat))=((q+iw.length:Nat):Int):=by rw [dv (by omega) (by omega)];omega
 have yy:IntKind.i64.wrap ((p:Int)+(iw.length:Nat))=((p+iw.length:Nat):Int):=by rw [dv (by omega) (by omega)];omega
 refine ai (λaD=> ?_) (λaD=> ?_)
 ·have bT:iw.length<iw.length+lq.length:=by simp at aD;omega
  cases lq with
  |nil=>simp at bT
  |cons x lq=>
   cases lr with
   |nil=>simp at GC;omega
   |cons y lr=>
    simp only [asE]at GC a1 aH
    rw [Kp,yy]
    have bc:P++(lO++(x::lq++(M++(iw++(y::lr++Q)))))=(P++lO++x::lq++M++iw)++y::(lr++Q):=by simp
    have bN:P++(lO++(x::lq++(M++(iw++(y::lr++Q)))))=(P++lO)++x::(lq++M++iw++y::(lr++Q)):=by simp
    refine an.bL.get (k:=q+iw.length) rfl (by rw [bc];exact xc (by simp;omega)) (decide_eq_true (by omega)) λal bS ak=>⟨_,_,gx ak,?_⟩
    refine an.bL.get (k:=p+iw.length) rfl (by rw [bN];exact xc (by simp;omega)) (decide_eq_true (by omega)) λal bS ak=>⟨_,_,gx ak,?_⟩
    refine qH (E:=encS) (k:=p+iw.length) y an rfl (by omega) (decide_eq_true (by omega)) rfl (by kernel_rfl) (by kernel_rfl) λao de bt=> ?_
    rw [bN,Am (by simp;omega)]at de
    have dP:(P++lO)++y::(lq++M++iw++y::(lr++Q))=(P++lO++y::lq++M++iw)++y::(lr++Q):=by simp
    refine qH (E:=encS) (k:=q+iw.length) x de rfl (by omega) (decide_eq_true (by omega)) rfl (by kernel_rfl) (by kernel_rfl) λaF eN bG=> ?_
    rw [dP,Am (by simp;omega)]at eN
    rw [b6 (by omega)]
    refine⟨⟨iw++[x],lq,lO++[y],lr,by simp,by simp,by simp,by simp;omega,by simpa using eN,(af.trans' bt (λ_ h _=>h) (λ_ h _=>h)).trans' bG (λ_ h _=>h) (λ_ h _=>h)⟩,cJ (by simp)⟩
 ·have afm:lq=[]:=asF (by simp at aD;omega)
  subst afm
  have GD:lr=[]:=asF (by simp at GC;omega)
  subst GD
  simp only [as0,as8]at an hk
  exact⟨rfl,hk H1 an af⟩
theorem afn{order:Value}{base:Nat}{L P X Y Q:List bC}{K:J->Prop}(aa:Own encS 113 base H a n c L)(hd:L=P++(X++(Y++Q)))(bh:P.length=p)(hm:p+X.length=m)(a1:m+Y.length=q)(gU:0<X.length)(sh:0<Y.length)(ay:n<=1000000000)
  (hk:∀H',Own encS 113 base H' a n c (P++(Y++(X++Q)))->Fr (ax a) H H'->K H'):
  aY atf afo ⟨[.slice a n c,.int .i64 p,.int .i64 m,.int .i64 q,order]⟩ H λv H'=>v=.tuple ⟨[]⟩/\K H':=by
 apply afp
 have aH:=aa.1
 subst hd
 simp only [VH]at aH
 have Kp:IntKind.i64.wrap ((m:Int)-p)=((X.length:Nat):Int):=by rw [dv (by omega) (by omega)];omega
 have yy:IntKind.i64.wrap ((q:Int)-m)=((Y.length:Nat):Int):=by rw [dv (by omega) (by omega)];omega
 rw [Kp,yy]
 refine⟨λvs H'=>match vs with
   |[.int _ i,.int _ j]=>∃(tS X' jU xd:List bC),i=(X'.length:Int)/\j=(jU.length:Int)/\0<X'.length/\0<jU.length/\tS.length+X'.length=m/\tS++(jU++(X'++xd))=P++(Y++(X++Q))/\Own encS 113 base H' a n c (tS++(X'++(jU++xd)))/\Fr (ax a) H H'
   |_=>False,
  λvs _=>match vs with|[.int _ i,.int _ j]=>i.toNat+j.toNat|_=>0,⟨P,X,Y,Q,rfl,rfl,gU,sh,by omega,rfl,aa,Fr.refl _ _⟩,?_⟩
 rintro bm i j H1 ⟨tS,X',jU,xd,rfl,rfl,afq,afr,afs,Kq,an,af⟩
 have dk:=an.1
 simp only [VH]at dk
 have vh:IntKind.i64.wrap ((m:Int)-(X'.length:Nat))=((tS.length:Nat):Int):=by rw [dv (by omega) (by omega)];omega
 refine ai (λaD=> ?_) (λaD=> ?_)
 ·have bT:X'.length≠jU.length:=by intro e;rw [e]at aD;simp at aD
  rw [vh]
  refine ai (λh1=> ?_) (λh1=> ?_)
  ·have gp:jU.length<X'.length:=by simpa using h1
   obtain⟨iw,lq,rfl,GF⟩:∃iw lq,X'=iw++lq/\iw.length=jU.length:=⟨X'.take jU.length,X'.drop jU.length,(auP _ _).symm,by simp;omega⟩
   simp only [VH]at afs afq gp dk
   have vi:IntKind.i64.wrap (((iw++lq).length:Nat)-((jU.length:Nat):Int))=((lq.length:Nat):Int):=by rw [VH,dv (by omega) (by omega)];omega
   rw [vi,<-GF]
   refine Ko (P:=tS) (X:=iw) (M:=lq) (Y:=jU) (Q:=xd) an (by simp) rfl (by omega) GF ay λao de bt=> ?_
   rw [GF]
   refine⟨⟨tS++jU,lq,iw,xd,rfl,by rw [GF],by omega,by omega,by simp;omega,by rw [<-Kq];simp,by simpa using de,af.trans' bt (λ_ h _=>h) (λ_ h _=>h)⟩,?_⟩
   simp only [VH];omega
  ·have gp:X'.length<jU.length:=by simp at h1;omega
   obtain⟨lO,lr,rfl,GD⟩:∃lO lr,jU=lO++lr/\lr.length=X'.length:=⟨jU.take (jU.length-X'.length),jU.drop (jU.length-X'.length),(auP _ _).symm,by simp;omega⟩
   simp only [VH]at afr gp dk
   have vi:IntKind.i64.wrap (((lO++lr).length:Nat)-((X'.length:Nat):Int))=((lO.length:Nat):Int):=by rw [VH,dv (by omega) (by omega)];omega
   have aft:IntKind.i64.wrap (IntKind.i64.wrap ((m:Int)+(((lO++lr).length:Nat):Int))-(X'.length:Nat))=((m+lO.length:Nat):Int):=by
    rw [VH,dv (n:=(m:Int)+_) (by omega) (by omega),dv (by omega) (by omega)];omega
   rw [vi,aft]
   refine Ko (P:=tS) (X:=X') (M:=lO) (Y:=lr) (Q:=xd) an (by simp) rfl (by omega) GD.symm ay λao de bt=> ?_
   refine⟨⟨tS,lr,lO,X'++xd,by rw [GD],rfl,by omega,by omega,by omega,by rw [<-Kq];simp,by simpa using de,af.trans' bt (λ_ h _=>h) (λ_ h _=>h)⟩,?_⟩
   simp only [VH];omega
 ·have bT:X'.length=jU.length:=by simp at aD;omega
  rw [vh]
  refine Ko (P:=tS) (X:=X') (M:=[]) (Y:=jU) (Q:=xd) an (by simp) rfl (by simp;omega) bT ay λao de bt=>⟨rfl,?_⟩
  refine hk ao ?_ (af.trans' bt (λ_ h _=>h) (λ_ h _=>h))
  rw [<-Kq];simpa using de
theorem afu:(2:Int)^min (Int.toNat 1) (IntKind.bits IntKind.u64)=2^1:=by decide
theorem Ao{i j:Nat}(h:i+j<=4000000000):IntKind.i64.wrap (Int.fdiv (IntKind.u64.wrap (IntKind.i64.wrap ((i:Int)+(j:Int)))) (2^1))=(((i+j)/2:Nat):Int):=by
 rw [dv (n:=(i:Int)+j) (by omega) (by omega)]
 have:IntKind.u64.wrap ((i:Int)+(j:Int))=((i+j:Nat):Int):=by
  rw [show(i:Int)+(j:Int)=((i+j:Nat):Int) by omega]
  exact IntWalk.u64_in _ ⟨by omega,by omega⟩
 rw [this,show((2:Int)^1)=((2:Nat):Int) by decide,Int.fdiv_eq_ediv_of_nonneg _ (by omega),<-Int.natCast_ediv]
 exact dv (by omega) (by omega)
theorem afv{base:Nat}{A B L:List bC}{w x:bC}{i1 i2:Int}{X:J->Prop}(an:Own encS 113 base H a n c L)(hd:L=A++x::w::B)(e0:A.length=k)(bc:i1=((k+1:Nat):Int))(bN:i2=(k:Int))(b1 b2:Bool)(h1:b1=true)(ae:b2=true)
  (hk:∀H',Own encS 113 base H' a n c (A++w::x::B)->Fr (ax a) H H'->X H'):
  eO a λal=>da b1 (∃ft,fb atf 113 H (Addr.add al (i2.toNat *2)) (e5 w) ft/\eO a λal=>da b2 (∃H',fb atf 113 ft (Addr.add al (i1.toNat *2)) (e5 x) H'/\X H')):=by
 subst hd bc bN
 have aH:=an.1
 simp at aH
 refine qH (E:=encS) (k:=k) w an rfl (by omega) h1 rfl (by kernel_rfl) (by kernel_rfl) λao de bt=> ?_
 rw [Am (by omega)]at de
 refine qH (E:=encS) (k:=k+1) x de rfl (by omega) ae rfl (by kernel_rfl) (by kernel_rfl) λaF eN bG=> ?_
 rw [QQ (by omega)]at eN
 exact hk aF eN (bt.trans' bG (λ_ h _=>h) (λ_ h _=>h))
theorem afw{bJ V:List bC}{x:bC}(h:fB (bJ++V))(h1:∀u∈bJ,u.1<x.1)(ae:∀v∈V,x.1<=v.1):fB (bJ++x::V)/\ep ([x]++(bJ++V)) (bJ++x::V):=by
 refine⟨GB h.left (ave.2 ⟨ae,h.right⟩) λu hu z aC=> ?_,?_⟩
 ·rcases o3.1 aC with rfl|aC
  ·exact avp (h1 u hu)
  ·exact h.An u hu z aC
 ·have:=(ep.front h1).app (ep.refl V)
  simpa using this
theorem afx{bJ V:List bC}{y:bC}(h:fB (bJ++V))(h1:∀u∈bJ,u.1<=y.1)(ae:∀v∈V,y.1<v.1):fB (bJ++y::V)/\ep ((bJ++V)++[y]) (bJ++y::V):=by
 refine⟨GB h.left (ave.2 ⟨λv aI=>avp (ae v aI),h.right⟩) λu hu z aC=> ?_,?_⟩
 ·rcases o3.1 aC with rfl|aC
  ·exact h1 u hu
  ·exact h.An u hu z aC
 ·have:=(ep.refl bJ).app (ep.QT ae)
  simpa using this
theorem C7{B:List bC}(h:k<=B.length):∃bJ V,B=bJ++V/\bJ.length=k:=⟨B.take k,B.drop k,(auP _ _).symm,by simp;omega⟩
theorem Ap{P A R:List bC}(h:P.length<=k)(ae:k<P.length+A.length):(P++(A++R))[k]?=A[k-P.length]?:=by
 rw [asX h,asW (by omega)]
structure afy(B:List bC)(k:Nat)(v:Int):Prop where
 h:∃z,B[k]?=some z/\z.1<v
structure afz(B:List bC)(k:Nat)(v:Int):Prop where
 h:∃z,B[k]?=some z/\z.1<=v
structure afA(B:List bC)(k:Nat)(v:Int):Prop where
 h:∃z,B[k]?=some z/\v<z.1
structure afB(B:List bC)(k:Nat)(v:Int):Prop where
 h:∃z,B[k]?=some z/\v<=z.1
theorem afC{order:Value}(dc:xb order){base:Nat}{L P B Q:List bC}{x:bC}{K:J->Prop}(an:Own encS 113 base H a n c L)(hd:L=P++([x]++(B++Q)))(bh:P.length=p)(hm:p+1=m)(a1:m+B.length=q)(ay:n<=1000000000)(bK:fB B)
  (hk:∀H' S,Own encS 113 base H' a n c (P++(S++Q))->fB S->ep ([x]++B) S->Fr (ax a) H H'->K H'):
  aY atf Kr ⟨[.slice a n c,.int .i64 p,.int .i64 m,.int .i64 q,order]⟩ H λv H'=>v=.tuple ⟨[]⟩/\K H':=by
 apply Ks
 have aH:=an.1
 subst hd
 simp only [VH,asE,atc]at aH
 have kp:IntKind.i64.wrap ((m:Int)-p)=1:=by rw [dv (by omega) (by omega)];omega
 rw [kp]
 refine ai (λ_=> ?_) (λh=>by simp at h)
 refine⟨λvs H'=>match vs with
   |[.int _ i,.int _ j]=>∃i' dK:Nat,i=i'/\j=dK/\m<=i'/\i'<=dK/\dK<=q/\(i'=m\/afy B (i'-1-m) x.1)/\(dK=q\/afB B (dK-m) x.1)/\Own encS 113 base H' a n c (P++([x]++(B++Q)))/\Fr (ax a) H H'
   |_=>False,
  λvs _=>match vs with|[.int _ i,.int _ j]=>j.toNat-i.toNat|_=>0,⟨m,q,rfl,rfl,by omega,by omega,by omega,.inl rfl,.inl rfl,an,Fr.refl _ _⟩,?_⟩
 rintro bm i j H1 ⟨i',dK,rfl,rfl,h1,ae,au,a6,bu,fw,b9⟩
 refine ai (λaD=> ?_) (λaD=> ?_)
 ·have bT:i'<dK:=by simpa using aD
  rw [Ao (by omega)]
  have vj:i'<=(i'+dK)/2:=by omega
  have yE:(i'+dK)/2<dK:=by omega
  generalize(i'+dK)/2=h at vj yE
  have aC:B[h-m]?=some (B[h-m]'(by omega)):=by simp
  generalize B[h-m]'(by omega)=z at aC
  have Bm:(P++([x]++(B++Q)))[h]?=some z:=by
   rw [<-ar8,Ap (by simp;omega) (by simp;omega)]
   rw [<-aC];congr 1;simp;omega
  refine fw.bL.get (k:=h) rfl Bm (decide_eq_true (by omega)) λal bS ak=>⟨_,_,gx ak,?_⟩
  refine fw.bL.get (k:=p) (x:=x) rfl (by rw [Ap (by omega) (by simp;omega),bh];simp) (decide_eq_true (by omega)) λal bS ak=>⟨_,_,gx ak,?_⟩
  refine dc z x H1 _ λao bt=> ?_
  have de:=fw.ab bt
  have nH:=b9.trans' bt (T:=ax a) (λ_ h _=>h) (by simp)
  rw [b6 (by omega)]
  refine ai (λca=>⟨⟨h+1,dK,rfl,rfl,by omega,by omega,au,.inr ⟨⟨z,aC,lN.1 (of_decide_eq_true ca)⟩⟩,bu,de,nH⟩,?_⟩) (λca=>⟨⟨i',h,rfl,rfl,h1,by omega,by omega,a6,.inr ⟨⟨z,aC,?_⟩⟩,de,nH⟩,?_⟩)
  ·show((dK:Nat):Int).toNat-((h+1:Nat):Int).toNat<((dK:Nat):Int).toNat-((i':Nat):Int).toNat
   omega
  ·have:¬z.1<x.1:=λh=>of_decide_eq_false ca (lN.2 h)
   omega
  ·show((h:Nat):Int).toNat-((i':Nat):Int).toNat<((dK:Nat):Int).toNat-((i':Nat):Int).toNat
   omega
 ·have bT:i'=dK:=by simp at aD;omega
  subst bT
  obtain⟨bJ,V,rfl,lp⟩:=C7 (B:=B) (k:=i'-m) (by omega)
  have Kt:∀u∈bJ,u.1<x.1:=λu hu=>by
   obtain⟨k,hk⟩:=avg hu
   have uM:=(qb.1 hk).1
   rcases a6 with a6|⟨⟨z,aC,a6⟩⟩
   ·omega
   ·have:=bK.le (i:=k) (j:=i'-1-m) (by omega) (by rw [asW uM];exact hk) aC
    omega
  have Ku:∀v∈V,x.1<=v.1:=λv aI=>by
   obtain⟨k,hk⟩:=avg aI
   have uM:=(qb.1 hk).1
   simp only [VH]at a1
   rcases bu with bu|⟨⟨z,aC,bu⟩⟩
   ·omega
   ·have:=bK.le (i:=i'-m) (j:=bJ.length+k) (by omega) aC (by rw [asX (by omega)];rw [<-hk];congr 1;omega)
    omega
  obtain⟨en,gY⟩:=afw bK Kt Ku
  have Kv:IntKind.i64.wrap ((i':Int)-1)=((i'-1:Nat):Int):=pJ (by omega) (by omega)
  rw [Kv]
  simp only [VH]at aH a1
  refine⟨λvs H'=>match vs with
    |[.int _ k]=>∃pY vk:List bC,bJ=pY++vk/\k=((p+pY.length:Nat):Int)/\Own encS 113 base H' a n c (P++pY++x::(vk++(V++Q)))/\Fr (ax a) H H'
    |_=>False,
   λvs _=>match vs with|[.int _ k]=>i'-k.toNat|_=>0,⟨[],bJ,rfl,rfl,by simpa using fw,b9⟩,?_⟩
  rintro bm k ao ⟨pY,vk,rfl,rfl,de,bt⟩
  simp only [VH]at lp aH a1
  refine ai (λdJ=> ?_) (λdJ=> ?_)
  ·have rC:p+pY.length<i'-1:=by simp at dJ;omega
   cases vk with
   |nil=>simp at lp;omega
   |cons w vk=>
    have hd:P++pY++x::(w::vk++(V++Q))=(P++pY)++x::w::(vk++(V++Q)):=by simp
    simp only [asE]at lp aH a1
    rw [b6 (by omega)]
    refine de.bL.get (k:=p+pY.length+1) rfl (by rw [hd];exact Gz (by simp;omega)) (decide_eq_true (by omega)) λal bS ak=>⟨_,_,gx ak,?_⟩
    refine de.bL.get (k:=p+pY.length) rfl (by rw [hd];exact xc (by simp;omega)) (decide_eq_true (by omega)) λal bS ak=>⟨_,_,gx ak,?_⟩
    refine afv (k:=p+pY.length) de hd (by simp;omega) rfl rfl _ _ (decide_eq_true (by omega)) (decide_eq_true (by omega)) λaN eV bU=> ?_
    refine⟨⟨pY++[w],vk,by simp,by simp;omega,by simpa using eV,bt.trans' bU (λ_ h _=>h) (λ_ h _=>h)⟩,?_⟩
    show i'-((p+pY.length+1:Nat):Int).toNat<i'-((p+pY.length:Nat):Int).toNat
    omega
  ·have:vk=[]:=asF (by simp at dJ;omega)
   subst this
   rw [as0]at en gY
   exact⟨rfl,hk ao (pY++x::V) (by simpa using de) en (by simpa using gY) bt⟩
theorem afD{order:Value}(dc:xb order){base:Nat}{L P A Q:List bC}{y:bC}{K:J->Prop}(an:Own encS 113 base H a n c L)(hd:L=P++(A++([y]++Q)))(bh:P.length=p)(hm:p+A.length=m)(a1:m+1=q)(aqB:2<=A.length)(ay:n<=1000000000)(e0:fB A)
  (hk:∀H' S,Own encS 113 base H' a n c (P++(S++Q))->fB S->ep (A++[y]) S->Fr (ax a) H H'->K H'):
  aY atf Kr ⟨[.slice a n c,.int .i64 p,.int .i64 m,.int .i64 q,order]⟩ H λv H'=>v=.tuple ⟨[]⟩/\K H':=by
 apply Ks
 have aH:=an.1
 subst hd
 simp only [VH,asE,atc]at aH
 have Kw:IntKind.i64.wrap ((m:Int)-p)=((A.length:Nat):Int):=by rw [dv (by omega) (by omega)];omega
 have kp:IntKind.i64.wrap ((q:Int)-m)=1:=by rw [dv (by omega) (by omega)];omega
 rw [kp,Kw]
 refine ai (λh=>by simp at h;omega) (λ_=>ai (λ_=> ?_) (λh=>by simp at h))
 refine⟨λvs H'=>match vs with
   |[.int _ i,.int _ j]=>∃i' dK:Nat,i=i'/\j=dK/\p<=i'/\i'<=dK/\dK<=m/\(i'=p\/afz A (i'-1-p) y.1)/\(dK=m\/afA A (dK-p) y.1)/\Own encS 113 base H' a n c (P++(A++([y]++Q)))/\Fr (ax a) H H'
   |_=>False,
  λvs _=>match vs with|[.int _ i,.int _ j]=>j.toNat-i.toNat|_=>0,⟨p,m,rfl,rfl,by omega,by omega,by omega,.inl rfl,.inl rfl,an,Fr.refl _ _⟩,?_⟩
 rintro bm i j H1 ⟨i',dK,rfl,rfl,h1,ae,au,a6,bu,fw,b9⟩
 refine ai (λaD=> ?_) (λaD=> ?_)
 ·have bT:i'<dK:=by simpa using aD
  rw [Ao (by omega)]
  have vj:i'<=(i'+dK)/2:=by omega
  have yE:(i'+dK)/2<dK:=by omega
  generalize(i'+dK)/2=h at vj yE
  have aC:A[h-p]?=some (A[h-p]'(by omega)):=by simp
  generalize A[h-p]'(by omega)=z at aC
  refine fw.bL.get (k:=m) (x:=y) rfl (by rw [<-ar8,Ap (by simp;omega) (by simp;omega)];simp [bh,hm]) (decide_eq_true (by omega)) λal bS ak=>⟨_,_,gx ak,?_⟩
  refine fw.bL.get (k:=h) rfl (by rw [Ap (by omega) (by omega),bh];exact aC) (decide_eq_true (by omega)) λal bS ak=>⟨_,_,gx ak,?_⟩
  refine dc y z H1 _ λao bt=> ?_
  have de:=fw.ab bt
  have nH:=b9.trans' bt (T:=ax a) (λ_ h _=>h) (by simp)
  rw [b6 (by omega)]
  refine ai (λca=>⟨⟨h+1,dK,rfl,rfl,by omega,by omega,au,.inr ⟨⟨z,aC,?_⟩⟩,bu,de,nH⟩,?_⟩) (λca=>⟨⟨i',h,rfl,rfl,h1,by omega,by omega,a6,.inr ⟨⟨z,aC,?_⟩⟩,de,nH⟩,?_⟩)
  ·have:¬y.1<z.1:=λh=>by rw [decide_eq_true (lN.2 h)]at ca;cases ca
   omega
  ·show((dK:Nat):Int).toNat-((h+1:Nat):Int).toNat<((dK:Nat):Int).toNat-((i':Nat):Int).toNat
   omega
  ·have:decide (gX y.1 z.1<0)=true:=by simpa using ca
   exact lN.1 (of_decide_eq_true this)
  ·show((h:Nat):Int).toNat-((i':Nat):Int).toNat<((dK:Nat):Int).toNat-((i':Nat):Int).toNat
   omega
 ·have bT:i'=dK:=by simp at aD;omega
  subst bT
  obtain⟨bJ,V,rfl,lp⟩:=C7 (B:=A) (k:=i'-p) (by omega)
  simp only [VH]at hm aH
  have Kt:∀u∈bJ,u.1<=y.1:=λu hu=>by
   obtain⟨k,hk⟩:=avg hu
   have uM:=(qb.1 hk).1
   rcases a6 with a6|⟨⟨z,aC,a6⟩⟩
   ·omega
   ·have:=e0.le (i:=k) (j:=i'-1-p) (by omega) (by rw [asW uM];exact hk) aC
    omega
  have Ku:∀v∈V,y.1<v.1:=λv aI=>by
   obtain⟨k,hk⟩:=avg aI
   have uM:=(qb.1 hk).1
   rcases bu with bu|⟨⟨z,aC,bu⟩⟩
   ·omega
   ·have:=e0.le (i:=i'-p) (j:=bJ.length+k) (by omega) aC (by rw [asX (by omega)];rw [<-hk];congr 1;omega)
    omega
  obtain⟨en,gY⟩:=afx e0 Kt Ku
  refine⟨λvs H'=>match vs with
    |[.int _ k]=>∃vm yF:List bC,V=vm++yF/\k=((i'+vm.length:Nat):Int)/\Own encS 113 base H' a n c (P++bJ++vm++y::(yF++Q))/\Fr (ax a) H H'
    |_=>False,
   λvs _=>match vs with|[.int _ k]=>k.toNat|_=>0,⟨V,[],by simp,by omega,by simpa using fw,b9⟩,?_⟩
  rintro bm k ao ⟨vm,yF,rfl,rfl,de,bt⟩
  simp only [VH]at hm aH
  refine ai (λdJ=> ?_) (λdJ=> ?_)
  ·have rC:0<vm.length:=by simp at dJ;omega
   obtain⟨c',w,rfl⟩:∃c' w,vm=c'++[w]:=⟨vm.dropLast,vm.getLast (by intro e;subst e;simp at rC),(avx _).symm⟩
   have hd:P++bJ++(c'++[w])++y::(yF++Q)=(P++bJ++c')++w::y::(yF++Q):=by simp
   simp only [VH,asE,atc]at hm aH rC⊢
   rw [show i'+(c'.length+(0+1))=(i'+c'.length)+1 by omega,pJ (by omega) (by omega)]
   refine de.bL.get (k:=i'+c'.length) (by omega) (by rw [hd];exact xc (by simp;omega)) (decide_eq_true (by omega)) λal bS ak=>⟨_,_,gx ak,?_⟩
   refine de.bL.get (k:=i'+c'.length+1) rfl (by rw [hd];exact Gz (by simp;omega)) (decide_eq_true (by omega)) λal bS ak=>⟨_,_,gx ak,?_⟩
   refine QR (k:=i'+c'.length) de hd (by simp;omega) rfl (by omega) _ _ (decide_eq_true (by omega)) (decide_eq_true (by omega)) λaN eV bU=> ?_
   refine⟨⟨c',w::yF,by simp,by omega,by simpa using eV,bt.trans' bU (λ_ h _=>h) (λ_ h _=>h)⟩,?_⟩
   show(((i'+c'.length+1-1:Nat):Int)).toNat<(((i'+c'.length+1:Nat):Int)).toNat
   omega
  ·have:vm=[]:=asF (by simp at dJ;omega)
   subst this
   exact⟨rfl,hk ao (bJ++y::yF) (by simpa using de) (by simpa using en) (by simpa using gY) bt⟩
structure Ends(A B:List bC)(i j:Nat):Prop where
 h:∃x y,A[i]?=some x/\B[j]?=some y/\x.1<=y.1
structure afE(A B:List bC)(i j:Nat):Prop where
 h:∃x y,A[i]?=some x/\B[j]?=some y/\y.1<x.1
theorem QV{order:Value}(dc:xb order):∀(N:Nat) {base:Nat} {H:J} {a:Option Addr} {n c p m q:Nat} {L P A B Q:List bC} {K:J->Prop} (e1:A.length+B.length<=N) (an:Own encS 113 base H a n c L) (hd:L=P++(A++(B++Q))) (bh:P.length=p) (hm:p+A.length=m) (a1:m+B.length=q) (xe:0<A.length) (xf:0<B.length) (ay:n<=1000000000) (e0:fB A) (bK:fB B)
  (hk:∀H' S,Own encS 113 base H' a n c (P++(S++Q))->fB S->ep (A++B) S->Fr (ax a) H H'->K H'),
  aY atf Kr ⟨[.slice a n c,.int .i64 p,.int .i64 m,.int .i64 q,order]⟩ H λv H'=>v=.tuple ⟨[]⟩/\K H':=by
 intro N
 induction N with
 |zero=>intros;omega
 |succ N ih=>
 intro base H a n c p m q L P A B Q K e1 an hd bh hm a1 xe xf ay e0 bK hk
 by_cases Kx:A.length=1
 ·obtain⟨x,rfl⟩:∃x,A=[x]:=by cases A with|nil=>simp at Kx|cons x A=>cases A with|nil=>exact⟨x,rfl⟩|cons _ _=>simp at Kx
  exact afC dc an hd bh hm a1 ay bK hk
 by_cases C8:B.length=1
 ·obtain⟨y,rfl⟩:∃y,B=[y]:=by cases B with|nil=>simp at C8|cons x A=>cases A with|nil=>exact⟨x,rfl⟩|cons _ _=>simp at C8
  exact afD dc an hd bh hm a1 (by omega) ay e0 hk
 apply Ks
 have aH:=an.1
 subst hd
 simp only [VH]at aH
 have Kw:IntKind.i64.wrap ((m:Int)-p)=((A.length:Nat):Int):=by rw [dv (by omega) (by omega)];omega
 have kp:IntKind.i64.wrap ((q:Int)-m)=((B.length:Nat):Int):=by rw [dv (by omega) (by omega)];omega
 rw [kp,Kw,afu,Ao (by omega)]
 refine ai (λh=>by simp at h;omega) (λ_=>ai (λh=>by simp at h;omega) (λ_=> ?_))
 have afF:2*((p+q)/2)<=p+q:=by omega
 have afG:p+q<=2*((p+q)/2)+1:=by omega
 generalize(p+q)/2=gG at afF afG
 have afH:IntKind.i64.wrap ((gG:Int)+m)=((gG+m:Nat):Int):=by rw [dv (by omega) (by omega)];omega
 rw [afH]
 refine⟨λvs H'=>H'=H/\∃er az:Nat,vs=[.int .i64 er,.int .i64 az]/\p<=er/\er<=az/\az<=m/\az<=gG/\gG+m<=er+q/\(er=p\/gG+m=er+q)/\(az=m\/az=gG),?_,?_⟩
 ·refine ai (λh=>⟨rfl,gG+m-q,gG,?_,?_⟩) (λh=>⟨rfl,p,m,rfl,?_⟩)
  ·have:gG<m:=by simpa using h
   rw [dv (by omega) (by omega),show((gG+m:Nat):Int)-q=((gG+m-q:Nat):Int) by omega]
  ·have:gG<m:=by simpa using h
   omega
  ·have:m<=gG:=by simp at h;omega
   omega
 rintro bm hJ iH H1 ⟨rfl,er,az,fC,fy,hv,n4,Ky,yG,aqC,yH⟩
 simp only [List.cons.injEq,Value.int.injEq,true_and,and_true]at fC
 obtain⟨rfl,rfl⟩:=fC
 refine⟨λvs H'=>match vs with
   |[.int _ i,.int _ j]=>∃i' dK:Nat,i=i'/\j=dK/\er<=i'/\i'<=dK/\dK<=az/\(i'=er\/Ends A B (i'-1-p) (gG+m-i'-m))/\(dK=az\/afE A B (dK-p) (gG+m-1-dK-m))/\Own encS 113 base H' a n c (P++(A++(B++Q)))/\Fr (ax a) H1 H'
   |_=>False,
  λvs _=>match vs with|[.int _ i,.int _ j]=>j.toNat-i.toNat|_=>0,⟨er,az,rfl,rfl,by omega,by omega,by omega,.inl rfl,.inl rfl,an,Fr.refl _ _⟩,?_⟩
 rintro bm i j ao ⟨i',dK,rfl,rfl,h1,ae,au,a6,bu,de,bt⟩
 refine ai (λaD=> ?_) (λaD=> ?_)
 ·have bT:i'<dK:=by simpa using aD
  rw [Ao (by omega)]
  have vj:i'<=(i'+dK)/2:=by omega
  have yE:(i'+dK)/2<dK:=by omega
  generalize(i'+dK)/2=h at vj yE
  have vh:IntKind.i64.wrap (IntKind.i64.wrap (((gG+m:Nat):Int)-1)-(h:Int))=((gG+m-1-h:Nat):Int):=by
   rw [dv (n:=((gG+m:Nat):Int)-1) (by omega) (by omega),dv (by omega) (by omega)];omega
  rw [vh]
  have av:B[gG+m-1-h-m]?=some (B[gG+m-1-h-m]'(by omega)):=by simp
  generalize B[gG+m-1-h-m]'(by omega)=y at av
  have aa:A[h-p]?=some (A[h-p]'(by omega)):=by simp
  generalize A[h-p]'(by omega)=x at aa
  have hn:(P++(A++(B++Q)))[gG+m-1-h]?=some y:=by
   rw [<-ar8,Ap (by simp;omega) (by simp;omega),<-av];congr 1;simp;omega
  refine de.bL.get (k:=gG+m-1-h) rfl hn (decide_eq_true (by omega)) λal bS ak=>⟨_,_,gx ak,?_⟩
  refine de.bL.get (k:=h) (x:=x) rfl (by rw [Ap (by omega) (by omega),bh];exact aa) (decide_eq_true (by omega)) λal bS ak=>⟨_,_,gx ak,?_⟩
  refine dc y x ao _ λaF bG=> ?_
  have eN:=de.ab bG
  have jj:=bt.trans' bG (T:=ax a) (λ_ h _=>h) (by simp)
  rw [b6 (by omega)]
  refine ai (λca=>⟨⟨h+1,dK,rfl,rfl,by omega,by omega,au,.inr ⟨x,y,by simpa using aa,?_,?_⟩,bu,eN,jj⟩,?_⟩) (λca=>⟨⟨i',h,rfl,rfl,h1,by omega,by omega,a6,.inr ⟨x,y,aa,av,?_⟩,eN,jj⟩,?_⟩)
  ·rw [<-av];congr 1;omega
  ·have:¬y.1<x.1:=λh=>by rw [decide_eq_true (lN.2 h)]at ca;cases ca
   omega
  ·show((dK:Nat):Int).toNat-((h+1:Nat):Int).toNat<((dK:Nat):Int).toNat-((i':Nat):Int).toNat
   omega
  ·have:decide (gX y.1 x.1<0)=true:=by simpa using ca
   exact lN.1 (of_decide_eq_true this)
  ·show((h:Nat):Int).toNat-((i':Nat):Int).toNat<((dK:Nat):Int).toNat-((i':Nat):Int).toNat
   omega
 have bT:i'=dK:=by simp at aD;omega
 subst bT
 obtain⟨ez,kO,rfl,aqD⟩:=C7 (B:=A) (k:=i'-p) (by omega)
 obtain⟨jK,pb,rfl,aqE⟩:=C7 (B:=B) (k:=gG-i') (by omega)
 simp only [VH]at hm a1 aH e1 xe xf Kx C8
 have hle:∀x∈ez,∀y∈pb,x.1<=y.1:=by
  refine afI e0.left bK.right λx y aa av=> ?_
  have afJ:ez≠[]:=by intro e;subst e;cases aa
  have aqF:=avq.2 afJ
  have afK:pb≠[]:=by intro e;subst e;cases av
  have aqG:=avq.2 afK
  rcases a6 with a6|⟨⟨x',Fb,eF,hn,a6⟩⟩
  ·omega
  ·rw [asW (by omega)]at eF
   rw [asX (by omega)]at hn
   rw [avn,show ez.length-1=i'-1-p by omega]at aa
   rw [avM,show 0=gG+m-i'-m-jK.length by omega]at av
   rw [aa]at eF
   rw [av]at hn
   cases eF;cases hn;exact a6
 have cF:∀x∈kO,∀y∈jK,y.1<x.1:=by
  refine afL e0.right bK.left λx y aa av=> ?_
  have afM:kO≠[]:=by intro e;subst e;cases aa
  have aqH:=avq.2 afM
  have afN:jK≠[]:=by intro e;subst e;cases av
  have aqI:=avq.2 afN
  rcases bu with bu|⟨⟨x',Fb,eF,hn,bu⟩⟩
  ·omega
  ·rw [asX (by omega)]at eF
   rw [asW (by omega)]at hn
   rw [avM,show 0=i'-p-ez.length by omega]at aa
   rw [avn,show jK.length-1=gG+m-1-i'-m by omega]at av
   rw [aa]at eF
   rw [av]at hn
   cases eF;cases hn;exact bu
 have afO:IntKind.i64.wrap (((gG+m:Nat):Int)-(i':Int))=((gG+m-i':Nat):Int):=by rw [dv (by omega) (by omega)];omega
 rw [afO]
 refine⟨λ_ H'=>Own encS 113 base H' a n c (P++(ez++(jK++(kO++(pb++Q)))))/\Fr (ax a) H1 H',?_,?_⟩
 ·have same:kO=[]\/jK=[]->Own encS 113 base ao a n c (P++(ez++(jK++(kO++(pb++Q)))))/\Fr (ax a) H1 ao:=λh=>⟨by rcases h with rfl|rfl<;>simpa using de,bt⟩
  refine ai (λca=>ai (λdJ=> ?_) (λdJ=>same (.inr (asF (by simp at dJ;omega))))) (λca=>same (.inl (asF (by simp at ca;omega))))
  have QW:i'<m:=by simpa using ca
  have rC:(m:Int)<((gG+m-i':Nat):Int):=by simpa using dJ
  refine afn (P:=P++ez) (X:=kO) (Y:=jK) (Q:=pb++Q) de (by simp) (by simp;omega) (by omega) (by omega) (by omega) (by omega) ay λaF eN bG=>⟨by simpa using eN,bt.trans' bG (λ_ h _=>h) (λ_ h _=>h)⟩
 rintro bm aF ⟨eN,bG⟩
 refine⟨λ_ H'=>∃dn,Own encS 113 base H' a n c (P++(dn++(kO++(pb++Q))))/\fB dn/\ep (ez++jK) dn/\Fr (ax a) H1 H',?_,?_⟩
 ·have same:ez=[]\/jK=[]->∃dn,Own encS 113 base aF a n c (P++(dn++(kO++(pb++Q))))/\fB dn/\ep (ez++jK) dn/\Fr (ax a) H1 aF:=λh=>⟨ez++jK,by simpa using eN,by rcases h with rfl|rfl;exact bK.left;simpa using e0.left,ep.refl _,bG⟩
  refine ai (λca=>ai (λdJ=> ?_) (λdJ=>same (.inr (asF (by simp at dJ;omega))))) (λca=>same (.inl (asF (by simp at ca;omega))))
  have QW:p<i':=by simpa using ca
  have rC:i'<gG:=by simpa using dJ
  refine ih (P:=P) (A:=ez) (B:=jK) (Q:=kO++(pb++Q)) (by omega) eN rfl bh (by omega) (by omega) (by omega) (by omega) ay e0.left bK.left λaN dn eV pZ tr bU=>⟨dn,eV,pZ,tr,bG.trans' bU (λ_ h _=>h) (λ_ h _=>h)⟩
 rintro bm aN ⟨dn,eV,pZ,tr,bU⟩
 have afP:=tr.length
 rw [VH]at afP
 have fin:∀{bw:J} {S2:List bC},Own encS 113 base bw a n c (P++(dn++(S2++Q)))->fB S2->ep (kO++pb) S2->Fr (ax a) H1 bw->K bw:=λ{bw S2} ey oj pU bW=>by
  refine hk bw (dn++S2) (by simpa using ey) (GB pZ oj λx aa y av=> ?_) ?_ bW
  ·rcases asU.1 (tr.mem.2 aa)with aa|aa
   ·rcases asU.1 (pU.mem.2 av)with av|av
    ·exact e0.An x aa y av
    ·exact hle x aa y av
   ·rcases asU.1 (pU.mem.2 av)with av|av
    ·exact avp (cF y av x aa)
    ·exact bK.An x aa y av
  ·have en:ep ((ez++kO)++(jK++pb)) ((ez++jK)++(kO++pb)):=by
    have:=((ep.refl ez).app (ep.swap cF)).app (ep.refl pb)
    simpa using this
   exact en.trans (tr.app pU)
 have same:kO=[]\/pb=[]->Value.tuple ⟨[]⟩=.tuple ⟨[]⟩/\K aN:=λh=>⟨rfl,fin (S2:=kO++pb) (by simpa using eV) (by rcases h with rfl|rfl;exact bK.right;simpa using e0.right) (ep.refl _) bU⟩
 refine ai (λca=>ai (λdJ=> ?_) (λdJ=>same (.inr (asF (by simp at dJ;omega))))) (λca=>same (.inl (asF (by simp at ca;omega))))
 have QW:(gG:Int)<((gG+m-i':Nat):Int):=by simpa using ca
 have rC:((gG+m-i':Nat):Int)<q:=by simpa using dJ
 refine ih (P:=P++dn) (A:=kO) (B:=pb) (Q:=Q) (by omega) eV (by simp) (by simp;omega) (by omega) (by omega) (by omega) (by omega) ay e0.right bK.right λbw S2 ey oj pU bW=> ?_
 exact⟨rfl,fin (by simpa using ey) oj pU (bU.trans' bW (λ_ h _=>h) (λ_ h _=>h))⟩
structure rF(dj:Nat)(eL:List (List bC)):Prop where
 h:∀T∈eL,T.length=dj/\fB T
theorem rF.len{dj:Nat}{eL:List (List bC)}(h:rF dj eL):eL.flatten.length=dj*eL.length:=by
 induction eL with
 |nil=>simp
 |cons T eL ih=>
  have:=(h.h T (by simp)).1
  have:=ih ⟨λbJ lp=>h.h bJ (by simp [lp])⟩
  simp only [avf,VH,asE,avh];omega
theorem rF.snoc{dj:Nat}{eL:List (List bC)}{T:List bC}(h:rF dj eL)(h1:T.length=dj)(ae:fB T):rF dj (eL++[T]):=⟨λbJ lp=>by
 rcases asU.1 lp with lp|lp
 ·exact h.h bJ lp
 ·simp at lp;subst lp;exact⟨h1,ae⟩⟩
theorem rF.tail{dj:Nat}{eL:List (List bC)}{T:List bC}(h:rF dj (T::eL)):rF dj eL:=⟨λbJ lp=>h.h bJ (by simp [lp])⟩
theorem Aq{x y:Nat}(h:x+y<=1000000000000):IntKind.i64.wrap ((x:Int)+(y:Int))=((x+y:Nat):Int):=by rw [dv (by omega) (by omega)];omega
theorem afQ{order:Value}(dc:xb order){base:Nat}{xs:List bC}{K:J->Prop}(aa:Own encS 113 base H a n c xs)(ay:n<=1000000000)
  (hk:∀H' ys,Own encS 113 base H' a n c ys->fB ys->ep xs ys->Fr (ax a) H H'->K H'):
  aY atf afR ⟨[.slice a n c,.int .i64 n,order]⟩ H λv H'=>v=.tuple ⟨[]⟩/\K H':=by
 apply afS
 have aH:=aa.1
 refine⟨λvs H'=>match vs with
   |[.int _ i,.int _ j]=>∃(eL:List (List bC)) (R:List bC),rF 20 eL/\i=((20*eL.length:Nat):Int)/\j=((20*eL.length+20:Nat):Int)/\20*eL.length<=n/\Own encS 113 base H' a n c (eL.flatten++R)/\ep xs (eL.flatten++R)/\Fr (ax a) H H'
   |_=>False,
  λvs _=>match vs with|[.int _ i,_]=>n-i.toNat|_=>0,⟨[],xs,⟨λT h=>by cases h⟩,rfl,rfl,by simp,aa,ep.refl _,Fr.refl _ _⟩,?_⟩
 rintro bm i j H1 ⟨eL,R,bK,rfl,rfl,hle,an,eg,af⟩
 have dk:=an.1
 have fi:=bK.len
 rw [VH]at dk
 refine ai (λaD=> ?_) (λaD=> ?_)
 ·have bT:20*eL.length+20<=n:=by simp at aD;omega
  obtain⟨X,mF,rfl,gU⟩:=C7 (B:=R) (k:=20) (by omega)
  refine QS dc (P:=eL.flatten) (s:=X) (Q:=mF) (by simpa using an) (by omega) (by omega) ay λao X' de bI hSt bt=> ?_
  have Ou:=hSt.length
  have kp:IntKind.i64.wrap (((20*eL.length+20:Nat):Int)+20)=((20*(eL++[X']).length+20:Nat):Int):=by
   rw [dv (by omega) (by omega)];simp;omega
  refine⟨⟨eL++[X'],mF,bK.snoc (by omega) bI,by simp;omega,kp,by simp;omega,by simpa using de,eg.trans ?_,af.trans' bt (λ_ h _=>h) (λ_ h _=>h)⟩,?_⟩
  ·have:=((ep.refl eL.flatten).app hSt).app (ep.refl mF)
   simpa using this
  ·show n-((20*eL.length+20:Nat):Int).toNat<n-((20*eL.length:Nat):Int).toNat
   omega
 have bT:n<20*eL.length+20:=by simp at aD;omega
 refine QS dc (P:=eL.flatten) (s:=R) (Q:=[]) (by simpa using an) (by omega) (by omega) ay λao mF de bI hSt bt=> ?_
 have afT:=hSt.length
 refine⟨λvs H'=>match vs with
   |[.int _ k]=>∃(dj:Nat) (eL:List (List bC)) (R:List bC),k=dj/\20<=dj/\rF dj eL/\R.length<dj/\fB R/\Own encS 113 base H' a n c (eL.flatten++R)/\ep xs (eL.flatten++R)/\Fr (ax a) H H'
   |_=>False,
  λvs _=>match vs with|[.int _ k]=>n-k.toNat|_=>0,⟨20,eL,mF,rfl,by omega,bK,by omega,bI,by simpa using de,?_,af.trans' bt (λ_ h _=>h) (λ_ h _=>h)⟩,?_⟩
 ·exact eg.trans ((ep.refl eL.flatten).app hSt)
 clear bK hle an eg af dk fi aD bT de bI hSt afT bt eL R mF H1 ao
 rintro bm k aF ⟨dj,eL,R,rfl,CB,bK,hh,bI,an,eg,af⟩
 have dk:=an.1
 have fi:=bK.len
 rw [VH]at dk
 refine ai (λaD=> ?_) (λaD=> ?_)
 ·have C9:dj<n:=by simpa using aD
  have yy:IntKind.i64.wrap (2*(dj:Int))=((2*dj:Nat):Int):=by rw [dv (by omega) (by omega)];omega
  have Kv:IntKind.i64.wrap ((dj:Int)*2)=((2*dj:Nat):Int):=by rw [dv (by omega) (by omega)];omega
  rw [yy,Kv]
  have Kz:n-((2*dj:Nat):Int).toNat<n-((dj:Nat):Int).toNat:=by omega
  refine⟨λvs H'=>match vs with
    |[.int _ i,.int _ j]=>∃(jL eL:List (List bC)),rF (2*dj) jL/\rF dj eL/\i=((2*dj*jL.length:Nat):Int)/\j=((2*dj*jL.length+2*dj:Nat):Int)/\Own encS 113 base H' a n c (jL.flatten++(eL.flatten++R))/\ep xs (jL.flatten++(eL.flatten++R))/\Fr (ax a) H H'
    |_=>False,
   λvs _=>match vs with|[.int _ i,_]=>n-i.toNat|_=>0,⟨[],eL,⟨λT h=>by cases h⟩,bK,by simp,by simp,an,eg,af⟩,?_⟩
  clear bK an eg af dk fi eL
  rintro bm i j aN ⟨jL,eL,dz,bK,rfl,rfl,an,eg,af⟩
  have dk:=an.1
  have fi:=bK.len
  have sf:=dz.len
  simp only [VH]at dk
  have iE:2*dj*jL.length<=n:=by omega
  have afU:IntKind.i64.wrap (((2*dj*jL.length:Nat):Int)+(dj:Int))=((2*dj*jL.length+dj:Nat):Int):=Aq (by omega)
  rw [afU]
  refine ai (λh1=> ?_) (λh1=> ?_)
  ·have gp:2*dj*jL.length+2*dj<=n:=Int.ofNat_le.1 (of_decide_eq_true h1)
   match eL,bK,fi,an,eg,dk with
   |[],_,fi,_,_,dk=>simp only [avi,atc,Nat.mul_zero,zd]at fi dk;omega
   |[X],bK,fi,_,_,dk=>simp only [avi,avf,atc,asE,as0,atM,zd]at fi dk;omega
   |X::Y::eL,bK,fi,an,eg,dk=>
    have gU:=bK.h X (by simp)
    have sh:=bK.h Y (by simp)
    refine QV dc _ (P:=jL.flatten) (A:=X) (B:=Y) (Q:=eL.flatten++R) (nQ _) an (by simp) (by omega) (by omega) (by omega) (by omega) (by omega) ay gU.2 sh.2 λbw Z ey KA C' bW=> ?_
    have KB:=C'.length
    rw [VH]at KB
    have afV:IntKind.i64.wrap (((2*dj*jL.length+2*dj:Nat):Int)+((2*dj:Nat):Int))=((2*dj*(jL++[Z]).length+2*dj:Nat):Int):=by
     rw [Aq (by omega)];simp [avh]
    refine⟨⟨jL++[Z],eL,dz.snoc (by omega) KA,bK.tail.tail,by simp [avh],afV,by simpa using ey,eg.trans ?_,af.trans' bW (λ_ h _=>h) (λ_ h _=>h)⟩,?_⟩
    ·have:=((ep.refl jL.flatten).app C').app (ep.refl (eL.flatten++R))
     simpa using this
    ·show n-((2*dj*jL.length+2*dj:Nat):Int).toNat<n-((2*dj*jL.length:Nat):Int).toNat
     omega
  have gp:n<2*dj*jL.length+2*dj:=Nat.lt_of_not_le λh=>of_decide_eq_false h1 (Int.ofNat_le.2 h)
  refine ai (λae=> ?_) (λae=> ?_)
  ·have iR:2*dj*jL.length+dj<n:=Int.ofNat_lt.1 (of_decide_eq_true ae)
   match eL,bK,fi,an,eg,dk with
   |[],_,fi,_,_,dk=>simp only [avi,atc,Nat.mul_zero,zd]at fi dk;omega
   |X::Y::eL,bK,fi,an,eg,dk=>
    simp only [avf,VH,asE,avh,atM]at fi dk;omega
   |[X],bK,fi,an,eg,dk=>
    have gU:=bK.h X (by simp)
    simp only [avi,avf,atc,asE,as0,atM,zd]at an eg dk fi
    refine QV dc _ (P:=jL.flatten) (A:=X) (B:=R) (Q:=[]) (nQ _) an (by simp) (by omega) (by omega) (by omega) (by omega) (by omega) ay gU.2 bI λbw Z ey KA C' bW=> ?_
    have KB:=C'.length
    rw [VH]at KB
    exact⟨⟨2*dj,jL,Z,rfl,by omega,dz,by omega,KA,by simpa using ey,eg.trans ((ep.refl jL.flatten).app C'),af.trans' bW (λ_ h _=>h) (λ_ h _=>h)⟩,Kz⟩
  ·have iR:n<=2*dj*jL.length+dj:=Nat.le_of_not_lt λh=>of_decide_eq_false ae (Int.ofNat_lt.2 h)
   match eL,bK,fi,an,eg,dk with
   |[],_,fi,an,eg,dk=>exact⟨⟨2*dj,jL,R,rfl,by omega,dz,by omega,bI,by simpa using an,by simpa using eg,af⟩,Kz⟩
   |X::Y::eL,bK,fi,an,eg,dk=>
    simp only [avf,VH,asE,avh,atM]at fi dk;omega
   |[X],bK,fi,an,eg,dk=>
    have gU:=bK.h X (by simp)
    simp only [avi,avf,atc,asE,as0,atM,zd]at an eg dk fi
    have KC:R=[]:=asF (by omega)
    subst KC
    exact⟨⟨2*dj,jL,X,rfl,by omega,dz,by omega,gU.2,by simpa using an,by simpa using eg,af⟩,Kz⟩
 ·have C9:n<=dj:=by simp at aD;omega
  refine⟨rfl,hk aF _ an ?_ eg af⟩
  match eL,bK,fi,dk with
  |[],_,_,_=>simpa using bI
  |X::Y::eL,bK,fi,dk=>
   simp only [avf,VH,asE,avh,atM]at fi dk;omega
  |[X],bK,fi,dk=>
   have gU:=bK.h X (by simp)
   simp only [avi,avf,atc,asE,as0,atM,zd]at dk fi⊢
   have KC:R=[]:=asF (by omega)
   subst KC
   simpa using gU.2
theorem afW{order:Value}(dc:xb order){base:Nat}{xs:List bC}{K:J->Prop}(aa:Own encS 113 base H a n c xs)(ay:n<=1000000000)
  (hk:∀H' ys,Own encS 113 base H' a n c ys->fB ys->ep xs ys->Fr (ax a) H H'->K H'):
  aY atf afX ⟨[.slice a n c,order]⟩ H λv H'=>v=.tuple ⟨[]⟩/\K H':=by
 apply afY
 exact afQ dc aa ay λH' ys h1 ae au a6=>⟨rfl,hk H' ys h1 ae au a6⟩
def hB{α:Type}(cf:α->α->Int):List α->List α->List α
 |[],b=>b
 |x::a,[]=>x::a
 |x::a,y::b=>if cf x y<0 then x::hB cf a (y::b)else if cf x y=0 then y::hB cf a b else y::hB cf (x::a) b
termination_by a b=>a.length+b.length
theorem vn{α:Type}{cf:α->α->Int}(b:List α):hB cf [] b=b:=by unfold hB;rfl
theorem xg{α:Type}{cf:α->α->Int}:∀a:List α,hB cf a []=a
 |[]=>vn _
 |x::a=>by unfold hB;rfl
theorem xh{α:Type}{cf:α->α->Int}(x y:α)(a b:List α):hB cf (x::a) (y::b)=if cf x y<0 then x::hB cf a (y::b)else if cf x y=0 then y::hB cf a b else y::hB cf (x::a) b:=by
 rw [hB]
abbrev bb:=Int×dH
def dL:dd bb:=⟨λx=>[.int .i64 x.1,.slice x.2.1 x.2.2.1 x.2.2.2],2,λ_=>rfl,by decide,λ_ v h=>by simp at h;rcases h with rfl|rfl<;>rfl⟩
abbrev jM(x:bb):Value:=.agg ⟨[.int .i64 x.1,.slice x.2.1 x.2.2.1 x.2.2.2]⟩
theorem yI:jC atf 57 2 32=true:=by kernel_rfl
theorem yJ:sliceB atf 50 57=true:=by kernel_rfl
theorem j4{x:bb}(h:eP H al (dL.cells x)):cR atf 57 H al (jM x):=r' (by kernel_rfl) (by kernel_rfl) h
theorem pc{x:bb}(h:eP H al (dL.cells x)):cR atf 55 H (al.add 1) (.slice x.2.1 x.2.2.1 x.2.2.2):=kt (by kernel_rfl) h (j:=1) rfl
theorem GG{x:bb}(h:eP H al (dL.cells x)):cR atf 3 H al (.int .i64 x.1):=n' (by kernel_rfl) (by have:=h 0 _ rfl;simpa [Addr.add]using this)
abbrev fu:=Int×Int×Int
def fT:dd fu:=⟨λx=>[.int .i64 x.1,.int .i64 x.2.1,.int .i64 x.2.2],3,λ_=>rfl,by decide,λ_ v h=>by simp at h;rcases h with rfl|rfl|rfl<;>rfl⟩
abbrev Da(x:fu):Value:=.agg ⟨[.int .i64 x.1,.int .i64 x.2.1,.int .i64 x.2.2]⟩
theorem tT:jC atf 128 3 24=true:=by kernel_rfl
theorem tU:sliceB atf 82 128=true:=by kernel_rfl
theorem xi{x:fu}(h:eP H al (fT.cells x)):cR atf 128 H al (Da x):=r' (by kernel_rfl) (by kernel_rfl) h
def lu(x y:bb):Int:=gX x.1 y.1
def lv(x y:fu):Int:=if gX x.1 y.1≠0 then gX x.1 y.1 else gX x.2.1 y.2.1
def KD(order:Value):Prop:=∀(x y:bb) (H:J) (K:Int->J->Prop),(∀H',Fr [] H H'->K (lu x y) H')->dO atf order [jM x,jM y] H λv H'=>∃n,v=.int .i64 n/\K n H'
def QX(order:Value):Prop:=∀(x y:fu) (H:J) (K:Int->J->Prop),(∀H',Fr [] H H'->K (lv x y) H')->dO atf order [Da x,Da y] H λv H'=>∃n,v=.int .i64 n/\K n H'
theorem QY{x y:bb}{K:Int->J->Prop}(hk:∀H',Fr [] H H'->K (lu x y) H'):aY atf afZ ⟨[jM x,jM y]⟩ H λv H'=>∃n,v=.int .i64 n/\K n H':=by
 apply af0
 intro b H1 aB b1 ao bH
 have af:=aB.ag.aw bH.ag
 exact⟨_,(aB.bo.ab bH.ag).b5 (by kernel_rfl) rfl,_,bH.bo.b5 (by kernel_rfl) rfl,w6 ⟨_,rfl,hk ao af⟩⟩
theorem QZ:KD (.func (.func 135) #[] #[]):=λx y H K hk=>⟨135, #[], #[],rfl,by kernel_rfl,QY hk⟩
theorem af1{order:Value}{b:Option Addr}{d:Nat}{xs ys:List bb}{K:Option Addr->Nat->Nat->J->Prop}(an:KD order)(aa:bk dL H a n c xs)(av:bk dL H b m d ys)
  (hlen:n+m<=1000000000) (hk:∀aK aQ aT H',Own dL 57 H.size H' aK aQ aT (hB lu xs ys)->Fr [] H H'->K aK aQ aT H'):
  aY atf af2 ⟨[.slice a n c,.slice b m d,order]⟩ H λv H'=>∃a n c,v=.slice a n c/\K a n c H':=by
 apply af3
 rw [dv (by omega) (by omega)]
 refine Gg (E:=dL) yJ yI (by omega) (by omega) λdU H1 fw b9=> ?_
 refine⟨λvs H'=>match vs with
   |[.slice a n c,.slice b m d,.slice o p q]=>∃zs us ws,bk dL H a n c zs/\bk dL H b m d us/\Own dL 57 H.size H' o p q ws/\ws++hB lu zs us=hB lu xs ys/\p+n+m<=1000000000/\Fr [] H H'
   |_=>False,
  λvs _=>match vs with|[.slice _ n _,.slice _ m _,_]=>n+m|_=>0,⟨xs,ys,[],aa,av,fw,rfl,by omega,b9⟩,?_⟩
 rintro bm a n c b m d o p q ao ⟨zs,us,ws,aC,hu,hw,he,dC,af⟩
 have ay:=aC.len
 have hm:=hu.len
 have bh:=hw.1
 have QK:=aC.cap
 have QL:=hu.cap
 have last:(zs=[]\/us=[])->cj atf (Builtin.append_ ⟨[50,50]⟩ 50 ⟨[.slice o p q,.slice a n c]⟩) ao λv H'=>∃a n c,v=.slice a n c/\cj atf (Builtin.append_ ⟨[50,50]⟩ 50 ⟨[.slice a n c,.slice b m d]⟩) H' λv H'=>∃a n c,v=.slice a n c/\(∃fh eh fZ,atK a n c=.slice fh eh fZ/\K fh eh fZ H'):=by
  intro pX
  refine pD (E:=dL) yJ yI hw af (aC.ab af) (by omega) λjk jh dm aF fP bt _=> ?_
  have b8:=fP.1
  refine pD (E:=dL) yJ yI fP bt (hu.ab bt) (by simp at b8;omega) λo3 Gy hQ aN hw3 bG _=>⟨_,_,_,rfl,hk _ _ _ _ ?_ bG⟩
  rw [ar8]at hw3
  have:zs++us=hB lu zs us:=by
   rcases pX with rfl|rfl
   ·rw [vn];rfl
   ·rw [xg];simp
  rwa [this,he]at hw3
 refine⟨λ_ H'=>H'=ao/\0<n/\0<m,ai (λaD=>ai (λh1=>⟨rfl,by simpa using aD,by simpa using h1⟩) (λh1=>last (.inr ?_))) (λaD=>last (.inl ?_)),?_⟩
 rotate_left 2
 ·rintro bm ao ⟨rfl,aD,h1⟩
  cases zs with
  |nil=>simp at ay;omega
  |cons x zs=>
  cases us with
  |nil=>simp at hm;omega
  |cons y us=>
  simp only [asE]at ay hm
  have sn:bk dL H (dh c 1 2 a) ((n:Int).toNat-1) (c-1) zs:=by
   have:=aC.drop (k:=1) (by omega)
   rwa [asD]
  have tR:bk dL H (dh d 1 2 b) ((m:Int).toNat-1) (d-1) us:=by
   have:=hu.drop (k:=1) (by omega)
   rwa [asD]
  refine(aC.ab af).head (decide_eq_true (by omega)) λal bS ak=>⟨_,_,_,_,j4 ak,?_⟩
  refine(hu.ab af).head (decide_eq_true (by omega)) λbd kE aO=>⟨_,_,_,_,j4 aO,?_⟩
  refine an x y ao _ λaF bG=> ?_
  have dZ:=af.aw bG
  have nq:=hw.ab bG
  rw [xh]at he
  refine ai (λae=> ?_) (λae=>ai (λau=> ?_) (λau=> ?_))
  ·have cF:lu x y<0:=of_decide_eq_true ae
   rw [if_pos cF]at he
   refine(aC.ab dZ).head (decide_eq_true (by omega)) λal bS ak=>⟨_,_,_,_,j4 ak,gC ⟨by omega,by omega,by omega⟩ ?_⟩
   refine k3 (E:=dL) x yJ yI nq dZ rfl (by omega) λ_ jk jh dm aN fP bt _=> ?_
   have b8:=fP.1
   simp at b8
   exact⟨⟨zs,y::us,ws++[x],sn,hu,fP,by rw [<-he];simp,by omega,bt⟩,by show(n:Int).toNat-1+m<n+m;omega⟩
  ·have gH:¬lu x y<0/\lu x y=0:=⟨of_decide_eq_false ae,by simpa using au⟩
   rw [if_neg gH.1,if_pos gH.2]at he
   refine gC ⟨by omega,by omega,by omega⟩ ?_
   refine(hu.ab dZ).head (decide_eq_true (by omega)) λal bS ak=>⟨_,_,_,_,j4 ak,gC ⟨by omega,by omega,by omega⟩ ?_⟩
   refine k3 (E:=dL) y yJ yI nq dZ rfl (by omega) λ_ jk jh dm aN fP bt _=> ?_
   have b8:=fP.1
   simp at b8
   exact⟨⟨zs,us,ws++[y],sn,tR,fP,by rw [<-he];simp,by omega,bt⟩,by show(n:Int).toNat-1+((m:Int).toNat-1)<n+m;omega⟩
  ·have gH:¬lu x y<0/\¬lu x y=0:=⟨of_decide_eq_false ae,by simpa using au⟩
   rw [if_neg gH.1,if_neg gH.2]at he
   refine(hu.ab dZ).head (decide_eq_true (by omega)) λal bS ak=>⟨_,_,_,_,j4 ak,gC ⟨by omega,by omega,by omega⟩ ?_⟩
   refine k3 (E:=dL) y yJ yI nq dZ rfl (by omega) λ_ jk jh dm aN fP bt _=> ?_
   have b8:=fP.1
   simp at b8
   exact⟨⟨x::zs,us,ws++[y],aC,tR,fP,by rw [<-he];simp,by omega,bt⟩,by show n+((m:Int).toNat-1)<n+m;omega⟩
 ·cases us with
  |nil=>rfl
  |cons y us=>simp at hm h1;omega
 ·cases zs with
  |nil=>rfl
  |cons y us=>simp at ay aD;omega
theorem af4{order:Value}{b:Option Addr}{d:Nat}{xs ys:List fu}{K:Option Addr->Nat->Nat->J->Prop}(an:QX order)(aa:bk fT H a n c xs)(av:bk fT H b m d ys)
  (hlen:n+m<=1000000000) (hk:∀aK aQ aT H',Own fT 128 H.size H' aK aQ aT (hB lv xs ys)->Fr [] H H'->K aK aQ aT H'):
  aY atf af5 ⟨[.slice a n c,.slice b m d,order]⟩ H λv H'=>∃a n c,v=.slice a n c/\K a n c H':=by
 apply af6
 rw [dv (by omega) (by omega)]
 refine Gg (E:=fT) tU tT (by omega) (by omega) λdU H1 fw b9=> ?_
 refine⟨λvs H'=>match vs with
   |[.slice a n c,.slice b m d,.slice o p q]=>∃zs us ws,bk fT H a n c zs/\bk fT H b m d us/\Own fT 128 H.size H' o p q ws/\ws++hB lv zs us=hB lv xs ys/\p+n+m<=1000000000/\Fr [] H H'
   |_=>False,
  λvs _=>match vs with|[.slice _ n _,.slice _ m _,_]=>n+m|_=>0,⟨xs,ys,[],aa,av,fw,rfl,by omega,b9⟩,?_⟩
 rintro bm a n c b m d o p q ao ⟨zs,us,ws,aC,hu,hw,he,dC,af⟩
 have ay:=aC.len
 have hm:=hu.len
 have bh:=hw.1
 have QK:=aC.cap
 have QL:=hu.cap
 have last:(zs=[]\/us=[])->cj atf (Builtin.append_ ⟨[82,82]⟩ 82 ⟨[.slice o p q,.slice a n c]⟩) ao λv H'=>∃a n c,v=.slice a n c/\cj atf (Builtin.append_ ⟨[82,82]⟩ 82 ⟨[.slice a n c,.slice b m d]⟩) H' λv H'=>∃a n c,v=.slice a n c/\(∃fh eh fZ,atK a n c=.slice fh eh fZ/\K fh eh fZ H'):=by
  intro pX
  refine pD (E:=fT) tU tT hw af (aC.ab af) (by omega) λjk jh dm aF fP bt _=> ?_
  have b8:=fP.1
  refine pD (E:=fT) tU tT fP bt (hu.ab bt) (by simp at b8;omega) λo3 Gy hQ aN hw3 bG _=>⟨_,_,_,rfl,hk _ _ _ _ ?_ bG⟩
  rw [ar8]at hw3
  have:zs++us=hB lv zs us:=by
   rcases pX with rfl|rfl
   ·rw [vn];rfl
   ·rw [xg];simp
  rwa [this,he]at hw3
 refine⟨λ_ H'=>H'=ao/\0<n/\0<m,ai (λaD=>ai (λh1=>⟨rfl,by simpa using aD,by simpa using h1⟩) (λh1=>last (.inr ?_))) (λaD=>last (.inl ?_)),?_⟩
 rotate_left 2
 ·rintro bm ao ⟨rfl,aD,h1⟩
  cases zs with
  |nil=>simp at ay;omega
  |cons x zs=>
  cases us with
  |nil=>simp at hm;omega
  |cons y us=>
  simp only [asE]at ay hm
  have sn:bk fT H (dh c 1 3 a) ((n:Int).toNat-1) (c-1) zs:=by
   have:=aC.drop (k:=1) (by omega)
   rwa [asD]
  have tR:bk fT H (dh d 1 3 b) ((m:Int).toNat-1) (d-1) us:=by
   have:=hu.drop (k:=1) (by omega)
   rwa [asD]
  refine(aC.ab af).head (decide_eq_true (by omega)) λal bS ak=>⟨_,_,_,xi ak,?_⟩
  refine(hu.ab af).head (decide_eq_true (by omega)) λbd kE aO=>⟨_,_,_,xi aO,?_⟩
  refine an x y ao _ λaF bG=> ?_
  have dZ:=af.aw bG
  have nq:=hw.ab bG
  rw [xh]at he
  refine ai (λae=> ?_) (λae=>ai (λau=> ?_) (λau=> ?_))
  ·have cF:lv x y<0:=of_decide_eq_true ae
   rw [if_pos cF]at he
   refine(aC.ab dZ).head (decide_eq_true (by omega)) λal bS ak=>⟨_,_,_,xi ak,gC ⟨by omega,by omega,by omega⟩ ?_⟩
   refine k3 (E:=fT) x tU tT nq dZ rfl (by omega) λ_ jk jh dm aN fP bt _=> ?_
   have b8:=fP.1
   simp at b8
   exact⟨⟨zs,y::us,ws++[x],sn,hu,fP,by rw [<-he];simp,by omega,bt⟩,by show(n:Int).toNat-1+m<n+m;omega⟩
  ·have gH:¬lv x y<0/\lv x y=0:=⟨of_decide_eq_false ae,by simpa using au⟩
   rw [if_neg gH.1,if_pos gH.2]at he
   refine gC ⟨by omega,by omega,by omega⟩ ?_
   refine(hu.ab dZ).head (decide_eq_true (by omega)) λal bS ak=>⟨_,_,_,xi ak,gC ⟨by omega,by omega,by omega⟩ ?_⟩
   refine k3 (E:=fT) y tU tT nq dZ rfl (by omega) λ_ jk jh dm aN fP bt _=> ?_
   have b8:=fP.1
   simp at b8
   exact⟨⟨zs,us,ws++[y],sn,tR,fP,by rw [<-he];simp,by omega,bt⟩,by show(n:Int).toNat-1+((m:Int).toNat-1)<n+m;omega⟩
  ·have gH:¬lv x y<0/\¬lv x y=0:=⟨of_decide_eq_false ae,by simpa using au⟩
   rw [if_neg gH.1,if_neg gH.2]at he
   refine(hu.ab dZ).head (decide_eq_true (by omega)) λal bS ak=>⟨_,_,_,xi ak,gC ⟨by omega,by omega,by omega⟩ ?_⟩
   refine k3 (E:=fT) y tU tT nq dZ rfl (by omega) λ_ jk jh dm aN fP bt _=> ?_
   have b8:=fP.1
   simp at b8
   exact⟨⟨x::zs,us,ws++[y],aC,tR,fP,by rw [<-he];simp,by omega,bt⟩,by show n+((m:Int).toNat-1)<n+m;omega⟩
 ·cases us with
  |nil=>rfl
  |cons y us=>simp at hm h1;omega
 ·cases zs with
  |nil=>rfl
  |cons y us=>simp at ay aD;omega
theorem Fp{x y:Int}{K:Int->J->Prop}(aa:bk b' H a 2 c [x,y])(hk:K (if x≠0 then x else y) H):
  aY atf Qw ⟨[.slice a 2 c]⟩ H λv H'=>∃n,v=.int .i64 n/\K n H':=by
 apply Qx
 refine⟨λvs H'=>match vs with|[.int _ i]=>H'=H/\(i=0\/(i=1/\x=0)\/(i=2/\x=0/\y=0))|_=>False,λvs _=>match vs with|[.int _ i]=>2-i.toNat|_=>0,⟨rfl,.inl rfl⟩,?_⟩
 rintro bm i H1 ⟨rfl,h⟩
 rcases h with rfl|⟨rfl,pd⟩|⟨rfl,pd,KE⟩
 ·refine ai (λ_=> ?_) (λh=>by simp at h)
  refine aa.get (k:=0) rfl rfl (decide_eq_true (by omega)) λal bS ak=>⟨_,iq (by kernel_rfl) ak,ai (λh=>⟨_,rfl,?_⟩) (λh=> ?_)⟩
  ·rw [if_pos (by simpa using h)]at hk;exact hk
  ·exact⟨⟨rfl,.inr (.inl ⟨by decide,by simpa using h⟩)⟩,show 2-(IntKind.i64.wrap (0+1)).toNat<2-(0:Int).toNat by decide⟩
 ·refine ai (λ_=> ?_) (λh=>by simp at h)
  refine aa.get (k:=1) rfl rfl (decide_eq_true (by omega)) λal bS ak=>⟨_,iq (by kernel_rfl) ak,ai (λh=>⟨_,rfl,?_⟩) (λh=> ?_)⟩
  ·rw [if_neg (by simpa using pd)]at hk;exact hk
  ·exact⟨⟨rfl,.inr (.inr ⟨by decide,pd,by simpa using h⟩)⟩,show 2-(IntKind.i64.wrap (1+1)).toNat<2-(1:Int).toNat by decide⟩
 ·refine ai (λh=>by simp at h) (λ_=>⟨_,rfl,?_⟩)
  rw [if_neg (by simpa using pd),KE]at hk;exact hk
theorem af7{x y:fu}{K:Int->J->Prop}(hk:∀H',Fr [] H H'->K (lv x y) H'):aY atf af8 ⟨[Da x,Da y]⟩ H λv H'=>∃n,v=.int .i64 n/\K n H':=by
 apply af9
 intro b H1 aB b1 ao bH
 have af:=aB.ag.aw bH.ag
 have g1:aU ao ⟨b,0,none⟩ (fT.cells x):=aB.bo.ab bH.ag
 have g2:aU ao ⟨b1,0,none⟩ (fT.cells y):=bH.bo
 refine⟨_,g1.b5 (by kernel_rfl) rfl,_,g2.b5 (by kernel_rfl) rfl,_,g1.bV (j:=1) (by kernel_rfl) rfl,_,g2.bV (j:=1) (by kernel_rfl) rfl,?_⟩
 refine w6 ⟨g2.bV (j:=1) (by kernel_rfl) rfl,g1.bV (j:=1) (by kernel_rfl) rfl,w6 ?_⟩
 intro cX aF bF
 have hs:bk b' aF (some ⟨cX,0,none⟩) 2 2 [gX x.1 y.1,gX x.2.1 y.2.1]:=by
  refine⟨rfl,nQ _,.inr ⟨cX,0,rfl,λi z aC j v aI=> ?_⟩⟩
  have JP:j=0:=by
   have:(b'.cells z).length=1:=rfl
   have:=(qb.1 aI).1
   omega
  subst JP
  have JQ:v=.int .i64 z:=by simpa [b']using aI.symm
  subst JQ
  rw [re bF.get]
  have e:b'.sz=1:=rfl
  rw [e]
  match i with
  |0=>simp at aC;subst aC;rfl
  |1=>simp at aC;subst aC;rfl
  |k+2=>simp at aC
 exact Fp hs ⟨_,rfl,hk aF (af.aw bF.ag)⟩
theorem af':QX (.func (.func 170) #[] #[]):=λx y H K hk=>⟨170, #[], #[],rfl,by kernel_rfl,af7 hk⟩
theorem aga{base:Nat}{xs:List bC}{K:J->Prop}(aa:Own encS 113 base H a n c xs)(ay:n<=1000000000)(hk:∀H',Own encS 113 base H' a n c xs.reverse->Fr (ax a) H H'->K H'):
  aY atf agb ⟨[.slice a n c]⟩ H λv H'=>v=.tuple ⟨[]⟩/\K H':=by
 apply agc
 have aH:=aa.1
 rw [dv (n:=(n:Int)-1) (by omega) (by omega)]
 refine⟨λvs H'=>match vs with
   |[.int _ i,.int _ j]=>∃A M B:List bC,xs=A++(M++B)/\A.length=B.length/\i=(A.length:Int)/\j=(n:Int)-1-A.length/\Own encS 113 base H' a n c (B.reverse++(M++A.reverse))/\Fr (ax a) H H'
   |_=>False,
  λvs _=>match vs with|[.int _ i,_]=>n-i.toNat|_=>0,⟨[],xs,[],by simp,rfl,rfl,by simp,by simpa using aa,Fr.refl _ _⟩,?_⟩
 rintro bm i j H1 ⟨A,M,B,rfl,aqJ,rfl,rfl,an,af⟩
 simp only [VH]at aH
 refine ai (λaD=> ?_) (λaD=> ?_)
 ·have bT:2<=M.length:=by have:=of_decide_eq_true aD;omega
  obtain⟨x,M,rfl⟩:∃x iv,M=x::iv:=by cases M with|nil=>simp at bT|cons x M=>exact⟨x,M,rfl⟩
  obtain⟨M,y,rfl⟩:∃iv y,M=iv++[y]:=⟨M.dropLast,M.getLast (by intro e;subst e;simp at bT),(avx _).symm⟩
  simp only [VH,asE,atc]at aH bT
  have agd:(n:Int)-1-A.length=((A.length+M.length+1:Nat):Int):=by omega
  rw [agd]
  have bc:B.reverse++((x::(M++[y]))++A.reverse)=B.reverse++x::(M++y::A.reverse):=by simp
  have bN:B.reverse++((x::(M++[y]))++A.reverse)=(B.reverse++x::M)++y::A.reverse:=by simp
  refine an.bL.get (k:=A.length+M.length+1) rfl (by rw [bN];exact xc (by simp;omega)) (decide_eq_true (by omega)) λal bS ak=>⟨_,_,gx ak,?_⟩
  refine an.bL.get (k:=A.length) rfl (by rw [bc];exact xc (by simp;omega)) (decide_eq_true (by omega)) λal bS ak=>⟨_,_,gx ak,?_⟩
  refine qH (E:=encS) (k:=A.length) y an rfl (by omega) (decide_eq_true (by omega)) rfl (by kernel_rfl) (by kernel_rfl) λao de bt=> ?_
  rw [bc,Am (by simp;omega)]at de
  have dP:B.reverse++y::(M++y::A.reverse)=(B.reverse++y::M)++y::A.reverse:=by simp
  refine qH (E:=encS) (k:=A.length+M.length+1) x de rfl (by omega) (decide_eq_true (by omega)) rfl (by kernel_rfl) (by kernel_rfl) λaF eN bG=> ?_
  rw [dP,Am (by simp;omega)]at eN
  rw [b6 (by omega),pJ (by omega) (by omega)]
  refine⟨⟨A++[x],M,y::B,by simp,by simp;omega,by simp,by simp;omega,by simpa using eN,(af.trans' bt (λ_ h _=>h) (λ_ h _=>h)).trans' bG (λ_ h _=>h) (λ_ h _=>h)⟩,?_⟩
  show n-((A.length+1:Nat):Int).toNat<n-((A.length:Nat):Int).toNat
  omega
 ·have bT:M.length<=1:=by have:=of_decide_eq_false aD;omega
  refine⟨rfl,hk H1 ?_ af⟩
  have:M.reverse=M:=by
   match M,bT with
   |[],_=>rfl
   |[x],_=>rfl
  simpa [this]using an
def j5(p:Option Int):List bC->List bC
 |[]=>[]
 |x::l=>if p=some x.1 then j5 (some x.1) l else x::j5 (some x.1) l
def yK(p:Option Int)(u:List bC):Option Int:=match u.getLast? with|some y=>some y.1|none=>p
theorem Q0(x:bC):∀(u:List bC) (p:Option Int),j5 p (u++[x])=j5 p u++(if yK p u=some x.1 then []else [x])
 |[],p=>by
  unfold yK
  simp only [as8,List.getLast?_nil]
  show(if p=some x.1 then j5 (some x.1) []else x::j5 (some x.1) [])=[]++(if p=some x.1 then []else [x])
  by_cases h:p=some x.1
  ·rw [if_pos h,if_pos h];rfl
  ·rw [if_neg h,if_neg h];rfl
 |y::u,p=>by
  have ih:=Q0 x u (some y.1)
  have e:yK p (y::u)=yK (some y.1) u:=by
   unfold yK
   rw [List.getLast?_cons]
   cases u.getLast?<;>rfl
  rw [e]
  show(if p=some y.1 then j5 (some y.1) (u++[x])else y::j5 (some y.1) (u++[x]))=(if p=some y.1 then j5 (some y.1) u else y::j5 (some y.1) u)++_
  rw [ih]
  split<;>simp
def dy(l:List bC):List bC:=j5 none l
theorem Q1{xs:List bC}{x y:bC}(av:xs[k]?=some y)(aa:xs[k+1]?=some x):dy (xs.take (k+2))=dy (xs.take (k+1))++(if y.1=x.1 then []else [x]):=by
 have e:xs.take (k+2)=xs.take (k+1)++[x]:=by rw [ats,aa];rfl
 have bN:yK none (xs.take (k+1))=some y.1:=by
  unfold yK
  rw [show xs.take (k+1)=xs.take k++[y] by rw [ats,av];rfl]
  simp
 unfold dy
 rw [e,Q0,bN]
 simp
theorem age{xs:List bC}(h:xs≠[]):dy (xs.take 1)=xs.take 1:=by
 cases xs with
 |nil=>exact absurd rfl h
 |cons x l=>rfl
def Q2(D:Value):Prop:=∀(x y:bC) (H:J) (K:Bool->J->Prop),(∀H',Fr [] H H'->K (x.1==y.1) H')->dO atf D [e5 x,e5 y] H λv H'=>∃b,v=.bool b/\K b H'
theorem agf:Q2 (.func (.func 134) #[] #[]):=λx y H K hk=>⟨134, #[], #[],rfl,by kernel_rfl,by
 apply agh
 intro b H1 aB b1 ao bH
 exact⟨_,(aB.bo.ab bH.ag).b5 (by kernel_rfl) rfl,_,bH.bo.b5 (by kernel_rfl) rfl,_,rfl,hk ao (aB.ag.aw bH.ag)⟩⟩
theorem Q3(p:Option Int):∀l:List bC,(j5 p l).length<=l.length
 |[]=>nQ _
 |x::l=>by
  have ih:=Q3 (some x.1) l
  show(if p=some x.1 then j5 (some x.1) l else x::j5 (some x.1) l).length<=_
  split<;>simp<;>omega
theorem agi{D:Value}{base:Nat}{xs:List bC}{K:Option Addr->Nat->Nat->J->Prop}(dz:Q2 D)(an:Own encS 113 base H a n c xs)(ay:n<=1000000000)
  (hk:∀aQ H',Own encS 113 base H' a aQ c (dy xs)->aQ<=n->Fr (ax a) H H'->K a aQ c H'):
  aY atf agj ⟨[.slice a n c,D]⟩ H λv H'=>∃a n c,v=.slice a n c/\K a n c H':=by
 apply agk
 have aH:=an.1
 refine ai (λh=>⟨_,_,_,rfl,hk n H ?_ (nQ _) (Fr.refl _ _)⟩) (λh=> ?_)
 ·have ae:xs.length<2:=by simp at h;omega
  match xs,ae with
  |[],_=>exact an
  |[x],_=>exact an
 have ae:2<=n:=by simp at h;omega
 have cH:xs≠[]:=by intro e;subst e;simp at aH;omega
 refine⟨λvs H'=>match vs with|[.int _ i]=>∃k:Nat,i=((k+1:Nat):Int)/\k+1<=n/\dy (xs.take (k+1))=xs.take (k+1)/\Fr [] H H'|_=>False,
  λvs _=>match vs with|[.int _ i]=>n-i.toNat|_=>0,⟨0,rfl,by omega,age cH,Fr.refl _ _⟩,?_⟩
 rintro bm i H1 ⟨k,rfl,du,wV,af⟩
 have fw:=an.ab af
 refine ai (λaD=> ?_) (λaD=> ?_)
 ·have bT:k+1<n:=by simp at aD;omega
  have b0:xs[k+1]?=some (xs[k+1]'(by omega)):=by simp
  generalize xs[k+1]'(by omega)=x at b0
  have jZ:xs[k]?=some (xs[k]'(by omega)):=by simp
  generalize xs[k]'(by omega)=y at jZ
  have mK:=Q1 jZ b0
  rw [pJ (by omega) (by omega),show k+1-1=k by omega,b6 (by omega)]
  refine fw.bL.get rfl b0 (decide_eq_true (by omega)) λal bS ak=>⟨_,_,gx ak,?_⟩
  refine fw.bL.get rfl jZ (decide_eq_true (by omega)) λal bS ak=>⟨_,_,gx ak,?_⟩
  refine dz x y H1 _ λao bt=> ?_
  have nH:=af.aw bt
  refine ai (λau=> ?_) (λau=>⟨⟨k+1,rfl,by omega,?_,nH⟩,?_⟩)
  rotate_left
  ·rw [mK,if_neg (by intro e;simp [e]at au),wV,ats (i:=k+1),b0];rfl
  ·show n-((k+1+1:Nat):Int).toNat<n-((k+1:Nat):Int).toNat
   omega
  have u3:x.1=y.1:=by simpa using au
  refine gC ⟨by omega,by omega,by have:=fw.bL.cap;omega⟩ ?_
  simp only [asD]
  refine⟨λvs H'=>match vs with|[.int _ i,.int _ j]=>∃(m q:Nat) (ws:List bC),i=m/\j=((q+1:Nat):Int)/\m<=k+1+q/\k+1+q+1<=n/\Own encS 113 base H' a n c ws/\ws.take m=dy (xs.take (k+1+q+1))/\ws.drop (k+1+q)=xs.drop (k+1+q)/\Fr (ax a) H H'|_=>False,
   λvs _=>match vs with|[_,.int _ i]=>n-i.toNat|_=>0,⟨k+1,0,xs,rfl,rfl,by omega,by omega,fw.ab bt,?_,rfl,nH.mono (by simp)⟩,?_⟩
  ·rw [mK,if_pos u3.symm,wV,as0]
  rintro bm i j aF ⟨m,q,ws,rfl,rfl,aqK,Q4,ku,e8,ll,bG⟩
  have Kg:=ku.1
  refine ai (λa6=> ?_) (λa6=> ?_)
  ·have agl:k+1+q+1<n:=by have:=of_decide_eq_true a6;omega
   have zR:xs[k+1+q+1]?=some (xs[k+1+q+1]'(by omega)):=by simp
   generalize xs[k+1+q+1]'(by omega)=b7 at zR
   have KF:xs[k+1+q]?=some (xs[k+1+q]'(by omega)):=by simp
   generalize xs[k+1+q]'(by omega)=yL at KF
   have xj:ws[k+1+q+1]?=some b7:=by
    have:=congrArg (λl=>l[1]?) ll
    simp only [VG]at this
    rw [show k+1+q+1=k+1+q+1 from rfl,this,zR]
   have agm:ws[k+1+q]?=some yL:=by
    have:=congrArg (λl=>l[0]?) ll
    simp only [VG,Nat.add_zero]at this
    rw [this,KF]
   have mL:=Q1 KF zR
   have Q5:ws.drop (k+1+(q+1))=xs.drop (k+1+(q+1)):=by
    have:=congrArg (λl=>l.drop 1) ll
    simpa [List.drop_drop,Nat.add_assoc]using this
   have zU:=ku.bL.drop (k:=k+1) (by omega)
   rw [pJ (by omega) (by omega),show q+1-1=q by omega]
   have g1:(ws.drop (k+1))[q+1]?=some b7:=by rw [VG];exact xj
   have g2:(ws.drop (k+1))[q]?=some yL:=by rw [VG];exact agm
   refine zU.get (k:=q+1) rfl g1 (decide_eq_true (by omega)) λal bS ak=>⟨_,_,gx ak,?_⟩
   refine zU.get rfl g2 (decide_eq_true (by omega)) λal bS ak=>⟨_,_,gx ak,?_⟩
   refine dz b7 yL aF _ λaN bU=> ?_
   have pW:=ku.ab bU
   have Gc:=bG.trans' bU (T:=ax a) (λ_ h _=>h) (by simp)
   have Q6:n-((q+1+1:Nat):Int).toNat<n-((q+1:Nat):Int).toNat:=by omega
   refine ai (λbu=> ?_) (λbu=>by rw [b6 (by omega)];exact⟨⟨m,q+1,ws,rfl,rfl,by omega,by omega,pW,by
     show ws.take m=dy (xs.take (k+1+q+2))
     rw [mL,if_pos (by
       have:b7.1=yL.1:=by simpa using bu
       exact this.symm),e8,as0],Q5,Gc⟩,Q6⟩)
   ·refine(zU.ab bU).get rfl g1 (decide_eq_true (by omega)) λal bS ak=>⟨_,_,gx ak,?_⟩
    rw [b6 (by omega),b6 (by omega)]
    refine qH (E:=encS) b7 pW rfl (by omega) (decide_eq_true (by omega)) rfl (by kernel_rfl) (by kernel_rfl) λbw yA bW=>⟨⟨m+1,q+1,_,rfl,rfl,by omega,by omega,yA,?_,?_,Gc.trans' bW (λ_ h _=>h) (λ_ h _=>h)⟩,Q6⟩
    ·show(ws.set m b7).take (m+1)=dy (xs.take (k+1+q+2))
     rw [mL,if_neg (by intro e;simp [e]at bu),<-e8,ats,avH (nQ _),avI (by omega)]
     rfl
    ·rw [avJ (by omega)];exact Q5
  ·have agl:k+1+q+1=n:=by have:=of_decide_eq_false a6;omega
   have x4:=ku.bL.cap
   refine gC ⟨by omega,by omega,by omega⟩ ?_
   simp only [asD]
   refine Gt (E:=encS) nZ QO rfl (by simp [avm]) ku (by omega) λaN pW bU=>gC ⟨by omega,by omega,by omega⟩ ?_
   refine⟨_,_,_,rfl,hk _ aN ?_ (by omega) (bG.trans' bU (λ_ h _=>h) (λ_ h _=>h))⟩
   rw [e8,asG (by omega)]at pW
   simpa using pW
 ·have bT:k+1=n:=by simp at aD;omega
  refine⟨_,_,_,rfl,hk n H1 ?_ (nQ _) (af.mono (by simp))⟩
  rw [asG (by omega)]at wV
  rw [wV];exact fw
theorem Kl{order:Value}(bI:KD order){xs:List bb}{t:bb}{K:Int->Bool->J->Prop}(aa:bk dL H a n c xs)(ay:n<=1000000000)(aA:xs.Pairwise λx y=>x.1<y.1)
  (ff:∀(k:Nat) x H',xs[k]?=some x->x.1=t.1->Fr [] H H'->K k true H') (cz:(∀x∈xs,x.1≠t.1)->∀(m:Int) H',Fr [] H H'->K m false H'):
  aY atf agn ⟨[.slice a n c,jM t,order]⟩ H λv H'=>∃m b,v=.tuple ⟨[.int .i64 m,.bool b]⟩/\K m b H':=by
 apply ago
 intro b H1 aB
 have aH:=aa.len
 have cF:∀{i j:Nat} {x y:bb},i<j->xs[i]?=some x->xs[j]?=some y->x.1<y.1:=λ{i j x y} mD aa av=>by
  obtain⟨az,rfl⟩:=qb.1 aa
  obtain⟨a',rfl⟩:=qb.1 av
  exact avK.1 aA i j az a' mD
 refine⟨λvs H'=>match vs with
   |[.int _ i,.int _ j]=>∃p q:Nat,i=p/\j=q/\p<=q/\q<=n/\(∀k x,k<p->xs[k]?=some x->x.1<t.1)/\(∀k x,q<=k->xs[k]?=some x->t.1<=x.1)/\Fr [] H1 H'
   |_=>False,
  λvs _=>match vs with|[.int _ i,.int _ j]=>j.toNat-i.toNat|_=>0,⟨0,n,rfl,rfl,by omega,by omega,λk x h=>by omega,λk x h aa=>by have:=(qb.1 aa).1;omega,Fr.refl _ _⟩,?_⟩
 rintro bm i j ao ⟨p,q,rfl,rfl,Q7,Q4,KG,wc,af⟩
 have nH:=aB.ag.aw af
 have ah:aU ao ⟨b,0,none⟩ (dL.cells t):=aB.bo.ab af
 have ow:∀{H':J},Fr [] ao H'->cR atf 57 H' ⟨b,0,none⟩ (jM t):=λdZ=>(ah.ab dZ).dX (us:=dL.cells t) (by kernel_rfl) (by kernel_rfl) rfl
 refine ai (λaD=> ?_) (λaD=> ?_)
 ·have bT:p<q:=by simpa using aD
  rw [Ao (by omega)]
  have vj:p<=(p+q)/2:=by omega
  have yE:(p+q)/2<q:=by omega
  generalize(p+q)/2=h at vj yE
  have aC:xs[h]?=some (xs[h]'(by omega)):=by simp
  generalize xs[h]'(by omega)=z at aC
  refine(aa.ab nH).get (k:=h) rfl aC (decide_eq_true (by omega)) λal bS ak=>⟨_,_,_,_,j4 ak,_,_,_,_,ow (Fr.refl _ _),?_⟩
  refine bI z t ao _ λaF bG=> ?_
  rw [b6 (by omega)]
  refine ai (λca=>⟨⟨h+1,q,rfl,rfl,by omega,Q4,λk x hk aa=> ?_,wc,af.aw bG⟩,?_⟩) (λca=>⟨⟨p,h,rfl,rfl,by omega,by omega,KG,λk x hk aa=> ?_,af.aw bG⟩,?_⟩)
  ·have ca:z.1<t.1:=lN.1 (of_decide_eq_true ca)
   rcases atv k h with dJ|dJ
   ·have:=cF dJ aa aC;omega
   ·have:k=h:=by omega
    subst this
    rw [aC]at aa;cases aa;exact ca
  ·show((q:Nat):Int).toNat-((h+1:Nat):Int).toNat<((q:Nat):Int).toNat-((p:Nat):Int).toNat
   omega
  ·have ca:¬z.1<t.1:=λh=>of_decide_eq_false ca (lN.2 h)
   rcases atv h k with dJ|dJ
   ·have:=cF dJ aC aa;omega
   ·have:k=h:=by omega
    subst this
    rw [aC]at aa;cases aa;omega
  ·show((h:Nat):Int).toNat-((p:Nat):Int).toNat<((q:Nat):Int).toNat-((p:Nat):Int).toNat
   omega
 ·have bT:p=q:=by simp at aD;omega
  subst bT
  have Q8:(∀x,xs[p]?=some x->x.1≠t.1)->∀x∈xs,x.1≠t.1:=λh x aa=>by
   obtain⟨k,hk⟩:=avg aa
   rcases atv k p with dJ|dJ
   ·have:=KG k x dJ hk;omega
   ·rcases atv p k with hx|hx
    ·have nm:p<xs.length:=by have:=(qb.1 hk).1;omega
     have aC:xs[p]?=some xs[p]:=by simp
     have kI:=wc p _ (nQ _) aC
     have:=cF hx aC hk
     omega
    ·have:k=p:=by omega
     subst this
     exact h x hk
  refine ai (λh1=> ?_) (λh1=>⟨_,_,rfl,cz (Q8 λx aa=> ?_) _ ao nH⟩)
  ·have gp:p<n:=by simpa using h1
   have aC:xs[p]?=some (xs[p]'(by omega)):=by simp
   generalize xs[p]'(by omega)=z at aC
   refine(aa.ab nH).get (k:=p) rfl aC (decide_eq_true (by omega)) λal bS ak=>⟨_,_,_,_,j4 ak,_,_,_,_,ow (Fr.refl _ _),?_⟩
   refine bI z t ao _ λaF bG=>⟨_,_,rfl,?_⟩
   have jj:=nH.aw bG
   unfold lu
   by_cases e:z.1=t.1
   ·have:(gX z.1 t.1==0)=true:=by rw [e];unfold gX;simp
    rw [this];exact ff p z aF aC e jj
   ·have:(gX z.1 t.1==0)=false:=by unfold gX;split;rfl;split;rfl;omega
    rw [this]
    exact cz (Q8 λx aa=>by rw [aC]at aa;cases aa;exact e) _ aF jj
  ·have:=(qb.1 aa).1
   simp at h1;omega
end Go.Proofs.bb
