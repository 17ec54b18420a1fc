/- A part of a proof: see the last text of this claim. -/
import Derived.Test.YtlafckjfkaldaaaGreatDoorP6
import Derived.Test.YtlafckjfkaldaaaGreatDoorP5
import Derived.Test.YtlafckjfkaldaaaGreatDoorP3
import Derived.Lib.BufferWrite
import Derived.Lib.UnsafeStr
import Derived.Laws.MakeOwn
import Derived.Lib.ItoaLen
import Derived.Test.YtlafckjfkaldaaaGreatDoorP4
import Derived.Test.YtlafckjfkaldaaaGreatDoorP1
import Derived.Test.YtlafckjfkaldaaaGreatDoorTie
import Derived.ProofKit
import Derived.LaidMore
import Derived.OpenShut
import Derived.MakeChecks
import Derived.Stop.Joined
open _root_.Go.Proofs.Tryz renaming prog→atf,underlying3→atA,underlying213→awa,underlying9→atB,underlying225→awb,underlying184→awc,underlying28→awd,underlying250→awk
open _root_.Go.Value renaming cells→atq,tuple→avR,bool→atp,oneCell'→avm
open _root_.List renaming mem_cons→o3,mem_of_getElem?→att,length_append→VH,length_cons→asE,mem_nil_iff→aty,length_nil→atc,mem_singleton→ar7,mem_append→asU,take_add_one→ats,append_nil→as0,take_of_length_le→asG,flatMap_cons→Er,length_take→apH,nil_append→as8,drop_of_length_le→avr,mem_of_mem_take→auL,take_length→asM,getElem?_eq_some_iff→qb,mem_cons_of_mem→MY,foldl_cons→asn,flatMap_nil→atb,getElem?_of_mem→avg,length_filter_le→avd,mem_iff_getElem?→avu,length_singleton→awj,eq_nil_of_length_eq_zero→asF,getElem?_map→apN,getElem?_eq_none_iff→awm
open _root_.ByteArray renaming size_append→avN,size_extract→awe,ext→awf,empty_append→awl,toList→atn
open _root_.Nat renaming le_refl→nQ,zero_le→apG,le_trans→VF,lt_or_ge→atv
open _root_.Go.IntKind renaming wrap→atj
open _root_.Array renaming length_toList→Eo,eq_empty_of_size_eq_zero→awg,getElem?_toList→avP
open _root_.Option renaming bind_some→awh,getD_none→awi,map_some→apP
set_option linter.unusedVariables false
set_option maxRecDepth 100000
open Go Go.bs
namespace Go.Proofs
open cU (eu eW l9 iu jF)
theorem Tb(s:ByteArray)(i:Nat):∃x:UInt8,(bl s i:Int)=(x.toNat:Int):=⟨UInt8.ofNat (bl s i),by rw [UInt8.toNat_ofNat'];have:=va s i;omega⟩
theorem LR(s:ByteArray)(i:Nat):(s.extract i s.size).size=s.size-i:=by rw [awe];omega
variable{H H':J}{a:Option Addr}{c n b N M x cy dr q p pr:Nat}{s:ByteArray}{vs:List Value}{d al:Addr}{Sd:List Nat}{f t:Int}
theorem Tc{K:ByteArray->ByteArray->Bool->J->Prop}(hs:s.size<=1000000)(hk:∀v t b H',v.size<=s.size->t.size<=s.size->(b=true->t.size<s.size)->(b=false->t.size=0)->Fr [] H H'->K v t b H'):
  aY atf ajP ⟨[.string s]⟩ H λv H'=>∃u t b,v=.tuple ⟨[.string u,.string t,.bool b]⟩/\K u t b H':=by
 apply ajQ
 have no:∀{H'},Fr [] H H'->∃u t b,avR ⟨[.string ⟨#[]⟩,.string ⟨#[]⟩,.bool false]⟩=.tuple ⟨[.string u,.string t,.bool b]⟩/\K u t b H':=λaf=>⟨_,_,_,rfl,hk _ _ _ _ (apG _) (apG _) (λh=>by cases h) (λ_=>rfl) af⟩
 refine⟨λ_ H'=>H'=H/\0<s.size,ai (λ_=>no (Fr.refl _ _)) (λc0=> ?_),?_⟩
 ·have bh:0<s.size:=by
   rw [q6]at c0
   have cH:s≠⟨#[]⟩:=by simpa using c0
   rcases Nat.eq_zero_or_pos s.size with h|h
   ·exact absurd (awf (awg h)) cH
   ·exact h
  exact cb (decide_eq_true ⟨by omega,by omega⟩) (ai (λ_=>no (Fr.refl _ _)) λ_=>⟨rfl,bh⟩)
 rintro bm H0 ⟨rfl,bh⟩ b H1 aB
 have bc:=aB.eq
 refine⟨λvs H'=>match vs with|[.int _ i]=>∃(k:Nat) (S:List Nat) (xs:List UInt8),i=k/\1<=k/\k<=s.size+1/\hI H' b S xs/\xs.length+1<=k/\xs.length<=s.size/\(∀j∈S,H0.size<=j)/\Fr [] H0 H'|_=>False,
  λvs _=>match vs with|[.int _ i]=>s.size+1-i.toNat|_=>0,⟨1,[b],[],rfl,nQ _,by omega,l4.new aB,by simp,apG _,λj a'=>by simp at a';omega,aB.ag⟩,?_⟩
 rintro bm i ao ⟨k,S,xs,rfl,pH,arj,bK,jr,kM,bI,f2⟩
 refine ai (λc0=> ?_) (λ_=>no f2)
 have gB:k<s.size:=by simpa using c0
 have put:∀{x:UInt8} {k':Nat} {X:Value->J->Prop},k+1<=k'->k'<=s.size+1->(∀v H',(∃(k:Nat) (S:List Nat) (xs:List UInt8),(k':Int)=k/\1<=k/\k<=s.size+1/\hI H' b S xs/\xs.length+1<=k/\xs.length<=s.size/\(∀j∈S,H0.size<=j)/\Fr [] H0 H')->s.size+1-(k':Int).toNat<s.size+1-(k:Int).toNat->X v H')->j8 164 [.pointer (some ⟨b,0,none⟩),.int .u8 (x.toNat:Int)] ao X:=λ{x k' X} h1 ae gU=>by
  refine u9 bK rfl (by omega) λaF lb sF f3 g3=>gU _ aF ⟨k',lb,_,rfl,by omega,ae,sF,by simp;omega,by simp;omega,λj a'=> ?_,f2.ab f3 bI⟩ (by omega)
  rcases g3 j a' with q|q
  ·exact bI j q
  ·have:=f2.size;omega
 refine cb (decide_eq_true ⟨by omega,by omega⟩) (ai (λc1=> ?_) (λc1=>ai (λc2=> ?_) (λc2=> ?_)))
 ·rw [b6 (by omega)]
  refine cb (decide_eq_true ⟨by omega,by omega,by omega⟩) (r5 bK (by omega) λaF f3=>⟨_,_,_,rfl,?_⟩)
  have Gp:(s.extract (((k+1:Nat):Int)).toNat (s.size:Int).toNat).size=s.size-(k+1):=LR s (k+1)
  exact hk _ _ _ _ (by rw [eQ];omega) (by omega) (λ_=>by omega) (λh=>by cases h) (f2.ab f3 bI)
 ·rw [b6 (by omega)]
  refine ai (λ_=>no f2) (λc3=> ?_)
  have AL:k+1<s.size:=by simp at c3;omega
  refine cb (decide_eq_true ⟨by omega,by omega⟩) ?_
  rw [b6 (by omega)]
  refine ai (λ_=>put (x:=10) (k':=k+1+1) (by omega) (by omega) λv H' h1 ae=>⟨h1,ae⟩) (λ_=> ?_)
  obtain⟨x,aa⟩:=Tb s (((k+1:Nat):Int)).toNat
  rw [aa]
  exact put (k':=k+1+1) (by omega) (by omega) λv H' h1 ae=>⟨h1,ae⟩
 ·obtain⟨x,aa⟩:=Tb s ((k:Nat):Int).toNat
  rw [aa,b6 (by omega)]
  exact put (k':=k+1) (by omega) (by omega) λv H' h1 ae=>⟨h1,ae⟩
theorem ajR{α:Type}{E:dd α}{t:TypeId}{base:Nat}(x:α)(h:ds H b (.cells ⟨vs⟩ t) H')(aI:vs=E.cells x)(ah:base<=H.size):Own E t base H' (some ⟨b,0,none⟩) 1 1 [x]:=by
 subst aI
 refine⟨rfl,.inr ⟨b,⟨E.cells x⟩,rfl,by rw [h.eq];exact ah,h.get,nQ _,by simp [maxLen],?_,?_⟩⟩
 ·simp [E.len x,Nat.one_mul]
 ·rw [Nat.one_mul]
  simp only [Er,atb,as0]
  exact asG (Nat.le_of_eq (E.len x))
section
variable{H:J}{b:Nat}{oE:Int}{bP v:ByteArray}{aO:dH}{X:J->Prop}
theorem ajS(DU:Int)(h:eW H b (oE,bP,v,aO))(k:∀H',eW H' b (DU,bP,v,aO)->Fr [b] H H'->X H'):∃H',fX 3 H ⟨b,0,none⟩ (.int .i64 DU) H'/\X H':=
 aU.st (a:=⟨b,0,none⟩) (j:=0) (v:=.int .i64 DU) h (by kernel_rfl) (by kernel_rfl) (lz rfl) (by simp [atq,cU.hg]) λH' ah af=>k H' (by unfold eW;simpa [atq,cU.hg]using ah) af
theorem Td(r8:ByteArray)(h:eW H b (oE,bP,v,aO))(k:∀H',eW H' b (oE,r8,v,aO)->Fr [b] H H'->X H'):∃H',fX 9 H ⟨b,1,none⟩ (.string r8) H'/\X H':=
 aU.st (a:=⟨b,0,none⟩) (j:=1) (v:=.string r8) h (by kernel_rfl) (by kernel_rfl) (lz rfl) (by simp [atq,cU.hg]) λH' ah af=>k H' (by unfold eW;simpa [atq,cU.hg]using ah) af
theorem ajT(gr:ByteArray)(h:eW H b (oE,bP,v,aO))(k:∀H',eW H' b (oE,bP,gr,aO)->Fr [b] H H'->X H'):∃H',fX 9 H ⟨b,2,none⟩ (.string gr) H'/\X H':=
 aU.st (a:=⟨b,0,none⟩) (j:=2) (v:=.string gr) h (by kernel_rfl) (by kernel_rfl) (lz rfl) (by simp [atq,cU.hg]) λH' ah af=>k H' (by unfold eW;simpa [atq,cU.hg]using ah) af
theorem Te(hd':dH)(h:eW H b (oE,bP,v,aO))(k:∀H',eW H' b (oE,bP,v,hd')->Fr [b] H H'->X H'):∃H',fX 114 H ⟨b,3,none⟩ (.slice hd'.1 hd'.2.1 hd'.2.2) H'/\X H':=
 aU.st (a:=⟨b,0,none⟩) (j:=3) (v:=.slice hd'.1 hd'.2.1 hd'.2.2) h (by kernel_rfl) (by kernel_rfl) (lz rfl) (by simp [atq,cU.hg]) λH' ah af=>k H' (by unfold eW;simpa [atq,cU.hg]using ah) af
theorem Tf{x:eu}(x':eu)(h:eW H b x)(k:∀H',eW H' b x'->Fr [b] H H'->X H'):∃H',fX 116 H ⟨b,0,none⟩ (jF x') H'/\X H':=
 aU.jq (v:=jF x') h (by kernel_rfl) (by kernel_rfl) (λy av=>by simp [atq]at av;rcases av with rfl|rfl|rfl|rfl<;>rfl) (by simp [atq,cU.hg]) λH' ah af=>k H' (by unfold eW;simpa [atq,cU.hg]using ah) af
end
theorem ajU(s p:List UInt8):(Lib.cut s p).1.length<=s.length/\(Lib.cut s p).2.1.length<=s.length:=by
 unfold Lib.cut
 split
 ·simp only [apH,List.length_drop];omega
 ·simp
theorem ajV{s p:List UInt8}(h:Lib.hasPrefix s p=true):p.length<=s.length:=by
 unfold Lib.hasPrefix at h
 exact(List.isPrefixOf_iff_prefix.1 h).length_le
theorem ajW(s p:List UInt8):(Lib.trimPrefix s p).length<=s.length:=by
 unfold Lib.trimPrefix
 split
 ·simp
 ·exact nQ _
def nb(base:Nat)(H:J)(x:eu)(m:fg):Prop:=m.1=x.1/\m.2.1=x.2.1/\m.2.2.1=x.2.2.1/\Own bs.dT 9 base H x.2.2.2.1 x.2.2.2.2.1 x.2.2.2.2.2 m.2.2.2/\x.2.2.2.2.1<=1000000
theorem nb.LS{base:Nat}{x:eu}{m:fg}(h:nb base H x m):l9 H x m:=⟨h.1,h.2.1,h.2.2.1,h.2.2.2.1.bL,by have:=h.2.2.2.2;omega⟩
theorem ajX{K:eu->ByteArray->Bool->J->Prop}(hs:s.size<=100000)(qw:∃m,hM H ⟨1,0,none⟩=some (.int .i64 m))(hk:∀x m t b H',nb H.size H' x m->t.size<=s.size->(b=true->t.size<s.size)->Fr [] H H'->K x t b H'):
  aY atf Tg ⟨[.string s]⟩ H λv H'=>∃(x:eu) (t:ByteArray) (b:Bool),v=.tuple ⟨[jF x,.string t,.bool b]⟩/\K x t b H':=by
 apply ajY
 intro b H1 aB
 have bc:=aB.eq
 have hR:=aB.size
 have ah:eW H1 b (0,⟨#[]⟩,⟨#[]⟩,none,0,0):=aB.bo
 obtain⟨j0,nJ⟩:=qw
 have kU:=ajU s.data.toList (⟨#[61]⟩:ByteArray).data.toList
 have eo:s.data.toList.length=s.size:=c6 s
 refine ajZ Tryz.cut rfl (by omega) ⟨j0,aB.ag.cell0 nJ⟩ ?_
 generalize Lib.cut s.data.toList (⟨#[61]⟩:ByteArray).data.toList=ct at kU
 obtain⟨jE,iH,dU⟩:=ct
 simp only at kU⊢
 have Th:(⟨jE.toArray⟩:ByteArray).size<=s.size:=by rw [eQ];omega
 have ark:(⟨iH.toArray⟩:ByteArray).size<=s.size:=by rw [eQ];omega
 refine Td _ ah λao b8 f2=>cU.IJ λaF f3=>⟨_,_,_,_,_,_,_,_,rfl,?_⟩
 have df:∀{H' cG},Fr [] H H'->Fr [b] H' cG->Fr [] H cG:=λh1 ae=>h1.ab ae λk hk=>by simp at hk;omega
 have iz:=(df aB.ag f2).aw f3
 refine⟨λvs H'=>match vs with|[.int _ i]=>∃(k:Nat) (oE:Int) (bP:ByteArray),i=k/\k<=4/\eW H' b (oE,bP,⟨#[]⟩,none,0,0)/\Fr [] H H'|_=>False,
  λvs _=>match vs with|[.int _ i]=>4-i.toNat|_=>0,⟨0,0,_,rfl,by omega,b8.ab f3,iz⟩,?_⟩
 rintro bm i aN ⟨k,oE,bP,rfl,abA,dY,f4⟩
 refine ai (λc0=> ?_) (λc0=> ?_)
 ·have gB:k<4:=by simp at c0;omega
  obtain⟨jX,Hd,q2,arl,fo⟩:=S6 (i:=(k:Int)) (by omega) (by omega)
  refine cb (decide_eq_true ⟨by omega,by omega⟩) ⟨jX,Hd,q2,λb2 bw e7=> ?_⟩
  have je:=e7.eq
  have z4:=f4.size
  have step:∀{H'} {DU:Int} {r8:ByteArray},eW H' b (DU,r8,⟨#[]⟩,none,0,0)->Fr [] H H'->(∃(k':Nat) (oE:Int) (bP:ByteArray),IntKind.i64.wrap ((k:Int)+1)=k'/\k'<=4/\eW H' b (oE,bP,⟨#[]⟩,none,0,0)/\Fr [] H H')/\4-(IntKind.i64.wrap ((k:Int)+1)).toNat<4-(k:Int).toNat:=λh1 ae=>by
   rw [b6 (by omega)]
   exact⟨⟨k+1,_,_,rfl,by omega,h1,ae⟩,by omega⟩
  refine e7.bo.jq (v:=.agg ⟨[.string jX,Hd]⟩) (by kernel_rfl) (by kernel_rfl) (λy av=>by simp [atq]at av;rcases av with rfl|rfl<;>first|rfl|exact fo) (by simp [atq]) λbY gj f6=> ?_
  have aj0:aU bY ⟨b2,0,none⟩ [.string jX,Hd]:=by simpa [atq]using gj
  have f46:Fr [] aN bY:=e7.ag.ab f6 λq a1=>by simp at a1;omega
  have h0:=f4.aw f46
  have LU:=dY.ab f46
  have arn:(⟨#[61]⟩:ByteArray).size=1:=rfl
  refine cb (decide_eq_true (by omega)) ⟨_,aj0.b5 (by kernel_rfl) rfl,aj1 Tryz.aj2 rfl (by rw [avN];omega) ?_⟩
  refine ai (λ_=>ai (λ_=> ?_) λ_=>step LU h0) λ_=>step LU h0
  exact ajS _ LU λcC ji f7=>Td _ ji λed oa f8=>step oa (df (df h0 f7) f8)
 ·refine Tc (by omega) λv t fj bw ajO htz z6 htf f5=>⟨_,(dY.ab f5).c7,?_⟩
  have jQ:=f4.aw f5
  have dI:=dY.ab f5
  have ret:∀{H':J} {x:eu} {m:fg} {t:ByteArray} {fj:Bool},eW H' b x->nb H.size H' x m->b∉ax x.2.2.2.1->t.size<=s.size->(fj=true->t.size<s.size)->Fr [] H H'->∃n s a fh eh c,a7 116 H' ⟨b,0,none⟩ (.agg ⟨[.int .i64 n,.string s,.string a,.slice fh eh c]⟩)/\∃cv,fX 116 H' ⟨b,0,none⟩ (.agg ⟨[.int .i64 n,.string s,.string a,.slice fh eh c]⟩) cv/\∃n s a fh eh c,a7 116 cv ⟨b,0,none⟩ (.agg ⟨[.int .i64 n,.string s,.string a,.slice fh eh c]⟩)/\∃(x:eu) (t':ByteArray) (fO:Bool),avR ⟨[.agg ⟨[.int .i64 n,.string s,.string a,.slice fh eh c]⟩,.string t,.bool fj]⟩=.tuple ⟨[jF x,.string t',.bool fO]⟩/\K x t' fO cv:=λ{H' x m t fj} h1 ae au a6 bu ca=>by
   refine⟨_,_,_,_,_,_,h1.nt,Tf x h1 λcC dJ f7=>⟨_,_,_,_,_,_,dJ.nt,x,t,fj,rfl,?_⟩⟩
   exact hk x m t fj cC ⟨ae.1,ae.2.1,ae.2.2.1,ae.2.2.2.1.ag f7 (eG λq a1 aq=>by simp at aq;subst aq;exact au a1),ae.2.2.2.2⟩ a6 bu (df ca f7)
  refine ai (λ_=> ?_) (λ_ cX bY hL=> ?_)
  ·refine ajT v dI λbY gj f6=>ret (m:=(oE,bP,v,[])) gj ⟨rfl,rfl,rfl,Own.nil _ _ _ _,by simp⟩ (by simp [ax]) (by omega) (λh=>by have:=z6 h;omega) (df jQ f6)
  ·have nO:=hL.eq
   have z5:=jQ.size
   have bne:b≠cX:=by have:=dI.lt;simp only at this;omega
   refine Te (some ⟨cX,0,none⟩,1,1) (dI.ab hL.ag) λcC ji f7=> ?_
   have fo:Own bs.dT 9 H.size cC (some ⟨cX,0,none⟩) 1 1 [v]:=(ajR (E:=bs.dT) v hL rfl (by omega)).ag f7 (eG λq a1 aq=>by simp [ax]at a1;simp at aq;omega)
   refine⟨λvs H'=>match vs with|[.string t',.bool fO]=>∃(aO:dH) (l:List ByteArray),eW H' b (oE,bP,⟨#[]⟩,aO)/\Own bs.dT 9 H.size H' aO.1 aO.2.1 aO.2.2 l/\b∉ax aO.1/\aO.2.1+t'.size<=s.size+1/\t'.size<=s.size/\(fO=true->t'.size<s.size)/\Fr [] H H'|_=>False,
    λvs _=>match vs with|[.string t',_]=>t'.size|_=>0,⟨(some ⟨cX,0,none⟩,1,1),[v],ji,fo,by simp [ax];exact bne,by simp only;omega,by omega,λh=>by have:=z6 h;omega,df (jQ.aw hL.ag) f7⟩,?_⟩
   rintro bm t' fO ed ⟨aO,l,oa,AM,C9,dC,aj3,aj4,f8⟩
   have rt:∃n s a fh eh c,a7 116 ed ⟨b,0,none⟩ (.agg ⟨[.int .i64 n,.string s,.string a,.slice fh eh c]⟩)/\∃cv,fX 116 ed ⟨b,0,none⟩ (.agg ⟨[.int .i64 n,.string s,.string a,.slice fh eh c]⟩) cv/\∃n s a fh eh c,a7 116 cv ⟨b,0,none⟩ (.agg ⟨[.int .i64 n,.string s,.string a,.slice fh eh c]⟩)/\∃(x:eu) (Ti:ByteArray) (Tj:Bool),avR ⟨[.agg ⟨[.int .i64 n,.string s,.string a,.slice fh eh c]⟩,.string t',.bool fO]⟩=.tuple ⟨[jF x,.string Ti,.bool Tj]⟩/\K x Ti Tj cv:=
    ret (x:=(oE,bP,⟨#[]⟩,aO)) (m:=(oE,bP,⟨#[]⟩,l)) oa ⟨rfl,rfl,rfl,AM,by simp only;omega⟩ C9 aj3 aj4 f8
   refine⟨λ_ H'=>H'=ed/\1<=t'.size,ai (λ_=>Oo Tryz.Oq rfl (ai (λbh=>⟨rfl,?_⟩) λ_=>rt)) λ_=>rt,?_⟩
   ·have:=ajV bh
    have h1:t'.data.toList.length=t'.size:=c6 t'
    simp at this;omega
   ·rintro bm ee ⟨rfl,h1⟩
    have Gp:(t'.extract 1 (t'.size:Int).toNat).size=t'.size-1:=LR t' 1
    refine cb (decide_eq_true ⟨by omega,by omega,by omega⟩) (Tc (by omega) λv9 t9 ks fx hvz9 htz9 aj5 htf9 f10=>⟨_,_,_,(oa.ab f10).n4,λaro lE rM=> ?_⟩)
    have Hf:=f10.aw rM.ag
    have aj6:=AM.ab Hf
    have aiy:=(f8.aw f10).size
    have arp:=rM.size
    have Tk:=rM.eq
    refine iD (t:=9) (E:=bs.dT) (bytes:=16) (by kernel_rfl) (by kernel_rfl) aj6 (gd bs.dT v9 rM rfl) (by omega) (show(aO.2.1+1)*16<=_ by omega) λa12 n12 c12 n1 DV f12 g12=> ?_
    have uY:=(oa.ab Hf).ag f12 C9
    have rJ:=DV.1
    have arq:=AM.1
    simp at rJ
    have fi:b<lE.size:=by have:=(oa.ab Hf).lt;exact this
    refine Te (a12,n12,c12) uY λsM LV f13=> ?_
    have Tl:b∉ax a12:=λaq=>by
     rcases g12 b aq with q|q
     ·exact C9 q
     ·omega
    have aj7:Fr [] H n1:=(f8.aw Hf).ab f12 λq a1=>(AM.ge q a1).1
    exact⟨⟨(a12,n12,c12),_,LV,DV.ag f13 (eG λq a1 aq=>by simp at aq;subst aq;exact Tl a1),Tl,by simp only;omega,by omega,λh=>by have:=aj5 h;omega,df aj7 f13⟩,by simp only;omega⟩
open cU (eu eW l9 iu jF)
open bb (cZ fJ)
theorem nb.ag{base:Nat}{x:eu}{m:fg}{S:List Nat}(h:nb base H x m)(af:Fr S H H')(ay:∀k∈ax x.2.2.2.1,k∉S):nb base H' x m:=⟨h.1,h.2.1,h.2.2.1,h.2.2.2.1.ag af (eG ay),h.2.2.2.2⟩
theorem nb.base{fO:Nat}{x:eu}{m:fg}(h:nb b H x m)(ah:fO<=b):nb fO H x m:=⟨h.1,h.2.1,h.2.2.1,h.2.2.2.1.base ah,h.2.2.2.2⟩
theorem Tm{base:Nat}{xs:List eu}{ms:List fg}(h:cZ (nb base H) xs ms):iu H xs ms:=⟨h.len,λi x m aa hm=>by obtain⟨m',ev,aA⟩:=h.get aa;rw [hm]at ev;cases ev;exact aA.LS⟩
theorem Tn{R:Value->J->Prop}(hs:s.size<=100000)(qw:∃m,hM H ⟨1,0,none⟩=some (.int .i64 m))(hk:∀x m t b H',nb H.size H' x m->t.size<=s.size->(b=true->t.size<s.size)->Fr [] H H'->R (.tuple ⟨[jF x,.string t,.bool b]⟩) H'):
  aY atf Tg ⟨[.string s]⟩ H R:=aY.mono (ajX (K:=λx t b H'=>R (.tuple ⟨[jF x,.string t,.bool b]⟩) H') hs qw hk) λv H' ⟨x,t,b,e,h⟩=>e▸h
theorem aj8{K:Option Addr->Nat->Nat->Int->J->Prop}(hs:s.size<=100000)(qw:∃m,hM H ⟨1,0,none⟩=some (.int .i64 m))(hk:∀a n c e H' xs ms,bk cU.hg H' a n c xs->iu H' xs ms->n<=1000000->(e=0\/e=11)->(∀k∈ax a,H.size<=k)->(∀x∈xs,∀k∈ax x.2.2.2.1,H.size<=k)->Fr [] H H'->K a n c e H'):
  aY atf aj9 ⟨[.string s]⟩ H λv H'=>∃a n c e,v=.tuple ⟨[.slice a n c,.int .i64 e]⟩/\K a n c e H':=by
 apply aj'
 have no:∀{H'},Fr [] H H'->∃a n c e,avR ⟨[.slice none 0 0,.int .i64 11]⟩=.tuple ⟨[.slice a n c,.int .i64 e]⟩/\K a n c e H':=λaf=>⟨_,_,_,_,rfl,hk _ _ _ _ _ [] [] iy ⟨rfl,λi x m aa=>by simp at aa⟩ (by omega) (.inr rfl) (by simp [ax]) (by simp) af⟩
 have eo:s.data.toList.length=s.size:=c6 s
 have pl:∀(t p:ByteArray),(⟨(Lib.trimPrefix t.data.toList p.data.toList).toArray⟩:ByteArray).size<=t.size:=λt p=>by
  rw [eQ]
  have:=ajW t.data.toList p.data.toList
  have ae:t.data.toList.length=t.size:=c6 t
  omega
 refine LW Tryz.LX rfl (ai (λ_=>no (Fr.refl _ _)) λc0=> ?_)
 have aka:=pl s ⟨#[91]⟩
 generalize(⟨(Lib.trimPrefix s.data.toList (⟨#[91]⟩:ByteArray).data.toList).toArray⟩:ByteArray)=t0 at aka⊢
 refine⟨λvs H'=>match vs with|[.slice a n c,.string t,.bool b]=>∃(xs:List eu) (ms:List fg),Own cU.hg 116 H.size H' a n c xs/\cZ (nb H.size H') xs ms/\n+t.size<=s.size/\b=true/\Fr [] H H'|_=>False,
  λvs _=>match vs with|[_,.string t,_]=>t.size|_=>0,⟨[],[],Own.nil _ _ _ _,.nil,by omega,by simpa using c0,Fr.refl _ _⟩,?_⟩
 rintro bm a n c t b H1 ⟨xs,ms,an,ug,aC,rfl,f1⟩
 have hR:=f1.size
 have dk:=an.1
 refine ai (λc1=> ?_) (λc1=> ?_)
 ·intro b1 ao bH
  have bN:=bH.eq
  have z2:=bH.size
  have f2:=f1.aw bH.ag
  have cI:eW ao b1 (0,⟨#[]⟩,⟨#[]⟩,none,0,0):=bH.bo
  have To:∃m,hM ao ⟨1,0,none⟩=some (.int .i64 m):=by obtain⟨m,hm⟩:=qw;exact⟨m,f2.cell0 hm⟩
  have ars:t.size<=s.size:=by omega
  have more:∀{t':ByteArray} {x:eu} {m:fg} {u:ByteArray} {fj:Bool} {aF:J},t'.size<=t.size->nb ao.size aF x m->u.size<=t'.size->(fj=true->u.size<t'.size)->Fr [] ao aF->∃hS,fX 116 aF ⟨b1,0,none⟩ (jF x) hS/\aJ (!fj) (∃a n c e,avR ⟨[.slice none 0 0,.int .i64 11]⟩=.tuple ⟨[.slice a n c,.int .i64 e]⟩/\K a n c e hS) (∃fH tj Tp ym js wW,a7 116 hS ⟨b1,0,none⟩ (.agg ⟨[.int .i64 fH,.string tj,.string Tp,.slice ym js wW]⟩)/\∀(Hg:Nat) (iO:J),ds hS Hg (.cells ⟨[.int .i64 fH,.string tj,.string Tp,.slice ym js wW]⟩ 116) iO->cj atf (Builtin.append_ ⟨[24,24]⟩ 24 ⟨[.slice a n c,.slice (some ⟨Hg,0,none⟩) 1 1]⟩) iO λv lg=>∃Tq hZ Cw,v=.slice Tq hZ Cw/\(∃(xs:List eu) (ms:List fg),Own cU.hg 116 H.size lg Tq hZ Cw xs/\cZ (nb H.size lg) xs ms/\hZ+u.size<=s.size/\fj=true/\Fr [] H lg)/\u.size<t.size):=λ{t' x m u fj aF} h1 ae au a6 f3=>by
   refine Tf x (cI.ab f3) λaN dY f4=> ?_
   have f24:Fr [b1] ao aN:=(f3.mono (by simp)).trans' f4 (λk hk _=>hk) λk hk _=>hk
   have f14:Fr [] H1 aN:=bH.ag.ab f24 λk hk=>by simp at hk;omega
   have jO:=f1.aw f14
   have z3:=f3.size
   have z4:=f4.size
   have o9:nb ao.size aN x m:=ae.ag f4 λk hk aq=>by simp at aq;have:=(ae.2.2.2.1.ge k hk).1;omega
   refine ai (λ_=>no jO) λdr=>⟨_,_,_,_,_,_,dY.nt,λnx bw e7=> ?_⟩
   have tj:=e7.size
   have ey:=(an.ab f14).ab e7.ag
   have DW:nb ao.size bw x m:=o9.ag e7.ag (by simp)
   refine iD (t:=116) (E:=cU.hg) (bytes:=64) (by kernel_rfl) (by kernel_rfl) ey (gd cU.hg x e7 rfl) (by omega) (by omega) λiX n6 k6 bY gw f6 g6=> ?_
   have nO:=gw.1
   simp at nO
   have ql:fj=true:=by simpa using dr
   have cF:=a6 ql
   refine⟨⟨xs++[x],ms++[m],gw,cZ.app (cZ.mono ug λy m' _ _ aA=> ?_) (.cons ((DW.ag f6 λk hk aq=>cU.qq (by decide) DW.2.2.2.1 ey k hk aq).base (by omega)) .nil),by omega,ql,(jO.aw e7.ag).ab f6 λk hk=>(ey.ge k hk).1⟩,by omega⟩
   have bu:nb H.size bw y m':=(aA.ag f14 (by simp)).ag e7.ag (by simp)
   exact bu.ag f6 λk hk aq=>cU.qq (by decide) bu.2.2.2.1 ey k hk aq
  refine ai (λ_=>LW Tryz.LX rfl (ai (λ_=> ?_) λc3=>ai (λ_=>no f2) λc2=> ?_)) λ_=>ai (λ_=> ?_) λc2=>by simp at c2
  ·have fD:=pl t ⟨#[44]⟩
   exact Tn (by omega) To λx m u fj aF aa hu LY f3=>⟨_,_,_,_,_,_,_,_,rfl,more (t':=_) fD aa hu LY f3⟩
  ·rw [c3]at c2;simp at c2
  ·exact Tn (by omega) To λx m u fj aF aa hu LY f3=>⟨_,_,_,_,_,_,_,_,rfl,more (t':=t) (nQ _) aa hu LY f3⟩
 ·refine S' an.bL (Tm ug) λs' e ao dC he f2=>ai (λ_=>no (f1.aw f2)) λ_=>ai (λ_=>no (f1.aw f2)) λ_=> ?_
  exact⟨_,_,_,_,rfl,hk _ _ _ _ _ xs ms (an.ab f2).bL ((Tm ug).ab f2) (by omega) (.inl rfl) (λk hk=>(an.ge k hk).1) (λx aa k hk=>by obtain⟨m,_,aA⟩:=cZ.mem ug aa;exact(aA.2.2.2.1.ge k hk).1) (f1.aw f2)⟩
open cU (eu eW l9 iu jF)
open bb (cZ fJ)
theorem Tr{K:ByteArray->J->Prop}(hs:s.size<=1000000000)(hk:∀H',Fr [] H H'->K s H'):
  aY atf akb ⟨[.string s]⟩ H λv H'=>∃t,v=.string t/\K t H':=by
 apply akc
 refine ai (λc=>⟨_,rfl,?_⟩) (λc=> ?_)
 ·have aD:s.size=0:=by have:=eq_of_beq c;omega
  have:s=⟨#[]⟩:=awf (awg aD)
  have a':=hk H (Fr.refl _ _)
  rw [this]at a';exact a'
 have aD:s.size≠0:=by have:=ne_of_beq_false c;omega
 have je:jC atf 5 1 1=true:=by kernel_rfl
 obtain⟨i,z,az,aC,dN,dm,hQ,hC,yZ⟩:=Ld je
 have hu:=sA ef.bL
 have Dt:(Tryz.prog.info? 5).map (·.size)=some 1:=by rw [az];simp [dN]
 generalize cQ:madeCells z.cells (((s.size:Nat):Int).toNat *i.size)=M
 have art:M.size=s.size:=by rw [<-cQ,size_madeCells,dN];simp
 intro E d
 have Du:=run_make (P:=atf) (a8 E H d) 209 5 i z hu az aC .i64 .i64 (s.size:Int) (s.size:Int) (by omega) (by omega) (by rw [hC];omega) (by omega)
 rw [cQ]at Du
 refine⟨_,H.push (.cells M 5),d,Du,_,_,_,rfl,λE d=> ?_⟩
 have aZ:(a8 E (H.push (.cells M 5)) d).heap[H.size]?=some (.cells M 5 (0,0)):=by simp [a8]
 have LZ:=Lib.run_copy_row_string (P:=atf) (a8 E (H.push (.cells M 5)) d) 209 9 3 5 H.size 0 s.size s.size s M 5 hu Dt aZ (nQ _) (by omega)
 generalize sh:(M.toList.take 0++Lib.byteCells s.data.toList++M.toList.drop (0+s.size)).toArray=Y at LZ
 have Ts:Y.toList=Lib.byteCells s.data.toList:=by
  rw [<-sh,List.toList_toArray,List.take_zero,as8,avr (by rw [Eo];omega),as0]
 have L0:=setRow_heap (a8 E (H.push (.cells M 5)) d) H.size M Y 5 (0,0) aZ
 have L1:∀k,k<H.size->((a8 E (H.push (.cells M 5)) d).setRow H.size Y).heap[k]?=H[k]?:=λk hk=>by
  rw [setRow_other _ _ _ _ (by omega)];simp [a8,Array.getElem?_push];omega
 have dC:((a8 E (H.push (.cells M 5)) d).setRow H.size Y).heap.size=H.size+1:=by simp [World.setRow,a8]
 obtain⟨AN,L2⟩:∃AN,AN=((a8 E (H.push (.cells M 5)) d).setRow H.size Y).heap:=⟨_,rfl⟩
 rw [<-L2]at L0 L1 dC
 refine⟨_,AN,d,LZ.trans (by rw [L2];rfl),_,rfl,cb (decide_eq_true ⟨by simp,by simp;omega⟩) λE d=> ?_⟩
 clear LZ aZ Du L2
 have cH:s.data.toList≠[]:=λe=>aD (by rw [Lib.size_eq,e];rfl)
 have aru:Y.size=s.size:=by rw [<-Eo,Ts,Lib.byteCells_length,<-Lib.size_eq]
 have aA:=Lib.run_unsafeString_row (P:=atf) (a8 E AN d) 314 3 9 5 ef.dw ef.c5 H.size Y.size (by unfold World.shape?;show _=_;simp only [a8];rw [L0]) s.data.toList cH (by rw [<-Lib.size_eq];omega) (by rw [<-Lib.size_eq];omega)
  (λj x aa=>Lib.cells_of_row (w:=a8 E AN d) L0 Y.size j _ (by rw [asG (by rw [Eo];exact nQ _),Ts];simp [Lib.byteCells,aa]))
 rw [<-Lib.size_eq]at aA
 refine⟨_,((a8 E AN d).freeze ⟨H.size,0,none⟩ s.size).heap,d,aA.trans ?_,_,rfl,_,rfl,hk _ ?_⟩
 ·unfold World.freeze
  split<;>rfl
 ·unfold World.freeze
  split
  ·exact⟨by simp [a8];omega,λk hk _=>by simp [a8];exact L1 k hk⟩
  ·exact⟨by simp [a8];omega,λk hk _=>by
    have cA:H.size≠k:=by omega
    simp [a8,Array.getElem?_modify,cA]
    exact L1 k hk⟩
open cU (eu eW l9 iu jF)
open bb (cZ fJ)
structure ho(H:J):Prop where
 tab:k8 H
 ml:∃m,hM H ⟨1,0,none⟩=some (.int .i64 m)
 p10:∃t f,H[2]?=some (.cells (Lib.pow10Tab.map λz=>Value.int .u64 z).toArray t f)
 syn:∃u x,hM H ⟨3,0,none⟩=some (.iface u x)
 rng:∃u x,hM H ⟨4,0,none⟩=some (.iface u x)
theorem ho.ag{S:List Nat}(h:ho H)(af:Fr S H H')(ay:∀k∈S,7<=k):ho H':=by
 have no:∀k,k<7->k∉S:=λk hk aq=>by have:=ay k aq;omega
 obtain⟨h1,⟨m,ae⟩,⟨t,f,au⟩,⟨u,x,a6⟩,⟨l3,x',bu⟩⟩:=h
 exact⟨h1.ag af λk hk=>by have:=ay k hk;omega,⟨m,af.cell ae (no 1 (by decide))⟩,⟨t,f,af.get au (no 2 (by decide))⟩,⟨u,x,af.cell a6 (no 3 (by decide))⟩,⟨l3,x',af.cell bu (no 4 (by decide))⟩⟩
theorem ho.ab(h:ho H)(af:Fr [] H H'):ho H':=h.ag af (by simp)
theorem ho.akd{B:Nat}(h:ho H)(af:gL B H H')(bK:7<=B):ho H':=by
 obtain⟨S,h1,ae⟩:=af
 exact h.ag ae λk hk=>by have:=h1 k hk;omega
theorem ho.Tt(h:ho H):∀w:World,w.heap=H->Lib.TabIs atf w "internal/strconv.uint64pow10" .u64 Lib.pow10Tab:=fun w hw=>by
 obtain⟨t,f,au⟩:=h.p10
 unfold Lib.TabIs World.var?
 have e:Tryz.prog.globalNamed "internal/strconv.uint64pow10" =some 2:=by kernel_rfl
 rw [e,awh,hw,au]
theorem ake{a b:Int}(d:Nat)(w:World):(Op.equalIn (d+1+1) 213 (.iface 477 (.int .i64 a)) (.iface 477 (.int .i64 b))).run atf w=.ok (a==b) w:=by
 have ak:(match Tryz.prog.info? 477 with|some i=>i.comparable|none=>false)=true:=by kernel_rfl
 cases az:Tryz.prog.info? 477 with
 |none=>rw [az]at ak;cases ak
 |some i=>
  rw [az]at ak
  simp only at ak
  have bf:(typeInfo 477).run atf w=.ok i w:=by simp [typeInfo,program,Sem.run,bind,Sem.bind,az,pure]
  simp [Op.equalIn,eE awa,eE Tryz.underlying477,bf,ak]
theorem Tu{dx ec:Operand}{a b:Int}:hD atf (gm .eql 213 dx ec (.iface 477 (.int .i64 a)) (.iface 477 (.int .i64 b))) (.bool (a==b)):=by
 intro w
 have ah:binOp .eql 213 (.iface 477 (.int .i64 a)) (.iface 477 (.int .i64 b))=(do pure (.bool (<-Op.equal 213 (.iface 477 (.int .i64 a)) (.iface 477 (.int .i64 b))))):=rfl
 have aZ:eqGuard .eql 213 dx ec (.iface 477 (.int .i64 a)) (.iface 477 (.int .i64 b))=pure ():=by simp [eqGuard]
 unfold gm
 rw [aZ,ah,Sem.run_bind,Sem.run_pure,Result.andThen_ok,Sem.run_bind]
 show((Op.equalIn (9998+1+1) 213 _ _).run atf w).andThen _=_
 rw [ake 9998 w]
 rfl
theorem akf{dx:Operand}:hD atf (gm .eql 213 dx (.const .nilIface) .nilIface .nilIface) (.bool true):=
 zq (by simp [eqGuard]) rfl λd w=>by simp [Op.equalIn,eE awa]
theorem akg{dx:Operand}{t:TypeId}{v:Value}:hD atf (gm .eql 213 dx (.const .nilIface) (.iface t v) .nilIface) (.bool false):=
 zq (by simp [eqGuard]) rfl λd w=>by simp [Op.equalIn,eE awa]
theorem L3{dx:Operand}:hD atf (gm .neq 213 dx (.const .nilIface) .nilIface .nilIface) (.bool false):=
 wb (r:=true) (by simp [eqGuard]) rfl λd w=>by simp [Op.equalIn,eE awa]
theorem akh{dx:Operand}{t:TypeId}{v:Value}:hD atf (gm .neq 213 dx (.const .nilIface) (.iface t v) .nilIface) (.bool true):=
 wb (r:=false) (by simp [eqGuard]) rfl λd w=>by simp [Op.equalIn,eE awa]
theorem aki{fn:ByteArray}{base bits z:Int}{K:Value->J->Prop}(aC:z=2\/z=1)(hs:s.size<=1000000)(b4:ho H)(hk:∀u x H',Fr [] H H'->K (.iface u x) H'):
  aY atf akj ⟨[.string fn,.string s,.int .i64 base,.int .i64 bits,.iface 477 (.int .i64 z)]⟩ H λv H'=>∃x,v=x/\K x H':=by
 apply akk
 obtain⟨u,x,a6⟩:=b4.syn
 obtain⟨l3,x',bu⟩:=b4.rng
 refine⟨_,Tu,ai (λc=> ?_) (λc=>⟨_,Tu,ai (λc2=> ?_) (λc2=> ?_)⟩)⟩
 ·apply akl
  refine⟨u,x,n' (by kernel_rfl) a6,Tr (by omega) λH1 f1=>⟨n' (by kernel_rfl) (f1.cell0 a6),λb ao ay=>⟨_,rfl,_,rfl,hk _ _ ao (f1.aw ay.ag)⟩⟩⟩
 ·apply akm
  refine⟨l3,x',n' (by kernel_rfl) bu,Tr (by omega) λH1 f1=>⟨n' (by kernel_rfl) (f1.cell0 bu),λb ao ay=>⟨_,rfl,_,rfl,hk _ _ ao (f1.aw ay.ag)⟩⟩⟩
 ·rcases aC with rfl|rfl
  ·simp at c
  ·simp at c2
theorem akn{K:Int->Value->J->Prop}(hs:s.size<=1000000)(b4:ho H)(cz:∀n u x H',Fr [] H H'->K n (.iface u x) H')(ff:∀n H',Fr [] H H'->K n .nilIface H'):
  aY atf ako ⟨[.string s]⟩ H λv H'=>∃n e,v=.tuple ⟨[.int .i64 n,e]⟩/\K n e H':=by
 apply Tv
 refine akp Tryz.Tw rfl hs (λn H1 f1=>⟨_,L3,ai (λc=>by simp at c) λ_=>⟨_,_,rfl,ff n H1 f1⟩⟩) (λn z H1 aC f1=>⟨_,akh,ai (λ_=> ?_) λc=>by simp at c⟩)
 exact aki aC hs (b4.ab f1) λu x ao f2=>⟨_,_,rfl,cz n u x ao (f1.aw f2)⟩
theorem Tx{K:ByteArray->Int->Bool->J->Prop}(hs:s.size<=100000)(b4:ho H)(hk:∀t n b H',t.size<=s.size->Fr [] H H'->K t n b H'):
  aY atf akq ⟨[.string s]⟩ H λv H'=>∃t n b,v=.tuple ⟨[.string t,.int .i64 n,.bool b]⟩/\K t n b H':=by
 apply akr
 refine aks Tryz.akt rfl (by omega) (ai (λ_=>⟨_,_,_,rfl,hk _ _ _ _ (apG _) (Fr.refl _ _)⟩) λc0=> ?_)
 rcases Lib.lastIdx_spec s 32 s.size with⟨e,_⟩|⟨i,az,e,_⟩
 ·unfold Lib.lastIndexByte at c0;rw [e]at c0;simp at c0
 have cV:Lib.lastIndexByte s 32=i:=e
 rw [cV,b6 (by omega)]
 have Gp:(s.extract ((i+1:Nat):Int).toNat (s.size:Int).toNat).size=s.size-(i+1):=LR s (i+1)
 have Ty:(s.extract 0 (i:Int).toNat).size<=s.size:=by rw [awe];omega
 refine cb (decide_eq_true ⟨by omega,by omega,by omega⟩) (akn (by omega) b4 (λn u x H1 f1=>cb (decide_eq_true ⟨by omega,by omega,by omega⟩) ⟨_,akg,_,_,_,rfl,hk _ _ _ _ Ty f1⟩) λn H1 f1=>cb (decide_eq_true ⟨by omega,by omega,by omega⟩) ⟨_,akf,_,_,_,rfl,hk _ _ _ _ Ty f1⟩)
theorem Tz{n:Int}{K:ByteArray->J->Prop}(ay:dp n)(b4:ho H)(hk:∀s H',s.size<=21->Fr [] H H'->K s H'):aY atf 120 ⟨[.int .i64 n]⟩ H λv H'=>∃s,v=.string s/\K s H':=
 TA Tryz.itoa rfl ay b4.Tt λH' af=>hk _ H' (by rw [eQ];exact Lib.itoa_length_le n ay.1 ay.2) af
theorem TB{xs:List eu}{ms:List fg}{K:ByteArray->Int->J->Prop}(aa:bk cU.hg H a n c xs)(hm:iu H xs ms)(b4:ho H)(hk:∀s e H',s.size<=200000->dp e->Fr [] H H'->K s e H'):
  aY atf aku ⟨[.slice a n c,fJ f t]⟩ H λv H'=>∃s e,v=.tuple ⟨[.string s,.int .i64 e]⟩/\K s e H':=by
 apply akv
 intro b H1 aB
 have ah:aU H1 ⟨b,0,none⟩ [.int .i64 f,.int .i64 t]:=aB.bo
 refine S' (aa.ab aB.ag) (hm.ab aB.ag) λs e ao hs he f2=> ?_
 have fW:=aB.ag.aw f2
 have b8:=ah.ab f2
 have i50:dp e:=by rcases he with rfl|rfl<;>exact⟨by decide,by decide⟩
 refine ai (λ_=>⟨_,_,rfl,hk _ _ _ (apG _) i50 fW⟩) λ_=>⟨_,_,b8.dX (by kernel_rfl) (by kernel_rfl) rfl,SO λaF f3=>ai (λ_=>⟨_,_,rfl,hk _ _ _ (apG _) ⟨by decide,by decide⟩ (fW.aw f3)⟩) λc=> ?_⟩
 have LF:yU f t:=by simpa using c
 obtain⟨m1,m2,m3⟩:=LF
 have dQ:=b8.ab f3
 have iz:=fW.aw f3
 have hR:(⟨#[32]⟩:ByteArray).size=1:=rfl
 refine cb (decide_eq_true (by omega)) ⟨_,dQ.b5 (by kernel_rfl) rfl,_,dQ.bV (j:=1) (by kernel_rfl) rfl,Tz ⟨by omega,by omega⟩ (b4.ab iz) λs1 aN a6 f4=>⟨(dQ.ab f4).bV (j:=1) (by kernel_rfl) rfl,?_⟩⟩
 refine cb (decide_eq_true (by rw [avN];omega)) (cb (decide_eq_true (by rw [avN,avN];omega)) (Tz ⟨by omega,by omega⟩ ((b4.ab iz).ab f4) λs2 bw bu f5=>cb (decide_eq_true (by rw [avN,avN,avN];omega)) ⟨_,_,rfl,hk _ _ _ (by rw [avN,avN,avN,avN];omega) ⟨by decide,by decide⟩ ((iz.aw f4).aw f5)⟩))
open cU (eu eW l9 iu jF)
open bb (cZ fJ e9 dL ej)
theorem L4{X:J->Prop}(bE t':Int)(h:aU H ⟨b,0,none⟩ [.int .i64 f,.int .i64 t])(k:∀H',aU H' ⟨b,0,none⟩ [.int .i64 bE,.int .i64 t']->Fr [b] H H'->X H'):∃H',fX 26 H ⟨b,0,none⟩ (fJ bE t') H'/\X H':=
 h.jq (v:=fJ bE t') (by kernel_rfl) (by kernel_rfl) (λx aa=>by simp [atq]at aa;rcases aa with rfl|rfl<;>rfl) (by simp [atq]) λH' ah af=>k H' (by simpa [atq]using ah) af
theorem akw{K:Option Addr->Nat->Nat->Int->Int->Bool->J->Prop}(hs:s.size<=100000)(b4:ho H)(hk:∀a n c f t b H' xs ms,bk cU.hg H' a n c xs->iu H' xs ms->n<=1000000->Fr [] H H'->K a n c f t b H'):
  aY atf akx ⟨[.string s]⟩ H λv H'=>∃a n c f t b,v=.tuple ⟨[.slice a n c,fJ f t,.bool b]⟩/\K a n c f t b H':=by
 apply aky
 intro b H1 aB
 have bc:=aB.eq
 have ah:aU H1 ⟨b,0,none⟩ [.int .i64 0,.int .i64 0]:=aB.bo
 have df:∀{H' cG},Fr [] H H'->Fr [b] H' cG->Fr [] H cG:=λh1 ae=>h1.ab ae λk hk=>by simp at hk;omega
 have ret:∀{H':J} {f t:Int} {a:Option Addr} {n c:Nat} {fj:Bool} {xs:List eu} {ms:List fg},aU H' ⟨b,0,none⟩ [.int .i64 f,.int .i64 t]->bk cU.hg H' a n c xs->iu H' xs ms->(∀k∈ax a,k≠b)->(∀x∈xs,b∉ax x.2.2.2.1)->n<=1000000->Fr [] H H'->∃cv,fX 26 H' ⟨b,0,none⟩ (fJ f t) cv/\∃cW cr,a7 26 cv ⟨b,0,none⟩ (fJ cW cr)/\∃aK aQ aT bE t' fO,avR ⟨[.slice a n c,fJ cW cr,.bool fj]⟩=.tuple ⟨[.slice aK aQ aT,fJ bE t',.bool fO]⟩/\K aK aQ aT bE t' fO cv:=λ{H' f t a n c fj xs ms} h1 ae au a6 bu ca dJ=>
  L4 f t h1 λao b8 f2=>⟨_,_,b8.dX (by kernel_rfl) (by kernel_rfl) rfl,_,_,_,_,_,_,rfl,hk _ _ _ _ _ _ ao xs ms (ae.ag f2 (eG λk hk aq=>by simp at aq;exact a6 k hk aq)) ⟨au.len,λi x m aa hm=>by
   have cQ:=au.at' i x m aa hm
   exact⟨cQ.kind,cQ.name,cQ.val,cQ.set.ag f2 (eG λk hk aq=>by simp at aq;subst aq;exact bu x (att aa) hk),cQ.len⟩⟩ ca (df dJ f2)⟩
 have bad:∀{H':J},Fr [] H1 H'->∃n eh,a7 26 H' ⟨b,0,none⟩ (fJ n eh)/\∃cv,fX 26 H' ⟨b,0,none⟩ (fJ n eh) cv/\∃cW cr,a7 26 cv ⟨b,0,none⟩ (fJ cW cr)/\∃aK aQ aT bE t' fO,avR ⟨[.slice none 0 0,fJ cW cr,.bool false]⟩=.tuple ⟨[.slice aK aQ aT,fJ bE t',.bool fO]⟩/\K aK aQ aT bE t' fO cv:=λaf=>
  ⟨_,_,(ah.ab af).dX (by kernel_rfl) (by kernel_rfl) rfl,ret (xs:=[]) (ms:=[]) (ah.ab af) iy ⟨rfl,λi x m aa=>by simp at aa⟩ (by simp [ax]) (by simp) (by omega) (aB.ag.aw af)⟩
 refine Tx hs (b4.ab aB.ag) λs1 cW b1 ao e6 f2=>ai (λ_=>bad f2) λ_=> ?_
 have su:=(b4.ab aB.ag).ab f2
 refine Tx (by omega) su λs2 cr b2 aF gZ f3=> ?_
 have f13:=f2.aw f3
 have z3:=(aB.ag.aw f13).size
 refine aj8 (by omega) (su.ab f3).ml λa n c e aN xs ms aa hm ay he lJ TC f4=> ?_
 have f14:=f13.aw f4
 refine⟨λvs H'=>H'=aN/\vs=[.slice a n c],ai (λ_=>bad f14) (λ_=>ai (λ_=>bad f14) λ_=>⟨rfl,rfl⟩),?_⟩
 rintro bm aK aQ aT H' ⟨rfl,e⟩
 cases e
 have dQ:b<aF.size:=by have:=(ah.ab f13).lt;exact this
 refine L4 cr cW (ah.ab f14) λbw dI f5=>⟨_,_,dI.dX (by kernel_rfl) (by kernel_rfl) rfl,?_⟩
 have DW:=aa.ag f5 (eG λk hk aq=>by simp at aq;have:=lJ k hk;omega)
 have la:iu bw xs ms:=⟨hm.len,λi x m aa nJ=>by
   have cQ:=hm.at' i x m aa nJ
   exact⟨cQ.kind,cQ.name,cQ.val,cQ.set.ag f5 (eG λk hk aq=>by simp at aq;subst aq;have:=TC x (att aa) _ hk;omega),cQ.len⟩⟩
 have jQ:Fr [] H bw:=df (aB.ag.aw f14) f5
 refine TB DW la (b4.ab jQ) λqt dP bY rh he3 f6=> ?_
 have h0:=jQ.aw f6
 have gj:=dI.ab f6
 have TD:∀fj,∃cv,fX 26 bY ⟨b,0,none⟩ (fJ cr cW) cv/\∃cW cr,a7 26 cv ⟨b,0,none⟩ (fJ cW cr)/\∃aK aQ aT bE t' fO,avR ⟨[.slice a n c,fJ cW cr,.bool fj]⟩=.tuple ⟨[.slice aK aQ aT,fJ bE t',.bool fO]⟩/\K aK aQ aT bE t' fO cv:=λfj=>
  ret gj (DW.ab f6) (la.ab f6) (λk hk=>by have:=lJ k hk;omega) (λx aa aq=>by have:=TC x aa b aq;omega) ay h0
 exact⟨_,_,gj.dX (by kernel_rfl) (by kernel_rfl) rfl,ai (λ_=>TD _) λ_=>TD _⟩
open cU (eu eW l9 iu jF)
open bb (cZ fJ e9 dL ej fT)
theorem akz{xs:List eu}{ms:List fg}{K:ByteArray->Int->J->Prop}(aa:bk cU.hg H a n c xs)(hm:iu H xs ms)(b4:ho H)(hk:∀s e H',s.size<=10000->dp e->Fr [] H H'->K s e H'):
  aY atf akA ⟨[.pointer (some ⟨x,0,none⟩),.slice a n c,fJ f t]⟩ H λv H'=>∃s e,v=.tuple ⟨[.string s,.int .i64 e]⟩/\K s e H':=by
 apply akB
 intro b H1 aB
 have ah:aU H1 ⟨b,0,none⟩ [.int .i64 f,.int .i64 t]:=aB.bo
 refine⟨_,_,ah.dX (by kernel_rfl) (by kernel_rfl) rfl,TB (aa.ab aB.ag) (hm.ab aB.ag) (b4.ab aB.ag) λs e ao hs he f2=> ?_⟩
 have fW:=aB.ag.aw f2
 refine ai (λ_=>⟨_,_,rfl,hk _ _ _ (apG _) he fW⟩) λ_=>Sr (b4.ab fW).tab λs e aF hs he f3=>⟨_,_,rfl,hk _ _ _ hs (by rcases he with rfl|rfl<;>exact⟨by decide,by decide⟩) (fW.aw f3)⟩
theorem akC{B:Nat}{m:bg.ei}{A:fK}{db:eA}{token:ByteArray}{k:Int}{K:Option Addr->Nat->Nat->ByteArray->Int->J->Prop}(h:h2 H B x N b M m A db)(e1:N<=10000)(b4:ho H)(hs:token.size<=1000000)
  (hk:∀a n c s e H' rows,bk fp H' a n c rows->(∀x∈rows,xu x)->n<=100->s.size<=10000->dp e->Fr [] H H'->K a n c s e H'):
  aY atf akD ⟨[.pointer (some ⟨x,0,none⟩),.string token,.int .i64 k]⟩ H λv H'=>∃a n c s e,v=.tuple ⟨[.slice a n c,.string s,.int .i64 e]⟩/\K a n c s e H':=by
 apply akE
 have i1:dp 1:=⟨by decide,by decide⟩
 have i200:dp 200:=⟨by decide,by decide⟩
 have no:∀{e:Int} {H':J},dp e->Fr [] H H'->∃a n c s cV,avR ⟨[.slice none 0 0,.string ⟨#[]⟩,.int .i64 e]⟩=.tuple ⟨[.slice a n c,.string s,.int .i64 cV]⟩/\K a n c s cV H':=λhe af=>⟨_,_,_,_,_,rfl,hk _ _ _ _ _ _ [] iy (by simp) (by omega) (apG _) he af⟩
 refine ajE b4.tab hs λq t i e H1 a1 he f1 dU ao bH=> ?_
 have bN:=bH.eq
 have hR:=f1.size
 have akF:dp e:=by rcases he with rfl|rfl<;>exact⟨by decide,by decide⟩
 have b8:aU ao ⟨dU,0,none⟩ [.string ⟨#[]⟩,.int .i64 0,.int .i64 0]:=bH.bo
 refine Hc (q':=q) (t':=t) (i':=i) b8 λaF dQ f3=> ?_
 have f13:Fr [] H1 aF:=bH.ag.ab f3 λk hk=>by simp at hk;omega
 have iz:=f1.aw f13
 refine ai (λ_=>no akF iz) λc1=> ?_
 have pX:e=0:=by simpa using c1
 have ajH:=a1 pX
 refine⟨_,dQ.bV (j:=0) (by kernel_rfl) rfl,akw (by omega) (b4.ab iz) λa n c AO tt fj aN xs ms aa hm ay f4 nx bw e7=> ?_⟩
 have je:=e7.eq
 have dI:aU bw ⟨nx,0,none⟩ [.int .i64 0,.int .i64 0]:=e7.bo
 refine L4 AO tt dI λbY gj f6=> ?_
 have f46:Fr [] aN bY:=e7.ag.ab f6 λk hk=>by simp at hk;omega
 have f36:=f4.aw f46
 have h0:=iz.aw f36
 refine⟨λ_ H'=>H'=bY/\1<=k/\k<=100,ai (λ_=>no i200 h0) (λ_=>ai (λ_=>no i1 h0) λc2=>ai (λ_=>no i1 h0) λc3=>⟨rfl,by simp at c2;omega,by simp at c3;omega⟩),?_⟩
 rintro bm H' ⟨rfl,pH,nz⟩
 refine⟨_,_,gj.dX (by kernel_rfl) (by kernel_rfl) rfl,G7 (h.ab h0) (aa.ab f46) (hm.ab f46) (by omega) e1 (λcC TE f7=>ai (λ_=>no (DM _ _ _) (h0.aw f7)) λc=>absurd (by simpa using c) TE) λib n7 pI cC Rm TE fo tN arv f7=>ai (λc=>by simp at c) λ_=> ?_⟩
 have p4:=h0.aw f7
 have ji:=(dQ.ab f36).ab f7
 have yR:=DK (os:=jP db.L ms) (f:=AO) (t:=tt) h.g.1
 have AK:=DN (os:=jP db.L ms) (f:=AO) (t:=tt) h.g.1
 have q5:=DL db (jP db.L ms) AO tt
 have DX:=LH db (jP db.L ms) AO tt
 have DS:=h.g.2
 unfold queryM at tN
 generalize qL db (jP db.L ms) AO tt=ss at tN yR AK q5 DX
 have eo:=tN.len
 have dk:=fo.1
 have yQ:∀s∈ss,s.2.length<=10000:=λs hs=>by
  obtain⟨j,a'⟩:=avg hs
  have h1:=G8 a'
  have ae:=vB ss (j+1)
  omega
 refine⟨_,_,_,ji.dX (by kernel_rfl) (by kernel_rfl) rfl,bb.GM fo.bL tN DX.w (by omega) yQ λqv n8 my ed rows ly tW jB f8=>⟨(ji.ab f8).dX (by kernel_rfl) (by kernel_rfl) rfl,?_⟩⟩
 have akG:∀x∈rows,xu x:=λx aa=>by
  obtain⟨s,hs,kM⟩:=(tW.2 x).1 aa
  obtain⟨g1,g2⟩:=bb.GP.1 kM
  have aZ:=yR s hs
  have au:=aZ.2 _ g2
  exact⟨au.1,by rw [g1];exact aZ.1,au.2⟩
 have yS:=p4.aw f8
 refine ajz ly.bL (by omega) pH λa9 n9 c9 ks ee out kP eC fF hb9' f9=> ?_
 have y0:=yS.aw f9
 have TF:∀x∈out,xu x:=λx aa=>akG x (eC x aa)
 refine ai (λ_=>⟨_,_,_,_,_,rfl,hk _ _ _ _ _ _ out kP.bL TF (by omega) (apG _) ⟨by decide,by decide⟩ y0⟩) λdr=> ?_
 have aB:1<=n9:=hb9' (by simpa using dr)
 have arw:=kP.1
 have kp:IntKind.i64.wrap ((n9:Int)-1)=((n9-1:Nat):Int):=pJ (by omega) aB
 obtain⟨y,av⟩:=eR (l:=out) (i:=n9-1) (by omega)
 rw [kp]
 have rK:=(ji.ab f8).ab f9
 have z9:=y0.size
 have Lx:=yS.size
 have arx:dU<ed.size:=(ji.ab f8).lt
 have oh:dU∉ax a9:=λaq=>by have:=(kP.ge _ aq).1;omega
 refine kP.bL.get rfl av (decide_eq_true (by omega)) λal bS ak=>⟨_,SX ak,kP.bL.get rfl av (decide_eq_true (by omega)) λad2 ea2 kL=>⟨_,G9 kL,?_⟩⟩
 have s1:∀{X:J->Prop},(∀H',aU H' ⟨dU,0,none⟩ [.string q,.int .i64 y.1,.int .i64 i]->Fr [dU] ee H'->X H')->∃H',fX 3 ee ⟨dU,1,none⟩ (.int .i64 y.1) H'/\X H':=λk=>aU.st (a:=⟨dU,0,none⟩) (j:=1) (v:=.int .i64 y.1) rK (by kernel_rfl) (by kernel_rfl) (lz rfl) (by simp [atq]) λH' ah af=>k H' (by simpa [atq]using ah) af
 refine s1 λfx pj f10=> ?_
 have akH:eP fx (ad2.add (((n9-1:Nat):Int).toNat *fp.sz)) (fp.cells y):=kL.ag f10 (by
  have e:(ad2.add (((n9-1:Nat):Int).toNat *fp.sz)).block=ad2.block:=by unfold Addr.add;split<;>rfl
  rw [e];intro aq;simp at aq
  exact oh (by rw [ea2];simp [ax,aq]))
 have s2:∀{X:J->Prop},(∀H',aU H' ⟨dU,0,none⟩ [.string q,.int .i64 y.1,.int .i64 y.2.1]->Fr [dU] fx H'->X H')->∃H',fX 3 fx ⟨dU,2,none⟩ (.int .i64 y.2.1) H'/\X H':=λk=>aU.st (a:=⟨dU,0,none⟩) (j:=2) (v:=.int .i64 y.2.1) pj (by kernel_rfl) (by kernel_rfl) (lz rfl) (by simp [atq]) λH' ah af=>k H' (by simpa [atq]using ah) af
 refine⟨G9 akH,s2 λlE DT f11=>⟨_,_,_,DT.dX (by kernel_rfl) (by kernel_rfl) rfl,?_⟩⟩
 have df:∀{H' cG},Fr [] H H'->Fr [dU] H' cG->Fr [] H cG:=λh1 ae=>h1.ab ae λk hk=>by simp at hk;omega
 have TG:=df (df y0 f10) f11
 have IF:=(kP.bL.ag f10 (eG λk hk aq=>by simp at aq;subst aq;exact oh hk)).ag f11 (eG λk hk aq=>by simp at aq;subst aq;exact oh hk)
 exact Sr (b4.ab TG).tab λs e n1 hs he f12=>⟨_,_,_,_,_,rfl,hk _ _ _ _ _ _ out (IF.ab f12) TF (by omega) hs (by rcases he with rfl|rfl<;>exact⟨by decide,by decide⟩) (TG.aw f12)⟩
open bb (cZ fJ)
abbrev jf:=Int×Int×Int×Int×Int
def fr:dd jf:=⟨λx=>[.int .i64 x.1,.int .i64 x.2.1,.int .i64 x.2.2.1,.int .i64 x.2.2.2.1,.int .i64 x.2.2.2.2],5,λ_=>rfl,by decide,λ_ v h=>by simp at h;rcases h with rfl|rfl|rfl|rfl|rfl<;>rfl⟩
abbrev lT(x:jf):Value:=.agg ⟨[.int .i64 x.1,.int .i64 x.2.1,.int .i64 x.2.2.1,.int .i64 x.2.2.2.1,.int .i64 x.2.2.2.2]⟩
def jy(x:jf):Prop:=dp x.1/\dp x.2.1/\dp x.2.2.1/\dp x.2.2.2.1/\dp x.2.2.2.2
theorem DY(n:Int):dp (IntKind.i64.wrap n):=by
 unfold atj dp
 simp [IntKind.bits,IntKind.signed]
 omega
section
variable{H:J}{b:Nat}{w:jf}{X:J->Prop}
theorem xv(w':jf)(h:aU H ⟨b,0,none⟩ (fr.cells w))(k:∀H',aU H' ⟨b,0,none⟩ (fr.cells w')->Fr [b] H H'->X H'):∃H',fX 187 H ⟨b,0,none⟩ (lT w') H'/\X H':=
 h.jq (v:=lT w') (by kernel_rfl) (by kernel_rfl) (λx aa=>by simp [atq]at aa;rcases aa with rfl|rfl|rfl|rfl|rfl<;>rfl) (by simp [atq,fr]) λH' ah af=>k H' (by simpa [atq,fr]using ah) af
theorem TH(i:Int)(h:aU H ⟨b,0,none⟩ (fr.cells w))(k:∀H',aU H' ⟨b,0,none⟩ (fr.cells (i,w.2))->Fr [b] H H'->X H'):∃H',fX 3 H ⟨b,0,none⟩ (.int .i64 i) H'/\X H':=
 h.jq (v:=.int .i64 i) (by kernel_rfl) (by kernel_rfl) (lz rfl) (by simp [atq,fr]) λH' ah af=>k H' (by simpa [atq,fr]using ah) af
theorem rN(h:aU H ⟨b,0,none⟩ (fr.cells w)):a7 187 H ⟨b,0,none⟩ (lT w):=h.dX (by kernel_rfl) (by kernel_rfl) rfl
end
theorem TI{x y:jf}{K:jf->J->Prop}(aa:jy x)(av:jy y)(hk:∀w H',jy w->Fr [] H H'->K w H'):
  aY atf akI ⟨[lT x,lT y]⟩ H λv H'=>∃w,v=lT w/\K w H':=by
 apply akJ
 intro b1 H1 h1 b2 ao ae cX aF au
 have dP:=au.eq
 have cI:aU aF ⟨b1,0,none⟩ (fr.cells x):=(h1.bo.ab ae.ag).ab au.ag
 have b8:aU aF ⟨b2,0,none⟩ (fr.cells y):=ae.bo.ab au.ag
 have dQ:aU aF ⟨cX,0,none⟩ (fr.cells (0,0,0,0,0)):=au.bo
 have s1:=h1.size
 have s2:=ae.size
 have f:=(h1.ag.aw ae.ag).aw au.ag
 have fin:∀{w:jf},jy w->∃H',fX 187 aF ⟨cX,0,none⟩ (lT w) H'/\∃n eh gV fH js,a7 187 H' ⟨cX,0,none⟩ (.agg ⟨[.int .i64 n,.int .i64 eh,.int .i64 gV,.int .i64 fH,.int .i64 js]⟩)/\∃w,Value.agg ⟨[.int .i64 n,.int .i64 eh,.int .i64 gV,.int .i64 fH,.int .i64 js]⟩=lT w/\K w H':=λ{w} hw=>
  xv w dQ λaN dY f4=>⟨_,_,_,_,_,rN dY,w,rfl,hk w aN hw (f.ab f4 λk hk=>by simp at hk;omega)⟩
 have l:∀{b:Nat} {w:jf},aU aF ⟨b,0,none⟩ (fr.cells w)->a7 3 aF ⟨b,0,none⟩ (.int .i64 w.1)/\a7 3 aF ⟨b,1,none⟩ (.int .i64 w.2.1)/\a7 3 aF ⟨b,2,none⟩ (.int .i64 w.2.2.1)/\a7 3 aF ⟨b,3,none⟩ (.int .i64 w.2.2.2.1)/\a7 3 aF ⟨b,4,none⟩ (.int .i64 w.2.2.2.2):=λh=>⟨h.b5 (by kernel_rfl) rfl,h.bV (j:=1) (by kernel_rfl) rfl,h.bV (j:=2) (by kernel_rfl) rfl,h.bV (j:=3) (by kernel_rfl) rfl,h.bV (j:=4) (by kernel_rfl) rfl⟩
 obtain⟨fk,bO,b7,cN,ek⟩:=l cI
 obtain⟨akK,AH,yL,TJ,GZ⟩:=l b8
 refine⟨_,bO,ai (λ_=>⟨_,_,_,_,_,rN b8,fin av⟩) λ_=>⟨_,AH,ai (λ_=>⟨_,_,_,_,_,rN cI,fin aa⟩) λ_=>⟨_,fk,_,akK,_,bO,_,AH,_,b7,_,yL,_,cN,_,TJ,_,ek,_,GZ,?_⟩⟩⟩
 refine fin (w:=(_,_,_,_,_)) ⟨?_,DY _,DY _,?_,?_⟩
 ·show dp (if _ then _ else _);split;exact av.1;exact aa.1
 ·show dp (if _ then _ else _);split;exact av.2.2.2.1;exact aa.2.2.2.1
 ·show dp (if _ then _ else _);split;exact av.2.2.2.2;exact aa.2.2.2.2
theorem akL{x:bC}{K:jf->J->Prop}(h1:dp x.1)(ae:dp x.2)(hk:∀w H',jy w->Fr [] H H'->K w H'):
  aY atf akM ⟨[bb.e5 x]⟩ H λv H'=>∃w,v=lT w/\K w H':=by
 apply akN
 intro b1 H1 aB b2 ao bH
 have bN:=bH.eq
 have s1:=aB.size
 have cI:aU ao ⟨b1,0,none⟩ (bb.encS.cells x):=aB.bo.ab bH.ag
 have b8:aU ao ⟨b2,0,none⟩ (fr.cells (0,0,0,0,0)):=bH.bo
 have fy:a7 3 ao ⟨b1,1,none⟩ (.int .i64 x.2):=cI.bV (j:=1) (by kernel_rfl) rfl
 refine⟨_,cI.b5 (by kernel_rfl) rfl,_,fy,_,fy,_,fy,?_⟩
 exact xv (x.1,1,x.2,x.2,x.2) b8 λaF dQ f3=>⟨_,_,_,_,_,rN dQ,_,rfl,hk _ aF ⟨h1,⟨by simp,by simp⟩,ae,ae,ae⟩ ((aB.ag.aw bH.ag).ab f3 λk hk=>by simp at hk;omega)⟩
theorem akO{xs:List bC}{K:jf->J->Prop}(aa:bk bb.encS H a n c xs)(aZ:∀x∈xs,dp x.1/\dp x.2)(ay:n<=1000000)(hk:∀w H',jy w->Fr [] H H'->K w H'):
  aY atf akP ⟨[.slice a n c]⟩ H λv H'=>∃w,v=lT w/\K w H':=by
 apply akQ
 intro dU H1 aB b1 ao bH
 have bc:=aB.eq
 have bN:=bH.eq
 have s1:=aB.size
 have aH:=aa.len
 have i0:dp 0:=⟨by decide,by decide⟩
 have g0:jy (0,0,0,0,0):=⟨i0,i0,i0,i0,i0⟩
 have fW:=aB.ag.aw bH.ag
 have oh:aU ao ⟨dU,0,none⟩ (fr.cells (0,0,0,0,0)):=aB.bo.ab bH.ag
 refine⟨λvs H'=>match vs with|[.int _ i]=>∃(k:Nat) (w:jf),i=k/\k<=n/\jy w/\aU H' ⟨dU,0,none⟩ (fr.cells (0,0,0,0,0))/\aU H' ⟨b1,0,none⟩ (fr.cells w)/\Fr [] H H'|_=>False,
  λvs _=>match vs with|[.int _ i]=>n-i.toNat|_=>0,⟨0,(0,0,0,0,0),rfl,by omega,g0,oh,bH.bo,fW⟩,?_⟩
 rintro bm i aF ⟨k,w,rfl,du,hw,dQ,CQ,f3⟩
 refine ai (λc0=> ?_) (λc0=>⟨_,_,_,_,_,rN CQ,xv w dQ λaN dY f4=>⟨_,_,_,_,_,rN dY,w,rfl,hk w aN hw (f3.ab f4 λk hk=>by simp at hk;omega)⟩⟩)
 have gB:k<n:=by simpa using c0
 obtain⟨p,bh⟩:=eR (l:=xs) (i:=k) (by omega)
 have vF:=aZ p (att bh)
 have z3:=f3.size
 refine(aa.ab f3).get rfl bh (decide_eq_true (by omega)) λal bS ak=>⟨_,_,bb.gx ak,?_⟩
 refine ia (v:=bb.e5 p) (by kernel_rfl) (by kernel_rfl) (by simp [atq,avm]) rfl λfz aN dY mn f4=> ?_
 have mn:aU aN ⟨fz,0,none⟩ (bb.encS.cells p):=mn
 have DZ:=CQ.ab f4
 have LI:=dQ.ab f4
 refine⟨_,DZ.b5 (by kernel_rfl) rfl,_,DZ.bV (j:=1) (by kernel_rfl) rfl,?_⟩
 have tail:∀{i:Int},dp i->(∃jd rr om mS o4,a7 187 aN ⟨b1,0,none⟩ (.agg ⟨[.int .i64 jd,.int .i64 rr,.int .i64 om,.int .i64 mS,.int .i64 o4]⟩)/\∃rO uh,a7 113 aN ⟨fz,0,none⟩ (.agg ⟨[.int .i64 rO,.int .i64 uh]⟩)/\ba 327 ⟨[.agg ⟨[.int .i64 rO,.int .i64 uh]⟩]⟩ aN λv iO=>∃sQ sR sS sT sU,v=.agg ⟨[.int .i64 sQ,.int .i64 sR,.int .i64 sS,.int .i64 sT,.int .i64 sU]⟩/\a7 187 iO ⟨b1,0,none⟩ (.agg ⟨[.int .i64 jd,.int .i64 rr,.int .i64 om,.int .i64 mS,.int .i64 o4]⟩)/\ba 77 ⟨[.agg ⟨[.int .i64 jd,.int .i64 rr,.int .i64 om,.int .i64 mS,.int .i64 o4]⟩,.agg ⟨[.int .i64 sQ,.int .i64 sR,.int .i64 sS,.int .i64 sT,.int .i64 sU]⟩]⟩ iO λv lg=>∃sV sW sX D0 D1,v=.agg ⟨[.int .i64 sV,.int .i64 sW,.int .i64 sX,.int .i64 D0,.int .i64 D1]⟩/\∃pk,fX 187 lg ⟨b1,0,none⟩ (.agg ⟨[.int .i64 sV,.int .i64 sW,.int .i64 sX,.int .i64 D0,.int .i64 D1]⟩) pk/\∃Hh,fX 3 pk ⟨b1,0,none⟩ (.int .i64 i) Hh/\(∃(k':Nat) (w:jf),IntKind.i64.wrap ((k:Int)+1)=k'/\k'<=n/\jy w/\aU Hh ⟨dU,0,none⟩ (fr.cells (0,0,0,0,0))/\aU Hh ⟨b1,0,none⟩ (fr.cells w)/\Fr [] H Hh)/\n-(IntKind.i64.wrap ((k:Int)+1)).toNat<n-(k:Int).toNat):=λ{i} az=>by
  refine⟨_,_,_,_,_,rN DZ,_,_,mn.dX (by kernel_rfl) (by kernel_rfl) rfl,aY.mono (akL (K:=λw H'=>jy w/\Fr [] aN H') vF.1 vF.2 λw H' h1 ae=>⟨h1,ae⟩) ?_⟩
  rintro v bw ⟨Lk,rfl,g5,f5⟩
  refine⟨_,_,_,_,_,rfl,rN (DZ.ab f5),aY.mono (TI (K:=λw H'=>jy w/\Fr [] bw H') hw g5 λw H' h1 ae=>⟨h1,ae⟩) ?_⟩
  rintro v bY ⟨TK,rfl,g6,f6⟩
  have f46:=f5.aw f6
  refine⟨_,_,_,_,_,rfl,xv TK (DZ.ab f46) λcC ji f7=>TH i ji λed oa f8=> ?_⟩
  have h0:=(f3.aw f4).aw f46
  have cH:dU≠b1:=by omega
  rw [b6 (by omega)]
  exact⟨⟨k+1,(i,TK.2),rfl,by omega,⟨az,g6.2⟩,((LI.ab f46).ag f7 (by simpa using cH)).ag f8 (by simpa using cH),oa,(h0.ab f7 λk hk=>by simp at hk;omega).ab f8 λk hk=>by simp at hk;omega⟩,by omega⟩
 exact ai (λ_=>⟨_,mn.b5 (by kernel_rfl) rfl,tail vF.1⟩) λ_=>tail hw.1
open bb (cZ fJ)
theorem akR{b1 b2:Nat}{xs:List bC}{step:Int}(eg:1<=step)(aZ:∀x∈xs,dp x.1/\dp x.2)(ay:n<=10000):
  wL atf (λw:jf=>lT w) (.func (.func 237) ⟨[]⟩ ⟨[.pointer (some ⟨b,0,none⟩),.pointer (some ⟨b1,0,none⟩),.pointer (some ⟨b2,0,none⟩)]⟩) (λys=>(∀y∈ys,jy y)/\ys.length<=10000) (λys=>(∀y∈ys,jy y)/\ys.length<=10000) (b::b1::b2::ax a)
   (λH=>aU H ⟨b,0,none⟩ [.slice a n c]/\aU H ⟨b1,0,none⟩ [.int .i64 f,.int .i64 t]/\aU H ⟨b2,0,none⟩ [.int .i64 step]/\bk bb.encS H a n c xs):=by
 intro l H cc K S b4 eC aO aD zP av fin
 have xk:∀{H'},Fr S H H'->aU H' ⟨b,0,none⟩ [.slice a n c]/\aU H' ⟨b1,0,none⟩ [.int .i64 f,.int .i64 t]/\aU H' ⟨b2,0,none⟩ [.int .i64 step]/\bk bb.encS H' a n c xs:=λaf=>by
  have no:∀k∈b::b1::b2::ax a,k∉S:=λk hk bI=>aO k bI hk
  obtain⟨h1,ae,au,a6⟩:=b4
  exact⟨h1.ag af (no b (by simp)),ae.ag af (no b1 (by simp)),au.ag af (no b2 (by simp)),a6.ag af (eG λk hk=>no k (by simp [hk]))⟩
 refine⟨237,⟨[]⟩,_,rfl,by kernel_rfl,?_⟩
 apply akS
 have aH:=b4.2.2.2.len
 have x4:=b4.2.2.2.cap
 refine⟨λvs H'=>match vs with|[.int _ i]=>∃(k:Nat) (ys:List jf) (dn:List Nat),i=k/\k<=n/\ys.length<=k/\(∀y∈ys,jy y)/\cc ys dn H'/\In H' dn/\Fr S H H'/\Grow H S dn|_=>False,
  λvs _=>match vs with|[.int _ i]=>n-i.toNat|_=>0,⟨0,[],S,rfl,by omega,by simp,by simp,aD,eC,Fr.refl _ _,Grow.refl _ _⟩,?_⟩
 rintro bm i H1 ⟨k,ys,dn,rfl,du,qA,TL,eI,TM,f1,g1⟩
 obtain⟨ah,cI,b8,aa⟩:=xk f1
 have hR:=f1.size
 have sH:a7 55 H1 ⟨b,0,none⟩ (.slice a n c):=ah.b5 (by kernel_rfl) rfl
 have hv:a7 3 H1 ⟨b1,0,none⟩ (.int .i64 f):=cI.b5 (by kernel_rfl) rfl
 have n4:a7 3 H1 ⟨b2,0,none⟩ (.int .i64 step):=b8.b5 (by kernel_rfl) rfl
 refine⟨_,_,_,sH,ai (λc0=> ?_) (λc0=>⟨rfl,fin ys dn H1 ⟨TL,by omega⟩ eI TM f1 g1⟩)⟩
 have gB:k<n:=by simpa using c0
 obtain⟨p,bh⟩:=eR (l:=xs) (i:=k) (by omega)
 refine⟨_,_,_,sH,aa.get rfl bh (decide_eq_true (by omega)) λal bS ak=>⟨_,bb.C3 ak,_,hv,_,n4,cb (decide_eq_true (by omega)) ?_⟩⟩
 have tell:∀{m:Nat} {q:Int},k<m->m<=n->dp q->(∃fh om fZ,a7 55 H1 ⟨b,0,none⟩ (.slice fh om fZ)/\da (decide (0<=(k:Int)/\(k:Int)<=(m:Int)/\(m:Int)<=(fZ:Int))) (ba 238 ⟨[.slice (dh fZ (k:Int).toNat 2 fh) ((m:Int).toNat-(k:Int).toNat) (fZ-(k:Int).toNat)]⟩ H1 λv ft=>∃mS o4 rO uh sQ,v=.agg ⟨[.int .i64 mS,.int .i64 o4,.int .i64 rO,.int .i64 uh,.int .i64 sQ]⟩/\∀(b:Nat) (hS:J),ds ft b (.cells ⟨[.int .i64 0,.int .i64 0,.int .i64 0,.int .i64 0,.int .i64 0]⟩ 187) hS->∃iO,fX 187 hS ⟨b,0,none⟩ (.agg ⟨[.int .i64 mS,.int .i64 o4,.int .i64 rO,.int .i64 uh,.int .i64 sQ]⟩) iO/\∃sR,a7 3 iO ⟨b1,0,none⟩ (.int .i64 sR)/\∃sS,a7 3 iO ⟨b2,0,none⟩ (.int .i64 sS)/\∃lg,fX 3 iO ⟨b,0,none⟩ (.int .i64 (atj .i64 (sR+atj .i64 (q*sS)))) lg/\∃sT sU sV sW sX,a7 187 lg ⟨b,0,none⟩ (.agg ⟨[.int .i64 sT,.int .i64 sU,.int .i64 sV,.int .i64 sW,.int .i64 sX]⟩)/\ui atf (.func (.yield l) ⟨[]⟩ ⟨[]⟩) [.agg ⟨[.int .i64 sT,.int .i64 sU,.int .i64 sV,.int .i64 sW,.int .i64 sX]⟩] lg λv pk=>∃b,v=.bool b/\aJ (!b) (avR ⟨[]⟩=avR ⟨[]⟩/\K pk) ((∃(k:Nat) (ys:List jf) (dn:List Nat),(m:Int)=k/\k<=n/\ys.length<=k/\(∀y∈ys,jy y)/\cc ys dn pk/\In pk dn/\Fr S H pk/\Grow H S dn)/\n-(m:Int).toNat<n-(k:Int).toNat))):=λ{m q} CZ ou a1=>by
  refine⟨_,_,_,sH,cb (decide_eq_true ⟨by omega,by omega,by omega⟩) (aY.mono (akO (K:=λw H'=>jy w/\Fr [] H1 H') (aa.cut (k:=k) (m:=m) (by omega) ou) (λy av=>aZ y (auL (List.mem_of_mem_drop av))) (by omega) λw H' h1 ae=>⟨h1,ae⟩) ?_)⟩
  rintro v ao ⟨w,rfl,D2,f2⟩
  refine⟨_,_,_,_,_,rfl,λph aF bF=> ?_⟩
  have dP:=bF.eq
  have z2:=f2.size
  have dQ:aU aF ⟨ph,0,none⟩ (fr.cells (0,0,0,0,0)):=bF.bo
  refine xv w dQ λaN dY f4=> ?_
  have f14:Fr [] H1 aN:=f2.aw (bF.ag.ab f4 λk hk=>by simp at hk;omega)
  refine⟨_,(cI.ab f14).b5 (by kernel_rfl) rfl,_,(b8.ab f14).b5 (by kernel_rfl) rfl,TH _ dY λbw dI f5=>⟨_,_,_,_,_,rN dI,.inr ⟨l,rfl,?_⟩⟩⟩
  have f15:Fr [] H1 bw:=f14.ab f5 λk hk=>by simp at hk;omega
  have L5:=zP ys dn H1 bw [] eI f15 (λ_ _=>by simp) (by simp)
  have akT:In bw dn:=λq a1=>by have:=TM q a1;have:=f15.size;omega
  have DP:jy (IntKind.i64.wrap (f+IntKind.i64.wrap (q*step)),w.2):=⟨DY _,D2.2⟩
  have TN:∀y∈ys++[(IntKind.i64.wrap (f+IntKind.i64.wrap (q*step)),w.2)],jy y:=λy av=>by
   rcases asU.1 av with h|h
   ·exact TL y h
   ·simp at h;subst h;exact DP
  refine(av ys (IntKind.i64.wrap (f+IntKind.i64.wrap (q*step)),w.2) dn bw ⟨TN,by rw [VH];simp;omega⟩ akT L5).mono λv bY ca=> ?_
  obtain⟨rfl,S2,Jk,f6,g6,akU⟩:=ca
  refine⟨true,rfl,ai (λc=>by simp at c) λ_=>⟨⟨m,_,S2,rfl,ou,by rw [VH];simp;omega,TN,Jk,akU,?_,?_⟩,by omega⟩⟩
  ·have jQ:Fr S H bw:=f1.trans' f15 (λk hk _=>hk) (by simp)
   exact jQ.trans' f6 (λk hk _=>hk) λk hk aH=>(g1 k hk).elim id λh=>by omega
  ·intro q a1
   rcases g6 q a1 with h|h
   ·exact g1 q h
   ·exact .inr (by have:=f15.size;omega)
 refine⟨λvs H'=>match vs with|[.int _ i]=>∃m:Nat,i=m/\k<=m/\m<=n/\H'=H1|_=>False,λvs _=>match vs with|[.int _ i]=>n-i.toNat|_=>0,⟨k,rfl,nQ _,by omega,rfl⟩,?_⟩
 rintro bm i ao ⟨m,rfl,CZ,ou,rfl⟩
 refine⟨λ_ H'=>H'=ao/\m<n,⟨_,_,_,sH,ai (λc1=> ?_) (λc1=>tell (by simp at c1;omega) ou (DY _))⟩,?_⟩
 ·have kR:m<n:=by simpa using c1
  obtain⟨y,D3⟩:=eR (l:=xs) (i:=m) (by omega)
  refine⟨_,_,_,sH,aa.get rfl D3 (decide_eq_true (by omega)) λad2 ea2 kL=>⟨_,bb.C3 kL,_,hv,_,n4,cb (decide_eq_true (by omega)) (ai (λ_=>⟨rfl,kR⟩) λc2=>tell ?_ ou (DY _))⟩⟩
  rcases atv k m with h|h
  ·exact h
  ·have:m=k:=by omega
   subst this
   rw [bh]at D3;cases D3
   simp at c2
 ·rintro bm aF ⟨rfl,hm⟩
  rw [b6 (by omega)]
  exact⟨⟨m+1,rfl,by omega,by omega,rfl⟩,cJ hm⟩
open bb (cZ fJ)
theorem akV{xs:List bC}{K:Bool->J->Prop}(aa:bk bb.encS H a n c xs)(ay:n<=1000000)(hk:∀b H',Fr [] H H'->K b H'):
  aY atf akW ⟨[.slice a n c]⟩ H λv H'=>∃b,v=.bool b/\K b H':=by
 apply akX
 have aH:=aa.len
 refine⟨λvs H'=>match vs with|[.int _ i]=>∃k:Nat,i=k/\k<=n/\Fr [] H H'|_=>False,λvs _=>match vs with|[.int _ i]=>n-i.toNat|_=>0,⟨0,rfl,by omega,Fr.refl _ _⟩,?_⟩
 rintro bm i H1 ⟨k,rfl,du,f1⟩
 refine ai (λc0=> ?_) (λc0=>⟨_,rfl,hk _ H1 f1⟩)
 have gB:k<n:=by simpa using c0
 have more:∀{H'},Fr [] H1 H'->(∃k':Nat,IntKind.i64.wrap ((k:Int)+1)=k'/\k'<=n/\Fr [] H H')/\n-(IntKind.i64.wrap ((k:Int)+1)).toNat<n-(k:Int).toNat:=λaf=>by
  rw [b6 (by omega)];exact⟨⟨k+1,rfl,by omega,f1.aw af⟩,by omega⟩
 refine ai (λc1=> ?_) (λ_=>more (Fr.refl _ _))
 have kR:0<k:=by simp at c1;omega
 rw [pJ (by omega) kR]
 obtain⟨x,p5⟩:=eR (l:=xs) (i:=k-1) (by omega)
 obtain⟨y,D3⟩:=eR (l:=xs) (i:=k) (by omega)
 refine(aa.ab f1).get rfl p5 (decide_eq_true (by omega)) λal bS ak=>⟨_,_,bb.gx ak,(aa.ab f1).get rfl D3 (decide_eq_true (by omega)) λal bS ak=>⟨_,_,bb.gx ak,?_⟩⟩
 exact bb.QI λao f2=>ai (λ_=>⟨_,rfl,hk _ ao (f1.aw f2)⟩) λ_=>more f2
theorem akY{xs:List bC}{step:Int}{K:Option Addr->Nat->Nat->Int->J->Prop}(aa:bk bb.encS H a n c xs)(aZ:∀x∈xs,dp x.1/\dp x.2)(ay:n<=10000)
  (hk:∀aK aQ aT e H' ws,Own fr 187 H.size H' aK aQ aT ws->(∀w∈ws,jy w)->aQ<=10000->Fr [] H H'->K aK aQ aT e H'):
  aY atf akZ ⟨[.slice a n c,fJ f t,.int .i64 step]⟩ H λv H'=>∃a n c e,v=.tuple ⟨[.slice a n c,.int .i64 e]⟩/\K a n c e H':=by
 apply ak0
 intro dU H1 aB
 have bc:=aB.eq
 have hR:=aB.size
 have ah:aU H1 ⟨dU,0,none⟩ [.int .i64 f,.int .i64 t]:=aB.bo
 have c7:∀{H'},Fr [] H1 H'->a7 3 H' ⟨dU,0,none⟩ (.int .i64 f):=λaf=>(ah.ab af).b5 (by kernel_rfl) rfl
 have fy:∀{H'},Fr [] H1 H'->a7 3 H' ⟨dU,1,none⟩ (.int .i64 t):=λaf=>(ah.ab af).bV (j:=1) (by kernel_rfl) rfl
 have nt:∀{H'},Fr [] H1 H'->a7 26 H' ⟨dU,0,none⟩ (fJ f t):=λaf=>(ah.ab af).dX (by kernel_rfl) (by kernel_rfl) rfl
 have iH:=Fr.refl [] H1
 have no:∀{H'},Fr [] H1 H'->∃a n c e,avR ⟨[.slice none 0 0,.int .i64 1]⟩=.tuple ⟨[.slice a n c,.int .i64 e]⟩/\K a n c e H':=λaf=>⟨_,_,_,_,rfl,hk _ _ _ _ _ [] (Own.nil _ _ _ _) (by simp) (by omega) (aB.ag.aw af)⟩
 refine⟨_,c7 iH,ai (λ_=>no iH) λ_=>⟨_,c7 iH,_,fy iH,ai (λ_=>no iH) λ_=>⟨_,fy iH,ai (λ_=>no iH) λ_=>ai (λ_=>no iH) λcs=> ?_⟩⟩⟩
 have eg:1<=step:=by simp at cs;omega
 refine akV (aa.ab aB.ag) (by omega) λfj ao f2=>ai (λ_=>no f2) λ_ b2 aF bF=> ?_
 have dP:=bF.eq
 have z2:=f2.size
 have z3:=bF.size
 have f13:=f2.aw bF.ag
 refine⟨_,_,nt f13,_,_,nt f13,bb.QP ((aa.ab aB.ag).ab f13) (by omega) λa4 k5 c4 aN eV f4=>⟨nt (f13.aw f4),?_⟩⟩
 have iK:=avd (nI f t) xs
 have ary:=eV.1
 have jr:=aa.len
 have z4:=f4.size
 apply ak1
 intro d1 bw tM d2 bY mK d3 cC mL
 have dN:=tM.eq
 have dm:=mK.eq
 have hQ:=mL.eq
 have AH:=tM.size
 have yL:=mK.size
 have TJ:=mL.size
 have f47:=(tM.ag.aw mK.ag).aw mL.ag
 refine⟨_,rfl,λD l bM ed kV sh=> ?_⟩
 obtain⟨g1,arz,arA,arB,yY,gs⟩:=kV.out
 have f37:=f4.aw f47
 obtain⟨Jg,FK⟩:=nB.start (E:=fr) (t:=187) (H0:=ao) (bF.ag.aw f37) (bF.bo.ab f37) (by omega) kV
 have seq:=akR (b:=d1) (b1:=d2) (b2:=d3) (n:=k5) (c:=c4) (a:=a4) (xs:=xs.filter (nI f t)) (f:=f) (t:=t) (step:=step) eg (λx aa=>aZ x (List.mem_filter.1 aa).1) (by omega)
 refine dO.mono (seq l ed (λys S H'=>nB fr 187 ao.size l D b2 bM ao ys S H') (λaN=>fa aN l bM .ready none/\∃a n c,a7 99 (dR aN l bM .exhausted none) ⟨b2,0,none⟩ (.slice a n c)/\lU (dR aN l bM .exhausted none) D/\∃aK aQ aT e,avR ⟨[.slice a n c,.int .i64 0]⟩=.tuple ⟨[.slice aK aQ aT,.int .i64 e]⟩/\K aK aQ aT e (mx (dR aN l bM .exhausted none) D)) [b2,l,D] ⟨?_,?_,?_,?_⟩ FK ?_ Jg ?_ ?_ ?_) λv H' h=>.inl h.2
 ·exact((tM.bo.ab mK.ag).ab mL.ag).ab g1
 ·exact(mK.bo.ab mL.ag).ab g1
 ·exact mL.bo.ab g1
 ·exact(eV.bL.ab f47).ab g1
 ·intro k hk a1
  have a6:∀q∈ax a4,aF.size<=q/\q<aN.size:=λq a1=>eV.ge q a1
  simp only [o3,aty,or_false]at hk a1
  rcases hk with rfl|rfl|rfl<;>rcases a1 with h|h|h|h<;>first|omega|(have:=a6 _ h;omega)
 ·intro ys S wP B9 T eI af aO dc
  exact eI.stay af aO λk hk=>by have:=dc k hk;have:=g1.size;omega
 ·intro ys x S wP e0 eC eI
  refine sh (lT x) wP _ eI.mz λks ee fF=> ?_
  have yX:=fF.eq
  have rK:aU ee ⟨ks,0,none⟩ (fr.cells (0,0,0,0,0)):=fF.bo
  refine xv x rK λfx pj f10=> ?_
  have Hi:Fr [] wP fx:=fF.ag.ab f10 λk hk=>by simp at hk;omega
  have Hj:=eI.stay Hi (λ_ _=>by simp) (by simp)
  have ak2:In fx S:=eC.le Hi.size
  obtain⟨ak3,tk,hP,fR,uQ,bI,m1,m2,m3⟩:=Hj.it
  have rP:=tx fx l bM .busy none
  have fi:ks≠l:=by have:=eC l (by rw [bI];simp);omega
  refine⟨Hj.mz,ak3,tk,hP,(fR.ag rP (by simp [Hj.bj])).b5 (by kernel_rfl) rfl,_,_,_,_,_,rN (pj.ag rP (by simpa using fi)),?_⟩
  have qA:ys.length+1<=10000:=by have:=e0.2;rw [VH]at this;simpa using this
  refine nB.more (vs:=fr.cells x) (bytes:=40) (by kernel_rfl) (by kernel_rfl) (by kernel_rfl) (by kernel_rfl) rfl Hj ak2 fR uQ bI m1 m2 m3 (by omega) (Fr.refl _ _) λbw S2 y1 L5 fS gS oW=>⟨y1,rfl,S2,L5,?_,?_,oW⟩
  ·exact(Hi.mono (by simp)).trans' fS (λk hk _=>hk) λk hk _=>hk
  ·intro k hk
   exact(gS k hk).imp id λh=>by have:=Hi.size;omega
 ·intro ws dn ee cn eI eC f9 g9
  refine nB.done (P:=atf) (ts:=99) (K:=λa n c H'=>∃aK aQ aT e,avR ⟨[.slice a n c,.int .i64 0]⟩=.tuple ⟨[.slice aK aQ aT,.int .i64 e]⟩/\K aK aQ aT e H') (by kernel_rfl) eI λaK aQ aT H' an af _=>⟨_,_,_,_,rfl,?_⟩
  have:=an.1
  exact hk aK aQ aT 0 H' ws (an.base (by have:=f2.size;omega)) cn.1 (by have:=cn.2;omega) ((aB.ag.aw f2).aw af)
open cU (eu eW l9 iu jF)
open bb (cZ fJ e9 dL jM j4)
theorem TO{x:jf}(h:eP H al (fr.cells x)):cR atf 187 H al (lT x):=r' (by kernel_rfl) (by kernel_rfl) h
theorem ak4:zeroOf atf 187=some (lT (0,0,0,0,0)):=by kernel_rfl
def y2(x y:jf):Int:=bb.gX x.1 y.1
theorem ak5:Go.Sort.SWO (ltOf y2) where
 irrefl x:=by simp only [ltOf,decide_eq_false_iff_not,y2,bb.lN];omega
 trans x y z h1 ae:=by simp only [ltOf,decide_eq_true_eq,y2,bb.lN]at *;omega
 ntrans x y z h1 ae:=by simp only [ltOf,decide_eq_false_iff_not,y2,bb.lN]at *;omega
theorem ak6{x y:jf}{K:Int->J->Prop}(hk:∀H',Fr [] H H'->K (y2 x y) H'):aY atf 79 ⟨[.agg ⟨fr.cells x⟩,.agg ⟨fr.cells y⟩]⟩ H λv H'=>∃n,v=.int .i64 n/\K n H':=by
 apply ak7
 intro b1 H1 h1 b2 ao ae
 have cI:aU ao ⟨b1,0,none⟩ (fr.cells x):=h1.bo.ab ae.ag
 have b8:aU ao ⟨b2,0,none⟩ (fr.cells y):=ae.bo
 exact⟨_,cI.b5 (by kernel_rfl) rfl,_,b8.b5 (by kernel_rfl) rfl,bb.w6 ⟨_,rfl,hk ao (h1.ag.aw ae.ag)⟩⟩
theorem ak8{base:Nat}{xs:List jf}{K:J->Prop}(an:Own fr 187 base H a n c xs)(ay:n<=1000000000)
  (hk:∀H' ys,Own fr 187 base H' a n c ys->ys.Perm xs->ys.Pairwise (λx y=>¬y2 y x<0)->Fr (ax a) H H'->K H'):
  aY atf 78 ⟨[.slice a n c,.func (.func 79) #[] #[]]⟩ H λv H'=>v=.tuple ⟨[]⟩/\K H':=
 Ki Tryz.ak9 (kf:=78) rfl (E:=fr) (t:=187) rfl (by kernel_rfl) ⟨_,Tryz.underlying187⟩ (by kernel_rfl) (by kernel_rfl) y2 ak5 (enters_of Tryz.func79 (by kernel_rfl) rfl) (λx y H K hk=>ak6 hk) an (by omega) hk
def y3(L:List (cS Int)):Prop:=∀x∈L,∃w:jf,x.2.1=lT w/\jy w
theorem ak'{L:List (cS Int)}(h:y3 L)(k:Int):∃w:jf,(dA k L).getD (lT (0,0,0,0,0))=lT w/\jy w:=by
 induction L with
 |nil=>exact⟨_,rfl,⟨by decide,by decide⟩,⟨by decide,by decide⟩,⟨by decide,by decide⟩,⟨by decide,by decide⟩,⟨by decide,by decide⟩⟩
 |cons x L ih=>
  unfold dA
  split
  ·exact h x (by simp)
  ·exact ih λy av=>h y (by simp [av])
theorem ala{L:List (cS Int)}(h:y3 L){k:Int}{ck:Nat}{w:jf}(hw:jy w):y3 (oZ k (lT w) ck L):=by
 unfold oZ
 split
 ·have:∀L:List (cS Int),y3 L->y3 (mR k (lT w) L):=λL=>by
   induction L with
   |nil=>exact λh=>h
   |cons x L ih=>
    intro h
    unfold mR
    split
    ·intro y av
     rcases o3.1 av with rfl|av
     ·exact⟨w,rfl,hw⟩
     ·exact h y (by simp [av])
    ·intro y av
     rcases o3.1 av with rfl|av
     ·exact h _ (by simp)
     ·exact ih (λz aC=>h z (by simp [aC])) y av
  exact this L h
 ·intro y av
  rcases asU.1 av with av|av
  ·exact h y av
  ·simp at av;subst av;exact⟨w,rfl,hw⟩
theorem alb{B:Nat}{m:bg.ei}{A:fK}{db:eA}{xs:List eu}{ms:List fg}{step:Int}{K:Option Addr->Nat->Nat->Int->J->Prop}(h:h2 H B x N b M m A db)(aa:bk cU.hg H a n c xs)(hm:iu H xs ms)(ay:n<=1000000000)(e1:N<=10000)
  (hk:∀aK aQ aT e H' ws,bk fr H' aK aQ aT ws->(∀w∈ws,jy w)->aQ<=3000000->dp e->Fr [] H H'->K aK aQ aT e H'):
  aY atf alc ⟨[.pointer (some ⟨x,0,none⟩),.slice a n c,fJ f t,.int .i64 step]⟩ H λv H'=>∃a n c e,v=.tuple ⟨[.slice a n c,.int .i64 e]⟩/\K a n c e H':=by
 apply ald
 intro dU H1 aB
 have ah:aU H1 ⟨dU,0,none⟩ [.int .i64 f,.int .i64 t]:=aB.bo
 have no:∀{e:Int} {H'},dp e->Fr [] H H'->∃a n c cV,avR ⟨[.slice none 0 0,.int .i64 e]⟩=.tuple ⟨[.slice a n c,.int .i64 cV]⟩/\K a n c cV H':=λhe af=>⟨_,_,_,_,rfl,hk _ _ _ _ _ [] iy (by simp) (by omega) he af⟩
 refine⟨_,_,ah.dX (by kernel_rfl) (by kernel_rfl) rfl,LD (h.p.ab aB.ag) (aa.ab aB.ag) (hm.ab aB.ag) ay (λao he f2=> ?_) (λaK aQ aT ao he an aA aH f2=> ?_)⟩
 ·exact ai (λ_=>no (DM _ _ _) (aB.ag.aw f2)) (λc=>by simp at c;exact absurd c he)
 have fW:=aB.ag.aw f2
 refine ai (λc=>by simp at c) λ_=>ai (λ_=>no ⟨by decide,by decide⟩ fW) λ_=> ?_
 refine⟨_,_,(ah.ab f2).dX (by kernel_rfl) (by kernel_rfl) rfl,look_ok (h.ab fW) an.bL aA (by omega) e1 λa3 fG c3 aF rh eN oj SS f3 fz aN cp=> ?_⟩
 have iz:=fW.aw f3
 have iZ:=cp.eq
 have z3:=iz.size
 have dY:aU aN ⟨dU,0,none⟩ [.int .i64 f,.int .i64 t]:=((ah.ab f2).ab f3).ab cp.ag
 have yR:=DK (os:=jP db.L ms) (f:=f) (t:=t) h.g.1
 have AK:=DN (os:=jP db.L ms) (f:=f) (t:=t) h.g.1
 have q5:=DL db (jP db.L ms) f t
 have DS:=h.g.2
 have DX:=LH db (jP db.L ms) f t
 generalize qL db (jP db.L ms) f t=ss at oj yR AK q5 DX
 have eo:=oj.len
 have dk:=eN.1
 have yQ:∀s∈ss,s.2.length<=10000:=λs hs=>by
  obtain⟨j,a'⟩:=avg hs
  have h1:=G8 a'
  have ae:=vB ss (j+1)
  omega
 refine⟨λvs H'=>match vs with|[.int _ i]=>∃(k ck:Nat) (L:List (cS Int)),i=k/\k<=fG/\dM bb.dB H' fz ck L/\y3 L/\L.length<=10000*k/\Fr [fz] aN H'|_=>False,
  λvs _=>match vs with|[.int _ i]=>fG-i.toNat|_=>0,⟨0,0,[],rfl,by omega,dM.new bb.dB cp,λ_ h=>by simp at h,by simp,Fr.refl _ _⟩,?_⟩
 rintro bm i bw ⟨k,ck,L,rfl,du,la,gF,arC,f5⟩
 have oh:dU≠fz:=by have:=aB.eq;have:=aB.size;have:=f2.size;have:=f3.size;omega
 have up:∀{H'},Fr [fz] aN H'->Fr [] H H':=λaf=>(iz.aw cp.ag).ab af λq a1=>by simp at a1;omega
 have ale:fz∉ax a3:=λaq=>by have:=(eN.ge _ aq).2;omega
 refine ai (λc0=> ?_) (λc0=> ?_)
 ·have gB:k<fG:=by simpa using c0
  obtain⟨y,av⟩:=eR (l:=rh) (i:=k) (by omega)
  obtain⟨s,hs,jN⟩:=oj.get av
  have lk:=att hs
  have qA:=jN.2.len
  have alf:∀q∈ax y.2.1,q≠fz:=λq a1=>by
   have:=bb.As jN.2 (DX.2 s lk).1 q a1;omega
  have gs:=yR s lk
  have arD:=yQ s lk
  refine((eN.bL.ab cp.ag).ag f5 (eG λq a1 aq=>by simp at aq;subst aq;exact ale a1)).get rfl av (decide_eq_true (by omega)) λal bS ak=>⟨_,_,_,_,j4 ak,?_⟩
  refine ia (v:=jM y) (by kernel_rfl) (by kernel_rfl) (by simp [atq,avm]) rfl λua bY gj sP f6=> ?_
  have sP:aU bY ⟨ua,0,none⟩ (dL.cells y):=sP
  have f46:Fr [fz] aN bY:=f5.trans' f6 (λk hk _=>hk) (by simp)
  refine⟨_,_,_,sP.bV (j:=1) (by kernel_rfl) rfl,_,_,((dY.ag f5 (by simpa using oh)).ab f6).dX (by kernel_rfl) (by kernel_rfl) rfl,?_⟩
  refine akY (((jN.2.ab cp.ag).ag f5 (eG λq a1 aq=>by simp at aq;exact alf q a1 aq)).ab f6) (λx aa=>gs.2 x aa) (by omega) λib n7 pI vD cC ws fo Ch gy f7=> ?_
  have f47:Fr [fz] aN cC:=f46.trans' f7 (λk hk _=>hk) (by simp)
  have uX:=(la.ab bb.dB f6).ab bb.dB f7
  have PE:=fo.1
  have alg:fz∉ax ib:=λaq=>by have:=(fo.ge _ aq).1;have:=la.lt;have:=f6.size;omega
  refine⟨λvs H'=>match vs with|[.int _ i]=>∃(j ck:Nat) (nv:List (cS Int)),i=j/\j<=n7/\dM bb.dB H' fz ck nv/\y3 nv/\nv.length<=L.length+j/\Fr [fz] cC H'|_=>False,
   λvs _=>match vs with|[.int _ i]=>n7-i.toNat|_=>0,⟨0,ck,L,rfl,by omega,uX,gF,by omega,Fr.refl _ _⟩,?_⟩
  rintro bm i ed ⟨j,TP,TQ,rfl,a',D4,L6,AM,f8⟩
  have f48:Fr [fz] aN ed:=f47.trans' f8 (λk hk _=>hk) λk hk _=>hk
  refine ai (λc1=> ?_) (λc1=> ?_)
  ·have kR:j<n7:=by simpa using c1
   obtain⟨w,hw⟩:=eR (l:=ws) (i:=j) (by omega)
   have D2:=Ch w (att hw)
   refine(fo.bL.ag f8 (eG λq a1 aq=>by simp at aq;subst aq;exact alg a1)).get rfl hw (decide_eq_true (by omega)) λal bS ak=>⟨_,_,_,_,_,TO ak,λks ee fF=> ?_⟩
   have yX:=fF.eq
   have rK:aU ee ⟨ks,0,none⟩ (fr.cells (0,0,0,0,0)):=fF.bo
   refine xv w rK λfx pj f10=> ?_
   have Hk:Fr [] ed fx:=fF.ag.ab f10 λk hk=>by simp at hk;omega
   have TR:=D4.ab bb.dB Hk
   obtain⟨fM,qx,alh⟩:=ak' L6 w.1
   have j':=r6 (T:=bb.dB) (mt:=184) (e:=187) awc ak4 TR w.1
   rw [qx]at j'
   refine⟨_,pj.b5 (by kernel_rfl) rfl,_,pj.b5 (by kernel_rfl) rfl,_,_,_,_,_,j',_,_,_,_,_,rN pj,?_⟩
   refine aY.mono (TI (K:=λw H'=>jy w/\Fr [] fx H') alh D2 λw H' h1 ae=>⟨h1,ae⟩) ?_
   rintro v lE ⟨vi,rfl,g2,f11⟩
   refine⟨_,_,_,_,_,rfl,(pj.ab f11).b5 (by kernel_rfl) rfl,uN (T:=bb.dB) awc (TR.ab bb.dB f11) w.1 λn1 Hl f12=> ?_⟩
   have nm:=bg.Pm w.1 (lT vi) TP TQ
   rw [b6 (by omega)]
   exact⟨⟨j+1,_,_,rfl,by omega,Hl,ala L6 g2,VF nm (by omega),(f8.trans' (Hk.aw f11) (λk hk _=>hk) (by simp)).trans' f12 (λk hk _=>hk) λk hk _=>hk⟩,cJ kR⟩
  ·rw [b6 (by omega)]
   exact⟨⟨k+1,TP,TQ,rfl,by omega,D4,L6,by omega,f48⟩,cJ gB⟩
 ·have u7:k=fG:=by simp at c0;omega
  refine x6 bb.dB (mt:=184) (e:=187) awc la λit bY hL=> ?_
  have nO:=hL.eq
  have h0:=(up f5).aw hL.ag
  have Av:=la.ab bb.dB hL.ag
  have hit:fz≠it:=λe=>by have:=la.lt;omega
  refine⟨λvs H'=>match vs with|[.slice aK aQ aT]=>∃(seen:Array Nat) (ws:List jf),H'[it]?=some (.mapIter (some fz) ck seen ck)/\Own fr 187 bY.size H' aK aQ aT ws/\(∀w∈ws,jy w)/\aQ+wF seen (L.map (·.2.2))<=L.length/\dM bb.dB H' fz ck L/\Fr [it] bY H'|_=>False,λ_ H'=>lF H' fz it,⟨#[],[],hL.get,Own.nil _ _ _ _,by simp,(by unfold wF;exact VF (Nat.le_of_eq (Nat.zero_add _)) (VF (avd _ _) (by simp))),Av,Fr.refl _ _⟩,?_⟩
  rintro bm ib n7 pI cC ⟨seen,ws,B8,fo,pC,q2,uX,f7⟩
  have p4:Fr [] H cC:=h0.trans' f7 (by simp) λq a1 aH=>by simp at a1;have:=(up f5).size;omega
  have vD:=sa bb.dB uX B8
  have arE:=fo.1
  refine wE bb.dB uX B8 (λdG=> ?_) λx aa jY ed hi8 f8=> ?_
  ·refine ak8 fo (by omega) λed ys ly q3 _ f8=>⟨_,_,_,_,rfl,hk ib n7 pI 0 ed ys ly.bL (λw hw=>pC w (q3.mem_iff.1 hw)) (by omega) ⟨by decide,by decide⟩ (p4.ab f8 λq a1=>by have:=(fo.ge q a1).1;have:=h0.size;omega)⟩
  ·have D4:=uX.ag bb.dB f8 (by simp;exact hit)
   have yT:=BX (seen:=seen) (List.mem_map.2 ⟨x,aa,rfl⟩:x.2.2∈L.map (·.2.2)) jY
   obtain⟨w,hw,D2⟩:=gF x aa
   have TS:it∉ax ib:=λaq=>by have:=(fo.ge _ aq).1;have:=hL.size;omega
   refine zJ bb.dB D4 hi8 aa rfl ?_
   rw [hw]
   refine⟨_,_,_,_,_,rfl,λks ee fF=> ?_⟩
   have yX:=fF.eq
   have rK:aU ee ⟨ks,0,none⟩ (fr.cells (0,0,0,0,0)):=fF.bo
   refine xv w rK λfx pj f10=>⟨_,_,_,_,_,rN pj,λarF lE rM=> ?_⟩
   have Hk:Fr [] ed fx:=fF.ag.ab f10 λk hk=>by simp at hk;omega
   have D5:=Hk.aw rM.ag
   have Fm:=(fo.ag f8 (eG λq a1 aq=>by simp at aq;subst aq;exact TS a1)).ab D5
   have jX:=f7.size
   have DO:=f8.size
   have arG:=D5.size
   refine iD (t:=187) (E:=fr) (bytes:=40) (by kernel_rfl) (by kernel_rfl) Fm (gd fr w rM rfl) (by omega) (by omega) λa12 n12 c12 n1 DV f12 g12=> ?_
   have TT:=(D5.nw hi8|>λh=>f12.get h TS)
   have Hl:=(D4.ab bb.dB D5).ag bb.dB f12 λaq=>by have:=(fo.ge _ aq).1;have:=la.lt;have:=hL.size;omega
   have ali:=sa bb.dB Hl TT
   have rJ:=DV.1
   simp at rJ
   refine⟨⟨_,_,TT,DV,λy av=> ?_,by omega,Hl,?_⟩,by show lF n1 fz it<lF cC fz it;rw [vD,ali];exact yT⟩
   ·rcases asU.1 av with q|q
    ·exact pC y q
    ·simp at q;subst q;exact D2
   ·have g1:Fr [it] bY lE:=(f7.trans' f8 (λk hk _=>hk) λk hk _=>hk).trans' D5 (λk hk _=>hk) (by simp)
    exact g1.trans' f12 (λk hk _=>hk) λq a1 aH=>by have:=(fo.ge q a1).1;omega
theorem alj{ws:List jf}{K:Option Addr->Nat->Nat->J->Prop}(aa:bk fr H a n c ws)(ay:n<=10000000)(hk:∀aK aT H',bk fr H' aK n aT ws->Fr [] H H'->K aK n aT H'):
  aY atf alk ⟨[.slice a n c]⟩ H λv H'=>∃a n c,v=.slice a n c/\K a n c H':=by
 apply alm
 intro b H1 aB
 have aH:=aa.len
 refine⟨λvs H'=>match vs with|[.slice aK aQ aT,.int _ i]=>∃k:Nat,i=k/\k<=n/\Own fr 192 H.size H' aK aQ aT (ws.take k)/\Fr [] H H'|_=>False,
  λvs _=>match vs with|[_,.int _ i]=>n-i.toNat|_=>0,⟨0,rfl,by omega,Own.made fr 192 aB (nQ _),aB.ag⟩,?_⟩
 rintro bm aK aQ aT i ao ⟨k,rfl,du,an,af⟩
 have dk:=an.1
 rw [apH]at dk
 refine ai (λc0=> ?_) (λc0=>⟨_,_,_,rfl,?_⟩)
 ·have gB:k<n:=by simpa using c0
  obtain⟨y,av⟩:=eR (l:=ws) (i:=k) (by omega)
  refine(aa.ab af).get rfl av (decide_eq_true (by omega)) λal bS ak=>⟨_,_,_,_,_,TO ak,?_⟩
  refine k3 (E:=fr) (bytes:=40) y (by kernel_rfl) (by kernel_rfl) an af rfl (by omega) λ_ a3 fG c3 aF au f3 _=> ?_
  rw [b6 (by omega)]
  exact⟨⟨k+1,rfl,by omega,by rw [ats,av];exact au,f3⟩,cJ gB⟩
 ·rw [asG (by simp at c0;omega)]at an
  have:aQ=n:=by simp at c0;omega
  subst this
  exact hk aK aT ao an.bL af
theorem pn{x:jf}(h:eP H al (fr.cells x)):a7 3 H al (.int .i64 x.1)/\a7 3 H (al.add 1) (.int .i64 x.2.1)/\a7 3 H (al.add 2) (.int .i64 x.2.2.1)/\a7 3 H (al.add 3) (.int .i64 x.2.2.2.1)/\a7 3 H (al.add 4) (.int .i64 x.2.2.2.2):=
 ⟨n' (by kernel_rfl) (by have:=h 0 _ rfl;simpa [Addr.add]using this),kt (by kernel_rfl) h (j:=1) rfl,kt (by kernel_rfl) h (j:=2) rfl,kt (by kernel_rfl) h (j:=3) rfl,kt (by kernel_rfl) h (j:=4) rfl⟩
theorem aln{ws:List jf}{K:ByteArray->J->Prop}(aa:bk fr H a n c ws)(aZ:∀w∈ws,jy w)(ay:n<=10000000)(hk:∀s H',s.size<=500000000->Fr [] H H'->K s H'):
  aY atf alo ⟨[.slice a n c]⟩ H λv H'=>∃s,v=.string s/\K s H':=by
 apply alp
 have aH:=aa.len
 refine⟨λvs H'=>match vs with|[.string s,.int _ i]=>∃k:Nat,i=k/\k<=n/\s.size<=50*k/\Fr [] H H'|_=>False,
  λvs _=>match vs with|[.string s,.int _ i]=>n-i.toNat|_=>0,⟨0,rfl,by omega,by decide,Fr.refl _ _⟩,?_⟩
 rintro bm s i H1 ⟨k,rfl,du,aC,f1⟩
 refine ai (λc0=> ?_) (λc0=>⟨_,rfl,hk _ H1 (by omega) f1⟩)
 have gB:k<n:=by simpa using c0
 obtain⟨y,av⟩:=eR (l:=ws) (i:=k) (by omega)
 obtain⟨g0,g1,g2,g3,g4⟩:=aZ y (att av)
 have get:∀{X:Addr->Prop},(∀al,a=some al->eP H1 (al.add ((k:Int).toNat *fr.sz)) (fr.cells y)->X al)->eO a λal=>da (decide (0<=(k:Int)/\(k:Int)<(n:Int))) (X al):=λgU=>(aa.ab f1).get rfl av (decide_eq_true (by omega)) gU
 refine get λad0 _ vI=>⟨_,(pn vI).1,get λad1 _ w2=>⟨_,(pn w2).2.1,get λad2 _ kL=>⟨_,(pn kL).2.2.1,get λad3 _ pa=>⟨_,(pn pa).2.2.2.1,get λad4 _ vG=>⟨_,(pn vG).2.2.2.2,?_⟩⟩⟩⟩⟩
 refine oD g0 λao f2 z2=>⟨(pn (vG.ab f2)).2.2.2.2,(pn (pa.ab f2)).2.2.2.1,(pn (kL.ab f2)).2.2.1,(pn (w2.ab f2)).2.1,cb (decide_eq_true (by omega)) ?_⟩
 refine oD g1 λaF f3 z3=> ?_
 have f13:=f2.aw f3
 refine⟨(pn (vG.ab f13)).2.2.2.2,(pn (pa.ab f13)).2.2.2.1,(pn (kL.ab f13)).2.2.1,cb (decide_eq_true (by rw [avN];omega)) ?_⟩
 refine oD g2 λaN f4 z4=> ?_
 have f14:=f13.aw f4
 refine⟨(pn (vG.ab f14)).2.2.2.2,(pn (pa.ab f14)).2.2.2.1,cb (decide_eq_true (by rw [avN,avN];omega)) ?_⟩
 refine oD g3 λbw f5 z5=> ?_
 have f15:=f14.aw f5
 refine⟨(pn (vG.ab f15)).2.2.2.2,cb (decide_eq_true (by rw [avN,avN,avN];omega)) ?_⟩
 refine oD g4 λbY f6 xt=>cb (decide_eq_true (by rw [avN,avN,avN,avN];omega)) ?_
 rw [b6 (by omega)]
 exact⟨⟨k+1,rfl,by omega,by rw [avN,avN,avN,avN,avN];omega,f1.aw (f15.aw f6)⟩,cJ gB⟩
open cU (eu iu)
open bb (fJ e9 dL)
abbrev sY:=Int×dH×dH×Int×Int×Int×Int×ByteArray
def oF:dd sY:=⟨λo=>[.int .i64 o.1,.slice o.2.1.1 o.2.1.2.1 o.2.1.2.2,.slice o.2.2.1.1 o.2.2.1.2.1 o.2.2.1.2.2,.int .i64 o.2.2.2.1,.int .i64 o.2.2.2.2.1,.int .i64 o.2.2.2.2.2.1,.int .i64 o.2.2.2.2.2.2.1,.string o.2.2.2.2.2.2.2],8,λ_=>rfl,by decide,λ_ v h=>by simp at h;rcases h with rfl|rfl|rfl|rfl|rfl|rfl|rfl|rfl<;>rfl⟩
abbrev Hm(o:sY):Value:=.agg ⟨[.int .i64 o.1,.slice o.2.1.1 o.2.1.2.1 o.2.1.2.2,.slice o.2.2.1.1 o.2.2.1.2.1 o.2.2.1.2.2,.int .i64 o.2.2.2.1,.int .i64 o.2.2.2.2.1,.int .i64 o.2.2.2.2.2.1,.int .i64 o.2.2.2.2.2.2.1,.string o.2.2.2.2.2.2.2]⟩
structure vJ(H:J)(o:sY):Prop where
 pts:∃ms ps,bk oA H o.2.1.1 o.2.1.2.1 o.2.1.2.2 ms/\AI H ms ps/\(∀m∈ms,m.1.2.1<=1000000)/\∀p∈ps,dp p.2.2
 Ce:o.2.1.2.1<=1000
 LS:∃xs ms,bk cU.hg H o.2.2.1.1 o.2.2.1.2.1 o.2.2.1.2.2 xs/\iu H xs ms
 bP:o.2.2.1.2.1<=1000000
 tok:o.2.2.2.2.2.2.2.size<=1000000
theorem vJ.ab{o:sY}(h:vJ H o)(af:Fr [] H H'):vJ H' o:=by
 obtain⟨⟨ms,ps,h1,ae,au,a6⟩,cW,⟨xs,j0,bu,ca⟩,cr,t⟩:=h
 exact⟨⟨ms,ps,h1.ab af,ae.ab af,au,a6⟩,cW,⟨xs,j0,bu.ab af,ca.ab af⟩,cr,t⟩
theorem oC.ab{B:Nat}{m:bg.ei}{db:eA}{H1 ao:J}{e:Int}(h:oC B x N b M m db H e H1)(af:Fr [] H1 ao):oC B x N b M m db H e ao:=by
 obtain⟨h1,A,vC,ae,au,a6,bu⟩:=h
 exact⟨h1,A,vC,ae,au,a6.ab af,bu.trans (gL.of af)⟩
theorem oC.pre{B:Nat}{m:bg.ei}{db:eA}{H0 H1:J}{e:Int}(h:oC B x N b M m db H e H1)(af:Fr [] H0 H):oC B x N b M m db H0 e H1:=by
 obtain⟨h1,A,vC,ae,au,a6,bu⟩:=h
 exact⟨h1,A,vC,ae,au,a6,(gL.of af).trans bu⟩
theorem TU{B:Nat}{m:bg.ei}{A:fK}{db:eA}{o:sY}{token:ByteArray}{K:ByteArray->ByteArray->J->Prop}(h:h2 H B x N b M m A db)(b4:ho H)(hO:vJ H o)(dc:token.size<=1000000)(e1:N<=9000)(b8:b<=20000000)(cQ:M<=90)(bK:7<=B)
  (hk:∀s t e H',oC B x N b M m db H e H'->(s.size<2\/∃r,s=rL e++r)->K s t H'):
  aY atf alq ⟨[.pointer (some ⟨x,0,none⟩),Hm o,.string token]⟩ H λv H'=>∃s t,v=.tuple ⟨[.string s,.string t]⟩/\K s t H':=by
 apply alr
 intro dU H1 aB
 have ah:aU H1 ⟨dU,0,none⟩ (oF.cells o):=aB.bo
 have h1:=h.ab aB.ag
 have z':=b4.ab aB.ag
 obtain⟨⟨arH,ps,fD,jh,Gy,als⟩,Ce,⟨xs,ms,dN,dm⟩,bP,tH⟩:=hO.ab aB.ag
 have c7:a7 3 H1 ⟨dU,0,none⟩ (.int .i64 o.1):=ah.b5 (by kernel_rfl) rfl
 have fy:a7 23 H1 ⟨dU,1,none⟩ (.slice o.2.1.1 o.2.1.2.1 o.2.1.2.2):=ah.bV (j:=1) (by kernel_rfl) rfl
 have hv:a7 24 H1 ⟨dU,2,none⟩ (.slice o.2.2.1.1 o.2.2.1.2.1 o.2.2.1.2.2):=ah.bV (j:=2) (by kernel_rfl) rfl
 have n4:a7 26 H1 ⟨dU,3,none⟩ (fJ o.2.2.2.1 o.2.2.2.2.1):=ah.vf (j:=3) (by kernel_rfl) (by kernel_rfl) rfl
 have yG:a7 3 H1 ⟨dU,5,none⟩ (.int .i64 o.2.2.2.2.2.1):=ah.bV (j:=5) (by kernel_rfl) rfl
 have yH:a7 9 H1 ⟨dU,7,none⟩ (.string o.2.2.2.2.2.2.2):=ah.bV (j:=7) (by kernel_rfl) rfl
 have done:∀{s t:ByteArray} {e:Int} {H':J} {r:ByteArray},oC B x N b M m db H1 e H'->s=rL e++r->∃s' t',avR ⟨[.string s,.string t]⟩=.tuple ⟨[.string s',.string t']⟩/\K s' t' H':=λ{s t e H' r} ae au=>⟨_,_,rfl,hk s t e H' (ae.pre aB.ag) (.inr ⟨r,au⟩)⟩
 have same:∀{e:Int} {H'},dp e->Fr [] H1 H'->oC B x N b M m db H1 e H':=λhe af=>.same he ((h1.ab af).mono (nQ _) (nQ _) (by omega)) (gL.of af)
 have emp:∀s:ByteArray,s=s++⟨#[]⟩:=λs=>(ByteArray.append_empty (b:=s)).symm
 have nil:∃s' t',avR ⟨[.string ⟨#[]⟩,.string token]⟩=.tuple ⟨[.string s',.string t']⟩/\K s' t' H1:=⟨_,_,rfl,hk _ _ 0 H1 ((same ⟨by decide,by decide⟩ (Fr.refl _ _)).pre aB.ag) (.inl (by decide))⟩
 have Hn:∀{tok:ByteArray} {k:Int},tok.size<=1000000->ba 37 ⟨[.pointer (some ⟨x,0,none⟩),.string tok,.int .i64 k]⟩ H1 λv H'=>∃a n c s eh,v=.tuple ⟨[.slice a n c,.string s,.int .i64 eh]⟩/\cE 11 [.int .i64 eh] H' λoV H'=>cE 38 [.slice a n c] H' λyq H'=>da (decide (oV.size+yq.size<=9223372036854775807)) (da (decide ((oV++yq).size+s.size<=9223372036854775807)) (∃s' t',avR ⟨[.string (oV++yq++s),.string s]⟩=.tuple ⟨[.string s',.string t']⟩/\K s' t' H')):=λhtok=>by
  refine akC h1 (by omega) z' htok λa n c s e ao rows aa aZ ay hs he f2=>vE he λaF f3 z3=>ajg (aa.ab f3) aZ (by omega) λs2 aN z4 f4=>cb (decide_eq_true (by omega)) (cb (decide_eq_true (by rw [avN];omega)) (done (e:=e) (r:=s2++s) (same he ((f2.aw f3).aw f4)) (by rw [ByteArray.append_assoc])))
 refine⟨_,c7,ai (λ_=> ?_) λ_=>ai (λ_=> ?_) λ_=>ai (λ_=> ?_) λ_=>ai (λ_=> ?_) λ_=>ai (λ_=> ?_) λ_=>ai (λ_=> ?_) λ_=>ai (λ_=> ?_) λ_=>ai (λ_=> ?_) λ_=>nil⟩
 ·exact⟨_,_,_,fy,aiZ h1 fD jh Gy als Ce e1 b8 cQ bK λe ao cP=>vE cP.1 λaF f3 z3=>done (cP.ab f3) (emp _)⟩
 ·exact⟨_,_,_,hv,_,_,n4,ai4 h1 dN dm (by omega) e1 b8 cQ bK λi e ao az cP=>vE cP.1 λaF f3 z3=>oD az λaN f4 z4=>cb (decide_eq_true (by omega)) (done ((cP.ab f3).ab f4) rfl)⟩
 ·exact⟨_,yG,ai0 h1 e1 b8 cQ bK λe ao cP=>vE cP.1 λaF f3 z3=>done (cP.ab f3) (emp _)⟩
 ·have aZ:=DK (os:=jP db.L ms) (f:=o.2.2.2.1) (t:=o.2.2.2.2.1) h.g.1
  have bf:=DL db (jP db.L ms) o.2.2.2.1 o.2.2.2.2.1
  have AK:=DN (os:=jP db.L ms) (f:=o.2.2.2.1) (t:=o.2.2.2.2.1) h.g.1
  have DS:=h.g.2
  refine⟨_,_,_,hv,_,_,n4,G7 h1 dN dm (by omega) (by omega) (λao he f2=> ?_) λa n c ao hs he an bI a1 f2=> ?_⟩
  ·refine vE (DM _ _ _) λaF f3 z3=>SU (hs:=[]) iy (by omega) λaK aT aN o9 f4=>SV (ss:=[]) o9 .nil (λs hs=>by simp at hs) (by decide) (by omega) λs bw z5 f5=>cb (decide_eq_true (by omega)) (done (same (DM _ _ _) (((f2.aw f3).aw f4).aw f5)) rfl)
  ·have eo:=bI.len
   have dk:=an.1
   unfold queryM at bI eo
   refine vE ⟨by decide,by decide⟩ λaF f3 z3=>SU (an.bL.ab f3) (by omega) λaK aT aN o9 f4=>SV o9 ((bI.ab f3).ab f4) aZ (by omega) (by omega) λs bw z5 f5=>cb (decide_eq_true (by omega)) (done (same ⟨by decide,by decide⟩ (((f2.aw f3).aw f4).aw f5)) rfl)
 ·refine⟨_,_,_,hv,_,_,n4,_,yG,alb h1 dN dm (by omega) (by omega) λa n c e ao ws aa aZ ay he f2=>vE he λaF f3 z3=>alj (aa.ab f3) (by omega) λaK aT aN o9 f4=>aln o9 aZ (by omega) λs bw z5 f5=>cb (decide_eq_true (by omega)) (done (same he (((f2.aw f3).aw f4).aw f5)) rfl)⟩
 ·exact⟨_,_,_,hv,_,_,n4,akz dN dm z' λs e ao hs he f2=>vE he λaF f3 z3=>cb (decide_eq_true (by omega)) (done (same he (f2.aw f3)) rfl)⟩
 ·exact ai (λ_=>⟨_,c7,ai (λ_=>⟨_,yH,_,yG,Hn tH⟩) λ_=>⟨_,yG,Hn dc⟩⟩) λ_=>nil
 ·exact⟨_,c7,ai (λ_=>⟨_,yH,_,yG,Hn tH⟩) λ_=>⟨_,yG,Hn dc⟩⟩
open cU (eu iu l9)
open bb (cZ)
theorem vK{P:Program}{t:TypeId}{v:Value}(bf:pN P t=false)(h:eP H al vs)(aI:vs[0]?=some v):cR P t H al v:=n' bf (by have:=h 0 v aI;rwa [zZ]at this)
theorem cZ.L7{α β:Type}{R:α->β->Prop}:∀{l:List α},(∀x∈l,∃y,R x y)->∃ys,cZ R l ys
 |[],_=>⟨[],.nil⟩
 |x::l,h=>by
  obtain⟨y,av⟩:=h x (by simp)
  obtain⟨ys,wU⟩:=cZ.L7 (l:=l) λz aC=>h z (by simp [aC])
  exact⟨y::ys,.cons av wU⟩
theorem TV{cM a2:Option Addr}{cW c1 cr c2:Nat}{l:bX}{xs:List eu}{K:Bool->J->Prop}(aH:bk gb H cM cW c1 l)(aa:bk cU.hg H a2 cr c2 xs)(hm:∀x∈xs,∃S,bk bs.dT H x.2.2.2.1 x.2.2.2.2.1 x.2.2.2.2.2 S)
  (hk:∀b,(b=false->cW<=20/\cr<=12/\∀x∈xs,x.2.2.2.2.1<=12)->K b H):
  aY atf alu ⟨[.slice cM cW c1,.slice a2 cr c2]⟩ H λv H'=>∃b,v=.bool b/\K b H':=by
 apply alv
 have yes:∃b,atp true=.bool b/\K b H:=⟨true,rfl,hk true (λh=>by cases h)⟩
 have oq:=aH.len
 have jr:=aa.len
 refine⟨λvs H'=>H=H'/\cW<=20/\cr<=12,ai (λ_=>yes) λc1=>ai (λ_=>yes) λc2=>⟨rfl,by simp at c1;omega,by simp at c2;omega⟩,?_⟩
 rintro bm _ ⟨rfl,b1,b2⟩
 refine⟨λvs H1=>match vs with|[.int _ i]=>∃k:Nat,i=k/\k<=cW/\H=H1|_=>False,λvs _=>match vs with|[.int _ i]=>cW-i.toNat|_=>0,⟨0,rfl,by omega,rfl⟩,?_⟩
 rintro bm i _ ⟨k,rfl,du,rfl⟩
 refine ai (λc=> ?_) λ_=> ?_
 ·have aT:k<cW:=by simpa using c
  obtain⟨y,av⟩:=eR (l:=l) (i:=k) (by omega)
  refine aH.get rfl av (decide_eq_true (by omega)) λal bS ak=>⟨y.1,vK (by kernel_rfl) ak rfl,ai (λ_=>yes) λ_=>aH.get rfl av (decide_eq_true (by omega)) λal bS ak=>⟨y.2,kt (j:=1) (by kernel_rfl) ak rfl,ai (λ_=>yes) λ_=> ?_⟩⟩
  rw [b6 (by omega)]
  exact⟨⟨k+1,rfl,by omega,rfl⟩,cJ aT⟩
 refine⟨λvs H1=>match vs with|[.int _ i]=>∃k:Nat,i=k/\k<=cr/\(∀x∈xs.take k,x.2.2.2.2.1<=12)/\H=H1|_=>False,λvs _=>match vs with|[.int _ i]=>cr-i.toNat|_=>0,⟨0,rfl,by omega,by simp,rfl⟩,?_⟩
 rintro bm i _ ⟨k,rfl,du,dG,rfl⟩
 refine ai (λc=> ?_) λc=> ?_
 ·have aT:k<cr:=by simpa using c
  obtain⟨y,av⟩:=eR (l:=xs) (i:=k) (by omega)
  obtain⟨S,bI⟩:=hm y (att av)
  have arI:=bI.len
  have get:∀{X:Addr->Prop},(∀al,eP H (al.add ((k:Int).toNat *4)) (cU.hg.cells y)->X al)->eO a2 λal=>da (decide (0<=(k:Int)/\(k:Int)<cr)) (X al):=λgU=>aa.get rfl av (decide_eq_true (by omega)) λal _ ak=>gU al ak
  refine⟨λvs H1=>H=H1/\y.2.2.2.2.1<=12,⟨λvs H1=>H=H1/\y.2.2.2.2.1<=12,get λal ak=>⟨y.2.1,kt (j:=1) (by kernel_rfl) ak rfl,ai (λ_=>yes) λ_=>get λal ak=>⟨y.2.2.1,kt (j:=2) (by kernel_rfl) ak rfl,ai (λ_=>yes) λ_=>get λal ak=>⟨_,_,_,kt (j:=3) (by kernel_rfl) ak rfl,ai (λ_=>yes) λc3=>⟨rfl,by simp at c3;omega⟩⟩⟩⟩,?_⟩,?_⟩
  ·rintro bm _ ⟨rfl,cX⟩
   refine⟨λvs H1=>match vs with|[.int _ i]=>∃q:Nat,i=q/\q<=y.2.2.2.2.1/\H=H1|_=>False,λvs _=>match vs with|[.int _ i]=>y.2.2.2.2.1-i.toNat|_=>0,⟨0,rfl,by omega,rfl⟩,?_⟩
   rintro bm i _ ⟨q,rfl,a1,rfl⟩
   refine get λal ak=>⟨_,_,_,kt (j:=3) (by kernel_rfl) ak rfl,ai (λc3=> ?_) λ_=>⟨rfl,cX⟩⟩
   have AL:q<y.2.2.2.2.1:=by simpa using c3
   obtain⟨s,hs⟩:=eR (l:=S) (i:=q) (by omega)
   refine get λal ak=>⟨_,_,_,kt (j:=3) (by kernel_rfl) ak rfl,bI.get rfl hs (decide_eq_true (by omega)) λal bS ak=>⟨s,vK (by kernel_rfl) ak rfl,ai (λ_=>yes) λ_=> ?_⟩⟩
   rw [b6 (by omega)]
   exact⟨⟨q+1,rfl,by omega,rfl⟩,cJ AL⟩
  ·rintro bm _ ⟨rfl,cX⟩
   rw [b6 (by omega)]
   refine⟨⟨k+1,rfl,by omega,λx aa=> ?_,rfl⟩,cJ aT⟩
   rw [ats,av]at aa
   rcases asU.1 aa with h|h
   ·exact dG x h
   ·simp at h;subst h;exact cX
 ·have e:k=cr:=by simp at c;omega
  refine⟨false,rfl,hk false λ_=>⟨b1,b2,λx aa=>dG x ?_⟩⟩
  rw [e,jr,asM];exact aa
structure xw(H:J)(o:sY):Prop where
 pts:∃ms,bk oA H o.2.1.1 o.2.1.2.1 o.2.1.2.2 ms/\∀m∈ms,(∃l,bk gb H m.1.1 m.1.2.1 m.1.2.2 l)/\dp m.2.2
 LS:∃xs,bk cU.hg H o.2.2.1.1 o.2.2.1.2.1 o.2.2.1.2.2 xs/\∀x∈xs,∃S,bk bs.dT H x.2.2.2.1 x.2.2.2.2.1 x.2.2.2.2.2 S
theorem xw.ab{o:sY}(h:xw H o)(af:Fr [] H H'):xw H' o:=by
 obtain⟨⟨ms,h1,ae⟩,xs,au,a6⟩:=h
 exact⟨⟨ms,h1.ab af,λm hm=>⟨(ae m hm).1.elim λl aH=>⟨l,aH.ab af⟩,(ae m hm).2⟩⟩,xs,au.ab af,λx aa=>(a6 x aa).elim λS bI=>⟨S,bI.ab af⟩⟩
theorem TW{u4:Int}{os:List sY}{K:Bool->J->Prop}(aa:bk oF H a n c os)(an:∀o∈os,xw H o)(arJ:u4<=1000)
  (hk:∀b,(b=false->n<=u4/\∀o∈os,vJ H o)->K b H):
  aY atf alw ⟨[.slice a n c,.int .i64 u4]⟩ H λv H'=>∃b,v=.bool b/\K b H':=by
 apply alx
 have yes:∃b,atp true=.bool b/\K b H:=⟨true,rfl,hk true (λh=>by cases h)⟩
 have jr:=aa.len
 refine ai (λ_=>yes) λc0=> ?_
 have ay:(n:Int)<=u4:=by simp at c0;omega
 refine⟨λvs H1=>match vs with|[.int _ p,.int _ i]=>∃k q:Nat,i=k/\p=q/\q<=100*k/\k<=n/\(∀o∈os.take k,vJ H o)/\H=H1|_=>False,λvs _=>match vs with|[_,.int _ i]=>n-i.toNat|_=>0,⟨0,0,rfl,rfl,by omega,by omega,by simp,rfl⟩,?_⟩
 rintro bm p i _ ⟨k,q,rfl,rfl,a1,du,dG,rfl⟩
 refine ai (λc=> ?_) λc=> ?_
 ·have aT:k<n:=by simpa using c
  obtain⟨o,av⟩:=eR (l:=os) (i:=k) (by omega)
  obtain⟨⟨ms,ug,D6⟩,xs,kM,rG⟩:=an o (att av)
  have qw:=ug.len
  have get:∀{X:Addr->Prop},(∀al,eP H (al.add ((k:Int).toNat *8)) (oF.cells o)->X al)->eO a λal=>da (decide (0<=(k:Int)/\(k:Int)<n)) (X al):=λgU=>aa.get rfl av (decide_eq_true (by omega)) λal _ ak=>gU al ak
  have fy:∀{al},eP H al (oF.cells o)->a7 23 H (al.add 1) (.slice o.2.1.1 o.2.1.2.1 o.2.1.2.2):=λak=>kt (j:=1) (by kernel_rfl) ak rfl
  refine⟨λvs H1=>∃q:Nat,vs=[.int .i64 q]/\q<=100*(k+1)/\vJ H o/\H=H1,⟨λvs H1=>(o.2.1.2.1<=100/\o.2.2.2.2.2.2.2.size<=4096/\o.2.2.1.2.1<=12/\∀x∈xs,x.2.2.2.2.1<=12)/\H=H1,get λal ak=>⟨_,_,_,fy ak,ai (λ_=>yes) λc1=>get λal ak=>⟨_,kt (j:=7) (by kernel_rfl) ak rfl,ai (λ_=>yes) λc2=>get λal ak=>⟨_,_,_,kt (j:=2) (by kernel_rfl) ak rfl,TV (l:=[]) iy kM rG λb ah=>ai (λ_=>yes) λe=>⟨⟨by simp at c1;omega,by simp at c2;omega,(ah e).2⟩,rfl⟩⟩⟩⟩,?_⟩,?_⟩
  ·rintro bm _ ⟨⟨b1,b2,cX,fz⟩,rfl⟩
   refine get λal ak=>⟨_,_,_,fy ak,λvs H1=>match vs with|[.int _ i]=>∃r:Nat,i=r/\r<=o.2.1.2.1/\(∀m∈ms.take r,m.1.2.1<=20)/\H=H1|_=>False,λvs _=>match vs with|[.int _ i]=>o.2.1.2.1-i.toNat|_=>0,⟨0,rfl,by omega,by simp,rfl⟩,?_⟩
   rintro bm i _ ⟨r,rfl,aA,pA,rfl⟩
   refine get λal ak=>⟨_,_,_,fy ak,ai (λc3=> ?_) λc3=> ?_⟩
   ·have AL:r<o.2.1.2.1:=by simpa using c3
    obtain⟨m,hm⟩:=eR (l:=ms) (i:=r) (by omega)
    obtain⟨⟨l,aH⟩,_⟩:=D6 m (att hm)
    refine get λal ak=>⟨_,_,_,fy ak,ug.get rfl hm (decide_eq_true (by omega)) λal bS ak=>⟨_,_,_,vK (by kernel_rfl) ak rfl,TV (xs:=[]) aH iy (by simp) λb ah=>ai (λ_=>yes) λe=> ?_⟩⟩
    rw [b6 (by omega)]
    refine⟨⟨r+1,rfl,by omega,λx aa=> ?_,rfl⟩,cJ AL⟩
    rw [ats,hm]at aa
    rcases asU.1 aa with h|h
    ·exact pA x h
    ·simp at h;subst h;exact(ah e).1
   ·have e:r=o.2.1.2.1:=by simp at c3;omega
    rw [e,qw,asM]at pA
    refine⟨q+o.2.1.2.1,?_,by omega,?_,rfl⟩
    ·rw [bb.Aq (by omega)]
    obtain⟨ps,vH⟩:=cZ.L7 (R:=Ln H) (l:=ms) λm hm=>(D6 m hm).1.elim λl aH=>⟨(l,m.2),aH,rfl⟩
    obtain⟨j0,nJ⟩:=cZ.L7 (R:=l9 H) (l:=xs) λx aa=>(rG x aa).elim λS bI=>⟨(x.1,x.2.1,x.2.2.1,S),rfl,rfl,rfl,bI,by have:=fz x aa;omega⟩
    refine⟨⟨ms,ps,ug,vH,λm hm=>by have:=pA m hm;omega,λp bh=> ?_⟩,by omega,⟨xs,j0,kM,?_⟩,by omega,by omega⟩
    ·obtain⟨j,a'⟩:=avu.1 bh
     obtain⟨m,hm,aly⟩:=vH.get' a'
     rw [<-aly.2];exact(D6 m (att hm)).2
    ·exact⟨nJ.len,λi x m aa hm=>by obtain⟨y,h1,ae⟩:=nJ.get aa;rw [hm]at h1;cases h1;exact ae⟩
  ·rintro bm _ _ ⟨q',h,kl,hO,rfl⟩
   simp only [List.cons.injEq,Value.int.injEq,and_true,true_and]at h
   subst h
   rw [b6 (by omega)]
   refine⟨⟨k+1,q',rfl,rfl,by omega,by omega,λx aa=> ?_,rfl⟩,cJ aT⟩
   rw [ats,av]at aa
   rcases asU.1 aa with h|h
   ·exact dG x h
   ·simp at h;subst h;exact hO
 ·have e:k=n:=by simp at c;omega
  rw [e,jr,asM]at dG
  exact⟨_,rfl,hk _ λ_=>⟨ay,dG⟩⟩
def p7:eA:=⟨[],[],0,bg.nC⟩
theorem alz{M:List ByteArray}{x:List UInt8}(h:B2 []=(M,x)):M=[]:=by
 have aZ:ma []=none:=by
  cases e:ma []with
  |none=>rfl
  |some p=>
   have:=congrArg List.length (OU e)
   simp [hW]at this
 unfold B2 at h
 rw [OV aZ]at h
 exact(Prod.mk.inj h).1.symm
theorem alA{s:Addr}{cK:Nat}{Q:List Nat}{st:bg.f'}{m:bg.ei}{K:Option Addr->Nat->Nat->Int->J->Prop}(h:bg.hN H s d cK cy a n c Q Sd st m N M)(hw:st.now cY=none)(dc:k8 H)
  (hk:∀H',Fr [] H H'->K none 0 0 0 H'):
  aY atf alB ⟨[.pointer (some s)]⟩ H λv H'=>∃a n c e,v=.tuple ⟨[.slice a n c,.int .i64 e]⟩/\K a n c e H':=by
 apply alC
 refine bg.yf h ?_
 rw [show st.now ⟨#[119,97,108]⟩=none from hw]
 refine OX dc (by decide) λM a o n c H1 bQ hs cQ an f1=>ai (λaq=> ?_) λ_=> ?_
 ·simp at aq
  have aD:(⟨#[]⟩:ByteArray).size=0:=rfl
  omega
 ·have KQ:M=[]:=alz hs
  have ay:=an.1
  rw [KQ]at ay
  refine⟨λvs H'=>vs=[.slice none 0 0,.int .i64 0]/\H1=H',λ_ _=>0,⟨rfl,rfl⟩,?_⟩
  rintro bm aK aQ aT i _ ⟨e,rfl⟩
  simp only [List.cons.injEq,Value.slice.injEq,Value.int.injEq,and_true,true_and]at e
  obtain⟨⟨rfl,rfl,rfl⟩,rfl⟩:=e
  subst ay
  exact ai (λc=>by simp at c) λ_=>⟨_,_,_,_,rfl,hk H1 f1⟩
theorem alD{K:Option Addr->J->Prop}(hk:∀p pr H',H.size<=pr->H.size<=p->p<H'.size->pr<H'.size->p≠pr->aU H' ⟨p,0,none⟩ [.map (some pr)]->H'[pr]?=some (.map ⟨[]⟩ 0)->Fr [] H H'->K (some ⟨p,0,none⟩) H'):
  aY atf alE ⟨[]⟩ H λv H'=>∃a,v=.pointer a/\K a H':=by
 apply alF
 intro b H1 aB b1 ao bH
 have bc:=aB.eq
 have bN:=bH.eq
 have hR:=aB.size
 have z2:=bH.size
 exact⟨_,rfl,hk b1 b ao (by omega) (by omega) (by omega) (by omega) (by omega) bH.bo (bH.ag.nw aB.get) (aB.ag.aw bH.ag)⟩
theorem alG(n i:Int):(bg.ye (bg.oc n) i).1=⟨#[]⟩:=by
 unfold bg.ye bg.oc
 simp only [Bool.false_eq_true,if_false,List.getLast?_nil,awi]
 generalize(if(if 512<n then(512:Int)else n)>8 then(if 512<n then(512:Int)else n)else 8)=z
 split<;>rfl
theorem alH{H0:J}{n:Int}{K:Option Addr->Int->J->Prop}(h:bg.ob H d Sd (bg.oc n) 0)(wX:Fr [] H0 H)(bI:∀k∈Sd,H0.size<=k)(dc:k8 H)
  (hk:∀x A H',h2 H' H0.size x 0 0 0 (bg.oc n) A p7->Fr [] H H'->K (some ⟨x,0,none⟩) 0 H'):
  aY atf TX ⟨[.pointer (some d)]⟩ H λv H'=>∃a e,v=.tuple ⟨[.pointer a,.int .i64 e]⟩/\K a e H':=by
 apply alI
 refine bg.aaB h (by decide) rfl (λi _ _=>alG n i) λs cK cy H1 aC eo f1=>ai (λc=>by simp at c) λ_=> ?_
 refine cU.It λao di bJ az lp f2=>alD λp pr aF dN dm hQ hC yZ bh hm f3=>λx aN cp=> ?_
 have ex:=cp.eq
 have hR:=f1.size
 have z2:=f2.size
 have z3:=f3.size
 have z4:=cp.size
 have z0:=wX.size
 have f24:=(f2.aw f3).aw cp.ag
 have jO:=f1.aw f24
 have arK:=dc.ab jO
 have L8:=eo.ab f24
 have aa:aU aN ⟨x,0,none⟩ [.pointer (some d),.pointer (some s),.pointer (some ⟨di,0,none⟩),.slice none 0 0,.int .i64 0,.int .i64 0,.bool false,.int .i64 0,.int .i64 0,.int .i64 0,.slice none 0 0,.slice none 0 0,.int .i64 0,.pointer (some ⟨p,0,none⟩),.pointer none]:=cp.bo
 refine⟨λ_ H'=>aN=H',bg.yf L8 (ai (λc=>by cases c) λ_=>rfl),?_⟩
 rintro bm _ rfl
 refine⟨λ_ H'=>aN=H',bg.yf L8 (ai (λc=>by cases c) λ_=>rfl),?_⟩
 rintro bm _ rfl
 refine⟨0,aa.bV (j:=5) (by kernel_rfl) rfl,?_⟩
 refine aU.st (a:=⟨x,0,none⟩) (j:=12) (v:=.int .i64 0) aa (by kernel_rfl) (by kernel_rfl) (λv aI=>by simp [atq]at aI;subst aI;rfl) (by simp [atq]) λbw dI f5=> ?_
 have z5:=f5.size
 have alJ:aU bw ⟨x,0,none⟩ [.pointer (some d),.pointer (some s),.pointer (some ⟨di,0,none⟩),.slice none 0 0,.int .i64 0,.int .i64 0,.bool false,.int .i64 0,.int .i64 0,.int .i64 0,.slice none 0 0,.slice none 0 0,.int .i64 0,.pointer (some ⟨p,0,none⟩),.pointer none]:=by simpa [atq]using dI
 have jQ:Fr [] H bw:=jO.ab f5 λk hk=>by simp at hk;omega
 have ne:∀k,k<aF.size->k∉[x]:=λk hk aq=>by simp at aq;omega
 have TY:∀k∈bJ,k<ao.size:=by
  obtain⟨hw,a,n,c,hs,gv,et,dW,dE,h1,ae⟩:=az
  exact h1.iC
 have TZ:=h.oW
 have T0:bg.hN bw s d cK cy none 0 0 [] Sd bg.nC (bg.oc n) 0 0:=L8.ag f5 (λk hk=>ne k (by
  simp only [o3,aty,or_false]at hk
  have:=(aC k (by simpa using hk)).2;omega)) λk hk=>ne k (by have:=TZ k hk;omega)
 refine alA T0 rfl (dc.ab jQ) λbY f6=>ai (λc=>by simp at c) λ_=> ?_
 refine⟨λvs H'=>vs=[.int .i64 0]/\bY=H',λ_ _=>0,⟨rfl,rfl⟩,?_⟩
 rintro bm i _ ⟨e,rfl⟩
 simp only [List.cons.injEq,Value.int.injEq,and_true,true_and]at e
 subst e
 have gj:=alJ.ab f6
 have f36:Fr [x] aF bY:=(cp.ag.trans' (f5.trans' (f6.mono (by simp)) (λk hk _=>hk) λk hk _=>hk) (by simp) λk hk _=>hk)
 refine ai (λc=>by simp at c) λ_=>⟨false,gj.bV (j:=6) (by kernel_rfl) rfl,ai (λc=>by cases c) λ_=>⟨_,_,rfl,?_⟩⟩
 have f26:Fr [x] ao bY:=f3.trans' f36 (by simp) λk hk _=>hk
 have xt:=f6.size
 refine hk x {s:=s,d:=d,cK:=cK,cy:=cy,Sd:=Sd,m:=bg.oc n,N:=0,M:=0,di:=di,bJ:=bJ,bQ:=(none,0,0),hs:=[],mu:=(none,0,0),tb:=[],p:=p,pr:=pr} bY ⟨⟨gj,T0.ab f6,?_,iy,.nil,bb.ej.nil,Own.nil _ _ _ _,?_,?_,?_,by omega⟩,⟨nQ _,by simp [p7],nQ _⟩,⟨rfl,rfl,(λy d aO=>by cases aO)⟩,⟨(λs hs=>by cases hs),nQ _⟩,nQ _,rfl,(dc.ab jQ).ab f6⟩ (jQ.aw f6)
 ·exact az.ag f26 λk hk=>ne k (by have:=TY k hk;omega)
 ·exact bh.ag f36 (ne p hQ)
 ·exact f36.get hm (ne pr hC)
 ·have cM:∀k∈s.block::cK::cy::Sd,H0.size<=k/\k<H1.size:=λk hk=>by
   simp only [o3]at hk
   rcases hk with e|e|e|e
   ·have:=aC k (by simp [e]);omega
   ·have:=aC k (by simp [e]);omega
   ·have:=aC k (by simp [e]);omega
   ·have:=bI k e;have:=TZ k e;omega
  have a2:∀k∈bJ,H1.size<=k/\k<ao.size:=λk hk=>⟨lp k hk,TY k hk⟩
  have a5:∀k∈[p,pr],ao.size<=k/\k<aF.size:=λk hk=>by
   simp only [o3,aty,or_false]at hk
   rcases hk with e|e<;>omega
  have a0:∀k∈[x],aF.size<=k/\k<bY.size:=λk hk=>by simp at hk;omega
  have no:∀{S:List Nat},e2 S []:=λk _ aq=>by cases aq
  have alK:∀{S:List Nat},e2 [] S:=λk aq=>by cases aq
  have lt:∀{S T:List Nat} {q:Nat},(∀k∈S,k<q)->(∀k∈T,q<=k)->e2 S T:=λh1 ae k hk cA=>by have:=h1 k hk;have:=ae k cA;omega
  refine⟨?_,λF cn k hk=> ?_⟩
  ·show List.Pairwise e2 [[x],s.block::cK::cy::Sd,bJ,[],[],[p,pr]]
   simp only [List.pairwise_cons,o3,aty,or_false,forall_eq_or_imp,forall_eq,List.Pairwise.nil,and_true,no,alK,true_and,implies_true,false_imp_iff]
   refine⟨⟨(lt (λk hk=>(cM k hk).2) λk hk=> ?_).symm,(lt (λk hk=>(a2 k hk).2) λk hk=> ?_).symm,(lt (λk hk=>(a5 k hk).2) λk hk=>(a0 k hk).1).symm⟩,⟨lt (λk hk=>(cM k hk).2) λk hk=>(a2 k hk).1,lt (λk hk=>(cM k hk).2) λk hk=> ?_⟩,lt (λk hk=>(a2 k hk).2) λk hk=>(a5 k hk).1⟩
   ·have:=a0 k hk;omega
   ·have:=a0 k hk;omega
   ·have:=a5 k hk;omega
  ·change F∈[[x],s.block::cK::cy::Sd,bJ,[],[],[p,pr]]at cn
   simp only [o3,aty,or_false]at cn
   rcases cn with rfl|rfl|rfl|rfl|rfl|rfl
   ·have:=a0 k hk;omega
   ·have:=cM k hk;omega
   ·have:=a2 k hk;omega
   ·cases hk
   ·cases hk
   ·have:=a5 k hk;omega
theorem T1{n:Int}{K:Option Addr->Int->J->Prop}(dc:k8 H)(hk:∀x A H',h2 H' H.size x 0 0 0 (bg.oc n) A p7->Fr [] H H'->K (some ⟨x,0,none⟩) 0 H'):
  aY atf Pl ⟨[.int .i64 n]⟩ H λv H'=>∃a,v=.pointer a/\aY atf TX ⟨[.pointer a]⟩ H' λv H'=>∃a e,v=.tuple ⟨[.pointer a,.int .i64 e]⟩/\K a e H':=
 bg.It λb H1 S bI aO f1=>alH aO f1 bI (dc.ab f1) λx A ao dz f2=>hk x A ao dz (f1.aw f2)
abbrev kS:=Int×Int×ByteArray
def h3:dd kS:=⟨λx=>[.int .i64 x.1,.int .i64 x.2.1,.string x.2.2],3,λ_=>rfl,by decide,λ_ v h=>by simp at h;rcases h with rfl|rfl|rfl<;>rfl⟩
abbrev Ho(x:kS):Value:=.agg ⟨[.int .i64 x.1,.int .i64 x.2.1,.string x.2.2]⟩
theorem D7{x:kS}(h:eP H al (h3.cells x)):cR atf 138 H al (Ho x):=r' (by kernel_rfl) (by kernel_rfl) h
theorem T2:jC atf 138 3 32=true:=by kernel_rfl
theorem T3:sliceB atf 66 138=true:=by kernel_rfl
structure po where
 h:dH
 next:Int
 past:Int
abbrev jR(s:po):List Value:=[.slice s.h.1 s.h.2.1 s.h.2.2,.int .i64 s.next,.int .i64 s.past,.bool false,.int .i64 0,.int .i64 0,.int .i64 0]
abbrev vL(s:po):Value:=.agg ⟨jR s⟩
theorem vM{x:kS}{zs:List Value}{K:Nat->J->Prop}(aC:zs.length=3)(k:∀b H',H.size<=b->aU H' ⟨b,0,none⟩ (h3.cells x)->Fr [] H H'->K b H'):
  ∀b H',ds H b (.cells ⟨zs⟩ 138) H'->∃cv,fb atf 138 H' ⟨b,0,none⟩ (Ho x) cv/\K b cv:=
 ia (by kernel_rfl) (by kernel_rfl) (λv h=>by simp [atq]at h;rcases h with rfl|rfl|rfl<;>rfl) aC k
theorem T4{x:kS}{X:J->Prop}(h:aU H ⟨b,0,none⟩ vs)(aC:vs.length=3)(k:∀H',aU H' ⟨b,0,none⟩ (h3.cells x)->Fr [b] H H'->X H'):∃H',fb atf 138 H ⟨b,0,none⟩ (Ho x) H'/\X H':=
 h.jq (v:=Ho x) (by kernel_rfl) (by kernel_rfl) (λv h=>by simp [atq]at h;rcases h with rfl|rfl|rfl<;>rfl) (by simp [atq,aC]) λH' ah af=>k H' (by
  have e:vs.drop 3=[]:=avr (by omega)
  simpa [atq,h3,e]using ah) af
def vN(ps:List kS)(day:Int):Option kS:=ps.find? λx=>x.1==day
theorem alL{b1:Nat}{day:Int}{ps:List kS}{K:Int->J->Prop}(aa:bk h3 H a n c ps)(ay:n<=1000)(ah:aU H ⟨b1,0,none⟩ [.int .i64 day])
  (hk:∀(i:Nat) H',i<=n->(∀j x,j<i->ps[j]?=some x->x.1≠day)->(∀x,ps[i]?=some x->x.1=day)->Fr [] H H'->K (if i<n then i else -1) H'):
  aY atf alM ⟨[.slice a n c,.func (Fn.func 115) ⟨[]⟩ ⟨[.pointer (some ⟨b1,0,none⟩)]⟩]⟩ H λv H'=>∃i,v=.int .i64 i/\K i H':=by
 apply alN
 have aH:=aa.len
 refine⟨λvs H'=>match vs with|[.int _ i]=>∃k:Nat,i=k/\k<=n/\(∀j x,j<k->ps[j]?=some x->x.1≠day)/\Fr [] H H'|_=>False,λvs _=>match vs with|[.int _ i]=>n-i.toNat|_=>0,⟨0,rfl,by omega,λ_ _ h=>by omega,Fr.refl _ _⟩,?_⟩
 rintro bm i H1 ⟨k,rfl,du,cz,f1⟩
 refine ai (λc=> ?_) λc=> ?_
 ·have aT:k<n:=by simpa using c
  obtain⟨y,av⟩:=eR (l:=ps) (i:=k) (by omega)
  refine(aa.ab f1).get rfl av (decide_eq_true (by omega)) λal bS ak=>⟨_,_,_,D7 ak,115, #[],_,rfl,by kernel_rfl,?_⟩
  apply alO
  intro b2 ao bH
  refine⟨_,bH.bo.bV (j:=0) (by kernel_rfl) rfl,_,((ah.ab f1).ab bH.ag).b5 (by kernel_rfl) rfl,_,rfl,ai (λe=> ?_) λe=> ?_⟩
  ·have cV:y.1=day:=by simpa using e
   have:=hk k ao du cz (λx aa=>by rw [av]at aa;cases aa;exact cV) (f1.aw bH.ag)
   rw [if_pos aT]at this
   exact⟨_,rfl,this⟩
  ·have cV:y.1≠day:=by simpa using e
   rw [b6 (by omega)]
   refine⟨⟨k+1,rfl,by omega,λj x a' aa=> ?_,f1.aw bH.ag⟩,cJ aT⟩
   by_cases qk:j<k
   ·exact cz j x qk aa
   ·have:j=k:=by omega
    subst this;rw [av]at aa;cases aa;exact cV
 ·have e:k=n:=by simp at c;omega
  have:=hk k H1 du cz (λx aa=>by have:=(qb.1 aa).1;omega) f1
  rw [if_neg (by omega)]at this
  exact⟨_,rfl,this⟩
theorem alP{ps:List kS}{day:Int}{i:Nat}{x:kS}(h:∀j x,j<i->ps[j]?=some x->x.1≠day)(aa:ps[i]?=some x)(aO:x.1=day):vN ps day=some x:=by
 induction ps generalizing i with
 |nil=>cases aa
 |cons y ps ih=>
  unfold vN
  rw [List.find?_cons]
  cases i with
  |zero=>simp at aa;subst aa;simp [aO]
  |succ i=>
   have aD:=h 0 y (by omega) rfl
   rw [show(y.1==day)=false by simpa using aD]
   exact ih (i:=i) (λj x a' aa=>h (j+1) x (by omega) aa) aa
theorem alQ{ps:List kS}{day:Int}(h:∀j x,j<ps.length->ps[j]?=some x->x.1≠day):vN ps day=none:=by
 unfold vN
 rw [List.find?_eq_none]
 intro x aa
 obtain⟨j,a'⟩:=avu.1 aa
 have:=h j x (qb.1 a').1 a'
 simpa using this
theorem wy{s:po}{ps:List kS}{day:Int}{K:Int->Int->ByteArray->Bool->J->Prop}(aa:bk h3 H s.h.1 s.h.2.1 s.h.2.2 ps)(ay:s.h.2.1<=1000)(hk:∀H',Fr [] H H'->K ((vN ps day).getD (0,0,⟨#[]⟩)).1 ((vN ps day).getD (0,0,⟨#[]⟩)).2.1 ((vN ps day).getD (0,0,⟨#[]⟩)).2.2 (vN ps day).isSome H'):
  aY atf alR ⟨[vL s,.int .i64 day]⟩ H λv H'=>∃d l f b,v=.tuple ⟨[.agg ⟨[.int .i64 d,.int .i64 l,.string f]⟩,.bool b]⟩/\K d l f b H':=by
 apply alS
 intro b H1 aB b1 ao bH b2 aF bF
 have f2:=aB.ag.aw bH.ag
 have f3:=f2.aw bF.ag
 have aH:=aa.len
 have ah:aU aF ⟨b,0,none⟩ (jR s):=(aB.bo.ab bH.ag).ab bF.ag
 have bc:=aB.eq
 have bN:=bH.eq
 have dP:=bF.eq
 have s1:=aB.size
 have s2:=bH.size
 have qt:=bF.size
 refine⟨_,_,_,ah.b5 (by kernel_rfl) rfl,alL (aa.ab f3) ay (bH.bo.ab bF.ag) λi aN az cz ff f4=> ?_⟩
 have jO:=f3.aw f4
 have dY:=ah.ab f4
 have dQ:=bF.bo.ab f4
 by_cases h:i<s.h.2.1
 ·rw [if_pos h]
  obtain⟨x,mW⟩:=eR (l:=ps) (i:=i) (by omega)
  refine ai (λc=>by simp at c;omega) λ_=>⟨_,_,_,dY.b5 (by kernel_rfl) rfl,(aa.ab jO).get rfl mW (decide_eq_true (by omega)) λal bS ak=>⟨_,_,_,D7 ak,T4 (x:=x) dQ rfl λbw dI f5=>⟨_,_,_,dI.dX (by kernel_rfl) (by kernel_rfl) rfl,_,_,_,_,rfl,?_⟩⟩⟩
  have:=hk bw (jO.ab f5 λk hk=>by simp at hk;omega)
  rwa [alP cz mW (ff x mW)]at this
 ·rw [if_neg h]
  refine ai (λ_=>T4 (x:=(0,0,⟨#[]⟩)) dQ rfl λbw dI f5=>⟨_,_,_,dI.dX (by kernel_rfl) (by kernel_rfl) rfl,_,_,_,_,rfl,?_⟩) λc=>by simp at c
  have:=hk bw (jO.ab f5 λk hk=>by simp at hk;omega)
  rwa [alQ λj x a' aa=>cz j x (by omega) aa]at this
theorem D8{n m:Int}{K:Bool->J->Prop}(hk:K (decide (0<=n/\n<=m)) H):aY atf alT ⟨[.int .i64 n,.int .i64 m]⟩ H λv H'=>∃b,v=.bool b/\K b H':=by
 apply alU
 refine ai (λc=>⟨_,rfl,?_⟩) λc=>⟨_,rfl,?_⟩
 ·have aT:0<=n:=by simpa using c
  simpa [aT]using hk
 ·have aT:¬0<=n:=by simpa using c
  simpa [aT]using hk
def fN:ByteArray:=⟨#[102,48]⟩
theorem T5{K:ByteArray->J->Prop}(b4:ho H)(hk:∀H',Fr [] H H'->K fN H'):aY atf alV ⟨[.int .i64 0]⟩ H λv H'=>∃s,v=.string s/\K s H':=by
 apply alW
 exact TA Tryz.itoa rfl ⟨by decide,by decide⟩ b4.Tt λH1 f1=>cb (by kernel_rfl) ⟨fN,by kernel_rfl,hk H1 f1⟩
open Go.Shelf Go.RowKit in
theorem alX{P:Program}{hT:Go.Shelf.Ren}{k:FuncId}{K:Int->Value->J->Prop}(L:Go.Proofs.LaysC.n244 P hT)(lA:hT.f 244=k){v:Int}(hs:s.size<=1000000)(he:Lib.atoiAll s.data.toList=.ok v)
  (ff:∀H',Fr [] H H'->K v .nilIface H'):
  aY P k ⟨[.string s]⟩ H λv H'=>∃n e,v=.tuple ⟨[.int .i64 n,e]⟩/\K n e H':=by
 subst lA
 refine T6 λw hw=> ?_
 subst hw
 refine(Any.internal_strconv_Atoi_all L s (by omega) w).mono ?_
 rintro e w' ⟨rfl,hw⟩
 have ah:Below w.heap.size w w'/\w.drawn<=w'.drawn:=by
  rcases hw with rfl|⟨t,rfl⟩
  ·exact⟨Below.refl _ _,nQ _⟩
  ·exact⟨Lib.bytesWorld_below _ _ _,Nat.le_succ _⟩
 refine⟨_,rfl,ah.1,ah.2,?_⟩
 rw [he]
 exact⟨_,_,rfl,ff _ (Below.Hp ah.1)⟩
theorem T7{K:Int->J->Prop}(b4:ho H)(hk:∀H',Fr [] H H'->K 0 H'):aY atf alY ⟨[.string fN]⟩ H λv H'=>∃n,v=.int .i64 n/\K n H':=by
 apply alZ
 refine LW Tryz.LX rfl ?_
 have bc:Lib.hasPrefix fN.data.toList (⟨#[102]⟩:ByteArray).data.toList=true:=by kernel_rfl
 have bN:Lib.trimPrefix fN.data.toList (⟨#[102]⟩:ByteArray).data.toList=[48]:=by kernel_rfl
 rw [bc,bN]
 apply Tv
 refine alX Tryz.Tw rfl (by decide) (v:=0) (by kernel_rfl) λH1 f1=>⟨_,L3,ai (λc=>by simp at c) λ_=>⟨_,_,rfl,ai (λc=>by cases c) λ_=>⟨_,L3,ai (λc=>by simp at c) λ_=>T5 (b4.ab f1) λao f2=>ai (λc=> ?_) λ_=>ai (λc=>by simp at c) λ_=>⟨_,rfl,hk ao (f1.aw f2)⟩⟩⟩⟩
 simp at c
theorem y4:1-(IntKind.i64.wrap ((0:Int)+1)).toNat<1-(0:Int).toNat:=by
 have e:IntKind.i64.wrap ((0:Int)+1)=1:=by kernel_rfl
 rw [e];decide
theorem al0{day layout:Int}{K:Int->J->Prop}(bh:aU H ⟨p,0,none⟩ [.map (some pr)])(hm:H[pr]?=some (.map ⟨[]⟩ 0))(aD:0<=layout)(h1:layout<=1)(hk:∀H',Fr [] H H'->K layout H'):
  aY atf al1 ⟨[.pointer (some ⟨p,0,none⟩),.int .i64 day,.int .i64 layout]⟩ H λv H'=>∃n,v=.int .i64 n/\K n H':=by
 apply al2
 refine⟨λ_ H'=>H=H',ai (λc=>by simp at c;omega) λ_=>ai (λc=>by simp at c;omega) λ_=>rfl,?_⟩
 rintro bm _ rfl
 have D6:dM bb.dB H pr 0 []:=⟨hm,⟨by simp,by simp,by simp⟩⟩
 have j':=r6 (T:=bb.dB) (mt:=153) (e:=329) Tryz.underlying153 (z:=.agg ⟨[.int .i64 0,.int .i64 0]⟩) (by kernel_rfl) D6 day
 refine⟨_,bh.b5 (by kernel_rfl) rfl,0,0,j',?_⟩
 refine ia (v:=.agg ⟨[.int .i64 0,.int .i64 0]⟩) (by kernel_rfl) (by kernel_rfl) (λv h=>by simp [atq]at h;subst h;rfl) rfl λb ao ah b8 f2=> ?_
 have od:aU ao ⟨b,0,none⟩ [.int .i64 0,.int .i64 0]:=b8
 have al3:atj .i64 (1-0)=1:=by kernel_rfl
 have Tk:atj .i64 (1-1)=0:=by kernel_rfl
 obtain rfl|rfl:layout=0\/layout=1:=by omega
 ·rw [al3]
  refine cb (by kernel_rfl) ⟨0,od.bV (j:=1) (by kernel_rfl) rfl,cb (by kernel_rfl) ⟨0,od.bV (j:=0) (by kernel_rfl) rfl,ai (λc=> ?_) λ_=>⟨_,rfl,hk ao f2⟩⟩⟩
  rw [show atj .i64 (atj .i64 (2*0)+8)=8 from by kernel_rfl]at c
  simp at c
 ·rw [Tk]
  refine cb (by kernel_rfl) ⟨0,od.bV (j:=0) (by kernel_rfl) rfl,cb (by kernel_rfl) ⟨0,od.bV (j:=1) (by kernel_rfl) rfl,ai (λc=> ?_) λ_=>⟨_,rfl,hk ao f2⟩⟩⟩
  rw [show atj .i64 (atj .i64 (2*0)+8)=8 from by kernel_rfl]at c
  simp at c
theorem al4{cM a2:Option Addr}{c1 c2:Nat}{cT ls:List Int}{K:Int->Int->Bool->J->Prop}(aO:bk b' H cM n c1 cT)(aH:bk b' H a2 n c2 ls)(uS:∀l∈ls,0<=l/\l<=1)(ay:n<=1000)
  (bh:aU H ⟨p,0,none⟩ [.map (some pr)]) (hm:H[pr]?=some (.map ⟨[]⟩ 0)) (hk:∀H',Fr [] H H'->K 0 0 false H'):
  aY atf al5 ⟨[.pointer (some ⟨p,0,none⟩),.slice cM n c1,.slice a2 n c2]⟩ H λv H'=>∃d l b,v=.tuple ⟨[.int .i64 d,.int .i64 l,.bool b]⟩/\K d l b H':=by
 apply al6
 have sf:=aO.len
 have oq:=aH.len
 have arL:=aO.cap
 have e:(if(n:Int)<(n:Int)then(n:Int)else(n:Int))=n:=if_neg (by omega)
 simp only [e]
 refine cb (decide_eq_true (by omega)) ⟨λvs H'=>match vs with|[.int _ i]=>∃k:Nat,i=k/\k<=n/\Fr [] H H'|_=>False,λvs _=>match vs with|[.int _ i]=>n-i.toNat|_=>0,⟨0,rfl,by omega,Fr.refl _ _⟩,?_⟩
 rintro bm i H1 ⟨k,rfl,du,f1⟩
 refine ai (λc=> ?_) λc=>⟨_,_,_,rfl,hk H1 f1⟩
 have aT:k<n:=by simpa using c
 obtain⟨y,av⟩:=eR (l:=cT) (i:=k) (by omega)
 obtain⟨z,aC⟩:=eR (l:=ls) (i:=k) (by omega)
 have T8:=uS z (att aC)
 refine(aO.ab f1).get rfl av (decide_eq_true (by simp;omega)) λal bS ak=>⟨y,vK (by kernel_rfl) ak rfl,(aH.ab f1).get rfl aC (decide_eq_true (by omega)) λal bS ak=>⟨z,vK (by kernel_rfl) ak rfl,al0 (bh.ab f1) (f1.nw hm) T8.1 T8.2 λao f2=>(aH.ab (f1.aw f2)).get rfl aC (decide_eq_true (by omega)) λal bS ak=>⟨z,vK (by kernel_rfl) ak rfl,ai (λc=>by simp at c) λ_=> ?_⟩⟩⟩
 rw [b6 (by omega)]
 exact⟨⟨k+1,rfl,by omega,f1.aw f2⟩,cJ aT⟩
structure vO(H:J)(x:Nat)(vs:List Value)(a:Option Addr)(n c:Nat)(ps:List kS)(p pr:Nat):Prop where
 bo:aU H ⟨x,0,none⟩ vs
 au:vs[3]?=some (.slice a n c)
 ca:vs[6]?=some (.bool false)
 IZ:vs[13]?=some (.pointer (some ⟨p,0,none⟩))
 uj:bk h3 H a n c ps
 one:n<=1
 lay:∀y∈ps,0<=y.2.1/\y.2.1<=1
 pf:aU H ⟨p,0,none⟩ [.map (some pr)]
 pm:H[pr]?=some (.map ⟨[]⟩ 0)
theorem vO.ab{ps:List kS}(h:vO H x vs a n c ps p pr)(af:Fr [] H H'):vO H' x vs a n c ps p pr:=
 ⟨h.bo.ab af,h.au,h.ca,h.IZ,h.uj.ab af,h.one,h.lay,h.pf.ab af,af.nw h.pm⟩
theorem AP{y:Int}{H1 ao:J}{K:Option Addr->Nat->Nat->J->Prop}(ay:ds H b (.cells ⟨[.int .i64 y]⟩ 3) H1)(f:Fr [] H1 ao)(hk:∀a n c H',bk b' H' a 1 c [y]->n=1->Fr [] ao H'->K a n c H'):
  cj atf (Builtin.append_ ⟨[132,132]⟩ 132 ⟨[.slice none 0 0,.slice (some ⟨b,0,none⟩) 1 1]⟩) ao λv H'=>∃a n c,v=.slice a n c/\K a n c H':=
 iD (t:=3) (E:=b') (bytes:=8) (by kernel_rfl) (by kernel_rfl) (Own.nil b' 3 0 ao) ((gd b' y ay rfl).ab f) (apG _) (by omega) λa n c H' an af _=>by
  have e:n=1:=an.1
  subst e
  exact hk a 1 c H' an.bL rfl af
theorem T9{ps:List kS}{K:Int->Int->Bool->J->Prop}(h:vO H x vs a n c ps p pr)(hk:∀H',Fr [] H H'->K 0 0 false H'):
  aY atf al7 ⟨[.pointer (some ⟨x,0,none⟩)]⟩ H λv H'=>∃d l b,v=.tuple ⟨[.int .i64 d,.int .i64 l,.bool b]⟩/\K d l b H':=by
 apply al8
 have aH:=h.uj.len
 have h1:=h.one
 refine⟨a,n,c,h.bo.ld (j:=3) (by kernel_rfl) h.au,?_⟩
 refine⟨λvs H'=>match vs with|[.slice cM cW c1,.slice a2 cr c2,.int _ i]=>∃k:Nat,i=k/\k<=n/\k=cW/\k=cr/\(k=0->cM=none/\c1=0/\a2=none/\c2=0)/\bk b' H' cM k c1 ((ps.take k).map (·.1))/\bk b' H' a2 k c2 ((ps.take k).map (·.2.1))/\Fr [] H H'|_=>False,
  λvs _=>match vs with|[_,_,.int _ i]=>n-i.toNat|_=>0,⟨0,rfl,by omega,rfl,rfl,λ_=>⟨rfl,rfl,rfl,rfl⟩,iy,iy,Fr.refl _ _⟩,?_⟩
 rintro bm cM cW c1 a2 cr c2 i H1 ⟨k,rfl,du,rfl,rfl,aD,s1,s2,f1⟩
 refine ai (λc=> ?_) λhP=> ?_
 ·have aT:k<n:=by simpa using c
  obtain rfl:k=0:=by omega
  obtain⟨rfl,rfl,rfl,rfl⟩:=aD rfl
  obtain⟨y,av⟩:=eR (l:=ps) (i:=0) (by omega)
  have yz:ps.take (0+1)=[y]:=by rw [ats,av];rfl
  rw [b6 (by omega)]
  refine(h.uj.ab f1).get rfl av (decide_eq_true (by omega)) λal bS ak=>⟨_,_,_,D7 ak,?_⟩
  refine vM (x:=y) rfl λb ao ah bK f2=> ?_
  have f12:=f1.aw f2
  have jb:∀{H'},Fr [] ao H'->a7 3 H' ⟨b,0,none⟩ (.int .i64 y.1):=λaf=>(bK.ab af).bV (j:=0) (by kernel_rfl) rfl
  have p8:∀{H'},Fr [] ao H'->a7 3 H' ⟨b,1,none⟩ (.int .i64 y.2.1):=λaf=>(bK.ab af).bV (j:=1) (by kernel_rfl) rfl
  have fin:∀{cM a2 c1 c2 H'},bk b' H' cM 1 c1 [y.1]->bk b' H' a2 1 c2 [y.2.1]->Fr [] ao H'->∃k:Nat,(((0+1:Nat):Int))=k/\k<=n/\k=1/\k=1/\(k=0->cM=none/\c1=0/\a2=none/\c2=0)/\bk b' H' cM k c1 ((ps.take k).map (·.1))/\bk b' H' a2 k c2 ((ps.take k).map (·.2.1))/\Fr [] H H':=
   λdN dm af=>⟨0+1,rfl,by omega,rfl,rfl,λh=>by omega,by rw [yz];exact dN,by rw [yz];exact dm,f12.aw af⟩
  refine⟨_,jb (Fr.refl _ _),_,p8 (Fr.refl _ _),⟨λb1 aF bF=>⟨p8 bF.ag,?_,λb2 aN cp=> ?_⟩,λb1 aF bF=>⟨jb bF.ag,λb2 aN cp=> ?_⟩⟩⟩
  ·refine AP bF (Fr.refl _ _) λa4 k5 c4 aN hC iZ f4=>⟨p8 (bF.ag.aw f4),λnx bw e7=>AP e7 (Fr.refl _ _) λiX n6 k6 bY sC nO f6=> ?_⟩
   subst iZ;subst nO
   exact⟨fin ((hC.ab e7.ag).ab f6) sC (((bF.ag.aw f4).aw e7.ag).aw f6),cJ aT⟩
  ·refine AP bF cp.ag λa5 n5 c5 bw yZ je f5=>AP cp f5 λiX n6 k6 bY sC nO f6=> ?_
   subst je;subst nO
   exact⟨fin (yZ.ab f6) sC (((bF.ag.aw cp.ag).aw f5).aw f6),cJ aT⟩
  ·refine AP cp (Fr.refl _ _) λa5 n5 c5 bw yZ je f5=>AP bF (cp.ag.aw f5) λiX n6 k6 bY sC nO f6=> ?_
   subst je;subst nO
   exact⟨fin (yZ.ab f6) sC (((bF.ag.aw cp.ag).aw f5).aw f6),cJ aT⟩
 ·have e:k=n:=by simp at hP;omega
  refine⟨_,(h.bo.ab f1).ld (j:=13) (by kernel_rfl) h.IZ,al4 s1 s2 (λl aH=> ?_) (by omega) (h.pf.ab f1) (f1.nw h.pm) λao f2=>⟨_,_,_,rfl,hk ao (f1.aw f2)⟩⟩
  obtain⟨z,aC,rfl⟩:=List.mem_map.1 aH
  exact h.lay z (auL aC)
theorem T'{s:Addr}{cK:Nat}{Q:List Nat}{st:bg.f'}{m:bg.ei}{K:Bool->J->Prop}(ah:aU H ⟨x,0,none⟩ vs)(h1:vs[1]?=some (.pointer (some s)))(h:bg.hN H s d cK cy a n c Q Sd st m N M)
  (hk:K (st.now cY).isSome H):aY atf al9 ⟨[.pointer (some ⟨x,0,none⟩)]⟩ H λv H'=>∃b,v=.bool b/\K b H':=by
 apply al'
 exact⟨_,ah.ld (j:=1) (by kernel_rfl) h1,bg.yf h ⟨_,rfl,hk⟩⟩
theorem Ua{ps:List kS}{s:Addr}{cK:Nat}{aK:Option Addr}{aQ aT:Nat}{Q:List Nat}{st:bg.f'}{m:bg.ei}{K:Bool->J->Prop}(h:vO H x vs a n c ps p pr)(h1:vs[1]?=some (.pointer (some s)))(hs:bg.hN H s d cK cy aK aQ aT Q Sd st m N M)
  (hk:∀H',Fr [] H H'->K (st.now cY).isNone H'):aY atf ama ⟨[.pointer (some ⟨x,0,none⟩)]⟩ H λv H'=>∃b,v=.bool b/\K b H':=by
 apply amb
 refine T9 h λH1 f1=>T' (h.ab f1).bo h1 (hs.ab f1) ?_
 have:=hk H1 f1
 cases e:st.now cY with
 |none=>
  rw [e]at this
  exact⟨false,(h.ab f1).bo.bV (j:=6) (by kernel_rfl) h.ca,_,rfl,this⟩
 |some z=>
  rw [e]at this
  exact⟨_,rfl,this⟩
open bb (cw e9 dL encS fT gz jM j4)
theorem amc{y:bC}{K:ByteArray->Int->J->Prop}(aa:bk bb.encS H a 1 c [y])(aD:0<=y.1)(h1:y.1<1099511627776)(aI:dp y.2)(hk:∀s H',s.size<=30->Fr [] H H'->K s 0 H'):
  aY atf amd ⟨[.slice a 1 c]⟩ H λv H'=>∃s e,v=.tuple ⟨[.string s,.int .i64 e]⟩/\K s e H':=by
 apply ame
 refine ai (λc=>by simp at c) λ_=> ?_
 refine⟨λvs H'=>match vs with|[.int _ l,.int _ i]=>((i=0/\l= -1)\/i=1)/\Fr [] H H'|_=>False,λvs _=>match vs with|[_,.int _ i]=>1-i.toNat|_=>0,⟨.inl ⟨rfl,rfl⟩,Fr.refl _ _⟩,?_⟩
 rintro bm l i H1 ⟨az,f1⟩
 refine ai (λhP=> ?_) λhP=> ?_
 ·obtain⟨rfl,rfl⟩:i=0/\l= -1:=by
   rcases az with h|h
   ·exact h
   ·subst h;simp at hP
  refine(aa.ab f1).get (k:=0) rfl rfl (by kernel_rfl) λal bS ak=>⟨_,_,bb.gx ak,?_⟩
  refine ia (v:=bb.e5 y) (by kernel_rfl) (by kernel_rfl) (λv h=>by simp [atq]at h;rcases h with rfl|rfl<;>rfl) rfl λb ao ah bK f2=> ?_
  have uk:aU ao ⟨b,0,none⟩ [.int .i64 y.1,.int .i64 y.2]:=bK
  refine⟨_,uk.bV (j:=0) (by kernel_rfl) rfl,ai (λc=>by simp at c;omega) λ_=>⟨_,uk.bV (j:=0) (by kernel_rfl) rfl,ai (λc=>by simp at c;omega) λ_=>⟨_,uk.bV (j:=0) (by kernel_rfl) rfl,⟨.inr (by kernel_rfl),f1.aw f2⟩,?_⟩⟩⟩
  exact y4
 ·have vh:atj .u64 ((1:Nat):Int)=((1:Nat):Int):=by kernel_rfl
  rw [vh]
  refine oT (by omega) λao f2=> ?_
  have fW:=f1.aw f2
  refine⟨λvs H'=>∃s,vs=[.string s]/\s.size<=30/\Fr [] H H',ai (λ_=> ?_) λc=>by simp at c,?_⟩
  ·refine(aa.ab fW).get (k:=0) rfl rfl (by kernel_rfl) λal bS ak=>⟨y.1,?_,(aa.ab fW).get (k:=0) rfl rfl (by kernel_rfl) λad' ea' ES=>⟨y.2,?_,?_⟩⟩
   ·exact vK (by kernel_rfl) ak rfl
   ·exact kt (j:=1) (by kernel_rfl) ES rfl
   rw [show atj .u64 y.1=((y.1.toNat:Nat):Int)from by rw [iY aD (by omega)];omega]
   refine oT (by omega) λaF f3=>⟨kt (j:=1) (by kernel_rfl) (ES.ab f3) rfl,P0 aI λaN f4=> ?_⟩
   have b1:=eQ (cD 1)
   have b2:=eQ (cD y.1.toNat)
   have cX:=eQ (oo y.2)
   have c1:=hi (n:=1) (by omega)
   have c2:=hi (n:=y.1.toNat) (by omega)
   have c3:(oo y.2).length<=10:=hi (CC aI)
   refine cb (decide_eq_true (by omega)) (cb (decide_eq_true (by rw [avN];omega)) ⟨_,rfl,by rw [avN,avN];omega,(fW.aw f3).aw f4⟩)
  ·rintro bm s aF ⟨s',e,hs,f3⟩
   simp only [List.cons.injEq,Value.string.injEq,and_true]at e
   subst e
   exact ai (λ_=>⟨_,_,rfl,hk s aF hs f3⟩) λc=>by simp at c
theorem amf{m:bb.bb}{id:Int}{y:bC}{K:ByteArray->Int->J->Prop}(aa:bk dL H a 1 c [m])(bI:e9 H [m] [(id,[y])])(aD:0<=y.1)(h1:y.1<1099511627776)(aI:dp y.2)(BD:0<=id)(Ub:id<200)(hk:∀s H',s.size<=60->Fr [] H H'->K s 0 H'):
  aY atf amg ⟨[.slice a 1 c]⟩ H λv H'=>∃s e,v=.tuple ⟨[.string s,.int .i64 e]⟩/\K s e H':=by
 apply amh
 obtain⟨_,hm,av⟩:True/\m.1=id/\bk bb.encS H m.2.1 m.2.2.1 m.2.2.2 [y]:=by
  cases bI with|cons h _=>exact⟨trivial,h⟩
 have iE:m.2.2.1=1:=av.len
 intro b H1 aB b1 ao bH
 have bc:=aB.eq
 have bN:=bH.eq
 have hR:=aB.size
 have z2:=bH.size
 have fW:=aB.ag.aw bH.ag
 have j9:hI ao b [b] []:=⟨none,none,0,0,211,bH.ag.nw aB.get,.inl ⟨rfl,rfl⟩,Own.nil _ _ _ _,rfl,by simp [ax]⟩
 have jK:hI ao b1 [b1] []:=⟨none,none,0,0,211,bH.get,.inl ⟨rfl,rfl⟩,Own.nil _ _ _ _,rfl,by simp [ax]⟩
 rw [show atj .u64 ((1:Nat):Int)=((1:Nat):Int)from by kernel_rfl]
 have arM:=eQ (cD 1)
 have arN:=hi (n:=1) (by omega)
 refine oT (by omega) λaF f3=>r4 (j9.ab f3) (by simp only [atc];omega) λaN wM dY f4 g4=> ?_
 have z3:=f3.size
 have z4:=f4.size
 have jO:Fr [] H aN:=(fW.aw f3).ab f4 λk hk=>by simp at hk;omega
 have Ky:([]++bj (⟨(cD 1).toArray⟩:ByteArray)).length<=10:=by rw [as8,c6];omega
 generalize([]++bj (⟨(cD 1).toArray⟩:ByteArray))=xs4 at dY Ky
 refine⟨λvs H'=>match vs with|[.int _ l,.int _ i]=>∃S dn xs ys,hI H' b S xs/\hI H' b1 dn ys/\e2 S dn/\(∀k∈S,H.size<=k)/\(∀k∈dn,H.size<=k)/\Fr [] H H'/\xs.length<=30/\ys.length<=30/\((i=0/\l= -1/\xs.length<=10/\ys=[])\/i=1)|_=>False,
  λvs _=>match vs with|[_,.int _ i]=>1-i.toNat|_=>0,⟨wM,[b1],xs4,[],dY,(jK.ab f3).ag f4 (by simp;omega),?_,?_,?_,jO,by omega,by simp,.inl ⟨rfl,rfl,Ky,rfl⟩⟩,?_⟩
 ·intro k hk aq
  simp at aq
  have:=g4 k hk
  simp at this;omega
 ·intro k hk
  have:=g4 k hk
  simp at this;omega
 ·intro k hk
  simp at hk;omega
 rintro bm l i bw ⟨S,dn,xs,ys,ah,cI,aO,bI,pZ,f5,zB,arO,az⟩
 refine ai (λhP=> ?_) λhP=> ?_
 ·obtain⟨rfl,rfl,zB,rfl⟩:i=0/\l= -1/\xs.length<=10/\ys=[]:=by
   rcases az with h|h
   ·exact h
   ·subst h;simp at hP
  refine(aa.ab f5).get (k:=0) rfl rfl (by kernel_rfl) λal bS ak=>⟨_,_,_,_,j4 ak,?_⟩
  refine ia (v:=jM m) (by kernel_rfl) (by kernel_rfl) (λv h=>by simp [atq]at h;rcases h with rfl|rfl<;>rfl) rfl λb2 bY b8 bK f6=> ?_
  have uk:aU bY ⟨b2,0,none⟩ [.int .i64 m.1,.slice m.2.1 m.2.2.1 m.2.2.2]:=bK
  have h0:=f5.aw f6
  refine⟨_,_,_,uk.bV (j:=1) (by kernel_rfl) rfl,?_⟩
  have Uc:=av.ab h0
  rw [iE]at Uc⊢
  refine amc Uc aD h1 aI λs cC hs f7=>⟨λ_ H'=>cC=H',ai (λc=>by simp at c) λ_=>⟨_,_,_,((uk.ab f7)).bV (j:=1) (by kernel_rfl) rfl,?_⟩,?_⟩
  ·rw [iE]
   refine ai (λc=>by simp at c) λ_=>⟨_,(uk.ab f7).bV (j:=0) (by kernel_rfl) rfl,ai (λc=>by simp at c;omega) λ_=>⟨_,(uk.ab f7).bV (j:=0) (by kernel_rfl) rfl,ai (λc=>by simp at c;omega) λ_=>rfl⟩⟩
  rintro bm _ rfl
  refine⟨_,(uk.ab f7).bV (j:=0) (by kernel_rfl) rfl,_,(uk.ab f7).bV (j:=0) (by kernel_rfl) rfl,?_⟩
  rw [show atj .u64 m.1=((m.1.toNat:Nat):Int)from by rw [iY (by omega) (by omega)];omega,show atj .u64 (s.size:Int)=((s.size:Nat):Int)from iY (by omega) (by omega)]
  have d1:=eQ (cD m.1.toNat)
  have d2:=eQ (cD s.size)
  have d3:=hi (n:=m.1.toNat) (by omega)
  have d4:=hi (n:=s.size) (by omega)
  refine oT (by omega) λed f8=>oT (by omega) λee f9=>cb (decide_eq_true (by omega)) ?_
  have f59:=((f6.aw f7).aw f8).aw f9
  have z59:=f59.size
  have dl:(⟨(cD m.1.toNat).toArray⟩++⟨(cD s.size).toArray⟩:ByteArray).size<=20:=by rw [avN];omega
  generalize(⟨(cD m.1.toNat).toArray⟩++⟨(cD s.size).toArray⟩:ByteArray)=mK at dl⊢
  refine r4 (ah.ab f59) (by omega) λfx D9 pj f10 g10=> ?_
  have Lp:=f10.size
  have Ud:=cI.lt
  refine r4 ((cI.ab f59).ag f10 aO.symm) (by simp only [atc];omega) λlE ami DT f11 g11=> ?_
  have amj:=pj.lt
  refine⟨⟨D9,ami,_,_,pj.ag f11 ?_,DT,?_,?_,?_,((f5.aw f59).ab f10 bI).ab f11 pZ,?_,?_,.inr (by kernel_rfl)⟩,?_⟩
  ·intro k hk aq
   rcases g10 k hk with q|q
   ·exact aO k q aq
   ·have:=Ud k aq;omega
  ·intro k hk aq
   rcases g11 k aq with q|q
   ·rcases g10 k hk with q'|q'
    ·exact aO k q' q
    ·have:=Ud k q;omega
   ·have:=amj k hk;omega
  ·intro k hk
   rcases g10 k hk with q|q
   ·exact bI k q
   ·have:=f5.size;omega
  ·intro k hk
   rcases g11 k hk with q|q
   ·exact pZ k q
   ·have:=f5.size;omega
  ·rw [VH,c6];omega
  ·rw [as8,c6];exact hs
  ·exact y4
 ·refine r5 ah (by omega) λbY f6=>r5 (cI.ag f6 aO.symm) (by omega) λcC f7=> ?_
  have dN:=eQ xs
  have dm:=eQ ys
  exact cb (decide_eq_true (by omega)) ⟨_,_,rfl,hk _ _ (by rw [avN];omega) ((f5.ab f6 bI).ab f7 pZ)⟩
theorem amk{r:bb.fu}{K:ByteArray->Int->J->Prop}(aa:bk fT H a 1 c [r])(aD:0<=r.1)(h1:r.1<1099511627776)(aI:dp r.2.2)(BD:0<=r.2.1)(Ub:r.2.1<200)(hk:∀s H',s.size<=60->Fr [] H H'->K s 0 H'):
  aY atf aml ⟨[.int .i64 0,.slice a 1 c]⟩ H λv H'=>∃s e,v=.tuple ⟨[.string s,.int .i64 e]⟩/\K s e H':=by
 apply amm
 refine⟨λvs H'=>vs=[.bool false]/\Fr [] H H',ai (λ_=> ?_) λc=>by simp at c,?_⟩
 ·apply amn
  refine⟨λvs H'=>match vs with|[.int _ i]=>(i=0\/i=1)/\Fr [] H H'|_=>False,λvs _=>match vs with|[.int _ i]=>1-i.toNat|_=>0,⟨.inl rfl,Fr.refl _ _⟩,?_⟩
  rintro bm i H1 ⟨az,f1⟩
  refine ai (λhP=> ?_) λhP=>⟨_,rfl,rfl,f1⟩
  obtain rfl:i=0:=by
   rcases az with h|h
   ·exact h
   ·subst h;simp at hP
  refine(aa.ab f1).get (k:=0) rfl rfl (by kernel_rfl) λal bS ak=>⟨_,_,_,bb.xi ak,?_⟩
  refine bb.KO (x:=r) rfl λb ao ah bK f2=>ai (λc=>by simp at c) λ_=>⟨⟨.inr (by kernel_rfl),f1.aw f2⟩,?_⟩
  exact y4
 ·rintro bm fj H1 ⟨e,f1⟩
  simp only [List.cons.injEq,Value.bool.injEq,and_true]at e
  subst e
  refine ai (λc=>by cases c) λ_=>ai (λ_=> ?_) λc=>by simp at c
  apply amo
  refine bb.Au (hs:=[]) (ss:=[]) iy .nil bb.ej.nil (aa.ab f1) (by omega) (by omega) (by simp) λa2 cr c2 ao hs an bI a1 f2=>⟨_,_,_,rfl,?_⟩
  have bc:gz [] [r]=[(r.2.1,[(r.1,r.2.2)])]:=rfl
  rw [bc]at bI
  have aH:=bI.len
  have ay:=an.1
  obtain⟨m,rfl⟩:∃m,hs=[m]:=by
   match hs,aH with
   |[m],_=>exact⟨m,rfl⟩
  simp only [asE,atc]at ay
  subst ay
  exact amf an.bL bI aD h1 aI BD Ub λs aF hs f3=>⟨_,_,rfl,hk s aF hs ((f1.aw f2).aw f3)⟩
def L9:dd (Nat×Array Value):=⟨λx=>[.func (.func x.1) ⟨[]⟩ x.2],1,λ_=>rfl,by decide,λ_ v h=>by simp at h;subst h;rfl⟩
def um(H:J)(dr:Nat)(s:Addr)(q:Nat)(F:List Nat):Prop:=∃ky un uo us,aU H ⟨dr,0,none⟩ [.pointer (some s),.int .i64 0,.slice ky un uo]/\Own L9 1 0 H ky un uo us/\un<=q/\dr∉ax ky/\F=dr::ax ky
theorem um.ag{s:Addr}{F S:List Nat}(h:um H dr s q F)(af:Fr S H H')(aO:e2 F S):um H' dr s q F:=by
 obtain⟨ky,un,uo,us,h1,ae,au,a6,rfl⟩:=h
 exact⟨ky,un,uo,us,h1.ag af (aO _ (by simp)),ae.ag af (eG λk hk=>aO k (by simp [hk])),au,a6,rfl⟩
theorem um.lt{s:Addr}{F:List Nat}(h:um H dr s q F):In H F:=by
 obtain⟨ky,un,uo,us,h1,ae,au,a6,rfl⟩:=h
 intro k hk
 rcases o3.1 hk with rfl|hk
 ·exact h1.lt
 ·exact(ae.ge k hk).2
theorem Ue{kf:Nat}{s:Addr}{F:List Nat}{cf:Array Value}{K:J->Prop}(h:um H dr s q F)(a1:q<=100)(hk:∀H' F',um H' dr s (q+1) F'->Grow H F F'->Fr F H H'->K H'):
  aY atf amp ⟨[.pointer (some ⟨dr,0,none⟩),.int .i64 0,.func (.func kf) #[] cf]⟩ H λv H'=>v=.tuple ⟨[]⟩/\K H':=by
 apply amq
 obtain⟨ky,un,uo,us,h1,ae,au,a6,rfl⟩:=h
 refine h1.st (j:=1) (v:=.int .i64 0) (by kernel_rfl) (by kernel_rfl) (lz rfl) (by simp [atq]) λH1 cI f1=>ai (λ_=> ?_) λc=>by simp at c
 have sl:aU H1 ⟨dr,0,none⟩ [.pointer (some s),.int .i64 0,.slice ky un uo]:=by simpa [atq]using cI
 have hR:=f1.size
 refine⟨_,_,_,sl.ld (j:=2) (by kernel_rfl) rfl,λb ao bH=> ?_⟩
 have bN:=bH.eq
 have z2:=bH.size
 refine iD (t:=1) (E:=L9) (bytes:=8) (by kernel_rfl) (by kernel_rfl) ((ae.ag f1 (eG λi az aq=>by simp at aq;rw [aq]at az;exact a6 az)).ab bH.ag) (gd L9 (kf,cf) bH rfl) (apG _) (by omega) λa n c aF an f3 g3=> ?_
 have gH:=ae.ge
 have cF:=h1.lt
 simp only at cF
 refine((sl.ab bH.ag).ag f3 a6).st (j:=2) (v:=.slice a n c) (by kernel_rfl) (by kernel_rfl) (lz rfl) (by simp [atq]) λaN dY f4=>⟨rfl,?_⟩
 have Uf:dr∉ax a:=λaq=>by
  rcases g3 dr aq with q|q
  ·exact a6 q
  ·omega
 refine hk aN (dr::ax a) ⟨a,n,c,_,by simpa [atq]using dY,an.ag f4 (eG λi az aq=>by simp at aq;rw [aq]at az;exact Uf az),by have bc:=an.1;have bN:=ae.1;rw [VH,awj]at bc;omega,Uf,rfl⟩ (λk hk=> ?_) ?_
 ·rcases o3.1 hk with rfl|hk
  ·exact .inl (by simp)
  ·rcases g3 k hk with q|q
   ·exact .inl (by simp [q])
   ·exact .inr (by omega)
 ·exact((f1.trans' bH.ag (T:=dr::ax ky) (λk hk _=>by simp at hk;simp [hk]) (by simp)).trans' f3 (λk hk _=>hk) λk hk _=>by simp [hk]).trans' f4 (λk hk _=>hk) λk hk _=>by simp at hk;simp [hk]
def oG(H:J)(X Y:Nat->Prop)(s d:Addr)(cy:Nat)(Sd:List Nat)(m:bg.ei)(N M q dr:Nat)(st:bg.f'):Prop:=∃cK F,bg.hN H s d cK cy none 0 0 [] Sd st m N M/\um H dr s q F/\e2 (s.block::cK::cy::Sd) F/\(∀k∈F,¬X k)/\¬X s.block/\In H (s.block::cK::cy::Sd)/\(∀k,X k->k<H.size)/\(∀k∈s.block::cK::cy::Sd,¬Y k)/\∀k,Y k->k<H.size
def iP(X:Nat->Prop)(H H':J):Prop:=∃T,Fr T H H'/\∀k∈T,¬X k
theorem iP.bo{X:Nat->Prop}{a:Addr}(h:iP X H H')(ah:aU H a vs)(aa:X a.block):aU H' a vs:=by
 obtain⟨T,h1,ae⟩:=h
 exact ah.ag h1 λaq=>ae _ aq aa
theorem iP.bL{X:Nat->Prop}{α:Type}{E:dd α}{xs:List α}(h:iP X H H')(ah:bk E H a n c xs)(aa:∀k∈ax a,X k):bk E H' a n c xs:=by
 obtain⟨T,h1,ae⟩:=h
 exact ah.ag h1 (eG λk hk aq=>ae _ aq (aa k hk))
theorem oG.ab{X X' Y:Nat->Prop}{s:Addr}{m:bg.ei}{st:bg.f'}(h:oG H X Y s d cy Sd m N M q dr st)(af:Fr [] H H')(gU:∀k,X' k->X k\/(H.size<=k/\k<H'.size)):oG H' X' Y s d cy Sd m N M q dr st:=by
 obtain⟨cK,F,h1,ae,au,a6,bu,ca,dJ,hx,kI⟩:=h
 have aH:=ae.lt
 have aC:=af.size
 exact⟨cK,F,h1.ab af,ae.ag af λk _=>by simp,au,λk hk aa=>(gU k aa).elim (a6 k hk) λq=>by have:=aH k hk;omega,λaa=>(gU _ aa).elim bu λq=>by have:=ca s.block (by simp);omega,ca.le af.size,λk hk=>(gU k hk).elim (λq=>by have:=dJ k q;omega) λq=>q.2,hx,λk hk=>by have:=kI k hk;omega⟩
theorem oG.put{X Y:Nat->Prop}{s:Addr}{m:bg.ei}{st:bg.f'}(h:oG H X Y s d cy Sd m N M q dr st)(af:Fr [b] H H')(aa:X b)(av:Y b):oG H' X Y s d cy Sd m N M q dr st:=by
 obtain⟨cK,F,h1,ae,au,a6,bu,ca,dJ,hx,kI⟩:=h
 have aC:=af.size
 refine⟨cK,F,h1.ag af (λk hk aq=> ?_) (λk hk aq=> ?_),ae.ag af λk hk aq=> ?_,au,a6,bu,ca.le aC,λk hk=>by have:=dJ k hk;omega,hx,λk hk=>by have:=kI k hk;omega⟩
 ·simp at aq;subst aq;exact hx k (by simp at hk⊢;rcases hk with e|e|e<;>simp [e]) av
 ·simp at aq;subst aq;exact hx k (by simp [hk]) av
 ·simp at aq;subst aq;exact a6 k hk aa
theorem L'{u:ByteArray}{X:J->Prop}(h:aU H ⟨b,0,none⟩ [.string u])(k:∀H',aU H' ⟨b,0,none⟩ [.string s]->Fr [b] H H'->X H'):∃H',fb atf 9 H ⟨b,0,none⟩ (.string s) H'/\X H':=
 h.jq (v:=.string s) (by kernel_rfl) (by kernel_rfl) (lz rfl) (by simp [atq]) λH' ah af=>k H' (by simpa [atq]using ah) af
theorem amr{u s:Bool}{X:J->Prop}(h:aU H ⟨b,0,none⟩ [.bool u])(k:∀H',aU H' ⟨b,0,none⟩ [.bool s]->Fr [b] H H'->X H'):∃H',fb atf 4 H ⟨b,0,none⟩ (.bool s) H'/\X H':=
 h.jq (v:=.bool s) (by kernel_rfl) (by kernel_rfl) (lz rfl) (by simp [atq]) λH' ah af=>k H' (by simpa [atq]using ah) af
theorem AQ{H0:J}{b2 cX:Nat}{b:Bool}{X:J->Prop}(f:Fr [] H0 H)(ae:aU H ⟨b2,0,none⟩ [.string ⟨#[]⟩])(au:aU H ⟨cX,0,none⟩ [.bool false])(g2:H0.size<=b2)(g3:H0.size<=cX)(k:∀H',Fr [] H0 H'->X H'):
  ∃H1,fb atf 9 H ⟨b2,0,none⟩ (.string s) H1/\∃H',fb atf 4 H1 ⟨cX,0,none⟩ (.bool b) H'/\X H':=by
 have cH:cX∉[b2]:=λaq=>by
  simp at aq;subst aq
  obtain⟨_,_,bc,dN⟩:=ae
  obtain⟨_,_,bN,dm⟩:=au
  cases bc;cases bN
  rw [dN]at dm;cases dm
 exact L' ae λH1 cI f1=>amr (au.ag f1 cH) λao b8 f2=>k ao ((f.ab f1 λk hk=>by simp at hk;omega).ab f2 λk hk=>by simp at hk;omega)
theorem Ma{X Y:Nat->Prop}{s:Addr}{m:bg.ei}{st st':bg.f'}{name data:ByteArray}{K:J->Prop}(h:oG H X Y s d cy Sd m N M q dr st)(a1:q<=100)(cQ:M+1<=100)(ay:name.size<=1000000)
  (bK:bg.mf name->bg.tE st (bg.oY st.now name data)) (hw:bg.writeS m.size st name data=(st',0)) (hk:∀H',oG H' X Y s d cy Sd m N (M+1) (q+1) dr st'->iP X H H'->K H'):
  aY atf ams ⟨[.pointer (some ⟨dr,0,none⟩),.string name,.string data]⟩ H λv H'=>v=.tuple ⟨[]⟩/\K H':=by
 apply amt
 intro b H1 aB b1 ao bH
 have f2:=aB.ag.aw bH.ag
 have bc:=aB.eq
 have bN:=bH.eq
 have hR:=aB.size
 have z2:=bH.size
 obtain⟨cK,F,h1,ae,au,a6,bu,ca,dJ,hx,kI⟩:=h
 have cn:=ae.lt
 have iR:=ae.ag f2 λk _=>by simp
 obtain⟨ky,un,uo,us,c1,c2,c3,c4,rfl⟩:=id iR
 have j9:∀{H'},Fr [] ao H'->aU H' ⟨b,0,none⟩ [.pointer (some ⟨dr,0,none⟩)]:=λaf=>((aB.bo).ab bH.ag).ab af
 have jK:∀{H'},Fr [] ao H'->aU H' ⟨b1,0,none⟩ [.string name]:=λaf=>(bH.bo).ab af
 have jb:∀{H'},Fr [] ao H'->a7 227 H' ⟨b,0,none⟩ (.pointer (some ⟨dr,0,none⟩)):=λaf=>(j9 af).b5 (by kernel_rfl) rfl
 have p8:∀{H'},Fr [] ao H'->a7 9 H' ⟨b1,0,none⟩ (.string name):=λaf=>(jK af).b5 (by kernel_rfl) rfl
 have uq:∀{H'},Fr [] ao H'->a7 59 H' ⟨dr,0,none⟩ (.pointer (some s)):=λaf=>(c1.ab af).b5 (by kernel_rfl) rfl
 have S2:∀{H'},Fr [] ao H'->bg.hN H' s d cK cy none 0 0 [] Sd st m N M:=λaf=>(h1.ab f2).ab af
 have r:=Fr.refl [] ao
 have rd:∀{H':J} {K:ByteArray->Bool->J->Prop},Fr [] ao H'->K ((st.now name).getD ⟨#[]⟩) (st.now name).isSome H'->aY atf Jm ⟨[.pointer (some s),.string name]⟩ H' λv H'=>∃t b,v=.tuple ⟨[.string t,.bool b]⟩/\K t b H':=λaf hk=>bg.yf (S2 af) hk
 refine⟨_,jb r,⟨0,c1.ld (j:=1) (by kernel_rfl) rfl,ai (λc=>by simp at c) λ_=>⟨λ_ H'=>Fr [] ao H',⟨_,jb r,⟨_,uq r,_,p8 r,⟨?_,?_,?_⟩⟩⟩,?_⟩⟩⟩
 ·refine rd r ⟨λb2 aF bF cX aN cp=> ?_,λb2 aF bF cX aN cp=> ?_⟩
  ·exact AQ (bF.ag.aw cp.ag) (bF.bo.ab cp.ag) cp.bo (by have:=bF.eq;omega) (by have:=bF.size;have:=cp.eq;omega) λH' af=>af
  ·exact AQ (bF.ag.aw cp.ag) cp.bo (bF.bo.ab cp.ag) (by have:=bF.size;have:=cp.eq;omega) (by have:=bF.eq;omega) λH' af=>af
 ·intro b2 aF bF
  have g:=bF.ag
  refine⟨p8 g,uq g,jb g,rd g λcX aN cp=> ?_,λcX aN cp=> ?_⟩
  ·exact AQ (g.aw cp.ag) (bF.bo.ab cp.ag) cp.bo (by have:=bF.eq;omega) (by have:=bF.size;have:=cp.eq;omega) λH' af=>af
  ·have g4:=g.aw cp.ag
   exact⟨p8 g4,uq g4,jb g4,rd g4 (AQ g4 (bF.bo.ab cp.ag) cp.bo (by have:=bF.eq;omega) (by have:=bF.size;have:=cp.eq;omega) λH' af=>af)⟩
 ·intro b2 aF bF
  have g:=bF.ag
  refine⟨p8 g,uq g,jb g,rd g λcX aN cp=> ?_,λcX aN cp=> ?_⟩
  ·exact AQ (g.aw cp.ag) cp.bo (bF.bo.ab cp.ag) (by have:=bF.size;have:=cp.eq;omega) (by have:=bF.eq;omega) λH' af=>af
  ·have g4:=g.aw cp.ag
   exact⟨p8 g4,uq g4,jb g4,rd g4 (AQ g4 cp.bo (bF.bo.ab cp.ag) (by have:=bF.size;have:=cp.eq;omega) (by have:=bF.eq;omega) λH' af=>af)⟩
 rintro bm a aK aF f3
 refine⟨_,jb f3,_,jb f3,⟨_,uq f3,_,p8 f3,bg.PT (S2 f3) cQ ay bK λfA aN sI eo f4=> ?_⟩⟩
 rw [hw]at eo⊢
 have z3:=f3.size
 have z4:=f4.size
 have i5:s.block<H.size:=ca _ (by simp)
 have Mb:s.block∉dr::ax ky:=au _ (by simp)
 have Mc:um aN dr s q (dr::ax ky):=(iR.ag f3 λk _=>by simp).ag f4 λk hk aq=>by simp at aq;subst aq;exact Mb hk
 have sq:e2 (s.block::fA::cy::Sd) (dr::ax ky):=λk hk aq=>by
  have:=cn k aq
  simp only [o3]at hk
  rcases hk with e|e|e|e
  ·exact au k (by simp [e]) aq
  ·rcases sI with q|q
   ·exact au k (by simp [e,q]) aq
   ·omega
  ·exact au k (by simp [e]) aq
  ·exact au k (by simp [e]) aq
 refine⟨((j9 f3).ag f4 (by simp;omega)).b5 (by kernel_rfl) rfl,Ue Mc a1 λbw F' Md g5 f5=>⟨rfl,?_⟩⟩
 have iC:In aN (s.block::fA::cy::Sd):=λk hk=>by
  simp only [o3]at hk
  rcases hk with e|e|e|e
  ·omega
  ·rw [e];exact eo.now.lt
  ·have:=ca k (by simp [e]);omega
  ·have:=ca k (by simp [e]);omega
 refine hk bw ⟨fA,F',eo.ag f5 (λk hk aq=>sq k (by simp only [o3,aty,or_false]at hk⊢;rcases hk with e|e|e<;>simp [e]) aq) (λk hk aq=>sq k (by simp [hk]) aq),Md,λk hk aq=> ?_,λk hk aa=> ?_,bu,iC.le f5.size,λk hk=>by have:=dJ k hk;have:=f5.size;omega,λk hk av=> ?_,λk hk=>by have:=kI k hk;have:=f5.size;omega⟩ ⟨s.block::(dr::ax ky),?_,λk hk=> ?_⟩
 ·rcases g5 k aq with q|q
  ·exact sq k hk q
  ·have:=iC k hk;omega
 ·rcases g5 k hk with q|q
  ·exact a6 k q aa
  ·have:=dJ k aa;omega
 ·simp only [o3]at hk
  have:=kI k av
  rcases hk with e|e|e|e
  ·exact hx k (by simp [e]) av
  ·rcases sI with q|q
   ·exact hx k (by simp [e,q]) av
   ·omega
  ·exact hx k (by simp [e]) av
  ·exact hx k (by simp [e]) av
 ·exact((f2.aw f3).trans' f4 (T:=s.block::(dr::ax ky)) (by simp) λk hk _=>by simp at hk;simp [hk]).trans' f5 (λk hk _=>hk) λk hk _=>MY _ hk
 ·rcases o3.1 hk with rfl|hk
  ·exact bu
  ·exact a6 k hk
theorem amu{X Y:Nat->Prop}{s:Addr}{m:bg.ei}{st st':bg.f'}{name:ByteArray}{K:J->Prop}(h:oG H X Y s d cy Sd m N M q dr st)(a1:q<=100)(cQ:M+1<=100)(ay:name.size<=1000000)
  (az:(st.now name).isSome=true) (bK:bg.tE st (bg.tz st.now name)) (hw:bg.deleteS m.size st name=(st',0)) (hk:∀H',oG H' X Y s d cy Sd m N (M+1) (q+1) dr st'->iP X H H'->K H'):
  aY atf amv ⟨[.pointer (some ⟨dr,0,none⟩),.string name]⟩ H λv H'=>v=.tuple ⟨[]⟩/\K H':=by
 apply amw
 intro b H1 aB b1 ao bH
 have f2:=aB.ag.aw bH.ag
 have bc:=aB.eq
 have bN:=bH.eq
 have hR:=aB.size
 have z2:=bH.size
 obtain⟨cK,F,h1,ae,au,a6,bu,ca,dJ,hx,kI⟩:=h
 have cn:=ae.lt
 have iR:=ae.ag f2 λk _=>by simp
 obtain⟨ky,un,uo,us,c1,c2,c3,c4,rfl⟩:=id iR
 have j9:∀{H'},Fr [] ao H'->aU H' ⟨b,0,none⟩ [.pointer (some ⟨dr,0,none⟩)]:=λaf=>((aB.bo).ab bH.ag).ab af
 have jb:∀{H'},Fr [] ao H'->a7 227 H' ⟨b,0,none⟩ (.pointer (some ⟨dr,0,none⟩)):=λaf=>(j9 af).b5 (by kernel_rfl) rfl
 have p8:∀{H'},Fr [] ao H'->a7 9 H' ⟨b1,0,none⟩ (.string name):=λaf=>((bH.bo).ab af).b5 (by kernel_rfl) rfl
 have uq:∀{H'},Fr [] ao H'->a7 59 H' ⟨dr,0,none⟩ (.pointer (some s)):=λaf=>(c1.ab af).b5 (by kernel_rfl) rfl
 have S2:∀{H'},Fr [] ao H'->bg.hN H' s d cK cy none 0 0 [] Sd st m N M:=λaf=>(h1.ab f2).ab af
 have r:=Fr.refl [] ao
 have rd:∀{H':J} {K:ByteArray->Bool->J->Prop},Fr [] ao H'->K ((st.now name).getD ⟨#[]⟩) (st.now name).isSome H'->aY atf Jm ⟨[.pointer (some s),.string name]⟩ H' λv H'=>∃t b,v=.tuple ⟨[.string t,.bool b]⟩/\K t b H':=λaf hk=>bg.yf (S2 af) hk
 have fin:∀{aF:J} (b2:Nat),Fr [] ao aF->∃a,a7 227 aF ⟨b,0,none⟩ (.pointer a)/\eO a λa=>∃n,a7 32 aF (a.add 1) (.int .i64 n)/\aJ (n !=0) False (aJ (!(st.now name).isSome) False (∃a,a7 227 aF ⟨b,0,none⟩ (.pointer a)/\∃Hq,a7 227 aF ⟨b,0,none⟩ (.pointer Hq)/\eO Hq λym=>∃Ct,a7 59 aF ym (.pointer Ct)/\∃s,a7 9 aF ⟨b1,0,none⟩ (.string s)/\ew 204 [.pointer Ct,.string s] aF λn H'=>a7 227 H' ⟨b,0,none⟩ (.pointer a)/\gM 107 [.pointer a,.int .i64 n,.func (Fn.func 205) ⟨[]⟩ ⟨[.pointer (some ⟨b,0,none⟩),.pointer (some ⟨b1,0,none⟩),.pointer (some ⟨b2,0,none⟩)]⟩] H' λH'=>(avR ⟨[]⟩:Value)=.tuple ⟨[]⟩/\K H')):=by
  intro aF b2 f3
  refine⟨_,jb f3,⟨0,(c1.ab f3).ld (j:=1) (by kernel_rfl) rfl,ai (λc=>by simp at c) λ_=>ai (λc=>by rw [az]at c;cases c) λ_=>⟨_,jb f3,_,jb f3,⟨_,uq f3,_,p8 f3,bg.abr (S2 f3) cQ ay bK λfA aN sI eo f4=> ?_⟩⟩⟩⟩
  rw [hw]at eo⊢
  have z3:=f3.size
  have z4:=f4.size
  have i5:s.block<H.size:=ca _ (by simp)
  have Mb:s.block∉dr::ax ky:=au _ (by simp)
  have Mc:um aN dr s q (dr::ax ky):=(iR.ag f3 λk _=>by simp).ag f4 λk hk aq=>by simp at aq;subst aq;exact Mb hk
  have sq:e2 (s.block::fA::cy::Sd) (dr::ax ky):=λk hk aq=>by
   have:=cn k aq
   simp only [o3]at hk
   rcases hk with e|e|e|e
   ·exact au k (by simp [e]) aq
   ·rcases sI with q|q
    ·exact au k (by simp [e,q]) aq
    ·omega
   ·exact au k (by simp [e]) aq
   ·exact au k (by simp [e]) aq
  refine⟨((j9 f3).ag f4 (by simp;omega)).b5 (by kernel_rfl) rfl,Ue Mc a1 λbw F' Md g5 f5=>⟨rfl,?_⟩⟩
  have iC:In aN (s.block::fA::cy::Sd):=λk hk=>by
   simp only [o3]at hk
   rcases hk with e|e|e|e
   ·omega
   ·rw [e];exact eo.now.lt
   ·have:=ca k (by simp [e]);omega
   ·have:=ca k (by simp [e]);omega
  refine hk bw ⟨fA,F',eo.ag f5 (λk hk aq=>sq k (by simp only [o3,aty,or_false]at hk⊢;rcases hk with e|e|e<;>simp [e]) aq) (λk hk aq=>sq k (by simp [hk]) aq),Md,λk hk aq=> ?_,λk hk aa=> ?_,bu,iC.le f5.size,λk hk=>by have:=dJ k hk;have:=f5.size;omega,λk hk av=> ?_,λk hk=>by have:=kI k hk;have:=f5.size;omega⟩ ⟨s.block::(dr::ax ky),?_,λk hk=> ?_⟩
  ·rcases g5 k aq with q|q
   ·exact sq k hk q
   ·have:=iC k hk;omega
  ·rcases g5 k hk with q|q
   ·exact a6 k q aa
   ·have:=dJ k aa;omega
  ·simp only [o3]at hk
   have:=kI k av
   rcases hk with e|e|e|e
   ·exact hx k (by simp [e]) av
   ·rcases sI with q|q
    ·exact hx k (by simp [e,q]) av
    ·omega
   ·exact hx k (by simp [e]) av
   ·exact hx k (by simp [e]) av
  ·exact((f2.aw f3).trans' f4 (T:=s.block::(dr::ax ky)) (by simp) λk hk _=>by simp at hk;simp [hk]).trans' f5 (λk hk _=>hk) λk hk _=>MY _ hk
  ·rcases o3.1 hk with rfl|hk
   ·exact bu
   ·exact a6 k hk
 refine⟨_,jb r,⟨_,uq r,_,p8 r,rd r λb2 aF bF=> ?_,λb2 aF bF=> ?_⟩⟩
 ·exact L' bF.bo λaN dY f4=>fin b2 (bF.ag.ab f4 λk hk=>by simp at hk;have:=bF.eq;omega)
 ·have g:=bF.ag
  exact⟨p8 g,uq g,jb g,rd g (L' bF.bo λaN dY f4=>fin b2 (bF.ag.ab f4 λk hk=>by simp at hk;have:=bF.eq;omega))⟩
def fD:kS:=(0,0,fN)
theorem Hr:vN [fD] 0=some fD:=rfl
theorem amx{s:po}{K:Bool->J->Prop}(aa:bk h3 H s.h.1 s.h.2.1 s.h.2.2 [fD])(ay:s.next=1)(bh:s.past=0)(b4:ho H)(hk:∀H',Fr [] H H'->K true H'):
  aY atf amy ⟨[vL s]⟩ H λv H'=>∃b,v=.bool b/\K b H':=by
 apply amz
 intro b H1 aB b1 ao bH
 have f2:=aB.ag.aw bH.ag
 have bc:=aB.eq
 have bN:=bH.eq
 have hR:=aB.size
 have z2:=bH.size
 have aH:=aa.len
 have ah:aU ao ⟨b,0,none⟩ (jR s):=aB.bo.ab bH.ag
 have hm:dM bg.ea ao b1 0 []:=dM.new bg.ea bH
 have Aa:b∉[b1]:=by simp;omega
 simp only [asE,atc]at aH
 refine⟨_,_,_,ah.b5 (by kernel_rfl) rfl,λvs H'=>match vs with|[.int _ l,.int _ i]=>(i=0/\l= -1/\Fr [] ao H')\/(i=1/\Fr [b1] ao H')|_=>False,λvs _=>match vs with|[_,.int _ i]=>1-i.toNat|_=>0,.inl ⟨rfl,rfl,Fr.refl _ _⟩,?_⟩
 rintro bm l i aF eI
 refine ai (λc=> ?_) λc=> ?_
 ·obtain⟨rfl,rfl,f3⟩:i=0/\l= -1/\Fr [] ao aF:=by
   rcases eI with h|h
   ·exact h
   ·obtain⟨rfl,_⟩:=h;simp at c;omega
  have cN:=(aa.ab f2).ab f3
  refine⟨λ_ H'=>Fr [b1] ao H',cN.get (k:=0) rfl rfl (decide_eq_true (by omega)) λal bS ak=>⟨_,_,_,D7 ak,?_⟩,?_⟩
  ·refine vM (x:=fD) rfl λb2 aN b8 bK f4=> ?_
   have g4:=f3.aw f4
   refine⟨fN,bK.bV (j:=2) (by kernel_rfl) rfl,T7 ((b4.ab f2).ab g4) λbw f5=> ?_⟩
   have g5:=g4.aw f5
   have lo:=bK.ab f5
   have dI:=ah.ab g5
   have la:=hm.ab bg.ea g5
   have j':=r6 (T:=bg.ea) (mt:=250) (e:=4) awk (z:=.bool false) (by kernel_rfl) la fN
   refine⟨λ_ H'=>bw=H',⟨0,lo.bV (j:=0) (by kernel_rfl) rfl,ai (λc=>by simp at c) λ_=>⟨0,lo.bV (j:=0) (by kernel_rfl) rfl,ai (λc=>by simp at c) λ_=>⟨0,lo.bV (j:=1) (by kernel_rfl) rfl,D8 (ai (λc=>by simp at c) λ_=>ai (λc=>by simp at c) λ_=>⟨1,(by rw [<-ay];exact dI.bV (j:=1) (by kernel_rfl) rfl),ai (λc=>by simp at c) λ_=>⟨fN,lo.bV (j:=2) (by kernel_rfl) rfl,false,j',ai (λc=>by cases c) λ_=>rfl⟩⟩)⟩⟩⟩,?_⟩
   rintro bm _ rfl
   refine⟨fN,lo.bV (j:=2) (by kernel_rfl) rfl,0,lo.bV (j:=0) (by kernel_rfl) rfl,?_⟩
   exact uN (T:=bg.ea) (mt:=250) (e:=4) awk la fN λbY Av f6=>g5.trans' f6 (by simp) λk hk _=>hk
  ·rintro bm n aN f4
   exact⟨.inr ⟨by kernel_rfl,f4⟩,y4⟩
 ·have f3:Fr [b1] ao aF:=by
   rcases eI with h|h
   ·exact h.2.2.mono (by simp)
   ·exact h.2
  have z3:=f3.size
  have dQ:=ah.ag f3 Aa
  have iz:Fr [] H aF:=f2.ab f3 λk hk=>by simp at hk;omega
  refine⟨_,_,_,_,_,_,_,_,_,dQ.dX (by kernel_rfl) (by kernel_rfl) rfl,0,dQ.bV (j:=4) (by kernel_rfl) rfl,wy (s:=s) (aa.ab iz) (by omega) λaN f4=> ?_⟩
  rw [Hr]
  refine vM (x:=fD) rfl λnx bw dI lo f5=> ?_
  have dI:=(dQ.ab f4).ab f5
  have jQ:=(iz.aw f4).aw f5
  refine⟨λvs H'=>vs=[.bool true]/\bw=H',⟨0,dI.bV (j:=4) (by kernel_rfl) rfl,ai (λ_=>⟨0,dI.bV (j:=5) (by kernel_rfl) rfl,ai (λ_=>⟨0,dI.bV (j:=6) (by kernel_rfl) rfl,rfl,rfl⟩) λc=>by simp at c⟩) λc=>by simp at c⟩,?_⟩
  rintro bm ua _ ⟨e,rfl⟩
  simp only [List.cons.injEq,Value.bool.injEq,and_true]at e
  subst e
  refine⟨λvs H'=>vs=[.bool true]/\bw=H',⟨false,dI.bV (j:=3) (by kernel_rfl) rfl,ai (λc=>by cases c) λ_=>⟨rfl,rfl⟩⟩,?_⟩
  rintro bm ua _ ⟨e,rfl⟩
  simp only [List.cons.injEq,Value.bool.injEq,and_true]at e
  subst e
  refine ai (λ_=>⟨1,(by rw [<-ay];exact dI.bV (j:=1) (by kernel_rfl) rfl),D8 (ai (λ_=>⟨0,(by rw [<-bh];exact dI.bV (j:=2) (by kernel_rfl) rfl),D8 ⟨_,rfl,?_⟩⟩) λc=>by simp at c)⟩) λc=>by cases c
  have:decide ((0:Int)<=0/\(0:Int)<=1099511627776)=true:=by decide
  rw [this]
  exact hk bw jQ
theorem amA(h:n<128):(cD n).length<=1:=CK 0 n (by omega)
theorem Hs{cX:Nat}{xs:List Int}{S:List Nat}{dj:List UInt8}{K:J->Prop}(aa:bk b' H a n c xs)(lk:∀x∈xs,0<=x/\x<128)(ah:hI H cX S dj)(aO:∀k∈ax a,k<H.size/\k∉S)(aH:dj.length<=1000)(ay:n<=10)
  (hk:∀H' iJ D',hI H' cX iJ D'->D'.length<=dj.length+n->Fr S H H'->Grow H S iJ->K H'):
  dO atf (.func (Fn.func 298) ⟨[]⟩ ⟨[.pointer (some ⟨cX,0,none⟩)]⟩) [.slice a n c] H λv H'=>v=.tuple ⟨[]⟩/\K H':=by
 refine⟨298, #[],_,rfl,by kernel_rfl,?_⟩
 apply amB
 have jr:=aa.len
 refine⟨λvs H'=>match vs with|[.int _ i]=>∃(k:Nat) (iJ:List Nat) (D':List UInt8),i=k/\k<=n/\hI H' cX iJ D'/\D'.length<=dj.length+k/\Fr S H H'/\Grow H S iJ|_=>False,λvs _=>match vs with|[.int _ i]=>n-i.toNat|_=>0,⟨0,S,dj,rfl,by omega,ah,by omega,Fr.refl _ _,Grow.refl _ _⟩,?_⟩
 rintro bm i H1 ⟨k,dn,amC,rfl,du,cI,k1,f1,g1⟩
 refine ai (λc=> ?_) λc=> ?_
 ·have aT:k<n:=by simpa using c
  obtain⟨y,av⟩:=eR (l:=xs) (i:=k) (by omega)
  have wU:=lk y (att av)
  have hR:=f1.size
  refine(aa.ag f1 (eG λq a1=>(aO q a1).2)).get rfl av (decide_eq_true (by omega)) λal bS ak=>⟨y,vK (by kernel_rfl) ak rfl,?_⟩
  rw [show atj .u64 y=((y.toNat:Nat):Int)from by rw [iY (by omega) (by omega)];omega]
  have d1:=eQ (cD y.toNat)
  have d2:=amA (n:=y.toNat) (by omega)
  refine oT (by omega) λao f2=>r4 (cI.ab f2) (by omega) λaF lb dQ f3 g3=> ?_
  rw [b6 (by omega)]
  have z2:=f2.size
  refine⟨⟨k+1,lb,_,rfl,by omega,dQ,by rw [VH,c6];omega,(f1.trans' f2 (λq a1 _=>a1) (by simp)).trans' f3 (λq a1 _=>a1) λq a1 cF=> ?_,λq a1=> ?_⟩,cJ aT⟩
  ·rcases g1 q a1 with h|h
   ·exact h
   ·omega
  ·rcases g3 q a1 with h|h
   ·exact g1 q h
   ·exact .inr (by omega)
 ·have e:k=n:=by simp at c;omega
  subst e
  exact⟨rfl,hk H1 dn amC cI k1 f1 g1⟩
theorem amD{s:po}{K:ByteArray->Int->J->Prop}(aa:bk h3 H s.h.1 s.h.2.1 s.h.2.2 [fD])(ay:s.next=1)(bh:s.past=0)(b4:ho H)(dJ:7<=H.size)(hk:∀t H',t.size<=64->Fr [] H H'->K t 0 H'):
  aY atf amE ⟨[vL s]⟩ H λv H'=>∃t e,v=.tuple ⟨[.string t,.int .i64 e]⟩/\K t e H':=by
 apply amF
 intro b H1 aB
 have ah:aU H1 ⟨b,0,none⟩ (jR s):=aB.bo
 have aH:=aa.len
 have bc:=aB.eq
 have hR:=aB.size
 simp only [asE,atc]at aH
 have Ix:∀k∈ax s.h.1,k<H.size:=bb.As aa (by simp)
 refine⟨_,_,_,_,_,_,_,_,_,ah.dX (by kernel_rfl) (by kernel_rfl) rfl,amx (aa.ab aB.ag) ay bh (b4.ab aB.ag) λao f2=>ai (λc=>by cases c) λ_=> ?_⟩
 intro cX aF bF
 have g3:=(aB.ag.aw f2).aw bF.ag
 have dP:=bF.eq
 have z3:=bF.size
 have z2:=f2.size
 have dQ:=(ah.ab f2).ab bF.ag
 have y5:hI aF cX [cX] []:=l4.new bF
 refine⟨_,_,_,dQ.b5 (by kernel_rfl) rfl,λfz aN cp=> ?_⟩
 have iZ:=cp.eq
 have z4:=cp.size
 rw [aH]at cp
 refine Hs (gd b' 1 cp rfl) (by simp) (y5.ab cp.ag) (λk hk=>by simp [ax]at hk;simp;omega) (by simp) (by omega) λbw lM bs5 lo IP f5 g5=> ?_
 have f35:Fr [cX] aF bw:=cp.ag.trans' f5 (by simp) λk hk _=>hk
 have Ea:∀k∈lM,cX<=k:=λk hk=>by
  rcases g5 k hk with q|q
  ·simp at q;omega
  ·omega
 have dI:=dQ.ag f35 (by simp;omega)
 have e':bk h3 bw s.h.1 s.h.2.1 s.h.2.2 [fD]:=(aa.ab g3).ag f35 (eG λk hk aq=>by simp at aq;have:=Ix k hk;have:=aB.ag.size;omega)
 refine⟨_,_,_,dI.b5 (by kernel_rfl) rfl,?_⟩
 have z5:=f5.size
 refine⟨λvs H'=>match vs with|[.int _ i]=>∃S dj,hI H' cX S dj/\(∀k∈S,cX<=k)/\Fr lM bw H'/\dj.length<=4/\((i=0/\dj.length<=1/\S=lM)\/i=1)|_=>False,λvs _=>match vs with|[.int _ i]=>1-i.toNat|_=>0,⟨lM,bs5,lo,Ea,Fr.refl _ _,by simp at IP;omega,.inl ⟨rfl,by simpa using IP,rfl⟩⟩,?_⟩
 rintro bm i bY ⟨S,dj,sP,bI,f6,IN,az⟩
 have xt:=f6.size
 have gj:=dI.ag f6 λaq=>by have:=Ea _ aq;simp only at this;omega
 have hb:=e'.ag f6 (eG λk hk aq=>by have:=Ix k hk;have:=Ea k aq;have:=aB.ag.size;omega)
 have f36:Fr (cX::lM) aF bY:=f35.trans' f6 (λk hk _=>by simp at hk;simp [hk]) λk hk _=>by simp [hk]
 have yj:ho bY:=by
  have h1:=b4.ab g3
  refine h1.ag f36 λk hk=> ?_
  rcases o3.1 hk with rfl|hk
  ·omega
  ·have:=Ea k hk;omega
 rw [aH]at hb
 refine ai (λc=> ?_) λc=> ?_
 ·obtain⟨rfl,IN,rfl⟩:i=0/\dj.length<=1/\S=lM:=by
   rcases az with h|h
   ·exact h
   ·subst h;rw [aH]at c;simp at c
  rw [aH]
  refine hb.get (k:=0) rfl rfl (by kernel_rfl) λal bS ak=>⟨_,_,_,D7 ak,?_⟩
  refine vM (x:=fD) rfl λph cC ji sO f7=>⟨0,sO.bV (j:=0) (by kernel_rfl) rfl,0,sO.bV (j:=1) (by kernel_rfl) rfl,fN,sO.bV (j:=2) (by kernel_rfl) rfl,T7 (yj.ab f7) λed f8=>⟨(sO.ab f8).bV (j:=1) (by kernel_rfl) rfl,(sO.ab f8).bV (j:=0) (by kernel_rfl) rfl,λks ee fF=> ?_⟩⟩
  have f69:=(f7.aw f8).aw fF.ag
  have Me:=sP.lt
  have arP:=(f7.aw f8).size
  have yX:=fF.eq
  have ID:bk b' ee (some ⟨ks,0,none⟩) 3 3 [0,0,0]:=⟨rfl,nQ _,.inr ⟨ks,0,rfl,λi x aa j v aI=>by
   have ak:hM ee ⟨ks,0+i*1+j,none⟩=(#[.int .i64 0,.int .i64 0,.int .i64 0]:Array Value)[0+i*1+j]?:=re fF.get _
   refine ak.trans ?_
   match i,aa with
   |0,aa=>simp at aa;subst aa;match j,aI with|0,aI=>simpa [b']using aI|j+1,aI=>simp [b']at aI
   |1,aa=>simp at aa;subst aa;match j,aI with|0,aI=>simpa [b']using aI|j+1,aI=>simp [b']at aI
   |2,aa=>simp at aa;subst aa;match j,aI with|0,aI=>simpa [b']using aI|j+1,aI=>simp [b']at aI
   |i+3,aa=>simp at aa⟩⟩
  refine Hs ID (by simp) (sP.ab f69) (λk hk=> ?_) (by omega) (by omega) λfx D9 Ug Mf hl10 f10 g10=>⟨⟨D9,Ug,Mf,λk hk=> ?_,(f6.trans' f69 (λk hk _=>hk) (by simp)).trans' f10 (λk hk _=>hk) λk hk _=>hk,by omega,.inr (by kernel_rfl)⟩,y4⟩
  ·simp [ax]at hk
   subst hk
   exact⟨by have:=fF.size;omega,λaq=>by have:=Me k aq;omega⟩
  ·rcases g10 k hk with q|q
   ·exact bI k q
   ·have arQ:=f69.size;omega
 ·refine⟨1,(by rw [<-ay];exact gj.bV (j:=1) (by kernel_rfl) rfl),0,(by rw [<-bh];exact gj.bV (j:=2) (by kernel_rfl) rfl),λph cC gy=> ?_⟩
  have vD:=gy.eq
  have Me:=sP.lt
  have jX:bk b' cC (some ⟨ph,0,none⟩) 2 2 [1,0]:=⟨rfl,nQ _,.inr ⟨ph,0,rfl,λi x aa j v aI=>by
   have ak:hM cC ⟨ph,0+i*1+j,none⟩=(#[.int .i64 1,.int .i64 0]:Array Value)[0+i*1+j]?:=re gy.get _
   refine ak.trans ?_
   match i,aa with
   |0,aa=>simp at aa;subst aa;match j,aI with|0,aI=>simpa [b']using aI|j+1,aI=>simp [b']at aI
   |1,aa=>simp at aa;subst aa;match j,aI with|0,aI=>simpa [b']using aI|j+1,aI=>simp [b']at aI
   |i+2,aa=>simp at aa⟩⟩
  refine Hs jX (by simp) (sP.ab gy.ag) (λk hk=> ?_) (by omega) (by omega) λed J6 bs8 hB8 AM f8 g8=> ?_
  ·simp [ax]at hk
   subst hk
   exact⟨by have:=gy.size;omega,λaq=>by have:=Me k aq;omega⟩
  have Uh:∀k∈J6,cX<=k:=λk hk=>by
   rcases g8 k hk with q|q
   ·exact bI k q
   ·have:=gy.size;omega
  have oa:=(gj.ab gy.ag).ag f8 λaq=>by have:=bI _ aq;simp only at this;omega
  refine⟨false,oa.bV (j:=3) (by kernel_rfl) rfl,ai (λc=>by cases c) λ_=>λks ee fF=> ?_⟩
  have yX:=fF.eq
  have amG:=hB8.lt
  refine Hs (gd b' 0 fF rfl) (by simp) (hB8.ab fF.ag) (λk hk=> ?_) (by omega) (by omega) λfx D9 Ug Mf hl10 f10 g10=> ?_
  ·simp [ax]at hk
   subst hk
   exact⟨by have:=fF.size;omega,λaq=>by have:=amG k aq;omega⟩
  refine r5 Mf (by omega) λlE f11=>⟨_,_,rfl,hk _ lE (by rw [eQ];omega) ?_⟩
  have Lx:=f8.size
  have vz:=gy.size
  have z9:=fF.size
  have Lp:=f10.size
  have amH:∀k∈D9,cX<=k:=λk hk=>by
   rcases g10 k hk with q|q
   ·exact Uh k q
   ·omega
  have up:∀{S H' cG},Fr [] H H'->Fr S H' cG->(∀k∈S,cX<=k)->Fr [] H cG:=λh1 ae au=>h1.ab ae λk hk=>by have:=au k hk;have:=aB.ag.size;omega
  have sC:Fr [] H bY:=up g3 f36 λk hk=>by rcases o3.1 hk with rfl|hk;exact nQ _;exact Ea k hk
  exact up (up ((up (sC.aw gy.ag) f8 bI).aw fF.ag) f10 Uh) f11 amH
def oH:po:=⟨(none,0,0),0,0⟩
theorem y6{s:po}{X:J->Prop}(h:aU H ⟨b,0,none⟩ vs)(aC:vs.length=7)(k:∀H',aU H' ⟨b,0,none⟩ (jR s)->Fr [b] H H'->X H'):∃H',fb atf 68 H ⟨b,0,none⟩ (vL s) H'/\X H':=
 h.jq (v:=vL s) (by kernel_rfl) (by kernel_rfl) (λv h=>by simp [atq]at h;rcases h with rfl|rfl|rfl|rfl|rfl<;>rfl) (by simp [atq,aC]) λH' ah af=>k H' (by
  have e:vs.drop 7=[]:=avr (by omega)
  simpa [atq,e]using ah) af
theorem Mg{s:po}{h':dH}{X:J->Prop}(h:aU H ⟨b,0,none⟩ (jR s))(k:∀H',aU H' ⟨b,0,none⟩ (jR {s with h:=h'})->Fr [b] H H'->X H'):∃H',fb atf 66 H ⟨b,0,none⟩ (.slice h'.1 h'.2.1 h'.2.2) H'/\X H':=
 h.jq (v:=.slice h'.1 h'.2.1 h'.2.2) (by kernel_rfl) (by kernel_rfl) (lz rfl) (by simp [atq]) λH' ah af=>k H' (by simpa [atq]using ah) af
theorem Ui{j:Nat}{s s':po}{v:Int}{X:J->Prop}(h:aU H ⟨b,0,none⟩ (jR s))(a':j<7)(e:jR s'=(jR s).take j++.int .i64 v::(jR s).drop (j+1))(k:∀H',aU H' ⟨b,0,none⟩ (jR s')->Fr [b] H H'->X H'):∃H',fb atf 3 H ⟨b,j,none⟩ (.int .i64 v) H'/\X H':=by
 have:=aU.st (P:=atf) (t:=3) (a:=⟨b,0,none⟩) (j:=j) (v:=.int .i64 v) (X:=X) h (by kernel_rfl) (by kernel_rfl) (lz rfl) (by simp [atq];omega) λH' ah af=>k H' (by rw [e];simpa [atq]using ah) af
 simpa using this
theorem amI{h:dH}{ps:List kS}{K:Option Addr->Nat->Nat->J->Prop}(aa:bk h3 H h.1 h.2.1 h.2.2 ps)(ay:h.2.1<=1000)(hk:∀(h':dH) H',Own h3 138 H.size H' h'.1 h'.2.1 h'.2.2 ps->Fr [] H H'->K h'.1 h'.2.1 h'.2.2 H'):
  aY atf amJ ⟨[.slice h.1 h.2.1 h.2.2]⟩ H λv H'=>∃a n c,v=.slice a n c/\K a n c H':=by
 apply Uj
 refine ai (λc=>⟨_,_,_,rfl,?_⟩) λc b H1 aB=> ?_
 ·have e:h.1=none:=by simpa using c
  have vH:ps=[]:=by
   rcases aa.arr with h|⟨_,_,cV,_⟩
   ·exact h
   ·rw [e]at cV;cases cV
  subst vH
  exact hk (none,0,0) H (Own.nil _ _ _ _) (Fr.refl _ _)
 ·exact pD (E:=h3) T3 T2 (Own.made h3 138 aB (nQ _)) aB.ag (aa.ab aB.ag) (by omega) λo p q ao an af _=>⟨_,_,_,rfl,hk (o,p,q) ao an af⟩
theorem amK{day:Int}{K:Int->Bool->J->Prop}(hk:K 0 false H):aY atf amL ⟨[.slice none 0 0,.int .i64 day]⟩ H λv H'=>∃i b,v=.tuple ⟨[.int .i64 i,.bool b]⟩/\K i b H':=by
 apply amM
 apply amN
 refine⟨λvs H'=>vs=[.int .i64 0,.int .i64 0]/\H=H',λ_ _=>0,⟨rfl,rfl⟩,?_⟩
 rintro bm n cW _ ⟨e,rfl⟩
 simp only [List.cons.injEq,Value.int.injEq,and_true,true_and]at e
 obtain⟨rfl,rfl⟩:=e
 exact ai (λc=>by simp at c) λ_=>ai (λc=>by simp at c) λ_=>⟨_,_,rfl,_,_,rfl,hk⟩
def z0:kS:=(0,0,⟨#[]⟩)
theorem amO{K:Option Addr->Nat->Nat->J->Prop}(hs:bk h3 H (some ⟨b,0,none⟩) 1 1 [z0])(hk:∀(h':dH) H',Own h3 138 H.size H' h'.1 h'.2.1 h'.2.2 [z0]->Fr [] H H'->K h'.1 h'.2.1 h'.2.2 H'):
  aY atf amP ⟨[.slice none 0 0,.int .i64 0,.slice (some ⟨b,0,none⟩) 1 1]⟩ H λv H'=>∃a n c,v=.slice a n c/\K a n c H':=by
 apply amQ
 refine cb (by kernel_rfl) (ai (λc=>by simp at c) λ_=>ai (λ_=> ?_) λc=>by simp at c)
 exact iD (E:=h3) T3 T2 (Own.nil h3 138 H.size H) hs (nQ _) (by omega) λa n c ao an af _=>⟨_,_,_,rfl,hk (a,n,c) ao an af⟩
theorem amR{K:Option Addr->Nat->Nat->Int->Int->Bool->Int->Int->Int->Int->J->Prop}(b4:ho H)(hk:∀(s:po) H',s.next=1->s.past=0->Own h3 138 H.size H' s.h.1 s.h.2.1 s.h.2.2 [fD]->Fr [] H H'->K s.h.1 s.h.2.1 s.h.2.2 s.next s.past false 0 0 0 0 H'):
  aY atf Uk ⟨[vL oH,.agg ⟨[.int .i64 0,.int .i64 0,.int .i64 0,.int .i64 0]⟩]⟩ H λv H'=>∃a n c i j b k l o e,v=.tuple ⟨[.agg ⟨[.slice a n c,.int .i64 i,.int .i64 j,.bool b,.int .i64 k,.int .i64 l,.int .i64 o]⟩,.int .i64 e]⟩/\K a n c i j b k l o e H':=by
 apply Ul
 intro b H1 aB b1 ao bH b2 aF bF
 have bc:=aB.eq
 have bN:=bH.eq
 have dP:=bF.eq
 have hR:=aB.size
 have z2:=bH.size
 have z3:=bF.size
 have f3:=(aB.ag.aw bH.ag).aw bF.ag
 have y5:aU aF ⟨b,0,none⟩ (jR oH):=(aB.bo.ab bH.ag).ab bF.ag
 have Co:aU aF ⟨b1,0,none⟩ [.int .i64 0,.int .i64 0,.int .i64 0,.int .i64 0]:=bH.bo.ab bF.ag
 have Mh:aU aF ⟨b2,0,none⟩ (jR oH):=bF.bo
 have Eb:b1∉[b]:=by simp;omega
 have AR:b2∉[b]:=by simp;omega
 have up:∀{H' cG},Fr [] H H'->Fr [b] H' cG->Fr [] H cG:=λh1 ae=>h1.ab ae λk hk=>by simp at hk;omega
 refine⟨_,_,_,y5.b5 (by kernel_rfl) rfl,?_⟩
 refine aY.mono (R:=λv H'=>v=.slice none 0 0/\aF=H') (Uj (ai (λ_=>⟨rfl,rfl⟩) λc=>by cases c)) ?_
 rintro v _ ⟨rfl,rfl⟩
 refine⟨_,_,_,rfl,Mg (h':=(none,0,0)) y5 λaN Um f4=> ?_⟩
 have Cq:=Co.ag f4 Eb
 have amS:=Mh.ag f4 AR
 have g4:=up f3 f4
 refine⟨_,_,_,_,_,_,_,_,_,Um.dX (by kernel_rfl) (by kernel_rfl) rfl,0,Cq.bV (j:=1) (by kernel_rfl) rfl,wy (s:=oH) (ps:=[]) iy (by decide) λbw f5=> ?_⟩
 refine vM (x:=z0) rfl λnx bY gj sP f6=> ?_
 have f46:=f5.aw f6
 have y7:=Um.ab f46
 have AS:=Cq.ab f46
 have Un:=amS.ab f46
 have g6:=g4.aw f46
 refine⟨λvs H'=>∃h,vs=[.bool true]/\aU H' ⟨b,0,none⟩ (jR ⟨h,1,0⟩)/\Own h3 138 H.size H' h.1 h.2.1 h.2.2 [fD]/\aU H' ⟨b1,0,none⟩ [.int .i64 0,.int .i64 0,.int .i64 0,.int .i64 0]/\aU H' ⟨b2,0,none⟩ (jR oH)/\b2∉ax h.1/\Fr [] H H',⟨0,AS.bV (j:=0) (by kernel_rfl) rfl,λ_ H'=>bY=H',ai (λc=>by simp at c) λ_=>ai (λ_=>rfl) λc=>by simp at c,?_⟩,?_⟩
 ·rintro bm _ rfl
  have t1:(decide ((0:Int)<=0/\(0:Int)<=17179869183))=true:=by decide
  have t2:(decide ((0:Int)<=0/\(0:Int)<=1))=true:=by decide
  refine⟨λvs H'=>vs=[.bool true]/\bY=H',⟨λvs H'=>vs=[.bool true]/\bY=H',⟨0,AS.bV (j:=1) (by kernel_rfl) rfl,D8 (ai (λ_=>⟨0,AS.bV (j:=2) (by kernel_rfl) rfl,D8 (ai (λ_=>⟨0,y7.bV (j:=1) (by kernel_rfl) rfl,rfl,rfl⟩) λc=>by rw [t2]at c;cases c)⟩) λc=>by rw [t1]at c;cases c)⟩,?_⟩,?_⟩
  ·rintro bm fj _ ⟨e,rfl⟩
   simp only [List.cons.injEq,Value.bool.injEq,and_true]at e
   subst e
   exact ai (λc=>by cases c) λ_=>⟨rfl,rfl⟩
  rintro bm fj _ ⟨e,rfl⟩
  simp only [List.cons.injEq,Value.bool.injEq,and_true]at e
  subst e
  refine⟨_,_,_,y7.b5 (by kernel_rfl) rfl,0,AS.bV (j:=1) (by kernel_rfl) rfl,amK ?_⟩
  refine⟨λ_ H'=>∃h,aU H' ⟨b,0,none⟩ (jR ⟨h,0,0⟩)/\Own h3 138 bY.size H' h.1 h.2.1 h.2.2 [z0]/\aU H' ⟨b1,0,none⟩ [.int .i64 0,.int .i64 0,.int .i64 0,.int .i64 0]/\aU H' ⟨b2,0,none⟩ (jR oH)/\Fr [] H H',ai (λ_=>⟨_,_,_,y7.b5 (by kernel_rfl) rfl,_,_,_,y7.b5 (by kernel_rfl) rfl,λyV ed jB=> ?_⟩) (λc=>by cases c),?_⟩
  ·have Uo:=y7.ab jB.ag
   refine amO (gd h3 z0 jB rfl) λkI ee kP f9=>Mg (h':=kI) (Uo.ab f9) λfx Mi f10=> ?_
   have f69:=jB.ag.aw f9
   have sC:=f69.size
   have DO:=jB.size
   have kz:=y7.lt
   simp only at kz
   exact⟨kI,Mi,(kP.base (base':=bY.size) (by omega)).ag f10 (eG λk hk aq=>by simp at aq;have:=(kP.ge k hk).1;omega),(AS.ab f69).ag f10 Eb,(Un.ab f69).ag f10 AR,up (g6.aw f69) f10⟩
  ·rintro bm cC ⟨h,ur,fo,uu,Ec,g7⟩
   have kz:=y7.lt
   have amT:=Un.lt
   simp only at kz amT
   have vj:=fo.1
   simp only [asE,atc]at vj
   have amU:=b4.ab g7
   refine⟨_,_,_,ur.b5 (by kernel_rfl) rfl,0,uu.bV (j:=1) (by kernel_rfl) rfl,0,uu.bV (j:=2) (by kernel_rfl) rfl,0,ur.bV (j:=1) (by kernel_rfl) rfl,T5 amU λed f8=>⟨(uu.ab f8).bV (j:=2) (by kernel_rfl) rfl,(uu.ab f8).bV (j:=1) (by kernel_rfl) rfl,(ur.ab f8).b5 (by kernel_rfl) rfl,?_⟩⟩
   refine qH (n:=h.2.1) (i:=0) (k:=0) fD (fo.ab f8) rfl (by omega) (decide_eq_true ⟨Int.le_refl _,by show(0:Int)<(h.2.1:Int);omega⟩) rfl (by kernel_rfl) (by kernel_rfl) λee kP f9=> ?_
   have fy:=AS.lt
   simp only at fy
   have Up:b∉ax h.1:=λaq=>by have:=(fo.ge _ aq).1;omega
   have amV:b1∉ax h.1:=λaq=>by have:=(fo.ge _ aq).1;omega
   have Uq:b2∉ax h.1:=λaq=>by have:=(fo.ge _ aq).1;omega
   have Ur:=(ur.ab f8).ag f9 Up
   refine⟨0,Ur.bV (j:=1) (by kernel_rfl) rfl,Ui (s':=⟨h,1,0⟩) Ur (by decide) (by rfl) λfx Mi f10=> ?_⟩
   have g9:Fr [] H ee:=(g7.aw f8).ab f9 λk hk=>by have:=(fo.ge k hk).1;have:=g6.size;omega
   exact⟨h,rfl,Mi,(kP.base (base':=H.size) g6.size).ag f10 (eG λk hk aq=>by simp at aq;subst aq;exact Up hk),((uu.ab f8).ag f9 amV).ag f10 Eb,((Ec.ab f8).ag f9 Uq).ag f10 AR,Uq,up g9 f10⟩
 ·rintro bm fj cC ⟨h,e,ur,fo,uu,Ec,Th,g7⟩
  simp only [List.cons.injEq,Value.bool.injEq,and_true]at e
  subst e
  refine ai (λc=>by cases c) λ_=>⟨λ_ H'=>cC=H',⟨λvs H'=>vs=[.bool false]/\cC=H',⟨false,ur.bV (j:=3) (by kernel_rfl) rfl,ai (λc=>by cases c) λ_=>⟨rfl,rfl⟩⟩,?_⟩,?_⟩
  ·rintro bm fj _ ⟨e,rfl⟩
   simp only [List.cons.injEq,Value.bool.injEq,and_true]at e
   subst e
   exact ai (λc=>by cases c) λ_=>rfl
  rintro bm _ rfl
  refine⟨_,_,_,_,_,_,_,_,_,ur.dX (by kernel_rfl) (by kernel_rfl) rfl,y6 (s:=⟨h,1,0⟩) Ec rfl λed Mj f8=>⟨_,_,_,_,_,_,_,_,_,Mj.dX (by kernel_rfl) (by kernel_rfl) rfl,_,_,_,_,_,_,_,_,_,_,rfl,?_⟩⟩
  exact hk ⟨h,1,0⟩ ed rfl rfl (fo.ag f8 (eG λk hk aq=>by simp at aq;subst aq;exact Th hk)) (g7.ab f8 λk hk=>by simp at hk;omega)
theorem Us{s:po}{K:Option Addr->Nat->Nat->Int->Int->Bool->Int->Int->Int->Int->J->Prop}(aa:bk h3 H s.h.1 s.h.2.1 s.h.2.2 [fD])(bh:s.past=0)(hk:∀(s':po) H',Fr [] H H'->K s'.h.1 s'.h.2.1 s'.h.2.2 s'.next s'.past false 0 0 0 170 H'):
  aY atf Uk ⟨[vL s,.agg ⟨[.int .i64 2,.int .i64 0,.int .i64 0,.int .i64 0]⟩]⟩ H λv H'=>∃a n c i j b k l o e,v=.tuple ⟨[.agg ⟨[.slice a n c,.int .i64 i,.int .i64 j,.bool b,.int .i64 k,.int .i64 l,.int .i64 o]⟩,.int .i64 e]⟩/\K a n c i j b k l o e H':=by
 apply Ul
 intro b H1 aB b1 ao bH b2 aF bF
 have bc:=aB.eq
 have bN:=bH.eq
 have dP:=bF.eq
 have hR:=aB.size
 have z2:=bH.size
 have z3:=bF.size
 have aH:=aa.len
 simp only [asE,atc]at aH
 have f3:=(aB.ag.aw bH.ag).aw bF.ag
 have y5:aU aF ⟨b,0,none⟩ (jR s):=(aB.bo.ab bH.ag).ab bF.ag
 have Co:aU aF ⟨b1,0,none⟩ [.int .i64 2,.int .i64 0,.int .i64 0,.int .i64 0]:=bH.bo.ab bF.ag
 have Mh:aU aF ⟨b2,0,none⟩ (jR oH):=bF.bo
 have Eb:b1∉[b]:=by simp;omega
 have AR:b2∉[b]:=by simp;omega
 have up:∀{H' cG},Fr [] H H'->Fr [b] H' cG->Fr [] H cG:=λh1 ae=>h1.ab ae λk hk=>by simp at hk;omega
 refine⟨_,_,_,y5.b5 (by kernel_rfl) rfl,amI (aa.ab f3) (by omega) λh' aN eV f4=>Mg (h':=h') (y5.ab f4) λbw Ut f5=> ?_⟩
 have hC:=eV.1
 simp only [asE,atc]at hC
 have JG:=(Co.ab f4).ag f5 Eb
 have amW:=(Mh.ab f4).ag f5 AR
 have g5:=up (f3.aw f4) f5
 have e':bk h3 bw h'.1 h'.2.1 h'.2.2 [fD]:=eV.bL.ag f5 (eG λk hk aq=>by simp at aq;have:=(eV.ge k hk).1;omega)
 refine⟨_,_,_,_,_,_,_,_,_,Ut.dX (by kernel_rfl) (by kernel_rfl) rfl,0,JG.bV (j:=1) (by kernel_rfl) rfl,wy (s:={s with h:=h'}) e' (by simp only;omega) λbY f6=> ?_⟩
 rw [Hr]
 refine vM (x:=fD) rfl λnx cC ji sO f7=> ?_
 have f57:=f6.aw f7
 have ur:=Ut.ab f57
 have uu:=JG.ab f57
 have Ec:=amW.ab f57
 have g7:=g5.aw f57
 refine⟨λvs H'=>vs=[.bool false]/\aU H' ⟨b2,0,none⟩ (jR oH)/\Fr [] H H',⟨2,uu.bV (j:=0) (by kernel_rfl) rfl,λ_ _=>False,ai (λc=>by simp at c) λ_=>ai (λc=>by simp at c) λ_=>ai (λc=>by simp at c) λ_=>ai (λ_=> ?_) λc=>by simp at c,λ_ _ h=>h.elim⟩,?_⟩
 ·refine⟨λvs H'=>vs=[.bool false]/\cC=H',⟨0,uu.bV (j:=3) (by kernel_rfl) rfl,0,(by rw [<-bh];exact ur.bV (j:=2) (by kernel_rfl) rfl),ai (λc=>by simp at c) λ_=>⟨rfl,rfl⟩⟩,?_⟩
  rintro bm fj _ ⟨e,rfl⟩
  simp only [List.cons.injEq,Value.bool.injEq,and_true]at e
  subst e
  refine⟨0,uu.bV (j:=3) (by kernel_rfl) rfl,Ui (s':={s with h:=h',past:=0}) ur (by decide) (by rfl) λed Uo f8=>⟨rfl,Ec.ag f8 AR,up g7 f8⟩⟩
 ·rintro bm fj ed ⟨e,Mj,g8⟩
  simp only [List.cons.injEq,Value.bool.injEq,and_true]at e
  subst e
  refine ai (λ_=>y6 (s:=oH) Mj rfl λee amX f9=>⟨_,_,_,_,_,_,_,_,_,amX.dX (by kernel_rfl) (by kernel_rfl) rfl,_,_,_,_,_,_,_,_,_,_,rfl,?_⟩) λc=>by cases c
  exact hk oH ee (g8.ab f9 λk hk=>by simp at hk;omega)
end Go.Proofs
namespace Go.Proofs.bg
theorem ahC(k:Int):¬pL (λ_=>none) [] k:=by
 unfold pL
 simp
theorem R2:∀n:Nat,(jo (pL (λ_=>none) []) n).length=n-2
 |0=>by simp [jo]
 |n+1=>by
  rw [zS,VH,R2 n]
  split
  ·rename_i h;simp;omega
  ·rename_i h
   have:¬2<=n:=λay=>h ⟨ay,ahC _⟩
   simp;omega
theorem R3:∀(l:List ByteArray) (t:gJ),l.length<=t.free.length->t.fits=true->(oe l t).1.fits=true/\(oe l t).1.free.length=t.free.length-l.length
 |[],t,_,h=>⟨h,by simp [oe]⟩
 |c::l,t,aH,h=>by
  cases af:t.free with
  |nil=>rw [af]at aH;simp at aH
  |cons x r=>
   have e:jH t c=({t with free:=r,mg:=t.mg++[(x,c)],hY:=t.hY+1},x):=by unfold jH;rw [af]
   have:=R3 l (jH t c).1 (by rw [e];rw [af]at aH;simpa using aH) (by rw [e];exact h)
   unfold oe
   refine⟨this.1,this.2.trans ?_⟩
   rw [e,asE,asE];simp only;omega
theorem R4(ws:List Int):∀(l:List ByteArray) (j:Nat) (t:gJ),l.length<=t.free.length->t.fits=true->(kn [] ws l j t).1.fits=true/\(kn [] ws l j t).1.free.length=t.free.length-l.length
 |[],j,t,_,h=>⟨h,by simp [kn]⟩
 |c::l,j,t,aH,h=>by
  cases af:t.free with
  |nil=>rw [af]at aH;simp at aH
  |cons x r=>
   have e:jH t c=({t with free:=r,mg:=t.mg++[(x,c)],hY:=t.hY+1},x):=by unfold jH;rw [af]
   have:=R4 ws l (j+1) (jH t c).1 (by rw [e];rw [af]at aH;simpa using aH) (by rw [e];exact h)
   unfold kn
   rw [if_neg (by simp)]
   refine⟨this.1,this.2.trans ?_⟩
   rw [e,asE,asE];simp only;omega
theorem ahD:eS ⟨#[]⟩=[]:=asF (by rw [wO];rfl)
theorem R5{now:ByteArray->Option ByteArray}(aO:∀y d,now y=some d->d.size<=64):∀(ys:List ByteArray) (t:gJ),ys.length<=t.free.length->t.fits=true→
  (lf (λ_=>none) now ys t).1.fits=true/\t.free.length-ys.length<=(lf (λ_=>none) now ys t).1.free.length/\(lf (λ_=>none) now ys t).2.length=ys.length/\∀f∈(lf (λ_=>none) now ys t).2,f.1∈ys/\f.2.1.size<=64/\f.2.2.length<=1
 |[],t,_,h=>⟨h,by simp [lf],rfl,by simp [lf]⟩
 |y::l,t,aH,h=>by
  have hs:((now y).getD ⟨#[]⟩).size<=64:=by
   cases e:now y with
   |none=>exact apG _
   |some d=>exact aO y d e
  have ak:(eS ((now y).getD ⟨#[]⟩)).length<=1:=by rw [wO];unfold me;omega
  rw [asE]at aH
  have h1:=R4 [] (eS ((now y).getD ⟨#[]⟩)) 0 t (by omega) h
  have ae:=R5 aO l (kn [] [] (eS ((now y).getD ⟨#[]⟩)) 0 t).1 (by omega) h1.1
  have e:lf (λ_=>none) now (y::l) t=((lf (λ_=>none) now l (kn [] [] (eS ((now y).getD ⟨#[]⟩)) 0 t).1).1,(y,(now y).getD ⟨#[]⟩,(kn [] [] (eS ((now y).getD ⟨#[]⟩)) 0 t).2)::(lf (λ_=>none) now l (kn [] [] (eS ((now y).getD ⟨#[]⟩)) 0 t).1).2):=by
   conv=>lhs;unfold lf
   simp only [awi,ahD]
  rw [e]
  refine⟨ae.1,?_,?_,λf af=> ?_⟩
  ·have:=ae.2.1;rw [asE];simp only;omega
  ·simp only [asE,ae.2.2.1]
  ·rcases o3.1 af with rfl|af
   ·exact⟨by simp,hs,by simp only [Ro];exact ak⟩
   ·have:=ae.2.2.2 f af;exact⟨by simp [this.1],this.2⟩
theorem R6{α:Type}{f:α->List UInt8}{b:Nat}:∀{l:List α},(∀x∈l,(f x).length<=b)->(l.flatMap f).length<=b*l.length
 |[],_=>by simp
 |x::l,h=>by
  have h1:=h x (by simp)
  have ae:=R6 (l:=l) λy av=>h y (by simp [av])
  rw [Er,VH,asE,Nat.mul_add];omega
theorem ahE{now:ByteArray->Option ByteArray}{ys:List ByteArray}(av:ys.length<=5)(ay:∀y∈ys,y.size<=16)(aO:∀y d,now y=some d->d.size<=64):(og 64 (λ_=>none) [] now ys).fits=true:=by
 have iK:(jo (pL (λ_=>none) []) (64:Int).toNat).length=62:=R2 64
 have h1:=R5 aO ys {free:=jo (pL (λ_=>none) []) (64:Int).toNat,mg:=[],hY:=0,fits:=true} (by simp only [iK];omega) rfl
 simp only [iK]at h1
 unfold og
 simp only
 generalize lf (λ_=>none) now ys {free:=jo (pL (λ_=>none) []) (64:Int).toNat,mg:=[],hY:=0,fits:=true}=x at h1
 obtain⟨dN,dm,hQ,hC⟩:=h1
 have ah:(rl x.2).length<=240:=by
  rw [Pr,VH]
  have b1:=hi (n:=x.2.length) (by omega)
  have b2:=R6 (f:=rk) (b:=46) (l:=x.2) λf af=>by
   obtain⟨hR,z2,z3⟩:=hC f af
   have z0:=ay _ hR
   unfold rk cx
   simp only [VH,c6]
   have c1:=hi (n:=f.1.size) (by omega)
   have c2:=hi (n:=f.2.1.size) (by omega)
   have c3:=Ps f.2.2
   omega
  omega
 have hk:(eS ⟨(rl x.2).toArray⟩).length<=4:=by
  rw [wO]
  have:(⟨(rl x.2).toArray⟩:ByteArray).size=(rl x.2).length:=wS _
  unfold me;omega
 have ae:=R3 (eS ⟨(rl x.2).toArray⟩) x.1 (by omega) dN
 have bQ:(x.2.map λf=>f.2.2.length).sum<=5:=by
  have:∀(l:List (ByteArray×ByteArray×List Int)),(∀f∈l,f.2.2.length<=1)->(l.map λf=>f.2.2.length).sum<=l.length:=λl=>by
   induction l with
   |nil=>simp
   |cons a l ih=>intro h;have:=ih λf af=>h f (by simp [af]);have:=h a (by simp);simp only [List.map_cons,List.sum_cons,asE];omega
  have:=this x.2 λf af=>(hC f af).2.2
  omega
 have aH:=Rp (eS ⟨(rl x.2).toArray⟩) x.1
 simp only [ae.1,Bool.true_and,Bool.and_eq_true,decide_eq_true_eq]
 exact⟨by omega,by omega⟩
def fL(l:List (ByteArray×ByteArray)):ByteArray->Option ByteArray
 :=λk=>match l with
 |[]=>none
 |p::r=>if k=p.1 then some p.2 else fL r k
theorem DC(l:List (ByteArray×ByteArray))(k v:ByteArray):oY (fL l) k v=fL ((k,v)::l):=by
 funext x
 unfold oY
 conv=>rhs;unfold fL
theorem AE:∀{l:List (ByteArray×ByteArray)} {y:ByteArray},(fL l y).isSome↔∃p∈l,p.1=y
 |[],y=>by simp [fL]
 |p::r,y=>by
  unfold fL
  by_cases h:y=p.1
  ·simp [h]
  ·rw [if_neg h,AE]
   simp only [o3,exists_eq_or_imp]
   exact⟨λq=>.inr q,λq=>q.elim (λe=>absurd e.symm h) id⟩
theorem GX:∀{l:List (ByteArray×ByteArray)} {y d:ByteArray},fL l y=some d->(y,d)∈l
 |[],y,d,h=>by simp [fL]at h
 |p::r,y,d,h=>by
  unfold fL at h
  split at h
  ·rename_i e;cases h;rw [e];simp
  ·exact MY _ (GX h)
theorem R7{st:f'}{ch:(ByteArray->Option ByteArray)->ByteArray->Option ByteArray}{l:List (ByteArray×ByteArray)}{ys:List ByteArray}(h1:st.last=λ_=>none)(ae:st.dir=[])(ak:ch st.now=fL l)
  (av:(ys.map bj).Pairwise (·<·)) (hm:∀y,y∈ys↔∃p∈l,p.1=y) (bu:ys.length<=5) (ay:∀y∈ys,y.size<=16) (aO:∀p∈l,p.2.size<=64):changeM 64 st ch=({st with now:=fL l},0):=by
 unfold changeM planN
 rw [ak,h1,ae,PQ (ys:=ys) ⟨av,λy=>by rw [hm,AE]⟩,if_pos (ahE bu ay λy d h=>aO _ (GX h))]
end Go.Proofs.bg
namespace Go.Proofs
open bb (cw gz kQ mq lR)
def Mk:ByteArray:=⟨#[97]⟩
def Ht:ByteArray:=⟨#[98]⟩
def c7:bX:=[(Mk,Ht)]
def rQ:List oB:=[(c7,5,7)]
def uv:Row:=(5,0,7)
theorem Ml:fE c7:=by
 refine⟨by decide,λx aa=> ?_,λi x y aa av=> ?_⟩
 ·simp only [c7,ar7]at aa
  subst aa
  refine⟨⟨by decide,by decide,by decide,λi az=> ?_⟩,⟨by decide,?_⟩,by decide⟩
  ·have:i=0:=by simp only [Mk]at az;have h:(⟨#[97]⟩:ByteArray).size=1:=rfl;omega
   subst this;decide
  ·have h1:gK Ht 0=1:=by decide
   show mj Ht 0=true
   unfold mj
   rw [dif_pos (by decide),dif_neg (by rw [h1];decide),h1]
   exact J2 (by decide)
 ·cases i with
  |zero=>simp [c7]at av
  |succ i=>simp [c7]at aa
theorem Uu:gl [] rQ=([c7],[uv]):=by
 unfold gl rQ
 rw [asn,List.foldl_nil]
 unfold pg
 have e:∀l,ki [] l=none:=λl=>by simp [ki]
 simp only [e]
 rfl
def en:eK:=⟨1,[],[uv],[],0⟩
theorem Uv:qK [] rQ=[ix c7,en]:=by
 unfold qK;rw [Uu];rfl
theorem Uw:∀r∈[ix c7,en],rv r:=λr aA=>by
 simp only [o3,aty,or_false]at aA
 rcases aA with rfl|rfl
 ·intro x aa;simp [ix]at aa
 ·intro x aa
  simp only [en,ar7]at aa
  subst aa
  exact⟨by decide,by decide⟩
theorem amY:∀r∈[ix c7,en],pS r:=λr aA=>by
 have bf:=Uw r aA
 simp only [o3,aty,or_false]at aA
 rcases aA with rfl|rfl
 ·exact⟨⟨⟨by decide,by decide⟩,λ_=>rfl,λh=>absurd rfl h,λh=>absurd rfl h,λh=>absurd rfl h,⟨by decide,by decide⟩,by decide,by decide,by simp [ix],by simp [ix]⟩,bf,λ_=>Ml⟩
 ·refine⟨⟨⟨by decide,by decide⟩,λh=>absurd rfl h,λ_=>rfl,λh=>absurd rfl h,λh=>absurd rfl h,⟨by decide,by decide⟩,by decide,by decide,λx aa=> ?_,by simp [en]⟩,bf,λh=>by simp [en]at h⟩
  simp only [en,ar7]at aa
  subst aa
  decide
def fM:ByteArray:=lj (lL [ix c7,en])
theorem uw{n:Nat}(h:n<128):(cD n).length<=1:=CK 0 n (by omega)
theorem AT:fM.size<=64:=by
 unfold fM
 rw [show(lj (lL [ix c7,en])).size=(lL [ix c7,en]).length from eQ _]
 have af:∀s:ByteArray,s.size<=20->(hW s).length<=s.size+3:=λs hs=>by
  rw [yb];unfold cx
  have:=uw (n:=s.size) (by omega)
  rw [VH,c6];omega
 have h1:(lj (kr (ix c7))).size<=12:=by
  rw [show(lj (kr (ix c7))).size=(kr (ix c7)).length from eQ _]
  have e:kr (ix c7)=cD 0++(cD 7++bj (oS c7)):=by
   unfold kr lh ix cx
   rw [if_pos rfl];rfl
  have dN:=uw (n:=0) (by omega)
  have dm:=uw (n:=7) (by omega)
  have hQ:(bj (oS c7)).length=7:=rfl
  rw [e,VH,VH];omega
 have ae:(lj (kr en)).size<=12:=by
  rw [show(lj (kr en)).size=(kr en).length from eQ _]
  have e:kr en=cD 1++(cD 1++(cD 5++(cD 0++cD 14)++[])):=by
   unfold kr lh en o5
   rw [if_neg (by decide),if_pos (by decide)];rfl
  have dN:=uw (n:=0) (by omega)
  have dm:=uw (n:=1) (by omega)
  have hQ:=uw (n:=5) (by omega)
  have hC:=uw (n:=14) (by omega)
  rw [e];simp only [VH,atc];omega
 have g1:=af _ (VF h1 (by decide))
 have g2:=af _ (VF ae (by decide))
 unfold lL
 simp only [Er,atb,VH,atc]
 omega
namespace bg
theorem Hu{st:f'}{l:List (ByteArray×ByteArray)}{ys:List ByteArray}{k v:ByteArray}(h1:st.last=λ_=>none)(ae:st.dir=[])(ak:st.now=fL l)(aA:mf k)
  (av:(ys.map bj).Pairwise (·<·)) (hm:∀y,y∈ys↔y=k\/∃p∈l,p.1=y) (bu:ys.length<=5) (ay:∀y∈ys,y.size<=16) (aI:v.size<=64) (aO:∀p∈l,p.2.size<=64):writeS 64 st k v=({st with now:=fL ((k,v)::l)},0):=by
 unfold writeS
 rw [if_pos aA]
 refine R7 (ch:=λnow=>oY now k v) h1 ae (by rw [ak];exact DC l k v) av (λy=> ?_) bu ay λp bh=> ?_
 ·rw [hm]
  simp only [o3,exists_eq_or_imp]
  exact or_congr ⟨λh=>h.symm,λh=>h.symm⟩ Iff.rfl
 ·rcases o3.1 bh with rfl|bh
  ·exact aI
  ·exact aO p bh
theorem amZ{st:f'}{l:List (ByteArray×ByteArray)}{now:ByteArray->Option ByteArray}(h1:st.last=λ_=>none)(ae:st.dir=[])(ak:now=fL l)(ay:∀p∈l,p.1.size<=16)(aO:∀p∈l,p.2.size<=64):tE st now:=
 ⟨by rw [ae];simp,(λbP d xs aH=>by rw [h1]at aH;cases aH),λy d h=>by
  rw [ak]at h
  have:=GX h
  have a:=ay _ this
  have b:=aO _ this
  exact⟨by simp only at a;omega,by simp only at b;omega⟩⟩
end bg
theorem Ux:(bg.nC).now=bg.fL []:=by funext x;rfl
theorem am0:bg.mf cY:=by decide
theorem am1:bg.writeS 64 bg.nC cY fM=({bg.nC with now:=bg.fL [(cY,fM)]},0):=
 bg.Hu (ys:=[cY]) rfl rfl Ux am0 (by simp) (λy=>by simp) (by decide) (by decide) AT (by simp)
theorem am2(db:eA)(hs:db.st=bg.nC):mY 64 db [ix c7,en]=0:=by
 unfold mY
 rw [if_neg (by rw [(Ge Uw).2 amY];simp),hs]
 have e:((bg.nC.now cY).getD ⟨#[]⟩++lj (lL [ix c7,en]))=fM:=by
  show(⟨#[]⟩++fM:ByteArray)=fM
  exact awl
 rw [e,am1]
theorem am3(db:eA)(hs:db.st=bg.nC):j7 db [ix c7,en]={bg.nC with now:=bg.fL [(cY,fM)]}:=by
 unfold j7
 rw [hs]
 have e:((bg.nC.now cY).getD ⟨#[]⟩++lj (lL [ix c7,en]))=fM:=by
  show(⟨#[]⟩++fM:ByteArray)=fM
  exact awl
 rw [e,Ux,bg.DC]
def pq:eA:=⟨[c7],[(0,[(5,7)])],0,{bg.nC with now:=bg.fL [(cY,fM)]}⟩
theorem am4(db:eA)(h1:db.L=[])(ae:db.ss=[])(au:db.past=0)(hs:db.st=bg.nC):([ix c7,en]).foldl fU {db with st:=j7 db [ix c7,en]}=pq:=by
 rw [am3 db hs,asn,asn,List.foldl_nil]
 have bS:q1 [] c7=[c7]:=by unfold q1;rw [if_pos ⟨Ml,by simp,by decide⟩];rfl
 have bc:fU {db with st:={bg.nC with now:=bg.fL [(cY,fM)]}} (ix c7)={pq with ss:=[]}:=by
  unfold fU ix
  rw [if_pos rfl]
  simp only [h1,ae,au,bS,pq]
 rw [bc]
 unfold fU en
 rw [if_neg (by decide),if_pos rfl]
 rfl
theorem am5(db:eA)(h1:db.L=[])(au:db.past=0):DH db rQ:=by
 refine⟨by decide,by decide,λp bh=> ?_,?_⟩
 ·simp only [rQ,ar7]at bh
  subst bh
  exact⟨Ml,by decide,by decide,by rw [au];decide⟩
 ·rw [h1,Uu];decide
theorem am6:queryM pq [] 0 10=[(0,[(5,7)])]:=by
 have hs:hf [0] (rb pq.L []):=by
  refine⟨by simp [h9],λz=> ?_⟩
  simp only [ar7]
  constructor
  ·rintro rfl;exact⟨0,c7,rfl,rfl,by simp⟩
  ·rintro⟨k,l,rfl,hk,_⟩
   have:=(qb.1 hk).1
   simp [pq]at this
   omega
 unfold queryM
 rw [LC hs]
 rfl
theorem Uy{rws:List bb.fu}(h:mq [(0,[(5,7)])] rws):rws=[uv]:=
 bb.K0 h.1 (bb.kQ.cons.2 ⟨by simp,bb.kQ.nil⟩) λx=>by
  rw [h.2]
  simp only [ar7,exists_eq_left]
  unfold lR
  simp [uv]
structure qM(H:J)(W:Nat->Prop)(x:Nat)(A:fK)(m:bg.ei)(N M q dr il:Nat)(X:Nat->Prop)(st:bg.f')(s:po)(ps:List kS)(L:List bX):Prop where
 vP:oG H X (λk=>k=x\/k=il) A.s A.d A.cy A.Sd m N M q dr st
 bo:aU H ⟨x,0,none⟩ (mv A 0)
 bz:cU.kZ H A.di A.bJ L
 pf:aU H ⟨A.p,0,none⟩ [.map (some A.pr)]
 pm:H[A.pr]?=some (.map ⟨[]⟩ 0)
 sZ:aU H ⟨il,0,none⟩ (jR s)
 uj:bk h3 H s.h.1 s.h.2.1 s.h.2.2 ps
 vQ:X x/\X A.p/\X A.pr/\X il/\(∀k∈A.bJ,X k)/\∀k∈ax s.h.1,X k
 ne:x≠il/\A.p≠il/\A.pr≠il/\il∉A.bJ/\il∉ax s.h.1/\A.p≠x/\A.pr≠x/\x∉ax s.h.1
 xB:∀k,W k->X k
 yY:ho H
variable{H H':J}{W:Nat->Prop}{x:Nat}{A:fK}{m:bg.ei}{N M q dr il:Nat}{X:Nat->Prop}{st:bg.f'}{s:po}{ps:List kS}{L:List bX}
theorem qM.ab(h:qM H W x A m N M q dr il X st s ps L)(af:Fr [] H H'):qM H' W x A m N M q dr il (λk=>X k\/(H.size<=k/\k<H'.size)) st s ps L:=
 ⟨h.vP.ab af λk hk=>hk,h.bo.ab af,h.bz.ab af,h.pf.ab af,af.nw h.pm,h.sZ.ab af,h.uj.ab af,⟨.inl h.vQ.1,.inl h.vQ.2.1,.inl h.vQ.2.2.1,.inl h.vQ.2.2.2.1,λk hk=>.inl (h.vQ.2.2.2.2.1 k hk),λk hk=>.inl (h.vQ.2.2.2.2.2 k hk)⟩,h.ne,λk hk=>.inl (h.xB k hk),h.yY.ab af⟩
theorem qM.Hv{iv q':Nat}{st':bg.f'}(h:qM H W x A m N M q dr il X st s ps L)(bK:∀k,k<7->W k)(hs:oG H' X (λk=>k=x\/k=il) A.s A.d A.cy A.Sd m N iv q' dr st')(hk:iP X H H'):qM H' W x A m N iv q' dr il X st' s ps L:=by
 obtain⟨bO,b7,cN,ek,e',hb⟩:=h.vQ
 refine⟨hs,hk.bo h.bo bO,?_,hk.bo h.pf b7,?_,hk.bo h.sZ ek,hk.bL h.uj hb,⟨bO,b7,cN,ek,e',hb⟩,h.ne,h.xB,?_⟩
 ·obtain⟨T,h1,ae⟩:=hk
  exact h.bz.ag h1 λk hk aq=>ae k aq (e' k hk)
 ·obtain⟨T,h1,ae⟩:=hk
  exact h1.get h.pm λaq=>ae _ aq cN
 ·obtain⟨T,h1,ae⟩:=hk
  exact h.yY.ag h1 λk hk=>by
   rcases atv k 7 with q|q
   ·exact absurd (h.xB k (bK k q)) (ae k hk)
   ·exact q
theorem qM.put{s':po}{Uz:List kS}(h:qM H W x A m N M q dr il X st s ps L)(dJ:7<=il)(af:Fr [il] H H')(ah:aU H' ⟨il,0,none⟩ (jR s'))(bh:bk h3 H s'.h.1 s'.h.2.1 s'.h.2.2 Uz)(aa:∀k∈ax s'.h.1,X k/\k≠il/\k≠x):qM H' W x A m N M q dr il X st s' Uz L:=by
 obtain⟨bO,b7,cN,ek,e',hb⟩:=h.vQ
 obtain⟨cW,cr,fG,k5,n5,n6,n7,n8⟩:=h.ne
 exact⟨h.vP.put af ek (.inr rfl),h.bo.ag af (by simpa using cW),h.bz.ag af λk hk aq=>by simp at aq;subst aq;exact k5 hk,h.pf.ag af (by simpa using cr),af.get h.pm (by simpa using fG),ah,bh.ag af (eG λk hk aq=>by simp at aq;exact(aa k hk).2.1 aq),⟨bO,b7,cN,ek,e',λk hk=>(aa k hk).1⟩,⟨cW,cr,fG,k5,λaq=>(aa _ aq).2.1 rfl,n6,n7,λaq=>(aa _ aq).2.2 rfl⟩,h.xB,h.yY.ag af λk hk=>by simp at hk;omega⟩
theorem iP.sub(h:iP X H H')(aa:∀k,W k->X k):iP W H H':=by
 obtain⟨T,h1,ae⟩:=h
 exact⟨T,h1,λk hk hw=>ae k hk (aa k hw)⟩
theorem iP.of(h:Fr [] H H'):iP W H H':=⟨[],h,by simp⟩
theorem iP.trans{cG:J}(h:iP W H H')(h':iP W H' cG):iP W H cG:=by
 obtain⟨S,h1,ae⟩:=h
 obtain⟨T,au,a6⟩:=h'
 exact⟨S++T,h1.trans au,λk hk=>(asU.1 hk).elim (ae k) (a6 k)⟩
theorem oG.err{Y:Nat->Prop}{d:Addr}{cy:Nat}{Sd:List Nat}{yC:Addr}(h:oG H X Y yC d cy Sd m N M q dr st):a7 32 H ⟨dr,1,none⟩ (.int .i64 0):=by
 obtain⟨cK,F,h1,⟨ky,un,uo,us,c1,_⟩,_⟩:=h
 exact c1.bV (j:=1) (by kernel_rfl) rfl
def jS:ByteArray:=⟨#[109,97,110,105,102,101,115,116]⟩
def nd:ByteArray:=⟨#[105,110,100,101,120]⟩
theorem am7{Y:Nat->Prop}{yC d:Addr}{cy:Nat}{Sd:List Nat}{st':ByteArray->bg.f'}{K:J->Prop}(h:oG H X Y yC d cy Sd m N M q dr st)(aa:bk h3 H s.h.1 s.h.2.1 s.h.2.2 [fD])(ay:s.next=1)(bh:s.past=0)(b4:ho H)(dJ:7<=H.size)(a1:q<=100)(cQ:M+1<=100)
  (bK:∀t:ByteArray,t.size<=64->bg.tE st (bg.oY st.now jS t)) (hw:∀t:ByteArray,t.size<=64->bg.writeS m.size st jS t=(st' t,0))
  (hk:∀(t:ByteArray) H',t.size<=64->oG H' X Y yC d cy Sd m N (M+1) (q+1) dr (st' t)->iP X H H'->K H'):
  aY atf am8 ⟨[.pointer (some ⟨dr,0,none⟩),vL s]⟩ H λv H'=>v=.tuple ⟨[]⟩/\K H':=by
 apply am9
 intro b H1 aB
 have ah:aU H1 ⟨b,0,none⟩ (jR s):=aB.bo
 refine⟨_,_,_,_,_,_,_,_,_,ah.dX (by kernel_rfl) (by kernel_rfl) rfl,amD (aa.ab aB.ag) ay bh (b4.ab aB.ag) (by have:=aB.size;omega) λt ao bf f2=> ?_⟩
 have fW:=aB.ag.aw f2
 have ae:=h.ab (X':=X) fW λk hk=>.inl hk
 refine⟨0,ae.err,ai (λ_=>ai (λc=>by simp at c) λ_=> ?_) λc=>by simp at c⟩
 refine Ma ae a1 cQ (by decide) (λ_=>bK t bf) (hw t bf) λaF au iG=>⟨rfl,hk t aF bf au ?_⟩
 obtain⟨T,dN,dm⟩:=iG
 exact⟨T,fW.trans' dN (by simp) λk hk _=>hk,dm⟩
open bb (cw e9 dL fT ej mq gz jM j4)
def nf(l:List (ByteArray×ByteArray)):bg.f':={bg.nC with now:=bg.fL l}
theorem Ed{H:J}{K:Int->J->Prop}(hk:K 0 H):aY atf am' ⟨[.int .i64 5]⟩ H λv H'=>∃n,v=.int .i64 n/\K n H':=by
 apply ana
 rw [show atj .i64 (Int.tdiv 5 100)=0 from by kernel_rfl]
 exact⟨_,rfl,hk⟩
def AU:List Value->J->Nat:=λvs _=>match vs with|[.int _ i]=>1-i.toNat|_=>0
theorem UA{H H':J}:AU [.int .i64 (IntKind.i64.wrap (0+1))] H<AU [.int .i64 0] H':=y4
abbrev Hw(a:Option Addr)(c:Nat):cS Int:=(0,.slice a 1 c,0)
def UB(r:Nat)(ao:J):List Value->J->Prop:=λvs H'=>match vs with
 |[.int _ i]=>Fr [r] ao H'/\((i=0/\dM bb.dB H' r 0 [])\/(i=1/\∃a c,dM bb.dB H' r 1 [Hw a c]/\bk fT H' a 1 c [uv]/\∀k∈ax a,ao.size<=k/\k<H'.size))
 |_=>False
theorem z82:zeroOf atf 82=some (.slice none 0 0):=by kernel_rfl
theorem Mm{r b2:Nat}{ao aF G:J}(au:Fr [r] ao aF)(aA:r<ao.size)(hm:dM bb.dB aF r 0 [])(af:Fr [] aF G)(hs:bk fT G (some ⟨b2,0,none⟩) 1 1 [uv]):
  cj atf (Builtin.append_ ⟨[82,82]⟩ 82 ⟨[.slice none 0 0,.slice (some ⟨b2,0,none⟩) 1 1]⟩) G λv bY=>∃a n c,v=.slice a n c/\iQ atf (Instr.mapUpdate 225 (.map (some r)) (.int .i64 0) (.slice a n c)) bY λcC=>UB r ao [.int .i64 (IntKind.i64.wrap (0+1))] cC/\AU [.int .i64 (IntKind.i64.wrap (0+1))] cC<AU [.int .i64 0] aF:=by
 refine iD (t:=128) (E:=fT) (bytes:=24) (by kernel_rfl) (by kernel_rfl) (Own.nil fT 128 G.size G) hs (nQ _) (by omega) λa n c bY an f6 _=> ?_
 have e:n=1:=an.1
 subst e
 have f36:Fr [] aF bY:=af.aw f6
 have gH:=an.ge
 refine uN (T:=bb.dB) (mt:=225) (e:=82) awb (hm.ab bb.dB f36) (0:Int) λcC uX f7=>⟨⟨(au.trans' f36 (λk hk _=>hk) (by simp)).trans' f7 (λk hk _=>hk) λk hk _=>hk,.inr ⟨by kernel_rfl,a,c,uX,an.bL.ag f7 (eG λk hk aq=> ?_),λk hk=> ?_⟩⟩,UA⟩
 ·simp at aq
  have:=gH k hk
  have:=au.size
  have:=af.size
  omega
 ·have:=gH k hk
  have:=au.size
  have:=af.size
  have:=f7.size
  omega
end Go.Proofs
namespace Go.Proofs.cU
def ya(l:bX):List UInt8:=cx (oS l)
theorem OL{l:bX}(h:fE l):(ya l).length<=710:=by
 unfold ya cx
 have h1:=wH h
 have ae:(oS l).size=(ny l).length:=eQ _
 have:=hi (n:=(oS l).size) (by omega)
 rw [VH,IX];omega
def encI(L:List bX):List UInt8:=cD L.length++L.flatMap ya
def sc(L:List bX)(k:Nat):List UInt8:=cD L.length++(L.take k).flatMap ya
theorem YQ{L:List bX}{k:Nat}{l:bX}(h:L[k]?=some l):sc L (k+1)=sc L k++ya l:=by
 unfold sc
 rw [ats,h]
 simp [List.flatMap_append]
theorem YR{L:List bX}{k:Nat}(h:L.length<=k):sc L k=encI L:=by
 unfold sc encI;rw [asG h]
theorem YS{L:List bX}(h:∀l∈L,fE l):(L.flatMap ya).length<=710*L.length:=by
 induction L with
 |nil=>simp
 |cons l L ih=>
  have h1:=OL (h l (by simp))
  have ae:=ih λm hm=>h m (by simp [hm])
  simp only [Er,VH,asE];omega
theorem YT{L:List bX}(hw:q0 L)(k:Nat):(sc L k).length<=300000:=by
 unfold sc
 have h1:=hi (n:=L.length) (by have:=hw.len;omega)
 have ae:=YS (L:=L.take k) λl aH=>hw.da l (auL aH)
 rw [apH]at ae
 have:=hw.len
 rw [VH];omega
theorem YU(L:List bX):sc L 0=cD L.length:=by simp [sc]
theorem IY{H:J}{di:Nat}{bJ:List Nat}{L:List bX}{K:ByteArray->J->Prop}(h:kZ H di bJ L)
  (hk:∀H',Fr [] H H'->K ⟨(encI L).toArray⟩ H'):
  aY atf YV ⟨[.pointer (some ⟨di,0,none⟩)]⟩ H λv H'=>∃s,v=.string s/\K s H':=by
 apply YW
 obtain⟨hw,a0,jE,c0,hs,gv,et,dW,dE,bh,xX⟩:=h
 have e:jE=L.length:=by rw [bh.all.1,bh.l6.1]
 have hlen:=hw.len
 refine⟨_,_,_,(mN bh).b5 (by kernel_rfl) rfl,?_⟩
 rw [iY (n:=(jE:Int)) (by omega) (by omega)]
 refine oT (by omega) λH1 b9=> ?_
 have k0:=bh.ag b9 (by simp)
 refine⟨_,_,_,(mN k0).b5 (by kernel_rfl) rfl,?_⟩
 refine⟨λvs H'=>match vs with
   |[.string s,.int _ i]=>∃k:Nat,i=k/\k<=jE/\s=⟨(sc L k).toArray⟩/\Fr [] H H'
   |_=>False,
  λvs _=>match vs with|[_,.int _ i]=>jE-i.toNat|_=>0,⟨0,rfl,by omega,by rw [YU,e],b9⟩,?_⟩
 rintro bm s i ao ⟨k,rfl,hle,rfl,bt⟩
 refine ai (λaD=> ?_) (λaD=> ?_)
 ·have bT:k<jE:=by simpa using aD
  have b0:hs[k]?=some (hs[k]'(by have:=bh.l6.1;omega)):=by simp
  have k1:L[k]?=some (L[k]'(by omega)):=by simp
  generalize hs[k]'(by have:=bh.l6.1;omega)=aO at b0
  generalize L[k]'(by omega)=l at k1
  have aH:=(bh.l6.2 _ _ _ b0 k1).1
  have cL:=hw.da l (att k1)
  refine(bh.all.bL.ab bt).get rfl b0 (decide_eq_true (by omega)) λal bS ak=>⟨_,_,_,N0 ak,?_⟩
  refine OM (aH.bL.ab bt) (by have:=aH.1;have:=cL.1;omega) (λh=>absurd cL h) λ_ aF bG=> ?_
  have dJ:=wH cL
  have hx:=eQ (ny l)
  refine te (by omega) λaN bU=> ?_
  have kI:=eQ (sc L k)
  have ap1:=eQ (cx (⟨(ny l).toArray⟩:ByteArray))
  have ap2:=OL cL
  have YX:(ya l).length=(cx (⟨(ny l).toArray⟩:ByteArray)).length:=rfl
  have IZ:=YT hw k
  refine cb (decide_eq_true (by omega)) ⟨⟨k+1,by rw [b6 (by omega)],by omega,?_,(bt.aw bG).aw bU⟩,by rw [b6 (by omega)];exact cJ bT⟩
  rw [sd,YQ k1];rfl
 ·rw [YR (by simp at aD;omega)]
  exact⟨_,rfl,hk ao bt⟩
end Go.Proofs.cU
namespace Go.Proofs
open bb (cw e9 dL fT ej mq gz jM j4)
abbrev Hx:bg.f':=nf [(cY,fM)]
theorem anb:(Hx.now ⟨#[]⟩)=none:=by
 show bg.fL [(cY,fM)] ⟨#[]⟩=none
 unfold bg.fL
 rw [if_neg (by decide)];rfl
theorem anc{f:ByteArray}(af:f.size<=64):bg.writeS 64 Hx fN f=(nf [(fN,f),(cY,fM)],0):=
 bg.Hu (st:=Hx) (l:=[(cY,fM)]) (ys:=[fN,cY]) rfl rfl rfl (by decide) (by decide) (λy=>by simp [eq_comm]) (by decide) (by decide) af (by simp [AT])
theorem ane{f t:ByteArray}(af:f.size<=64)(bf:t.size<=64):bg.writeS 64 (nf [(fN,f),(cY,fM)]) jS t=(nf [(jS,t),(fN,f),(cY,fM)],0):=
 bg.Hu (st:=nf [(fN,f),(cY,fM)]) (l:=[(fN,f),(cY,fM)]) (ys:=[fN,jS,cY]) rfl rfl rfl (by decide) (by decide) (λy=>by simp only [o3,aty,or_false,exists_eq_or_imp,exists_eq_left];constructor<;>(rintro(h|h|h)<;>simp [h])) (by decide) (by decide) bf (by simp [AT,af])
theorem anf{f t u:ByteArray}(af:f.size<=64)(bf:t.size<=64)(hu:u.size<=64):bg.writeS 64 (nf [(jS,t),(fN,f),(cY,fM)]) nd u=(nf [(nd,u),(jS,t),(fN,f),(cY,fM)],0):=
 bg.Hu (st:=nf [(jS,t),(fN,f),(cY,fM)]) (l:=[(jS,t),(fN,f),(cY,fM)]) (ys:=[fN,nd,jS,cY]) rfl rfl rfl (by decide) (by decide) (λy=>by simp only [o3,aty,or_false,exists_eq_or_imp,exists_eq_left];constructor<;>(rintro(h|h|h|h)<;>simp [h])) (by decide) (by decide) hu (by simp [AT,af,bf])
theorem ang{f t u:ByteArray}(af:f.size<=64)(bf:t.size<=64)(hu:u.size<=64):bg.deleteS 64 (nf [(nd,u),(jS,t),(fN,f),(cY,fM)]) cY=(nf [(nd,u),(jS,t),(fN,f)],0):=by
 have e:bg.tz (bg.fL [(nd,u),(jS,t),(fN,f),(cY,fM)]) cY=bg.fL [(nd,u),(jS,t),(fN,f)]:=by
  funext x
  unfold bg.tz
  by_cases h:x=cY
  ·rw [if_pos h,h]
   unfold bg.fL;rw [if_neg (show¬cY=nd by decide)]
   unfold bg.fL;rw [if_neg (show¬cY=jS by decide)]
   unfold bg.fL;rw [if_neg (show¬cY=fN by decide)];rfl
  ·rw [if_neg h]
   unfold bg.fL;congr 1
   unfold bg.fL;congr 1
   unfold bg.fL;congr 1
   unfold bg.fL;rw [if_neg h];rfl
 unfold bg.deleteS
 rw [if_pos (by decide),if_pos (by
  show(bg.fL [(nd,u),(jS,t),(fN,f),(cY,fM)] cY).isSome=true
  rw [bg.AE];exact⟨(cY,fM),by simp,rfl⟩)]
 exact bg.R7 (ch:=λnow=>bg.tz now cY) (st:=nf [(nd,u),(jS,t),(fN,f),(cY,fM)]) (l:=[(nd,u),(jS,t),(fN,f)]) (ys:=[fN,nd,jS]) rfl rfl e (by decide) (λy=>by simp only [o3,aty,or_false,exists_eq_or_imp,exists_eq_left];constructor<;>(rintro(h|h|h)<;>simp [h])) (by decide) (by decide) (by simp [af,bf,hu])
theorem Mn{l lP:List (ByteArray×ByteArray)}{now:ByteArray->Option ByteArray}(ak:now=bg.fL lP)(ay:∀p∈lP,p.1.size<=16)(aO:∀p∈lP,p.2.size<=64):bg.tE (nf l) now:=bg.amZ rfl rfl ak ay aO
theorem anh:(cU.encI [c7]).length<=64:=by
 have dN:=uw (n:=1) (by omega)
 have dm:=uw (n:=7) (by omega)
 have e:cU.encI [c7]=cD 1++((cD 7++bj (oS c7))++[]):=rfl
 have hQ:(bj (oS c7)).length=7:=rfl
 rw [e];simp only [VH,atc];omega
def ani(r it:Nat)(aN:J):List Value->J->Prop:=λvs H'=>match vs with
 |[.slice a n c]=>(n=0/\a=none/\c=0/\H'[it]?=some (.mapIter (some r) 1 #[] 1)/\Fr [] aN H')\/(n=1/\Own b' 3 aN.size H' a 1 c [0]/\H'[it]?=some (.mapIter (some r) 1 #[0] 1)/\Fr [it] aN H')
 |_=>False
def anj:List Value->J->Nat:=λvs _=>match vs with|[.slice _ n _]=>1-n|_=>0
variable{H:J}
theorem ank{r:Nat}{p1:Option Addr}{rc:Nat}{UC:Option Addr->Nat->Nat->J->Prop}(hm:dM bb.dB H r 1 [Hw p1 rc])(hk:∀a c H',bk b' H' a 1 c [0]->Fr [] H H'->UC a 1 c H'):
  cj atf (Instr.range 225 (.map (some r))) H λv H'=>∃a,v=.pointer a/\∃(cc:jT) (fV:y8),cc [.slice none 0 0] H'/\∀(bm:F) (pP:Option Addr) (n c:Nat) (H':J),cc [.slice pP n c] H'->cj atf (Instr.next (.pointer a) false 0) H' λv cv=>(v=.tuple ⟨[.bool false]⟩/\gM 104 [.slice pP n c] cv λH'=>UC pP n c H')\/∃k x,v=.tuple ⟨[.bool true,k,x]⟩/\cj atf (Instr.entry (.pointer a)) cv λv ft=>∃k x,v=.tuple ⟨[k,x]⟩/\∃fH,k=.int .i64 fH/\∀(b:Nat) (hS:J),ds ft b (.cells ⟨[.int .i64 fH]⟩ 3) hS->cj atf (Builtin.append_ ⟨[132,132]⟩ 132 ⟨[.slice pP n c,.slice (some ⟨b,0,none⟩) 1 1]⟩) hS λv iO=>∃a js fZ,v=.slice a js fZ/\cc [.slice a js fZ] iO/\fV [.slice a js fZ] iO<fV [.slice pP n c] H':=by
 refine x6 bb.dB (mt:=225) (e:=82) awb hm λit aN cp=>⟨ani r it aN,anj,.inl ⟨rfl,rfl,rfl,cp.get,Fr.refl _ _⟩,?_⟩
 rintro bm a n c bw eI
 have iZ:=cp.eq
 have z4:=cp.size
 have ry:=hm.lt
 have tv:=hm.ab bb.dB cp.ag
 rcases eI with⟨rfl,rfl,rfl,ra,f5⟩|⟨rfl,ey,ra,f5⟩
 ·refine wE bb.dB (tv.ab bb.dB f5) ra (λdG=> ?_) λx aa jY bY tl f6=> ?_
  ·have:=dG (Hw p1 rc) (by simp);simp at this
  ·simp only [ar7]at aa
   subst aa
   have Av:=(tv.ab bb.dB f5).ag bb.dB f6 (by simp;omega)
   refine zJ bb.dB Av tl (by simp) rfl ⟨0,rfl,λb cC gy=> ?_⟩
   refine iD (t:=3) (E:=b') (bytes:=8) (by kernel_rfl) (by kernel_rfl) (Own.nil b' 3 aN.size cC) (gd b' 0 gy rfl) (by have:=gy.size;have:=f5.size;have:=f6.size;omega) (by omega) λa n c ed an f8 _=> ?_
   have e:n=1:=an.1
   subst e
   exact⟨.inr ⟨rfl,an,f8.nw (gy.ag.nw tl),((f5.trans' f6 (T:=[it]) (by simp) λk hk _=>hk).trans' gy.ag (λk hk _=>hk) (by simp)).trans' f8 (λk hk _=>hk) (by simp [ax])⟩,Nat.zero_lt_one⟩
 ·refine wE bb.dB (tv.ag bb.dB f5 (by simp;omega)) ra (λdG=> ?_) λx aa jY bY tl f6=> ?_
  ·refine anl Tryz.anm rfl ey (by decide) λbY gw f6=>hk a c bY ?_ ?_
   ·simpa using gw.bL
   ·exact(cp.ag.ab f5 λk hk=>by simp at hk;omega).ab f6 λk hk=>by have:=(ey.ge k hk).1;omega
  ·simp only [ar7]at aa
   subst aa
   simp at jY
open bb (cw e9 dL fT ej mq gz jM j4)
def Ee(A:fK)(h:dH):List Value:=[.pointer (some A.d),.pointer (some A.s),.pointer (some ⟨A.di,0,none⟩),.slice h.1 h.2.1 h.2.2,.int .i64 1,.int .i64 0,.bool false,.int .i64 0,.int .i64 0,.int .i64 0,.slice none 0 0,.slice none 0 0,.int .i64 0,.pointer (some ⟨A.p,0,none⟩),.pointer none]
def ann(bw:J):List Value->J->Prop:=λvs H'=>match vs with
 |[.slice a n c,.int _ i]=>n<=1/\i=(n:Int)/\(∃xs:List Int,Own b' 3 bw.size H' a n c xs)/\Fr [] bw H'
 |_=>False
def ano:List Value->J->Nat:=λvs _=>match vs with|[_,.int _ i]=>1-i.toNat|_=>0
def UD(W:Nat->Prop)(x:Nat)(A:fK)(dr il:Nat)(H ee:J):List Value->J->Prop:=λvs H'=>match vs with
 |[.int _ i]=>(i=0/\ee=H')\/(i=1/\∃X f s',qM H' W x A A.m A.N (A.M+1) 1 dr il X (nf [(fN,f),(cY,fM)]) s' [fD] [c7]/\f.size<=64/\s'.next=1/\s'.past=0/\iP W H H')
 |_=>False
theorem Hy:fN.size<=16/\jS.size<=16/\nd.size<=16/\cY.size<=16:=by decide
theorem anp{B x N b M:Nat}{m:bg.ei}{A:fK}{K:Int->J->Prop}(h:h2 H B x N b M m A pq)(b4:ho H)(hm:m.size=64)(cQ:M<=80)(bK:7<=B)
  (hk:∀aO st' H',aU H' ⟨x,0,none⟩ (Ee A aO)->bk h3 H' aO.1 aO.2.1 aO.2.2 [fD]->aU H' ⟨A.p,0,none⟩ [.map (some A.pr)]->H'[A.pr]?=some (.map ⟨[]⟩ 0)->(∃cK iv,bg.hN H' A.s A.d cK A.cy none 0 0 [] A.Sd st' A.m A.N iv)->st'.now cY=none->iP (λk=>k<H.size/\k≠A.s.block/\k≠x) H H'->K 0 H'):
  aY atf anq ⟨[.pointer (some ⟨x,0,none⟩)]⟩ H λv H'=>∃e,v=.int .i64 e/\K e H':=by
 apply anr
 have ev:A.m.size=64:=by rw [h.m];exact hm
 have arR:=h.M
 have tY:=h.p.base
 intro r H1 aB
 have jw:=aB.eq
 have hR:=aB.size
 have d1:=h.p.ab aB.ag
 have eo:A.hs.length=1:=d1.lS.len
 refine⟨_,_,_,d1.bo.ld (j:=10) (by kernel_rfl) rfl,?_⟩
 refine bb.GM d1.aO d1.lS ⟨d1.rs.1,λs hs=>(d1.rs.2 s hs).2⟩ (by have:=d1.aO.len;omega) (by simp [pq]) λa n c ao rws an tW ay f2=> ?_
 obtain rfl:=Uy tW
 have rA:n=1:=an.1
 subst rA
 have z2:=f2.size
 have gR:r<ao.size:=by omega
 have m2:dM bb.dB ao r 0 []:=(dM.new bb.dB aB).ab bb.dB f2
 refine⟨UB r ao,AU,⟨Fr.refl _ _,.inl ⟨rfl,m2⟩⟩,?_⟩
 rintro bm i aF ⟨f3,az⟩
 refine ai (λc=> ?_) λc=> ?_
 ·obtain⟨rfl,tu⟩:i=0/\dM bb.dB aF r 0 []:=by
   rcases az with h|h
   ·exact h
   ·rw [h.1]at c;simp at c
  refine(an.bL.ag f3 (eG λk hk aq=>by simp at aq;have:=(an.ge k hk).1;omega)).get (k:=0) rfl rfl (by kernel_rfl) λal bS ak=>⟨_,_,_,bb.xi ak,?_⟩
  refine bb.KO (x:=uv) rfl λb aN ah bK f4=> ?_
  have jb:∀{G},Fr [] aN G->a7 3 G ⟨b,0,none⟩ (.int .i64 5):=λaf=>(bK.ab af).bV (j:=0) (by kernel_rfl) rfl
  have Mo:∀{G},Fr [] aN G->a7 128 G ⟨b,0,none⟩ (.agg ⟨[.int .i64 5,.int .i64 0,.int .i64 7]⟩):=λaf=>(bK.ab af).dX (by kernel_rfl) (by kernel_rfl) rfl
  have j':∀{G},Fr [] aN G->Rd atf (Instr.lookup 225 (.map (some r)) (.int .i64 0) false) G (.slice none 0 0):=λaf=>r6 (T:=bb.dB) (mt:=225) (e:=82) awb z82 (tu.ab bb.dB (f4.aw af)) (0:Int)
  have iH:=Fr.refl [] aN
  have s1:∀{G xk:J} {b2:Nat},ds G b2 (.cells ⟨[.int .i64 5,.int .i64 0,.int .i64 7]⟩ 128) xk->bk fT xk (some ⟨b2,0,none⟩) 1 1 [uv]:=λay=>gd fT uv ay rfl
  refine⟨5,jb iH,5,jb iH,5,0,7,Mo iH,Ed ⟨Mo iH,jb iH,Ed ⟨Mo iH,_,_,_,j' iH,λb2 bw e7=>⟨j' e7.ag,Mm f3 gR tu (f4.aw e7.ag) (s1 e7)⟩⟩,λb2 bw e7=>⟨jb e7.ag,Ed ⟨_,_,_,j' e7.ag,Mm f3 gR tu (f4.aw e7.ag) (s1 e7)⟩⟩⟩,λb2 bw e7=>⟨jb e7.ag,jb e7.ag,Ed ⟨jb e7.ag,Ed ⟨_,_,_,j' e7.ag,Mm f3 gR tu (f4.aw e7.ag) (s1 e7)⟩⟩⟩⟩
 obtain⟨p1,rc,m3,ans,KJ⟩:∃a c,dM bb.dB aF r 1 [Hw a c]/\bk fT aF a 1 c [uv]/\∀k∈ax a,ao.size<=k/\k<aF.size:=by
  rcases az with h|h
  ·rw [h.1]at c;simp at c
  ·exact h.2
 have iz:Fr [] H aF:=(aB.ag.aw f2).ab f3 λk hk=>by simp at hk;omega
 have d3:=h.p.ab iz
 refine⟨none,0,0,d3.bo.ld (j:=3) (by kernel_rfl) rfl,λvs H'=>vs=[.int .i64 0]/\aF=H',λ_ _=>0,⟨rfl,rfl⟩,?_⟩
 rintro bm i' _ ⟨e,rfl⟩
 simp only [List.cons.injEq,Value.int.injEq,and_true,true_and]at e
 subst e
 refine ai (λc=>by simp at c) λ_=>ank m3 λyh FR bw yu f5=> ?_
 have jQ:=iz.aw f5
 have d5:=h.p.ab jQ
 refine⟨_,d5.bo.ld (j:=2) (by kernel_rfl) rfl,cU.Ff d5.bz ?_⟩
 refine⟨ann bw,ano,⟨apG _,rfl,⟨[],Own.nil _ _ _ _⟩,Fr.refl _ _⟩,?_⟩
 rintro bm bS rA CM i bY ⟨arS,rfl,⟨xs,gw⟩,f6⟩
 refine ai (λc ph cC gy=> ?_) λ_=> ?_
 ·obtain rfl:rA=0:=by simp [pq]at c;omega
  have ex:=gw.1
  refine iD (t:=3) (E:=b') (bytes:=8) (by kernel_rfl) (by kernel_rfl) (gw.ab gy.ag) (gd b' 0 gy rfl) (by have:=gy.size;have:=f6.size;omega) (by omega) λa n c ed ly f8 _=> ?_
  have He:n=1:=by have:=ly.1;rw [VH,awj]at this;omega
  subst He
  exact⟨⟨nQ _,by kernel_rfl,⟨_,ly⟩,(f6.aw gy.ag).ab f8 λk hk=>(gw.ge k hk).1⟩,y4⟩
 have h0:=jQ.aw f6
 have d6:=h.p.ab h0
 refine⟨_,_,_,_,_,_,_,_,_,d6.bo.RR (j:=3) (by kernel_rfl) (by kernel_rfl) rfl,?_⟩
 intro il cC gy
 have arT:=gy.eq
 have vz:=gy.size
 have xt:=h0.size
 refine y6 (s:=oH) gy.bo rfl λed oa f8=> ?_
 have yS:Fr [] H ed:=(h0.aw gy.ag).ab f8 λk hk=>by simp at hk;omega
 have d8:=h.p.ab yS
 refine⟨_,d8.bo.ld (j:=1) (by kernel_rfl) rfl,λdr ee fF=> ?_⟩
 have arU:=fF.eq
 have Lx:=f8.size
 have z9:=fF.size
 have y0:=yS.aw fF.ag
 have d9:=h.p.ab y0
 have sp:=h.p.sep
 have i0:=sp.iC (i:=0) rfl
 have i1:=sp.iC (i:=1) rfl
 have i2:=sp.iC (i:=2) rfl
 have i5:=sp.iC (i:=5) rfl
 have arV:x<H.size:=i0 x (by simp)
 have arW:A.p<H.size:=i5 A.p (by simp)
 have arX:A.pr<H.size:=i5 A.pr (by simp)
 have arY:A.s.block<H.size:=i1 _ (by simp)
 have UE:∀k∈A.s.block::A.cK::A.cy::A.Sd,k≠x:=λk hk e=>sp.ne (i:=1) (j:=0) (by decide) rfl rfl hk (by simp [e])
 have ant:A.p≠A.s.block:=λe=>sp.ne (i:=5) (j:=1) (k:=A.p) (by decide) rfl rfl (by simp) (by simp [e])
 have anu:A.pr≠A.s.block:=λe=>sp.ne (i:=5) (j:=1) (k:=A.pr) (by decide) rfl rfl (by simp) (by simp [e])
 have anv:∀k∈A.bJ,k≠A.s.block:=λk hk e=>sp.ne (i:=2) (j:=1) (by decide) rfl rfl hk (by simp [e])
 have anw:A.p≠x:=λe=>sp.ne (i:=5) (j:=0) (k:=A.p) (by decide) rfl rfl (by simp) (by simp [e])
 have anx:A.pr≠x:=λe=>sp.ne (i:=5) (j:=0) (k:=A.pr) (by decide) rfl rfl (by simp) (by simp [e])
 have vy:B<=A.s.block:=(sp.2 _ (att (i:=1) rfl) _ (by simp)).1
 obtain⟨W,qo⟩:∃W:Nat->Prop,W=λk=>k<H.size/\k≠A.s.block/\k≠x:=⟨_,rfl⟩
 have Hz:∀k,k<7->W k:=λk hk=>by
  have anz:=(sp.2 _ (att (i:=0) rfl) x (by simp)).1
  rw [qo];exact⟨by omega,by omega,by omega⟩
 rw [<-qo]at hk
 have vA:qM ee W x A A.m A.N A.M 0 dr il (λk=>k<ed.size/\k≠A.s.block) Hx oH [] [c7]:=by
  refine⟨⟨A.cK,[dr],d9.bL,⟨none,0,0,[],fF.bo,Own.nil _ _ _ _,nQ _,by simp [ax],rfl⟩,λk hk aq=> ?_,λk hk aq=> ?_,λaq=>aq.2 rfl,λk hk=> ?_,λk hk=> ?_,λk hk aq=> ?_,λk hk=> ?_⟩,d9.bo,d9.bz,d9.pf,d9.pm,oa.ab fF.ag,iy,⟨⟨by omega,λe=>UE _ (by simp) e.symm⟩,⟨by omega,ant⟩,⟨by omega,anu⟩,⟨by omega,by omega⟩,λk hk=>⟨by have:=i2 k hk;omega,anv k hk⟩,λk hk=>by simp [oH,ax]at hk⟩,⟨by omega,by omega,by omega,λaq=>by have:=i2 _ aq;omega,by simp [oH,ax],anw,anx,by simp [oH,ax]⟩,λk hk=>by rw [qo]at hk;exact⟨by omega,hk.2.1⟩,b4.ab y0⟩
  ·have:=i1 k hk;simp at aq;omega
  ·simp at hk;subst hk;omega
  ·have:=i1 k hk;omega
  ·omega
  ·rcases aq with e|e
   ·exact UE k hk e
   ·have:=i1 k hk;omega
  ·rcases hk with e|e<;>omega
 refine⟨UD W x A dr il H ee,AU,.inl ⟨rfl,rfl⟩,?_⟩
 rintro bm i fx eI
 refine ai (λc=> ?_) λc=> ?_
 ·obtain⟨rfl,rfl⟩:i=0/\ee=fx:=by
   rcases eI with h|h
   ·exact h
   ·rw [h.1]at c;simp at c
  refine⟨λ_ H'=>UD W x A dr il H ee [.int .i64 1] H',?_,?_⟩
  ·have f59:Fr [] bw ee:=((f6.aw gy.ag).ab f8 λk hk=>by simp at hk;have:=f6.size;omega).aw fF.ag
   have f39:Fr [] aF ee:=f5.aw f59
   refine(yu.ab f59).get (k:=0) rfl rfl (by kernel_rfl) λal bS ak=>⟨0,vK (by kernel_rfl) ak rfl,?_⟩
   refine⟨_,_,_,_,_,_,_,_,_,vA.sZ.dX (by kernel_rfl) (by kernel_rfl) rfl,wy (s:=oH) (ps:=[]) iy (by decide) λlE f11=> ?_⟩
   refine vM (x:=z0) rfl λua n1 uY Mp f12=> ?_
   have g12:=f11.aw f12
   refine⟨λvs H'=>vs=[.slice none 0 0]/\n1=H',ai (λc=>by cases c) λ_=>⟨rfl,rfl⟩,?_⟩
   rintro bm jI jJ km _ ⟨e,rfl⟩
   simp only [List.cons.injEq,Value.slice.injEq,and_true]at e
   obtain⟨rfl,rfl,rfl⟩:=e
   have j':∀{G},Fr [] n1 G->Rd atf (Instr.lookup 225 (.map (some r)) (.int .i64 0) false) G (.slice p1 1 rc):=λaf=>r6 (T:=bb.dB) (mt:=225) (e:=82) awb z82 (m3.ab bb.dB ((f39.aw g12).aw af)) (0:Int)
   refine⟨_,_,_,j' (Fr.refl _ _),bb.Au (hs:=[]) (ss:=[]) (rows:=[]) iy .nil bb.ej.nil iy (by omega) (by omega) (by simp) λa13 n13 c13 sM hs13 ho13 hS13 _ f13=>⟨j' f13,?_⟩⟩
   have LA:hs13.length=0:=hS13.len
   obtain rfl:=asF LA
   have arZ:n13=0:=ho13.1
   refine bb.Au (hs:=[]) (ss:=[]) ho13.bL .nil bb.ej.nil (ans.ab ((f39.aw g12).aw f13)) (by omega) (by omega) (by simp) λa14 n14 c14 H14 hs14 ho14 hS14 _ f14=> ?_
   have ar0:hs14.length=1:=hS14.len
   have ar1:=ho14.1
   refine bb.GM (ss:=[(0,[(5,7)])]) ho14.bL hS14 ⟨d1.rs.1,λs hs=>(d1.rs.2 s hs).2⟩ (by omega) (by simp) λa15 n15 c15 H15 rws ho15 hro15 hn15 f15=> ?_
   obtain rfl:=Uy hro15
   have anA:n15=1:=ho15.1
   subst anA
   have g15:=(f13.aw f14).aw f15
   refine⟨0,(Mp.ab g15).bV (j:=1) (by kernel_rfl) rfl,amk ho15.bL (by decide) (by decide) ⟨by decide,by decide⟩ (by decide) (by decide) λf UF hf16 f16=> ?_⟩
   refine⟨λvs H'=>vs=[.string f,.int .i64 0]/\UF=H',ai (λc=>by simp at c) λ_=>⟨rfl,rfl⟩,?_⟩
   rintro bm bE cV _ ⟨e,rfl⟩
   simp only [List.cons.injEq,Value.string.injEq,Value.int.injEq,and_true,true_and]at e
   obtain⟨rfl,rfl⟩:=e
   have g16:=g15.aw f16
   have UG:=g12.aw g16
   have UH:=vA.ab UG
   refine⟨_,UH.bo.ld (j:=1) (by kernel_rfl) rfl,⟨#[]⟩,(Mp.ab g16).bV (j:=2) (by kernel_rfl) rfl,?_⟩
   obtain⟨ar2,anB,anC,_⟩:=UH.vP
   refine bg.yf anC ?_
   rw [anb]
   refine⟨0,(Mp.ab g16).bV (j:=1) (by kernel_rfl) rfl,?_⟩
   refine ia (v:=.agg ⟨[.int .i64 0,.int .i64 0,.int .i64 0,.int .i64 0]⟩) (by kernel_rfl) (by kernel_rfl) (λv h=>by simp [atq]at h;subst h;rfl) rfl λkE H17 hb17 hB17 f17=> ?_
   have anD:aU H17 ⟨kE,0,none⟩ [.int .i64 0,.int .i64 0,.int .i64 0,.int .i64 0]:=hB17
   refine⟨λ_ H'=>H17=H',⟨λvs H'=>vs=[.bool false]/\H17=H',ai (λc=>by cases c) λ_=>⟨rfl,rfl⟩,?_⟩,?_⟩
   ·rintro bm fj _ ⟨e,rfl⟩
    simp only [List.cons.injEq,Value.bool.injEq,and_true]at e
    subst e
    exact ai (λc=>by cases c) λ_=>ai (λc=>by simp at c) λ_=>ai (λc=>by simp at c) λ_=>rfl
   rintro bm _ rfl
   have Mq:=UG.aw f17
   have UI:=vA.ab Mq
   refine⟨_,_,_,_,_,_,_,_,_,UI.sZ.dX (by kernel_rfl) (by kernel_rfl) rfl,_,_,_,_,anD.dX (by kernel_rfl) (by kernel_rfl) rfl,amR UI.yY λs' UJ e6 gZ HA f18=> ?_⟩
   intro yV Mr Ef
   have ar3:=Ef.eq
   refine y6 (s:=s') Ef.bo rfl λMs UK f20=> ?_
   refine⟨λ_ H'=>Ms=H',ai (λc=>by simp at c) λ_=>ai (λc=>by simp at c) λ_=>rfl,?_⟩
   rintro bm _ rfl
   have z17:=Mq.size
   have ar4:=f18.size
   have ar5:=Ef.size
   have z20:=f20.size
   have UL:Fr [] ee Ms:=((Mq.aw f18).aw Ef.ag).ab f20 λk hk=>by simp at hk;omega
   have UM:bk h3 Ms s'.h.1 s'.h.2.1 s'.h.2.2 [fD]:=(HA.bL.ab Ef.ag).ag f20 (eG λk hk aq=>by simp at aq;have:=(HA.ge k hk).2;omega)
   have ar6:s'.h.2.1=1:=HA.1
   refine⟨_,_,_,_,_,_,_,_,_,UK.dX (by kernel_rfl) (by kernel_rfl) rfl,wy (s:=s') UM (by omega) λar7 f21=> ?_⟩
   rw [Hr]
   refine vM (x:=fD) rfl λks H22 hb22 anE f22=>ai (λ_=>⟨fN,anE.bV (j:=2) (by kernel_rfl) rfl,?_⟩) λc=>by cases c
   have g22:=f21.aw f22
   have z22:=g22.size
   have Mt:=vA.ab (UL.aw g22)
   have Mu:bE.size<=64:=by omega
   refine Ma Mt.vP (by omega) (by omega) (by decide) (λ_=>Mn (bg.DC _ _ _) (by simp [Hy]) (by simp [AT,Mu])) (by rw [ev];exact anc Mu) λH23 hs23 hk23=> ?_
   have UN:=Mt.Hv Hz hs23 hk23
   have anF:(λk=>(k<ed.size/\k≠A.s.block)\/(ee.size<=k/\k<H22.size)) yV:=.inr ⟨by omega,by omega⟩
   have anG:=hk23.bo (UK.ab g22) anF
   have UO:∀k∈ax s'.h.1,((k<ed.size/\k≠A.s.block)\/(ee.size<=k/\k<H22.size))/\k≠il/\k≠x:=λk hk=>by
    have:=HA.ge k hk
    exact⟨.inr ⟨by omega,by omega⟩,by omega,by omega⟩
   have anH:=hk23.bL (UM.ab g22) λk hk=>(UO k hk).1
   refine ai (λc=>by cases c) λ_=>⟨_,_,_,_,_,_,_,_,_,anG.dX (by kernel_rfl) (by kernel_rfl) rfl,y6 (s:=s') UN.sZ rfl λar8 anI f24=> ?_⟩
   have anJ:=UN.put (by omega) f24 anI anH UO
   exact .inr ⟨rfl,_,bE,s',anJ,Mu,e6,gZ,((iP.of (y0.aw (UL.aw g22))).trans (hk23.sub Mt.xB)).trans ⟨[il],f24,λk hk=>by simp at hk;rw [qo];omega⟩⟩
  ·rintro bm lE vr
   have bc:atj .i64 (0+1)=1:=by kernel_rfl
   refine⟨?_,UA⟩
   rw [bc]
   exact vr
 obtain⟨X,f,s',F,af,e6,gZ,HB⟩:∃X f s',qM fx W x A A.m A.N (A.M+1) 1 dr il X (nf [(fN,f),(cY,fM)]) s' [fD] [c7]/\f.size<=64/\s'.next=1/\s'.past=0/\iP W H fx:=by
  rcases eI with h|h
  ·rw [h.1]at c;simp at c
  ·exact h.2
 refine⟨λ_ H'=>∃X,qM H' W x A A.m A.N (A.M+1) 1 dr il X (nf [(fN,f),(cY,fM)]) s' [fD] [c7]/\iP W H H',⟨_,_,_,_,_,_,_,_,_,F.sZ.dX (by kernel_rfl) (by kernel_rfl) rfl,0,F.bo.ld (j:=12) (by kernel_rfl) rfl,?_,λfz lE rM=> ?_⟩,?_⟩
 ·refine Us F.uj gZ λs2 lE f11 fz n1 rJ=>y6 (s:=s2) rJ.bo rfl λsM LV f13=>ai (λc=>by simp at c) λ_=> ?_
  have g:Fr [] fx sM:=(f11.aw rJ.ag).ab f13 λk hk=>by simp at hk;have:=rJ.eq;have:=f11.size;omega
  exact⟨_,F.ab g,HB.trans (iP.of g)⟩
 ·have Mv:=F.ab rM.ag
  refine⟨Mv.bo.ld (j:=12) (by kernel_rfl) rfl,Mv.sZ.dX (by kernel_rfl) (by kernel_rfl) rfl,Us Mv.uj gZ λs2 n1 f12=>y6 (s:=s2) (rM.bo.ab f12) rfl λsM LV f13=>ai (λc=>by simp at c) λ_=> ?_⟩
  have g:Fr [] fx sM:=(rM.ag.aw f12).ab f13 λk hk=>by simp at hk;have:=rM.eq;omega
  exact⟨_,F.ab g,HB.trans (iP.of g)⟩
 rintro bm lE ⟨X,F,Mw⟩
 have UP:=AT
 refine⟨_,_,_,_,_,_,_,_,_,F.sZ.dX (by kernel_rfl) (by kernel_rfl) rfl,am7 (st':=λt=>nf [(jS,t),(fN,f),(cY,fM)]) F.vP F.uj e6 gZ F.yY (by have:=F.sZ.lt;simp only at this;omega) (by omega) (by omega) (λt bf=>Mn (bg.DC _ _ _) (by simp [Hy]) (by simp [UP,af,bf])) (λt bf=>by rw [ev];exact ane af bf) λt n1 bf anK UQ=> ?_⟩
 have Mx:=F.Hv Hz anK UQ
 refine⟨_,Mx.bo.ld (j:=2) (by kernel_rfl) rfl,cU.IY Mx.bz λsM f13=> ?_⟩
 have My:=Mx.ab f13
 have hu:(⟨(cU.encI [c7]).toArray⟩:ByteArray).size<=64:=by rw [eQ];exact anh
 refine Ma (name:=nd) My.vP (by omega) (by omega) (by decide) (λ_=>Mn (bg.DC _ _ _) (by simp [Hy]) (by simp only [o3,aty,or_false,forall_eq_or_imp,forall_eq];exact⟨hu,bf,af,UP⟩)) (by rw [ev];exact anf af bf hu) λH14 hs14 hk14=> ?_
 have HC:=My.Hv Hz hs14 hk14
 generalize(⟨(cU.encI [c7]).toArray⟩:ByteArray)=u at HC hu
 refine amu HC.vP (by omega) (by omega) (by decide) ?_ ?_ (by rw [ev];exact ang af bf hu) λH15 hs15 hk15=> ?_
 ·show(bg.fL [(nd,u),(jS,t),(fN,f),(cY,fM)] cY).isSome=true
  rw [bg.AE];exact⟨(cY,fM),by simp,rfl⟩
 ·refine⟨by simp [nf,bg.nC],(λbP d xs aH=>by simp [nf,bg.nC]at aH),λy d aO=> ?_⟩
  have hd':bg.fL [(nd,u),(jS,t),(fN,f),(cY,fM)] y=some d:=by
   unfold bg.tz at aO
   split at aO
   ·cases aO
   ·exact aO
  have:=bg.GX hd'
  simp only [o3,aty,or_false,Prod.mk.injEq]at this
  obtain⟨cW,cr,fG,k5⟩:=Hy
  rcases this with⟨rfl,rfl⟩|⟨rfl,rfl⟩|⟨rfl,rfl⟩|⟨rfl,rfl⟩<;>constructor<;>omega
 have ux:=HC.Hv Hz hs15 hk15
 have Mz:iP W H H15:=((((Mw.trans (UQ.sub F.xB)).trans (iP.of f13)).trans (hk14.sub My.xB)).trans (hk15.sub HC.xB))
 refine⟨0,ux.vP.err,ai (λc=>by simp at c) λ_=>⟨_,_,_,_,_,_,_,_,_,ux.sZ.dX (by kernel_rfl) (by kernel_rfl) rfl,?_⟩⟩
 obtain⟨bO,b7,cN,ek,e',hb⟩:=ux.vQ
 obtain⟨cW,cr,fG,k5,n5,n6,n7,n8⟩:=ux.ne
 refine aU.st (a:=⟨x,0,none⟩) (j:=3) (v:=vL s') ux.bo (by kernel_rfl) (by kernel_rfl) (λv h=>by simp [atq]at h;rcases h with rfl|rfl|rfl|rfl|rfl<;>rfl) (by simp [atq,mv]) λUF anL f16=> ?_
 refine aU.st (a:=⟨x,0,none⟩) (j:=10) (v:=.slice none 0 0) anL (by kernel_rfl) (by kernel_rfl) (lz rfl) (by simp [atq,mv]) λH17 hb17 f17=> ?_
 refine aU.st (a:=⟨x,0,none⟩) (j:=11) (v:=.slice none 0 0) hb17 (by kernel_rfl) (by kernel_rfl) (lz rfl) (by simp [atq,mv]) λUJ hb18 f18=> ?_
 have g18:Fr [x] H15 UJ:=(f16.trans' f17 (λk hk _=>hk) λk hk _=>hk).trans' f18 (λk hk _=>hk) λk hk _=>hk
 refine⟨false,(ux.sZ.ag g18 (by simp;omega)).bV (j:=3) (by kernel_rfl) rfl,ai (λ_=> ?_) λc=>by cases c⟩
 refine aU.st (a:=⟨x,0,none⟩) (j:=14) (v:=.pointer none) hb18 (by kernel_rfl) (by kernel_rfl) (lz rfl) (by simp [atq,mv]) λMr hb19 f19=>⟨_,rfl,?_⟩
 have g19:Fr [x] H15 Mr:=g18.trans' f19 (λk hk _=>hk) λk hk _=>hk
 obtain⟨cK,anB,anM,_⟩:=ux.vP.put g19 bO (.inl rfl)
 refine hk s'.h _ Mr ?_ (ux.uj.ag g19 (eG λi az aq=>by simp at aq;rw [aq]at az;exact n8 az)) (ux.pf.ag g19 (by simpa using n6)) (g19.get ux.pm (by simpa using n7)) ⟨cK,_,anM⟩ ?_ (Mz.trans ⟨[x],g19,λk hk=> ?_⟩)
 ·have:jR s'=[.slice s'.h.1 s'.h.2.1 s'.h.2.2,.int .i64 1,.int .i64 0,.bool false,.int .i64 0,.int .i64 0,.int .i64 0]:=by
   show([.slice s'.h.1 s'.h.2.1 s'.h.2.2,.int .i64 s'.next,.int .i64 s'.past,.bool false,.int .i64 0,.int .i64 0,.int .i64 0]:List Value)=_
   rw [e6,gZ]
  simpa [atq,mv,Ee,this,e6,gZ]using hb19
 ·show bg.fL [(nd,u),(jS,t),(fN,f)] cY=none
  unfold bg.fL;rw [if_neg (show¬cY=nd by decide)]
  unfold bg.fL;rw [if_neg (show¬cY=jS by decide)]
  unfold bg.fL;rw [if_neg (show¬cY=fN by decide)];rfl
 ·simp at hk;rw [qo,hk];exact λh=>h.2.2 rfl
open cU (eu iu)
open bb (cw e9 dL ej jM j4 fJ)
theorem vO.of{B x:Nat}{A:fK}{db:eA}(h:iN H B x A db):vO H x (mv A db.past) none 0 0 [] A.p A.pr:=
 ⟨h.bo,rfl,rfl,rfl,iy,apG _,by simp,h.pf,h.pm⟩
theorem anN{B x N b M:Nat}{m:bg.ei}{A:fK}{K:Bool->Int->J->Prop}(h:h2 H B x N b M m A pq)(b4:ho H)(hm:m.size=64)(cQ:M<=80)(bK:7<=B)
  (hk:∀aO st' H',aU H' ⟨x,0,none⟩ (Ee A aO)->bk h3 H' aO.1 aO.2.1 aO.2.2 [fD]->aU H' ⟨A.p,0,none⟩ [.map (some A.pr)]->H'[A.pr]?=some (.map ⟨[]⟩ 0)->(∃cK iv,bg.hN H' A.s A.d cK A.cy none 0 0 [] A.Sd st' A.m A.N iv)->st'.now cY=none->iP (λk=>k<H.size/\k≠A.s.block/\k≠x) H H'->K true 0 H'):
  aY atf anO ⟨[.pointer (some ⟨x,0,none⟩)]⟩ H λv H'=>∃b e,v=.tuple ⟨[.bool b,.int .i64 e]⟩/\K b e H':=by
 apply anP
 refine T9 (vO.of h.p) λH1 f1=>T' (h.p.ab f1).bo rfl (h.p.ab f1).bL ?_
 have e:(pq.st.now cY).isSome=true:=by
  show(bg.fL [(cY,fM)] cY).isSome=true
  rw [bg.AE];exact⟨(cY,fM),by simp,rfl⟩
 rw [e]
 refine ai (λ_=>anp (h.ab f1) (b4.ab f1) hm cQ bK λaO st' ao h1 ae au a6 bu ca dJ=>⟨_,_,rfl,?_⟩) λc=>by cases c
 exact hk aO st' ao h1 ae au a6 bu ca ((iP.of f1).trans (dJ.sub λk hk=>⟨by have:=f1.size;omega,hk.2⟩))
theorem anQ{x:Nat}{A:fK}{aO:dH}{K:Int->J->Prop}(ah:aU H ⟨x,0,none⟩ (Ee A aO))(aa:bk h3 H aO.1 aO.2.1 aO.2.2 [fD])(hk:∀H',Fr [] H H'->K 0 H'):
  aY atf anR ⟨[.pointer (some ⟨x,0,none⟩),.int .i64 0]⟩ H λv H'=>∃e,v=.int .i64 e/\K e H':=by
 apply anS
 have aH:=aa.len
 simp only [asE,atc]at aH
 refine⟨_,_,_,_,_,_,_,_,_,ah.RR (j:=3) (by kernel_rfl) (by kernel_rfl) rfl,wy (s:=⟨aO,1,0⟩) aa (by simp only;omega) λH1 f1=> ?_⟩
 rw [Hr]
 refine vM (x:=fD) rfl λb ao b8 bK f2=>ai (λ_=>⟨0,bK.bV (j:=1) (by kernel_rfl) rfl,_,rfl,hk ao (f1.aw f2)⟩) λc=>by cases c
theorem anT:iu H [] []:=⟨rfl,λi x m h=>by simp at h⟩
theorem anU:nN [] 0 10=0:=by
 unfold nN
 rw [if_neg (by simp),if_pos (by decide)]
theorem UR{K:Bool->J->Prop}(b4:ho H)(dJ:7<=H.size)(hk:∀H',Fr [] H H'->K true H'):aY atf US ⟨[]⟩ H λv H'=>∃b,v=.bool b/\K b H':=by
 apply anV
 refine T1 b4.tab λx A H1 h1 f1=>⟨λ_ H'=>H1=H',ai (λc=>by simp at c) λ_=>ai (λc=>by cases c) λ_=>rfl,?_⟩
 rintro bm _ rfl
 intro b ao bH b1 aF bF
 have au:=(h1.ab bH.ag).ab bF.ag
 have f13:=bH.ag.aw bF.ag
 have iz:=f1.aw f13
 have UT:(bg.oc 64).size=64:=by decide
 have bL:bk gb aF (some ⟨b,0,none⟩) 1 1 c7:=(gd gb (Mk,Ht) bH rfl).ab bF.ag
 refine⟨λ_ H'=>∃eM,h2 H' H.size x 50 400000 1 (bg.oc 64) eM pq/\gL H.size aF H',?_,?_⟩
 ·refine SD (ms:=[((some ⟨b,0,none⟩,1,1),5,7)]) (ps:=rQ) au (gd oA _ bF rfl) (.cons ⟨bL,rfl⟩ .nil) (by simp) (λp bh=>by simp only [rQ,ar7]at bh;subst bh;exact⟨by decide,by decide⟩) (by omega) (by omega) (by omega) (by omega) dJ (λe H' eM he az ay _ _=> ?_) λaN y9 _ _ a6 Eg=>ai (λc=>by simp at c) λ_=> ?_
  ·refine absurd ⟨am5 p7 rfl rfl,?_⟩ ay
   rw [UT]
   show mY 64 p7 (qK [] rQ)=0
   rw [Uv];exact am2 p7 rfl
  ·have e:(qK p7.L rQ).foldl fU {p7 with st:=j7 p7 (qK p7.L rQ)}=pq:=by
    show(qK [] rQ).foldl fU {p7 with st:=j7 p7 (qK [] rQ)}=pq
    rw [Uv];exact am4 p7 rfl rfl rfl rfl
   rw [e]at a6
   refine Ua (vO.of a6.p) rfl a6.p.bL λbw f5=> ?_
   have e:(pq.st.now cY).isNone=false:=by
    have:(bg.fL [(cY,fM)] cY).isSome=true:=by rw [bg.AE];exact⟨(cY,fM),by simp,rfl⟩
    show(bg.fL [(cY,fM)] cY).isNone=false
    revert this
    cases bg.fL [(cY,fM)] cY<;>simp
   rw [e]
   exact ai (λc=>by cases c) λ_=>⟨y9,a6.ab f5,Eg.trans (gL.of f5)⟩
 rintro bm aN ⟨y9,a6,Eg⟩
 have UU:gL H.size H aN:=(gL.of iz).trans Eg
 have Px:=b4.akd UU dJ
 have fin:∀{H'},gL H.size H H'->Fr [] H H':=λcP=>by
  obtain⟨S,h1,ae⟩:=cP
  exact⟨ae.size,λk hk _=>ae.block k hk λaq=>by have:=h1 k aq;omega⟩
 refine G7 a6 (xs:=[]) (ms:=[]) iy anT (by omega) (by omega) (λbw he f5=>absurd anU he) λaK aQ aT bw hs' he an bI a1 f5=> ?_
 rw [am6]at bI
 have aH:hs'.length=1:=bI.len
 obtain⟨y,rfl⟩:∃y,hs'=[y]:=by
  match hs',aH with
  |[y],_=>exact⟨y,rfl⟩
 have rA:aQ=1:=an.1
 subst rA
 obtain⟨jZ,av⟩:y.1=0/\bk bb.encS bw y.2.1 y.2.2.1 y.2.2.2 [(5,7)]:=by
  cases bI with|cons h _=>exact h
 have qA:y.2.2.1=1:=av.len
 have bu:=a6.ab f5
 have sp:=bu.p.sep
 have anz:=sp.2 _ (att (i:=0) rfl) x (by simp)
 have vy:=sp.2 _ (att (i:=1) rfl) y9.s.block (by simp)
 have o9:=(a6.p.sep.2 _ (att (i:=0) rfl) x (by simp)).2
 have Jf:=(a6.p.sep.2 _ (att (i:=1) rfl) y9.s.block (by simp)).2
 refine anN bu (Px.ab f5) UT (by omega) dJ λaO st' bY dN dm hQ hC ⟨cK,iv,yZ⟩ sC q7=> ?_
 have hb:bk dL bY aK 1 aT [y]:=q7.bL an.bL λk hk=>by
  have:=an.ge k hk
  exact⟨by omega,by omega,by omega⟩
 have anW:gL H.size H bY:=(UU.trans (gL.of f5)).trans (by
  obtain⟨T,t1,t2⟩:=q7
  refine⟨T,λk hk=> ?_,t1⟩
  rcases atv k H.size with q|q
  ·exact absurd ⟨by omega,by omega,by omega⟩ (t2 k hk)
  ·exact q)
 refine ai (λ_=>ai (λ_=>hb.get (k:=0) rfl rfl (by kernel_rfl) λal bS ak=>⟨y.2.1,y.2.2.1,y.2.2.2,kt (j:=1) (by kernel_rfl) ak rfl,?_⟩) λc=>by simp at c) λc=>by simp at c
 rw [qA]
 refine ai (λ_=>ai (λ_=>ai (λ_=>anQ dN dm λcC f7=>ai (λ_=> ?_) λc=>by simp at c) λc=>by simp at c) λc=>by cases c) λc=>by simp at c
 refine Ua (ps:=[fD]) (p:=y9.p) (pr:=y9.pr) (vs:=Ee y9 aO) ⟨dN.ab f7,rfl,rfl,rfl,dm.ab f7,?_,?_,hQ.ab f7,f7.nw hC⟩ rfl (yZ.ab f7) λed f8=> ?_
 ·have:=dm.len;simp only [asE,atc]at this;omega
 ·intro z aC
  simp only [ar7]at aC
  subst aC
  exact⟨by decide,by decide⟩
 rw [sC]
 exact⟨_,rfl,hk ed (((fin anW).aw f7).aw f8)⟩
theorem UW:(rL 0).size=2:=by
 unfold rL
 rw [avN,eQ]
 have h1:(oo 0).length<=1:=uw (n:=ve 0) (by decide)
 have ae:1<=(oo 0).length:=K6 _
 have au:(⟨#[58]⟩:ByteArray).size=1:=rfl
 omega
theorem anX(r:ByteArray):(atn ((rL 0++r).extract (Int.toNat 0) (Int.toNat 2))==atn (rL 0))=true:=by
 rw [q6]
 refine decide_eq_true (ja ?_)
 show bj ((rL 0++r).extract 0 2)=bj (rL 0)
 rw [vc,List.drop_zero,kF,List.take_append_of_le_length (by rw [c6,UW];exact nQ _),asG (by rw [c6,UW];exact nQ _)]
theorem anY{a:Option Addr}{n c:Nat}{os:List sY}{o:sY}(aa:bk oF H a n c os)(an:∀o∈os,xw H o)(hO:xw H o)(b4:ho H)(dJ:7<=H.size):
  aY atf anZ ⟨[.slice a n c,Hm o]⟩ H λv H'=>v=.bool true/\Fr [] H H':=by
 apply an0
 intro b H1 aB
 have ah:aU H1 ⟨b,0,none⟩ (oF.cells o):=aB.bo
 have nt:∀{G},Fr [] H1 G->a7 28 G ⟨b,0,none⟩ (Hm o):=λaf=>(ah.ab af).dX (by kernel_rfl) (by kernel_rfl) rfl
 refine⟨_,_,_,_,_,_,_,_,_,_,_,_,nt (Fr.refl _ _),λb1 ao bH=> ?_⟩
 have f12:=bH.ag
 have fW:=aB.ag.aw f12
 have su:=b4.ab fW
 have z2:=fW.size
 have one:bk oF ao (some ⟨b1,0,none⟩) 1 1 [o]:=gd oF o bH rfl
 have MA:∀{G:J},Fr [] ao G->aY atf US ⟨[]⟩ G λv H'=>∃b,v=.bool b/\(atp b=.bool true/\Fr [] H H'):=λaf=>UR (su.ab af) (by have:=af.size;omega) λH' bE=>⟨rfl,(fW.aw af).aw bE⟩
 refine⟨λ_ H'=>Fr [] ao H'/\n<=30/\(∀o∈os,vJ H' o)/\vJ H' o,?_,?_⟩
 ·refine TW (aa.ab fW) (λo h=>(an o h).ab fW) (by decide) λdN h1=>ai (λ_=>MA (Fr.refl _ _)) λc1=>TW one (λp bh=>by simp only [ar7]at bh;subst bh;exact hO.ab fW) (by decide) λdm ae=>ai (λ_=>MA (Fr.refl _ _)) λc2=> ?_
  obtain⟨cW,IG⟩:=h1 c1
  obtain⟨_,jk⟩:=ae c2
  refine UR su (by omega) λaF f3=>ai (λc=>by cases c) λ_=>⟨f3,by omega,λp bh=>(IG p bh).ab f3,(jk o (by simp)).ab f3⟩
 rintro bm aF ⟨f3,ar9,PA,Cj⟩
 have iz:=fW.aw f3
 have z3:=iz.size
 have Pw:=b4.ab iz
 refine T1 Pw.tab λx A aN a6 f4=>⟨λ_ H'=>aN=H',ai (λc=>by simp at c) λ_=>ai (λc=>by cases c) λ_=>rfl,?_⟩
 rintro bm _ rfl
 have UX:7<=aF.size:=by omega
 have fin:∀{H'},gL aF.size aF H'->Fr [] aF H':=λcP=>by
  obtain⟨S,h1,ae⟩:=cP
  exact⟨ae.size,λk hk _=>ae.block k hk λaq=>by have:=h1 k aq;omega⟩
 have jr:=aa.len
 refine⟨λvs H'=>match vs with|[.int _ i]=>∃(k:Nat) (eM:fK) (vC:eA),i=k/\k<=n/\h2 H' aF.size x (200*k) (400000*k) k (bg.oc 120) eM vC/\gL aF.size aF H'|_=>False,
  λvs _=>match vs with|[.int _ i]=>n-i.toNat|_=>0,⟨0,A,p7,rfl,apG _,a6,gL.of f4⟩,?_⟩
 rintro bm i bw ⟨k,Sj,an1,rfl,du,bu,Eh⟩
 have f35:=fin Eh
 have jQ:=iz.aw f35
 have Py:=b4.ab jQ
 refine ai (λc=> ?_) λc=> ?_
 ·have aT:k<n:=by simpa using c
  obtain⟨p,bh⟩:=eR (l:=os) (i:=k) (by omega)
  refine(aa.ab jQ).get rfl bh (decide_eq_true (by omega)) λal bS ak=>⟨_,_,_,_,_,_,_,_,_,_,_,_,(show a7 28 bw _ (Hm p)from r' (by kernel_rfl) (by kernel_rfl) ak),?_⟩
  refine TU bu Py ((PA p (att bh)).ab f35) (by decide) (by omega) (by omega) (by omega) UX λs t e bY cP _=> ?_
  obtain⟨he,an2,an3,_,_,ca,AV⟩:=cP
  rw [b6 (by omega)]
  exact⟨⟨k+1,an2,an3,rfl,by omega,ca.mono (by omega) (by omega) (nQ _),Eh.trans AV⟩,cJ aT⟩
 ·refine S0 bu (by omega) λbY f6=>LL (bu.p.ab f6) ?_
  have ca:=bu.ab f6
  have AV:=Eh.trans (gL.of f6)
  have f36:=fin AV
  refine⟨_,_,_,_,_,_,_,_,_,_,_,_,nt ((f12.aw f3).aw f36),TU ca (b4.ab (iz.aw f36)) (Cj.ab f36) (by decide) (by omega) (by omega) (by omega) UX λs t e cC cP hs=> ?_⟩
  obtain⟨he,ar',an4,an5,hlen,rC,MB⟩:=cP
  have f37:=fin (AV.trans MB)
  have p4:=iz.aw f37
  refine ai (λ_=>MA (f3.aw f37)) λc2=> ?_
  have gZ:2<=s.size:=by simp at c2;omega
  obtain⟨r,rfl⟩:∃r,s=rL e++r:=by
   rcases hs with h|h
   ·omega
   ·exact h
  refine cb (decide_eq_true (by omega)) (vE ⟨by decide,by decide⟩ λed f8 _=>ai (λ_=>LL (rC.p.ab f8) ⟨?_,p4.aw f8⟩) λc3=> ?_)
  ·rw [decide_eq_true (show((an4.L.length:Nat):Int)>=((an1.L.length:Nat):Int) by omega)]
  ·have pX:e≠0:=λh=>by rw [h,anX]at c3;cases c3
   obtain rfl:=an5 pX
   refine S0 (rC.ab f8) (by omega) λee f9=>ai (λ_=>LL ((rC.p.ab f8).ab f9) ⟨?_,(p4.aw f8).aw f9⟩) λc4=> ?_
   ·simp
   ·simp at c4
end Go.Proofs
namespace Go.Proofs.YtlafckjfkaldaaaGreatDoor
open Go.ChangeShapes Go.WideShapes Go.ChangeAt Go.RowKit
abbrev s3:List (String×DataW Unit):=[("math/bits.deBruijn32tab",Rows.laid_math_bits_deBruijn32tab),("math/bits.deBruijn64tab",Rows.laid_math_bits_deBruijn64tab),("internal/strconv.uint64pow10",Rows.laid_internal_strconv_uint64pow10),("strandline/frame.steps",Rows.laid_strandline_frame_steps),("strconv.ErrRange",Rows.laid_strconv_ErrRange),("strconv.ErrSyntax",Rows.laid_strconv_ErrSyntax)]
theorem aoF:Tryz.prog.globalNamed "strandline/frame.steps" =some 0:=by kernel_rfl
open cU (eu) in
theorem aoG{H:J}{m:Nat}{r:List Value}(aA:gh atf H m 116 r)(aH:r.length=cU.hg.sz):∃x:eu,cU.hg.cells x=r/\∃S,bk bs.dT H x.2.2.2.1 x.2.2.2.2.1 x.2.2.2.2.2 S:=by
 obtain⟨_,af⟩:=aA.struct Tryz.underlying116
 obtain⟨c0,c1,c2,c3,rfl⟩:=U0 aH
 obtain⟨_,aD⟩:=af 0 _ rfl
 obtain⟨_,h1⟩:=af 1 _ rfl
 obtain⟨_,ae⟩:=af 2 _ rfl
 obtain⟨_,au⟩:=af 3 _ rfl
 obtain⟨fk,fC,_⟩:=gh.int atA aD
 obtain⟨bO,bc,_⟩:=gh.str atB h1
 obtain⟨b7,bN,_⟩:=gh.str atB ae
 obtain⟨a,n,c,S,dP,bI,_,_⟩:=au.bL (E:=bs.dT) (G:=λ_=>True) Tryz.underlying114 (by kernel_rfl) λm r aA aH=>by
  obtain⟨s,e,_⟩:=gh.str atB aA
  exact⟨s,e.symm,trivial⟩
 have iG:Tryz.prog.cellsOf 3=1:=by kernel_rfl
 have El:Tryz.prog.cellsOf 9=1:=by kernel_rfl
 have aoH:Tryz.prog.cellsOf 114=1:=by kernel_rfl
 simp [iG,El,aoH]at fC bc bN dP
 exact⟨(fk,bO,b7,a,n,c),by rw [fC,bc,bN,dP];rfl,S,bI⟩
theorem aoI{H:J}{m:Nat}{r:List Value}(aA:gh atf H m 48 r)(aH:r.length=gb.sz):∃x:gT,gb.cells x=r/\True:=by
 obtain⟨_,af⟩:=aA.struct Tryz.underlying48
 obtain⟨c0,c1,rfl⟩:=an9 aH
 obtain⟨_,aD⟩:=af 0 _ rfl
 obtain⟨_,h1⟩:=af 1 _ rfl
 obtain⟨fk,fC,_⟩:=gh.str atB aD
 obtain⟨bO,bc,_⟩:=gh.str atB h1
 have ak:Tryz.prog.cellsOf 9=1:=by kernel_rfl
 simp [ak]at fC bc
 exact⟨(fk,bO),by rw [fC,bc];rfl,trivial⟩
theorem aoJ{H:J}{m:Nat}{r:List Value}(aA:gh atf H m 46 r)(aH:r.length=oA.sz):∃x:rI,oA.cells x=r/\((∃l,bk gb H x.1.1 x.1.2.1 x.1.2.2 l)/\dp x.2.2):=by
 obtain⟨_,af⟩:=aA.struct Tryz.underlying46
 obtain⟨c0,c1,c2,rfl⟩:=an' aH
 obtain⟨_,aD⟩:=af 0 _ rfl
 obtain⟨_,h1⟩:=af 1 _ rfl
 obtain⟨_,ae⟩:=af 2 _ rfl
 obtain⟨a,n,c,L,fC,gF,_,_⟩:=aD.bL (E:=gb) (G:=λ_=>True) Tryz.underlying44 (by kernel_rfl) λm r aA aH=>aoI aA aH
 obtain⟨bO,bc,_⟩:=gh.int atA h1
 obtain⟨b7,bN,vi⟩:=gh.int atA ae
 have iG:Tryz.prog.cellsOf 3=1:=by kernel_rfl
 have aoK:Tryz.prog.cellsOf 44=1:=by kernel_rfl
 simp [iG,aoK]at fC bc bN
 exact⟨((a,n,c),bO,b7),by rw [fC,bc,bN];rfl,⟨L,gF⟩,wf_i64 vi⟩
theorem Vk{H:J}{m:Nat}{r:List Value}(aA:gh atf H m 28 r)(aH:r.length=oF.sz):∃x:sY,oF.cells x=r/\xw H x:=by
 obtain⟨_,af⟩:=aA.struct awd
 obtain⟨c0,en,rfl⟩:∃c0 en,r=c0::en:=by cases r with|nil=>simp [oF]at aH|cons a b=>exact⟨a,b,rfl⟩
 obtain⟨c1,gY,rfl⟩:∃c0 eU,en=c0::eU:=by cases en with|nil=>simp [oF]at aH|cons a b=>exact⟨a,b,rfl⟩
 obtain⟨c2,wZ,rfl⟩:∃c0 eU,gY=c0::eU:=by cases gY with|nil=>simp [oF]at aH|cons a b=>exact⟨a,b,rfl⟩
 obtain⟨c3,Cz,rfl⟩:∃c0 eU,wZ=c0::eU:=by cases wZ with|nil=>simp [oF]at aH|cons a b=>exact⟨a,b,rfl⟩
 obtain⟨c4,c5,k6,pI,rfl⟩:=U0 (show Cz.length=4 by simp [oF]at aH;exact aH)
 obtain⟨_,aD⟩:=af 0 _ rfl
 obtain⟨_,h1⟩:=af 1 _ rfl
 obtain⟨_,ae⟩:=af 2 _ rfl
 obtain⟨_,au⟩:=af 3 _ rfl
 obtain⟨_,a6⟩:=af 4 _ rfl
 obtain⟨_,bu⟩:=af 5 _ rfl
 obtain⟨_,ca⟩:=af 6 _ rfl
 obtain⟨_,aZ⟩:=au.struct Tryz.underlying26
 obtain⟨_,g0⟩:=aZ 0 _ rfl
 obtain⟨_,g1⟩:=aZ 1 _ rfl
 obtain⟨fk,fC,_⟩:=gh.int atA aD
 obtain⟨cM,cW,dN,ms,bc,ug,_,g⟩:=h1.bL (E:=oA) (G:=λx=>(∃l,bk gb H x.1.1 x.1.2.1 x.1.2.2 l)/\dp x.2.2) Tryz.underlying23 (by kernel_rfl) λm r aA aH=>aoJ aA aH
 obtain⟨a2,cr,dm,xs,bN,kM,_,sD⟩:=ae.bL (E:=cU.hg) (G:=λx=>∃S,bk bs.dT H x.2.2.2.1 x.2.2.2.2.1 x.2.2.2.2.2 S) Tryz.underlying24 (by kernel_rfl) λm r aA aH=>aoG aA aH
 obtain⟨cN,dP,_⟩:=gh.int atA g0
 obtain⟨ek,iZ,_⟩:=gh.int atA g1
 obtain⟨e',je,_⟩:=gh.int atA a6
 obtain⟨hb,nO,_⟩:=gh.int atA bu
 obtain⟨kT,vD,_⟩:=gh.str atB ca
 have iG:Tryz.prog.cellsOf 3=1:=by kernel_rfl
 have El:Tryz.prog.cellsOf 9=1:=by kernel_rfl
 have MJ:Tryz.prog.cellsOf 23=1:=by kernel_rfl
 have MK:Tryz.prog.cellsOf 24=1:=by kernel_rfl
 have ML:Tryz.prog.cellsOf 26=2:=by kernel_rfl
 simp [iG,El,MJ,MK,ML]at fC bc bN dP iZ je nO vD
 exact⟨(fk,(cM,cW,dN),(a2,cr,dm),cN,ek,e',hb,kT),by rw [fC,bc,bN,dP,iZ,je,nO,vD];rfl,⟨ms,ug,g⟩,xs,kM,sD⟩
theorem aoC{H:J}{vs:List Value}(h:Ei atf H [22,28] vs)(b4:ho H)(dJ:7<=H.size):aY atf 3 ⟨vs⟩ H λv H'=>v=.bool true/\Fr [] H H':=by
 obtain⟨v0,_,rfl,aD,v1,_,rfl,h1,rfl⟩:=h
 obtain⟨a,n,c,os,rfl,eo,ak,aZ⟩:=aD.bL (E:=oF) (G:=xw H) Tryz.underlying22 (by kernel_rfl) λm r aA aH=>Vk aA aH
 obtain⟨cs,m,rfl,hF⟩:=h1.struct awd
 obtain⟨o,rfl,an⟩:=Vk hF ((hF.struct awd).1.trans (by kernel_rfl))
 exact anY eo aZ an b4 dJ
theorem Vl{P:Program}{w:World}{n:String}{d:DataW Unit}:∀{l:List (String×DataW Unit)} {ps:List MemPlace},DataW.LaidVars P w l ps->(n,d)∈l->∃g t cs fuel p,P.globalNamed n=some g/\(P.globals[g]?).map (·.type)=some t/\w.var? P n=some cs/\DataW.trod (λ_=>()) P w 0 (λ_=>true) false fuel t cs.toList=some (d,p)
 |[],_,_,h=>by cases h
 |(aQ,d')::r,ps,h,hm=>by
  obtain⟨g,t,cs,fuel,p,q,h1,ae,au,a6,bu,_⟩:=h
  rcases o3.1 hm with e|hm
  ·cases e;exact⟨g,t,cs,fuel,p,h1,ae,au,a6⟩
  ·exact Vl bu hm
theorem aoL{P:Program}{w:World}{n:String}{g:Nat}{cs:Array Value}(aZ:P.globalNamed n=some g)(h:w.var? P n=some cs):∃t f,w.heap[g]?=some (.cells cs t f):=by
 unfold World.var? at h
 rw [aZ,awh]at h
 split at h
 ·rename_i c t f e
  cases h;exact⟨t,f,e⟩
 ·cases h
theorem Vm{P:Program}{w:World}{fuel g t e n:Nat}{k:IntKind}{cs:List Value}{zs:List Int}{p:List MemPlace}(hu:P.underlying t=some (.array n e))(aoM:P.underlying e=some (.int k))(OP:P.cellsOf e=1)(aoN:P.cellsOf t=n)
  (h:DataW.trod (λ_=>()) P w 0 (λ_=>true) false fuel t cs=some (.agg (zs.map λz=>.lit (.int k z)),p)):cs=zs.map (Value.int k):=by
 obtain⟨xs,m,rfl,aa,hlen,ay,rz⟩:=DataW.trod_array hu h
 have kM:xs.map (·.1)=zs.map λz=>(.lit (.int k z):DataW Unit):=(DataW.agg.inj (Prod.mk.injEq _ _ _ _▸aa).1).symm
 have R0:zs.length=n:=by have:=congrArg List.length kM;simp at this;omega
 rw [aoN]at hlen
 apply List.ext_getElem?
 intro i
 by_cases az:i<n
 ·have h1:=rz i az
  rw [OP,Nat.mul_one]at h1
  obtain⟨x,mW⟩:=eR (l:=xs) (i:=i) (by omega)
  rw [mW]at h1
  obtain⟨v,bc,bN,_⟩:=DataW.trod_int aoM h1
  have a6:=congrArg (·[i]?) kM
  simp only [apN,mW,apP]at a6
  obtain⟨z,aC⟩:=eR (l:=zs) (i:=i) (by omega)
  rw [aC,apP]at a6
  have bu:v=z:=by
   have:=(Option.some.inj a6)
   rw [bN]at this
   simpa using this
  have ca:=congrArg List.head? bc
  rw [List.head?_take,if_neg (by decide),List.head?_drop]at ca
  rw [apN,aC,ca,bu];rfl
 ·rw [awm.2 (by omega),awm.2 (by simp;omega)]
theorem aoO{P:Program}{w:World}{fuel t:Nat}{ms:Array String}{cs:List Value}{bP:String}{x:DataW Unit}{p:List MemPlace}{d:TypeDesc}(aO:P.underlying t=some d)(az:∃ms,d=.interface ms)
  (h:DataW.trod (λ_=>()) P w 0 (λ_=>true) false fuel t cs=some (.iface bP x,p)):∃u v,cs=[.iface u v]:=by
 obtain⟨ms,rfl⟩:=az
 cases fuel with
 |zero=>simp [DataW.trod]at h
 |succ m=>
  unfold DataW.trod at h
  rw [aO]at h
  split at h<;>simp_all
theorem aoP:(Rows.laid_strandline_frame_steps:DataW Unit)=.agg ((yO.map fun(x:Nat)=>(x:Int)).map λz=>.lit (.int .u16 z)):=rfl
theorem aoQ:(Rows.laid_internal_strconv_uint64pow10:DataW Unit)=.agg (Lib.pow10Tab.map λz=>.lit (.int .u64 z)):=rfl
theorem aoA{w:World}(hs:w.ShapedOpen atf)(h:laidMetH atf s3 w):ho w.heap/\7<=w.heap.size:=by
 rw [MakeChecks.laidMetH_plain _ _ _ (by kernel_rfl)]at h
 obtain⟨ps,aI,_,_⟩:=h
 have get:∀{n:String} {d:DataW Unit} {g t:Nat},(n,d)∈s3->Tryz.prog.globalNamed n=some g->(Tryz.prog.globals[g]?).map (·.type)=some t->∃(cs:Array Value) (f:TypeId×Nat×Nat) (fuel:Nat) (p:List MemPlace),w.heap[g]?=some (.cells cs f.1 f.2)/\DataW.trod (λ_=>()) atf w 0 (λ_=>true) false fuel t cs.toList=some (d,p):=λhm aZ bf=>by
  obtain⟨sD,t',cs,fuel,p,h1,ae,au,a6⟩:=Vl aI hm
  obtain rfl:=Option.some.inj (aZ.symm.trans h1)
  obtain rfl:=Option.some.inj (bf.symm.trans ae)
  obtain⟨tt,f,e⟩:=aoL h1 au
  exact⟨cs,(tt,f),fuel,p,e,a6⟩
 have Vn:∀{n:String} {bP:String} {x:DataW Unit} {g:Nat},(n,.iface bP x)∈s3->Tryz.prog.globalNamed n=some g->(Tryz.prog.globals[g]?).map (·.type)=some 213->∃u x,hM w.heap ⟨g,0,none⟩=some (.iface u x):=λhm aZ bf=>by
  obtain⟨cs,f,fuel,p,e,a6⟩:=get hm aZ bf
  obtain⟨u,v,bN⟩:=aoO (ms:= #[]) awa ⟨_,rfl⟩ a6
  refine⟨u,v,?_⟩
  have:=re e 0
  rw [this,<-avP,bN];rfl
 refine⟨⟨?_,?_,?_,Vn (n:= "strconv.ErrSyntax") (.tail _ (.tail _ (.tail _ (.tail _ (.tail _ (.head _)))))) (by kernel_rfl) (by kernel_rfl),Vn (n:= "strconv.ErrRange") (.tail _ (.tail _ (.tail _ (.tail _ (.head _))))) (by kernel_rfl) (by kernel_rfl)⟩,?_⟩
 ·obtain⟨cs,f,fuel,p,e,a6⟩:=get (n:= "strandline/frame.steps") (d:=Rows.laid_strandline_frame_steps) (by simp [s3]) aoF (t:=349) (by kernel_rfl)
  rw [aoP]at a6
  have ak:=Vm (g:=0) Tryz.underlying349 Tryz.underlying348 (by kernel_rfl) (by kernel_rfl) a6
  intro k hk
  have:=re e k
  rw [this,<-avP,ak]
  have bu:yO[k]?=some (tp k):=by
   unfold tp
   rw [List.getD_eq_getElem?_getD,List.getElem?_eq_getElem (show k<yO.length from hk)];rfl
  simp [bu]
 ·have h1:=hs.1 1 #[.int .i64 0] 3 (of_decide_eq_true (by kernel_rfl)) (by kernel_rfl)
  obtain⟨cs,e,dC,iT⟩:=h1
  obtain⟨ts,bc,_,dP⟩:=iT (by kernel_rfl)
  have bN:Tryz.prog.cellTypes Tryz.prog.depth 3=some [3]:=by kernel_rfl
  obtain rfl:=Option.some.inj (bN.symm.trans bc)
  have e6:cs.size=1:=dC
  obtain⟨v,aI⟩:∃v,cs[0]?=some v:=⟨cs[0],by simp⟩
  obtain⟨u,hu,ak⟩:=dP 0 v aI
  simp at hu
  subst hu
  unfold Cell.ok at ak
  rw [atA]at ak
  have:=re e 0
  rw [aI]at this
  cases v<;>simp at ak
  obtain⟨rfl,_⟩:=ak
  exact⟨_,this⟩
 ·obtain⟨cs,f,fuel,p,e,a6⟩:=get (n:= "internal/strconv.uint64pow10") (d:=Rows.laid_internal_strconv_uint64pow10) (g:=2) (by simp [s3]) (by kernel_rfl) (t:=516) (by kernel_rfl)
  rw [aoQ]at a6
  have ak:=Vm (g:=2) Tryz.underlying516 Tryz.underlying89 (by kernel_rfl) (by kernel_rfl) a6
  refine⟨f.1,f.2,?_⟩
  rw [e,<-ak]
 ·obtain⟨cs,f,fuel,p,e,a6⟩:=get (n:= "math/bits.deBruijn64tab") (d:=Rows.laid_math_bits_deBruijn64tab) (g:=6) (by simp [s3]) (by kernel_rfl) (t:=548) (by kernel_rfl)
  have:=k2 e
  omega
theorem aoB{P:Program}{f:Func}{k:FuncId}{s:ChangeSpec}{X:Type}{enc:TypeId×Value->X}{tb:TypeId}{ts:List TypeId}(bh:f.params=⟨ts⟩)(Vo:s.vars=[])(Ek:∀cT:List (DataW X),cT.length=ts.length->s.fn X cT={results:=[.lit (.bool true)],args:=cT})
  (By:f.resultTypes= #[tb]) (ah:P.underlying tb=some .bool) (hy:(ts.all λt=>P.readableRec t&&decide (t<P.types.size))=true) (aH:laidOutB P=true)
  (W:World) (base:Nat) (args:Array Value) (cT gs:List (DataW X)) (before:List MemPlace)
  (walk:Ei P W.heap ts args.toList->aY P k args W.heap λv H'=>v=.bool true/\Fr [] W.heap H')
  (vt:∀(j:Nat) t v,f.params[j]?=some t->args[j]?=some v->Value.okWide P W .any base t v)
  (qo:DataW.Whole enc P f.params.toList s.vars false W args.toList cT gs before):
  Calls P k args W λe W'=>∃v,e=.returned v/\s.post enc P f false true false false W args v W':=by
 have hy:∀t∈ts,P.readableRec t=true/\t<P.types.size:=λt bf=>by
  have:=List.all_eq_true.1 hy t bf
  simpa using this
 have nm:f.params.toList=ts:=by rw [bh]
 have x8:=qo
 obtain⟨p,q,e0,tn,rfl,asb,iF⟩:=qo
 rw [Vo]at tn
 obtain⟨rfl,rfl⟩:=trodVars_none tn
 rw [nm]at e0
 have hlen:=e0.lt
 have aoR:Ei P W.heap ts args.toList:=U1 e0 λj t v bf aI=>vt j t v (by rw [bh];simpa using bf) (by simpa using aI)
 have za:=walk aoR ⟨W.tape,W.os,W.output,W.drawn⟩ ⟨W.drawn,nQ _⟩
 rw [<-M6 W]at za
 refine za.mono λe W'=> ?_
 rintro⟨v,H',d',rfl,rfl,rfl,af⟩
 have sf:cT.length=ts.length:=U4 e0
 have lJ:Fr [] W.heap (a8 ⟨W.tape,W.os,W.output,W.drawn⟩ H' d').heap:=af
 refine⟨_,rfl,cT,[],p++[],[],p,[],x8,?_,?_,?_,?_,λh=>by cases h⟩
 ·rw [as0,Ek cT sf,By]
  exact trodAll_mk1 (shut_bool ah true)
 ·rw [as0,Ek cT sf]
  rw [nm]
  exact U2 aH hy e0 (λx aa=>aoa lJ (hlen x aa)) (λx aa=>by simpa using hlen x aa)
 ·rw [as0,Ek cT sf,Vo]
  rfl
 ·exact aob (W:=W) (W':=a8 ⟨W.tape,W.os,W.output,W.drawn⟩ H' d') rfl rfl lJ _
end Go.Proofs.YtlafckjfkaldaaaGreatDoor
