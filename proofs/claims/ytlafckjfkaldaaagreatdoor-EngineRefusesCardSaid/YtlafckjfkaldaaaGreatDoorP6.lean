/- A part of a proof: see the last text of this claim. -/
import Derived.Test.YtlafckjfkaldaaaGreatDoorP4
import Derived.Test.YtlafckjfkaldaaaGreatDoorP5
import Derived.Test.YtlafckjfkaldaaaGreatDoorP1
import Derived.Shelf.SlSortCmp.WholeK
import Derived.Shelf.SlSortCmp.NoneTotal
import Derived.Test.YtlafckjfkaldaaaGreatDoorP3
open _root_.Go.Proofs.Tryz renaming prog→atf,underlying118→av8
open _root_.List renaming mem_cons→o3,mem_of_getElem?→att,mem_append→asU,getElem?_eq_some_iff→qb,take_add_one→ats,length_append→VH,mem_map→ad6,take_of_length_le→asG,filter_cons→MX,map_append→as2,mem_filter→VD,pairwise_cons→ave,map_cons→qO,filter_append→auV,sum_cons→auQ,exists_mem_of_ne_nil→avw,pairwise_iff_getElem→avK,sum_append→avO,length_cons→asE,append_assoc→ar8,mem_flatMap→as1,getElem?_of_mem→avg,mem_singleton→ar7,pairwise_map→auT,length_filter_le→avd,getElem?_eq_none→asu,eq_nil_of_length_eq_zero→asF,drop_eq_getElem_cons→avj,mem_iff_getElem?→avu,length_take→apH,foldl_cons→asn,drop_drop→avQ,length_nil→atc,nil_append→as8,append_nil→as0,getElem?_set_self→avI,getElem?_take→Ep,pairwise_append→avk,getElem_mem→avU,any_cons→avV,getElem_set→avW,foldl_append→avX,length_drop→asH,cons_append→asx,ext_getElem?→ast,getElem?_take_of_lt→avZ,mem_or_eq_of_mem_set→av1,set_getElem_self→av2,drop_of_length_le→avr,getLast?_eq_some_iff→av3,dropLast_concat→av4,filter_eq_self→as5,getElem?_drop→VG,take_set_of_le→avH,drop_set_of_lt→avJ,getLast?_concat→av5,any_eq_true→av6,length_set→av7,getElem?_eq_getElem→asj,length_map→atw,flatMap_cons→Er
open _root_.Go.Value renaming cells→atq,oneCell'→avm,tuple→avR,bool→atp
open _root_.ByteArray renaming size_append→avN
open _root_.Nat renaming le_refl→nQ,le_trans→VF,zero_le→apG,le_add_right→au3,lt_or_ge→atv,mod_eq_of_lt→auR
open _root_.Array renaming getElem?_toList→avP,length_toList→Eo,getElem?_append_left→avT,getElem?_modify→asC,getElem?_eq_getElem→av0
open _root_.BitVec renaming ofInt→atg
open _root_.UInt8 renaming toNat_lt→avS,ofNat→apK,toNat_ofNat'→atu,ofNat_toNat→av9
open _root_.Bool renaming and_eq_true→oJ
open _root_.Go.IntKind renaming wrap→atj,bits→ato,signed→atx
open _root_.Int renaming lt_trichotomy→avY,toNat_natCast→asD
open _root_.Option renaming toList_some→auX
set_option linter.unusedVariables false
set_option maxRecDepth 100000
namespace Go.Proofs.bb
def gk(l:List bC)(t:Int):Option Int:=(l.find? λx=>decide (x.1=t)).map (·.2)
theorem sJ(t:Int):gk [] t=none:=rfl
theorem jv(x:bC)(l:List bC)(t:Int):gk (x::l) t=if x.1=t then some x.2 else gk l t:=by
 unfold gk
 rw [List.find?_cons]
 by_cases h:x.1=t
 ·rw [if_pos h,decide_eq_true h];rfl
 ·rw [if_neg h,decide_eq_false h]
theorem agX(a b:List bC)(t:Int):gk (a++b) t=(gk a t).or (gk b t):=by
 induction a with
 |nil=>rw [as8,sJ];rfl
 |cons x a ih=>
  rw [asx,jv,jv,ih]
  split<;>rfl
theorem Ay{l:List bC}{t:Int}:gk l t=none↔∀x∈l,x.1≠t:=by
 induction l with
 |nil=>simp [sJ]
 |cons x l ih=>
  rw [jv]
  by_cases h:x.1=t
  ·rw [if_pos h];simp [h]
  ·rw [if_neg h,ih];simp [h]
theorem Dm{l:List bC}(aA:ik l){x:bC}(h:x∈l):gk l x.1=some x.2:=by
 induction l with
 |nil=>cases h
 |cons y l ih=>
  have ak:=sK.1 aA
  rw [jv]
  rcases o3.1 h with rfl|h
  ·rw [if_pos rfl]
  ·rw [if_neg (by have:=ak.1 x h;omega)];exact ih ak.2 h
theorem Rq:∀{a b:List bC},ik a->ik b->(∀t,gk a t=gk b t)->a=b
 |[],[],_,_,_=>rfl
 |[],y::b,_,_,h=>by have:=h y.1;rw [sJ,jv,if_pos rfl]at this;cases this
 |x::a,[],_,_,h=>by have:=h x.1;rw [sJ,jv,if_pos rfl]at this;cases this
 |x::a,y::b,bQ,ah,h=>by
  have ha':=sK.1 bQ
  have e3:=sK.1 ah
  have u3:x.1=y.1:=by
   rcases avY x.1 y.1 with h1|h1|h1
   ·have:=h x.1
    rw [jv,if_pos rfl]at this
    have ae:gk (y::b) x.1=none:=Ay.2 λz aC=>by
     rcases o3.1 aC with rfl|aC
     ·omega
     ·have:=e3.1 z aC;omega
    rw [ae]at this;cases this
   ·exact h1
   ·have:=h y.1
    rw [jv (x:=y),if_pos rfl]at this
    have ae:gk (x::a) y.1=none:=Ay.2 λz aC=>by
     rcases o3.1 aC with rfl|aC
     ·omega
     ·have:=ha'.1 z aC;omega
    rw [ae]at this;cases this
  have aI:x.2=y.2:=by
   have:=h x.1
   rw [jv,if_pos rfl,jv,if_pos u3.symm]at this
   simpa using this
  have e:x=y:=Prod.ext u3 aI
  subst e
  rw [Rq ha'.2 e3.2 λt=>by
   by_cases bf:x.1=t
   ·subst bf
    rw [Ay.2 λz aC=>by have:=ha'.1 z aC;omega,Ay.2 λz aC=>by have:=e3.1 z aC;omega]
   ·have:=h t
    rw [jv,jv,if_neg bf,if_neg bf]at this;exact this]
theorem Aw:∀(a b:List bC) (t:Int),ik a->ik b->gk (iL a b) t=(gk b t).or (gk a t)
 |[],b,t,_,_=>by rw [yD,sJ];simp
 |x::a,[],t,_,_=>by rw [C4,sJ];rfl
 |x::a,y::b,t,bQ,ah=>by
  have ha':=sK.1 bQ
  have e3:=sK.1 ah
  rw [C5]
  split
  ·rename_i h
   rw [jv,Aw a (y::b) t ha'.2 ah,jv x a]
   by_cases bf:x.1=t
   ·rw [if_pos bf,if_pos bf,Ay.2 λz aC=>by
     rcases o3.1 aC with rfl|aC
     ·omega
     ·have:=e3.1 z aC;omega]
    rfl
   ·rw [if_neg bf,if_neg bf]
  ·split
   ·rename_i h ae
    rw [jv,Aw a b t ha'.2 e3.2,jv x a,jv y b]
    by_cases bf:y.1=t
    ·rw [if_pos bf,if_pos bf];rfl
    ·rw [if_neg bf,if_neg bf,if_neg (by omega)]
   ·rename_i h ae
    rw [jv,Aw (x::a) b t bQ e3.2,jv y b]
    split<;>rfl
termination_by a b=>a.length+b.length
def tV(g f:List bC):Prop:=∃ys,fB ys/\ep g.reverse ys/\f=dy ys
theorem KW:∀(l:List bC) (p:Int),fB l->(∀x∈l,p<=x.1)->∀x∈j5 (some p) l,p<x.1
 |[],_,_,_,x,h=>by cases h
 |y::l,p,hs,bh,x,h=>by
  have hs':=ave.1 hs
  have h':x∈(if some p=some y.1 then j5 (some y.1) l else y::j5 (some y.1) l):=h
  split at h'
  ·rename_i e
   simp only [Option.some.injEq]at e
   subst e
   exact KW l _ hs'.2 (λz aC=>hs'.1 z aC) x h'
  ·rename_i e
   have av:=bh y (by simp)
   have cH:p≠y.1:=λcV=>e (by rw [cV])
   rcases o3.1 h' with rfl|h'
   ·omega
   ·have:=KW l y.1 hs'.2 (λz aC=>hs'.1 z aC) x h'
    omega
theorem KX:∀(l:List bC) (p:Option Int),fB l->ik (j5 p l)
 |[],_,_=>ik.nil
 |y::l,p,hs=>by
  have hs':=ave.1 hs
  show ik (if p=some y.1 then j5 (some y.1) l else y::j5 (some y.1) l)
  split
  ·exact KX l _ hs'.2
  ·exact sK.2 ⟨KW l y.1 hs'.2 (λz aC=>hs'.1 z aC),KX l _ hs'.2⟩
theorem Rr:∀(l:List bC) (p:Option Int) (t:Int),fB l->(∀q,p=some q->∀x∈l,q<=x.1)->p≠some t->gk (j5 p l) t=gk l t
 |[],_,_,_,_,_=>rfl
 |y::l,p,t,hs,bh,agY=>by
  have hs':=ave.1 hs
  show gk (if p=some y.1 then j5 (some y.1) l else y::j5 (some y.1) l) t=_
  have rest:y.1≠t->gk (j5 (some y.1) l) t=gk l t:=λh=>Rr l (some y.1) t hs'.2 (λq e x aa=>by simp only [Option.some.injEq]at e;subst e;exact hs'.1 x aa) (λe=>h (by simpa using e))
  rw [jv]
  split
  ·rename_i e
   have cH:y.1≠t:=λcV=>agY (by rw [e,cV])
   rw [if_neg cH,rest cH]
  ·rw [jv]
   by_cases h:y.1=t
   ·rw [if_pos h,if_pos h]
   ·rw [if_neg h,if_neg h,rest h]
theorem Rs(l:List bC)(t:Int):gk l t=((l.filter λx=>decide (x.1=t)).head?).map (·.2):=by
 induction l with
 |nil=>rfl
 |cons x l ih=>
  rw [jv,MX]
  by_cases h:x.1=t
  ·rw [if_pos h,if_pos (by simpa using h)];rfl
  ·rw [if_neg h,if_neg (by simpa using h)];exact ih
theorem tV.KS{g f:List bC}(h:tV g f):ik f:=by
 obtain⟨ys,h1,_,rfl⟩:=h
 exact KX ys none h1
theorem tV.val{g f:List bC}(h:tV g f)(t:Int):gk f t=gk g.reverse t:=by
 obtain⟨ys,h1,ae,rfl⟩:=h
 unfold dy
 rw [Rr ys none t h1 (λq e=>by cases e) (by simp),Rs,Rs,ae t]
theorem tV.ne{g f:List bC}(h:tV g f)(aZ:g≠[]):f≠[]:=by
 obtain⟨x,aa⟩:=avw _ aZ
 have h1:gk g.reverse x.1≠none:=λe=>Ay.1 e x (by simpa using aa) rfl
 intro e
 subst e
 exact h1 (by rw [<-h.val];rfl)
abbrev cw:=Int×List bC
def ej(ss:List cw):Prop:=ss.Pairwise (λa b=>a.1<b.1)/\∀s∈ss,s.2≠[]/\ik s.2
def lx(ss:List cw)(id t:Int):Option Int:=match ss with
 |[]=>none
 |s::ss=>if s.1=id then gk s.2 t else lx ss id t
theorem j6(s:cw)(ss:List cw)(id t:Int):lx (s::ss) id t=if s.1=id then gk s.2 t else lx ss id t:=rfl
theorem Az{ss:List cw}{id t:Int}(h:∀s∈ss,s.1≠id):lx ss id t=none:=by
 induction ss with
 |nil=>rfl
 |cons s ss ih=>rw [j6,if_neg (h s (by simp))];exact ih λx aa=>h x (by simp [aa])
theorem ej.nil:ej []:=⟨List.Pairwise.nil,λs h=>by cases h⟩
theorem ej.cons{s:cw}{ss:List cw}:ej (s::ss)↔(∀x∈ss,s.1<x.1)/\(s.2≠[]/\ik s.2)/\ej ss:=by
 unfold ej
 rw [ave]
 constructor
 ·rintro⟨⟨h1,ae⟩,au⟩
  exact⟨h1,au s (by simp),ae,λx aa=>au x (by simp [aa])⟩
 ·rintro⟨h1,ae,au,a6⟩
  refine⟨⟨h1,au⟩,λx aa=> ?_⟩
  rcases o3.1 aa with rfl|aa
  ·exact ae
  ·exact a6 x aa
theorem Rt:∀{a b:List cw},ej a->ej b->(∀id t,lx a id t=lx b id t)->a=b
 |[],[],_,_,_=>rfl
 |[],y::b,_,ah,h=>by
  obtain⟨_,⟨h1,ae⟩,_⟩:=ej.cons.1 ah
  obtain⟨x,aa⟩:=avw _ h1
  have:=h y.1 x.1
  rw [j6,if_pos rfl,Dm ae aa]at this
  cases this
 |x::a,[],bQ,_,h=>by
  obtain⟨_,⟨h1,ae⟩,_⟩:=ej.cons.1 bQ
  obtain⟨z,aC⟩:=avw _ h1
  have:=h x.1 z.1
  rw [j6,if_pos rfl,Dm ae aC]at this
  cases this
 |x::a,y::b,bQ,ah,h=>by
  obtain⟨cM,⟨a2,a3⟩,a4⟩:=ej.cons.1 bQ
  obtain⟨b1,⟨b2,cX⟩,fz⟩:=ej.cons.1 ah
  have u3:x.1=y.1:=by
   rcases avY x.1 y.1 with h1|h1|h1
   ·obtain⟨z,aC⟩:=avw _ a2
    have:=h x.1 z.1
    rw [j6,if_pos rfl,Dm a3 aC,Az λs hs=>by
     rcases o3.1 hs with rfl|hs
     ·omega
     ·have:=b1 s hs;omega]at this
    cases this
   ·exact h1
   ·obtain⟨z,aC⟩:=avw _ b2
    have:=h y.1 z.1
    rw [j6 y,if_pos rfl,Dm cX aC,Az λs hs=>by
     rcases o3.1 hs with rfl|hs
     ·omega
     ·have:=cM s hs;omega]at this
    cases this
  have gF:x.2=y.2:=Rq a3 cX λt=>by
   have:=h x.1 t
   rw [j6,if_pos rfl,j6,if_pos u3.symm]at this
   exact this
  have e:x=y:=Prod.ext u3 gF
  subst e
  rw [Rt a4 fz λid t=>by
   by_cases az:x.1=id
   ·subst az
    rw [Az λs hs=>by have:=cM s hs;omega,Az λs hs=>by have:=b1 s hs;omega]
   ·have:=h id t
    rw [j6,j6,if_neg az,if_neg az]at this;exact this]
def vo(x y:cw):Int:=gX x.1 y.1
theorem C2{x y:Int}:gX x y=0↔x=y:=by unfold gX;split<;>(try split)<;>omega
theorem AA{α:Type}{cf:α->α->Int}{z:α}:∀(a b:List α),z∈hB cf a b->z∈a\/z∈b
 |[],b,h=>by rw [vn]at h;exact .inr h
 |x::a,[],h=>by rw [xg]at h;exact .inl h
 |x::a,y::b,h=>by
  rw [xh]at h
  split at h
  ·rcases o3.1 h with rfl|h
   ·exact .inl (by simp)
   ·exact(AA a (y::b) h).elim (λh=>.inl (by simp [h])) .inr
  ·split at h
   ·rcases o3.1 h with rfl|h
    ·exact .inr (by simp)
    ·exact(AA a b h).elim (λh=>.inl (by simp [h])) λh=>.inr (by simp [h])
   ·rcases o3.1 h with rfl|h
    ·exact .inr (by simp)
    ·exact(AA (x::a) b h).elim .inl λh=>.inr (by simp [h])
termination_by a b=>a.length+b.length
theorem GO:∀{a b:List cw},ej a->ej b->ej (hB vo a b)/\∀id t,lx (hB vo a b) id t=if∃s∈b,s.1=id then lx b id t else lx a id t
 |[],b,bQ,ah=>by
  rw [vn]
  refine⟨ah,λid t=> ?_⟩
  split
  ·rfl
  ·rename_i h
   exact Az λs hs e=>h ⟨s,hs,e⟩
 |x::a,[],bQ,ah=>by
  rw [xg]
  exact⟨bQ,λid t=>by rw [if_neg (by simp)]⟩
 |x::a,y::b,bQ,ah=>by
  obtain⟨cM,a2,a4⟩:=ej.cons.1 bQ
  obtain⟨b1,b2,fz⟩:=ej.cons.1 ah
  rw [xh]
  by_cases h1:vo x y<0
  ·have gp:x.1<y.1:=lN.1 h1
   rw [if_pos h1]
   obtain⟨en,gY⟩:=GO a4 ah
   refine⟨ej.cons.2 ⟨λz aC=> ?_,a2,en⟩,λid t=> ?_⟩
   ·rcases AA _ _ aC with aC|aC
    ·exact cM z aC
    ·rcases o3.1 aC with rfl|aC
     ·exact gp
     ·have:=b1 z aC;omega
   ·rw [j6,gY,j6 x a]
    by_cases az:x.1=id
    ·have cz:¬∃s∈y::b,s.1=id:=by
      rintro⟨s,hs,e⟩
      rcases o3.1 hs with rfl|hs
      ·omega
      ·have:=b1 s hs;omega
     rw [if_pos az,if_neg cz,if_pos az]
    ·rw [if_neg az,if_neg az]
  ·rw [if_neg h1]
   have gp:¬x.1<y.1:=λh=>h1 (lN.2 h)
   by_cases ae:vo x y=0
   ·have iR:x.1=y.1:=C2.1 ae
    rw [if_pos ae]
    obtain⟨en,gY⟩:=GO a4 fz
    refine⟨ej.cons.2 ⟨λz aC=> ?_,b2,en⟩,λid t=> ?_⟩
    ·rcases AA _ _ aC with aC|aC
     ·have:=cM z aC;omega
     ·exact b1 z aC
    ·rw [j6,gY]
     by_cases az:y.1=id
     ·rw [if_pos az,if_pos ⟨y,by simp,az⟩,j6,if_pos az]
     ·rw [if_neg az,j6 y b,if_neg az,j6 x a,if_neg (show¬x.1=id by omega)]
      by_cases he:∃s∈b,s.1=id
      ·obtain⟨s,hs,e⟩:=he
       rw [if_pos ⟨s,hs,e⟩,if_pos ⟨s,by simp [hs],e⟩]
      ·rw [if_neg he,if_neg]
       rintro⟨s,hs,e⟩
       rcases o3.1 hs with rfl|hs
       ·exact az e
       ·exact he ⟨s,hs,e⟩
   ·rw [if_neg ae]
    have iR:y.1<x.1:=by
     have:x.1≠y.1:=λe=>ae (C2.2 e)
     omega
    obtain⟨en,gY⟩:=GO bQ fz
    refine⟨ej.cons.2 ⟨λz aC=> ?_,b2,en⟩,λid t=> ?_⟩
    ·rcases AA _ _ aC with aC|aC
     ·rcases o3.1 aC with rfl|aC
      ·exact iR
      ·have:=cM z aC;omega
     ·exact b1 z aC
    ·rw [j6,gY]
     by_cases az:y.1=id
     ·rw [if_pos az,if_pos ⟨y,by simp,az⟩,j6,if_pos az]
     ·rw [if_neg az,j6 y b,if_neg az]
      by_cases he:∃s∈b,s.1=id
      ·obtain⟨s,hs,e⟩:=he
       rw [if_pos ⟨s,hs,e⟩,if_pos ⟨s,by simp [hs],e⟩]
      ·rw [if_neg he,if_neg]
       rintro⟨s,hs,e⟩
       rcases o3.1 hs with rfl|hs
       ·exact az e
       ·exact he ⟨s,hs,e⟩
termination_by a b=>a.length+b.length
def iM(ss:List cw)(x:fu):List cw:=match ss with
 |[]=>[(x.2.1,[(x.1,x.2.2)])]
 |s::ss=>if x.2.1<s.1 then(x.2.1,[(x.1,x.2.2)])::s::ss else if s.1=x.2.1 then(s.1,iL s.2 [(x.1,x.2.2)])::ss else s::iM ss x
theorem Dn(x:bC):ik [x]:=by simp [ik]
theorem Rg{a b:List bC}(ah:b≠[])(bQ:ik a)(e3:ik b):iL a b≠[]:=by
 obtain⟨x,aa⟩:=avw _ ah
 intro e
 have:=Aw a b x.1 bQ e3
 rw [e,sJ,Dm e3 aa]at this
 cases this
theorem Ru{x:fu}{z:cw}:∀{ss:List cw},z∈iM ss x->z.1=x.2.1\/z∈ss
 |[],h=>by simp [iM]at h;subst h;exact .inl rfl
 |s::ss,h=>by
  unfold iM at h
  split at h
  ·rcases o3.1 h with rfl|h
   ·exact .inl rfl
   ·exact .inr h
  ·split at h
   ·rename_i e
    rcases o3.1 h with rfl|h
    ·exact .inl e
    ·exact .inr (by simp [h])
   ·rcases o3.1 h with rfl|h
    ·exact .inr (by simp)
    ·exact(Ru h).imp id λh=>by simp [h]
theorem Rv{x:fu}:∀{ss:List cw},ej ss->ej (iM ss x)/\∀id t,lx (iM ss x) id t=if x.2.1=id/\x.1=t then some x.2.2 else lx ss id t
 |[],_=>by
  refine⟨ej.cons.2 ⟨by simp,⟨by simp,Dn _⟩,ej.nil⟩,λid t=> ?_⟩
  show(if x.2.1=id then gk [(x.1,x.2.2)] t else none)=_
  rw [jv,sJ]
  by_cases h1:x.2.1=id<;>by_cases ae:x.1=t<;>simp [h1,ae,lx]
 |s::ss,h=>by
  obtain⟨cM,a2,a4⟩:=ej.cons.1 h
  unfold iM
  split
  ·rename_i h1
   refine⟨ej.cons.2 ⟨λz aC=> ?_,⟨by simp,Dn _⟩,h⟩,λid t=> ?_⟩
   ·show x.2.1<z.1
    rcases o3.1 aC with rfl|aC
    ·exact h1
    ·have:=cM z aC;omega
   ·rw [j6,jv,sJ]
    by_cases ae:x.2.1=id
    ·subst ae
     rw [if_pos rfl]
     have:lx (s::ss) x.2.1 t=none:=Az λz aC=>by
      rcases o3.1 aC with rfl|aC
      ·omega
      ·have:=cM z aC;omega
     rw [this];simp
    ·rw [if_neg ae];simp [ae]
  ·split
   ·rename_i h1 ae
    refine⟨ej.cons.2 ⟨cM,⟨Rg (by simp) a2.2 (Dn _),Di _ _ a2.2 (Dn _)⟩,a4⟩,λid t=> ?_⟩
    rw [j6,j6]
    show(if s.1=id then gk (iL s.2 [(x.1,x.2.2)]) t else lx ss id t)=_
    rw [Aw _ _ _ a2.2 (Dn _),jv,sJ]
    by_cases au:s.1=id
    ·have a6:x.2.1=id:=by omega
     rw [if_pos au,if_pos au]
     by_cases bu:x.1=t
     ·rw [if_pos bu,if_pos ⟨a6,bu⟩];rfl
     ·rw [if_neg bu,if_neg (λh=>bu h.2)];rfl
    ·rw [if_neg au,if_neg au,if_neg (λh=>au (by omega))]
   ·rename_i h1 ae
    obtain⟨en,gY⟩:=Rv (x:=x) a4
    refine⟨ej.cons.2 ⟨λz aC=> ?_,a2,en⟩,λid t=> ?_⟩
    ·rcases Ru aC with e|aC
     ·omega
     ·exact cM z aC
    ·rw [j6,j6,gY]
     by_cases au:s.1=id
     ·rw [if_pos au,if_pos au,if_neg (λh=>ae (by omega))]
     ·rw [if_neg au,if_neg au]
def gz(ss:List cw)(rows:List fu):List cw:=rows.foldl iM ss
def kv(rows:List fu)(id:Int):List bC:=(rows.filter λx=>decide (x.2.1=id)).map λx=>(x.1,x.2.2)
theorem agZ(x:fu)(rows:List fu)(id:Int):kv (x::rows) id=if x.2.1=id then(x.1,x.2.2)::kv rows id else kv rows id:=by
 unfold kv
 rw [MX]
 by_cases h:x.2.1=id
 ·rw [if_pos h,if_pos (by simpa using h)];rfl
 ·rw [if_neg h,if_neg (by simpa using h)]
theorem Rf(x:fu)(rows:List fu)(id:Int):kv (rows++[x]) id=kv rows id++if x.2.1=id then [(x.1,x.2.2)]else []:=by
 unfold kv
 rw [auV,as2,MX]
 by_cases h:x.2.1=id
 ·rw [if_pos h,if_pos (by simpa using h)];rfl
 ·rw [if_neg h,if_neg (by simpa using h)];rfl
theorem Dl:∀{rows:List fu} {ss:List cw},ej ss->ej (gz ss rows)/\∀id t,lx (gz ss rows) id t=(gk (kv rows id).reverse t).or (lx ss id t)
 |[],ss,h=>⟨h,λid t=>rfl⟩
 |x::rows,ss,h=>by
  obtain⟨en,gY⟩:=Rv (x:=x) h
  obtain⟨dN,dm⟩:=Dl (rows:=rows) en
  refine⟨dN,λid t=> ?_⟩
  show lx (gz (iM ss x) rows) id t=_
  rw [dm,gY,agZ]
  by_cases h1:x.2.1=id
  ·rw [if_pos h1,List.reverse_cons,agX,jv,sJ]
   by_cases ae:x.1=t
   ·rw [if_pos ⟨h1,ae⟩,if_pos ae]
    cases gk (kv rows id).reverse t<;>rfl
   ·rw [if_neg (λh=>ae h.2),if_neg ae]
    cases gk (kv rows id).reverse t<;>rfl
  ·rw [if_neg h1,if_neg (λh=>h1 h.1)]
theorem put_eq{ss more:List cw}{rows:List fu}(hs:ej ss)(hm:ej more)(hk:∀id,(∃s∈more,s.1=id)↔kv rows id≠[])
  (aI:∀s∈more,∀t,gk s.2 t=(gk (kv rows s.1).reverse t).or (lx ss s.1 t)):hB vo ss more=gz ss rows:=by
 obtain⟨en,gY⟩:=GO hs hm
 obtain⟨dN,dm⟩:=Dl (rows:=rows) hs
 refine Rt en dN λid t=> ?_
 rw [gY,dm]
 by_cases h:∃s∈more,s.1=id
 ·rw [if_pos h]
  obtain⟨s,lk,rfl⟩:=h
  rw [<-aI s lk t]
  have:∀{l:List cw},ej l->s∈l->lx l s.1 t=gk s.2 t:=by
   intro l
   induction l with
   |nil=>intro _ h;cases h
   |cons y l ih=>
    intro aH h
    obtain⟨cM,_,a4⟩:=ej.cons.1 aH
    rw [j6]
    rcases o3.1 h with rfl|h
    ·rw [if_pos rfl]
    ·rw [if_neg (by have:=cM s h;omega)];exact ih a4 h
  exact this hm lk
 ·rw [if_neg h]
  have:kv rows id=[]:=Classical.byContradiction λh'=>h ((hk id).2 h')
  rw [this];rfl
open Go Go.bs
inductive cZ{α β:Type}(R:α->β->Prop):List α->List β->Prop
 |nil:cZ R [] []
 |cons {x y xs ys}:R x y->cZ R xs ys->cZ R (x::xs) (y::ys)
section
variable{α β:Type}{R:α->β->Prop}
theorem cZ.len{xs:List α}{ys:List β}(h:cZ R xs ys):xs.length=ys.length:=by
 induction h with
 |nil=>rfl
 |cons _ _ ih=>simp [ih]
theorem cZ.mono{mF:α->β->Prop}{xs:List α}{ys:List β}(h:cZ R xs ys)(aA:∀x y,x∈xs->y∈ys->R x y->mF x y):cZ mF xs ys:=by
 induction h with
 |nil=>exact .nil
 |cons h1 _ ih=>exact .cons (aA _ _ (by simp) (by simp) h1) (ih λx y aa av=>aA x y (by simp [aa]) (by simp [av]))
theorem cZ.app{xs n2:List α}{ys oR:List β}(h:cZ R xs ys)(h':cZ R n2 oR):cZ R (xs++n2) (ys++oR):=by
 induction h with
 |nil=>exact h'
 |cons h1 _ ih=>exact .cons h1 ih
theorem cZ.get{xs:List α}{ys:List β}(h:cZ R xs ys){i:Nat}{x:α}(aa:xs[i]?=some x):∃y,ys[i]?=some y/\R x y:=by
 induction h generalizing i with
 |nil=>simp at aa
 |cons h1 _ ih=>
  cases i with
  |zero=>simp at aa;subst aa;exact⟨_,rfl,h1⟩
  |succ i=>simp at aa;simpa using ih aa
theorem cZ.get'{xs:List α}{ys:List β}(h:cZ R xs ys){i:Nat}{y:β}(av:ys[i]?=some y):∃x,xs[i]?=some x/\R x y:=by
 induction h generalizing i with
 |nil=>simp at av
 |cons h1 _ ih=>
  cases i with
  |zero=>simp at av;subst av;exact⟨_,rfl,h1⟩
  |succ i=>simp at av;simpa using ih av
theorem cZ.set{xs:List α}{ys:List β}(h:cZ R xs ys){i:Nat}{x:α}{y:β}(aA:R x y):cZ R (xs.set i x) (ys.set i y):=by
 induction h generalizing i with
 |nil=>exact .nil
 |cons h1 ae ih=>
  cases i with
  |zero=>exact .cons aA ae
  |succ i=>exact .cons h1 ih
theorem cZ.mem{xs:List α}{ys:List β}(h:cZ R xs ys){x:α}(aa:x∈xs):∃y∈ys,R x y:=by
 obtain⟨i,az⟩:=avg aa
 obtain⟨y,av,aA⟩:=h.get az
 exact⟨y,att av,aA⟩
theorem cZ.Db{xs:List α}{ys:List β}(h:cZ R xs ys){y:β}(av:y∈ys):∃x∈xs,R x y:=by
 obtain⟨i,az⟩:=avg av
 obtain⟨x,aa,aA⟩:=h.get' az
 exact⟨x,att aa,aA⟩
end
theorem cZ.perm{α β:Type}{R:α->β->Prop}:∀{xs n2:List α} {ys:List β},n2.Perm xs->cZ R xs ys->∃oR,oR.Perm ys/\cZ R n2 oR:=by
 intro xs n2 ys bh
 induction bh generalizing ys with
 |nil=>intro h;exact⟨ys,List.Perm.refl _,h⟩
 |cons x _ ih=>
  intro h
  cases h with
  |cons h1 ae=>
   obtain⟨oR,p,q⟩:=ih ae
   exact⟨_::oR,List.Perm.cons _ p,.cons h1 q⟩
 |swap x y l=>
  intro h
  cases h with
  |cons h1 ae=>
   cases ae with
   |cons au a6=>exact⟨_,List.Perm.swap _ _ _,.cons au (.cons h1 a6)⟩
 |trans _ _ agp agq=>
  intro h
  obtain⟨aqL,fD,dN⟩:=agq h
  obtain⟨agr,jh,dm⟩:=agp dN
  exact⟨agr,jh.trans fD,dm⟩
def sG(H:J)(x:bb)(s:cw):Prop:=x.1=s.1/\bk encS H x.2.1 x.2.2.1 x.2.2.2 s.2
def e9(H:J)(hs:List bb)(ss:List cw):Prop:=cZ (sG H) hs ss
variable{H H':J}{c r:Nat}
theorem e9.ab{hs:List bb}{ss:List cw}(h:e9 H hs ss)(af:Fr [] H H'):e9 H' hs ss:=cZ.mono h λx y _ _ aA=>⟨aA.1,aA.2.ab af⟩
theorem e9.merge:∀{hs hs':List bb} {ss ss':List cw},e9 H hs ss->e9 H hs' ss'->e9 H (hB lu hs hs') (hB vo ss ss')
 |[],hs',ss,ss',h,h'=>by
  cases h
  rw [vn,vn];exact h'
 |x::hs,[],ss,ss',h,h'=>by
  cases h'
  rw [xg,xg];exact h
 |x::hs,y::hs',ss,ss',h,h'=>by
  cases h with
  |cons h1 ae=>
   cases h' with
   |cons gp iR=>
    rename_i s ss s' ss'
    have e:lu x y=vo s s':=by unfold lu vo;rw [h1.1,gp.1]
    rw [xh,xh,e]
    split
    ·exact .cons h1 (e9.merge ae (.cons gp iR))
    ·split
     ·exact .cons gp (e9.merge ae iR)
     ·exact .cons gp (e9.merge (.cons h1 ae) iR)
termination_by hs hs'=>hs.length+hs'.length
theorem e9.ags{hs:List bb}{ss:List cw}(h:e9 H hs ss)(aA:ss.Pairwise λa b=>a.1<b.1):hs.Pairwise λa b=>a.1<b.1:=by
 induction h with
 |nil=>exact List.Pairwise.nil
 |cons h1 ae ih=>
  have hG:=ave.1 aA
  refine ave.2 ⟨λx aa=> ?_,ih hG.2⟩
  obtain⟨y,av,e⟩:=cZ.mem ae aa
  rw [h1.1,e.1];exact hG.1 y av
noncomputable abbrev dB:mI atf 3 Int:=O1 Tryz.underlying3
theorem KH:Tryz.prog.underlying 272=some (.map 3 55):=Tryz.underlying272
theorem agt:zeroOf atf 55=some (.slice none 0 0):=by kernel_rfl
structure p0(H:J)(base r:Nat)(L:List (cS Int))(G:Int->List bC):Prop where
 gI:∀id v,dA id L=some v->∃a n c,v=.slice a n c/\Own encS 113 base H a n c (G id)/\G id≠[]/\r∉ax a
 iI:∀id KI a n c aK aQ aT,id≠KI->dA id L=some (.slice a n c)->dA KI L=some (.slice aK aQ aT)->e2 (ax a) (ax aK)
 no:∀id,dA id L=none->G id=[]
theorem p0.start(H:J)(base r:Nat):p0 H base r [] (λ_=>[]):=⟨λid v h=>(by simp [dA]at h),λid KI a n c aK aQ aT _ h=>(by simp [dA]at h),λ_ _=>rfl⟩
theorem _root_.Go.bs.Own.yM{α:Type}{E:dd α}{t:TypeId}{base:Nat}{a:Option Addr}{n:Nat}{xs:List α}(h:Own E t base H a n c xs):∀k∈ax a,k<H.size:=λk hk=>(h.ge k hk).2
theorem jV{α:Type}{E:dd α}{t:TypeId}{base:Nat}{a:Option Addr}{n:Nat}{xs:List α}{S:List Nat}(h:Own E t base H a n c xs)(af:Fr S H H')(aO:e2 (ax a) S):Own E t base H' a n c xs:=
 h.ag af λal e=>aO al.block (by subst e;simp [ax])
theorem zy{α:Type}{E:dd α}{a:Option Addr}{n:Nat}{xs:List α}{S:List Nat}(h:bk E H a n c xs)(af:Fr S H H')(aO:e2 (ax a) S):bk E H' a n c xs:=
 h.ag af λal e=>aO al.block (by subst e;simp [ax])
theorem p0.put{cG:J}{base ck:Nat}{L:List (cS Int)}{G:Int->List bC}{id:Int}{aK:Option Addr}{aQ aT:Nat}{x:bC}{S:List Nat}(h:p0 H base r L G)
  (af:Fr S H H') (bI:∀a n c,dA id L=some (.slice a n c)->S=ax a) (Dc:dA id L=none->S=[]) (an:Own encS 113 base H' aK aQ aT (G id++[x])) (aA:r<H.size)
  (aZ:Grow H S (ax aK)) (bt:Fr [r] H' cG):p0 cG base r (oZ id (.slice aK aQ aT) ck L) (λj=>if j=id then G id++[x]else G j):=by
 have KJ:r∉ax aK:=λhk=>by
  rcases aZ r hk with h1|h1
  ·cases aH:dA id L with
   |none=>rw [Dc aH]at h1;cases h1
   |some v=>
    obtain⟨a,n,c,rfl,_,_,a6⟩:=h.gI id v aH
    rw [bI a n c aH]at h1;exact a6 h1
  ·omega
 have Q9:∀j a n c,j≠id->dA j L=some (.slice a n c)->e2 (ax a) S:=λj a n c a' aH=>by
  cases iS:dA id L with
  |none=>rw [Dc iS];exact λ_ _=>by simp
  |some v=>
   obtain⟨a2,cr,c2,rfl,_,_,_⟩:=h.gI id v iS
   rw [bI a2 cr c2 iS];exact h.iI j id a n c a2 cr c2 a' aH iS
 have Q':∀j a n c,j≠id->dA j L=some (.slice a n c)->e2 (ax a) (ax aK):=λj a n c a' aH k hk cA=>by
  rcases aZ k cA with h1|h1
  ·exact Q9 j a n c a' aH k hk h1
  ·obtain⟨_,_,_,e,ae,_⟩:=h.gI j _ aH
   cases e
   have:=ae.yM k hk;omega
 refine⟨λj v a'=> ?_,λj dK a n c a2 cr c2 cH a' mE=> ?_,λj a'=> ?_⟩
 ·rw [uO]at a'
  by_cases e:j=id
  ·subst e
   rw [if_pos rfl]at a'
   cases a'
   rw [if_pos rfl]
   exact⟨_,_,_,rfl,jV an bt (λk hk cA=>by simp at cA;subst cA;exact KJ hk),by simp,KJ⟩
  ·rw [if_neg e]at a'
   rw [if_neg e]
   obtain⟨a,n,c,rfl,ae,au,a6⟩:=h.gI j v a'
   exact⟨a,n,c,rfl,jV (jV ae af (Q9 j a n c e a')) bt (λk hk cA=>by simp at cA;subst cA;exact a6 hk),au,a6⟩
 ·rw [uO]at a' mE
  by_cases e:j=id
  ·subst e
   rw [if_pos rfl]at a'
   cases a'
   rw [if_neg (λe=>cH e.symm)]at mE
   exact(Q' dK a2 cr c2 (λe=>cH e.symm) mE).symm
  ·rw [if_neg e]at a'
   by_cases cV:dK=id
   ·subst cV
    rw [if_pos rfl]at mE
    cases mE
    exact Q' j a n c e a'
   ·rw [if_neg cV]at mE
    exact h.iI j dK a n c a2 cr c2 cH a' mE
 ·rw [uO]at a'
  by_cases e:j=id
  ·rw [if_pos e]at a';cases a'
  ·rw [if_neg e]at a'
   rw [if_neg e];exact h.no j a'
theorem p0.ext{base:Nat}{L:List (cS Int)}{G xk:Int->List bC}(h:p0 H base r L G)(e:∀j,G j=xk j):p0 H base r L xk:=by
 have:G=xk:=funext e
 subst this;exact h
theorem p0.ab{base:Nat}{L:List (cS Int)}{G:Int->List bC}(h:p0 H base r L G)(af:Fr [] H H'):p0 H' base r L G:=
 ⟨λid v aI=>by obtain⟨a,n,c,e,ae,au,a6⟩:=h.gI id v aI;exact⟨a,n,c,e,ae.ab af,au,a6⟩,h.iI,h.no⟩
def mm(L:List (cS Int))(id:Int):Option Addr:=match dA id L with|some (.slice a _ _)=>a|_=>none
theorem GH{L:List (cS Int)}{id:Int}{a:Option Addr}{n:Nat}(h:dA id L=some (.slice a n c)):mm L id=a:=by unfold mm;rw [h]
structure vp(H:J)(base r it ck:Nat)(L:List (cS Int))(G:Int->List bC)(seen:Array Nat)(o:Option Addr)(l c:Nat)(ms:List bb)(ss:List cw):Prop where
 map:dM dB H r ck L
 itr:H[it]?=some (.mapIter (some r) ck seen ck)
 un:∀e∈L,e.2.2∉seen->∃n c,e.2.1=.slice (mm L e.1) n c/\Own encS 113 base H (mm L e.1) n c (G e.1)
 msr:cZ (λm s=>m.1=s.1/\m.2.1=mm L m.1/\Own encS 113 base H m.2.1 m.2.2.1 m.2.2.2 s.2/\tV (G m.1) s.2) ms ss
 key:∀id,(∃m∈ms,m.1=id)↔∃e∈L,e.1=id/\e.2.2∈seen
 Ar:(ms.map (·.1)).Nodup
 mo:Own dL 57 base H o l c ms
 ha:∀e∈L,e2 (ax o) (ax (mm L e.1))
 iI:∀e∈L,∀cV∈L,e.1≠cV.1->e2 (ax (mm L e.1)) (ax (mm L cV.1))
 ro:r∉ax o/\it∉ax o/\r≠it
 p1:∀e∈L,r∉ax (mm L e.1)/\it∉ax (mm L e.1)
 ne:∀e∈L,G e.1≠[]
theorem vp.start{base it ck:Nat}{L:List (cS Int)}{G:Int->List bC}(h:p0 H base r L G)(hm:dM dB H r ck L)(ay:ds H it (.mapIter (some r) ck #[] ck) H'):vp H' base r it ck L G #[] none 0 0 [] []:=by
 have az:=ay.eq
 have aZ:∀e∈L,∃a n c,e.2.1=.slice a n c/\dA e.1 L=some (.slice a n c)/\Own encS 113 base H a n c (G e.1)/\G e.1≠[]/\r∉ax a:=λe he=>by
  have h1:=Fx hm.wf (k:=e.1) (v:=e.2.1) (b:=e.2.2) he
  obtain⟨a,n,c,bc,ae,au,a6⟩:=h.gI _ _ h1
  exact⟨a,n,c,bc,by rw [<-bc];exact h1,ae,au,a6⟩
 refine⟨hm.ab dB ay.ag,ay.get,λe he _=> ?_,.nil,λid=>by simp,by simp,Own.nil _ _ _ _,λe _ k hk=>by simp [ax]at hk,λe he cV h7 cH=> ?_,⟨by simp [ax],by simp [ax],by have:=hm.lt;omega⟩,λe he=> ?_,λe he=> ?_⟩
 ·obtain⟨a,n,c,bc,bN,ae,_⟩:=aZ e he
  rw [GH bN]
  exact⟨n,c,bc,ae.ab ay.ag⟩
 ·obtain⟨a,n,c,_,bN,_⟩:=aZ e he
  obtain⟨aK,aQ,aT,_,Ra,_⟩:=aZ cV h7
  rw [GH bN,GH Ra]
  exact h.iI _ _ _ _ _ _ _ _ cH bN Ra
 ·obtain⟨a,n,c,_,bN,ae,_,a6⟩:=aZ e he
  rw [GH bN]
  exact⟨a6,λhk=>by have:=ae.yM it hk;omega⟩
 ·obtain⟨a,n,c,_,bN,ae,au,a6⟩:=aZ e he
  exact au
theorem vp.step{H1 aN bw bY:J}{base it ck:Nat}{L:List (cS Int)}{G:Int->List bC}{seen:Array Nat}{o:Option Addr}{l:Nat}{ms:List bb}{ss:List cw}{e:cS Int}{aQ aT:Nat}{f:List bC}{lH:Option Addr}{lP d':Nat}
  (h:vp H base r it ck L G seen o l c ms ss) (he:e∈L) (jY:e.2.2∉seen) (az:H1[it]?=some (.mapIter (some r) ck (seen.push e.2.2) ck)) (b9:Fr [it] H H1) (bt:Fr (ax (mm L e.1)) H1 aN)
  (eV:Own encS 113 base aN (mm L e.1) aQ aT f) (cn:tV (G e.1) f) (bW:Fr [] aN bw) (gw:Own dL 57 base bY lH lP d' (ms++[(e.1,(mm L e.1,aQ,aT))])) (cB:Fr (ax o) bw bY) (aZ:Grow bw (ax o) (ax lH)):
  vp bY base r it ck L G (seen.push e.2.2) lH lP d' (ms++[(e.1,(mm L e.1,aQ,aT))]) (ss++[(e.1,f)]):=by
 have hw:=h.map.wf
 have s1:=b9.size
 have s2:=bt.size
 have tj:=bW.size
 have hit:it<H.size:=k2 h.itr
 have aA:r<H.size:=h.map.lt
 have en:r∉ax (mm L e.1):=(h.p1 e he).1
 have i1:it∉ax (mm L e.1):=(h.p1 e he).2
 have own:∀{a:Option Addr} {p q:Nat} {xs:List bC},Own encS 113 base H a p q xs->it∉ax a->e2 (ax a) (ax (mm L e.1))->e2 (ax o) (ax a)->Own encS 113 base bY a p q xs:=λan h1 ae au=>
  jV ((jV (jV an b9 (λk hk cA=>by simp at cA;subst cA;exact h1 hk)) bt ae).ab bW) cB au.symm
 have agu:∀cV∈L,cV.2.2≠e.2.2->cV.1≠e.1:=λcV h7 cH hk=>cH (by rw [zK hw h7 he hk])
 have KK:∀{T:List Nat},e2 (ax o) T->(∀k∈T,k<bw.size)->e2 (ax lH) T:=λaO dc k hk cA=>by
  rcases aZ k hk with h1|h1
  ·exact aO k h1 cA
  ·have:=dc k cA;omega
 refine⟨((h.map.ag dB b9 (by simp;exact h.ro.2.2)).ag dB bt en|>.ab dB bW).ag dB cB h.ro.1,?_,λcV h7 GI=> ?_,?_,λid=> ?_,?_,gw,λcV h7=> ?_,h.iI,⟨?_,?_,h.ro.2.2⟩,h.p1,h.ne⟩
 ·exact cB.get (bW.nw (bt.get az i1)) h.ro.2.1
 ·have cH:cV.2.2≠e.2.2:=λhk=>GI (by rw [hk];simp)
  have agv:cV.2.2∉seen:=λhk=>GI (by simp [hk])
  obtain⟨n,c,bc,ae⟩:=h.un cV h7 agv
  exact⟨n,c,bc,own ae (h.p1 cV h7).2 (h.iI cV h7 e he (agu cV h7 cH)) (h.ha cV h7)⟩
 ·refine(h.msr.mono λm s hm hs hh=> ?_).app (.cons ⟨rfl,rfl,jV (eV.ab bW) cB (h.ha e he).symm,cn⟩ .nil)
  obtain⟨g1,g2,g3,g4⟩:=hh
  obtain⟨cV,h7,hk,hs'⟩:=(h.key m.1).1 ⟨m,hm,rfl⟩
  have cH:cV.1≠e.1:=λcA=>jY (by rw [<-zK hw h7 he cA];exact hs')
  refine⟨g1,g2,own g3 ?_ ?_ ?_,g4⟩
  ·rw [g2,<-hk];exact(h.p1 cV h7).2
  ·rw [g2,<-hk];exact h.iI cV h7 e he cH
  ·rw [g2,<-hk];exact h.ha cV h7
 ·constructor
  ·rintro⟨m,hm,rfl⟩
   rcases asU.1 hm with hm|hm
   ·obtain⟨cV,h7,hk,hs'⟩:=(h.key m.1).1 ⟨m,hm,rfl⟩
    exact⟨cV,h7,hk,by simp [hs']⟩
   ·simp at hm;subst hm
    exact⟨e,he,rfl,by simp⟩
  ·rintro⟨cV,h7,rfl,hs'⟩
   by_cases hk:cV.2.2=e.2.2
   ·have:=BY hw h7 he hk
    subst this
    exact⟨_,List.mem_append_right _ (ar7.2 rfl),rfl⟩
   ·have gZ:cV.2.2∈seen:=by simpa [hk]using hs'
    obtain⟨m,hm,cA⟩:=(h.key cV.1).2 ⟨cV,h7,rfl,gZ⟩
    exact⟨m,List.mem_append_left _ hm,cA⟩
 ·rw [as2,List.nodup_append]
  refine⟨h.Ar,by simp,λa bQ b ah qB=> ?_⟩
  simp at ah
  subst ah
  obtain⟨m,hm,hk⟩:=ad6.1 bQ
  obtain⟨cV,h7,cA,hs'⟩:=(h.key m.1).1 ⟨m,hm,rfl⟩
  exact jY (by rw [<-zK hw h7 he (by rw [cA,hk,qB])];exact hs')
 ·refine KK (h.ha cV h7) λk hk=> ?_
  by_cases hs':cV.2.2∈seen
  ·obtain⟨m,hm,cA⟩:=(h.key cV.1).2 ⟨cV,h7,rfl,hs'⟩
   obtain⟨s,_,g1,g2,g3,_⟩:=h.msr.mem hm
   rw [<-cA,<-g2]at hk
   have:=g3.yM k hk;omega
  ·obtain⟨_,_,_,ae⟩:=h.un cV h7 hs'
   have:=ae.yM k hk;omega
 ·intro hk
  rcases aZ r hk with h1|h1
  ·exact h.ro.1 h1
  ·omega
 ·intro hk
  rcases aZ it hk with h1|h1
  ·exact h.ro.2.1 h1
  ·omega
end Go.Proofs.bb
section
open Go Go.bs Go.Proofs Go.Shelf Go.Sort
namespace Go.bs
section
variable{α:Type}[Inhabited α]
theorem Vt(E:dd α)(d:Array α):(flatK E.cells E.sz d).toList=d.toList.flatMap E.cells:=by
 apply ast
 intro t
 have bh:=E.pos
 by_cases bf:t<d.size*E.sz
 ·have h1:t/E.sz<d.size:=by
   rw [Nat.div_lt_iff_lt_mul bh];exact bf
  have ae:t % E.sz<E.sz:=Nat.mod_lt _ bh
  have aa:d.toList[t/E.sz]?=some d[t/E.sz]! :=by
   rw [avP,getElem!_pos d _ h1];simp [h1]
  have aI:(E.cells d[t/E.sz]!)[t % E.sz]?=some (E.cells d[t/E.sz]!)[t % E.sz]! :=by
   have:t % E.sz<(E.cells d[t/E.sz]!).length:=by rw [E.len];exact ae
   rw [getElem!_pos (E.cells d[t/E.sz]!) (t % E.sz) this];simp [this]
  have au:=wJ E d.toList (t/E.sz) _ aa (t % E.sz) _ aI
  rw [Nat.mul_comm,Nat.div_add_mod]at au
  rw [au,<-get_flatK E.cells E.sz d t bf]
  have a6:t<(flatK E.cells E.sz d).size:=by rw [size_flatK];exact bf
  rw [avP,getElem!_pos (flatK E.cells E.sz d) t a6]
  simp
 ·rw [asu (by rw [Eo,size_flatK];omega),asu (by rw [vv,Eo];omega)]
theorem grown_of{E:Env}{H:J}{d:kb E}(W:World)(qo:W.heap.size<=H.size)(af:Fr [] W.heap H)(h1:E.tape=W.tape)(ae:E.os=W.os)(au:E.output=W.output)(a6:W.drawn<=d.1):∃q aps,a8 E H d=grow (W.drewN q) aps:=by
 refine⟨d.1-W.drawn,H.extract W.heap.size H.size,?_⟩
 have hH:H=W.heap++H.extract W.heap.size H.size:=by
  apply Array.ext_getElem?
  intro i
  by_cases az:i<W.heap.size
  ·rw [avT az]
   exact af.block i az (by simp)
  ·rw [Array.getElem?_append_right (by omega),Array.getElem?_extract]
   by_cases bu:i<H.size
   ·rw [if_pos (by omega)]
    congr 1;omega
   ·rw [if_neg (by omega),Array.getElem?_eq_none (by omega)]
 unfold a8 grow World.drewN
 have aO:W.drawn+(d.1-W.drawn)=d.1:=by omega
 simp only [aO,<-hH,h1,ae,au]
theorem Ki{P:Program}{hT:Ren}(L:SlLaysF0.n6 P hT){kf g:FuncId}(lA:hT.f 6=kf){E:dd α}{t:TypeId}(bf:hT.t 24=t)(apt:rH P t=true)(apu:∃d,P.underlying t=some d)(dC:hV P t=E.sz)(AZ:(P.info? t).isSome=true)
  (cf:α->α->Int) (hO:SWO (ltOf cf)) (apv:∀args w,(callFunc g args).run P w=.ok (.enter g args) w)
  (ak:∀(x y:α) (H:J) (K:Int->J->Prop),(∀H',Fr [] H H'->K (cf x y) H')->aY P g ⟨[.agg ⟨E.cells x⟩,.agg ⟨E.cells y⟩]⟩ H λv H'=>∃n,v=.int .i64 n/\K n H')
  {base:Nat} {H:J} {a:Option Addr} {n c:Nat} {xs:List α} {K:J->Prop} (an:Own E t base H a n c xs) (ay:n<4611686018427387904)
  (hk:∀H' ys,Own E t base H' a n c ys->ys.Perm xs->ys.Pairwise (λx y=>¬cf y x<0)->Fr (ax a) H H'->K H'):
  aY P kf ⟨[.slice a n c,.func (.func g) #[] #[]]⟩ H λv H'=>v=.tuple ⟨[]⟩/\K H':=by
 subst lA
 intro gA d
 have aH:=an.1
 obtain⟨_,⟨rfl,aD,vI⟩|⟨b,cur,rfl,ah,aq,rp,hm,hs,e8⟩⟩:=id an
 ·have:=AnyF.slices_SortFunc_none L none c (.func (.func g) #[] #[]) (a8 gA H d)
  rw [aD]
  refine this.mono ?_
  rintro e w' ⟨rfl,rfl⟩
  have aa:xs=[]:=asF (by omega)
  subst aa
  exact⟨_,H,d,rfl,rfl,rfl,hk H [] (by simpa using an) (List.Perm.refl _) List.Pairwise.nil (Fr.refl _ _)⟩
 ·have e3:(a8 gA H d).heap[b]?=some (.cells cur t (0,0)):=aq
  obtain⟨asc,hu⟩:=apu
  have apw:(flatK E.cells E.sz xs.toArray).toList=xs.flatMap E.cells:=by rw [Vt]
  have yi:(flatK E.cells E.sz xs.toArray).size=n*E.sz:=by rw [size_flatK,aH];simp
  have asd:n*E.sz<=cur.size:=by rw [hs];exact Nat.mul_le_mul_right _ rp
  have hH:HoldsK E.cells E.sz (a8 gA H d) b 0 xs.toArray:=by
   intro j a'
   rw [yi]at a'
   refine⟨?_,by simp [World.frozen?,e3]⟩
   have h1:(cur.toList.take (n*E.sz))[j]?=(flatK E.cells E.sz xs.toArray).toList[j]?:=by rw [e8,apw]
   rw [avZ a']at h1
   simp only [World.cell?,e3,Nat.zero_add]
   simp only [Option.isSome_none,Bool.false_eq_true,if_false]
   rw [<-avP,h1,avP]
   have:j<(flatK E.cells E.sz xs.toArray).size:=by rw [yi];exact a'
   rw [getElem!_pos (flatK E.cells E.sz xs.toArray) j this]
   simp
  have apx:CmpLays P g #[] E.cells E.sz cf b 0 xs.toArray.size (a8 gA H d):=by
   intro m os uZ zT x y
   generalize ase:sortWorldK E.cells E.sz (a8 gA H d) b 0 m uZ os=W
   have za:=ak x y W.heap (λr H'=>r=cf x y/\Fr [] W.heap H') (λH' af=>⟨rfl,af⟩) ⟨W.tape,W.os,W.output,W.drawn⟩ ⟨W.drawn,nQ _⟩
   rw [<-M6 W]at za
   refine za.mono ?_
   rintro e w' ⟨v,H',d',rfl,rfl,r,rfl,rfl,af⟩
   exact⟨rfl,grown_of W af.size af rfl rfl rfl d'.2⟩
  have wm:=AnyQ.slices_SortFunc L E.sz (λw=>by rw [bf];rw [K8 hu];rw [apt]) (λw=>by
   rw [bf]
   cases az:P.info? t with
   |none=>rw [az]at AZ;cases AZ
   |some i=>rw [mC az];congr 1;simpa [hV,az]using dC) E.cells E.len E.one cf hO g #[] b 0 c xs.toArray (a8 gA H d) apv apx hH (k2 aq) (by simpa using by omega)
  have Vu:xs.toArray.size=n:=by simp [aH]
  rw [Vu]at wm
  refine wm.mono ?_
  rintro e w' ⟨rfl,d',m,os,yB,apy,rfl⟩
  obtain⟨k0,_,iV⟩:=yB
  have HL:d'.size=n:=by rw [k0];simp [aH]
  have Lw:d'.toList.Perm xs:=by
   have bc:d'.extract 0 n=d':=by rw [<-HL];simp
   have bN:xs.toArray.extract 0 n=xs.toArray:=by rw [<-Vu];simp
   rw [bc,bN]at iV
   simpa using iV
  have apz:(flatK E.cells E.sz d').toList=d'.toList.flatMap E.cells:=Vt E d'
  have Vv:(flatK E.cells E.sz d').size=n*E.sz:=by rw [size_flatK,HL]
  have BP:b<H.size:=k2 aq
  refine⟨_,(sortWorldK E.cells E.sz (a8 gA H d) b 0 m d' os).heap,⟨d.1+m,VF d.2 (au3 _ _)⟩,rfl,rfl,rfl,hk _ d'.toList ?_ Lw ?_ ?_⟩
  ·refine⟨by rw [Eo,HL],.inr ⟨b,putCells id 0 (flatK E.cells E.sz d') cur,rfl,ah,?_,rp,hm,by simp [putCells,hs],?_⟩⟩
   ·show(grow (putRow id (Sort.ahead (a8 gA H d) m) b 0 (flatK E.cells E.sz d')) os).heap[b]?=_
    have uG:H[b]?=some (.cells cur t (0,0)):=aq
    simp only [grow,putRow,mapBlock,Sort.ahead,a8]
    rw [avT (by simpa using BP),asC]
    simp [uG,onCells]
   ·rw [<-apz]
    apply ast
    intro j
    by_cases a':j<n*E.sz
    ·rw [avZ a',avP,avP]
     have bu:j<(flatK E.cells E.sz d').size:=by rw [Vv];exact a'
     have ca:j<cur.size:=by omega
     simp only [putCells,Array.getElem?_mapIdx,Nat.zero_add,apG,true_and,Nat.sub_zero]
     rw [av0 ca]
     simp only [Option.map_some,bu,if_true,id]
     rw [getElem!_pos (flatK E.cells E.sz d') j bu,av0 bu]
    ·rw [List.getElem?_take_eq_none (by omega),asu (by rw [Eo,Vv];omega)]
  ·rw [avK]
   intro i j h1 ae mD
   have:=apy i j (apG _) mD (by rw [<-HL];simpa using ae)
   have bc:d'[i]! =d'.toList[i]:=by rw [getElem!_pos d' i (by simpa using h1)];simp
   have bN:d'[j]! =d'.toList[j]:=by rw [getElem!_pos d' j (by simpa using ae)];simp
   rw [bc,bN]at this
   simpa [ltOf]using this
  ·refine⟨?_,λk hk ay=> ?_⟩
   ·show H.size<=(grow (putRow id (Sort.ahead (a8 gA H d) m) b 0 (flatK E.cells E.sz d')) os).heap.size
    simp [grow,putRow,mapBlock,Sort.ahead,a8]
   ·show(grow (putRow id (Sort.ahead (a8 gA H d) m) b 0 (flatK E.cells E.sz d')) os).heap[k]?=_
    have apA:b≠k:=by simp [ax]at ay;exact λe=>ay e.symm
    simp only [grow,putRow,mapBlock,Sort.ahead,a8]
    rw [avT (by simpa using hk),asC]
    simp [apA]
end
end Go.bs
end
open Go Go.bs
namespace Go.Proofs.bb
variable{H:J}
theorem As{α:Type}{E:dd α}{a:Option Addr}{n c:Nat}{xs:List α}(h:bk E H a n c xs)(aa:xs≠[]):∀k∈ax a,k<H.size:=λk hk=>by
 obtain⟨b,off,rfl,ah⟩:=h.arr.lt aa
 simp [ax]at hk;omega
def qI(ss:List cw)(id:Int):List bC:=match ss with|[]=>[]|s::ss=>if s.1=id then s.2 else qI ss id
theorem agw(ss:List cw)(id t:Int):gk (qI ss id) t=lx ss id t:=by
 induction ss with
 |nil=>rfl
 |cons s ss ih=>
  show gk (if s.1=id then s.2 else qI ss id) t=if s.1=id then gk s.2 t else lx ss id t
  split
  ·rfl
  ·exact ih
theorem agx{ss:List cw}{id:Int}(h:∀s∈ss,s.1≠id):qI ss id=[]:=by
 induction ss with
 |nil=>rfl
 |cons s ss ih=>
  show(if s.1=id then s.2 else qI ss id)=[]
  rw [if_neg (h s (by simp))];exact ih λx aa=>h x (by simp [aa])
theorem agy{ss:List cw}(bh:ss.Pairwise λa b=>a.1<b.1){k:Nat}{s:cw}(h:ss[k]?=some s):qI ss s.1=s.2:=by
 induction ss generalizing k with
 |nil=>simp at h
 |cons x ss ih=>
  have Dd:=ave.1 bh
  show(if x.1=s.1 then x.2 else qI ss s.1)=s.2
  cases k with
  |zero=>simp at h;subst h;rw [if_pos rfl]
  |succ k=>
   simp at h
   have:=Dd.1 s (att h)
   rw [if_neg (by omega)];exact ih Dd.2 h
theorem KL{ss:List cw}(h:ej ss)(id:Int):ik (qI ss id):=by
 induction ss with
 |nil=>exact ik.nil
 |cons x ss ih=>
  obtain⟨_,ae,au⟩:=ej.cons.1 h
  show ik (if x.1=id then x.2 else qI ss id)
  split
  ·exact ae.2
  ·exact ih au
def xl(ss:List cw)(s:cw):cw:=(s.1,iL (qI ss s.1) s.2)
theorem Rb{x:fu}{m:Nat}:∀{ss:List cw},(∀s∈ss,s.2.length<=m)->(iM ss x).length<=ss.length+1/\∀s∈iM ss x,s.2.length<=m+1
 |[],_=>⟨nQ _,λs hs=>by simp [iM]at hs;subst hs;simp⟩
 |y::ss,h=>by
  unfold iM
  split
  ·refine⟨by simp,λs hs=> ?_⟩
   rcases o3.1 hs with rfl|hs
   ·simp
   ·have:=h s hs;omega
  ·split
   ·refine⟨by simp,λs hs=> ?_⟩
    rcases o3.1 hs with rfl|hs
    ·have h1:=De y.2 [(x.1,x.2.2)]
     have ae:=h y (by simp)
     simp at h1
     show(iL y.2 [(x.1,x.2.2)]).length<=m+1
     omega
    ·have:=h s (by simp [hs]);omega
   ·obtain⟨i1,i2⟩:=Rb (x:=x) (ss:=ss) λs hs=>h s (by simp [hs])
    refine⟨by simp;omega,λs hs=> ?_⟩
    rcases o3.1 hs with rfl|hs
    ·have:=h s (by simp);omega
    ·exact i2 s hs
theorem KM{m:Nat}:∀{rows:List fu} {ss:List cw},(∀s∈ss,s.2.length<=m)->(gz ss rows).length<=ss.length+rows.length/\∀s∈gz ss rows,s.2.length<=m+rows.length
 |[],ss,h=>⟨by simp [gz],λs hs=>by have:=h s hs;simp;omega⟩
 |x::rows,ss,h=>by
  obtain⟨i1,i2⟩:=Rb (x:=x) h
  obtain⟨aqM,agz⟩:=KM (m:=m+1) (rows:=rows) (ss:=iM ss x) i2
  refine⟨?_,λs hs=> ?_⟩
  ·show(gz (iM ss x) rows).length<=_
   simp;omega
  ·have:=agz s hs
   simp;omega
theorem KN{x y:bb}:lu x y<0↔x.1<y.1:=lN
theorem agA:Go.Sort.SWO (ltOf lu) where
 irrefl x:=by simp only [ltOf,decide_eq_false_iff_not,KN];omega
 trans x y z h1 ae:=by simp only [ltOf,decide_eq_true_eq,KN]at *;omega
 ntrans x y z h1 ae:=by simp only [ltOf,decide_eq_false_iff_not,KN]at *;omega
theorem agB{base:Nat}{a:Option Addr}{n c:Nat}{xs:List bb}{K:J->Prop}(an:Own dL 57 base H a n c xs)(ay:n<=1000000000)
  (hk:∀H' ys,Own dL 57 base H' a n c ys->ys.Perm xs->ys.Pairwise (λx y=>¬lu y x<0)->Fr (ax a) H H'->K H'):
  aY atf 136 ⟨[.slice a n c,.func (.func 135) #[] #[]]⟩ H λv H'=>v=.tuple ⟨[]⟩/\K H':=
 Ki Tryz.agC (kf:=136) rfl (E:=dL) (t:=57) rfl (by kernel_rfl) ⟨_,Tryz.underlying57⟩ (by kernel_rfl) (by kernel_rfl) lu agA (enters_of Tryz.func135 (by kernel_rfl) rfl) (λx y H K hk=>QY hk) an (by omega) hk
theorem agD{f:cw->cw}{l:List cw}{k:Nat}{s:cw}(h:l[k]?=some s):((l.take k).map f++l.drop k)[k]?=some s/\((l.take k).map f++l.drop k).set k (f s)=(l.take (k+1)).map f++l.drop (k+1):=by
 obtain⟨hk,rfl⟩:=qb.1 h
 have aH:((l.take k).map f).length=k:=by simp;omega
 have aO:l.drop k=l[k]::l.drop (k+1):=avj hk
 refine⟨?_,?_⟩
 ·rw [List.getElem?_append_right (by omega),aH,aO];simp
 ·rw [List.set_append_right _ _ (by omega),aH,aO,Nat.sub_self,List.set_cons_zero,ats,h,as2]
  simp
theorem KO{x:fu}{zs:List Value}{K:Nat->J->Prop}(aC:zs.length=3)
  (k:∀b H',H.size<=b->aU H' ⟨b,0,none⟩ (fT.cells x)->Fr [] H H'->K b H'):
  ∀b H',ds H b (.cells ⟨zs⟩ 128) H'->∃cv,fb atf 128 H' ⟨b,0,none⟩ (.agg ⟨fT.cells x⟩) cv/\K b cv:=
 ia (by kernel_rfl) (by kernel_rfl) (λv h=>by simp [atq,fT]at h;rcases h with rfl|rfl|rfl<;>rfl) aC k
theorem FJ:∀{l m:List Int},l.Nodup->(∀x∈l,x∈m)->l.length<=m.length
 |[],m,_,_=>apG _
 |x::l,m,h,hs=>by
  have aO:=List.nodup_cons.1 h
  have aa:=hs x (by simp)
  have ih:=FJ (m:=m.erase x) aO.2 λy av=>(List.mem_erase_of_ne (λe=>aO.1 (by subst e;exact av))).2 (hs y (by simp [av]))
  rw [List.length_erase_of_mem aa]at ih
  have:=List.length_pos_of_mem aa
  simp;omega
theorem agE{rows:List fu}{id:Int}(h:kv rows id≠[]):id∈rows.map (·.2.1):=by
 obtain⟨y,av⟩:=avw _ h
 unfold kv at av
 obtain⟨x,aa,_⟩:=ad6.1 av
 have:=VD.1 aa
 exact ad6.2 ⟨x,this.1,of_decide_eq_true this.2⟩
theorem vp.len{base r it ck:Nat}{L:List (cS Int)}{rows:List fu}{seen:Array Nat}{o:Option Addr}{l c:Nat}{ms:List bb}{ss:List cw}(h:vp H base r it ck L (kv rows) seen o l c ms ss):ms.length<=rows.length:=by
 have:=FJ (m:=rows.map (·.2.1)) h.Ar λx aa=>by
  obtain⟨m,hm,rfl⟩:=ad6.1 aa
  obtain⟨e,he,hk,_⟩:=(h.key m.1).1 ⟨m,hm,rfl⟩
  rw [<-hk];exact agE (h.ne e he)
 simpa using this
theorem Au{sH:Option Addr}{mO lc:Nat}{hs:List bb}{ss:List cw}{p1:Option Addr}{cK rc:Nat}{rows:List fu}{K:Option Addr->Nat->Nat->J->Prop}(aa:bk dL H sH mO lc hs)(bI:e9 H hs ss)(hh:ej ss)(Dg:bk fT H p1 cK rc rows)
  (KP:mO<=1000000) (sI:cK<=1000000) (eo:∀s∈ss,s.2.length<=1000000)
  (hk:∀aK aQ aT H' hs',Own dL 57 H.size H' aK aQ aT hs'->e9 H' hs' (gz ss rows)->(∀m∈hs',∀q∈ax m.2.1,H.size<=q)->Fr [] H H'->K aK aQ aT H'):
  aY atf agF ⟨[.slice sH mO lc,.slice p1 cK rc]⟩ H λv H'=>∃a n c,v=.slice a n c/\K a n c H':=by
 apply agG
 intro b H1 aB
 have F7:=aB.eq
 have ry:=Dg.len
 have oq:=aa.len
 have agH:ss.length=mO:=by rw [oq];exact bI.len.symm
 refine⟨λvs H'=>match vs with
   |[.int _ i]=>∃(k ck:Nat) (L:List (cS Int)),i=k/\k<=cK/\dM dB H' b ck L/\p0 H' H.size b L (kv (rows.take k))/\(∀id,(kv (rows.take k) id).length<=k)/\Fr [] H H'
   |_=>False,
  λvs _=>match vs with|[.int _ i]=>cK-i.toNat|_=>0,⟨0,0,[],rfl,by omega,dM.new dB aB,(p0.start _ _ _).ext λj=>rfl,λid=>nQ _,aB.ag⟩,?_⟩
 rintro bm i ao ⟨k,ck,L,rfl,du,hm,b4,Dh,af⟩
 refine ai (λaD=> ?_) (λaD=> ?_)
 ·have bT:k<cK:=by simpa using aD
  have b0:rows[k]?=some (rows[k]'(by omega)):=by simp
  generalize rows[k]'(by omega)=x at b0
  refine(Dg.ab af).get rfl b0 (decide_eq_true (by omega)) λal bS ak=>⟨_,_,_,xi ak,?_⟩
  refine KO rfl λb1 aF cI bK bG=> ?_
  have tu:=hm.ab dB bG
  have Rc:=b4.ab bG
  have jj:=af.aw bG
  have agI:=jj.size
  have fi:b<aF.size:=tu.lt
  obtain⟨a,n,c,agJ,de,pZ,Dc,kV⟩:∃a n c,(dA x.2.1 L).getD (.slice none 0 0)=.slice a n c/\Own encS 113 H.size ao a n c (kv (rows.take k) x.2.1)/\(∀aK aQ aT,dA x.2.1 L=some (.slice aK aQ aT)->ax a=ax aK)/\(dA x.2.1 L=none->ax a=[])/\n<=k:=by
   cases aH:dA x.2.1 L with
   |none=>exact⟨none,0,0,rfl,by rw [b4.no _ aH];exact Own.nil _ _ _ _,(λ_ _ _ h=>by cases h),λ_=>rfl,by omega⟩
   |some v=>
    obtain⟨a,n,c,rfl,ae,_,_⟩:=b4.gI _ _ aH
    exact⟨a,n,c,rfl,ae,(λ_ _ _ h=>by cases h;rfl),(λh=>by cases h),by rw [ae.1];exact Dh _⟩
  have an:=de.ab bG
  have wN:∀{H':J},Fr [] aF H'->Rd atf (Instr.lookup 272 (.map (some b)) (.int .i64 x.2.1) false) H' (.slice a n c):=λdZ=>by
   have:=r6 dB KH agt (tu.ab dB dZ) x.2.1
   rw [agJ]at this;exact this
  refine⟨_,bK.bV (j:=1) (by kernel_rfl) rfl,_,bK.bV (j:=1) (by kernel_rfl) rfl,a,n,c,wN (Fr.refl _ _),_,bK.b5 (by kernel_rfl) rfl,_,bK.bV (j:=2) (by kernel_rfl) rfl,?_⟩
  intro b2 aN cp
  have mn:=bK.ab cp.ag
  have FU:=cp.size
  refine⟨wN cp.ag,mn.bV (j:=1) (by kernel_rfl) rfl,mn.bV (j:=1) (by kernel_rfl) rfl,?_⟩
  have eV:=an.ab cp.ag
  refine iD nZ xa eV (gd encS ((x.1,x.2.2):bC) cp rfl) (by omega) (by omega) λaK aQ aT bw ey bW sB=> ?_
  have agK:b∉ax a:=λcA=>by
   cases aH:dA x.2.1 L with
   |none=>rw [Dc aH]at cA;cases cA
   |some v=>
    obtain⟨a2,cr,c2,rfl,_,_,a6⟩:=Rc.gI _ _ aH
    rw [pZ _ _ _ aH]at cA;exact a6 cA
  have lo:aU bw ⟨b1,0,none⟩ (fT.cells x):=mn.ag bW λcA=>by
   have:=de.yM _ cA
   simp at this;omega
  refine⟨lo.bV (j:=1) (by kernel_rfl) rfl,?_⟩
  have la:=(tu.ab dB cp.ag).ag dB bW agK
  refine uN dB KH la x.2.1 λbY Av cB=> ?_
  rw [b6 (by omega)]
  have agL:=(Rc.ab cp.ag).put (ck:=ck) bW (λlI mb mc aH=>(pZ lI mb mc aH)) Dc ey (by omega) sB cB
  have Re:rows.take (k+1)=rows.take k++[x]:=by rw [ats,b0];rfl
  refine⟨⟨k+1,_,_,rfl,by omega,Av,agL.ext λj=> ?_,λid=> ?_,?_⟩,cJ bT⟩
  ·rw [Re,Rf]
   by_cases e:j=x.2.1
   ·subst e;rw [if_pos rfl,if_pos rfl]
   ·rw [if_neg e,if_neg (λh=>e h.symm)];simp
  ·rw [Re,Rf,VH]
   have:=Dh id
   split<;>simp<;>omega
  ·refine((jj.aw cp.ag).ab bW λk cA=>(eV.ge k cA).1).ab cB λk cA=> ?_
   simp at cA;omega
 have u7:k=cK:=by simp at aD;omega
 subst u7
 rw [asG (by omega)]at b4 Dh
 refine x6 dB KH hm λit aF bF=> ?_
 have KQ:=vp.start b4 hm bF
 have qt:=bF.size
 have jj:=af.aw bF.ag
 have CB:H.size<=b:=by omega
 have aqN:H.size<=it:=by have:=bF.eq;have:=af.size;omega
 refine⟨λvs H'=>match vs with
   |[.slice o l c]=>∃seen ms ss',vp H' H.size b it ck L (kv rows) seen o l c ms ss'/\Fr [] H H'
   |_=>False,
  λ_ H'=>lF H' b it,⟨#[],[],[],KQ,jj⟩,?_⟩
 rintro bm o l c aN ⟨seen,ms,ss',cQ,bU⟩
 refine wE dB cQ.map cQ.itr (λdG=> ?_) λe he jY bw ra bW=> ?_
 ·have qw:l<=1000000:=by have:=cQ.mo.1;have:=cQ.len;omega
  have dk:=cQ.mo.1
  refine agB cQ.mo (by omega) λbw ys ey bh vb bW=> ?_
  obtain⟨lQ,k0,e0⟩:=cZ.perm bh cQ.msr
  have qy:Fr [] H bw:=bU.ab bW λk hk=>(cQ.mo.ge k hk).1
  have qA:=ey.1
  have GJ:∀m∈ys,e2 (ax o) (ax m.2.1)/\∃e∈L,e.1=m.1:=λm hm=>by
   obtain⟨e,he,cA,hs'⟩:=(cQ.key m.1).1 ⟨m,bh.mem_iff.1 hm,rfl⟩
   obtain⟨s,_,_,g2,_⟩:=e0.mem hm
   rw [g2,<-cA]
   exact⟨cQ.ha e he,e,he,rfl⟩
  have qG:e9 bw ys lQ:=e0.mono λm s hm hs aA=>⟨aA.1,zy aA.2.2.1.bL bW (GJ m hm).1.symm⟩
  have KR:∀s∈lQ,tV (kv rows s.1) s.2:=λs hs=>by
   obtain⟨m,_,g1,_,_,g4⟩:=e0.Db hs
   rw [<-g1];exact g4
  have agM:ys.Pairwise λa b=>a.1<b.1:=by
   have iF:(ys.map (·.1)).Nodup:=(bh.map _).nodup_iff.2 cQ.Ar
   refine(vb.and (auT.1 iF)).imp λ{x y} h=> ?_
   have h1:¬y.1<x.1:=λaq=>h.1 (lN.2 aq)
   have ae:=h.2
   omega
  have agN:lQ.Pairwise λa b=>a.1<b.1:=by
   have:∀{ys:List bb} {lQ:List cw},e9 bw ys lQ->ys.Pairwise (λa b=>a.1<b.1)->lQ.Pairwise λa b=>a.1<b.1:=by
    intro ys lQ h
    induction h with
    |nil=>intro _;exact List.Pairwise.nil
    |cons h1 ae ih=>
     intro aq
     have uG:=ave.1 aq
     refine ave.2 ⟨λs hs=> ?_,ih uG.2⟩
     obtain⟨x,aa,e⟩:=cZ.Db ae hs
     rw [<-h1.1,<-e.1];exact uG.1 x aa
   exact this qG agM
  have aqO:lQ.length=l:=by rw [qA,qG.len]
  have agO:∀s∈lQ,s.2.length<=1000000:=λs hs=>by
   obtain⟨oR,_,ae,au⟩:=KR s hs
   have a6:=Q3 none oR
   have bu:=ae.length
   have ca:=Dh s.1
   rw [au];unfold dy
   rw [List.length_reverse]at bu;omega
  have agP:ej (lQ.map (xl ss)):=by
   refine⟨auT.2 (agN.imp λh=>h),λs hs=> ?_⟩
   obtain⟨hJ,ij,rfl⟩:=ad6.1 hs
   have cn:=KR hJ ij
   obtain⟨m,hm,g1,_⟩:=e0.Db ij
   obtain⟨e,he,cA⟩:=(GJ m hm).2
   have cH:hJ.2≠[]:=cn.ne (by rw [<-g1,<-cA];exact cQ.ne e he)
   exact⟨Rg cH (KL hh _) cn.KS,Di _ _ (KL hh _) cn.KS⟩
  have Rh:hB vo ss (lQ.map (xl ss))=gz ss rows:=by
   refine put_eq hh agP (λid=>⟨?_,λcH=> ?_⟩) λs hs t=> ?_
   ·rintro⟨s,hs,rfl⟩
    obtain⟨hJ,ij,rfl⟩:=ad6.1 hs
    obtain⟨m,hm,g1,_⟩:=e0.Db ij
    obtain⟨e,he,cA⟩:=(GJ m hm).2
    show kv rows hJ.1≠[]
    rw [<-g1,<-cA];exact cQ.ne e he
   ·cases aH:dA id L with
    |none=>exact absurd (b4.no id aH) cH
    |some v=>
     obtain⟨fj,ah⟩:=zI aH
     obtain⟨m,hm,cA⟩:=(cQ.key id).2 ⟨_,ah,rfl,dG _ ah⟩
     obtain⟨s,hs,g1,_⟩:=e0.mem (bh.mem_iff.2 hm)
     exact⟨_,ad6.2 ⟨s,hs,rfl⟩,by show s.1=id;rw [<-g1,cA]⟩
   ·obtain⟨hJ,ij,rfl⟩:=ad6.1 hs
    have cn:=KR hJ ij
    show gk (iL (qI ss hJ.1) hJ.2) t=_
    rw [Aw _ _ _ (KL hh _) cn.KS,cn.val,agw]
    rfl
  have agQ:=KM (rows:=rows) eo
  refine⟨λvs H'=>match vs with
    |[.int _ i]=>∃(k:Nat) (ws:List bb),i=k/\k<=l/\Own dL 57 H.size H' o l c ws/\e9 H' ws ((lQ.take k).map (xl ss)++lQ.drop k)/\(∀m∈ws,e2 (ax o) (ax m.2.1))/\Fr [] H H'
    |_=>False,
   λvs _=>match vs with|[.int _ i]=>l-i.toNat|_=>0,⟨0,ys,rfl,by omega,ey,qG,λm hm=>(GJ m hm).1,qy⟩,?_⟩
  rintro bm i bY ⟨k,ws,rfl,uM,gw,rB,KT,cB⟩
  have PE:=gw.1
  refine ai (λh1=> ?_) (λh1=> ?_)
  ·have gp:k<l:=by simpa using h1
   have ij:lQ[k]?=some (lQ[k]'(by omega)):=by simp
   generalize lQ[k]'(by omega)=s at ij
   have lk:=att ij
   obtain⟨F2,F3⟩:=agD (f:=xl ss) ij
   obtain⟨x,pd,rG⟩:=cZ.get' rB F2
   have ov:=att pd
   refine gw.bL.get rfl pd (decide_eq_true (by omega)) λal bS ak=>⟨_,_,_,_,j4 ak,?_⟩
   refine Kl QZ (t:=x) (aa.ab cB) (by omega) (bI.ags hh.1) (λvq y cC av hyx eJ=> ?_) (λcz j0 cC eJ=> ?_)
   ·refine ai (λ_=> ?_) (λh=>by cases h)
    have ri:=cB.aw eJ
    obtain⟨t,bf,KU⟩:=(bI.ab ri).get av
    have aqP:=(qb.1 av).1
    have rD:=eo t (att bf)
    have zL:=agO s lk
    have bc:=KU.2.len
    have bN:=rG.2.len
    refine(aa.ab ri).get rfl av (decide_eq_true (by omega)) λal bS ak=>⟨_,_,_,pc ak,?_⟩
    have fo:=gw.ab eJ
    refine fo.bL.get rfl pd (decide_eq_true (by omega)) λal bS ak=>⟨_,_,_,pc ak,?_⟩
    refine ae5 KU.2 (rG.2.ab eJ) (by omega) λaK aQ aT ed ly l8=> ?_
    obtain⟨al,bS⟩:∃al,o=some al:=by
     cases o with
     |none=>
      obtain⟨_,⟨_,aD,_⟩|⟨_,_,e,_⟩⟩:=gw
      ·omega
      ·cases e
     |some al=>exact⟨al,rfl⟩
    refine xJ bS (cb (decide_eq_true (by omega)) ?_)
    refine Gv (x':=((x.1,(aK,aQ,aT)):bb)) (j:=1) (fo.ab l8) bS rfl pd (by kernel_rfl) (by kernel_rfl) (by simp [atq,avm]) (nQ 2) rfl λee kP pF=> ?_
    have Dj:=(rB.ab eJ).ab l8
    have cH:∀m∈ws,∀q,bk encS ed m.2.1 m.2.2.1 m.2.2.2 q->bk encS ee m.2.1 m.2.2.1 m.2.2.2 q:=λm hm q a1=>zy a1 pF (KT m hm).symm
    have Dk:e2 (ax o) (ax aK):=λk hk cA=>by
     have ae:=(ly.ge k cA).1
     have au:=fo.yM k hk
     omega
    rw [b6 (by omega)]
    refine⟨⟨k+1,_,rfl,by omega,kP,?_,λm hm=> ?_,?_⟩,cJ gp⟩
    ·rw [<-F3]
     refine cZ.set (Dj.mono λm s' hm _ aA=>⟨aA.1,cH m hm _ aA.2⟩) ⟨rG.1,?_⟩
     have dP:qI ss s.1=t.2:=by rw [<-rG.1,<-hyx,KU.1];exact agy hh.1 bf
     show bk encS ee aK aQ aT (iL (qI ss s.1) s.2)
     rw [dP]
     exact zy ly.bL pF Dk.symm
    ·rcases av1 hm with hm|rfl
     ·exact KT m hm
     ·exact Dk
    ·exact(ri.aw l8).ab pF λk hk=>(gw.ge k hk).1
   ·refine ai (λh=>by cases h) (λ_=> ?_)
    rw [b6 (by omega)]
    refine⟨⟨k+1,ws,rfl,by omega,gw.ab eJ,?_,KT,cB.aw eJ⟩,cJ gp⟩
    have dP:xl ss s=s:=by
     unfold xl
     rw [agx λs' hs' e=> ?_,yD]
     obtain⟨y,av,iZ⟩:=cZ.Db bI hs'
     exact cz y av (by rw [iZ.1,e,rG.1])
    rw [<-F3,dP]
    have:((lQ.take k).map (xl ss)++lQ.drop k).set k s=(lQ.take k).map (xl ss)++lQ.drop k:=by
     obtain⟨nz,je⟩:=qb.1 F2
     rw [<-je,av2]
    rw [this];exact rB.ab eJ
  ·have agR:k=l:=by simp at h1;omega
   subst agR
   rw [asG (by omega),avr (by omega),as0]at rB
   refine af1 QZ (aa.ab cB) gw.bL (by omega) λib n7 pI cC fo eJ=> ?_
   have tN:e9 cC (hB lu hs ws) (gz ss rows):=by rw [<-Rh];exact((bI.ab cB).merge rB).ab eJ
   have agS:=(Dl (rows:=rows) hh).1
   have ri:=cB.aw eJ
   have agT:=cB.size
   have gy:n7=(gz ss rows).length:=by rw [fo.1];exact tN.len
   have live:∀{m:bb} {H':J},m∈hB lu hs ws->e2 (ax ib) (ax m.2.1):=λ{m H'} hm k hk cA=>by
    have ae:=(fo.ge k hk).1
    have Ri:=((bI.ab cB).merge rB)
    rw [Rh]at Ri
    obtain⟨s,hs',aA⟩:=cZ.mem Ri hm
    have:=As aA.2 (agS.2 s hs').1 k cA
    omega
   refine⟨λvs H'=>match vs with
     |[.int _ i]=>∃(k:Nat) (Ax:List bb),i=k/\k<=n7/\Own dL 57 bY.size H' ib n7 pI Ax/\e9 H' Ax (gz ss rows)/\(∀m∈Ax,e2 (ax ib) (ax m.2.1))/\(∀j m,j<k->Ax[j]?=some m->∀q∈ax m.2.1,H.size<=q)/\Fr [] bY H'
     |_=>False,
    λvs _=>match vs with|[.int _ i]=>n7-i.toNat|_=>0,⟨0,_,rfl,by omega,fo,tN,λm hm=>live (H':=cC) hm,(λj m a'=>absurd a' (Nat.not_lt_zero _)),eJ⟩,?_⟩
   rintro bm i ed ⟨k,Ax,rfl,aqQ,ly,Dj,Rj,Rk,l8⟩
   have aqR:=ly.1
   refine ai (λae=> ?_) (λae=>⟨_,_,_,rfl,hk ib n7 pI ed Ax (ly.base agT) Dj (λm hm q a1=>by
    obtain⟨j,a'⟩:=avu.1 hm
    have EZ:=(qb.1 a').1
    have iR:¬k<n7:=by simpa using ae
    exact Rk j m (by omega) a' q a1) (cB.aw l8)⟩)
   have iR:k<n7:=by simpa using ae
   have ij:(gz ss rows)[k]?=some ((gz ss rows)[k]'(by omega)):=by simp
   generalize(gz ss rows)[k]'(by omega)=s at ij
   obtain⟨x,pd,rG⟩:=cZ.get' Dj ij
   have zL:=agQ.2 s (att ij)
   have bN:=rG.2.len
   refine ly.bL.get rfl pd (decide_eq_true (by omega)) λal bS ak=>⟨_,_,_,pc ak,?_⟩
   refine r9 rG.2 (by omega) λaK aQ aT ee kP pF=> ?_
   obtain⟨al,bS⟩:∃al,ib=some al:=by
    cases ib with
    |none=>
     obtain⟨_,⟨_,aD,_⟩|⟨_,_,e,_⟩⟩:=ly
     ·omega
     ·cases e
    |some al=>exact⟨al,rfl⟩
   refine xJ bS (cb (decide_eq_true (by omega)) ?_)
   refine Gv (x':=((x.1,(aK,aQ,aT)):bb)) (j:=1) (ly.ab pF) bS rfl pd (by kernel_rfl) (by kernel_rfl) (by simp [atq,avm]) (nQ 2) rfl λfx KV n0=> ?_
   have Dk:e2 (ax ib) (ax aK):=λk hk cA=>by
    have au:=(kP.ge k cA).1
    have a6:=ly.yM k hk
    omega
   rw [b6 (by omega)]
   refine⟨⟨k+1,_,rfl,by omega,KV,?_,λm hm=> ?_,λj m a' hm q a1=> ?_,?_⟩,cJ iR⟩
   ·have es:(gz ss rows).set k s=gz ss rows:=by
     obtain⟨nz,je⟩:=qb.1 ij
     rw [<-je,av2]
    rw [<-es]
    refine cZ.set ((Dj.ab pF).mono λm s' hm _ aA=>⟨aA.1,zy aA.2 n0 (Rj m hm).symm⟩) ⟨rG.1,?_⟩
    exact zy kP.bL n0 Dk.symm
   ·rcases av1 hm with hm|rfl
    ·exact Rj m hm
    ·exact Dk
   ·by_cases e:j=k
    ·subst e
     rw [avI (by omega)]at hm
     cases hm
     have au:=(kP.ge q a1).1
     have a6:=l8.size
     omega
    ·rw [List.getElem?_set_ne (λh=>e h.symm)]at hm
     exact Rk j m (by omega) hm q a1
   ·exact(l8.aw pF).ab n0 λk hk=>(ly.ge k hk).1
 ·obtain⟨n,aT,bc,an⟩:=cQ.un e he jY
  have la:=cQ.map.ag dB bW (by simp;exact cQ.ro.2.2)
  have ey:=jV an bW (λk hk cA=>by simp at cA;subst cA;exact(cQ.p1 e he).2 hk)
  have Rl:n<=1000000:=by have:=an.1;have:=Dh e.1;omega
  refine zJ dB la ra he rfl ⟨_,rfl,_,_,_,bc,?_⟩
  refine aga ey (by omega) λbY gw cB=> ?_
  refine afW QJ gw (by omega) λcC ys fo Rm agU eJ=> ?_
  refine agi agf fo (by omega) λaQ ed ly jB l8=> ?_
  have cn:tV (kv rows e.1) (dy ys):=⟨ys,Rm,agU,rfl⟩
  have GK:Fr (ax (mm L e.1)) bw ed:=(cB.trans' eJ (λ_ h _=>h) (λ_ h _=>h)).trans' l8 (λ_ h _=>h) (λ_ h _=>h)
  intro ks ee fF
  have Z':=bW.size
  have aqS:=GK.size
  have ID:=fF.size
  have aqT:=bU.size
  have Yx:it<aN.size:=k2 cQ.itr
  have Rn:Own dL 57 H.size ee o l c ms:=by
   refine(jV (jV cQ.mo bW λk hk cA=> ?_) GK (cQ.ha e he)).ab fF.ag
   simp at cA;subst cA;exact cQ.ro.2.1 hk
  have qw:l<=1000000:=by have:=cQ.mo.1;have:=cQ.len;omega
  refine iD yJ yI Rn (gd dL ((e.1,(mm L e.1,aQ,aT)):bb) fF rfl) (by omega) (by omega) λlH lP d' fx KV n0 hg10=> ?_
  have vr:=cQ.step he jY ra bW GK ly cn fF.ag KV n0 hg10
  refine⟨⟨_,_,_,vr,?_⟩,?_⟩
  ·refine(((bU.ab bW λk hk=>by simp at hk;omega).ab GK λk hk=>(ey.ge k hk).1).aw fF.ag).ab n0 λk hk=>(Rn.ge k hk).1
  ·show lF fx b it<lF aN b it
   rw [sa dB vr.map vr.itr,sa dB cQ.map cQ.itr]
   exact BX (List.mem_map_of_mem (f:=λx:cS Int=>x.2.2) he) jY
def pe(a b:fu):Prop:=a.1<b.1\/(a.1=b.1/\a.2.1<b.2.1)
instance(a b:fu):Decidable (pe a b):=inferInstanceAs (Decidable (_\/_))
def Dp(a b:fu):Prop:=a.1=b.1/\a.2.1=b.2.1
theorem Rw{a b:fu}:lv a b<0↔pe a b:=by
 unfold lv pe gX
 split<;>(repeat' split)<;>omega
theorem Rx{a b:fu}:lv a b=0↔Dp a b:=by
 unfold lv Dp gX
 split<;>(repeat' split)<;>omega
theorem KY{a b c:fu}(h:pe a b)(h':pe b c):pe a c:=by unfold pe at *;omega
theorem KZ{a:fu}:¬pe a a:=by unfold pe;omega
theorem ag0(a b:fu):pe a b\/Dp a b\/pe b a:=by unfold pe Dp;omega
def kQ(l:List fu):Prop:=l.Pairwise pe
theorem kQ.nil:kQ []:=List.Pairwise.nil
theorem kQ.cons{x:fu}{l:List fu}:kQ (x::l)↔(∀y∈l,pe x y)/\kQ l:=ave
theorem K0:∀{a b:List fu},kQ a->kQ b->(∀x,x∈a↔x∈b)->a=b
 |[],[],_,_,_=>rfl
 |[],y::b,_,_,h=>by have:=(h y).2 (by simp);cases this
 |x::a,[],_,_,h=>by have:=(h x).1 (by simp);cases this
 |x::a,y::b,bQ,ah,h=>by
  have ha':=kQ.cons.1 bQ
  have e3:=kQ.cons.1 ah
  have e:x=y:=by
   rcases o3.1 ((h x).1 (by simp))with e|h1
   ·exact e
   ·rcases o3.1 ((h y).2 (by simp))with e|ae
    ·exact e.symm
    ·exact absurd (KY (e3.1 x h1) (ha'.1 y ae)) KZ
  subst e
  rw [K0 ha'.2 e3.2 λz=> ?_]
  have:=h z
  simp only [o3]at this
  constructor
  ·intro aC
   rcases this.1 (.inr aC)with rfl|h1
   ·exact absurd (ha'.1 z aC) KZ
   ·exact h1
  ·intro aC
   rcases this.2 (.inr aC)with rfl|h1
   ·exact absurd (e3.1 z aC) KZ
   ·exact h1
theorem K1:∀{a b:List fu},kQ a->kQ b->(∀x∈a,∀y∈b,¬Dp x y)->kQ (hB lv a b)/\∀z,z∈hB lv a b↔z∈a\/z∈b
 |[],b,_,ah,_=>by rw [vn];exact⟨ah,λz=>by simp⟩
 |x::a,[],bQ,_,_=>by rw [xg];exact⟨bQ,λz=>by simp⟩
 |x::a,y::b,bQ,ah,aO=>by
  have ha':=kQ.cons.1 bQ
  have e3:=kQ.cons.1 ah
  rw [xh]
  have aD:¬lv x y=0:=λh=>aO x (by simp) y (by simp) (Rx.1 h)
  by_cases h1:lv x y<0
  ·rw [if_pos h1]
   have gp:=Rw.1 h1
   obtain⟨en,gY⟩:=K1 ha'.2 ah λu hu v aI=>aO u (by simp [hu]) v aI
   refine⟨kQ.cons.2 ⟨λz aC=> ?_,en⟩,λz=> ?_⟩
   ·rcases(gY z).1 aC with aC|aC
    ·exact ha'.1 z aC
    ·rcases o3.1 aC with rfl|aC
     ·exact gp
     ·exact KY gp (e3.1 z aC)
   ·simp only [o3,gY]
    constructor
    ·rintro(h|h|h|h)
     ·exact .inl (.inl h)
     ·exact .inl (.inr h)
     ·exact .inr (.inl h)
     ·exact .inr (.inr h)
    ·rintro((h|h)|(h|h))
     ·exact .inl h
     ·exact .inr (.inl h)
     ·exact .inr (.inr (.inl h))
     ·exact .inr (.inr (.inr h))
  ·rw [if_neg h1,if_neg aD]
   have gp:pe y x:=by
    rcases ag0 x y with h|h|h
    ·exact absurd (Rw.2 h) h1
    ·exact absurd (Rx.2 h) aD
    ·exact h
   obtain⟨en,gY⟩:=K1 bQ e3.2 λu hu v aI=>aO u hu v (by simp [aI])
   refine⟨kQ.cons.2 ⟨λz aC=> ?_,en⟩,λz=> ?_⟩
   ·rcases(gY z).1 aC with aC|aC
    ·rcases o3.1 aC with rfl|aC
     ·exact gp
     ·exact KY gp (ha'.1 z aC)
    ·exact e3.1 z aC
   ·simp only [o3,gY]
    constructor
    ·rintro(h|(h|h)|h)
     ·exact .inr (.inl h)
     ·exact .inl (.inl h)
     ·exact .inl (.inr h)
     ·exact .inr (.inr h)
    ·rintro((h|h)|(h|h))
     ·exact .inr (.inl (.inl h))
     ·exact .inr (.inl (.inr h))
     ·exact .inl h
     ·exact .inr (.inr h)
termination_by a b=>a.length+b.length
def lR(s:cw):List fu:=s.2.map λp=>(p.1,s.1,p.2)
theorem Ry{s:cw}(h:ik s.2):kQ (lR s):=auT.2 (h.imp λh=>.inl h)
theorem GP{s:cw}{x:fu}:x∈lR s↔x.2.1=s.1/\(x.1,x.2.2)∈s.2:=by
 unfold lR
 rw [ad6]
 constructor
 ·rintro⟨p,bh,rfl⟩;exact⟨rfl,bh⟩
 ·rintro⟨h1,ae⟩;exact⟨_,ae,by rw [<-h1]⟩
def mq(ss:List cw)(l:List fu):Prop:=kQ l/\∀x,x∈l↔∃s∈ss,x∈lR s
theorem mq.nil:mq [] []:=⟨kQ.nil,λx=>by simp⟩
def yN(ss:List cw):Prop:=ss.Pairwise (λa b=>a.1<b.1)/\∀s∈ss,ik s.2
theorem ej.w{ss:List cw}(h:ej ss):yN ss:=⟨h.1,λs hs=>(h.2 s hs).2⟩
theorem ag1{ss:List cw}(h:yN ss){k:Nat}{s:cw}(hs:ss[k]?=some s):∀t∈ss.take k,t.1≠s.1:=λt bf=>by
 obtain⟨i,az⟩:=avg bf
 rw [Ep]at az
 split at az
 ·rename_i K2
  obtain⟨h1,rfl⟩:=qb.1 az
  obtain⟨ae,rfl⟩:=qb.1 hs
  have:=avK.1 h.1 i k h1 ae K2
  omega
 ·cases az
theorem mq.step{ss:List cw}(h:yN ss){k:Nat}{s:cw}(hs:ss[k]?=some s){l:List fu}(aH:mq (ss.take k) l):mq (ss.take (k+1)) (hB lv l (lR s)):=by
 have ag2:=h.2 s (att hs)
 obtain⟨en,gY⟩:=K1 aH.1 (Ry ag2) λx aa y av hk=>by
  obtain⟨t,bf,J5⟩:=(aH.2 x).1 aa
  have h1:=(GP.1 J5).1
  have ae:=(GP.1 av).1
  exact ag1 h hs t bf (by rw [<-h1,<-ae];exact hk.2)
 refine⟨en,λx=> ?_⟩
 rw [gY,aH.2,ats,hs]
 constructor
 ·rintro(⟨t,bf,aa⟩|aa)
  ·exact⟨t,by simp [bf],aa⟩
  ·exact⟨s,by simp,aa⟩
 ·rintro⟨t,bf,aa⟩
  rcases asU.1 bf with bf|bf
  ·exact .inl ⟨t,bf,aa⟩
  ·simp at bf;subst bf;exact .inr aa
theorem mq.eq{ss:List cw}{l m:List fu}(h:mq ss l)(h':mq ss m):l=m:=K0 h.1 h'.1 λx=>by rw [h.2,h'.2]
theorem GL{α:Type}{cf:α->α->Int}:∀a b:List α,(hB cf a b).length<=a.length+b.length
 |[],b=>by rw [vn];simp
 |x::a,[]=>by rw [xg];simp
 |x::a,y::b=>by
  rw [xh]
  split
  ·have:=GL (cf:=cf) a (y::b);simp at *;omega
  ·split
   ·have:=GL (cf:=cf) a b;simp at *;omega
   ·have:=GL (cf:=cf) (x::a) b;simp at *;omega
termination_by a b=>a.length+b.length
theorem GM{sH:Option Addr}{mO lc:Nat}{hs:List bb}{ss:List cw}{K:Option Addr->Nat->Nat->J->Prop}(aa:bk dL H sH mO lc hs)(bI:e9 H hs ss)(hh:yN ss)(KP:mO<=10000)(eo:∀s∈ss,s.2.length<=10000)
  (hk:∀aK aQ aT H' rows,Own fT 128 H.size H' aK aQ aT rows->mq ss rows->aQ<=10000*mO->Fr [] H H'->K aK aQ aT H'):
  aY atf agV ⟨[.slice sH mO lc]⟩ H λv H'=>∃a n c,v=.slice a n c/\K a n c H':=by
 apply agW
 have oq:=aa.len
 have agH:ss.length=mO:=by rw [oq];exact bI.len.symm
 refine⟨λvs H'=>match vs with
   |[.slice a n c,.int _ i]=>∃(k:Nat) (rows:List fu),i=k/\k<=mO/\Own fT 128 H.size H' a n c rows/\mq (ss.take k) rows/\n<=10000*k/\Fr [] H H'
   |_=>False,
  λvs _=>match vs with|[_,.int _ i]=>mO-i.toNat|_=>0,⟨0,[],rfl,by omega,Own.nil _ _ _ _,mq.nil,by omega,Fr.refl _ _⟩,?_⟩
 rintro bm a n c i H1 ⟨k,rows,rfl,du,b0,tW,aB,b9⟩
 refine ai (λaD=> ?_) (λaD=>⟨_,_,_,rfl,?_⟩)
 rotate_left
 ·rw [asG (by simp at aD;omega)]at tW
  exact hk a n c H1 rows b0 tW (by omega) b9
 have bT:k<mO:=by simpa using aD
 have ij:ss[k]?=some (ss[k]'(by omega)):=by simp
 generalize ss[k]'(by omega)=s at ij
 obtain⟨y,KE,jN⟩:=cZ.get' bI ij
 have zL:=eo s (att ij)
 have qA:=jN.2.len
 refine(aa.ab b9).get rfl KE (decide_eq_true (by omega)) λal bS ak=>⟨_,_,_,_,j4 ak,?_⟩
 refine ia (v:=jM y) (by kernel_rfl) (by kernel_rfl) (by simp [atq,avm]) rfl λb ao ah bK bt=> ?_
 have bK:aU ao ⟨b,0,none⟩ (dL.cells y):=bK
 have nH:=b9.aw bt
 refine⟨_,_,_,bK.bV (j:=1) (by kernel_rfl) rfl,?_⟩
 refine⟨λvs H'=>match vs with
   |[.slice o l d,.int _ i]=>∃j:Nat,i=j/\j<=y.2.2.1/\Own fT 128 ao.size H' o l d ((lR s).take j)/\Fr [] ao H'
   |_=>False,
  λvs _=>match vs with|[_,.int _ i]=>y.2.2.1-i.toNat|_=>0,⟨0,rfl,by omega,Own.nil _ _ _ _,Fr.refl _ _⟩,?_⟩
 rintro bm o l d i aF ⟨j,rfl,a',eN,bG⟩
 have jj:=nH.aw bG
 have aqU:(lR s).length=s.2.length:=by unfold lR;simp
 refine ai (λh1=> ?_) (λh1=> ?_)
 ·have gp:j<y.2.2.1:=by simpa using h1
  have bh:s.2[j]?=some (s.2[j]'(by omega)):=by simp
  generalize s.2[j]'(by omega)=p at bh
  refine(jN.2.ab jj).get rfl bh (decide_eq_true (by omega)) λal bS ak=>⟨_,_,gx ak,?_⟩
  refine ia (v:=e5 p) (by kernel_rfl) (by kernel_rfl) (by simp [atq,avm]) rfl λfz aN dY mn bU=> ?_
  have mn:aU aN ⟨fz,0,none⟩ (encS.cells p):=mn
  refine⟨_,mn.b5 (by kernel_rfl) rfl,_,((bK.ab bG).ab bU).b5 (by kernel_rfl) rfl,_,mn.bV (j:=1) (by kernel_rfl) rfl,?_⟩
  have dk:=eN.1
  rw [apH]at dk
  refine k3 (E:=fT) ((p.1,y.1,p.2):fu) tU tT (eN.ab bU) (bG.aw bU) rfl (by omega) λ_ lH lP d' bw ey bW _=> ?_
  rw [b6 (by omega)]
  refine⟨⟨j+1,rfl,by omega,?_,bW⟩,cJ gp⟩
  have aZ:(lR s)[j]?=some (p.1,y.1,p.2):=by unfold lR;rw [List.getElem?_map,bh,jN.1];rfl
  rw [ats,aZ];exact ey
 ·rw [asG (by simp at h1;omega)]at eN
  have dk:=eN.1
  refine af4 af' (b0.bL.ab (bt.aw bG)) eN.bL (by omega) λaK aQ aT aN eV bU=> ?_
  rw [b6 (by omega)]
  have eg:=mq.step hh ij tW
  have agI:=jj.size
  refine⟨⟨k+1,_,rfl,by omega,eV.base (by omega),eg,?_,jj.aw bU⟩,cJ bT⟩
  have aqV:=eV.1
  have iF:=GL (cf:=lv) rows (lR s)
  have:=b0.1
  omega
theorem GN{al:Addr}{x:bC}(h:eP H al (encS.cells x)):cR atf 3 H (al.add 1) (.int .i64 x.2):=kt (by kernel_rfl) h (j:=1) rfl
end Go.Proofs.bb
namespace Go.Proofs
abbrev eb:=Int×Int×Int
def j3(l:List eb)(i t:Int):Prop:=∃x∈l,x.1=i/\x.2.1<=t/\t<x.2.2
def full(x:eb):Prop:=x.2.1<x.2.2
def Ak(a b:eb):Prop:=a.1<b.1\/a.1=b.1/\a.2.2<b.2.1
def ord(a b:eb):Prop:=a.1<b.1\/a.1=b.1/\a.2.1<=b.2.1
def vg(l:List eb):Prop:=l.Pairwise Ak/\∀x∈l,full x
theorem AB(i t:Int):¬j3 [] i t:=by rintro⟨x,aa,_⟩;cases aa
theorem GS{x:eb}{l:List eb}{i t:Int}:j3 (x::l) i t↔(x.1=i/\x.2.1<=t/\t<x.2.2)\/j3 l i t:=by
 constructor
 ·rintro⟨y,av,h⟩
  rcases o3.1 av with rfl|av
  ·exact .inl h
  ·exact .inr ⟨y,av,h⟩
 ·rintro(h|⟨y,av,h⟩)
  ·exact⟨x,by simp,h⟩
  ·exact⟨y,by simp [av],h⟩
theorem RJ{l k:List eb}{i t:Int}:j3 (l++k) i t↔j3 l i t\/j3 k i t:=by
 constructor
 ·rintro⟨y,av,h⟩
  rcases asU.1 av with av|av
  ·exact .inl ⟨y,av,h⟩
  ·exact .inr ⟨y,av,h⟩
 ·rintro(⟨y,av,h⟩|⟨y,av,h⟩)
  ·exact⟨y,by simp [av],h⟩
  ·exact⟨y,by simp [av],h⟩
theorem ahe{l k:List eb}(h:l.Perm k){i t:Int}:j3 l i t↔j3 k i t:=by
 constructor
 ·rintro⟨y,av,ae⟩;exact⟨y,h.mem_iff.1 av,ae⟩
 ·rintro⟨y,av,ae⟩;exact⟨y,h.mem_iff.2 av,ae⟩
theorem ahf{l:List eb}{i t:Int}:j3 (l.filter λx=> !decide (x.2.1>=x.2.2)) i t↔j3 l i t:=by
 constructor
 ·rintro⟨y,av,ae⟩;exact⟨y,(VD.1 av).1,ae⟩
 ·rintro⟨y,av,ae⟩;exact⟨y,VD.2 ⟨av,by simp;omega⟩,ae⟩
def ox(out:List eb)(x:eb):List eb:=match out.getLast? with
 |none=>[x]
 |some l=>if l.1=x.1/\x.2.1<=l.2.2 then out.dropLast++[(l.1,l.2.1,max l.2.2 x.2.2)]else out++[x]
theorem ahg{out:List eb}{x:eb}(ay:vg out)(an:∀a∈out,ord a x)(aa:full x):vg (ox out x)/\(∀i t,j3 (ox out x) i t↔j3 out i t\/(x.1=i/\x.2.1<=t/\t<x.2.2))/\(∀y,ord x y->∀a∈ox out x,ord a y):=by
 unfold ox
 cases aH:out.getLast? with
 |none=>
  have:out=[]:=by simpa using aH
  subst this
  refine⟨⟨by simp,by simpa using aa⟩,λi t=> ?_,by simp⟩
  simp only [GS]
  constructor
  ·rintro(h|h)
   ·exact .inr h
   ·exact absurd h (AB _ _)
  ·rintro(h|h)
   ·exact absurd h (AB _ _)
   ·exact .inl h
 |some l=>
  obtain⟨m,rfl⟩:=av3.1 aH
  have Kn:l∈m++[l]:=by simp
  have gE:=an l Kn
  have Gx:=ay.2 l Kn
  have vb:=avk.1 ay.1
  unfold full at Gx aa
  unfold ord at gE
  simp only
  split
  ·rename_i ak
   rw [av4]
   refine⟨⟨avk.2 ⟨vb.1,by simp,λa bQ b ah=> ?_⟩,λy av=> ?_⟩,λi t=> ?_,λy av a bQ=> ?_⟩
   ·simp only [ar7]at ah
    subst ah
    have:=vb.2.2 a bQ l (by simp)
    unfold Ak at *
    exact this
   ·rcases asU.1 av with av|av
    ·exact ay.2 y (by simp [av])
    ·simp at av;subst av;unfold full;simp only;omega
   ·simp only [RJ,GS]
    have:¬j3 [] i t:=AB _ _
    simp only [this,or_false]
    by_cases hm:j3 m i t
    ·simp [hm]
    ·simp only [hm,false_or]
     omega
   ·rcases asU.1 bQ with bQ|bQ
    ·have h1:=an a (by simp [bQ])
     unfold ord at *
     omega
    ·simp at bQ;subst bQ
     unfold ord at *
     simp only
     omega
  ·rename_i ak
   have KK:Ak l x:=by unfold Ak;omega
   refine⟨⟨avk.2 ⟨ay.1,by simp,λa bQ b ah=> ?_⟩,λy av=> ?_⟩,λi t=> ?_,λy av a bQ=> ?_⟩
   ·simp only [ar7]at ah
    subst ah
    rcases asU.1 bQ with bQ|bQ
    ·have h1:=vb.2.2 a bQ l (by simp)
     unfold Ak at *
     omega
    ·simp at bQ;subst bQ;exact KK
   ·rcases asU.1 av with av|av
    ·exact ay.2 y av
    ·simp at av;subst av;exact aa
   ·rw [RJ,GS]
    have:¬j3 [] i t:=AB _ _
    simp [this]
   ·rcases asU.1 bQ with bQ|bQ
    ·have h1:=an a bQ
     unfold ord at *
     omega
    ·simp at bQ;subst bQ;exact av
theorem RL:∀(s out:List eb),s.Pairwise ord->(∀x∈s,full x)->vg out->(∀a∈out,∀x∈s,ord a x)->vg (s.foldl ox out)/\∀i t,j3 (s.foldl ox out) i t↔j3 out i t\/j3 s i t
 |[],out,_,_,ay,_=>⟨ay,λi t=>by have:=AB i t;simp [this]⟩
 |x::s,out,bh,af,ay,an=>by
  have Dd:=ave.1 bh
  obtain⟨h1,ae,au⟩:=ahg ay (λa bQ=>an a bQ x (by simp)) (af x (by simp))
  obtain⟨a6,bu⟩:=RL s (ox out x) Dd.2 (λy av=>af y (by simp [av])) h1 λa bQ y av=>au y (Dd.1 y av) a bQ
  refine⟨a6,λi t=> ?_⟩
  rw [asn,bu,ae,GS]
  constructor
  ·rintro((h|h)|h)
   ·exact .inl h
   ·exact .inr (.inl h)
   ·exact .inr (.inr h)
  ·rintro(h|h|h)
   ·exact .inl (.inl h)
   ·exact .inl (.inr h)
   ·exact .inr h
def Gw(l n:List eb):Prop:=vg n/\∀i t,j3 n i t↔j3 l i t
theorem aeA{l s:List eb}(bh:s.Perm (l.filter λx=> !decide (x.2.1>=x.2.2)))(an:s.Pairwise ord):Gw l (s.foldl ox []):=by
 have af:∀x∈s,full x:=λx aa=>by
  have:=(VD.1 (bh.mem_iff.1 aa)).2
  unfold full
  simp at this
  exact this
 obtain⟨h1,ae⟩:=RL s [] an af ⟨List.Pairwise.nil,by simp⟩ (by simp)
 refine⟨h1,λi t=> ?_⟩
 rw [ae,ahe bh,ahf]
 have:=AB i t
 simp [this]
end Go.Proofs
namespace Go.Proofs.Cv
def jt:dd eb:=⟨λx=>[.int .i64 x.1,.int .i64 x.2.1,.int .i64 x.2.2],3,λ_=>rfl,by decide,λ_ v h=>by simp at h;rcases h with rfl|rfl|rfl<;>rfl⟩
theorem Qt:jC atf 180 3 24=true:=by kernel_rfl
theorem nZ:sliceB atf 69 180=true:=by kernel_rfl
abbrev kA(x:eb):Value:=.agg ⟨[.int .i64 x.1,.int .i64 x.2.1,.int .i64 x.2.2]⟩
variable{H:J}{n c:Nat}{al:Addr}
theorem w1{x:eb}(h:eP H al (jt.cells x)):cR atf 180 H al (kA x):=r' (by kernel_rfl) (by kernel_rfl) h
theorem q4{x:eb}(h:eP H al (jt.cells x)):cR atf 3 H al (.int .i64 x.1):=n' (by kernel_rfl) (by have:=h 0 _ rfl;rwa [zZ]at this)
def gX(x y:Int):Int:=if x<y then -1 else if x>y then 1 else 0
theorem w6{x y:Int}{K:Int->J->Prop}(hk:K (gX x y) H):aY atf Qu ⟨[.int .i64 x,.int .i64 y]⟩ H λv H'=>∃n,v=.int .i64 n/\K n H':=by
 apply Qv
 apply CW
 refine⟨_,rfl,?_⟩
 apply CW
 refine⟨_,rfl,?_⟩
 refine ai (λh=>by simp at h) (λ_=>ai (λh=>by simp at h) (λ_=> ?_))
 unfold gX at hk
 refine ai (λh=>⟨_,rfl,?_⟩) (λh=>ai (λh1=>⟨_,rfl,?_⟩) (λh1=>⟨_,rfl,?_⟩))
 ·rwa [if_pos (by simpa using h)]at hk
 ·rwa [if_neg (by simpa using h),if_pos (by simpa using h1)]at hk
 ·rwa [if_neg (by simpa using h),if_neg (by simpa using h1)]at hk
def tQ(D:Value)(p:eb->Bool)(G:J->Prop):Prop:=∀(x:eb) (H:J) (K:Bool->J->Prop),G H->(∀H',Fr [] H H'->K (p x) H')->dO atf D [kA x] H λv H'=>∃b,v=.bool b/\K b H'
theorem Kf{D:Value}{p:eb->Bool}{G:J->Prop}{a:Option Addr}{xs:List eb}{K:Int->J->Prop}(dz:tQ D p G)(b4:∀H',Fr [] H H'->G H')(aa:bk jt H a n c xs)(ay:n<=1000000000)
  (hk:∀(i:Nat) H',i<=n->(∀j x,j<i->xs[j]?=some x->p x=false)->(i<n->∀x,xs[i]?=some x->p x=true)->Fr [] H H'->K (if i<n then i else -1) H'):
  aY atf aeb ⟨[.slice a n c,D]⟩ H λv H'=>∃r,v=.int .i64 r/\K r H':=by
 apply aec
 have gE:=aa.len
 refine⟨λvs H'=>match vs with|[.int _ i]=>∃k:Nat,i=k/\k<=n/\(∀j x,j<k->xs[j]?=some x->p x=false)/\Fr [] H H'|_=>False,
  λvs _=>match vs with|[.int _ i]=>n-i.toNat|_=>0,⟨0,rfl,by omega,λ_ _ h=>by omega,Fr.refl _ _⟩,?_⟩
 rintro bm i H' ⟨k,rfl,hle,bf,af⟩
 refine ai (λaD=> ?_) (λaD=>⟨_,rfl,?_⟩)
 ·have bT:k<n:=by simpa using aD
  have b0:xs[k]?=some (xs[k]'(by omega)):=by simp
  generalize xs[k]'(by omega)=y at b0
  rw [b6 (by omega)]
  refine(aa.ab af).get rfl b0 (decide_eq_true (by omega)) λal bS ak=>⟨_,_,_,w1 ak,?_⟩
  refine dz y H' _ (b4 _ af) λao bt=> ?_
  have dZ:=af.aw bt
  refine ai (λh1=>⟨_,rfl,?_⟩) (λh1=> ?_)
  ·have:=hk k ao hle bf (λ_ x aa=>by rw [b0]at aa;cases aa;exact h1) dZ
   rwa [if_pos bT]at this
  ·refine⟨⟨k+1,rfl,by omega,λj x a' py=> ?_,dZ⟩,cJ bT⟩
   by_cases qk:j<k
   ·exact bf j x qk py
   ·have:j=k:=by omega
    subst this
    rw [b0]at py
    cases py
    exact h1
 ·have du:¬k<n:=by simpa using aD
  have:=hk k H' hle bf (λh=>absurd h du) af
  rwa [if_neg du]at this
theorem aed:zeroOf atf 180=some (.agg ⟨[.int .i64 0,.int .i64 0,.int .i64 0]⟩):=by kernel_rfl
theorem filter_none{l:List eb}{p:eb->Bool}(h:∀(j:Nat) (x:eb),l[j]?=some x->p x=false):l.filter (λx=> !p x)=l:=by
 refine as5.2 λx aa=> ?_
 obtain⟨j,a'⟩:=avu.1 aa
 rw [h j x a'];rfl
theorem CX{D:Value}{p:eb->Bool}{G:J->Prop}{base:Nat}{a:Option Addr}{xs:List eb}{K:Option Addr->Nat->Nat->J->Prop}(dz:tQ D p G)(b4:∀H',Fr (ax a) H H'->G H')(an:Own jt 180 base H a n c xs)(ay:n<=1000000000)
  (hk:∀aQ H',Own jt 180 base H' a aQ c (xs.filter λx=> !p x)->aQ<=n->Fr (ax a) H H'->K a aQ c H'):
  aY atf aee ⟨[.slice a n c,D]⟩ H λv H'=>∃a n c,v=.slice a n c/\K a n c H':=by
 apply aef
 have gE:=an.1
 refine Kf dz (λH' af=>b4 H' (af.mono (by simp))) an.bL ay λi H1 az cz ff b9=> ?_
 have w7:Fr (ax a) H H1:=b9.mono (by simp)
 by_cases eC:i<n
 ·rw [if_pos eC]
  refine ai (λh=>by have:=(beq_iff_eq.1 h);omega) (λ_=> ?_)
  rw [b6 (by omega)]
  have mW:xs[i]?=some (xs[i]'(by omega)):=by simp
  have Aj:p (xs[i]'(by omega))=true:=ff eC _ mW
  have CY:(xs.take i).filter (λx=> !p x)=xs.take i:=filter_none λj x a'=>by
   rw [Ep]at a'
   split at a'
   ·exact cz j x (by assumption) a'
   ·cases a'
  refine⟨λvs H'=>match vs with|[.int _ i,.int _ j]=>∃(k m:Nat) (ws:List eb),i=k/\j=m/\k<m/\m<=n/\Own jt 180 base H' a n c ws/\ws.take k=(xs.take m).filter (λx=> !p x)/\ws.drop m=xs.drop m/\Fr (ax a) H H'|_=>False,
   λvs _=>match vs with|[_,.int _ i]=>n-i.toNat|_=>0,⟨i,i+1,xs,rfl,rfl,by omega,by omega,an.ab b9,?_,rfl,w7⟩,?_⟩
  ·rw [ats,mW,auV,CY]
   simp [Aj]
  ·rintro bm i' dK ao ⟨k,m,ws,rfl,rfl,CZ,ou,ku,e8,ll,bt⟩
   have Kg:=ku.1
   refine ai (λaD=> ?_) (λaD=> ?_)
   ·have bT:m<n:=by simpa using aD
    have ov:xs[m]?=some (xs[m]'(by omega)):=by simp
    have w8:ws[m]?=some (xs[m]'(by omega)):=by
     have:=congrArg (λl=>l[0]?) ll
     simp only [VG,Nat.add_zero]at this
     rw [this,ov]
    have rD:xs.take (m+1)=xs.take m++[xs[m]'(by omega)]:=by rw [ats,ov];rfl
    have rE:ws.drop (m+1)=xs.drop (m+1):=by
     have:=congrArg (λl=>l.drop 1) ll
     simpa [avQ]using this
    generalize xs[m]'(by omega)=y at ov w8 rD
    rw [b6 (by omega),b6 (by omega)]
    refine ku.bL.get rfl w8 (decide_eq_true (by omega)) λal bS ak=>⟨_,_,_,w1 ak,?_⟩
    refine ia (by kernel_rfl) (by kernel_rfl) (by simp [atq,avm]) rfl λb aF ah bK bG=> ?_
    have ow:∀{H':J},Fr [] aF H'->cR atf 180 H' ⟨b,0,none⟩ (kA y):=λaf=>(bK.ab af).vf (j:=0) (us:=[.int .i64 y.1,.int .i64 y.2.1,.int .i64 y.2.2]) (by kernel_rfl) (by kernel_rfl) rfl
    refine⟨_,_,_,ow (Fr.refl _ _),?_⟩
    have w9:Fr (ax a) H aF:=bt.trans' bG (λ_ h _=>h) (by simp)
    refine dz y aF _ (b4 _ w9) λaN bU=> ?_
    have kJ:Fr (ax a) H aN:=w9.trans' bU (λ_ h _=>h) (by simp)
    have pW:=(ku.ab bG).ab bU
    refine ai (λh1=> ?_) (λh1=> ?_)
    ·refine⟨_,_,_,ow bU,?_⟩
     refine qH (E:=jt) y pW rfl (by omega) (decide_eq_true (by omega)) rfl (by kernel_rfl) (by kernel_rfl) λbw yA bW=>⟨⟨k+1,m+1,_,rfl,rfl,by omega,by omega,yA,?_,?_,kJ.trans' bW (λ_ h _=>h) (λ_ h _=>h)⟩,cJ bT⟩
     ·rw [rD,auV,MX,if_pos h1,<-e8,ats,avH (nQ _),avI (by omega)]
      rfl
     ·rw [avJ (by omega),rE]
    ·refine⟨⟨k,m+1,ws,rfl,rfl,by omega,by omega,pW,?_,rE,kJ⟩,cJ bT⟩
     rw [rD,auV,MX,if_neg (by simpa using h1),e8]
     simp
   ·have C0:m=n:=by simp at aD;omega
    subst C0
    have x4:=ku.bL.cap
    refine gC ⟨by omega,by omega,by omega⟩ ?_
    simp only [asD]
    refine Gt (E:=jt) nZ aed rfl (by simp [avm]) ku (by omega) λaF how3 bG=>gC ⟨by omega,by omega,by omega⟩ ?_
    refine⟨_,_,_,rfl,hk _ aF ?_ (by omega) (bt.trans' bG (λ_ h _=>h) (λ_ h _=>h))⟩
    rw [e8,asG (by omega)]at how3
    simpa using how3
 ·rw [if_neg eC]
  refine ai (λ_=>⟨_,_,_,rfl,hk n H1 ?_ (nQ _) w7⟩) (λh=>by simp at h)
  rw [filter_none λj x a'=>cz j x (by have:=(qb.1 a').1;omega) a']
  exact an.ab b9
theorem r9{a:Option Addr}{xs:List eb}{K:Option Addr->Nat->Nat->J->Prop}(aa:bk jt H a n c xs)(ay:n<=1000000000)
  (hk:∀aK aQ aT H',Own jt 180 H.size H' aK aQ aT xs->Fr [] H H'->K aK aQ aT H'):
  aY atf aeg ⟨[.slice a n c]⟩ H λv H'=>∃a n c,v=.slice a n c/\K a n c H':=by
 apply aeh
 refine ai (λh=>⟨_,_,_,rfl,?_⟩) (λh b H1 aB=> ?_)
 ·have:a=none:=by simpa using h
  subst this
  have kM:xs=[]:=by
   rcases aa.arr with h|⟨_,_,e,_⟩
   ·exact h
   ·cases e
  subst kM
  exact hk none 0 0 H (Own.nil _ _ _ _) (Fr.refl _ _)
 ·have kG:Own jt 180 H.size H1 (some ⟨b,0,none⟩) 0 0 []:=Own.made jt 180 aB (nQ _)
  refine pD (E:=jt) nZ Qt kG aB.ag (aa.ab aB.ag) (by omega) λo p q ao an af _=>⟨_,_,_,rfl,hk _ _ _ _ an af⟩
def aei(x:eb):Bool:=decide (x.2.1>=x.2.2)
theorem aej:tQ (.func (.func 143) #[] #[]) aei (λ_=>True):=by
 intro x H K _ hk
 refine⟨143, #[], #[],rfl,by kernel_rfl,?_⟩
 apply aek
 intro b H1 aB
 exact⟨_,aB.bo.bV (j:=1) (by kernel_rfl) rfl,_,aB.bo.bV (j:=2) (by kernel_rfl) rfl,_,rfl,hk H1 aB.ag⟩
theorem ael{x y:Int}{b:Nat}{K:Int->J->Prop}(ah:aU H ⟨b,0,none⟩ [.int .i64 x,.int .i64 y])(hk:K (if x≠0 then x else y) H):
  aY atf Qw ⟨[.slice (some ⟨b,0,none⟩) 2 2]⟩ H λv H'=>∃n,v=.int .i64 n/\K n H':=by
 apply Qx
 refine⟨λvs H'=>match vs with|[.int _ i]=>∃k:Nat,i=k/\k<=2/\(0<k->x=0)/\(1<k->y=0)/\H'=H|_=>False,
  λvs _=>match vs with|[.int _ i]=>2-i.toNat|_=>0,⟨0,rfl,by omega,by omega,by omega,rfl⟩,?_⟩
 rintro bm i H' ⟨k,rfl,nz,aD,h1,rfl⟩
 refine ai (λg=> ?_) (λg=> ?_)
 ·have sD:k<2:=by
   have:(k:Int)<2:=by simpa using g
   omega
  refine xJ rfl (cb (decide_eq_true (by omega)) ?_)
  rw [b6 (by omega)]
  rcases(by omega:k=0\/k=1)with rfl|rfl
  ·refine⟨_,ah.ld (j:=0) (by kernel_rfl) rfl,ai (λh=>⟨_,rfl,?_⟩) (λh=>⟨⟨1,rfl,by omega,λ_=>by simpa using h,by omega,rfl⟩,cJ sD⟩)⟩
   rw [if_pos (by simpa using h)]at hk
   exact hk
  ·have aa:=aD (by omega)
   refine⟨_,ah.ld (j:=1) (by kernel_rfl) rfl,ai (λh=>⟨_,rfl,?_⟩) (λh=>⟨⟨2,rfl,by omega,λ_=>aa,λ_=>by simpa using h,rfl⟩,cJ sD⟩)⟩
   rw [if_neg (by simp [aa])]at hk
   exact hk
 ·have sD:k=2:=by
   have:¬(k:Int)<2:=by simpa using g
   omega
  subst sD
  rw [if_neg (by simp [aD (by omega)]),h1 (by omega)]at hk
  exact⟨_,rfl,hk⟩
def C1(x y:eb):Int:=if gX x.1 y.1≠0 then gX x.1 y.1 else gX x.2.1 y.2.1
theorem aem(x y:eb)(H:J)(K:Int->J->Prop)(hk:∀H',Fr [] H H'->K (C1 x y) H'):aY atf aen ⟨[kA x,kA y]⟩ H λv H'=>∃n,v=.int .i64 n/\K n H':=by
 apply aeo
 intro b H1 aB b1 ao bH
 have h1:=aB.bo.ab bH.ag
 have ae:=bH.bo
 refine⟨_,h1.bV (j:=0) (by kernel_rfl) rfl,_,ae.bV (j:=0) (by kernel_rfl) rfl,_,h1.bV (j:=1) (by kernel_rfl) rfl,_,ae.bV (j:=1) (by kernel_rfl) rfl,?_⟩
 refine w6 ⟨ae.bV (j:=1) (by kernel_rfl) rfl,h1.bV (j:=1) (by kernel_rfl) rfl,?_⟩
 refine w6 λcX aF bF=> ?_
 refine ael bF.bo ⟨_,rfl,hk aF ((aB.ag.aw bH.ag).aw bF.ag)⟩
theorem lN{x y:Int}:gX x y<0↔x<y:=by unfold gX;split<;>(try split)<;>omega
theorem C2{x y:Int}:gX x y=0↔x=y:=by unfold gX;split<;>(try split)<;>omega
theorem Gu{x y:eb}:C1 x y<0↔x.1<y.1\/x.1=y.1/\x.2.1<y.2.1:=by
 unfold C1
 by_cases h:gX x.1 y.1=0
 ·rw [if_neg (by simp [h]),lN]
  have:=C2.1 h
  omega
 ·rw [if_pos h,lN]
  have:¬x.1=y.1:=λe=>h (C2.2 e)
  omega
theorem aep:Go.Sort.SWO (ltOf C1) where
 irrefl x:=by simp only [ltOf,decide_eq_false_iff_not,Gu];omega
 trans x y z h1 ae:=by simp only [ltOf,decide_eq_true_eq,Gu]at *;omega
 ntrans x y z h1 ae:=by simp only [ltOf,decide_eq_false_iff_not,Gu]at *;omega
theorem add_add(a:Addr)(i j:Nat):(a.add i).add j=a.add (i+j):=by
 unfold Addr.add
 by_cases az:i=0
 ·subst az;simp
 ·by_cases a':j=0
  ·subst a';simp
  ·simp [az,a',Nat.add_assoc]
theorem aeq{x:eb}(h:eP H al (jt.cells x)):cR atf 3 H (al.add 1) (.int .i64 x.2.1):=kt (j:=1) (by kernel_rfl) h rfl
theorem Kh{x:eb}(h:eP H al (jt.cells x)):cR atf 3 H ((al.add 1).add 1) (.int .i64 x.2.2):=by
 rw [add_add];exact kt (j:=2) (by kernel_rfl) h rfl
def sE(out:List eb)(x:eb):Bool:=match out.getLast? with
 |none=>false
 |some l=>decide (l.1=x.1)&&decide (x.2.1<=l.2.2)
theorem aer{m:List eb}{l x:eb}(h:sE (m++[l]) x=true):ox (m++[l]) x=m++[(l.1,l.2.1,max l.2.2 x.2.2)]:=by
 unfold sE at h
 unfold ox
 rw [av5]at h⊢
 simp only [oJ,decide_eq_true_eq]at h
 simp only
 rw [if_pos h,av4]
theorem aes{out:List eb}{x:eb}(h:sE out x=false):ox out x=out++[x]:=by
 unfold sE at h
 unfold ox
 cases aH:out.getLast? with
 |none=>
  have:out=[]:=by simpa using aH
  subst this;rfl
 |some l=>
  rw [aH]at h
  simp only [Bool.and_eq_false_iff,decide_eq_false_iff_not]at h
  simp only
  rw [if_neg (by omega)]
theorem aet{out:List eb}{x:eb}(h:sE out x=true):∃m l,out=m++[l]:=by
 unfold sE at h
 cases aH:out.getLast? with
 |none=>rw [aH]at h;cases h
 |some l=>
  obtain⟨m,rfl⟩:=av3.1 aH
  exact⟨m,l,rfl⟩
theorem aeu(a b:Int):(if b>a then b else a)=max a b:=by split<;>omega
theorem aev{base:Nat}{o:Option Addr}{p q:Nat}{m:List eb}{l:eb}{v:Int}{b:Bool}{i:Int}{X:J->Prop}(an:Own jt 180 base H o p q (m++[l]))(az:i=((p-1:Nat):Int))(ah:b=true)
  (k:∀H',Own jt 180 base H' o p q (m++[(l.1,l.2.1,v)])->Fr (ax o) H H'->X H'):
  eO o λal=>da b (∃H',fb atf 3 H (((al.add (i.toNat *3)).add 1).add 1) (.int .i64 v) H'/\X H'):=by
 have aH:=an.1
 simp at aH
 have aa:(m++[l])[p-1]?=some l:=by rw [show p-1=m.length by omega];simp
 cases o with
 |none=>
  obtain⟨_,⟨_,aD,_⟩|⟨_,_,e,_⟩⟩:=an
  ·omega
  ·cases e
 |some al=>
  refine xJ rfl (cb ah ?_)
  rw [add_add]
  refine Gv (x':=(l.1,l.2.1,v)) (j:=2) an rfl az aa (by kernel_rfl) (by kernel_rfl) (by simp [atq,avm]) (nQ 3) rfl λH' l1 af=>k H' ?_ af
  have e:(m++[l]).set (p-1) (l.1,l.2.1,v)=m++[(l.1,l.2.1,v)]:=by
   rw [show p-1=m.length by omega];simp
  rwa [e]at l1
theorem Qy{a:Option Addr}{xs:List eb}{K:Option Addr->Nat->Nat->J->Prop}(aa:bk jt H a n c xs)(ay:n<=100000)
  (hk:∀aK aQ aT H' ys,Own jt 180 H.size H' aK aQ aT ys->Gw xs ys->aQ<=n->Fr [] H H'->K aK aQ aT H'):
  aY atf aew ⟨[.slice a n c]⟩ H λv H'=>∃a n c,v=.slice a n c/\K a n c H':=by
 apply aex
 have gE:=aa.len
 refine r9 aa (by omega) λcM cW c1 H1 fw b9=> ?_
 have aB:=fw.1
 refine CX (G:=λ_=>True) aej (λ_ _=>trivial) fw (by omega) λcr ao de bH bt=> ?_
 have nH:Fr [] H ao:=b9.ab bt λk hk=>(fw.ge k hk).1
 refine Ki Tryz.aey (kf:=144) rfl (E:=jt) (t:=180) rfl (by kernel_rfl) ⟨_,Tryz.underlying180⟩ (by kernel_rfl) (by kernel_rfl) C1 aep (enters_of Tryz.func145 (by kernel_rfl) rfl) aem de (by omega) λaF ys eN yB vb bG=> ?_
 have jj:Fr [] H aF:=nH.ab bG λk hk=>(de.ge k hk).1
 have aez:ys.Pairwise ord:=vb.imp λ{x y} h=>by
  rw [Gu]at h
  unfold ord
  omega
 have e1:Gw xs (ys.foldl ox []):=aeA (s:=ys) yB aez
 have aeB:=eN.1
 refine⟨λvs H'=>match vs with|[.slice o p q,.int _ i]=>∃(i':Nat) (out:List eb),i=i'/\i'<=cr/\p<=i'/\Own jt 180 aF.size H' o p q out/\(ys.drop i').foldl ox out=ys.foldl ox []/\Fr [] aF H'|_=>False,
  λvs _=>match vs with|[_,.int _ i]=>cr-i.toNat|_=>0,⟨0,[],rfl,by omega,by omega,Own.nil _ _ _ _,rfl,Fr.refl _ _⟩,?_⟩
 rintro bm o p q i aN ⟨i',out,rfl,az,Aj,an,he,af⟩
 have Jf:=(eN.ab af).bL
 have nm:=an.1
 refine ai (λg=> ?_) (λg=>⟨_,_,_,rfl,?_⟩)
 ·have sD:i'<cr:=by simpa using g
  have mW:ys[i']?=some (ys[i']'(by omega)):=by simp
  have ll:ys.drop i'=ys[i']'(by omega)::ys.drop (i'+1):=avj (by omega)
  generalize ys[i']'(by omega)=x at mW ll
  rw [ll,asn]at he
  obtain⟨aeC,Kj⟩:∃M:List Value->J->Prop,M=λvs H'=>match vs with|[.slice o p q]=>p<=i'+1/\Own jt 180 aF.size H' o p q (ox out x)/\Fr [] aF H'|_=>False:=⟨_,rfl⟩
  refine⟨aeC,?_,?_⟩
  ·refine Jf.get rfl mW (decide_eq_true (by omega)) λal bS ak=>⟨_,_,_,w1 ak,?_⟩
   refine ia (by kernel_rfl) (by kernel_rfl) (by simp [atq,avm]) rfl λb bw ah bK bW=> ?_
   have ey:=an.ab bW
   have ti:=af.aw bW
   refine⟨λ_ H'=>H'=bw/\sE out x=false,⟨λvs H'=>vs=[.bool (sE out x)]/\H'=bw,?_,?_⟩,?_⟩
   ·refine ai (λaD=> ?_) (λaD=>⟨?_,rfl⟩)
    ·have bT:0<p:=by simpa using aD
     rw [pJ (by omega) bT]
     obtain⟨m,l,rfl⟩:∃m l,out=m++[l]:=by
      rcases List.eq_nil_or_concat out with h|⟨m,l,h⟩
      ·subst h;simp at nm;omega
      ·exact⟨m,l,by simpa using h⟩
     have oq:(m++[l])[p-1]?=some l:=by simp at nm;rw [show p-1=m.length by omega];simp
     have a':sE (m++[l]) x=(decide (l.1=x.1)&&decide (x.2.1<=l.2.2)):=by unfold sE;rw [av5]
     refine ey.bL.get rfl oq (decide_eq_true (by omega)) λal bS ak=>⟨_,q4 ak,_,bK.bV (j:=0) (by kernel_rfl) rfl,ai (λh1=> ?_) (λh1=>⟨?_,rfl⟩)⟩
     ·refine ey.bL.get rfl oq (decide_eq_true (by omega)) λal bS ak=>⟨_,Kh ak,_,bK.bV (j:=1) (by kernel_rfl) rfl,?_,rfl⟩
      rw [a',decide_eq_true (p:=l.1=x.1) (by simpa using h1),Bool.true_and]
     ·rw [a',decide_eq_false (p:=l.1=x.1) (by simpa using h1),Bool.false_and]
    ·have:out=[]:=asF (by simp at aD;omega)
     subst this
     rfl
   ·rintro dF b1 bY ⟨cI,rfl⟩
    have cI:b1=sE out x:=by simpa using cI
    refine ai (λa'=> ?_) (λa'=>⟨rfl,by rw [<-cI];exact a'⟩)
    rw [cI]at a'
    obtain⟨m,l,rfl⟩:=aet a'
    simp at nm
    rw [pJ (by omega) (by omega)]
    have oq:(m++[l])[p-1]?=some l:=by rw [show p-1=m.length by omega];simp
    refine ey.bL.get rfl oq (decide_eq_true (by omega)) λal bS ak=>⟨_,Kh ak,_,bK.bV (j:=2) (by kernel_rfl) rfl,?_⟩
    rw [aeu]
    refine aev ey rfl (decide_eq_true (by omega)) λcC fo eJ=> ?_
    rw [Kj]
    refine⟨by omega,?_,ti.ab eJ λk hk=>(an.ge k hk).1⟩
    rw [aer a']
    exact fo
   ·rintro dF bY ⟨rfl,a'⟩
    refine⟨_,_,_,bK.vf (j:=0) (us:=[.int .i64 x.1,.int .i64 x.2.1,.int .i64 x.2.2]) (by kernel_rfl) (by kernel_rfl) rfl,?_⟩
    refine k3 (E:=jt) x nZ Qt ey ti rfl (by omega) λ_ jk jh dm cC fo eJ _=> ?_
    have q2:=fo.1
    simp at q2
    rw [Kj]
    refine⟨by omega,?_,eJ⟩
    rw [aes a']
    exact fo
  ·intro dF jk jh dm bw aq
   rw [Kj]at aq
   obtain⟨th,de,bt⟩:=aq
   rw [b6 (by omega)]
   exact⟨⟨i'+1,_,rfl,by omega,th,de,he,bt⟩,cJ sD⟩
 ·have eC:i'=cr:=by simp at g;omega
  have e:ys.drop i'=[]:=List.drop_eq_nil_of_le (by omega)
  rw [e]at he
  simp only [List.foldl_nil]at he
  subst he
  exact hk _ _ _ _ _ (an.base jj.size) e1 (by omega) (jj.aw af)
def bl(i t:Int)(x:eb):Bool:=(x.1==i)&&(decide (x.2.1<=t)&&decide (t<x.2.2))
theorem Qz{l:List eb}{i t:Int}:j3 l i t↔l.any (bl i t)=true:=by
 rw [av6]
 unfold j3 bl
 constructor
 ·rintro⟨x,aa,h1,ae,au⟩;exact⟨x,aa,by simp [h1,ae,au]⟩
 ·rintro⟨x,aa,h⟩;simp at h;exact⟨x,aa,h.1,h.2.1,h.2.2⟩
theorem ae0{l k:List eb}(h:∀i t,j3 l i t↔j3 k i t)(i t:Int):l.any (bl i t)=k.any (bl i t):=by
 have:=h i t
 rw [Qz,Qz]at this
 cases h1:l.any (bl i t)<;>cases ae:k.any (bl i t)<;>simp_all
theorem aeZ{l n:List eb}(h:Gw l n)(i t:Int):n.any (bl i t)=l.any (bl i t):=ae0 h.2 i t
abbrev bC:=Int×Int
def encS:dd bC:=⟨λx=>[.int .i64 x.1,.int .i64 x.2],2,λ_=>rfl,by decide,λ_ v h=>by simp at h;rcases h with rfl|rfl<;>rfl⟩
theorem aeD:jC atf 113 2 16=true:=by kernel_rfl
theorem QA:sliceB atf 55 113=true:=by kernel_rfl
abbrev e5(x:bC):Value:=.agg ⟨[.int .i64 x.1,.int .i64 x.2]⟩
theorem gx{x:bC}(h:eP H al (encS.cells x)):cR atf 113 H al (e5 x):=r' (by kernel_rfl) (by kernel_rfl) h
theorem C3{x:bC}(h:eP H al (encS.cells x)):cR atf 3 H al (.int .i64 x.1):=n' (by kernel_rfl) (by have:=h 0 _ rfl;rwa [zZ]at this)
def Kk(D:Value)(p:bC->Bool)(G:J->Prop):Prop:=∀(x:bC) (H:J) (K:Bool->J->Prop),G H->(∀H',Fr [] H H'->K (p x) H')->dO atf D [e5 x] H λv H'=>∃b,v=.bool b/\K b H'
theorem aeE{D:Value}{p:bC->Bool}{G:J->Prop}{a:Option Addr}{xs:List bC}{K:Int->J->Prop}(dz:Kk D p G)(b4:∀H',Fr [] H H'->G H')(aa:bk encS H a n c xs)(ay:n<=1000000000)
  (hk:∀(i:Nat) H',i<=n->(∀j x,j<i->xs[j]?=some x->p x=false)->(i<n->∀x,xs[i]?=some x->p x=true)->Fr [] H H'->K (if i<n then i else -1) H'):
  aY atf QB ⟨[.slice a n c,D]⟩ H λv H'=>∃r,v=.int .i64 r/\K r H':=by
 apply QC
 have gE:=aa.len
 refine⟨λvs H'=>match vs with|[.int _ i]=>∃k:Nat,i=k/\k<=n/\(∀j x,j<k->xs[j]?=some x->p x=false)/\Fr [] H H'|_=>False,
  λvs _=>match vs with|[.int _ i]=>n-i.toNat|_=>0,⟨0,rfl,by omega,λ_ _ h=>by omega,Fr.refl _ _⟩,?_⟩
 rintro bm i H' ⟨k,rfl,hle,bf,af⟩
 refine ai (λaD=> ?_) (λaD=>⟨_,rfl,?_⟩)
 ·have bT:k<n:=by simpa using aD
  have b0:xs[k]?=some (xs[k]'(by omega)):=by simp
  generalize xs[k]'(by omega)=y at b0
  rw [b6 (by omega)]
  refine(aa.ab af).get rfl b0 (decide_eq_true (by omega)) λal bS ak=>⟨_,_,gx ak,?_⟩
  refine dz y H' _ (b4 _ af) λao bt=> ?_
  have dZ:=af.aw bt
  refine ai (λh1=>⟨_,rfl,?_⟩) (λh1=> ?_)
  ·have:=hk k ao hle bf (λ_ x aa=>by rw [b0]at aa;cases aa;exact h1) dZ
   rwa [if_pos bT]at this
  ·refine⟨⟨k+1,rfl,by omega,λj x a' py=> ?_,dZ⟩,cJ bT⟩
   by_cases qk:j<k
   ·exact bf j x qk py
   ·have:j=k:=by omega
    subst this
    rw [b0]at py
    cases py
    exact h1
 ·have du:¬k<n:=by simpa using aD
  have:=hk k H' hle bf (λh=>absurd h du) af
  rwa [if_neg du]at this
theorem aeF:zeroOf atf 113=some (.agg ⟨[.int .i64 0,.int .i64 0]⟩):=by kernel_rfl
theorem QD{l:List bC}{p:bC->Bool}(h:∀(j:Nat) (x:bC),l[j]?=some x->p x=false):l.filter (λx=> !p x)=l:=by
 refine as5.2 λx aa=> ?_
 obtain⟨j,a'⟩:=avu.1 aa
 rw [h j x a'];rfl
theorem aeG{D:Value}{p:bC->Bool}{G:J->Prop}{base:Nat}{a:Option Addr}{xs:List bC}{K:Option Addr->Nat->Nat->J->Prop}(dz:Kk D p G)(b4:∀H',Fr (ax a) H H'->G H')(an:Own encS 113 base H a n c xs)(ay:n<=1000000000)
  (hk:∀aQ H',Own encS 113 base H' a aQ c (xs.filter λx=> !p x)->aQ<=n->Fr (ax a) H H'->K a aQ c H'):
  aY atf QE ⟨[.slice a n c,D]⟩ H λv H'=>∃a n c,v=.slice a n c/\K a n c H':=by
 apply QF
 have gE:=an.1
 refine aeE dz (λH' af=>b4 H' (af.mono (by simp))) an.bL ay λi H1 az cz ff b9=> ?_
 have w7:Fr (ax a) H H1:=b9.mono (by simp)
 by_cases eC:i<n
 ·rw [if_pos eC]
  refine ai (λh=>by have:=(beq_iff_eq.1 h);omega) (λ_=> ?_)
  rw [b6 (by omega)]
  have mW:xs[i]?=some (xs[i]'(by omega)):=by simp
  have Aj:p (xs[i]'(by omega))=true:=ff eC _ mW
  have CY:(xs.take i).filter (λx=> !p x)=xs.take i:=QD λj x a'=>by
   rw [Ep]at a'
   split at a'
   ·exact cz j x (by assumption) a'
   ·cases a'
  refine⟨λvs H'=>match vs with|[.int _ i,.int _ j]=>∃(k m:Nat) (ws:List bC),i=k/\j=m/\k<m/\m<=n/\Own encS 113 base H' a n c ws/\ws.take k=(xs.take m).filter (λx=> !p x)/\ws.drop m=xs.drop m/\Fr (ax a) H H'|_=>False,
   λvs _=>match vs with|[_,.int _ i]=>n-i.toNat|_=>0,⟨i,i+1,xs,rfl,rfl,by omega,by omega,an.ab b9,?_,rfl,w7⟩,?_⟩
  ·rw [ats,mW,auV,CY]
   simp [Aj]
  ·rintro bm i' dK ao ⟨k,m,ws,rfl,rfl,CZ,ou,ku,e8,ll,bt⟩
   have Kg:=ku.1
   refine ai (λaD=> ?_) (λaD=> ?_)
   ·have bT:m<n:=by simpa using aD
    have ov:xs[m]?=some (xs[m]'(by omega)):=by simp
    have w8:ws[m]?=some (xs[m]'(by omega)):=by
     have:=congrArg (λl=>l[0]?) ll
     simp only [VG,Nat.add_zero]at this
     rw [this,ov]
    have rD:xs.take (m+1)=xs.take m++[xs[m]'(by omega)]:=by rw [ats,ov];rfl
    have rE:ws.drop (m+1)=xs.drop (m+1):=by
     have:=congrArg (λl=>l.drop 1) ll
     simpa [avQ]using this
    generalize xs[m]'(by omega)=y at ov w8 rD
    rw [b6 (by omega),b6 (by omega)]
    refine ku.bL.get rfl w8 (decide_eq_true (by omega)) λal bS ak=>⟨_,_,gx ak,?_⟩
    refine ia (by kernel_rfl) (by kernel_rfl) (by simp [atq,avm]) rfl λb aF ah bK bG=> ?_
    have ow:∀{H':J},Fr [] aF H'->cR atf 113 H' ⟨b,0,none⟩ (e5 y):=λaf=>(bK.ab af).vf (j:=0) (us:=[.int .i64 y.1,.int .i64 y.2]) (by kernel_rfl) (by kernel_rfl) rfl
    refine⟨_,_,ow (Fr.refl _ _),?_⟩
    have w9:Fr (ax a) H aF:=bt.trans' bG (λ_ h _=>h) (by simp)
    refine dz y aF _ (b4 _ w9) λaN bU=> ?_
    have kJ:Fr (ax a) H aN:=w9.trans' bU (λ_ h _=>h) (by simp)
    have pW:=(ku.ab bG).ab bU
    refine ai (λh1=> ?_) (λh1=> ?_)
    ·refine⟨_,_,ow bU,?_⟩
     refine qH (E:=encS) y pW rfl (by omega) (decide_eq_true (by omega)) rfl (by kernel_rfl) (by kernel_rfl) λbw yA bW=>⟨⟨k+1,m+1,_,rfl,rfl,by omega,by omega,yA,?_,?_,kJ.trans' bW (λ_ h _=>h) (λ_ h _=>h)⟩,cJ bT⟩
     ·rw [rD,auV,MX,if_pos h1,<-e8,ats,avH (nQ _),avI (by omega)]
      rfl
     ·rw [avJ (by omega),rE]
    ·refine⟨⟨k,m+1,ws,rfl,rfl,by omega,by omega,pW,?_,rE,kJ⟩,cJ bT⟩
     rw [rD,auV,MX,if_neg (by simpa using h1),e8]
     simp
   ·have C0:m=n:=by simp at aD;omega
    subst C0
    have x4:=ku.bL.cap
    refine gC ⟨by omega,by omega,by omega⟩ ?_
    simp only [asD]
    refine Gt (E:=encS) QA aeF rfl (by simp [avm]) ku (by omega) λaF how3 bG=>gC ⟨by omega,by omega,by omega⟩ ?_
    refine⟨_,_,_,rfl,hk _ aF ?_ (by omega) (bt.trans' bG (λ_ h _=>h) (λ_ h _=>h))⟩
    rw [e8,asG (by omega)]at how3
    simpa using how3
 ·rw [if_neg eC]
  refine ai (λ_=>⟨_,_,_,rfl,hk n H1 ?_ (nQ _) w7⟩) (λh=>by simp at h)
  rw [QD λj x a'=>cz j x (by have:=(qb.1 a').1;omega) a']
  exact an.ab b9
theorem aeH{a:Option Addr}{xs:List bC}{K:Option Addr->Nat->Nat->J->Prop}(aa:bk encS H a n c xs)(ay:n<=1000000000)
  (hk:∀aK aQ aT H',Own encS 113 H.size H' aK aQ aT xs->Fr [] H H'->K aK aQ aT H'):
  aY atf QG ⟨[.slice a n c]⟩ H λv H'=>∃a n c,v=.slice a n c/\K a n c H':=by
 apply QH
 refine ai (λh=>⟨_,_,_,rfl,?_⟩) (λh b H1 aB=> ?_)
 ·have:a=none:=by simpa using h
  subst this
  have kM:xs=[]:=by
   rcases aa.arr with h|⟨_,_,e,_⟩
   ·exact h
   ·cases e
  subst kM
  exact hk none 0 0 H (Own.nil _ _ _ _) (Fr.refl _ _)
 ·have kG:Own encS 113 H.size H1 (some ⟨b,0,none⟩) 0 0 []:=Own.made encS 113 aB (nQ _)
  refine pD (E:=encS) QA aeD kG aB.ag (aa.ab aB.ag) (by omega) λo p q ao an af _=>⟨_,_,_,rfl,hk _ _ _ _ an af⟩
theorem O8{n:Int}(h1:0<=n)(ae:n<18446744073709551616):IntKind.u64.wrap n=n:=by
 have:IntKind.u64.wrap n=n % 18446744073709551616:=by
  unfold atj
  rfl
 omega
theorem half{i j:Nat}(az:i<=1000000000)(a':j<=1000000000):IntKind.i64.wrap (Int.fdiv (IntKind.u64.wrap (IntKind.i64.wrap ((i:Int)+j))) ((2:Int)^1))=(((i+j)/2:Nat):Int):=by
 rw [dv (n:=(i:Int)+j) (by omega) (by omega),O8 (by omega) (by omega)]
 have e:Int.fdiv ((i:Int)+j) ((2:Int)^1)=(((i+j)/2:Nat):Int):=by
  rw [Int.fdiv_eq_ediv_of_nonneg _ (by decide)]
  have:((2:Int)^1)=2:=by decide
  rw [this];omega
 rw [e,dv (by omega) (by omega)]
def aeI(D:Value)(n:Nat)(p:Nat->Bool)(G:J->Prop):Prop:=∀(i:Nat) (H:J) (K:Bool->J->Prop),i<n->G H->K (p i) H->dO atf D [.int .i64 i] H λv H'=>∃b,v=.bool b/\K b H'
theorem Kl{D:Value}{p:Nat->Bool}{G:J->Prop}{K:Int->J->Prop}(dz:aeI D n p G)(b4:G H)(ay:n<=1000000000)
  (hk:∀i:Nat,i<=n->(0<i->p (i-1)=false)->(i<n->p i=true)->K i H):
  aY atf aeJ ⟨[.int .i64 n,D]⟩ H λv H'=>∃r,v=.int .i64 r/\K r H':=by
 apply aeK
 refine⟨λvs H'=>match vs with|[.int _ i,.int _ j]=>∃k m:Nat,i=k/\j=m/\k<=m/\m<=n/\(0<k->p (k-1)=false)/\(m<n->p m=true)/\H'=H|_=>False,
  λvs _=>match vs with|[.int _ i,.int _ j]=>(j-i).toNat|_=>0,⟨0,n,rfl,rfl,by omega,by omega,by omega,by omega,rfl⟩,?_⟩
 rintro bm i j H' ⟨k,m,rfl,rfl,CZ,ou,h1,ae,rfl⟩
 refine ai (λg=> ?_) (λg=>⟨_,rfl,?_⟩)
 ·have sD:k<m:=by simpa using g
  rw [half (i:=k) (j:=m) (by omega) (by omega)]
  refine dz ((k+m)/2) H' _ (by omega) b4 (ai (λh=> ?_) (λh=> ?_))
  ·rw [b6 (i:=(k+m)/2) (by omega)]
   exact⟨⟨(k+m)/2+1,m,rfl,rfl,by omega,ou,λ_=>by simpa using h,ae,rfl⟩,show((m:Int)-(((k+m)/2+1:Nat):Int)).toNat<((m:Int)-(k:Int)).toNat by omega⟩
  ·exact⟨⟨k,(k+m)/2,rfl,rfl,by omega,by omega,h1,λ_=>by simpa using h,rfl⟩,show((((k+m)/2:Nat):Int)-(k:Int)).toNat<((m:Int)-(k:Int)).toNat by omega⟩
 ·have:k=m:=by simp at g;omega
  subst this
  exact hk k ou h1 ae
theorem aeL{own:List eb}{id t:Int}(e1:vg own)(hid:∀x∈own,x.1=id){i:Nat}(az:i<=own.length)
  (h1:∀x,0<i->own[i-1]?=some x->¬x.2.2>t) (ae:∀x,own[i]?=some x->x.2.2>t):
  own.any (bl id t)=(match own[i]? with|some x=>decide (x.2.1<=t)|none=>false):=by
 have lt:∀a b (x y:eb),a<b->own[a]?=some x->own[b]?=some y->x.2.2<y.2.1:=λa b x y qB aa av=>by
  obtain⟨bQ,rfl⟩:=qb.1 aa
  obtain⟨ah,rfl⟩:=qb.1 av
  have:=avK.1 e1.1 a b bQ ah qB
  have bc:=hid _ (avU bQ)
  have bN:=hid _ (avU ah)
  unfold Ak at this
  omega
 have Gx:∀a (x:eb),own[a]?=some x->x.2.1<x.2.2/\x.1=id:=λa x aa=>by
  have hm:=att aa
  exact⟨e1.2 x hm,hid x hm⟩
 have key:own.any (bl id t)=true↔∃x,own[i]?=some x/\x.2.1<=t:=by
  rw [av6]
  constructor
  ·rintro⟨x,aa,h⟩
   unfold bl at h
   simp only [oJ,beq_iff_eq,decide_eq_true_eq]at h
   obtain⟨j,a'⟩:=avu.1 aa
   have EZ:=(qb.1 a').1
   have mD:i<=j:=by
    rcases atv j i with cF|gH
    ·exfalso
     have bh:own[i-1]?=some (own[i-1]'(by omega)):=by simp
     have a1:=h1 _ (by omega) bh
     rcases atv j (i-1)with au|au
     ·have:=lt _ _ _ _ au a' bh
      have:=(Gx _ _ bh).1
      omega
     ·have:j=i-1:=by omega
      subst this
      rw [a']at bh
      have e:=Option.some.inj bh
      rw [<-e]at a1
      omega
    ·exact gH
   have bh:own[i]?=some (own[i]'(by omega)):=by simp
   refine⟨_,bh,?_⟩
   have a1:=ae _ bh
   rcases atv i j with au|au
   ·have:=lt _ _ _ _ au bh a'
    omega
   ·have:j=i:=by omega
    subst this
    rw [a']at bh
    have e:=Option.some.inj bh
    rw [<-e]
    omega
  ·rintro⟨x,aa,h⟩
   refine⟨x,att aa,?_⟩
   have au:=ae x aa
   have a6:=Gx _ _ aa
   unfold bl
   simp only [oJ,beq_iff_eq,decide_eq_true_eq]
   exact⟨a6.2,h,au⟩
 rw [Bool.eq_iff_iff,key]
 cases bh:own[i]? with
 |none=>simp
 |some x=>simp
def Al(id:Int)(l:List eb):List eb:=l.filter λx=> !(x.1 !=id)
theorem aeM(id t:Int)(l:List eb):(Al id l).any (bl id t)=l.any (bl id t):=by
 induction l with
 |nil=>rfl
 |cons x l ih=>
  unfold Al at ih⊢
  rw [MX]
  split
  ·rw [avV,avV,ih]
  ·rename_i h
   rw [avV,ih]
   have:bl id t x=false:=by
    unfold bl
    have:(x.1==id)=false:=by simpa using h
    rw [this];rfl
   rw [this,Bool.false_or]
theorem aeN{id:Int}{l:List eb}:∀x∈Al id l,x.1=id:=λx aa=>by
 have:=(VD.1 aa).2
 simpa using this
theorem aeO{id:Int}{l:List eb}(h:vg l):vg (Al id l):=⟨h.1.filter _,λx aa=>h.2 x (VD.1 aa).1⟩
theorem aeP{id:Int}{b:Nat}:tQ (.func (.func 147) #[] #[.pointer (some ⟨b,0,none⟩)]) (λx=>x.1 !=id) (λH=>aU H ⟨b,0,none⟩ [.int .i64 id]):=by
 intro x H K aZ hk
 refine⟨147, #[],_,rfl,by kernel_rfl,?_⟩
 apply aeQ
 intro b1 H1 aB
 exact⟨_,aB.bo.bV (j:=0) (by kernel_rfl) rfl,_,(aZ.ab aB.ag).b5 (by kernel_rfl) rfl,_,rfl,hk H1 aB.ag⟩
theorem aeR{id:Int}{b:Nat}{o:Option Addr}{p q:Nat}{own:List eb}(e1:vg own)(hid:∀x∈own,x.1=id)(bh:p<=1000000):
  Kk (.func (.func 149) #[] #[.pointer (some ⟨b,0,none⟩)]) (λs=>own.any (bl id s.1)) (λH=>aU H ⟨b,0,none⟩ [.slice o p q]/\bk jt H o p q own):=by
 rintro s H K ⟨ah,hs⟩ hk
 refine⟨149, #[],_,rfl,by kernel_rfl,?_⟩
 apply aeS
 intro b1 H1 aB
 have cI:=ah.ab aB.ag
 have e6:=hs.ab aB.ag
 have aH:=e6.len
 have ow:cR atf 69 H1 ⟨b,0,none⟩ (.slice o p q):=cI.b5 (by kernel_rfl) rfl
 refine⟨_,_,_,ow,?_⟩
 refine Kl (n:=p) (p:=λi=>match own[i]? with|some x=>decide (x.2.2>s.1)|none=>false) (G:=λH=>H=H1) ?_ rfl (by omega) λi az h1 ae=>⟨_,_,_,ow,?_⟩
 ·rintro i ao ju az rfl nz
  refine⟨151, #[],_,rfl,by kernel_rfl,?_⟩
  apply aeT
  have aa:own[i]?=some (own[i]'(by omega)):=by simp
  refine⟨_,_,_,ow,e6.get rfl aa (decide_eq_true (by omega)) λal bS ak=>⟨_,Kh ak,_,aB.bo.bV (j:=0) (by kernel_rfl) rfl,_,rfl,?_⟩⟩
  simp only [aa]at nz
  exact nz
 ·have af:=aeL (t:=s.1) e1 hid (i:=i) (by omega) (λx aD aa=>by
   have:=h1 aD
   simp only [aa]at this
   simpa using this) (λx aa=>by
   have:=ae (by have:=(qb.1 aa).1;omega)
   simp only [aa]at this
   simpa using this)
  have cA:=hk H1 aB.ag
  simp only [af]at cA
  refine ai (λg=>⟨_,_,_,ow,?_⟩) (λg=>⟨_,rfl,?_⟩)
  ·have sD:i<p:=by simpa using g
   have aa:own[i]?=some (own[i]'(by omega)):=by simp
   refine e6.get rfl aa (decide_eq_true (by omega)) λal bS ak=>⟨_,aeq ak,_,aB.bo.bV (j:=0) (by kernel_rfl) rfl,_,rfl,?_⟩
   simp only [aa]at cA
   exact cA
  ·have aa:own[i]?=none:=asu (by simp at g;omega)
   simp only [aa]at cA
   exact cA
def Km(xs:List eb)(id:Int)(ss:List bC):List bC:=ss.filter λs=> !xs.any (bl id s.1)
theorem aeU{a:Option Addr}{xs:List eb}{id:Int}{yC:Option Addr}{m d:Nat}{ss:List bC}{K:Option Addr->Nat->Nat->J->Prop}(aa:bk jt H a n c xs)(ay:n<=100000)(hs:bk encS H yC m d ss)(hm:m<=100000)
  (hk:∀aK aQ aT H',Own encS 113 H.size H' aK aQ aT (Km xs id ss)->aQ<=m->Fr [] H H'->K aK aQ aT H'):
  aY atf aeV ⟨[.slice a n c,.int .i64 id,.slice yC m d]⟩ H λv H'=>∃a n c,v=.slice a n c/\K a n c H':=by
 apply aeW
 intro b H1 aB
 refine Qy (aa.ab aB.ag) ay λa2 cr c2 ao ys de hN2 bH bt=> ?_
 refine ia (by kernel_rfl) (by kernel_rfl) (by simp [atq,avm]) rfl λb1 aF cI bK bG=>⟨_,_,_,bK.b5 (by kernel_rfl) rfl,?_⟩
 have eN:=de.ab bG
 have cH:∀k∈ax a2,k≠b/\k≠b1:=λk hk=>by
  have h1:=de.ge k hk
  have ae:=aB.eq
  have au:=aB.size
  omega
 have nu:=bt.aw bG
 refine CX (G:=λH=>aU H ⟨b,0,none⟩ [.int .i64 id]) aeP (λH' af=>(aB.bo.ab nu).ag af λh=>(cH _ h).1 rfl) eN (by omega) λk5 aN eV cp bU=> ?_
 have aeX:Fr [] H1 aN:=nu.ab bU λk hk=>(de.ge k hk).1
 refine(bK.ag bU λh=>(cH _ h).2 rfl).jq (by kernel_rfl) (by kernel_rfl) (by simp [atq,avm]) (by simp [atq]) λbw lo bW=> ?_
 have lo:aU bw ⟨b1,0,none⟩ [.slice a2 k5 c2]:=lo
 have ey:Own jt 180 H1.size bw a2 k5 c2 (Al id ys):=eV.ag bW λal e h=>by
  have:=cH al.block (by simp [ax,e])
  simp at h
  omega
 have aeY:Fr [] H1 bw:=aeX.ab bW λk hk=>by simp at hk;have:=bt.size;omega
 have qy:=aB.ag.aw aeY
 refine aeH (hs.ab qy) (by omega) λiX n6 k6 bY gw cB=> ?_
 have hL:=gw.1
 have Kn:=hs.len
 refine aeG (aeR (id:=id) (b:=b1) (o:=a2) (p:=k5) (q:=c2) (aeO hN2.1) aeN (by omega)) (λH' af=>⟨(lo.ab cB).ag af λh=> ?_,((ey.ab cB).bL).ag af λal e h=> ?_⟩) gw (by omega) λn7 cC fo gy eJ=>⟨_,_,_,rfl,?_⟩
 ·have:=(gw.ge _ h).1
  have ae:b1<bw.size:=lo.lt
  have au:bw.size<=b1:=this
  omega
 ·have h1:=(gw.ge _ h).1
  have ae:=(ey.ge al.block (by simp [ax,e])).2
  omega
 ·have l7:=qy.aw cB
  refine hk _ _ _ _ ?_ (by omega) (l7.ab eJ λk hk=>by have:=(gw.ge k hk).1;have:=qy.size;omega)
  have e:(ss.filter λx=> !(Al id ys).any (bl id x.1))=Km xs id ss:=by
   unfold Km
   congr 1
   funext s
   rw [aeM,aeZ hN2]
  rw [e]at fo
  exact fo.base qy.size
end Go.Proofs.Cv
namespace Go.Proofs
def Sep(H:J)(B:Nat)(bg:List (List Nat)):Prop:=bg.Pairwise e2/\∀F∈bg,∀k∈F,B<=k/\k<H.size
variable{H H':J}{x n b c N M r:Nat}{t f e i:Int}{a:Option Addr}{s:ByteArray}{al:Addr}
theorem Sep.le{B:Nat}{bg:List (List Nat)}(h:Sep H B bg)(hs:H.size<=H'.size):Sep H' B bg:=⟨h.1,λF cn k hk=>⟨(h.2 F cn k hk).1,Nat.lt_of_lt_of_le (h.2 F cn k hk).2 hs⟩⟩
theorem Sep.iI{B:Nat}{bg:List (List Nat)}(h:Sep H B bg){i j:Nat}{F G:List Nat}(mD:i≠j)(cn:bg[i]?=some F)(b4:bg[j]?=some G):e2 F G:=by
 obtain⟨az,rfl⟩:=qb.1 cn
 obtain⟨a',rfl⟩:=qb.1 b4
 have bh:=avK.1 h.1
 rcases Nat.lt_or_gt_of_ne mD with q|q
 ·exact bh i j az a' q
 ·exact(bh j i a' az q).symm
theorem Sep.ne{B:Nat}{bg:List (List Nat)}(h:Sep H B bg){i j k:Nat}{F G:List Nat}(mD:i≠j)(cn:bg[i]?=some F)(b4:bg[j]?=some G)(hk:k∈F):k∉G:=h.iI mD cn b4 k hk
theorem Sep.iC{B:Nat}{bg:List (List Nat)}(h:Sep H B bg){i:Nat}{F:List Nat}(cn:bg[i]?=some F):In H F:=λk hk=>(h.2 F (att cn) k hk).2
theorem Sep.set{B:Nat}{bg:List (List Nat)}(h:Sep H B bg){i:Nat}{F F':List Nat}(cn:bg[i]?=some F)(aZ:Grow H F F')(bK:B<=H.size)(hs:H.size<=H'.size)(az:In H' F'):Sep H' B (bg.set i F'):=by
 have aO:∀j G,j≠i->bg[j]?=some G->e2 F' G:=λj G a' b4 k hk hkG=>by
  rcases aZ k hk with q|q
  ·exact h.iI (Ne.symm a') cn b4 k q hkG
  ·have:=h.iC b4 k hkG;omega
 refine⟨?_,λG b4 k hk=> ?_⟩
 ·rw [avK]
  intro a b bQ ah qB
  rw [avW,avW]
  simp only [av7]at bQ ah
  split
  ·rename_i e;subst e
   rw [if_neg (by omega)]
   exact aO b _ (by omega) (asj ah)
  ·split
   ·rename_i e;subst e
    exact(aO a _ (by omega) (asj bQ)).symm
   ·exact avK.1 h.1 a b bQ ah qB
 ·obtain⟨j,a',rfl⟩:=List.mem_iff_getElem.1 b4
  rw [avW]at hk
  simp only [av7]at a'
  split at hk
  ·refine⟨?_,az k hk⟩
   rcases aZ k hk with q|q
   ·exact(h.2 F (att cn) k q).1
   ·omega
  ·have:=h.2 _ (avU a') k hk
   exact⟨this.1,by omega⟩
structure eA where
 L:List bX
 ss:List bb.cw
 past:Int
 st:bg.f'
structure fK where
 s:Addr
 d:Addr
 cK:Nat
 cy:Nat
 Sd:List Nat
 m:bg.ei
 N:Nat
 M:Nat
 di:Nat
 bJ:List Nat
 bQ:dH
 hs:List bb.bb
 mu:dH
 tb:List Row
 p:Nat
 pr:Nat
def mv(A:fK)(past:Int):List Value:=[.pointer (some A.d),.pointer (some A.s),.pointer (some ⟨A.di,0,none⟩),.slice none 0 0,.int .i64 0,.int .i64 0,.bool false,.int .i64 0,.int .i64 0,.int .i64 0,.slice A.bQ.1 A.bQ.2.1 A.bQ.2.2,.slice A.mu.1 A.mu.2.1 A.mu.2.2,.int .i64 past,.pointer (some ⟨A.p,0,none⟩),.pointer none]
def vy(hs:List bb.bb):List Nat:=hs.flatMap λm=>ax m.2.1
def xq(x:Nat)(A:fK):List (List Nat):=[[x],A.s.block::A.cK::A.cy::A.Sd,A.bJ,ax A.mu.1,ax A.bQ.1++vy A.hs,[A.p,A.pr]]
structure iN(H:J)(B x:Nat)(A:fK)(db:eA):Prop where
 bo:aU H ⟨x,0,none⟩ (mv A db.past)
 bL:bg.hN H A.s A.d A.cK A.cy none 0 0 [] A.Sd db.st A.m A.N A.M
 bz:cU.kZ H A.di A.bJ db.L
 aO:bk bb.dL H A.bQ.1 A.bQ.2.1 A.bQ.2.2 A.hs
 lS:bb.e9 H A.hs db.ss
 rs:bb.ej db.ss
 tb:Own fp 180 0 H A.mu.1 A.mu.2.1 A.mu.2.2 A.tb
 pf:aU H ⟨A.p,0,none⟩ [.map (some A.pr)]
 pm:H[A.pr]?=some (.map ⟨[]⟩ 0)
 sep:Sep H B (xq x A)
 base:B<=H.size
theorem eG{p:Option Addr}{S:List Nat}(h:∀k∈ax p,k∉S):∀al,p=some al->al.block∉S:=λal e=>h al.block (by simp [e,ax])
theorem e9.ag{hs:List bb.bb}{ss:List bb.cw}{S:List Nat}(h:bb.e9 H hs ss)(af:Fr S H H')(ay:∀k∈vy hs,k∉S):bb.e9 H' hs ss:=
 bb.cZ.mono h λm y hm _ aA=>⟨aA.1,aA.2.ag af (eG λk hk=>ay k (as1.2 ⟨m,hm,hk⟩))⟩
theorem iN.ab{B:Nat}{A:fK}{db:eA}(h:iN H B x A db)(af:Fr [] H H'):iN H' B x A db:=
 ⟨h.bo.ab af,h.bL.ab af,h.bz.ab af,h.aO.ab af,h.lS.ab af,h.rs,h.tb.ab af,h.pf.ab af,af.nw h.pm,h.sep.le af.size,VF h.base af.size⟩
def kx(x:Nat)(A:fK):List Nat:=x::(A.bJ++ax A.mu.1)
theorem iN.ahA{B:Nat}{A:fK}{db:eA}{fA iv:Nat}{st':bg.f'}(h:iN H B x A db)(hs:bg.hN H' A.s A.d fA A.cy none 0 0 [] A.Sd st' A.m A.N iv)(aA:fA=A.cK\/H.size<=fA)(aH:fA<H'.size)(af:Fr [A.s.block] H H'):
  iN H' B x {A with cK:=fA,M:=iv} {db with st:=st'}:=by
 have aC:=af.size
 have no:∀{j:Nat} {G:List Nat},j≠1->(xq x A)[j]?=some G->∀k∈G,k∉[A.s.block]:=λ{j G} a' b4 k hk hm=>by
  simp only [ar7]at hm;subst hm
  exact h.sep.ne a' b4 (show(xq x A)[1]?=some _ from rfl) hk (by simp)
 have fk:=no (j:=0) (by decide) rfl
 have b7:=no (j:=2) (by decide) rfl
 have cN:=no (j:=3) (by decide) rfl
 have ek:=no (j:=4) (by decide) rfl
 have e':=no (j:=5) (by decide) rfl
 refine⟨h.bo.ag af (fk x (by simp)),hs,h.bz.ag af b7,h.aO.ag af (eG λk hk=>ek k (by simp [hk])),e9.ag h.lS af λk hk=>ek k (by simp [hk]),h.rs,h.tb.ag af (eG cN),h.pf.ag af (e' _ (by simp)),af.get h.pm (e' _ (by simp)),?_,by have:=h.base;omega⟩
 exact h.sep.set (i:=1) (F':=A.s.block::fA::A.cy::A.Sd) rfl (λk hk=>by
  simp only [o3]at hk⊢
  rcases hk with q|q|q|q
  ·exact .inl (.inl q)
  ·rcases aA with e|e
   ·exact .inl (.inr (.inl (q.trans e)))
   ·exact .inr (by omega)
  ·exact .inl (.inr (.inr (.inl q)))
  ·exact .inl (.inr (.inr (.inr q)))) h.base aC (λk hk=>by
  have:=h.sep.iC (i:=1) rfl
  simp only [o3]at hk
  rcases hk with q|q|q|q
  ·have:=this k (by simp [q]);omega
  ·omega
  ·have:=this k (by simp [q]);omega
  ·have:=this k (by simp [q]);omega)
theorem iN.ahB{B:Nat}{A:fK}{db:eA}{kh:List Nat}{nv:List bX}(h:iN H B x A db)(az:cU.kZ H' A.di kh nv)(aZ:Grow H A.bJ kh)(aH:In H' kh)(af:Fr A.bJ H H'):
  iN H' B x {A with bJ:=kh} {db with L:=nv}:=by
 have no:∀{j:Nat} {G:List Nat},j≠2->(xq x A)[j]?=some G->∀k∈G,k∉A.bJ:=λ{j G} a' b4 k hk=>h.sep.ne a' b4 (show(xq x A)[2]?=some _ from rfl) hk
 have fk:=no (j:=0) (by decide) rfl
 have bO:=no (j:=1) (by decide) rfl
 have cN:=no (j:=3) (by decide) rfl
 have ek:=no (j:=4) (by decide) rfl
 have e':=no (j:=5) (by decide) rfl
 refine⟨h.bo.ag af (fk x (by simp)),h.bL.ag af (λk hk=>bO k (by simp at hk⊢;rcases hk with q|q|q<;>simp [q])) (λk hk=>bO k (by simp [hk])),az,h.aO.ag af (eG λk hk=>ek k (by simp [hk])),e9.ag h.lS af λk hk=>ek k (by simp [hk]),h.rs,h.tb.ag af (eG cN),h.pf.ag af (e' _ (by simp)),af.get h.pm (e' _ (by simp)),?_,by have:=h.base;have:=af.size;omega⟩
 exact h.sep.set (i:=2) (F':=kh) rfl aZ h.base af.size aH
theorem iN.Lf{B:Nat}{A:fK}{db:eA}{ha' ta':dH}{hs':List bb.bb}{ss':List bb.cw}{tb':List Row}{past':Int}(h:iN H B x A db)(ah:aU H' ⟨x,0,none⟩ (mv {A with bQ:=ha',mu:=ta'} past'))(af:Fr [x] H H')
  (h1:bk bb.dL H ha'.1 ha'.2.1 ha'.2.2 hs') (ae:bb.e9 H hs' ss') (au:bb.ej ss') (a6:Own fp 180 0 H ta'.1 ta'.2.1 ta'.2.2 tb')
  (g1:Sep H B [[x],A.s.block::A.cK::A.cy::A.Sd,A.bJ,ax ta'.1,ax ha'.1++vy hs',[A.p,A.pr]]):
  iN H' B x {A with bQ:=ha',hs:=hs',mu:=ta',tb:=tb'} {db with ss:=ss',past:=past'}:=by
 have no:∀{j:Nat} {G:List Nat},j≠0->[[x],A.s.block::A.cK::A.cy::A.Sd,A.bJ,ax ta'.1,ax ha'.1++vy hs',[A.p,A.pr]][j]?=some G->∀k∈G,k∉[x]:=λ{j G} a' b4 k hk=>g1.ne a' b4 (j:=0) rfl hk
 have bO:=no (j:=1) (by decide) rfl
 have b7:=no (j:=2) (by decide) rfl
 have cN:=no (j:=3) (by decide) rfl
 have ek:=no (j:=4) (by decide) rfl
 have e':=no (j:=5) (by decide) rfl
 exact⟨ah,h.bL.ag af (λk hk=>bO k (by simp at hk⊢;rcases hk with q|q|q<;>simp [q])) (λk hk=>bO k (by simp [hk])),h.bz.ag af b7,h1.ag af (eG λk hk=>ek k (by simp [hk])),e9.ag ae af λk hk=>ek k (by simp [hk]),au,a6.ag af (eG cN),h.pf.ag af (e' _ (by simp)),af.get h.pm (e' _ (by simp)),g1.le af.size,by have:=h.base;have:=af.size;omega⟩
open bb (cw e9 sG dL encS ej jM e5)
structure tZ(t:TypeId)(base:Nat)(H:J)(o:Option Addr)(l d:Nat)(hs:List bb.bb)(ss:List cw):Prop where
 own:Own dL t base H o l d hs
 lS:e9 H hs ss
 iI:∀m∈hs,e2 (ax o) (ax m.2.1)
 ne:∀s∈ss,s.2≠[]
theorem tZ.ab{t:TypeId}{base:Nat}{o:Option Addr}{l d:Nat}{hs:List bb.bb}{ss:List cw}(h:tZ t base H o l d hs ss)(af:Fr [] H H'):tZ t base H' o l d hs ss:=⟨h.own.ab af,h.lS.ab af,h.iI,h.ne⟩
theorem tZ.nil(t:TypeId)(H:J):tZ t H.size H none 0 0 [] []:=⟨Own.nil _ _ _ _,.nil,by simp,by simp⟩
theorem tZ.push{t ts:TypeId}{H0:J}{o:Option Addr}{l d:Nat}{hs:List bb.bb}{ss:List cw}{ty t':TypeId}{vs:List Value}{K:Option Addr->Nat->Nat->J->Prop}(m:bb.bb)(s:cw)(hy:sliceB atf ts t=true)(bf:jC atf t 2 32=true)
  (h:tZ t H0.size H o l d hs ss) (af:Fr [] H0 H) (aA:sG H m s) (ay:s.2≠[]) (aO:e2 (ax o) (ax m.2.1)) (aI:vs=dL.cells m) (aH:l<=1000000000)
  (hk:∀lH lP d' H',tZ t H0.size H' lH lP d' (hs++[m]) (ss++[s])->Fr [] H0 H'->lP=l+1->K lH lP d' H'):
  ∀b H1,ds H b (.cells ⟨vs⟩ t') H1->cj atf (Builtin.append_ ⟨[ts,ts]⟩ ty ⟨[.slice o l d,.slice (some ⟨b,0,none⟩) 1 1]⟩) H1 λv H'=>∃a n c,v=.slice a n c/\K a n c H':=λb H1 aB=>by
 have s1:=aB.size
 have hJ:=af.size
 refine iD (E:=dL) hy bf (h.own.ab aB.ag) (gd dL m aB aI) (by omega) (by omega) λlH lP d' ao de bt oX=> ?_
 have ru:=de.1
 have k1:=h.own.1
 simp at ru
 have GY:∀m' s',sG H m' s'->s'.2≠[]->e2 (ax o) (ax m'.2.1)->e2 (ax lH) (ax m'.2.1):=λm' s' hG uF hd' k hk cA=>by
  rcases oX k hk with h1|h1
  ·exact hd' k h1 cA
  ·have:=bb.As hG.2 uF k cA;omega
 have R8:∀{m':bb.bb} {s':cw},sG H1 m' s'->e2 (ax o) (ax m'.2.1)->sG ao m' s':=λ{m' s'} hG hd'=>⟨hG.1,hG.2.ag bt (eG λk hk cA=>hd' k cA hk)⟩
 refine hk lH lP d' ao ⟨de,bb.cZ.app ?_ (.cons (R8 ⟨aA.1,aA.2.ab aB.ag⟩ aO) .nil),λm' ev=> ?_,λs' hs'=> ?_⟩ ((af.aw aB.ag).ab bt λk hk=>((h.own.ab aB.ag).ge k hk).1) (by omega)
 ·exact(h.lS.ab aB.ag).mono λm' s' ev _ hG=>R8 hG (h.iI m' ev)
 ·rcases asU.1 ev with ev|ev
  ·obtain⟨s',hs',hG⟩:=bb.cZ.mem h.lS ev
   exact GY m' s' hG (h.ne s' hs') (h.iI m' ev)
  ·simp at ev;subst ev
   exact GY m' s aA ay aO
 ·rcases asU.1 hs' with hs'|hs'
  ·exact h.ne s' hs'
  ·simp at hs';subst hs';exact ay
def mw(p:Int->bC->Bool)(ss:List cw):List cw:=(ss.map λs=>(s.1,s.2.filter (p s.1))).filter λs=>decide (s.2≠[])
theorem R9(p:Int->bC->Bool)(ss:List cw)(s:cw):mw p (ss++[s])=mw p ss++(if s.2.filter (p s.1)≠[]then [(s.1,s.2.filter (p s.1))]else []):=by
 unfold mw
 rw [as2,auV]
 congr 1
 simp only [qO,List.map_nil]
 generalize s.2.filter (p s.1)=l
 by_cases h:l=[]<;>simp [h]
theorem ahF{p:Int->bC->Bool}{ss:List cw}(h:ej ss):ej (mw p ss):=by
 unfold mw
 refine⟨List.Pairwise.filter _ (auT.2 (h.1.imp λh=>h)),λs hs=> ?_⟩
 obtain⟨h1,ae⟩:=VD.1 hs
 obtain⟨hJ,au,rfl⟩:=ad6.1 h1
 exact⟨by simpa using ae,List.Pairwise.filter _ (h.2 hJ au).2⟩
theorem Lg{p:Int->bC->Bool}{ss:List cw}:(mw p ss).length<=ss.length:=by
 unfold mw
 exact VF (avd _ _) (by simp)
theorem R'{p:Int->bC->Bool}{ss:List cw}{m:Nat}(h:∀s∈ss,s.2.length<=m):∀s∈mw p ss,s.2.length<=m:=λs hs=>by
 unfold mw at hs
 obtain⟨h1,ae⟩:=VD.1 hs
 obtain⟨hJ,au,rfl⟩:=ad6.1 h1
 exact VF (avd _ _) (h hJ au)
def Lh(D:Value)(p:Int->bC->Bool)(G:J->Prop):Prop:=∀(id:Int) (a:Option Addr) (n c:Nat) (xs:List bC) (H:J) (K:Option Addr->Nat->Nat->J->Prop),G H->bk bb.encS H a n c xs->n<=100000→
 (∀aK aQ aT H',Own bb.encS 113 H.size H' aK aQ aT (xs.filter (p id))->Fr [] H H'->K aK aQ aT H')->dO atf D [.int .i64 id,.slice a n c] H λv H'=>∃a n c,v=.slice a n c/\K a n c H'
theorem Sa{B:Nat}{A:fK}{db:eA}{D:Value}{p:Int->bC->Bool}{G:J->Prop}{K:J->Prop}(h:iN H B x A db)(dz:Lh D p G)(b4:∀H',Fr [] H H'->G H')(ay:db.ss.length<=100000)(aH:∀s∈db.ss,s.2.length<=100000)
  (hk:∀H' ha' hs',iN H' B x {A with bQ:=ha',hs:=hs'} {db with ss:=mw p db.ss}->Fr [x] H H'->K H'):
  aY atf ahG ⟨[.pointer (some ⟨x,0,none⟩),D]⟩ H λv H'=>v=.tuple ⟨[]⟩/\K H':=by
 apply ahH
 have h1:=h.aO.len
 have ae:=h.lS.len
 have jr:=h.bo.lt
 simp only at jr
 refine⟨_,_,_,h.bo.ld (j:=10) (by kernel_rfl) rfl,?_⟩
 refine⟨λvs ao=>match vs with|[.slice o l c,.int _ i]=>∃(k:Nat) (ms:List bb.bb),i=k/\k<=A.bQ.2.1/\tZ 57 H.size ao o l c ms (mw p (db.ss.take k))/\(∀m∈ms,∀q∈ax m.2.1,H.size<=q)/\Fr [] H ao|_=>False,
  λvs _=>match vs with|[_,.int _ i]=>A.bQ.2.1-i.toNat|_=>0,⟨0,[],rfl,by omega,tZ.nil 57 H,by simp,Fr.refl _ _⟩,?_⟩
 rintro bm o l c i ao ⟨k,ms,rfl,du,a1,hm,f2⟩
 have FL:=a1.own.1
 have aq1:=a1.lS.len
 have sv:=Lg (p:=p) (ss:=db.ss.take k)
 have e8:(db.ss.take k).length<=100000:=by rw [apH];omega
 refine ai (λaD=> ?_) (λaD=> ?_)
 ·have bT:k<A.bQ.2.1:=by simpa using aD
  obtain⟨m,ev⟩:=eR (l:=A.hs) (i:=k) (by omega)
  obtain⟨s,hs',aA⟩:=h.lS.get ev
  have lk:=att hs'
  have eg:db.ss.take (k+1)=db.ss.take k++[s]:=by rw [ats,hs'];rfl
  refine(h.aO.ab f2).get rfl ev (decide_eq_true (by omega)) λal bS ak=>⟨_,_,_,_,bb.j4 ak,λb aF bF=> ?_⟩
  refine bF.bo.jq (v:=jM m) (by kernel_rfl) (by kernel_rfl) (λx aa=>by simp [atq]at aa;rcases aa with rfl|rfl<;>rfl) (by simp [atq]) λaN dY bU=> ?_
  have Li:aU aN ⟨b,0,none⟩ [.int .i64 m.1,.slice m.2.1 m.2.2.1 m.2.2.2]:=by simpa [atq]using dY
  have dP:=bF.eq
  have z2:=f2.size
  have f24:Fr [] ao aN:=bF.ag.ab bU λk hk=>by simp at hk;omega
  have f4:=f2.aw f24
  refine⟨_,Li.bV (by kernel_rfl) rfl,_,_,_,Li.bV (j:=1) (by kernel_rfl) rfl,?_⟩
  have Sb:=aA.2.ab f4
  have ry:=Sb.len
  have eo:=aH s lk
  refine dz m.1 _ _ _ s.2 aN _ (b4 aN f4) Sb (by omega) λaK aQ aT bw ey f5=> ?_
  have f45:=f4.aw f5
  have z4:=f4.size
  have z5:=f5.size
  have dk:=ey.1
  have iE:m.1=s.1:=aA.1
  have hw:IntKind.i64.wrap ((k:Int)+1)=((k+1:Nat):Int):=by rw [dv (by omega) (by omega)];rfl
  rw [hw]
  refine ai (λbu=>⟨_,(Li.ab f5).bV (by kernel_rfl) rfl,λua bY hL=> ?_⟩) (λbu=> ?_)
  ·have cH:s.2.filter (p m.1)≠[]:=λe=>by rw [e]at dk;simp at bu;simp at dk;omega
   have GY:e2 (ax o) (ax aK):=λq hq1 Qe=>by
    have:=(ey.ge q Qe).1
    have:=(a1.own.ge q hq1).2
    have:=f24.size
    omega
   refine a1.ab (f24.aw f5)|>.push (ts:=50) (m.1,(aK,aQ,aT)) (m.1,s.2.filter (p m.1)) (by kernel_rfl) (by kernel_rfl) f45 ⟨rfl,ey.bL⟩ cH GY rfl (by omega) (λlH lP d' H' kl bE iS=>⟨⟨k+1,ms++[(m.1,(aK,aQ,aT))],rfl,by omega,?_,?_,bE⟩,cJ bT⟩) ua bY hL
   ·rw [eg,R9,<-iE,if_pos cH];exact kl
   ·intro m' AF q Sc
    rcases asU.1 AF with AF|AF
    ·exact hm m' AF q Sc
    ·simp at AF;subst AF
     have:=(ey.ge q Sc).1;omega
  ·have he:s.2.filter (p m.1)=[]:=asF (by simp at bu;omega)
   refine⟨⟨k+1,ms,rfl,by omega,?_,hm,f45⟩,cJ bT⟩
   rw [eg,R9,<-iE,if_neg (by simp [he]),as0]
   exact a1.ab (f24.aw f5)
 ·have EM:k=A.bQ.2.1:=by
   have:¬k<A.bQ.2.1:=by simpa using aD
   omega
  have ahI:db.ss.take k=db.ss:=asG (by omega)
  rw [ahI]at a1
  have h':=h.ab f2
  have z2:=f2.size
  refine h'.bo.st (j:=10) (v:=.slice o l c) (by kernel_rfl) (by kernel_rfl) (λv aI=>by simp [atq]at aI;subst aI;rfl) (by simp [atq,mv]) λaF dQ f3=>⟨rfl,?_⟩
  refine hk aF (o,l,c) ms (h'.Lf (ha':=(o,l,c)) (ta':=A.mu) (by simpa [atq,mv]using dQ) f3 a1.own.bL a1.lS (ahF h.rs) h'.tb ?_) (f2.trans' f3 (λk hk _=>by simp at hk) λk hk _=>hk)
  have Lj:∀m∈ms,∀q∈ax m.2.1,q<ao.size:=λm ev q kl=>by
   obtain⟨s,hs',aA⟩:=bb.cZ.mem a1.lS ev
   exact bb.As aA.2 (a1.ne s hs') q kl
  refine h.sep.set (i:=4) (F':=ax o++vy ms) rfl (λq kl=>.inr ?_) h.base z2 (λq kl=> ?_)<;>(rcases asU.1 kl with kl|kl)
  ·exact(a1.own.ge q kl).1
  ·obtain⟨m,iE,pK⟩:=as1.1 kl;exact hm m iE q pK
  ·exact(a1.own.ge q kl).2
  ·obtain⟨m,iE,pK⟩:=as1.1 kl;exact Lj m iE q pK
open bb (cw e9 sG dL encS ej jM e5 gz)
structure xr(N:Nat)(A:fK)(db:eA):Prop where
 ss:db.ss.length<=N
 bL:∀s∈db.ss,s.2.length<=N
 tb:A.tb.length<=N
def DD(tb:List Row)(id:Int)(x:bC):Bool:= !tb.any (Cv.bl id x.1)
def gO(t:Int)(_:Int)(x:bC):Bool:= !nI 0 t x
theorem ahJ{m:g'}{tb:List Row}(ay:tb.length<=100000):
  Lh (.func (.func 69) ⟨[]⟩ ⟨[.pointer (some ⟨b,0,none⟩)]⟩) (DD tb) (λH=>aU H ⟨b,0,none⟩ (fI m)/\bk fp H m.2.2.2.1.1 m.2.2.2.1.2.1 m.2.2.2.1.2.2 tb):=λid a n c xs H K ⟨ah,bf⟩ aa Fy hk=>by
 refine⟨69,⟨[]⟩,_,rfl,by kernel_rfl,?_⟩
 apply ahK
 have sv:=bf.len
 refine⟨_,_,_,ah.ld (j:=3) (by kernel_rfl) rfl,?_⟩
 exact Cv.aeU bf (by omega) aa Fy λaK aQ aT H' an uF af=>⟨_,_,_,rfl,hk aK aQ aT H' an af⟩
theorem ahL:
  Lh (.func (.func 71) ⟨[]⟩ ⟨[.pointer (some ⟨b,0,none⟩)]⟩) (gO t) (λH=>aU H ⟨b,0,none⟩ [.pointer (some ⟨x,0,none⟩)]/\∃A,aU H ⟨x,0,none⟩ (mv A t)):=λid a n c xs H K ⟨ah,A,aa⟩ hs Fy hk=>by
 refine⟨71,⟨[]⟩,_,rfl,by kernel_rfl,?_⟩
 apply ahM
 refine⟨_,ah.b5 (by kernel_rfl) rfl,_,aa.ld (j:=12) (by kernel_rfl) rfl,?_⟩
 exact bb.afe hs (by omega) λaK aQ aT H' an af=>⟨_,_,_,rfl,hk aK aQ aT H' an af⟩
noncomputable def fU(db:eA)(r:eK):eA:=
 if r.k=0 then {db with L:=q1 db.L r.l}else if r.k=1 then {db with ss:=gz db.ss r.rows}else if r.k=2 then {db with ss:=mw (DD r.fq) db.ss}
 else if r.k=3 then {db with past:=if r.at'>db.past then r.at' else db.past,ss:=mw (gO (if r.at'>db.past then r.at' else db.past)) db.ss}else db
def oz(m:g'):List Nat:=ax m.2.1.1++(ax m.2.2.1.1++ax m.2.2.2.1.1)
theorem ahN{di:Nat}{bJ:List Nat}{L:List bX}(h:cU.kZ H di bJ L):In H bJ:=by
 obtain⟨_,a,n,c,hs,gv,et,dW,dE,h1,_⟩:=h
 exact h1.iC
theorem lz{v:Value}(h:v.oneCell'=true):∀x∈v.cells.toList,x.oneCell'=true:=by
 cases v<;>first|(intro x aa;simp [atq]at aa;subst aa;exact h)|(simp [avm]at h)
theorem ahO{B:Nat}{A:fK}{db:eA}{m:g'}{r:eK}{K:J->Prop}(h:iN H B x A db)(aA:lK H m r)(ah:xr N A db)(e1:N<=50000)(cQ:r.rows.length+r.fq.length<=M)(Se:M<=50000)(aH:r.l.length<=1000000)(hs:∀k∈oz m,k∉kx x A)
  (hk:∀H' eM,iN H' B x eM (fU db r)->xr (N+M) eM (fU db r)->Fr (kx x A) H H'->Grow H (kx x A) (kx x eM)->eM.s=A.s->eM.M=A.M->eM.m=A.m->K H'):
  aY atf ahP ⟨[.pointer (some ⟨x,0,none⟩),.agg ⟨fI m⟩]⟩ H λv H'=>v=.tuple ⟨[]⟩/\K H':=by
 apply ahQ
 intro b H1 aB b1 ao bH
 have bc:=aB.eq
 have bN:=bH.eq
 have hR:=aB.size
 have z2:=bH.size
 have f2:=aB.ag.aw bH.ag
 have cI:aU ao ⟨b,0,none⟩ [.pointer (some ⟨x,0,none⟩)]:=aB.bo.ab bH.ag
 have b8:aU ao ⟨b1,0,none⟩ (fI m):=bH.bo
 have ae:=h.ab f2
 have gR:=aA.ab f2
 have jr:=h.bo.lt
 simp only at jr
 have xj:x∈kx x A:=by simp [kx]
 have aq2:∀k∈kx x A,k<H.size:=λk hk=>by
  simp only [kx,o3,asU]at hk
  rcases hk with rfl|hk|hk
  ·exact jr
  ·exact h.sep.iC (i:=2) rfl k hk
  ·exact h.sep.iC (i:=3) rfl k hk
 have JS:=ah.ss
 have wG:=aA.k
 refine⟨_,b8.b5 (by kernel_rfl) rfl,?_⟩
 refine ai (λc0=> ?_) (λc0=>ai (λc1=> ?_) (λc1=>ai (λc2=> ?_) (λc2=>ai (λc3=> ?_) (λc3=>⟨rfl,?_⟩))))
 ·have sb:r.k=0:=by simp at c0;omega
  have jw:fU db r={db with L:=q1 db.L r.l}:=by unfold fU;rw [if_pos sb]
  refine⟨_,cI.b5 (by kernel_rfl) rfl,_,ae.bo.ld (j:=2) (by kernel_rfl) rfl,_,_,_,b8.ld (j:=1) (by kernel_rfl) rfl,?_⟩
  have oq:=aA.l.len
  refine cU.Xc ae.bz gR.l (by omega) (λ_ al e lp=>hs al.block (by simp [oz,e,ax]) (by simp [kx,lp])) λaF kh az af aZ=>⟨rfl,?_⟩
  have z3:=af.size
  refine hk aF {A with bJ:=kh} ?_ ?_ ?_ ?_ rfl rfl rfl
  ·rw [jw];exact ae.ahB az aZ (ahN az) af
  ·rw [jw];exact⟨by simp only;omega,λs hs=>by have:=ah.bL s hs;omega,by have:=ah.tb;simp only;omega⟩
  ·exact f2.trans' af (by simp) λk hk _=>by simp [kx,hk]
  ·intro k hk
   simp only [kx,o3,asU]at hk⊢
   rcases hk with hk|hk|hk
   ·exact .inl (.inl hk)
   ·rcases aZ k hk with q|q
    ·exact .inl (.inr (.inl q))
    ·exact .inr (by omega)
   ·exact .inl (.inr (.inr hk))
 ·have sb:r.k≠0:=by simp at c0;omega
  have fe:r.k=1:=by simp at c1;omega
  have jw:fU db r={db with ss:=gz db.ss r.rows}:=by unfold fU;rw [if_neg sb,if_pos fe]
  have ry:=aA.rows.len
  have pA:=h.aO.len.trans h.lS.len
  refine⟨_,cI.b5 (by kernel_rfl) rfl,_,cI.b5 (by kernel_rfl) rfl,_,_,_,ae.bo.ld (j:=10) (by kernel_rfl) rfl,_,_,_,b8.ld (j:=2) (by kernel_rfl) rfl,?_⟩
  refine bb.Au ae.aO ae.lS ae.rs gR.rows (by omega) (by omega) (λs hs=>by have:=ah.bL s hs;omega) λaK aQ aT aF hs' an hse lJ f3=>⟨cI.ab f3|>.b5 (by kernel_rfl) rfl,?_⟩
  have z3:=f3.size
  have au:=ae.ab f3
  obtain⟨fD,jh⟩:=bb.KM (rows:=r.rows) (ss:=db.ss) ah.bL
  refine au.bo.st (j:=10) (v:=.slice aK aQ aT) (by kernel_rfl) (by kernel_rfl) (lz rfl) (by simp [atq,mv]) λaN dY f4=>⟨rfl,?_⟩
  have wT:=(bb.Dl (rows:=r.rows) h.rs).1
  have Lj:∀q∈vy hs',q<aF.size:=λq a1=>by
   obtain⟨m',iE,pK⟩:=as1.1 a1
   obtain⟨s,e6,hG⟩:=bb.cZ.mem hse iE
   exact bb.As hG.2 (wT.2 s e6).1 q pK
  have sp:=ae.sep.set (i:=4) (F':=ax aK++vy hs') (H':=aF) rfl (λq a1=>by
   rcases asU.1 a1 with a1|a1
   ·exact .inr (an.ge q a1).1
   ·obtain⟨m',iE,pK⟩:=as1.1 a1;exact .inr (lJ m' iE q pK)) ae.base z3 (λq a1=>by
   rcases asU.1 a1 with a1|a1
   ·exact(an.ge q a1).2
   ·exact Lj q a1)
  refine hk aN {A with bQ:=(aK,aQ,aT),hs:=hs'} ?_ ?_ ?_ ?_ rfl rfl rfl
  ·rw [jw];exact au.Lf (ha':=(aK,aQ,aT)) (ta':=A.mu) (by simpa [atq,mv]using dY) f4 an.bL hse wT au.tb sp
  ·rw [jw];exact⟨by simp only;omega,λs hs=>by have:=jh s hs;omega,by have:=ah.tb;simp only;omega⟩
  ·exact(f2.aw f3).trans' f4 (by simp) λk hk _=>by simp at hk;subst hk;exact xj
  ·exact λk hk=>.inl hk
 ·have sb:r.k≠0:=by simp at c0;omega
  have fe:r.k≠1:=by simp at c1;omega
  have gq:r.k=2:=by simp at c2;omega
  have jw:fU db r={db with ss:=mw (DD r.fq) db.ss}:=by unfold fU;rw [if_neg sb,if_neg fe,if_pos gq]
  have sv:=aA.fq.len
  have pA:=h.tb.1
  have z6:=ah.tb
  refine⟨_,cI.b5 (by kernel_rfl) rfl,_,cI.b5 (by kernel_rfl) rfl,_,_,_,ae.bo.ld (j:=11) (by kernel_rfl) rfl,_,_,_,b8.ld (j:=3) (by kernel_rfl) rfl,?_⟩
  refine iD (t:=180) (E:=fp) (bytes:=24) (by kernel_rfl) (by kernel_rfl) ae.tb gR.fq (apG _) (by omega) λaK aQ aT aF an af aZ=> ?_
  have z3:=af.size
  have DE:b∉ax A.mu.1:=λaq=>by have:=h.sep.iC (i:=3) rfl b aq;omega
  have ahR:b1∉ax A.mu.1:=λaq=>by have:=h.sep.iC (i:=3) rfl b1 aq;omega
  have sl:=cI.ag af DE
  have od:=b8.ag af ahR
  have fw:=an.1
  simp only [VH]at fw
  refine⟨sl.b5 (by kernel_rfl) rfl,?_⟩
  refine Cv.Qy (xs:=A.tb++r.fq) an.bL (by omega) λlI mb mc aN ys AG _ aeB f4=>⟨(sl.ab f4).b5 (by kernel_rfl) rfl,?_⟩
  have z4:=f4.size
  have qA:=AG.1
  have no:∀{j:Nat} {G:List Nat},j≠3->(xq x A)[j]?=some G->∀k∈G,k∉ax A.mu.1:=λ{j G} a' b4 k hk=>h.sep.ne a' b4 (show(xq x A)[3]?=some _ from rfl) hk
  have o9:=(ae.bo.ag af (no (j:=0) (by decide) rfl x (by simp))).ab f4
  refine o9.st (j:=11) (v:=.slice lI mb mc) (by kernel_rfl) (by kernel_rfl) (lz rfl) (by simp [atq,mv]) λbw dI f5=> ?_
  have z5:=f5.size
  have sp:=ae.sep.set (i:=3) (F':=ax lI) (H':=aN) rfl (λq a1=>.inr (by have:=(AG.ge q a1).1;omega)) ae.base (by omega) (λq a1=>(AG.ge q a1).2)
  have AH:=no (j:=1) (by decide) rfl
  have GZ:=no (j:=4) (by decide) rfl
  have Sf:=no (j:=5) (by decide) rfl
  have G0:∀{j:Nat} {G:List Nat},j≠0->(xq x A)[j]?=some G->∀k∈G,k∉[x]:=λ{j G} a' b4 k hk=>h.sep.ne a' b4 (j:=0) rfl hk
  have vh:=G0 (j:=1) (by decide) rfl
  have vi:=G0 (j:=2) (by decide) rfl
  have Sg:=G0 (j:=4) (by decide) rfl
  have Lk:=G0 (j:=5) (by decide) rfl
  have bu:iN bw B x {A with mu:=(lI,mb,mc),tb:=ys} db:=
   ⟨by simpa [atq,mv]using dI,
    ((ae.bL.ag af (λk hk=>AH k (by simp at hk⊢;rcases hk with q|q|q<;>simp [q])) (λk hk=>AH k (by simp [hk]))).ab f4).ag f5 (λk hk=>vh k (by simp at hk⊢;rcases hk with q|q|q<;>simp [q])) (λk hk=>vh k (by simp [hk])),
    ((ae.bz.ag af (no (j:=2) (by decide) rfl)).ab f4).ag f5 vi,
    ((ae.aO.ag af (eG λk hk=>GZ k (by simp [hk]))).ab f4).ag f5 (eG λk hk=>Sg k (by simp [hk])),
    e9.ag ((e9.ag ae.lS af λk hk=>GZ k (by simp [hk])).ab f4) f5 λk hk=>Sg k (by simp [hk]),
    ae.rs,Own.ag (AG.base (apG _)) f5 (eG λk hk aq=>by simp at aq;have:=(AG.ge k hk).1;omega),
    ((ae.pf.ag af (Sf _ (by simp))).ab f4).ag f5 (Lk _ (by simp)),f5.get (f4.nw (af.get ae.pm (Sf _ (by simp)))) (Lk _ (by simp)),sp.le z5,by have:=ae.base;omega⟩
  have ub:b∉[x]:=by simp;omega
  have ahS:b1∉[x]:=by simp;omega
  refine⟨_,((sl.ab f4).ag f5 ub).b5 (by kernel_rfl) rfl,?_⟩
  have ahT:bk fp bw m.2.2.2.1.1 m.2.2.2.1.2.1 m.2.2.2.1.2.2 r.fq:=
   ((gR.fq.ag af (eG λk hk aq=>hs k (by simp [oz,hk]) (by simp [kx,aq]))).ab f4).ag f5 (eG λk hk aq=>hs k (by simp [oz,hk]) (by simp at aq;subst aq;exact xj))
  refine Sa bu (ahJ (by omega)) (λH' dZ=>⟨((od.ab f4).ag f5 ahS).ab dZ,ahT.ab dZ⟩) (by omega) (λs hs=>by have:=ah.bL s hs;omega) λbY ha' hs' ca f6=>⟨rfl,?_⟩
  have DF:=Lg (p:=DD r.fq) (ss:=db.ss)
  have Ll:=R' (p:=DD r.fq) (ss:=db.ss) ah.bL
  refine hk bY {A with mu:=(lI,mb,mc),tb:=ys,bQ:=ha',hs:=hs'} ?_ ?_ ?_ ?_ rfl rfl rfl
  ·rw [jw];exact ca
  ·rw [jw];exact⟨by simp only;omega,λs hs=>by have:=Ll s hs;omega,by simp only;omega⟩
  ·have g1:Fr (kx x A) H aN:=(f2.trans' af (T:=kx x A) (by simp) λk hk _=>by simp [kx,hk]).trans' f4 (λk hk _=>hk) (by simp)
   exact(g1.trans' f5 (λk hk _=>hk) λk hk _=>by simp at hk;subst hk;exact xj).trans' f6 (λk hk _=>hk) λk hk _=>by simp at hk;subst hk;exact xj
  ·intro k hk
   simp only [kx,o3,asU]at hk⊢
   rcases hk with hk|hk|hk
   ·exact .inl (.inl hk)
   ·exact .inl (.inr (.inl hk))
   ·exact .inr (by have:=(AG.ge k hk).1;omega)
 ·have sb:r.k≠0:=by simp at c0;omega
  have fe:r.k≠1:=by simp at c1;omega
  have gq:r.k≠2:=by simp at c2;omega
  have iG:r.k=3:=by simp at c3;omega
  have jw:fU db r={db with past:=if r.at'>db.past then r.at' else db.past,ss:=mw (gO (if r.at'>db.past then r.at' else db.past)) db.ss}:=by unfold fU;rw [if_neg sb,if_neg fe,if_neg gq,if_pos iG]
  refine⟨_,cI.b5 (by kernel_rfl) rfl,_,cI.b5 (by kernel_rfl) rfl,_,ae.bo.ld (j:=12) (by kernel_rfl) rfl,_,b8.ld (j:=4) (by kernel_rfl) rfl,?_⟩
  rw [aA.at']
  refine ae.bo.st (j:=12) (v:=.int .i64 (if r.at'>db.past then r.at' else db.past)) (by kernel_rfl) (by kernel_rfl) (lz rfl) (by simp [atq,mv]) λaF dQ f3=> ?_
  have z3:=f3.size
  have au:=ae.Lf (ha':=A.bQ) (ta':=A.mu) (hs':=A.hs) (tb':=A.tb) (ss':=db.ss) (past':=if r.at'>db.past then r.at' else db.past) (by simpa [atq,mv]using dQ) f3 ae.aO ae.lS ae.rs ae.tb ae.sep
  have ub:b∉[x]:=by simp;omega
  refine⟨_,(cI.ag f3 ub).b5 (by kernel_rfl) rfl,?_⟩
  refine Sa au ahL (λH' dZ=>⟨(cI.ag f3 ub).ab dZ,_,au.bo.ab dZ⟩) (by simp only;omega) (λs hs=>by have:=ah.bL s hs;omega) λbY ha' hs' ca f6=>⟨rfl,?_⟩
  have DF:=Lg (p:=gO (if r.at'>db.past then r.at' else db.past)) (ss:=db.ss)
  have Ll:=R' (p:=gO (if r.at'>db.past then r.at' else db.past)) (ss:=db.ss) ah.bL
  refine hk bY {A with bQ:=ha',hs:=hs'} (by rw [jw];exact ca) ?_ ?_ (λk hk=>.inl hk) rfl rfl rfl
  ·rw [jw];exact⟨by have:=DF;simp only at this⊢;omega,λs hs=>by have:=Ll s hs;omega,by have:=ah.tb;simp only;omega⟩
  ·exact(f2.trans' f3 (by simp) λk hk _=>by simp at hk;subst hk;exact xj).trans' f6 (λk hk _=>hk) λk hk _=>by simp at hk;subst hk;exact xj
 ·have jw:fU db r=db:=by
   unfold fU
   rw [if_neg (by simp at c0;omega),if_neg (by simp at c1;omega),if_neg (by simp at c2;omega),if_neg (by simp at c3;omega)]
  rw [jw]at hk
  exact hk ao A ae ⟨by omega,λs hs=>by have:=ah.bL s hs;omega,by have:=ah.tb;omega⟩ (f2.mono (by simp)) (λk hk=>.inl hk) rfl rfl rfl
open bb (cw gz)
structure G1(st:bg.f')(b:Nat):Prop where
 last:st.last=λ_=>none
 dir:st.dir=[]
 now:∀y d,st.now y=some d->y=cY/\d.size<=b
theorem lK.ag{m:g'}{r:eK}{S:List Nat}(h:lK H m r)(af:Fr S H H')(ay:∀k∈oz m,k∉S):lK H' m r:=
 ⟨h.k,h.l.ag af (eG λk hk=>ay k (by simp [oz,hk])),h.rows.ag af (eG λk hk=>ay k (by simp [oz,hk])),h.fq.ag af (eG λk hk=>ay k (by simp [oz,hk])),h.at'⟩
theorem qE.ag{ms:List g'}{rs:List eK}{S:List Nat}(h:qE H ms rs)(af:Fr S H H')(ay:∀m∈ms,∀k∈oz m,k∉S):qE H' ms rs:=
 ⟨h.1,λi m r hm aA=>lK.ag (h.2 i m r hm aA) af (ay m (att hm))⟩
theorem ahU:bg.mf cY:=by
 unfold bg.mf cY
 decide
noncomputable def j7(db:eA)(rs:List eK):bg.f':={db.st with now:=bg.oY db.st.now cY ((db.st.now cY).getD ⟨#[]⟩++lj (lL rs))}
noncomputable def mY(size:Int)(db:eA)(rs:List eK):Int:=if mi rs≠0 then mi rs else(bg.writeS size db.st cY ((db.st.now cY).getD ⟨#[]⟩++lj (lL rs))).2
theorem ahV(size:Int)(st:bg.f')(dat:ByteArray):((bg.writeS size st cY dat).2=0/\(bg.writeS size st cY dat).1={st with now:=bg.oY st.now cY dat})\/((bg.writeS size st cY dat).2≠0/\(bg.writeS size st cY dat).1=st):=by
 unfold bg.writeS
 rw [if_pos ahU]
 unfold bg.changeM
 split
 ·exact .inl ⟨rfl,rfl⟩
 ·exact .inr ⟨by simp,rfl⟩
def nK(x:Nat)(A:fK):List Nat:=A.s.block::kx x A
theorem ahW{B:Nat}{A:fK}{db:eA}{ms:List g'}{rs:List eK}{K:Int->J->Prop}(h:iN H B x A db)(JU:k8 H)(ah:xr N A db)(eg:G1 db.st b)
  (aa:bk pT H a n c ms) (aA:qE H ms rs) (dc:∀r∈rs,rv r) (lk:∀m∈ms,Small m) (ay:n<=100) (hw:j1 rs<=10000) (e1:N+j1 rs<=40000) (b8:b<=20000000) (cQ:A.M<=90) (oq:∀r∈rs,r.l.length<=1000000)
  (e6:∀k∈ax a,k∉nK x A) (gZ:∀m∈ms,∀k∈oz m,k<H.size/\k∉nK x A)
  (cz:∀H' eM,mY A.m.size db rs≠0->iN H' B x eM db->xr N eM db->eM.M<=A.M+1->eM.m=A.m->Fr (nK x A) H H'->K (mY A.m.size db rs) H')
  (ff:∀H' eM,mY A.m.size db rs=0->iN H' B x eM (rs.foldl fU {db with st:=j7 db rs})->xr (N+j1 rs) eM (rs.foldl fU {db with st:=j7 db rs})->G1 (j7 db rs) (b+400000)->eM.M<=A.M+1->eM.m=A.m->Fr (nK x A) H H'->K 0 H'):
  aY atf Sh ⟨[.pointer (some ⟨x,0,none⟩),.slice a n c]⟩ H λv H'=>∃e,v=.int .i64 e/\K e H':=by
 apply ahX
 have jr:=aa.len
 have ry:=aA.1
 refine⟨_,h.bo.ld (j:=1) (by kernel_rfl) rfl,?_⟩
 refine aY.mono (ab2 (st:=A.s) (K:=λe H1=>Fr [A.s.block] H H1/\e=mY A.m.size db rs/\∃fA iv,(fA=A.cK\/H.size<=fA)/\fA<H1.size/\iv<=A.M+1/\bg.hN H1 A.s A.d fA A.cy none 0 0 [] A.Sd (if e=0 then j7 db rs else db.st) A.m A.N iv/\(e=0->∀r∈rs,pS r)) aa aA dc lk JU (by omega) (by omega) (λhe H1 f1=> ?_) λhe aZ H1 f1=> ?_) λv H1=> ?_
 ·have bc:mY A.m.size db rs=mi rs:=by unfold mY;rw [if_pos he]
  rw [bc]
  refine⟨f1.mono (by simp),rfl,A.cK,A.M,.inl rfl,(h.bL.ab f1).now.lt,by omega,?_,λh=>absurd h he⟩
  rw [if_neg he];exact h.bL.ab f1
 ·have bc:mY A.m.size db rs=(bg.writeS A.m.size db.st cY ((db.st.now cY).getD ⟨#[]⟩++lj (lL rs))).2:=by unfold mY;rw [if_neg (by simp [he])]
  have JV:=Gf aZ λr aA=>by have:=CI aA;omega
  have hold:((db.st.now cY).getD ⟨#[]⟩).size<=b:=by
   cases e:db.st.now cY with
   |none=>exact apG _
   |some d=>exact(eg.now _ _ e).2
  have ql:=CH (lL rs)
  refine bg.abp (h.bL.ab f1) (by omega) (by decide) (by omega) (λ_=>⟨by rw [eg.dir];simp,(λbP d xs aH=>by rw [eg.last]at aH;simp at aH),(λy d aO=> ?_)⟩) λfA ao a1 eo af=> ?_
  ·unfold bg.oY at aO
   split at aO
   ·rename_i Lm;subst Lm;cases aO
    refine⟨by decide,?_⟩
    rw [avN];omega
   ·obtain⟨rfl,q⟩:=eg.now _ _ aO
    exact⟨by decide,by omega⟩
  ·rw [bc]
   refine⟨f1.trans' af (by simp) λk hk _=>hk,rfl,fA,A.M+1,a1.imp id λq=>by have:=f1.size;omega,eo.now.lt,nQ _,?_,λ_=>aZ⟩
   rcases ahV A.m.size db.st ((db.st.now cY).getD ⟨#[]⟩++lj (lL rs))with⟨dN,dm⟩|⟨dN,dm⟩
   ·rw [if_pos dN,<-show _=j7 db rs from dm];exact eo
   ·rw [if_neg dN,<-dm];exact eo
 rintro⟨e,rfl,f1,he,fA,iv,sI,ahY,vr,eo,yR⟩
 refine⟨e,rfl,?_⟩
 have h1:=h.ahA eo sI ahY f1
 have G2:∀k∈[A.s.block],k∈nK x A:=by simp [nK]
 refine ai (λaD=>⟨_,rfl,?_⟩) (λaD=> ?_)
 ·have bT:e≠0:=by simpa using aD
  rw [if_neg bT]at h1
  rw [he]
  exact cz H1 _ (by rw [<-he];exact bT) h1 ⟨ah.ss,ah.bL,ah.tb⟩ vr rfl (f1.mono G2)
 ·have bT:e=0:=by simpa using aD
  rw [if_pos bT]at h1
  have aZ:=yR bT
  have JV:=Gf aZ λr aA=>by have:=CI aA;omega
  have ahZ:G1 (j7 db rs) (b+400000):=⟨eg.last,eg.dir,λy d aO=>by
   have hold:((db.st.now cY).getD ⟨#[]⟩).size<=b:=by
    cases e:db.st.now cY with
    |none=>exact apG _
    |some d=>exact(eg.now _ _ e).2
   unfold j7 bg.oY at aO
   simp only at aO
   split at aO
   ·rename_i Lm;cases aO
    have ql:=CH (lL rs)
    exact⟨Lm,by rw [avN];omega⟩
   ·obtain⟨dN,q⟩:=eg.now _ _ aO
    exact⟨dN,by omega⟩⟩
  have en:=qE.ag aA f1 λm hm k hk aq=>(gZ m hm k hk).2 (G2 k aq)
  have bO:=aa.ag f1 (eG λk hk aq=>e6 k hk (G2 k aq))
  have hR:=f1.size
  refine⟨λvs ao=>match vs with|[.int _ i]=>∃(k:Nat) (eM:fK),i=k/\k<=n/\iN ao B x eM ((rs.take k).foldl fU {db with st:=j7 db rs})/\xr (N+j1 (rs.take k)) eM ((rs.take k).foldl fU {db with st:=j7 db rs})/\Fr (kx x A) H1 ao/\Grow H1 (kx x A) (kx x eM)/\eM.s=A.s/\eM.M=iv/\eM.m=A.m|_=>False,
   λvs _=>match vs with|[.int _ i]=>n-i.toNat|_=>0,⟨0,{A with cK:=fA,M:=iv},rfl,by omega,h1,⟨VF ah.ss (by simp),λs hs=>VF (ah.bL s hs) (by simp),VF ah.tb (by simp)⟩,Fr.refl _ _,Grow.refl _ _,rfl,rfl,rfl⟩,?_⟩
  rintro bm i ao ⟨k,eM,rfl,du,ae,od,f2,g2,ah0,Se,pK⟩
  have ab6:=JT rs k
  refine ai (λc0=> ?_) (λc0=>⟨_,rfl,?_⟩)
  ·have gB:k<n:=by simpa using c0
   obtain⟨m,hm⟩:=eR (l:=ms) (i:=k) (by omega)
   obtain⟨r,w0,hh⟩:=en.at hm
   have nJ:=att hm
   have Si:=att w0
   have ww:∀k∈kx x A,k∈nK x A:=λk hk=>by simp [nK,hk]
   refine(bO.ag f2 (eG λq a1 aq=>e6 q a1 (ww q aq))).get rfl hm (decide_eq_true (by omega)) λal bS ak=>⟨_,_,_,_,_,_,_,_,_,_,_,P3 ak,λb1 aF bF=> ?_⟩
   have dP:=bF.eq
   have qt:=bF.size
   refine Gd (m:=m) (m':=m0 0) bF.bo λaN dY bU=>⟨_,_,_,_,_,_,_,_,_,_,_,dY.dX (by kernel_rfl) (by kernel_rfl) rfl,?_⟩
   have kJ:Fr [] ao aN:=bF.ag.ab bU λk hk=>by simp at hk;omega
   have z2:=f2.size
   have z24:=kJ.size
   have ah1:=(lK.ag hh f2 λq a1 aq=>(gZ m nJ q a1).2 (ww q aq)).ab kJ
   have sw:=CI Si
   have e8:rs.take (k+1)=rs.take k++[r]:=by rw [ats,w0];rfl
   have Ch:j1 (rs.take (k+1))=j1 (rs.take k)+(r.rows.length+r.fq.length):=by
    rw [e8];unfold j1;rw [as2,avO];simp [nE]
   have aq3:=JT rs (k+1)
   have ah2:∀q∈oz m,q∉kx x eM:=λq a1 aq=>by
    rcases g2 q aq with w|w
    ·exact(gZ m nJ q a1).2 (ww q w)
    ·have:=(gZ m nJ q a1).1;omega
   refine ahO (ae.ab kJ) ah1 od (by omega) (M:=r.rows.length+r.fq.length) (nQ _) (by omega) (oq r Si) ah2 λbw Sj bu dI f5 g5 tm hM5 la=> ?_
   have Sk:(rs.take (k+1)).foldl fU {db with st:=j7 db rs}=fU ((rs.take k).foldl fU {db with st:=j7 db rs}) r:=by rw [e8,avX];rfl
   rw [b6 (by omega)]
   refine⟨⟨k+1,Sj,rfl,by omega,by rw [Sk];exact bu,by rw [Sk];exact⟨VF dI.ss (by omega),λs hs=>VF (dI.bL s hs) (by omega),VF dI.tb (by omega)⟩,(f2.trans' kJ (λk hk _=>hk) (by simp)).trans' f5 (λk hk _=>hk) (λk hk cF=>(g2 k hk).elim id λw=>absurd w (by omega)),λq a1=> ?_,tm.trans ah0,hM5.trans Se,la.trans pK⟩,cJ gB⟩
   rcases g5 q a1 with w|w
   ·exact g2 q w
   ·exact .inr (by omega)
  ·have u7:k=n:=by simp at c0;omega
   have fC:rs.take k=rs:=asG (by omega)
   rw [fC]at ae od
   exact ff ao eM (by rw [<-he,bT]) ae od ahZ (by omega) pK (f1.trans' f2 (λk hk _=>G2 k hk) λk hk _=>by simp [nK,hk])
open bb (cZ)
abbrev rI:=dH×Int×Int
def oA:dd rI:=⟨λx=>[.slice x.1.1 x.1.2.1 x.1.2.2,.int .i64 x.2.1,.int .i64 x.2.2],3,λ_=>rfl,by decide,λ_ v h=>by simp at h;rcases h with rfl|rfl|rfl<;>rfl⟩
abbrev oB:=bX×Int×Int
def Ln(H:J)(m:rI)(p:oB):Prop:=bk gb H m.1.1 m.1.2.1 m.1.2.2 p.1/\m.2=p.2
def AI(H:J)(ms:List rI)(ps:List oB):Prop:=cZ (Ln H) ms ps
theorem AI.ab{ms:List rI}{ps:List oB}(h:AI H ms ps)(af:Fr [] H H'):AI H' ms ps:=cZ.mono h λm p _ _ aA=>⟨aA.1.ab af,aA.2⟩
abbrev G3(m:rI):Value:=.agg ⟨[.slice m.1.1 m.1.2.1 m.1.2.2,.int .i64 m.2.1,.int .i64 m.2.2]⟩
theorem Sl{m:rI}(h:eP H al (oA.cells m)):cR atf 46 H al (G3 m):=r' (by kernel_rfl) (by kernel_rfl) h
theorem Sm{m:rI}{zs:List Value}{X:J->Prop}{H1:J}(ay:ds H b (.cells ⟨zs⟩ 46) H1)(aC:zs.length=3)(k:∀H',aU H' ⟨b,0,none⟩ (oA.cells m)->Fr [] H H'->X H'):∃H',fb atf 46 H1 ⟨b,0,none⟩ (G3 m) H'/\X H':=by
 refine ay.bo.jq (v:=G3 m) (by kernel_rfl) (by kernel_rfl) (λx aa=>by simp [atq]at aa;rcases aa with rfl|rfl|rfl<;>rfl) (by simp [atq,aC]) λH' ah af=>k H' ?_ (ay.ag.ab af λk hk=>by simp at hk;have:=ay.eq;omega)
 have e:zs.drop 3=[]:=avr (by omega)
 simpa [atq,oA,e]using ah
def DG(past:Int)(p:oB):Prop:=fE p.1/\0<=p.2.1/\p.2.1<1099511627776/\past<=p.2.1
theorem ah3{dx:Operand}:hD atf (gm .neq 118 dx (.const .nilIface) .nilIface .nilIface) (.bool false):=
 wb (r:=true) (by simp [eqGuard]) rfl λd w=>by simp [Op.equalIn,eE av8]
theorem ah4{dx:Operand}{t:TypeId}{v:Value}:hD atf (gm .neq 118 dx (.const .nilIface) (.iface t v) .nilIface) (.bool true):=
 wb (r:=false) (by simp [eqGuard]) rfl λd w=>by simp [Op.equalIn,eE av8]
def Sn(H:J)(v:Value)(e:Int):Prop:=(v=.iface 121 (.agg ⟨[.int .i64 e]⟩))\/(v=.iface 206 (.agg ⟨[]⟩)/\e=1)\/(v=.iface 207 (.agg ⟨[]⟩)/\e=211)
theorem ah5{A:fK}{past:Int}{m:rI}{p:oB}{K:Value->J->Prop}(h:aU H ⟨x,0,none⟩ (mv A past))(bh:Ln H m p)(aH:m.1.2.1<=1000000)
  (ff:DG past p->∀H',Fr [] H H'->K .nilIface H') (cz:¬DG past p->∀v e H',Sn H' v e->e≠0->dp e->Fr [] H H'->K v H'):
  aY atf ah6 ⟨[.pointer (some ⟨x,0,none⟩),G3 m]⟩ H λv H'=>∃u,v=u/\K u H':=by
 apply ah7
 intro b H1 aB
 have cI:aU H1 ⟨b,0,none⟩ (oA.cells m):=aB.bo
 refine⟨_,_,_,cI.b5 (by kernel_rfl) rfl,?_⟩
 refine Iq (bh.1.ab aB.ag) (by omega) λao f2=> ?_
 have fW:=aB.ag.aw f2
 have b8:=cI.ab f2
 have zR:=h.ab fW
 obtain⟨k0,th⟩:=bh
 refine ai (λc=>⟨_,rfl,?_⟩) (λc=> ?_)
 ·have ak:¬fE p.1:=λaq=>by simp [Ag,aq]at c
  exact cz (λaq=>ak aq.1) _ _ ao (.inl rfl) (by simpa using c) (by rw [zu ak];exact⟨by decide,by decide⟩) fW
 ·have ak:fE p.1:=Classical.byContradiction λaq=>by simp [Ag,aq]at c
  refine⟨λvs H'=>H'=ao/\vs=[.bool (decide (p.2.1<0)||decide (p.2.1>=1099511627776))],⟨_,b8.ld (j:=1) (by kernel_rfl) rfl,ai (λc1=> ?_) (λc1=>⟨_,b8.ld (j:=1) (by kernel_rfl) rfl,?_⟩)⟩,?_⟩
  ·rw [th]at c1;exact⟨rfl,by rw [c1];rfl⟩
  ·rw [th]at c1⊢;exact⟨rfl,by rw [c1];rfl⟩
  ·rintro bm fj H' ⟨rfl,hq⟩
   cases hq
   refine ai (λc1=>⟨_,rfl,?_⟩) (λc1=>⟨_,b8.ld (j:=1) (by kernel_rfl) rfl,_,zR.ld (j:=12) (by kernel_rfl) rfl,ai (λc2=>⟨_,rfl,?_⟩) (λc2=>⟨_,rfl,?_⟩)⟩)
   ·simp at c1
    exact cz (λaq=>by have:=aq.2.1;have:=aq.2.2.1;omega) _ _ H' (.inr (.inl ⟨rfl,rfl⟩)) (by decide) ⟨by decide,by decide⟩ fW
   ·rw [th]at c2
    simp at c2
    exact cz (λaq=>by have:=aq.2.2.2;omega) _ _ H' (.inr (.inr ⟨rfl,rfl⟩)) (by decide) ⟨by decide,by decide⟩ fW
   ·rw [th]at c2
    simp at c1 c2
    exact ff ⟨ak,by omega,by omega,by omega⟩ H' fW
open bb (cw gz iM)
def jx(ss:List cw):Prop:=∀s∈ss,(0<=s.1/\s.1<200)/\∀y∈s.2,dp y.1/\dp y.2
def xu(x:Row):Prop:=dp x.1/\(0<=x.2.1/\x.2.1<200)/\dp x.2.2
theorem jx.iM{x:Row}(aa:xu x):∀{ss:List cw},jx ss->jx (bb.iM ss x)
 |[],_=>λs hs=>by
  simp [bb.iM]at hs;subst hs
  exact⟨aa.2.1,λy av=>by simp at av;subst av;exact⟨aa.1,aa.2.2⟩⟩
 |s::ss,h=>by
  unfold bb.iM
  split
  ·intro z aC
   rcases o3.1 aC with rfl|aC
   ·exact⟨aa.2.1,λy av=>by simp at av;subst av;exact⟨aa.1,aa.2.2⟩⟩
   ·exact h z aC
  ·split
   ·intro z aC
    rcases o3.1 aC with rfl|aC
    ·refine⟨(h s (by simp)).1,λy av=> ?_⟩
     rcases yP _ _ av with q|q
     ·exact(h s (by simp)).2 y q
     ·simp at q;subst q;exact⟨aa.1,aa.2.2⟩
    ·exact h z (by simp [aC])
   ·intro z aC
    rcases o3.1 aC with rfl|aC
    ·exact h z (by simp)
    ·exact jx.iM aa (ss:=ss) (λw hw=>h w (by simp [hw])) z aC
theorem jx.put:∀{rows:List Row} {ss:List cw},jx ss->(∀x∈rows,xu x)->jx (gz ss rows)
 |[],_,h,_=>h
 |x::rows,ss,h,aA=>jx.put (rows:=rows) (ss:=bb.iM ss x) (h.iM (aA x (by simp))) λy av=>aA y (by simp [av])
theorem jx.trim{p:Int->bC->Bool}{ss:List cw}(h:jx ss):jx (mw p ss):=λs hs=>by
 unfold mw at hs
 obtain⟨hs,_⟩:=VD.1 hs
 obtain⟨z,aC,rfl⟩:=ad6.1 hs
 exact⟨(h z aC).1,λy av=>(h z aC).2 y (VD.1 av).1⟩
theorem aic{r:eK}(h:pS r):∀x∈r.rows,xu x:=λx aa=>by
 have h1:=h.u6.row x aa
 have ae:=h.typ x aa
 unfold Cx at h1
 exact⟨⟨by omega,by omega⟩,⟨by omega,by omega⟩,ae⟩
theorem jx.aid{db:eA}{r:eK}(h:jx db.ss)(aA:pS r):jx (fU db r).ss:=by
 unfold fU
 split
 ·exact h
 ·split
  ·exact h.put (aic aA)
  ·split
   ·exact h.trim
   ·split
    ·exact h.trim
    ·exact h
theorem jx.Su:∀{rs:List eK} {db:eA},jx db.ss->(∀r∈rs,pS r)->jx (rs.foldl fU db).ss
 |[],_,h,_=>h
 |r::rs,db,h,aA=>jx.Su (rs:=rs) (h.aid (aA r (by simp))) λx aa=>aA x (by simp [aa])
theorem aie(db:eA)(r:eK):db.L.length<=(fU db r).L.length:=by
 unfold fU
 split
 ·show _<=(q1 db.L r.l).length
  unfold q1;split
  ·simp
  ·exact nQ _
 ·split
  ·exact nQ _
  ·split
   ·exact nQ _
   ·split<;>exact nQ _
theorem Sv:∀(rs:List eK) (db:eA),db.L.length<=(rs.foldl fU db).L.length
 |[],_=>nQ _
 |r::rs,db=>VF (aie db r) (Sv rs _)
def gg(ss:List cw):Nat:=(ss.map λs=>s.2.length).sum
theorem Sw(x:Row):∀ss:List cw,gg (bb.iM ss x)<=gg ss+1
 |[]=>by simp [bb.iM,gg]
 |s::ss=>by
  unfold bb.iM
  split
  ·simp [gg];omega
  ·split
   ·have:=De s.2 [(x.1,x.2.2)]
    simp only [gg,qO,auQ,asE,atc]at this⊢
    omega
   ·have:=Sw x ss
    simp only [gg,qO,auQ]at this⊢
    omega
theorem Lq:∀(rows:List Row) (ss:List cw),gg (gz ss rows)<=gg ss+rows.length
 |[],ss=>nQ _
 |x::rows,ss=>by
  have h1:=Sw x ss
  have ae:=Lq rows (bb.iM ss x)
  have e:gz ss (x::rows)=gz (bb.iM ss x) rows:=rfl
  rw [e,asE];omega
theorem Lr(p:Int->bC->Bool):∀ss:List cw,gg (mw p ss)<=gg ss
 |[]=>nQ _
 |s::ss=>by
  have h:=Lr p ss
  have ae:=avd (p s.1) s.2
  unfold mw gg at h⊢
  rw [qO,MX]
  split
  ·simp only [qO,auQ];omega
  ·simp only [qO,auQ];omega
theorem aif(db:eA)(r:eK):gg (fU db r).ss<=gg db.ss+nE r:=by
 unfold fU nE
 split
 ·exact au3 _ _
 ·split
  ·have:=Lq r.rows db.ss;simp only;omega
  ·split
   ·exact VF (Lr _ _) (au3 _ _)
   ·split
    ·exact VF (Lr _ _) (au3 _ _)
    ·exact au3 _ _
theorem Sx:∀(rs:List eK) (db:eA),gg (rs.foldl fU db).ss<=gg db.ss+j1 rs
 |[],_=>au3 _ _
 |r::rs,db=>by
  have h1:=aif db r
  have ae:=Sx rs (fU db r)
  have e:j1 (r::rs)=nE r+j1 rs:=by unfold j1;simp
  rw [asn,e];omega
def gL(B:Nat)(H H':J):Prop:=∃S,(∀k∈S,B<=k)/\Fr S H H'
theorem gL.trans{B:Nat}{cG:J}(h:gL B H H')(h':gL B H' cG):gL B H cG:=by
 obtain⟨S,h1,ae⟩:=h
 obtain⟨T,au,a6⟩:=h'
 exact⟨S++T,λk hk=>(asU.1 hk).elim (h1 k) (au k),ae.trans a6⟩
theorem gL.of{B:Nat}(h:Fr [] H H'):gL B H H':=⟨[],by simp,h⟩
theorem iN.wr{B:Nat}{A:fK}{db:eA}(h:iN H B x A db):∀k∈nK x A,B<=k/\k<H.size:=λk hk=>by
 simp only [nK,kx,o3,asU]at hk
 rcases hk with rfl|rfl|hk|hk
 ·exact h.sep.2 _ (att (i:=1) rfl) _ (by simp)
 ·exact h.sep.2 _ (att (i:=0) rfl) _ (by simp)
 ·exact h.sep.2 _ (att (i:=2) rfl) _ hk
 ·exact h.sep.2 _ (att (i:=3) rfl) _ hk
structure h2(H:J)(B x N b M:Nat)(m:bg.ei)(A:fK)(db:eA):Prop where
 p:iN H B x A db
 q:xr N A db
 w:G1 db.st b
 g:jx db.ss/\gg db.ss<=N
 M:A.M<=M
 m:A.m=m
 t:k8 H
theorem h2.ab{B:Nat}{m:bg.ei}{A:fK}{db:eA}(h:h2 H B x N b M m A db)(af:Fr [] H H'):h2 H' B x N b M m A db:=⟨h.p.ab af,h.q,h.w,h.g,h.M,h.m,h.t.ab af⟩
theorem aih(db:eA)(r:eK):(fU db r).st=db.st:=by
 unfold fU
 split<;>first|rfl|(split<;>first|rfl|(split<;>first|rfl|(split<;>rfl)))
theorem Sy:∀(rs:List eK) (db:eA),(rs.foldl fU db).st=db.st
 |[],_=>rfl
 |r::rs,db=>(Sy rs _).trans (aih db r)
theorem k8.ag{S:List Nat}(h:k8 H)(af:Fr S H H')(ay:∀k∈S,k≠0):k8 H':=λk hk=>af.cell (h k hk) (λaq=>ay _ aq rfl)
theorem h2.mono{B Cf fO iv:Nat}{m:bg.ei}{A:fK}{db:eA}(h:h2 H B x N b M m A db)(h1:N<=Cf)(ae:b<=fO)(au:M<=iv):h2 H B x Cf fO iv m A db:=
 ⟨h.p,⟨VF h.q.ss h1,λs hs=>VF (h.q.bL s hs) h1,VF h.q.tb h1⟩,⟨h.w.last,h.w.dir,λy d aO=>⟨(h.w.now y d aO).1,VF (h.w.now y d aO).2 ae⟩⟩,⟨h.g.1,VF h.g.2 h1⟩,VF h.M au,h.m,h.t⟩
theorem Sz:∀rs:List eK,dp (mi rs)
 |[]=>⟨by simp [mi],by simp [mi]⟩
 |r::rs=>by
  unfold mi
  split
  ·unfold o8;split
   ·split<;>exact⟨by decide,by decide⟩
   ·exact⟨by decide,by decide⟩
  ·exact Sz rs
theorem aii(size:Int)(db:eA)(rs:List eK):dp (mY size db rs):=by
 unfold mY
 split
 ·exact Sz rs
 ·unfold bg.writeS bg.changeM
  split
  ·split<;>exact⟨by simp,by simp⟩
  ·exact⟨by simp,by simp⟩
theorem Ls{B:Nat}{m:bg.ei}{A:fK}{db:eA}{ms:List g'}{rs:List eK}{w:Nat}{K:Int->J->Prop}(h:h2 H B x N b M m A db)
  (aa:bk pT H a n c ms) (aA:qE H ms rs) (dc:∀r∈rs,rv r) (lk:∀m∈ms,Small m) (ay:n<=100) (hw:j1 rs<=w) (fP:w<=10000) (e1:N+w<=40000) (b8:b<=20000000) (cQ:M<=90) (oq:∀r∈rs,r.l.length<=1000000)
  (e6:∀k∈ax a,k∉nK x A) (gZ:∀m∈ms,∀k∈oz m,k<H.size/\k∉nK x A)
  (bK:7<=B)
  (cz:∀e H' eM,e=mY m.size db rs->e≠0->dp e->h2 H' B x N b (M+1) m eM db->gL B H H'->K e H')
  (ff:∀H' eM,mY m.size db rs=0->h2 H' B x (N+w) (b+400000) (M+1) m eM (rs.foldl fU {db with st:=j7 db rs})->gL B H H'->K 0 H'):
  aY atf Sh ⟨[.pointer (some ⟨x,0,none⟩),.slice a n c]⟩ H λv H'=>∃e,v=.int .i64 e/\K e H':=by
 have tH:∀{H'},Fr (nK x A) H H'->k8 H':=λaf=>h.t.ag af λk hk=>by have:=(h.p.wr k hk).1;omega
 have hm:=h.m
 refine ahW h.p h.t h.q h.w aa aA dc lk ay (by omega) (by omega) b8 (by have:=h.M;omega) oq e6 gZ (λH' eM he bh ah vr ev af=> ?_) λH' eM he bh ah nq vr ev af=> ?_
 ·rw [hm]at he⊢
  exact cz _ H' eM rfl he (aii _ _ _) ⟨bh,ah,h.w,h.g,by have:=h.M;omega,ev.trans hm,tH af⟩ ⟨_,λk hk=>(h.p.wr k hk).1,af⟩
 ·rw [hm]at he
  have aZ:∀r∈rs,pS r:=(Ge dc).1 (by unfold mY at he;split at he<;>first|assumption|omega)
  have ae:xr (N+w) eM (rs.foldl fU {db with st:=j7 db rs}):=⟨VF ah.ss (by omega),λs hs=>VF (ah.bL s hs) (by omega),VF ah.tb (by omega)⟩
  have au:(rs.foldl fU {db with st:=j7 db rs}).st=j7 db rs:=Sy rs _
  exact ff H' eM he ⟨bh,ae,by rw [au];exact nq,⟨jx.Su (db:={db with st:=j7 db rs}) h.g.1 aZ,VF (Sx _ _) (by have:=h.g.2;simp only;omega)⟩,by have:=h.M;omega,ev.trans hm,tH af⟩ ⟨_,λk hk=>(h.p.wr k hk).1,af⟩
open bb (cZ)
open cU (kg)
theorem aij:Rd atf (Instr.typeAssert (.iface 121 (.agg ⟨[.int .i64 e]⟩)) 118 121 true) H (.tuple ⟨[.agg ⟨[.int .i64 e]⟩,.bool true]⟩):=λw _=>by kernel_rfl
theorem aik:Rd atf (Instr.typeAssert (.iface 206 (.agg ⟨[]⟩)) 118 121 true) H (.tuple ⟨[.agg ⟨[.int .i64 0]⟩,.bool false]⟩):=λw _=>by kernel_rfl
theorem ail:Rd atf (Instr.typeAssert (.iface 207 (.agg ⟨[]⟩)) 118 121 true) H (.tuple ⟨[.agg ⟨[.int .i64 0]⟩,.bool false]⟩):=λw _=>by kernel_rfl
theorem aim(w:World):(method (Tryz.prog.types.size+Made.depth) 206 (.agg ⟨[]⟩) "strandline/engine.errno").run atf w=.ok (477,.agg ⟨[]⟩) w:=by kernel_rfl
theorem ain(w:World):(method (Tryz.prog.types.size+Made.depth) 207 (.agg ⟨[]⟩) "strandline/engine.errno").run atf w=.ok (478,.agg ⟨[]⟩) w:=by kernel_rfl
theorem Lt{H1:J}{X:J->Prop}(ay:ds H b (.cells ⟨[.int .i64 0]⟩ 121) H1)(k:∀H',aU H' ⟨b,0,none⟩ [.int .i64 e]->Fr [] H H'->X H'):∃H',fb atf 121 H1 ⟨b,0,none⟩ (.agg ⟨[.int .i64 e]⟩) H'/\X H':=
 ay.bo.jq (v:=.agg ⟨[.int .i64 e]⟩) (by kernel_rfl) (by kernel_rfl) (λx aa=>by simp [atq]at aa;subst aa;rfl) (by simp [atq]) λH' ah af=>k H' (by simpa [atq]using ah) (ay.ag.ab af λk hk=>by simp at hk;have:=ay.eq;omega)
theorem aio{v:Value}{R:Value->J->Prop}(h:Sn H v e)(hk:∀H',Fr [] H H'->R (.int .i64 e) H'):
  ∃n b,Rd atf (Instr.typeAssert v 118 121 true) H (.tuple ⟨[.agg ⟨[.int .i64 n]⟩,.bool b]⟩)/\∀(ir:Nat) (H':J),ds H ir (.cells ⟨[.int .i64 0]⟩ 121) H'->∃iO,fX 121 H' ⟨ir,0,none⟩ (.agg ⟨[.int .i64 n]⟩) iO/\aJ b (∃n,a7 32 iO ⟨ir,0,none⟩ (.int .i64 n)/\R (.int .i64 n) iO) (HV atf v "strandline/engine.errno" [] iO fun v H'=>∃n,v=.int .i64 n/\R (.int .i64 n) H'):=by
 rcases h with rfl|⟨rfl,rfl⟩|⟨rfl,rfl⟩
 ·exact⟨_,_,aij,λb1 H1 ay=>Lt ay λao ah af=>ai (λ_=>⟨_,ah.b5 (by kernel_rfl) rfl,hk ao af⟩) λc=>by simp at c⟩
 ·refine⟨_,_,aik,λb1 H1 ay=>Lt ay λao ah af=>ai (λc=>by simp at c) λ_=>⟨206,_,477,_,rfl,aim,by kernel_rfl,?_⟩⟩
  exact aip λcX aF bF=>⟨_,rfl,hk aF (af.aw bF.ag)⟩
 ·refine⟨_,_,ail,λb1 H1 ay=>Lt ay λao ah af=>ai (λc=>by simp at c) λ_=>⟨207,_,478,_,rfl,ain,by kernel_rfl,?_⟩⟩
  exact aiq λcX aF bF=>⟨_,rfl,hk aF (af.aw bF.ag)⟩
noncomputable def pg(L:List bX)(s:List bX×List Row)(p:oB):List bX×List Row:=
 match ki L p.1 with
 |some i=>(s.1,s.2++[(p.2.1,(i:Int),p.2.2)])
 |none=>match ki s.1 p.1 with
  |some j=>(s.1,s.2++[(p.2.1,((L.length+j:Nat):Int),p.2.2)])
  |none=>(s.1++[p.1],s.2++[(p.2.1,((L.length+s.1.length:Nat):Int),p.2.2)])
noncomputable def gl(L:List bX)(ps:List oB):List bX×List Row:=ps.foldl (pg L) ([],[])
def ix(l:bX):eK:=⟨0,l,[],[],0⟩
noncomputable def qK(L:List bX)(ps:List oB):List eK:=(gl L ps).1.map ix++[⟨1,[],(gl L ps).2,[],0⟩]
theorem air{L:List bX}{ps:List oB}{k:Nat}{p:oB}(h:ps[k]?=some p):gl L (ps.take (k+1))=pg L (gl L (ps.take k)) p:=by
 unfold gl
 rw [ats,h,auX,avX];rfl
theorem SA(L:List bX):∀(ps:List oB) (s:List bX×List Row),(ps.foldl (pg L) s).1.length<=s.1.length+ps.length/\(ps.foldl (pg L) s).2.length=s.2.length+ps.length
 |[],s=>⟨by simp,by simp⟩
 |p::ps,s=>by
  obtain⟨h1,ae⟩:=SA L ps (pg L s p)
  have au:(pg L s p).1.length<=s.1.length+1/\(pg L s p).2.length=s.2.length+1:=by
   unfold pg
   split
   ·simp
   ·split<;>simp
  rw [asn,asE]
  omega
def G4(n:Nat)(F:List bX)(k:ByteArray):Option Value:=match qs F k with|some i=>some (.int .i64 ((n+i:Nat):Int))|none=>none
structure nL(H:J)(r n:Nat)(F:List bX):Prop where
 w:q0 F
 m:∃ck M,dM kg H r ck M/\(∀k,dA k M=G4 n F k)/\M.length=F.length
theorem nL.ag{F:List bX}{S:List Nat}(h:nL H r n F)(af:Fr S H H')(aA:r∉S):nL H' r n F:=by
 obtain⟨w,ck,M,h1,ae,au⟩:=h
 exact⟨w,ck,M,dM.ag kg h1 af aA,ae,au⟩
theorem nL.new(h:ds H r (.map ⟨[]⟩ 0) H'):nL H' r n []:=⟨q0.nil,0,[],dM.new kg h,λ_=>rfl,rfl⟩
theorem nL.look{F:List bX}{l:bX}(h:nL H r n F)(aH:fE l):
  Rd atf (Instr.lookup 123 (.map (some r)) (.string ⟨(hr l).toArray⟩) true) H (.tuple ⟨[.int .i64 (match ki F l with|some i=>((n+i:Nat):Int)|none=>0),.bool (ki F l).isSome]⟩):=by
 obtain⟨w,ck,M,h1,ae,au⟩:=h
 have:=E9 (T:=kg) cU.tg cU.z3 h1 (⟨(hr l).toArray⟩:ByteArray)
 rw [ae]at this
 unfold G4 at this
 rw [Fe w aH]at this
 unfold ki
 cases e:F.findIdx? (λm=>decide (m=l))with
 |none=>rw [e]at this;exact this
 |some i=>rw [e]at this;exact this
theorem nL.len{F:List bX}(h:nL H r n F):Rd atf (Builtin.len_ ⟨[123]⟩ 3 ⟨[.map (some r)]⟩) H (.int .i64 F.length):=by
 obtain⟨w,ck,M,h1,ae,au⟩:=h
 rw [<-au]
 exact Pt kg cU.tg h1
theorem nL.put{F:List bX}{l:bX}{K:J->Prop}(h:nL H r n F)(aH:fE l)(cz:ki F l=none)(hlen:F.length<200)
  (hk:∀H',nL H' r n (F++[l])->Fr [r] H H'->K H'):iQ atf (Instr.mapUpdate 123 (.map (some r)) (.string ⟨(hr l).toArray⟩) (.int .i64 ((n+F.length:Nat):Int))) H K:=by
 obtain⟨w,ck,M,h1,ae,au⟩:=h
 have SB:qs F ⟨(hr l).toArray⟩=none:=by rw [Fe w aH];exact cz
 have aZ:dA (⟨(hr l).toArray⟩:ByteArray) M=none:=by rw [ae];unfold G4;rw [SB]
 refine uN (T:=kg) cU.tg h1 (⟨(hr l).toArray⟩:ByteArray) λH' a6 bu=>hk H' ⟨?_,_,_,a6,λk=> ?_,?_⟩ bu
 ·have:=On w l
  unfold q1 at this
  rwa [if_pos ⟨aH,Iu.1 cz,hlen⟩]at this
 ·rw [uO,ae]
  unfold G4
  rw [Oc k SB]
  split<;>rfl
 ·unfold oZ
  rw [aZ]
  simp [au]
open bb (cZ)
def DH(db:eA)(ps:List oB):Prop:=1<=ps.length/\ps.length<=50/\(∀p∈ps,DG db.past p)/\db.L.length+(gl db.L ps).1.length<=200
def uc(aO:dH):g':=(0,aO,(none,0,0),(none,0,0),0)
def nM(aO:dH):g':=(1,(none,0,0),aO,(none,0,0),0)
theorem ais{b1:Nat}{aO hd':dH}{X:J->Prop}(h:aU H ⟨b1,0,none⟩ (fI (nM aO)))(k:∀H',aU H' ⟨b1,0,none⟩ (fI (nM hd'))->Fr [b1] H H'->X H'):∃H',fb atf 82 H ⟨b1,2,none⟩ (.slice hd'.1 hd'.2.1 hd'.2.2) H'/\X H':=
 aU.st (a:=⟨b1,0,none⟩) (j:=2) (v:=.slice hd'.1 hd'.2.1 hd'.2.2) h (by kernel_rfl) (by kernel_rfl) (lz rfl) (by simp [atq,fI]) λH' ah af=>k H' (by simpa [atq,fI,nM]using ah) af
theorem Lu{b1 b2 base:Nat}{id:Int}{m:rI}{aO:dH}{rows:List Row}{X:J->Prop}
  (b8:aU H ⟨b2,0,none⟩ (oA.cells m)) (cI:aU H ⟨b1,0,none⟩ (fI (nM aO))) (an:Own fp 128 base H aO.1 aO.2.1 aO.2.2 rows) (aH:b1<base) (CB:base<=H.size) (ay:rows.length<=1000)
  (hk:∀hd' H',aU H' ⟨b1,0,none⟩ (fI (nM hd'))->Own fp 128 base H' hd'.1 hd'.2.1 hd'.2.2 (rows++[(m.2.1,id,m.2.2)])->Fr (b1::ax aO.1) H H'->X H'):
  ∃a n c,a7 82 H ⟨b1,2,none⟩ (.slice a n c)/\∃n8,a7 3 H ⟨b2,1,none⟩ (.int .i64 n8)/\∃n9,a7 3 H ⟨b2,2,none⟩ (.int .i64 n9)/\∀(b:Nat) (H1:J),ds H b (.cells ⟨[.int .i64 n8,.int .i64 id,.int .i64 n9]⟩ 128) H1->cj atf (Builtin.append_ ⟨[82,82]⟩ 82 ⟨[.slice a n c,.slice (some ⟨b,0,none⟩) 1 1]⟩) H1 λv ao=>∃a n c,v=.slice a n c/\∃aF,fX 82 ao ⟨b1,2,none⟩ (.slice a n c) aF/\X aF:=by
 refine⟨_,_,_,cI.bV (j:=2) (by kernel_rfl) rfl,_,b8.bV (j:=1) (by kernel_rfl) rfl,_,b8.bV (j:=2) (by kernel_rfl) rfl,λb H1 aB=> ?_⟩
 have dk:=an.1
 have s1:=aB.size
 refine iD (t:=128) (E:=fp) (bytes:=24) bb.tU bb.tT (an.ab aB.ag) (gd fp (m.2.1,id,m.2.2) aB rfl) (by omega) (show(aO.2.1+1)*24<=_ by omega) λaK aQ aT ao de bt aZ=> ?_
 have sl:=(cI.ab aB.ag).ag bt λaq=>by have:=(an.ge _ aq).1;simp only at this;omega
 refine ais (hd':=(aK,aQ,aT)) sl λaF dQ bG=>hk (aK,aQ,aT) aF dQ (de.ag bG (eG λk hk aq=>by simp at aq;have:=(de.ge k hk).1;omega)) ?_
 exact(aB.ag.trans' bt (T:=b1::ax aO.1) (by simp) λk hk _=>List.mem_cons_of_mem _ hk).trans' bG (λk hk _=>hk) λk hk _=>by simp at hk;simp [hk]
theorem ait(F:List bX)(rows:List Row):j1 (F.map ix++[⟨1,[],rows,[],0⟩])=rows.length:=by
 unfold j1
 rw [as2,avO]
 have:((F.map ix).map nE).sum=0:=by
  induction F with
  |nil=>rfl
  |cons l F ih=>simp only [qO,auQ,ih];rfl
 rw [this];simp [nE]
theorem SC{L:List bX}:∀{ps:List oB} {s:List bX×List Row},(∀x∈s.2,dp x.2.2)->(∀p∈ps,dp p.2.2)->∀x∈(ps.foldl (pg L) s).2,dp x.2.2
 |[],_,h,_=>h
 |p::ps,s,h,bh=>SC (ps:=ps) (s:=pg L s p) (λx aa=>by
   have q:∀(i:Int),x∈s.2++[(p.2.1,i,p.2.2)]->dp x.2.2:=λi aa=>by
    rcases asU.1 aa with w|w
    ·exact h x w
    ·simp at w;subst w;exact bh p (by simp)
   unfold pg at aa
   split at aa
   ·exact q _ aa
   ·split at aa<;>exact q _ aa) λy av=>bh y (by simp [av])
abbrev mZ(H:J)(base:Nat)(kq:List dH)(F:List bX):Prop:=cZ (fun(aO:dH) l=>Own gb 48 base H aO.1 aO.2.1 aO.2.2 l) kq F
theorem mZ.ag{base:Nat}{kq:List dH}{F:List bX}{S:List Nat}(h:mZ H base kq F)(af:Fr S H H')(ay:∀aO∈kq,∀k∈ax aO.1,k∉S):mZ H' base kq F:=cZ.mono h λaO l hm _ aA=>aA.ag af (eG (ay aO hm))
theorem SD{B:Nat}{m:bg.ei}{A:fK}{db:eA}{ms:List rI}{ps:List oB}{K:Int->J->Prop}(h:h2 H B x N b M m A db)
  (aa:bk oA H a n c ms) (bh:AI H ms ps) (uS:∀m∈ms,m.1.2.1<=1000000) (aI:∀p∈ps,dp p.2.2) (ay:n<=1000) (e1:N+50<=40000) (b8:b<=20000000) (cQ:M<=90) (bK:7<=B)
  (cz:∀e H' eM,e≠0->dp e->¬(DH db ps/\mY m.size db (qK db.L ps)=0)->h2 H' B x N b (M+1) m eM db->gL B H H'->K e H')
  (ff:∀H' eM,DH db ps->mY m.size db (qK db.L ps)=0->h2 H' B x (N+50) (b+400000) (M+1) m eM ((qK db.L ps).foldl fU {db with st:=j7 db (qK db.L ps)})->gL B H H'->K 0 H'):
  aY atf SE ⟨[.pointer (some ⟨x,0,none⟩),.slice a n c]⟩ H λv H'=>∃e,v=.int .i64 e/\K e H':=by
 apply aiu
 have jr:=aa.len
 have nm:=cZ.len bh
 have dz:∀{H'},Fr [] H H'->h2 H' B x N b (M+1) m A db:=λaf=>⟨h.p.ab af,h.q,h.w,h.g,by have:=h.M;omega,h.m,h.t.ab af⟩
 have no:∀{e:Int} {H'},e≠0->dp e->¬DH db ps->Fr [] H H'->∃cV,Value.int .i64 e=.int .i64 cV/\K cV H':=λhe az af lJ=>⟨_,rfl,cz _ _ A he az (λaq=>af aq.1) (dz lJ) (gL.of lJ)⟩
 refine⟨λvs H'=>H'=H/\1<=n/\n<=50,ai (λc1=>no (by decide) ⟨by decide,by decide⟩ (λaq=>by have:=aq.1;simp at c1;omega) (Fr.refl _ _)) (λc1=>ai (λc2=>no (by decide) ⟨by decide,by decide⟩ (λaq=>by have:=aq.2.1;simp at c2;omega) (Fr.refl _ _)) λc2=>⟨rfl,by simp at c1;omega,by simp at c2;omega⟩),?_⟩
 rintro bm H0 ⟨rfl,aB,bH⟩
 refine⟨λvs H'=>match vs with|[.int _ i]=>∃k:Nat,i=k/\k<=n/\(∀p∈ps.take k,DG db.past p)/\Fr [] H0 H'|_=>False,λvs _=>match vs with|[.int _ i]=>n-i.toNat|_=>0,⟨0,rfl,by omega,by simp,Fr.refl _ _⟩,?_⟩
 rintro bm i H1 ⟨k,rfl,du,iT,f1⟩
 refine ai (λc0=> ?_) (λc0=> ?_)
 ·have gB:k<n:=by simpa using c0
  obtain⟨j0,hm⟩:=eR (l:=ms) (i:=k) (by omega)
  obtain⟨p,yT,hh⟩:=bh.get hm
  refine(aa.ab f1).get rfl hm (decide_eq_true (by omega)) λal bS ak=>⟨_,_,_,_,_,Sl ak,λdU ao ns=>Sm ns rfl λaF dQ f3=>⟨_,_,_,_,_,dQ.dX (by kernel_rfl) (by kernel_rfl) rfl,?_⟩⟩
  have f13:=f1.aw f3
  have au:=h.p.ab f13
  have e8:ps.take (k+1)=ps.take k++[p]:=by rw [ats,yT];rfl
  refine ah5 au.bo (p:=p) ⟨hh.1.ab f13,hh.2⟩ (uS j0 (att hm)) (λhk aN f4=>⟨false,ah3,ai (λc=>by simp at c) λ_=> ?_⟩) (λhk v e aN an he az f4=> ?_)
  ·rw [b6 (by omega)]
   exact⟨⟨k+1,rfl,by omega,λq a1=>by rw [e8]at a1;rcases asU.1 a1 with w|w;exact iT q w;simp at w;subst w;exact hk,f13.aw f4⟩,cJ gB⟩
  ·have aI:∃r,hD atf (gm BinOp.neq 118 (Operand.tmp 36) (Operand.const .nilIface) v .nilIface) (.bool r)/\r=true:=by
    rcases an with rfl|⟨rfl,_⟩|⟨rfl,_⟩<;>exact⟨_,ah4,rfl⟩
   obtain⟨r,aA,rfl⟩:=aI
   refine⟨_,aA,ai (λ_=> ?_) (λc=>by simp at c)⟩
   exact aio (R:=λv H'=>∃cV,v=.int .i64 cV/\K cV H') an λbw f5=>no he az (λaq=>hk (aq.2.2.1 p (att yT))) ((f13.aw f4).aw f5)
 have u7:k=n:=by simp at c0;omega
 have dG:∀p∈ps,DG db.past p:=λp bh=>iT p (by rw [asG (by omega)];exact bh)
 intro dU ao ns b1 aF bF
 have fC:=ns.eq
 have dP:=bF.eq
 have z0:=ns.size
 have z3:=bF.size
 have aq5:=f1.size
 refine Gd (m:=nM (none,0,0)) (m':=m0 0) bF.bo λaN dY f4=> ?_
 have z4:=f4.size
 have f34:Fr [] H1 aN:=(ns.ag.aw bF.ag).ab f4 λk hk=>by simp at hk;omega
 have jO:=f1.aw f34
 have aiv:nL aN dU db.L.length []:=((nL.new ns).ag bF.ag (by simp)).ag f4 (by simp;omega)
 have JL:db.L.length<=200:=h.p.bz.1.len
 refine⟨λvs H'=>match vs with|[.slice aK aQ aT,.int _ i]=>∃(k:Nat) (kq:List dH) (aO:dH),i=k/\k<=n/\nL H' dU db.L.length (gl db.L (ps.take k)).1/\aU H' ⟨b1,0,none⟩ (fI (nM aO))/\Own fp 128 aN.size H' aO.1 aO.2.1 aO.2.2 (gl db.L (ps.take k)).2/\Own pT 84 aN.size H' aK aQ aT (kq.map uc)/\mZ H' aN.size kq (gl db.L (ps.take k)).1/\Fr [] H0 H'/\aN.size<=H'.size|_=>False,
  λvs _=>match vs with|[_,.int _ i]=>n-i.toNat|_=>0,⟨0,[],(none,0,0),rfl,by omega,aiv,dY,Own.nil _ _ _ _,Own.nil _ _ _ _,.nil,jO,nQ _⟩,?_⟩
 rintro bm aK aQ aT i bw ⟨k,kq,aO,rfl,du,cn,dI,ud,ue,sL,f5,z5⟩
 have ry:=SA db.L (ps.take k) ([],[])
 have Lv:(gl db.L (ps.take k)).1.length<=k/\(gl db.L (ps.take k)).2.length=k:=by
  unfold gl
  have:(ps.take k).length=k:=by rw [apH];omega
  simp only [atc]at ry
  omega
 have SF:=cZ.len sL
 have sI:=ue.1
 rw [atw]at sI
 refine ai (λc0=> ?_) (λc0=> ?_)
 ·have gB:k<n:=by simpa using c0
  obtain⟨j0,hm⟩:=eR (l:=ms) (i:=k) (by omega)
  obtain⟨p,yT,hh⟩:=bh.get hm
  have Lw:=att yT
  have cL:=(dG p Lw).1
  have qw:=uS j0 (att hm)
  have eg:=air (L:=db.L) yT
  refine(aa.ab f5).get rfl hm (decide_eq_true (by omega)) λal bS ak=>⟨_,_,_,_,_,Sl ak,λb2 bY hL=>Sm hL rfl λcC ji f7=> ?_⟩
  have f57:=f5.aw f7
  refine⟨_,(h.p.ab f57).bo.ld (j:=2) (by kernel_rfl) rfl,_,_,_,ji.b5 (by kernel_rfl) rfl,cU.wy (h.p.ab f57).bz (hh.1.ab f57) (by omega) λed f8=> ?_⟩
  have f78:=f7.aw f8
  have f58:=f57.aw f8
  have Lx:=f78.size
  have vars:aU ed ⟨b2,0,none⟩ (oA.cells j0):=ji.ab f8
  have step:∀(G5:List dH) (lI:Option Addr) (mb mc:Nat) (F':List bX) (id:Int) (ee:J),gl db.L (ps.take (k+1))=(F',(gl db.L (ps.take k)).2++[(j0.2.1,id,j0.2.2)])->Fr [] H0 ee->aN.size<=ee.size→
    nL ee dU db.L.length F'->mZ ee aN.size G5 F'->Own pT 84 aN.size ee lI mb mc (G5.map uc)->aU ee ⟨b2,0,none⟩ (oA.cells j0)->aU ee ⟨b1,0,none⟩ (fI (nM aO))->Own fp 128 aN.size ee aO.1 aO.2.1 aO.2.2 (gl db.L (ps.take k)).2→
    ∀hd' H',aU H' ⟨b1,0,none⟩ (fI (nM hd'))->Own fp 128 aN.size H' hd'.1 hd'.2.1 hd'.2.2 ((gl db.L (ps.take k)).2++[(j0.2.1,id,j0.2.2)])->Fr (b1::ax aO.1) ee H'→
    ∃(k':Nat) (kq:List dH) (aO:dH),IntKind.i64.wrap ((k:Int)+1)=k'/\k'<=n/\nL H' dU db.L.length (gl db.L (ps.take k')).1/\aU H' ⟨b1,0,none⟩ (fI (nM aO))/\Own fp 128 aN.size H' aO.1 aO.2.1 aO.2.2 (gl db.L (ps.take k')).2/\Own pT 84 aN.size H' lI mb mc (kq.map uc)/\mZ H' aN.size kq (gl db.L (ps.take k')).1/\Fr [] H0 H'/\aN.size<=H'.size:=by
   intro G5 lI mb mc F' id ee jw f9 z9 g1 g2 g3 g4 g5 g6 hd' H' fe gq iG
   have aq6:=iG.size
   refine⟨k+1,G5,hd',b6 (by omega),by omega,?_,fe,?_,g3.ag iG (eG λq a1 aq=> ?_),?_,f9.ab iG λq a1=> ?_,by omega⟩
   ·rw [jw];exact g1.ag iG λaq=>by
     simp only [o3]at aq
     rcases aq with w|w
     ·omega
     ·have:=(g6.ge _ w).1;omega
   ·rw [jw];exact gq
   ·simp only [o3]at aq
    rcases aq with w|w
    ·have:=(g3.ge _ a1).1;omega
    ·exact cU.qq (by decide) g3 g6 q a1 w
   ·rw [jw]
    refine mZ.ag g2 iG λAJ jl q a1 aq=> ?_
    obtain⟨c7,_,kG⟩:=cZ.mem g2 jl
    simp only [o3]at aq
    rcases aq with w|w
    ·have:=(kG.ge _ a1).1;omega
    ·exact cU.qq (by decide) kG g6 q a1 w
   ·simp only [o3]at a1
    rcases a1 with w|w
    ·omega
    ·have:=(g6.ge _ w).1;omega
  have Ly:=hh.2
  cases kH:ki db.L p.1 with
  |some i=>
   refine ai (λc=>by simp at c) λ_=> ?_
   have jw:gl db.L (ps.take (k+1))=((gl db.L (ps.take k)).1,(gl db.L (ps.take k)).2++[(j0.2.1,BJ db.L p.1,j0.2.2)]):=by
    rw [eg];unfold pg BJ;rw [kH,Ly]
   refine Lu vars (dI.ab f78) (ud.ab f78) (by omega) (by omega) (by omega) λhd' H' fe gq iG=> ?_
   refine⟨step kq aK aQ aT _ _ ed jw f58 (by omega) (cn.ag f78 (by simp)) (mZ.ag sL f78 (by simp)) (ue.ab f78) vars (dI.ab f78) (ud.ab f78) hd' H' fe gq iG,?_⟩
   rw [b6 (by omega)];exact cJ gB
  |none=>
   refine ai (λ_=> ?_) λc=>by simp at c
   refine⟨_,_,_,vars.b5 (by kernel_rfl) rfl,cU.Ip (hh.1.ab f58) (by omega) (λaq=>absurd cL aq) λ_ ee f9=> ?_⟩
   have f79:=f78.aw f9
   have f59:=f58.aw f9
   have z9:=f79.size
   have vA:=cn.ag f79 (by simp)
   refine⟨_,_,vA.look cL,?_⟩
   cases hpos2:ki (gl db.L (ps.take k)).1 p.1 with
   |some j=>
    refine ai (λc=>by simp at c) λ_=> ?_
    have jw:gl db.L (ps.take (k+1))=((gl db.L (ps.take k)).1,(gl db.L (ps.take k)).2++[(j0.2.1,((db.L.length+j:Nat):Int),j0.2.2)]):=by
     rw [eg];unfold pg;rw [kH];simp only;rw [hpos2,Ly]
    refine Lu (vars.ab f9) (dI.ab f79) (ud.ab f79) (by omega) (by omega) (by omega) λhd' H' fe gq iG=> ?_
    refine⟨step kq aK aQ aT _ _ ee jw f59 (by omega) vA (mZ.ag sL f79 (by simp)) (ue.ab f79) (vars.ab f9) (dI.ab f79) (ud.ab f79) hd' H' fe gq iG,?_⟩
    rw [b6 (by omega)];exact cJ gB
   |none=>
    refine ai (λ_=> ?_) λc=>by simp at c
    have jw:gl db.L (ps.take (k+1))=((gl db.L (ps.take k)).1++[p.1],(gl db.L (ps.take k)).2++[(j0.2.1,((db.L.length+(gl db.L (ps.take k)).1.length:Nat):Int),j0.2.2)]):=by
     rw [eg];unfold pg;rw [kH];simp only;rw [hpos2,Ly]
    refine⟨_,(h.p.ab f59).bo.ld (j:=2) (by kernel_rfl) rfl,cU.Ff (h.p.ab f59).bz ⟨_,vA.len,?_⟩⟩
    rw [bb.Aq (by omega)]
    refine vA.put cL hpos2 (by omega) λfx aiw f10=> ?_
    have oh:dU<aN.size:=by omega
    have Lp:=f10.size
    have SG:Fr [] H0 fx:=f59.ab f10 λq a1=>by simp at a1;omega
    have v10:aU fx ⟨b2,0,none⟩ (oA.cells j0):=(vars.ab f9).ag f10 (by simp;have:=hL.eq;omega)
    have aix:aU fx ⟨b1,0,none⟩ (fI (nM aO)):=(dI.ab f79).ag f10 (by simp;omega)
    have SH:=(ud.ab f79).ag f10 (eG λq a1 aq=>by simp at aq;have:=(ud.ge q a1).1;omega)
    have DI:=(ue.ab f79).ag f10 (eG λq a1 aq=>by simp at aq;have:=(ue.ge q a1).1;omega)
    have l10:mZ fx aN.size kq _:=mZ.ag (mZ.ag sL f79 (by simp)) f10 λAJ jl q a1 aq=>by
     obtain⟨c7,_,kG⟩:=cZ.mem sL jl
     simp at aq;have:=(kG.ge q a1).1;omega
    refine⟨_,_,_,v10.b5 (by kernel_rfl) rfl,cU.r9 (hh.1.ab SG) (by omega) λLz nl cl lE ol f11 cX n1 rJ=> ?_⟩
    have aiy:=f11.size
    have aq7:=rJ.size
    have f12:=f11.aw rJ.ag
    refine iD (t:=84) (E:=pT) (bytes:=88) (by kernel_rfl) (by kernel_rfl) (DI.ab f12) (gd pT (uc (Lz,nl,cl)) rJ rfl) (by omega) (by omega) λlI mb mc sM o13 f13 g13=> ?_
    have aq8:=f13.size
    have c12:=DI.ab f12
    have aiz:b1∉ax aK:=λaq=>by have:=(DI.ge _ aq).1;omega
    have aiA:dU∉ax aK:=λaq=>by have:=(DI.ge _ aq).1;omega
    have aiB:b2∉ax aK:=λaq=>by
     have:=(ue.ge _ aq).2
     have:=hL.eq
     omega
    have aiC:Fr [] H0 sM:=(SG.aw f12).ab f13 λq a1=>by have:=(DI.ge q a1).1;have:=jO.size;omega
    have SI:=(SH.ab f12).ag f13 (eG λq a1 aq=>cU.qq (by decide) (SH.ab f12) c12 q a1 aq)
    have SJ:=(v10.ab f12).ag f13 aiB
    have SK:=(aix.ab f12).ag f13 aiz
    have aiD:Own pT 84 aN.size sM lI mb mc ((kq++[(Lz,nl,cl)]).map uc):=by rw [as2];exact o13
    have LA:mZ sM aN.size (kq++[(Lz,nl,cl)]) ((gl db.L (ps.take k)).1++[p.1]):=by
     refine cZ.app (mZ.ag (mZ.ag l10 f12 (by simp)) f13 λAJ jl q a1 aq=> ?_) (.cons ?_ .nil)
     ·obtain⟨c7,_,kG⟩:=cZ.mem l10 jl
      exact cU.qq (by decide) (kG.ab f12) c12 q a1 aq
     ·have SL:=(ol.base (base':=aN.size) (by omega)).ab rJ.ag
      exact SL.ag f13 (eG λq a1 aq=>cU.qq (by decide) SL c12 q a1 aq)
    refine Lu SJ SK SI (by omega) (by omega) (by omega) λhd' H' fe gq iG=> ?_
    refine⟨step _ lI mb mc _ _ sM jw aiC (by omega) ((aiw.ag f12 (by simp)).ag f13 aiA) LA aiD SJ SK SI hd' H' fe gq iG,?_⟩
    rw [b6 (by omega)];exact cJ gB
 ·have u7:k=n:=by simp at c0;omega
  have yz:ps.take k=ps:=asG (by omega)
  rw [yz]at cn ud sL Lv SF
  refine⟨_,(h.p.ab f5).bo.ld (j:=2) (by kernel_rfl) rfl,cU.Ff (h.p.ab f5).bz ⟨_,cn.len,?_⟩⟩
  rw [bb.Aq (by omega)]
  refine ai (λc1=>no (by decide) ⟨by decide,by decide⟩ (λaq=>by have:=aq.2.2.2;simp at c1;omega) f5) λc1=> ?_
  have aiE:DH db ps:=⟨by omega,by omega,dG,by simp at c1;omega⟩
  refine⟨_,_,_,_,_,_,_,_,_,_,_,dI.dX (by kernel_rfl) (by kernel_rfl) rfl,λcX bY hL=> ?_⟩
  have BN:=hL.size
  refine iD (t:=84) (E:=pT) (bytes:=88) (by kernel_rfl) (by kernel_rfl) (ue.ab hL.ag) (gd pT (nM aO) hL rfl) (by omega) (by omega) λlI mb mc cC o7 f7 g7=> ?_
  have k6:=ue.ab hL.ag
  have vz:=f7.size
  have p4:Fr [] H0 cC:=(f5.aw hL.ag).ab f7 λq a1=>by have:=(ue.ge q a1).1;have:=jO.size;omega
  have SM:=(ud.ab hL.ag).ag f7 (eG λq a1 aq=>cU.qq (by decide) (ud.ab hL.ag) k6 q a1 aq)
  have yH:mZ cC aN.size kq _:=mZ.ag (mZ.ag sL hL.ag (by simp)) f7 λAJ jl q a1 aq=>by
   obtain⟨c7,_,kG⟩:=cZ.mem sL jl
   exact cU.qq (by decide) (kG.ab hL.ag) k6 q a1 aq
  have G6:qK db.L ps=(gl db.L ps).1.map ix++[⟨1,[],(gl db.L ps).2,[],0⟩]:=rfl
  have SN:=o7.1
  have sw:∀q∈nK x A,q<aN.size:=λq a1=>by have:=(h.p.wr q a1).2;have:=jO.size;omega
  have iy:∀{α:Type} {E:dd α} {H:J},bk E H none 0 0 []:=⟨rfl,nQ _,.inl rfl⟩
  have Dg:(gl db.L ps).2.length=k:=Lv.2
  have tW:=ud.1
  refine Ls (w:=50) (h.ab p4) o7.bL (rs:=qK db.L ps) ?_ ?_ ?_ (by simp only [VH,atw,asE,atc]at SN;omega) (by rw [G6,ait];omega) (by omega) (by omega) b8 cQ ?_ (λq a1 aq=>by have:=(o7.ge q a1).1;have:=sw q aq;omega) ?_ bK (λe ed eM he pX az bI cP=>⟨_,rfl,cz e ed eM pX az (λaq=>pX (he.trans aq.2)) bI ((gL.of p4).trans cP)⟩) λed eM he bI cP=>⟨_,rfl,ff ed eM aiE he bI ((gL.of p4).trans cP)⟩
  ·rw [G6]
   have:cZ (lK cC) (kq.map uc++[nM aO]) ((gl db.L ps).1.map ix++[⟨1,[],(gl db.L ps).2,[],0⟩]):=by
    refine cZ.app ?_ (.cons ⟨rfl,iy,SM.bL,iy,rfl⟩ .nil)
    clear ue k6 o7 SN cn sI SF Lv
    generalize(gl db.L ps).1=F at yH sL
    clear sL
    induction yH with
    |nil=>exact .nil
    |cons aA _ ih=>exact .cons ⟨rfl,aA.bL,iy,iy,rfl⟩ ih
   exact⟨this.len,λi m r hm aA=>by obtain⟨eU,hG,hh⟩:=this.get hm;rw [aA]at hG;cases hG;exact hh⟩
  ·rw [G6]
   intro r aA
   rcases asU.1 aA with w|w
   ·obtain⟨l,_,rfl⟩:=ad6.1 w;intro y av;simp [ix]at av
   ·simp at w;subst w;exact SC (s:=([],[])) (by simp) aI
  ·intro m' ev
   rcases asU.1 ev with w|w
   ·obtain⟨AJ,jl,rfl⟩:=ad6.1 w
    obtain⟨c7,DJ,kG⟩:=cZ.mem sL jl
    have:=kG.1
    have:=(cn.w.da c7 DJ).1
    exact⟨by simp only [uc];omega,by simp [uc],by simp [uc]⟩
   ·simp at w;subst w;exact⟨by simp [nM],by simp only [nM];omega,by simp [nM]⟩
  ·rw [G6]
   intro r aA
   rcases asU.1 aA with w|w
   ·obtain⟨l,aH,rfl⟩:=ad6.1 w
    have:=(cn.w.da l aH).1
    simp only [ix];omega
   ·simp at w;subst w;simp
  ·intro m' ev q a1
   rcases asU.1 ev with w|w
   ·obtain⟨AJ,jl,rfl⟩:=ad6.1 w
    obtain⟨c7,_,kG⟩:=cZ.mem yH jl
    simp [oz,uc,ax]at a1
    have kl:q∈ax AJ.1:=by simpa [ax]using a1
    have:=kG.ge q kl
    exact⟨this.2,λaq=>by have:=sw q aq;omega⟩
   ·simp at w;subst w
    have kl:q∈ax aO.1:=by simpa [oz,nM,ax]using a1
    have:=SM.ge q kl
    exact⟨this.2,λaq=>by have:=sw q aq;omega⟩
open cU (eu)
open bb (cZ cw e9 sG dL encS fT ej yN lR mq gz jM j4 fJ)
theorem aiF{x y:Int}{K:Bool->J->Prop}(hk:K (decide (x<y)) H):aY atf 276 ⟨[.int .i64 x,.int .i64 y]⟩ H λv H'=>∃b,v=.bool b/\K b H':=by
 apply aiG
 apply CW
 exact⟨_,rfl,ai (λh=>by simp at h) λ_=>⟨_,rfl,hk⟩⟩
theorem aiH{os:List Int}{K:Int->Bool->J->Prop}(aa:bk b' H a n c os)(aA:h9 os)(ay:n<=1000000000)(hk:∀i,K i (decide (t∈os)) H):
  aY atf aiI ⟨[.slice a n c,.int .i64 t]⟩ H λv H'=>∃i b,v=.tuple ⟨[.int .i64 i,.bool b]⟩/\K i b H':=by
 apply aiJ
 have aH:=aa.len
 have cF:∀{p q:Nat} {y z:Int},os[p]?=some y->os[q]?=some z->p<q->y<z:=λ{p q y z} bh a1 Q7=>by
  obtain⟨h1,rfl⟩:=qb.1 bh
  obtain⟨ae,rfl⟩:=qb.1 a1
  exact avK.1 aA p q h1 ae Q7
 refine⟨λvs H'=>match vs with|[.int _ i,.int _ j]=>∃i' dK:Nat,i=i'/\j=dK/\i'<=dK/\dK<=n/\(∀p y,os[p]?=some y->p<i'->y<t)/\(∀p y,os[p]?=some y->dK<=p->t<=y)/\H'=H|_=>False,
  λvs _=>match vs with|[.int _ i,.int _ j]=>(j-i).toNat|_=>0,⟨0,n,rfl,rfl,by omega,nQ _,λp y _ bh=>by omega,λp y bh a1=>by have:=(qb.1 bh).1;omega,rfl⟩,?_⟩
 rintro bm i j H1 ⟨i',dK,rfl,rfl,mD,a',h1,ae,rfl⟩
 refine ai (λc0=> ?_) (λc0=> ?_)
 ·have gB:i'<dK:=by simpa using c0
  rw [bb.Ao (by omega)]
  obtain⟨y,av⟩:=eR (l:=os) (i:=(i'+dK)/2) (by omega)
  refine aa.get rfl av (decide_eq_true (by omega)) λal bS ak=>⟨_,iq (by kernel_rfl) ak,aiF (ai (λc1=> ?_) (λc1=> ?_))⟩
  ·have kR:y<t:=by simpa using c1
   rw [b6 (by omega)]
   refine⟨⟨(i'+dK)/2+1,dK,rfl,rfl,by omega,a',λp z aC bh=> ?_,ae,rfl⟩,by simp only;omega⟩
   by_cases e:p=(i'+dK)/2
   ·subst e;rw [av]at aC;cases aC;exact kR
   ·have:=cF aC av (by omega);omega
  ·have kR:¬y<t:=by simpa using c1
   refine⟨⟨i',(i'+dK)/2,rfl,rfl,by omega,by omega,h1,λp z aC bh=> ?_,rfl⟩,by simp only;omega⟩
   by_cases e:p=(i'+dK)/2
   ·subst e;rw [av]at aC;cases aC;omega
   ·have:=cF av aC (by omega);omega
 ·have gB:i'=dK:=by simp at c0;omega
  have cz:∀{y:Int},os[i']?=some y->y≠t->t∉os:=λ{y} av cH hm=>by
   obtain⟨p,bh⟩:=avg hm
   rcases Nat.lt_trichotomy p i' with q|q|q
   ·have:=h1 p t bh q;omega
   ·subst q;rw [av]at bh;cases bh;exact cH rfl
   ·have:=cF av bh q
    have:=ae i' y av (by omega);omega
  refine ai (λc1=> ?_) (λc1=>⟨_,_,rfl,?_⟩)
  ·have kR:i'<n:=by simpa using c1
   obtain⟨y,av⟩:=eR (l:=os) (i:=i') (by omega)
   refine aa.get rfl av (decide_eq_true (by omega)) λal bS ak=>⟨_,iq (by kernel_rfl) ak,ai (λc2=>⟨_,_,rfl,?_⟩) (λc2=> ?_)⟩
   ·have LB:y=t:=by simpa using c2
    have:=hk (i':Int)
    rwa [decide_eq_true (by rw [<-LB];exact att av)]at this
   ·have LB:y≠t:=by simpa using c2
    refine aa.get rfl av (decide_eq_true (by omega)) λal bS ak=>⟨_,iq (by kernel_rfl) ak,aiK ⟨_,rfl,ai (λc3=>by simp at c3) λ_=>⟨_,_,rfl,?_⟩⟩⟩
    have:=hk (i':Int)
    rwa [decide_eq_false (cz av LB)]at this
  ·have:=hk (i':Int)
   rwa [decide_eq_false λhm=>by
    obtain⟨p,bh⟩:=avg hm
    have:=(qb.1 bh).1
    simp at c1
    have:=h1 p t bh (by omega);omega]at this
theorem aiL{os:List Int}{K:Bool->J->Prop}(aa:bk b' H a n c os)(aA:h9 os)(ay:n<=1000000000)(hk:K (decide (t∈os)) H):
  aY atf aiM ⟨[.slice a n c,.int .i64 t]⟩ H λv H'=>∃b,v=.bool b/\K b H':=by
 apply aiN
 exact aiH aa aA ay λi=>⟨_,rfl,hk⟩
def yU(f t:Int):Prop:=0<=f/\f<t/\t<=1099511627776
instance(f t:Int):Decidable (yU f t):=inferInstanceAs (Decidable (_/\_))
theorem SO{K:Bool->J->Prop}(hk:∀H',Fr [] H H'->K (decide (yU f t)) H'):
  aY atf aiO ⟨[fJ f t]⟩ H λv H'=>∃b,v=.bool b/\K b H':=by
 apply aiP
 intro b H1 aB
 have ah:aU H1 ⟨b,0,none⟩ [.int .i64 f,.int .i64 t]:=aB.bo
 have h:=hk H1 aB.ag
 have c7:a7 3 H1 ⟨b,0,none⟩ (.int .i64 f):=ah.b5 (by kernel_rfl) rfl
 have fy:a7 3 H1 ⟨b,1,none⟩ (.int .i64 t):=ah.bV (j:=1) (by kernel_rfl) rfl
 refine⟨_,c7,ai (λc1=>⟨_,c7,_,fy,ai (λc2=>⟨_,fy,_,rfl,?_⟩) (λc2=>⟨_,rfl,?_⟩)⟩) (λc1=>⟨_,rfl,?_⟩)⟩
 ·have e:decide (yU f t)=decide (t<=1099511627776):=decide_eq_decide.2 ⟨λh=>h.2.2,λh=>⟨by simpa using c1,by simpa using c2,h⟩⟩
  rwa [e]at h
 ·rwa [decide_eq_false λaq=>by have:=aq.2.1;simp at c2;omega]at h
 ·rwa [decide_eq_false λaq=>by have:=aq.1;simp at c1;omega]at h
noncomputable def jP(L:List bX)(ms:List fg):List Int:=open Classical in if h:∃os,hf os (rb L ms)then h.choose else []
theorem LC{L:List bX}{ms:List fg}{os:List Int}(h:hf os (rb L ms)):jP L ms=os:=by
 have aa:∃os,hf os (rb L ms):=⟨os,h⟩
 unfold jP
 rw [dif_pos aa]
 exact aa.choose_spec.eq h
open Classical in
noncomputable def nN(ms:List fg)(f t:Int):Int:=if¬(∀m∈ms,k7 m)then 50 else if yU f t then 0 else 1
theorem LD{B:Nat}{A:fK}{db:eA}{xs:List eu}{ms:List fg}{K:Option Addr->Nat->Nat->Int->J->Prop}(h:iN H B x A db)(aa:bk cU.hg H a n c xs)(hm:cU.iu H xs ms)(ay:n<=1000000000)
  (cz:∀H',nN ms f t≠0->Fr [] H H'->K none 0 0 (nN ms f t) H')
  (ff:∀aK aQ aT H',nN ms f t=0->Own b' 3 H.size H' aK aQ aT (jP db.L ms)->h9 (jP db.L ms)->aQ<=200->Fr [] H H'->K aK aQ aT 0 H'):
  aY atf aiQ ⟨[.pointer (some ⟨x,0,none⟩),.slice a n c,fJ f t]⟩ H λv H'=>∃a n c e,v=.tuple ⟨[.slice a n c,.int .i64 e]⟩/\K a n c e H':=by
 apply aiR
 intro b H1 aB
 have ah:aU H1 ⟨b,0,none⟩ [.int .i64 f,.int .i64 t]:=aB.bo
 refine⟨_,(h.bo.ab aB.ag).ld (j:=2) (by kernel_rfl) rfl,cU.YL (h.bz.ab aB.ag) (aa.ab aB.ag) (hm.ab aB.ag) ay (λcL ao f2=> ?_) (λcL aK aQ aT ao os an hs aH f2=> ?_)⟩
 ·refine ai (λ_=>⟨_,_,_,_,rfl,?_⟩) (λc=>by simp at c)
  have e:nN ms f t=50:=if_pos cL
  have:=cz ao (by rw [e];decide) (aB.ag.aw f2)
  rwa [e]at this
 ·refine ai (λc=>by simp at c) (λ_=> ?_)
  have hR:=aB.size
  refine⟨_,_,(ah.ab f2).dX (by kernel_rfl) (by kernel_rfl) rfl,SO λaF f3=> ?_⟩
  have iz:=(aB.ag.aw f2).aw f3
  refine ai (λc=>⟨_,_,_,_,rfl,?_⟩) (λc=>⟨_,_,_,_,rfl,?_⟩)
  ·have aT:¬yU f t:=by simpa using c
   have e:nN ms f t=1:=by unfold nN;rw [if_neg (not_not_intro cL),if_neg aT]
   have:=cz aF (by rw [e];decide) iz
   rwa [e]at this
  ·have LF:yU f t:=by simpa using c
   have e:nN ms f t=0:=by unfold nN;rw [if_neg (not_not_intro cL),if_pos LF]
   exact ff aK aQ aT aF e (by rw [LC hs];exact(an.ab f3).base (base':=H.size) (by omega)) (by rw [LC hs];exact hs.1) aH iz
open cU (eu)
open bb (cZ cw e9 sG dL encS fT ej yN lR mq gz jM j4 fJ)
def sN(os:List Int)(f t:Int)(ss:List cw):List Row:=(ss.filter λs=>decide (s.1∈os)).flatMap λs=>lR (s.1,s.2.filter (nI f t))
theorem SP(os:List Int)(f t:Int)(ss:List cw)(s:cw):sN os f t (ss++[s])=sN os f t ss++(if s.1∈os then lR (s.1,s.2.filter (nI f t))else []):=by
 unfold sN
 rw [auV,List.flatMap_append]
 by_cases h:s.1∈os
 ·rw [if_pos h];simp [MX,h]
 ·rw [if_neg h];simp [MX,h]
theorem LG(os:List Int)(f t:Int):∀ss:List cw,(sN os f t ss).length<=gg ss
 |[]=>nQ _
 |s::ss=>by
  have h:=LG os f t ss
  have ae:=avd (nI f t) s.2
  have au:(lR (s.1,s.2.filter (nI f t))).length=(s.2.filter (nI f t)).length:=by unfold lR;simp
  unfold sN gg at h⊢
  rw [MX]
  split
  ·rw [Er,VH,au,qO,auQ];omega
  ·rw [qO,auQ];omega
theorem aiS{os:List Int}{ss:List cw}(h:jx ss):∀x∈sN os f t ss,xu x:=λx aa=>by
 unfold sN at aa
 obtain⟨s,hs,aa⟩:=as1.1 aa
 obtain⟨h1,ae⟩:=bb.GP.1 aa
 have aZ:=h s (VD.1 hs).1
 have au:=aZ.2 _ (VD.1 ae).1
 exact⟨au.1,by rw [h1];exact aZ.1,au.2⟩
theorem vB(ss:List cw)(k:Nat):gg (ss.take k)<=gg ss:=by
 have:gg ss=gg (ss.take k)+gg (ss.drop k):=by
  unfold gg
  rw [<-avO,<-as2,List.take_append_drop]
 omega
def qL(db:eA)(os:List Int)(f t:Int):List cw:=gz [] (sN os f t db.ss)
theorem DK{db:eA}{os:List Int}(h:jx db.ss):jx (qL db os f t):=jx.put (ss:=[]) (λs hs=>by simp at hs) (aiS h)
theorem DL(db:eA)(os:List Int)(f t:Int):gg (qL db os f t)<=gg db.ss:=by
 have h1:=Lq (sN os f t db.ss) []
 have ae:=LG os f t db.ss
 unfold qL
 have e:gg []=0:=rfl
 omega
theorem LH(db:eA)(os:List Int)(f t:Int):ej (qL db os f t):=(bb.Dl (rows:=sN os f t db.ss) bb.ej.nil).1
theorem look_ok{B:Nat}{m:bg.ei}{A:fK}{db:eA}{os:List Int}{note:Bool}{K:Option Addr->Nat->Nat->J->Prop}(h:h2 H B x N b M m A db)(aa:bk b' H a n c os)(aA:h9 os)(ay:n<=1000000000)(e1:N<=10000)
  (hk:∀aK aQ aT H' hs',Own dL 57 H.size H' aK aQ aT hs'->e9 H' hs' (qL db os f t)->(∀m∈hs',∀q∈ax m.2.1,H.size<=q)->Fr [] H H'->K aK aQ aT H'):
  aY atf aiT ⟨[.pointer (some ⟨x,0,none⟩),.slice a n c,fJ f t,.bool note]⟩ H λv H'=>∃a n c,v=.slice a n c/\K a n c H':=by
 apply aiU
 intro b1 H1 aB
 have ah:aU H1 ⟨b1,0,none⟩ [.int .i64 f,.int .i64 t]:=aB.bo
 have hR:=aB.size
 have fD:=h.p.ab aB.ag
 have pA:=fD.aO.len.trans fD.lS.len
 have q5:=h.g.2
 have eo:=h.q.bL
 have JS:=h.q.ss
 refine⟨λvs H'=>H'=H1,ai (λ_=>rfl) (λ_=>rfl),?_⟩
 rintro bm i ao rfl
 refine⟨_,_,_,fD.bo.ld (j:=3) (by kernel_rfl) rfl,λvs H'=>H'=ao/\vs=[.slice none 0 0,.int .i64 0],λ_ _=>0,⟨rfl,rfl⟩,?_⟩
 rintro bm cM cW c1 i1 aF ⟨rfl,e⟩
 cases e
 refine ai (λc=>by simp at c) λ_=> ?_
 refine⟨_,_,_,fD.bo.ld (j:=10) (by kernel_rfl) rfl,?_⟩
 refine⟨λvs H'=>match vs with|[.slice aK aQ aT,.int _ i]=>∃k:Nat,i=k/\k<=A.bQ.2.1/\Own fT 128 aF.size H' aK aQ aT (sN os f t (db.ss.take k))/\Fr [] aF H'|_=>False,
  λvs _=>match vs with|[_,.int _ i]=>A.bQ.2.1-i.toNat|_=>0,⟨0,rfl,by omega,Own.nil _ _ _ _,Fr.refl _ _⟩,?_⟩
 rintro bm a3 fG c3 i aN ⟨k,rfl,du,an,f4⟩
 have jO:=aB.ag.aw f4
 have z4:=f4.size
 have dk:=an.1
 have KP:=LG os f t (db.ss.take k)
 have e8:=vB db.ss k
 refine ai (λc0=> ?_) (λc0=> ?_)
 ·have gB:k<A.bQ.2.1:=by simpa using c0
  obtain⟨y,av⟩:=eR (l:=A.hs) (i:=k) (by have:=fD.aO.len;omega)
  obtain⟨s,hs,jN⟩:=fD.lS.get av
  have lk:=att hs
  have zL:=eo s lk
  have qA:=jN.2.len
  have u2:db.ss.take (k+1)=db.ss.take k++[s]:=by rw [ats,hs];rfl
  refine(fD.aO.ab f4).get rfl av (decide_eq_true (by omega)) λal bS ak=>⟨_,_,_,_,j4 ak,?_⟩
  refine ia (v:=jM y) (by kernel_rfl) (by kernel_rfl) (by simp [atq,avm]) rfl λnx bw dI lo f5=> ?_
  have lo:aU bw ⟨nx,0,none⟩ (dL.cells y):=lo
  have jQ:=jO.aw f5
  have f35:=f4.aw f5
  have c7:∀{H'},Fr [] bw H'->a7 3 H' ⟨nx,0,none⟩ (.int .i64 y.1):=λaf=>(lo.ab af).b5 (by kernel_rfl) rfl
  refine⟨_,c7 (Fr.refl _ _),aiL (aa.ab jQ) aA ay (ai (λc1=> ?_) (λc1=> ?_))⟩
  ·have kR:s.1∈os:=by rw [<-jN.1];simpa using c1
   refine⟨_,c7 (Fr.refl _ _),_,_,_,lo.bV (j:=1) (by kernel_rfl) rfl,_,_,(ah.ab f35).dX (by kernel_rfl) (by kernel_rfl) rfl,?_⟩
   refine bb.QP (jN.2.ab f35) (by omega) λiX n6 k6 bY gw f6=>⟨c7 f6,λph cC gy=> ?_⟩
   have iK:=avd (nI f t) s.2
   have aq9:=gw.1
   have SQ:ik (s.2.filter (nI f t)):=((h.p.rs.2 s lk).2).filter _
   have Dg:yN [(y.1,s.2.filter (nI f t))]:=⟨by simp,λz aC=>by simp at aC;subst aC;exact SQ⟩
   refine bb.GM (hs:=[(y.1,iX,n6,k6)]) (ss:=[(y.1,s.2.filter (nI f t))]) (gd dL (y.1,iX,n6,k6) gy rfl) (.cons ⟨rfl,gw.bL.ab gy.ag⟩ .nil) Dg (by omega) (λz aC=>by simp at aC;subst aC;simp only;omega) λqv n8 my ed rows ly tW jB f8=> ?_
   have jw:rows=lR (s.1,s.2.filter (nI f t)):=by
    rw [<-jN.1]
    exact tW.eq ⟨bb.Ry SQ,λz=>by simp⟩
   have f78:=(f6.aw gy.ag).aw f8
   have f48:=f5.aw f78
   have aq':=f48.size
   refine iD (t:=128) (E:=fT) (bytes:=24) bb.tU bb.tT (an.ab f48) ly.bL (by omega) (by omega) λa9 n9 c9 ee kP f9 g9=> ?_
   rw [b6 (by omega)]
   refine⟨⟨k+1,rfl,by omega,?_,(f4.aw f48).ab f9 λq a1=> ?_⟩,cJ gB⟩
   ·rw [u2,SP,if_pos kR,<-jw];exact kP
   ·have:=(an.ge q a1).1;omega
  ·have kR:¬s.1∈os:=by rw [<-jN.1];simpa using c1
   rw [b6 (by omega)]
   refine⟨⟨k+1,rfl,by omega,?_,f35⟩,cJ gB⟩
   rw [u2,SP,if_neg kR,as0];exact an.ab f5
 ·have fC:db.ss.take k=db.ss:=asG (by simp at c0;omega)
  rw [fC]at an dk KP
  have SR:∀{α:Type} {E:dd α} {H:J},bk E H none 0 0 []:=⟨rfl,nQ _,.inl rfl⟩
  refine bb.Au (hs:=[]) (ss:=[]) (rows:=[]) SR .nil bb.ej.nil SR (by omega) (by omega) (by simp) λa5 n5 c5 bw tm ey qG aiV f5=> ?_
  have z5:=f5.size
  have je:tm=[]:=asF (qG.len.trans rfl)
  subst je
  have e7:=ey.1
  refine bb.Au (ss:=[]) ey.bL .nil bb.ej.nil (an.ab f5).bL (by simp at e7;omega) (by omega) (by simp) λiX n6 k6 bY IW gw rB aiW f6=> ?_
  exact⟨_,_,_,rfl,hk iX n6 k6 bY IW (gw.base (base':=H.size) (by omega)) rB (λm hm q a1=>by have:=aiW m hm q a1;omega) ((jO.aw f5).aw f6)⟩
noncomputable def queryM(db:eA)(ms:List fg)(f t:Int):List cw:=qL db (jP db.L ms) f t
theorem G7{B:Nat}{m:bg.ei}{A:fK}{db:eA}{xs:List eu}{ms:List fg}{K:Option Addr->Nat->Nat->Int->J->Prop}(h:h2 H B x N b M m A db)(aa:bk cU.hg H a n c xs)(hm:cU.iu H xs ms)(ay:n<=1000000000)(e1:N<=10000)
  (cz:∀H',nN ms f t≠0->Fr [] H H'->K none 0 0 (nN ms f t) H')
  (ff:∀aK aQ aT H' hs',nN ms f t=0->Own dL 57 H.size H' aK aQ aT hs'->e9 H' hs' (queryM db ms f t)->(∀m∈hs',∀q∈ax m.2.1,H.size<=q)->Fr [] H H'->K aK aQ aT 0 H'):
  aY atf aiX ⟨[.pointer (some ⟨x,0,none⟩),.slice a n c,fJ f t]⟩ H λv H'=>∃a n c e,v=.tuple ⟨[.slice a n c,.int .i64 e]⟩/\K a n c e H':=by
 apply aiY
 intro b1 H1 aB
 have ah:aU H1 ⟨b1,0,none⟩ [.int .i64 f,.int .i64 t]:=aB.bo
 have hR:=aB.size
 refine⟨_,_,ah.dX (by kernel_rfl) (by kernel_rfl) rfl,LD (h.p.ab aB.ag) (aa.ab aB.ag) (hm.ab aB.ag) ay (λao he f2=> ?_) (λaK aQ aT ao he an aA aH f2=> ?_)⟩
 ·exact ai (λ_=>⟨_,_,_,_,rfl,cz ao he (aB.ag.aw f2)⟩) (λc=>by simp at c;exact absurd c he)
 ·refine ai (λc=>by simp at c) λ_=> ?_
  have fW:=aB.ag.aw f2
  have z2:=f2.size
  refine⟨_,_,(ah.ab f2).dX (by kernel_rfl) (by kernel_rfl) rfl,look_ok (h.ab fW) an.bL aA (by omega) e1 λa3 fG c3 aF rh eN oj SS f3=>⟨_,_,_,_,rfl,?_⟩⟩
  exact ff a3 fG c3 aF rh he (eN.base (base':=H.size) (by omega)) oj (λm hm q a1=>by have:=SS m hm q a1;omega) (fW.aw f3)
open cU (eu)
open bb (cZ cw e9 sG dL encS ej gz jM j4 fJ)
def oC(B x N b M:Nat)(m:bg.ei)(db:eA)(H:J)(e:Int)(H':J):Prop:=dp e/\∃eM vC,(e≠0->vC=db)/\db.L.length<=vC.L.length/\h2 H' B x (N+200) (b+400000) (M+1) m eM vC/\gL B H H'
theorem oC.same{B:Nat}{m:bg.ei}{A:fK}{db:eA}(az:dp e)(h:h2 H' B x N b (M+1) m A db)(hk:gL B H H'):oC B x N b M m db H e H':=⟨az,A,db,λ_=>rfl,nQ _,h.mono (by omega) (by omega) (by omega),hk⟩
theorem oC.done{B:Nat}{m:bg.ei}{A:fK}{db:eA}{rs:List eK}{w:Nat}(hw:w<=200)(h:h2 H' B x (N+w) (b+400000) (M+1) m A (rs.foldl fU {db with st:=j7 db rs}))(hk:gL B H H'):oC B x N b M m db H 0 H':=⟨⟨by decide,by decide⟩,A,_,λh=>absurd rfl h,Sv rs {db with st:=j7 db rs},h.mono (by omega) (by omega) (by omega),hk⟩
theorem DM(ms:List fg)(f t:Int):dp (nN ms f t):=by
 unfold nN
 split
 ·exact⟨by decide,by decide⟩
 ·split<;>exact⟨by decide,by decide⟩
theorem iy{α:Type}{E:dd α}:bk E H none 0 0 []:=⟨rfl,nQ _,.inl rfl⟩
theorem aiZ{B:Nat}{m:bg.ei}{A:fK}{db:eA}{ms:List rI}{ps:List oB}{K:Int->J->Prop}(h:h2 H B x N b M m A db)
  (aa:bk oA H a n c ms) (bh:AI H ms ps) (uS:∀m∈ms,m.1.2.1<=1000000) (aI:∀p∈ps,dp p.2.2) (ay:n<=1000) (e1:N<=9000) (b8:b<=20000000) (cQ:M<=90) (bK:7<=B) (hk:∀e H',oC B x N b M m db H e H'->K e H'):
  aY atf SE ⟨[.pointer (some ⟨x,0,none⟩),.slice a n c]⟩ H λv H'=>∃e,v=.int .i64 e/\K e H':=
 SD h aa bh uS aI ay (by omega) b8 cQ bK (λe H' eM he az _ bI cP=>hk e H' (.same az bI cP)) λH' eM _ _ bI cP=>hk 0 H' (.done (by omega) bI cP)
theorem ai0{B:Nat}{m:bg.ei}{A:fK}{db:eA}{K:Int->J->Prop}(h:h2 H B x N b M m A db)(e1:N<=9000)(b8:b<=20000000)(cQ:M<=90)(bK:7<=B)(hk:∀e H',oC B x N b M m db H e H'->K e H'):
  aY atf ai1 ⟨[.pointer (some ⟨x,0,none⟩),.int .i64 t]⟩ H λv H'=>∃e,v=.int .i64 e/\K e H':=by
 apply ai2
 have same:∀e,dp e->K e H:=λe az=>hk e H (.same az (h.mono (nQ _) (nQ _) (by omega)) (gL.of (Fr.refl _ _)))
 refine ai (λ_=>⟨_,rfl,same _ ⟨by decide,by decide⟩⟩) λ_=>ai (λ_=>⟨_,rfl,same _ ⟨by decide,by decide⟩⟩) λ_=>⟨_,h.p.bo.ld (j:=12) (by kernel_rfl) rfl,ai (λ_=>⟨_,rfl,same _ ⟨by decide,by decide⟩⟩) λ_ b1 H1 aB=> ?_⟩
 have bc:=aB.eq
 have sw:∀q∈nK x A,q<H.size:=λq a1=>(h.p.wr q a1).2
 refine Ls (w:=0) (h.ab aB.ag) (gd pT (3,(none,0,0),(none,0,0),(none,0,0),t) aB rfl) (qE.one (r:=⟨3,[],[],[],t⟩) ⟨rfl,iy,iy,iy,rfl⟩) (λr aA y av=>by simp at aA;subst aA;simp at av) (λm' ev=>by simp at ev;subst ev;exact⟨by simp,by simp,by simp⟩) (by omega) (by simp [j1,nE]) (by omega) (by omega) b8 cQ (λr aA=>by simp at aA;subst aA;simp)
  (λq a1 aq=>by have:=sw q aq;simp [ax]at a1;omega) (λm' ev q a1=>by simp at ev;subst ev;simp [oz,ax]at a1) bK (λe ao eM _ _ az bI cP=>⟨_,rfl,hk e ao (.same az bI ((gL.of aB.ag).trans cP))⟩) λao eM _ bI cP=>⟨_,rfl,hk 0 ao (.done (apG _) bI ((gL.of aB.ag).trans cP))⟩
theorem DN{db:eA}{os:List Int}(h:jx db.ss):(qL db os f t).length<=200:=by
 have h1:=(LH db os f t).1
 have ae:=DK (os:=os) (f:=f) (t:=t) h
 have au:hf ((qL db os f t).map (·.1)) λz=>z∈(qL db os f t).map (·.1):=⟨auT.2 h1,λ_=>Iff.rfl⟩
 have a6:=cU.FC (N:=200) au λz aC=>by
  obtain⟨s,hs,rfl⟩:=ad6.1 aC
  have:=(ae s hs).1
  exact⟨s.1.toNat,by omega,by omega⟩
 simpa using a6
def uf(aO:dH):g':=(2,(none,0,0),(none,0,0),aO,0)
theorem ai3{b1:Nat}{aO hd':dH}{X:J->Prop}(h:aU H ⟨b1,0,none⟩ (fI (uf aO)))(k:∀H',aU H' ⟨b1,0,none⟩ (fI (uf hd'))->Fr [b1] H H'->X H'):∃H',fb atf 69 H ⟨b1,3,none⟩ (.slice hd'.1 hd'.2.1 hd'.2.2) H'/\X H':=
 aU.st (a:=⟨b1,0,none⟩) (j:=3) (v:=.slice hd'.1 hd'.2.1 hd'.2.2) h (by kernel_rfl) (by kernel_rfl) (lz rfl) (by simp [atq,fI]) λH' ah af=>k H' (by simpa [atq,fI,uf]using ah) af
theorem ai4{B:Nat}{m:bg.ei}{A:fK}{db:eA}{xs:List eu}{ms:List fg}{K:Int->Int->J->Prop}(h:h2 H B x N b M m A db)(aa:bk cU.hg H a n c xs)(hm:cU.iu H xs ms)(ay:n<=1000000000)(e1:N<=9000)(b8:b<=20000000)(cQ:M<=90)(bK:7<=B)
  (hk:∀i e H',dp i->oC B x N b M m db H e H'->K i e H'):
  aY atf ai5 ⟨[.pointer (some ⟨x,0,none⟩),.slice a n c,fJ f t]⟩ H λv H'=>∃i e,v=.tuple ⟨[.int .i64 i,.int .i64 e]⟩/\K i e H':=by
 apply ai6
 intro dU H1 aB
 have ah:aU H1 ⟨dU,0,none⟩ [.int .i64 f,.int .i64 t]:=aB.bo
 have hR:=aB.size
 have i0:dp 0:=⟨by decide,by decide⟩
 have same:∀{i e H'},dp i->dp e->Fr [] H H'->K i e H':=λ{i e H'} az he af=>hk i e H' az (.same he ((h.ab af).mono (nQ _) (nQ _) (by omega)) (gL.of af))
 refine⟨_,_,ah.dX (by kernel_rfl) (by kernel_rfl) rfl,LD (h.p.ab aB.ag) (aa.ab aB.ag) (hm.ab aB.ag) ay (λao he f2=> ?_) (λaK aQ aT ao he an aA aH f2=> ?_)⟩
 ·exact ai (λ_=>⟨_,_,rfl,same i0 (DM _ _ _) (aB.ag.aw f2)⟩) (λc=>by simp at c;exact absurd c he)
 refine ai (λc=>by simp at c) λ_ b1 aF bF=> ?_
 have fW:=aB.ag.aw f2
 have z2:=f2.size
 have dP:=bF.eq
 have z3:=bF.size
 refine Gd (m:=uf (none,0,0)) (m':=m0 0) bF.bo λaN dY f4=> ?_
 have f24:Fr [] ao aN:=bF.ag.ab f4 λk hk=>by simp at hk;omega
 have jO:=fW.aw f24
 have z4:=f4.size
 have mn:=(ah.ab f2).ab f24
 refine⟨_,_,mn.dX (by kernel_rfl) (by kernel_rfl) rfl,look_ok (h.ab jO) (an.bL.ab f24) aA (by omega) (by omega) λa5 n5 c5 bw tm ey qG aiV f5=> ?_⟩
 have z5:=f5.size
 have jQ:=jO.aw f5
 have AK:=DN (os:=jP db.L ms) (f:=f) (t:=t) h.g.1
 have ai7:=DL db (jP db.L ms) f t
 have q5:=h.g.2
 generalize qL db (jP db.L ms) f t=ss at qG AK ai7
 have eo:=qG.len
 have ara:=ey.1
 refine⟨λvs H'=>match vs with|[.int _ s,.int _ i]=>∃(k:Nat) (aO:dH) (ts:List Row),i=k/\s=gg (ss.take k)/\k<=n5/\ts.length=k/\aU H' ⟨b1,0,none⟩ (fI (uf aO))/\Own fp 180 bw.size H' aO.1 aO.2.1 aO.2.2 ts/\Fr [b1] bw H'|_=>False,
  λvs _=>match vs with|[_,.int _ i]=>n5-i.toNat|_=>0,⟨0,(none,0,0),[],rfl,rfl,by omega,rfl,dY.ab f5,Own.nil _ _ _ _,Fr.refl _ _⟩,?_⟩
 rintro bm s i bY ⟨k,aO,ts,rfl,rfl,du,sv,gj,hy,f6⟩
 have xt:=f6.size
 have h0:Fr [] H bY:=jQ.ab f6 λq a1=>by simp at a1;have:=fW.size;omega
 have e8:=vB ss k
 have arb:=hy.1
 refine ai (λc0=> ?_) (λc0=> ?_)
 ·have gB:k<n5:=by simpa using c0
  obtain⟨y,av⟩:=eR (l:=tm) (i:=k) (by omega)
  obtain⟨s,hs,jN⟩:=qG.get av
  have qA:=jN.2.len
  have JA:b1∉ax a5:=λaq=>by have:=(ey.ge _ aq).1;omega
  refine(ey.bL.ag f6 (eG λq a1 aq=>by simp at aq;subst aq;exact JA a1)).get rfl av (decide_eq_true (by omega)) λal bS ak=>⟨_,_,_,_,j4 ak,?_⟩
  refine ia (v:=jM y) (by kernel_rfl) (by kernel_rfl) (by simp [atq,avm]) rfl λph cC ji sO f7=> ?_
  have sO:aU cC ⟨ph,0,none⟩ (dL.cells y):=sO
  have vz:=f7.size
  have oh:dU≠b1:=by have:=aB.eq;have:=bF.eq;have:=f2.size;omega
  refine⟨_,_,_,sO.bV (j:=1) (by kernel_rfl) rfl,_,_,_,(gj.ab f7).bV (j:=3) (by kernel_rfl) rfl,_,sO.b5 (by kernel_rfl) rfl,_,_,(((mn.ab f5).ag f6 (by simpa using oh)).ab f7).dX (by kernel_rfl) (by kernel_rfl) rfl,λyV ed jB=> ?_⟩
  have DO:=jB.size
  refine iD (t:=180) (E:=fp) (bytes:=24) (by kernel_rfl) (by kernel_rfl) ((hy.ab f7).ab jB.ag) (gd fp (y.1,f,t) jB rfl) (by omega) (show(aO.2.1+1)*24<=_ by omega) λa9 n9 c9 ee kP f9 g9=> ?_
  have z9:=f9.size
  have rK:=((gj.ab f7).ab jB.ag).ag f9 λaq=>by have:=(hy.ge _ aq).1;simp only at this;omega
  refine ai3 (hd':=(a9,n9,c9)) rK λfx pj f10=> ?_
  have ai8:gg (ss.take (k+1))=gg (ss.take k)+y.2.2.1:=by
   rw [ats,hs]
   unfold gg
   rw [as2,avO]
   simp;omega
  have u2:=vB ss (k+1)
  rw [b6 (by omega),bb.Aq (by omega),<-ai8]
  refine⟨⟨k+1,(a9,n9,c9),_,rfl,rfl,by omega,by rw [VH];simp;omega,pj,kP.ag f10 (eG λq a1 aq=>by simp at aq;have:=(kP.ge q a1).1;omega),?_⟩,cJ gB⟩
  have g1:Fr [b1] bw ed:=(f6.trans' (f7.aw jB.ag) (T:=[b1]) (λk hk _=>hk) (by simp))
  exact(g1.trans' f9 (λk hk _=>hk) λq a1 aH=>by have:=(hy.ge q a1).1;omega).trans' f10 (λk hk _=>hk) λk hk _=>hk
 ·have u7:k=n5:=by simp at c0;omega
  have ai9:dp (gg (ss.take k):Int):=⟨by omega,by omega⟩
  refine ai (λ_=>⟨_,_,rfl,same i0 i0 h0⟩) λ_=>⟨_,_,_,_,_,_,_,_,_,_,_,gj.dX (by kernel_rfl) (by kernel_rfl) rfl,λph cC gy=> ?_⟩
  have vD:=gy.eq
  have vz:=gy.size
  have p4:=h0.aw gy.ag
  have arc:=h0.size
  have sw:∀q∈nK x A,q<H.size:=λq a1=>(h.p.wr q a1).2
  have ard:=jQ.size
  refine Ls (w:=200) (h.ab p4) (gd pT (uf aO) gy rfl) (qE.one (r:=⟨2,[],[],ts,0⟩) ⟨rfl,iy,iy,(hy.ab gy.ag).bL,rfl⟩) (λr aA y av=>by simp at aA;subst aA;simp at av) (λm' ev=>by simp at ev;subst ev;exact⟨by simp [uf],by simp [uf],by simp only [uf];omega⟩) (by omega) (by simp [j1,nE];omega) (by omega) (by omega) b8 cQ (λr aA=>by simp at aA;subst aA;simp)
   (λq a1 aq=>by have:=sw q aq;simp [ax]at a1;omega) (λm' ev q a1=> ?_) bK (λe ao eM _ he az bI cP=>ai (λ_=>⟨_,_,rfl,hk _ _ ao i0 (.same az bI ((gL.of p4).trans cP))⟩) λc=>by simp at c;exact absurd c he) λao eM _ bI cP=>ai (λc=>by simp at c) λ_=>⟨_,_,rfl,hk _ _ ao ai9 (.done (nQ _) bI ((gL.of p4).trans cP))⟩
  simp at ev;subst ev
  have kl:q∈ax aO.1:=by simpa [oz,uf,ax]using a1
  have:=(hy.ab gy.ag).ge q kl
  exact⟨this.2,λaq=>by have:=sw q aq;omega⟩
open bb (cZ cw e9 sG dL encS ej gz jM j4 GG pc)
theorem ai'{v:Int}(h:dp v):(⟨(oo v).toArray⟩:ByteArray).size<=10:=by
 rw [eQ];exact hi (CC h)
theorem oD{v:Int}{K:ByteArray->J->Prop}(aI:dp v)(hk:∀H',Fr [] H H'->(⟨(oo v).toArray⟩:ByteArray).size<=10->K ⟨(oo v).toArray⟩ H'):aY atf 29 ⟨[.int .i64 v]⟩ H λw H'=>∃s,w=.string s/\K s H':=ad8 aI λH' af=>hk H' af (ai' aI)
def rL(e:Int):ByteArray:=⟨(oo e).toArray⟩++⟨#[58]⟩
theorem vE{K:ByteArray->J->Prop}(he:dp e)(hk:∀H',Fr [] H H'->(rL e).size<=11->K (rL e) H'):aY atf aja ⟨[.int .i64 e]⟩ H λv H'=>∃s,v=.string s/\K s H':=by
 apply ajb
 refine oD he λH1 f1 hs=>cb (decide_eq_true (by omega)) ⟨_,rfl,hk H1 f1 ?_⟩
 unfold rL;rw [avN]
 have:(⟨#[58]⟩:ByteArray).size=1:=rfl
 omega
theorem SU{hs:List bb.bb}{K:Option Addr->Nat->Nat->J->Prop}(aa:bk dL H a n c hs)(ay:n<=1000000)(hk:∀aK aT H',bk dL H' aK n aT hs->Fr [] H H'->K aK n aT H'):
  aY atf ajc ⟨[.slice a n c]⟩ H λv H'=>∃a n c,v=.slice a n c/\K a n c H':=by
 apply ajd
 intro b H1 aB
 have aH:=aa.len
 refine⟨λvs H'=>match vs with|[.slice aK aQ aT,.int _ i]=>∃k:Nat,i=k/\k<=n/\Own dL 183 H.size H' aK aQ aT (hs.take k)/\Fr [] H H'|_=>False,
  λvs _=>match vs with|[_,.int _ i]=>n-i.toNat|_=>0,⟨0,rfl,by omega,Own.made dL 183 aB (nQ _),aB.ag⟩,?_⟩
 rintro bm aK aQ aT i ao ⟨k,rfl,du,an,af⟩
 have dk:=an.1
 rw [apH]at dk
 refine ai (λc0=> ?_) (λc0=>⟨_,_,_,rfl,?_⟩)
 ·have gB:k<n:=by simpa using c0
  obtain⟨y,av⟩:=eR (l:=hs) (i:=k) (by omega)
  refine(aa.ab af).get rfl av (decide_eq_true (by omega)) λal bS ak=>⟨_,GG ak,(aa.ab af).get rfl av (decide_eq_true (by omega)) λal bS ak=>⟨_,_,_,pc ak,?_⟩⟩
  refine k3 (E:=dL) (bytes:=32) y (by kernel_rfl) (by kernel_rfl) an af rfl (by omega) λ_ a3 fG c3 aF au f3 _=> ?_
  rw [b6 (by omega)]
  exact⟨⟨k+1,rfl,by omega,by rw [ats,av];exact au,f3⟩,cJ gB⟩
 ·rw [asG (by simp at c0;omega)]at an
  have:aQ=n:=by simp at c0;omega
  subst this
  exact hk aK aT ao an.bL af
theorem G8{ss:List cw}{k:Nat}{s:cw}(h:ss[k]?=some s):gg (ss.take (k+1))=gg (ss.take k)+s.2.length:=by
 rw [ats,h]
 unfold gg
 rw [as2,avO];simp
theorem SV{hs:List bb.bb}{ss:List cw}{K:ByteArray->J->Prop}(aa:bk dL H a n c hs)(bI:e9 H hs ss)(aZ:jx ss)(bf:gg ss<=10000)(ay:n<=10000)(hk:∀s H',s.size<=1000000->Fr [] H H'->K s H'):
  aY atf aje ⟨[.slice a n c]⟩ H λv H'=>∃s,v=.string s/\K s H':=by
 apply ajf
 have aH:=aa.len
 have eo:=bI.len
 refine⟨λvs H'=>match vs with|[.string s,.int _ i]=>∃k:Nat,i=k/\k<=n/\s.size<=20*k+20*gg (ss.take k)/\Fr [] H H'|_=>False,
  λvs _=>match vs with|[_,.int _ i]=>n-i.toNat|_=>0,⟨0,rfl,by omega,apG _,Fr.refl _ _⟩,?_⟩
 rintro bm s i H1 ⟨k,rfl,du,aC,f1⟩
 have e8:=vB ss k
 refine ai (λc0=> ?_) (λc0=>⟨_,rfl,hk s H1 (by omega) f1⟩)
 have gB:k<n:=by simpa using c0
 obtain⟨y,av⟩:=eR (l:=hs) (i:=k) (by omega)
 obtain⟨x,p5,jN⟩:=bI.get av
 have ov:=att p5
 have qA:=jN.2.len
 have hy:=G8 p5
 have u2:=vB ss (k+1)
 have DP:=aZ x ov
 have get:∀{H'} {X:Addr->Prop},Fr [] H H'->(∀al,a=some al->eP H' (al.add ((k:Int).toNat *dL.sz)) (dL.cells y)->X al)->eO a λal=>da (decide (0<=(k:Int)/\(k:Int)<(n:Int))) (X al):=λaf gU=>(aa.ab af).get rfl av (decide_eq_true (by omega)) gU
 have jZ:y.1=x.1:=jN.1
 refine get f1 λal bS ak=>⟨_,GG ak,get f1 λad2 ea2 kL=>⟨_,_,_,pc kL,oD (by rw [jZ];exact⟨by omega,by omega⟩) λao f2 z2=>⟨pc (kL.ab f2),cb (decide_eq_true (by omega)) (oD ⟨by omega,by omega⟩ λaF f3 z3=>cb (decide_eq_true (by rw [avN];omega)) ?_)⟩⟩⟩
 have f13:=f2.aw f3
 refine⟨λvs H'=>match vs with|[.string s',.int _ i]=>∃j:Nat,i=j/\j<=y.2.2.1/\s'.size<=20*k+20*gg (ss.take k)+20+20*j/\Fr [] H H'|_=>False,
  λvs _=>match vs with|[_,.int _ i]=>y.2.2.1-i.toNat|_=>0,⟨0,rfl,by omega,by rw [avN,avN];omega,f1.aw f13⟩,?_⟩
 rintro bm s' i aN ⟨j,rfl,a',LI,f4⟩
 refine get f4 λad3 ea3 pa=>⟨_,_,_,pc pa,ai (λc1=> ?_) (λc1=> ?_)⟩
 ·have kR:j<y.2.2.1:=by simpa using c1
  obtain⟨p,bh⟩:=eR (l:=x.2) (i:=j) (by omega)
  have vF:=DP.2 p (att bh)
  refine get f4 λad4 ea4 vG=>⟨_,_,_,pc vG,(jN.2.ab f4).get rfl bh (decide_eq_true (by omega)) λad5 ea5 yx=>⟨_,bb.C3 yx,get f4 λad6 ea6 DQ=>⟨_,_,_,pc DQ,(jN.2.ab f4).get rfl bh (decide_eq_true (by omega)) λad7 ea7 DR=>⟨_,bb.GN DR,?_⟩⟩⟩⟩
  refine oD vF.1 λbw f5 z5=>⟨bb.GN (DR.ab f5),pc (DQ.ab f5),cb (decide_eq_true (by omega)) (oD vF.2 λbY f6 xt=>cb (decide_eq_true (by rw [avN];omega)) ?_)⟩
  rw [b6 (by omega)]
  exact⟨⟨j+1,rfl,by omega,by rw [avN,avN];omega,(f4.aw f5).aw f6⟩,cJ kR⟩
 ·have kR:j=y.2.2.1:=by simp at c1;omega
  rw [b6 (by omega)]
  exact⟨⟨k+1,rfl,by omega,by omega,f4⟩,cJ gB⟩
theorem G9{x:Row}(h:eP H al (fp.cells x)):cR atf 3 H (al.add 1) (.int .i64 x.2.1):=kt (by kernel_rfl) h (j:=1) rfl
theorem LJ{x:Row}(h:eP H al (fp.cells x)):cR atf 3 H (al.add 2) (.int .i64 x.2.2):=kt (by kernel_rfl) h (j:=2) rfl
theorem SX{x:Row}(h:eP H al (fp.cells x)):cR atf 3 H al (.int .i64 x.1):=n' (by kernel_rfl) (by have:=h 0 _ rfl;simpa [Addr.add]using this)
theorem ajg{rows:List Row}{K:ByteArray->J->Prop}(aa:bk fp H a n c rows)(aZ:∀x∈rows,xu x)(ay:n<=100000)(hk:∀s H',s.size<=4000000->Fr [] H H'->K s H'):
  aY atf ajh ⟨[.slice a n c]⟩ H λv H'=>∃s,v=.string s/\K s H':=by
 apply aji
 have aH:=aa.len
 refine⟨λvs H'=>match vs with|[.string s,.int _ i]=>∃k:Nat,i=k/\k<=n/\s.size<=30*k/\Fr [] H H'|_=>False,
  λvs _=>match vs with|[_,.int _ i]=>n-i.toNat|_=>0,⟨0,rfl,by omega,by decide,Fr.refl _ _⟩,?_⟩
 rintro bm s i H1 ⟨k,rfl,du,aC,f1⟩
 refine ai (λc0=> ?_) (λc0=>cb (decide_eq_true (by omega)) ⟨_,rfl,hk _ H1 (by rw [avN];have:(⟨#[59]⟩:ByteArray).size=1:=rfl;omega) f1⟩)
 have gB:k<n:=by simpa using c0
 obtain⟨y,av⟩:=eR (l:=rows) (i:=k) (by omega)
 have G':=aZ y (att av)
 have get:∀{X:Addr->Prop},(∀al,a=some al->eP H1 (al.add ((k:Int).toNat *fp.sz)) (fp.cells y)->X al)->eO a λal=>da (decide (0<=(k:Int)/\(k:Int)<(n:Int))) (X al):=λgU=>(aa.ab f1).get rfl av (decide_eq_true (by omega)) gU
 refine get λal bS ak=>⟨_,SX ak,get λad2 ea2 kL=>⟨_,G9 kL,get λad3 ea3 pa=>⟨_,LJ pa,oD G'.1 λao f2 z2=>⟨LJ (pa.ab f2),G9 (kL.ab f2),cb (decide_eq_true (by omega)) (oD ⟨by have:=G'.2.1;omega,by have:=G'.2.1;omega⟩ λaF f3 z3=>⟨LJ ((pa.ab f2).ab f3),cb (decide_eq_true (by rw [avN];omega)) (oD G'.2.2 λaN f4 z4=>cb (decide_eq_true (by rw [avN,avN];omega)) ?_)⟩)⟩⟩⟩⟩
 rw [b6 (by omega)]
 exact⟨⟨k+1,rfl,by omega,by rw [avN,avN,avN];omega,((f1.aw f2).aw f3).aw f4⟩,cJ gB⟩
def LK(s:ByteArray)(p:bC):ByteArray:=s++⟨(oo p.1).toArray⟩++⟨(oo p.2).toArray⟩
open Classical in
noncomputable def yW(l:bX):ByteArray:=if fE l then⟨(ny l).toArray⟩else⟨#[]⟩
noncomputable def Ha(L:List bX)(id:Int):bX:=if 0<=id then L.getD id.toNat []else []
noncomputable def stepA(L:List bX)(s:ByteArray)(x:cw):ByteArray:=x.2.foldl LK (s++yW (Ha L x.1))++⟨#[10]⟩
noncomputable def SY(db:eA):ByteArray:=(queryM db [] 0 1099511627776).foldl (stepA db.L) ⟨#[]⟩
theorem ajj(l:bX):(yW l).size<=700:=by
 unfold yW
 split
 ·rename_i h;rw [eQ];exact wH h
 ·exact apG _
theorem SZ{α β:Type}(f:β->α->β)(b:β){l:List α}{k:Nat}{x:α}(h:l[k]?=some x):(l.take (k+1)).foldl f b=f ((l.take k).foldl f b) x:=by
 rw [ats,h,auX,avX];rfl
theorem Iv{B:Nat}{A:fK}{db:eA}{id:Int}{K:Option Addr->Nat->Nat->J->Prop}(h:iN H B x A db)(hk:∀aK aQ aT H',Own gb 48 H.size H' aK aQ aT (Ha db.L id)->Fr [] H H'->K aK aQ aT H'):
  aY atf ajk ⟨[.pointer (some ⟨x,0,none⟩),.int .i64 id]⟩ H λv H'=>∃a n c,v=.slice a n c/\K a n c H':=by
 apply ajl
 exact⟨_,h.bo.ld (j:=2) (by kernel_rfl) rfl,cU.Iv h.bz λaK aQ aT H' an af=>⟨_,_,_,rfl,hk aK aQ aT H' an af⟩⟩
theorem LL{B:Nat}{A:fK}{db:eA}{K:Int->J->Prop}(h:iN H B x A db)(hk:K db.L.length H):aY atf ajm ⟨[.pointer (some ⟨x,0,none⟩)]⟩ H λv H'=>∃n,v=.int .i64 n/\K n H':=by
 apply ajn
 exact⟨_,h.bo.ld (j:=2) (by kernel_rfl) rfl,cU.Ff h.bz ⟨_,rfl,hk⟩⟩
theorem ajo{l:bX}{K:ByteArray->Int->J->Prop}(aa:bk gb H a n c l)(hk:∀e,K (yW l) e H):aY atf Ql ⟨[.slice a n c]⟩ H λv H'=>∃s e,v=.tuple ⟨[.string s,.int .i64 e]⟩/\K s e H':=
 adD aa (λcL=>by have:=hk 40;unfold yW at this;rwa [if_neg cL]at this) λcL=>by have:=hk 0;unfold yW at this;rwa [if_pos cL]at this
theorem S0{B:Nat}{m:bg.ei}{A:fK}{db:eA}{K:ByteArray->J->Prop}(h:h2 H B x N b M m A db)(e1:N<=10000)(hk:∀H',Fr [] H H'->K (SY db) H'):
  aY atf ajp ⟨[.pointer (some ⟨x,0,none⟩)]⟩ H λv H'=>∃s,v=.string s/\K s H':=by
 apply ajq
 have pX:nN [] 0 1099511627776=0:=by unfold nN;rw [if_neg (λh=>h (by simp)),if_pos (by decide)]
 refine G7 h (xs:=[]) (ms:=[]) iy ⟨rfl,λi x m aa=>by simp at aa⟩ (by omega) e1 (λH1 he _=>absurd pX he) λa n c H1 hs he an bI a1 f1=> ?_
 refine ai (λc=>by simp at c) λ_=> ?_
 have aZ:=DK (os:=jP db.L []) (f:=0) (t:=1099511627776) h.g.1
 have bf:=DL db (jP db.L []) 0 1099511627776
 have ru:=DN (os:=jP db.L []) (f:=0) (t:=1099511627776) h.g.1
 have DS:=h.g.2
 have cA:=hk
 unfold SY queryM at cA
 unfold queryM at bI
 generalize qL db (jP db.L []) 0 1099511627776=ss at bI aZ bf ru cA
 have eo:=bI.len
 have dk:=an.1
 have hR:=f1.size
 refine⟨λvs H'=>match vs with|[.string s,.int _ i]=>∃k:Nat,i=k/\k<=n/\s=(ss.take k).foldl (stepA db.L) ⟨#[]⟩/\s.size<=701*k+20*gg (ss.take k)/\Fr [] H1 H'|_=>False,
  λvs _=>match vs with|[.string s,.int _ i]=>n-i.toNat|_=>0,⟨0,rfl,by omega,rfl,apG _,Fr.refl _ _⟩,?_⟩
 rintro bm s i ao ⟨k,rfl,du,ij,aC,f2⟩
 have e8:=vB ss k
 refine ai (λc0=> ?_) (λc0=>⟨_,rfl,?_⟩)
 rotate_left
 ·rw [asG (by simp at c0;omega)]at ij
  rw [ij];exact cA ao (f1.aw f2)
 have gB:k<n:=by simpa using c0
 obtain⟨y,av⟩:=eR (l:=hs) (i:=k) (by omega)
 obtain⟨fk,p5,jN⟩:=bI.get av
 have ov:=att p5
 have qA:=jN.2.len
 have hy:=G8 p5
 have u2:=vB ss (k+1)
 have DP:=aZ fk ov
 have get:∀{H'} {X:Addr->Prop},Fr [] H1 H'->(∀al,a=some al->eP H' (al.add ((k:Int).toNat *dL.sz)) (dL.cells y)->X al)->eO a λal=>da (decide (0<=(k:Int)/\(k:Int)<(n:Int))) (X al):=λaf gU=>(an.bL.ab af).get rfl av (decide_eq_true (by omega)) gU
 have vH:=ajj (Ha db.L y.1)
 refine get f2 λal bS ak=>⟨_,GG ak,Iv (h.p.ab (f1.aw f2)) λa3 fG c3 aF eN f3=>ajo eN.bL λe=>cb (decide_eq_true (by omega)) ?_⟩
 refine⟨λvs H'=>match vs with|[.string s',.int _ i]=>∃j:Nat,i=j/\j<=y.2.2.1/\s'=(fk.2.take j).foldl LK (s++yW (Ha db.L y.1))/\s'.size<=701*k+20*gg (ss.take k)+700+20*j/\Fr [] H1 H'|_=>False,
  λvs _=>match vs with|[_,.int _ i]=>y.2.2.1-i.toNat|_=>0,⟨0,rfl,by omega,rfl,by rw [avN];omega,f2.aw f3⟩,?_⟩
 rintro bm s' i aN ⟨j,rfl,a',e6,LI,f4⟩
 refine get f4 λad3 ea3 pa=>⟨_,_,_,pc pa,ai (λc1=> ?_) (λc1=> ?_)⟩
 ·have kR:j<y.2.2.1:=by simpa using c1
  obtain⟨p,bh⟩:=eR (l:=fk.2) (i:=j) (by omega)
  have vF:=DP.2 p (att bh)
  refine get f4 λad4 ea4 vG=>⟨_,_,_,pc vG,(jN.2.ab f4).get rfl bh (decide_eq_true (by omega)) λad5 ea5 yx=>⟨_,bb.C3 yx,get f4 λad6 ea6 DQ=>⟨_,_,_,pc DQ,(jN.2.ab f4).get rfl bh (decide_eq_true (by omega)) λad7 ea7 DR=>⟨_,bb.GN DR,?_⟩⟩⟩⟩
  refine oD vF.1 λbw f5 z5=>⟨bb.GN (DR.ab f5),pc (DQ.ab f5),cb (decide_eq_true (by omega)) (oD vF.2 λbY f6 xt=>cb (decide_eq_true (by rw [avN];omega)) ?_)⟩
  rw [b6 (by omega)]
  exact⟨⟨j+1,rfl,by omega,by rw [SZ LK _ bh,<-e6];rfl,by rw [avN,avN];omega,(f4.aw f5).aw f6⟩,cJ kR⟩
 ·have kR:j=y.2.2.1:=by simp at c1;omega
  have fC:fk.2.take j=fk.2:=asG (by omega)
  rw [fC]at e6
  have kV:(⟨#[10]⟩:ByteArray).size=1:=rfl
  have jZ:y.1=fk.1:=jN.1
  refine cb (decide_eq_true (by omega)) ?_
  rw [b6 (by omega)]
  refine⟨⟨k+1,rfl,by omega,?_,by rw [avN];omega,f4⟩,cJ gB⟩
  rw [SZ (stepA db.L) _ p5,<-ij,e6,jZ];rfl
theorem Y3{t:ByteArray}{x y:List UInt8}(h:hW s++x=hW t++y):s=t/\x=y:=by
 unfold hW at h
 rw [ar8,ar8]at h
 obtain⟨h1,ae⟩:=OS h
 subst h1
 exact⟨rfl,List.append_cancel_left ae⟩
open Classical in
noncomputable def ma(r:List UInt8):Option (ByteArray×List UInt8):=
 if h:∃p:ByteArray×List UInt8,p.1.size<18446744073709551616/\r=hW p.1++p.2 then some (Classical.choose h)else none
theorem Y4{r t:List UInt8}(ay:s.size<18446744073709551616)(h:r=hW s++t):ma r=some (s,t):=by
 have aa:∃p:ByteArray×List UInt8,p.1.size<18446744073709551616/\r=hW p.1++p.2:=⟨(s,t),ay,h⟩
 unfold ma
 rw [dif_pos aa]
 have ak:=Classical.choose_spec aa
 have:=Y3 (h.symm.trans ak.2)
 rw [Option.some.injEq]
 exact Prod.ext this.1.symm this.2.symm
theorem OT{r:List UInt8}(h:∀s x,s.size<18446744073709551616->r≠hW s++x):ma r=none:=by
 unfold ma
 rw [dif_neg]
 rintro⟨p,h1,ae⟩
 exact h p.1 p.2 h1 ae
theorem OU{r:List UInt8}{p:ByteArray×List UInt8}(h:ma r=some p):r=hW p.1++p.2:=by
 unfold ma at h
 split at h
 ·rename_i aa
  have ak:=Classical.choose_spec aa
  rw [Option.some.injEq]at h
  rw [h]at ak
  exact ak.2
 ·cases h
noncomputable def scanF:Nat->List UInt8->List ByteArray×List UInt8
 |0,r=>([],r)
 |f+1,r=>match ma r with
  |some p=>(p.1::(scanF f p.2).1,(scanF f p.2).2)
  |none=>([],r)
noncomputable def B2(r:List UInt8):List ByteArray×List UInt8:=scanF (r.length+1) r
theorem Y5{r:List UInt8}{p:ByteArray×List UInt8}(h:ma r=some p)(f:Nat):scanF (f+1) r=(p.1::(scanF f p.2).1,(scanF f p.2).2):=by rw [scanF,h]
theorem OV{r:List UInt8}(h:ma r=none)(f:Nat):scanF f r=([],r):=by
 cases f with
 |zero=>rfl
 |succ f=>rw [scanF,h]
structure uU(s:ByteArray)(M:List ByteArray)(a:Nat):Prop where
 le:a<=s.size
 len:M.length<=a
 out:∃f,s.size-a<f/\B2 (bj s)=(M++(scanF f ((bj s).drop a)).1,(scanF f ((bj s).drop a)).2)
 sm:∀t∈M,t.size<=s.size
theorem uU.start(s:ByteArray):uU s [] 0:=⟨apG _,nQ _,⟨(bj s).length+1,by rw [c6];omega,by rw [as8,List.drop_zero];rfl⟩,by simp⟩
theorem uU.next{M:List ByteArray}{a:Nat}{t:ByteArray}{x:List UInt8}(h:uU s M a)(bf:t.size<18446744073709551616)(aA:(bj s).drop a=hW t++x):uU s (M++[t]) (a+(cx t).length+2):=by
 have aH:=congrArg List.length aA
 rw [asH,c6,VH,yb]at aH
 have aa:(bj s).drop (a+(cx t).length+2)=x:=by
  rw [show a+(cx t).length+2=a+(hW t).length by rw [yb];omega,<-avQ,aA]
  simp
 have hy:t.size<=(cx t).length:=by unfold cx;rw [VH,c6];omega
 obtain⟨f,af,an⟩:=h.out
 refine⟨by have:=h.le;omega,by have:=h.len;simp;omega,⟨f-1,by omega,?_⟩,λy av=> ?_⟩
 ·obtain⟨g,rfl⟩:∃g,f=g+1:=⟨f-1,by omega⟩
  rw [Y5 (Y4 bf aA)]at an
  rw [aa,an]
  simp
 ·rcases asU.1 av with av|av
  ·exact h.sm y av
  ·rw [ar7.1 av];omega
theorem uU.stop{M:List ByteArray}{a:Nat}(h:uU s M a)(ay:ma ((bj s).drop a)=none):B2 (bj s)=(M,(bj s).drop a):=by
 obtain⟨f,af,an⟩:=h.out
 rw [an,OV ay]
 simp
theorem Y6{r:List UInt8}{a:Nat}{t:ByteArray}{next:Int}(h:GT r a t next e)(aA:r.length<18446744073709551616):(e≠0/\ma r=none)\/(e=0/\next=((a+(cx t).length:Nat):Int)/\t.size<18446744073709551616/\(cx t).length<=r.length/\r=cx t++r.drop (cx t).length/\∀p,ma r=some p->p.1=t/\r=hW t++p.2):=by
 rcases h with⟨h1,ae,au,a6⟩|⟨_,_,au,a6⟩|⟨_,_,au,_,a6⟩
 ·have dC:=OW ae
  refine .inr ⟨a6,au,by omega,ae,h1,λp bh=> ?_⟩
  have a1:=OU bh
  have:=a1
  unfold hW at this
  rw [ar8]at this
  have:=(OS (h1.symm.trans this)).1
  exact⟨this.symm,by rw [this];exact a1⟩
 ·refine .inl ⟨by omega,OT λs x hs e=> ?_⟩
  unfold hW at e
  rw [ar8]at e
  exact a6.no s hs e
 ·refine .inl ⟨by omega,OT λs x hs e=> ?_⟩
  unfold hW cx at e
  rw [ar8,ar8]at e
  exact a6 s.size hs _ e
theorem or_val{a:Nat}(bQ:a<256)(ah:b<256):IntKind.i64.wrap ((BitVec.toNat (atg 64 (IntKind.i64.wrap (IntKind.i64.wrap (a:Int)*2^8))|||atg 64 (IntKind.i64.wrap (b:Int))):Nat):Int)=((a*256+b:Nat):Int):=by
 rw [dv (n:=(a:Int)) (by omega) (by omega),show((2:Int)^8)=256 by rfl,dv (n:=(a:Int)*256) (by omega) (by omega),dv (n:=(b:Int)) (by omega) (by omega),show(a:Int)*256=((a*256:Nat):Int) by omega]
 simp only [BitVec.toNat_or,BitVec.ofInt_natCast,BitVec.toNat_ofNat]
 rw [auR (by omega),auR (by omega)]
 have:=Nat.shiftLeft_add_eq_or_of_lt (i:=8) (b:=b) ah a
 rw [Nat.shiftLeft_eq]at this
 rw [<-this]
 exact dv (by omega) (by omega)
theorem OX{K:Option Addr->Nat->Nat->Int->J->Prop}(dc:k8 H)(hs:s.size<=1000000000)
  (hk:∀M (a:Nat) o n c H',a<=s.size->B2 (bj s)=(M,(bj s).drop a)->(∀t∈M,t.size<=s.size)->Own bs.dT 9 H.size H' o n c M->Fr [] H H'->K o n c a H'):
  aY atf Y7 ⟨[.string s]⟩ H λv H'=>∃o n c i,v=.tuple ⟨[.slice o n c,.int .i64 i]⟩/\K o n c i H':=by
 apply Y8
 have fi:=c6 s
 refine⟨λvs H'=>match vs with|[.slice o n c,.int _ i]=>∃(M:List ByteArray) (a:Nat),i=a/\uU s M a/\Own bs.dT 9 H.size H' o n c M/\Fr [] H H'|_=>False,
  λvs _=>match vs with|[_,.int _ i]=>s.size-i.toNat|_=>0,⟨[],0,rfl,uU.start s,⟨rfl,.inl ⟨rfl,rfl,rfl⟩⟩,Fr.refl _ _⟩,?_⟩
 rintro bm o n c i H1 ⟨M,a,rfl,bI,an,af⟩
 have pA:=bI.le
 refine OY (by omega) (λh=>absurd ⟨by omega,by omega⟩ h) λaK bS ha' t next e ao aZ bt=> ?_
 have bS:aK=a:=by omega
 subst bS
 have sf:((bj s).drop aK).length=s.size-aK:=by rw [asH,fi]
 have de:=an.ab bt
 have f2:=af.aw bt
 have FE:=dc.ab f2
 have stop:ma ((bj s).drop aK)=none->∀H',Fr [] ao H'->∃OZ eh fZ i,avR ⟨[.slice o n c,.int .i64 aK]⟩=.tuple ⟨[.slice OZ eh fZ,.int .i64 i]⟩/\K OZ eh fZ i H':=λay H' dZ=>⟨_,_,_,_,rfl,hk M aK _ _ _ H' pA (bI.stop ay) bI.sm (de.ab dZ) (f2.aw dZ)⟩
 refine⟨λ_ H'=>e=0/\(∃x,(bj s).drop aK=hW t++x)/\t.size<18446744073709551616/\next=((aK+(cx t).length:Nat):Int)/\Fr [] ao H',⟨λvs H'=>match vs with|[.bool b]=>Fr [] ao H'/\((b=true/\ma ((bj s).drop aK)=none)\/(b=false/\e=0/\(∃x,(bj s).drop aK=hW t++x)/\t.size<18446744073709551616/\next=((aK+(cx t).length:Nat):Int)))|_=>False,?_,?_⟩,?_⟩
 ·rcases Y6 aZ (by omega)with⟨h1,ae⟩|⟨h1,ae,au,a6,bu,ca⟩
  ·exact ai (λ_=>⟨Fr.refl _ _,.inl ⟨rfl,ae⟩⟩) (λh=>absurd (by simpa using h) h1)
  ·subst h1 ae
   refine ai (λh=>by simp at h) λ_=> ?_
   have hle:aK+(cx t).length<=s.size:=by omega
   rw [dv (n:=(s.size:Int)-((aK+(cx t).length:Nat):Int)) (by omega) (by omega)]
   have cz:∀p,ma ((bj s).drop aK)=some p->(cx t).length+2<=s.size-aK:=λp bh=>by
    have:=congrArg List.length (ca p bh).2
    rw [VH,yb]at this
    omega
   refine ai (λh=> ?_) (λh=> ?_)
   ·refine⟨Fr.refl _ _,.inl ⟨rfl,?_⟩⟩
    cases bh:ma ((bj s).drop aK)with
    |none=>rfl
    |some p=>have:=cz p bh;simp at h;omega
   ·have cF:aK+(cx t).length+2<=s.size:=by simp at h;omega
    rw [dv (n:=((aK+(cx t).length:Nat):Int)+1) (by omega) (by omega)]
    refine cb (decide_eq_true (by omega)) (cb (decide_eq_true (by omega)) ?_)
    refine OO FE (by have:=OW a6;omega) λaF bG=> ?_
    obtain⟨b1,cI⟩:=eR (l:=bj s) (i:=aK+(cx t).length) (by omega)
    obtain⟨b2,b8⟩:=eR (l:=bj s) (i:=aK+(cx t).length+1) (by omega)
    have O0:bl s (((aK+(cx t).length:Nat):Int).toNat)=b1.toNat:=B3 (by rw [yc];exact cI)
    have Io:bl s ((((aK+(cx t).length:Nat):Int)+1).toNat)=b2.toNat:=B3 (by rw [yc,show(((aK+(cx t).length:Nat):Int)+1).toNat=aK+(cx t).length+1 by omega];exact b8)
    rw [O0,Io,or_val (avS _) (avS _)]
    have kU:=FF (bj t)
    have ap3:b1.toNat<256:=avS _
    have ap4:b2.toNat<256:=avS _
    have yd:((bj s).drop aK).drop (cx t).length=b1::b2::(bj s).drop (aK+(cx t).length+2):=by
     rw [avQ]
     have bc:(bj s).drop (aK+(cx t).length)=b1::(bj s).drop (aK+(cx t).length+1):=by
      obtain⟨dN,dm⟩:=qb.1 cI
      rw [avj dN,dm]
     have bN:(bj s).drop (aK+(cx t).length+1)=b2::(bj s).drop (aK+(cx t).length+2):=by
      obtain⟨dN,dm⟩:=qb.1 b8
      rw [avj dN,dm]
     rw [bc,bN]
    refine⟨bG,?_⟩
    by_cases aa:b1.toNat *256+b2.toNat=k9 (bj t)
    ·right
     rw [aa]
     refine⟨by simp,rfl,⟨(bj s).drop (aK+(cx t).length+2),?_⟩,au,rfl⟩
     rw [bu,yd]
     unfold hW
     have dN:apK (k9 (bj t)/256)=b1:=by
      rw [show k9 (bj t)/256=b1.toNat by omega];exact av9
     have dm:apK (k9 (bj t) % 256)=b2:=by
      rw [show k9 (bj t) % 256=b2.toNat by omega];exact av9
     rw [dN,dm]
     simp
    ·left
     have:¬((b1.toNat *256+b2.toNat:Nat):Int)=((k9 (bj t):Nat):Int):=by omega
     refine⟨by simpa using this,?_⟩
     cases bh:ma ((bj s).drop aK)with
     |none=>rfl
     |some p=>
      exfalso
      have a1:=(ca p bh).2
      rw [a1]at yd
      unfold hW at yd
      rw [ar8,List.drop_left]at yd
      simp only [asx,as8,List.cons.injEq]at yd
      apply aa
      rw [<-yd.1,<-yd.2.1,atu,atu]
      omega
 ·rintro dF b aF ⟨bG,⟨rfl,ay⟩|⟨rfl,h1,ae,au,a6⟩⟩
  ·exact ai (λ_=>stop ay aF bG) (λh=>by cases h)
  ·exact ai (λh=>by cases h) (λ_=>⟨h1,ae,au,a6,bG⟩)
 ·rintro dF aF ⟨rfl,⟨x,aa⟩,bf,rfl,bG⟩ b aN cp
  have tr:=bI.next bf aa
  have kV:=an.1
  have qw:=bI.len
  have au:=tr.le
  refine pD (E:=bs.dT) (bytes:=16) bg.I4 FI ((de.ab bG).ab cp.ag) ((f2.aw bG).aw cp.ag) (gd bs.dT t cp rfl) (by omega) λlH aQ aT bw ey bW _=>⟨⟨M++[t],_,?_,tr,ey,bW⟩,?_⟩
  ·exact dv (by omega) (by omega)
  ·show s.size-(IntKind.i64.wrap (((aK+(cx t).length:Nat):Int)+2)).toNat<s.size-((aK:Nat):Int).toNat
   rw [dv (by omega) (by omega)]
   omega
theorem Sp{q:ByteArray}{K:Bool->J->Prop}(hk:∀b H',(b=true->q.size<=1024)->Fr [] H H'->K b H'):
  aY atf ah8 ⟨[.agg ⟨[.string q,.int .i64 t,.int .i64 i]⟩]⟩ H λv H'=>∃b,v=.bool b/\K b H':=by
 apply ah9
 intro b H1 aB
 have ah:aU H1 ⟨b,0,none⟩ [.string q,.int .i64 t,.int .i64 i]:=aB.bo
 have no:∃b,atp false=.bool b/\K b H1:=⟨_,rfl,hk _ _ (λh=>by cases h) aB.ag⟩
 have c7:∃s,a7 9 H1 ⟨b,0,none⟩ (.string s)/\∃fO,atp (decide ((s.size:Int)<=1024))=.bool fO/\K fO H1:=⟨_,ah.bV (j:=0) (by kernel_rfl) rfl,_,rfl,hk _ _ (λh=>by simp at h;omega) aB.ag⟩
 have fy:a7 3 H1 ⟨b,1,none⟩ (.int .i64 t):=ah.bV (j:=1) (by kernel_rfl) rfl
 have hv:a7 3 H1 ⟨b,2,none⟩ (.int .i64 i):=ah.bV (j:=2) (by kernel_rfl) rfl
 exact⟨_,hv,ai (λ_=>⟨_,fy,ai (λ_=>c7) λ_=>no⟩) λ_=>⟨_,hv,ai (λ_=>⟨_,hv,ai (λ_=>⟨_,fy,ai (λ_=>⟨_,fy,ai (λ_=>c7) λ_=>no⟩) λ_=>no⟩) λ_=>no⟩) λ_=>no⟩⟩
theorem Sq(n:Int):∃k:Nat,IntKind.u64.wrap n=(k:Int)/\k<18446744073709551616:=by
 have:=bg.Jt n
 exact⟨(IntKind.u64.wrap n).toNat,by omega,by omega⟩
theorem ah'{n:Int}(h:0<=n)(ae:n<256):IntKind.u8.wrap n=n:=by
 unfold atj
 simp [ato,atx]
 omega
theorem Sr{q:ByteArray}{K:ByteArray->Int->J->Prop}(bf:k8 H)(hk:∀s e H',s.size<=10000->(e=0\/e=1)->Fr [] H H'->K s e H'):
  aY atf aia ⟨[.agg ⟨[.string q,.int .i64 t,.int .i64 i]⟩]⟩ H λv H'=>∃s e,v=.tuple ⟨[.string s,.int .i64 e]⟩/\K s e H':=by
 apply aib
 intro b H1 aB
 have ah:aU H1 ⟨b,0,none⟩ [.string q,.int .i64 t,.int .i64 i]:=aB.bo
 refine⟨_,_,_,ah.dX (by kernel_rfl) (by kernel_rfl) rfl,Sp λfj ao a1 f2=>ai (λ_=>⟨_,_,rfl,hk _ _ _ (apG _) (.inr rfl) (aB.ag.aw f2)⟩) λc b2 aF bF=> ?_⟩
 have kl:=a1 (by simpa using c)
 have bc:=aB.eq
 have dP:=bF.eq
 have hR:=aB.size
 have z2:=f2.size
 have f13:=f2.aw bF.ag
 have dQ:=ah.ab f13
 refine⟨_,dQ.bV (j:=0) (by kernel_rfl) rfl,_,dQ.bV (j:=1) (by kernel_rfl) rfl,_,dQ.bV (j:=2) (by kernel_rfl) rfl,te (by omega) λaN f4=>⟨(dQ.ab f4).bV (j:=2) (by kernel_rfl) rfl,(dQ.ab f4).bV (j:=1) (by kernel_rfl) rfl,?_⟩⟩
 obtain⟨fe,pH,Ss⟩:=Sq t
 obtain⟨gq,nz,St⟩:=Sq (IntKind.i64.wrap (i+1))
 rw [pH,nz]
 have hJ:(⟨(cx q).toArray⟩:ByteArray).size<=1034:=by
  rw [eQ];unfold cx
  rw [VH,c6]
  have:=hi (n:=q.size) (by omega)
  omega
 have s1:(⟨(cD fe).toArray⟩:ByteArray).size<=10:=by rw [eQ];exact hi Ss
 have s2:(⟨(cD gq).toArray⟩:ByteArray).size<=10:=by rw [eQ];exact hi St
 refine oT Ss λbw f5=>⟨((dQ.ab f4).ab f5).bV (j:=2) (by kernel_rfl) rfl,cb (decide_eq_true (by omega)) (oT St λbY f6=>cb (decide_eq_true (by rw [avN];omega)) ?_)⟩
 have f16:=((f13.aw f4).aw f5).aw f6
 have h0:=aB.ag.aw f16
 refine OR (bf.ab h0) (by rw [avN,avN];omega) λcC f7=> ?_
 refine B0 ef.str ef.bL (by kernel_rfl) λp aT ed bh eo f8=> ?_
 have Cd:(⟨(hW (⟨(cx q).toArray⟩++⟨(cD fe).toArray⟩++⟨(cD gq).toArray⟩)).toArray⟩:ByteArray).size<=2000:=by
  rw [eQ,yb]
  unfold cx
  rw [VH,c6,avN,avN]
  have:=hi (n:=((⟨(cx q).toArray⟩:ByteArray)++⟨(cD fe).toArray⟩++⟨(cD gq).toArray⟩).size) (by rw [avN,avN];omega)
  rw [avN,avN]at this
  unfold cx at hJ this
  omega
 generalize(⟨(hW (⟨(cx q).toArray⟩++⟨(cD fe).toArray⟩++⟨(cD gq).toArray⟩)).toArray⟩:ByteArray)=df at eo Cd⊢
 have iK:=c6 df
 have f38:=(((f4.aw f5).aw f6).aw f7).aw f8
 have yS:=(h0.aw f7).aw f8
 have z3:=bF.size
 have vz:=f7.size
 have xt:=f16.size
 refine⟨λvs H'=>match vs with|[.int _ x]=>∃(k:Nat) (S:List Nat) (xs:List UInt8),x=k/\k<=df.size/\hI H' b2 S xs/\xs.length<=2*k/\(∀j∈S,H.size<=j/\j≠p)/\bk fQ H' (some ⟨p,0,none⟩) df.size aT (bj df)/\Fr [] H H'|_=>False,
  λvs _=>match vs with|[.int _ x]=>df.size-x.toNat|_=>0,⟨0,[b2],[],rfl,by omega,(l4.new bF).ab f38,by simp,λj a'=>by
   simp at a';subst a'
   have cM:=h0.size
   have a2:=((f4.aw f5).aw f6).size
   exact⟨by omega,by omega⟩,eo,yS⟩,?_⟩
 rintro bm x ee ⟨k,S,xs,rfl,du,bK,jr,bI,Lo,f9⟩
 refine ai (λc0=> ?_) (λc0=>r5 bK (by omega) λfx f10=>⟨_,_,rfl,hk _ _ _ (by rw [eQ];omega) (.inl rfl) (f9.ab f10 λj a'=>(bI j a').1)⟩)
 have gB:k<df.size:=by simpa using c0
 obtain⟨u,hu⟩:=eR (l:=bj df) (i:=k) (by omega)
 have nm:p<ee.size:=by
  obtain⟨fO,off,e,aH⟩:=Lo.arr.lt (λe=>by rw [e]at hu;simp at hu)
  cases e;exact aH
 refine Lo.get rfl hu (decide_eq_true (by omega)) λal bS ak=>⟨_,iq (by kernel_rfl) ak,?_⟩
 have aq4:=u.toNat_lt
 have d1:Int.fdiv (u.toNat:Int) (2^4)=((u.toNat/16:Nat):Int):=fd _ 16 (by decide)
 rw [d1]
 refine cb (decide_eq_true ⟨by omega,by omega⟩) (u9 bK rfl (by omega) λfx dn C8 f10 g1=> ?_)
 have d2:IntKind.u8.wrap (((atg 8 (u.toNat:Int)&&&atg 8 15).toNat:Nat):Int)=((u.toNat % 16:Nat):Int):=by rw [ON (by omega),ah' (by omega) (by omega)]
 rw [d2]
 have Lp:=f10.size
 have pZ:∀j∈dn,H.size<=j/\j≠p:=λj a'=>by
  rcases g1 j a' with w|w
  ·exact bI j w
  ·have:=f9.size;exact⟨by omega,by omega⟩
 refine cb (decide_eq_true ⟨by omega,by omega⟩) (u9 C8 rfl (by rw [VH];simp;omega) λlE S2 w3 f11 g2=> ?_)
 rw [b6 (by omega)]
 refine⟨⟨k+1,S2,_,rfl,by omega,w3,by simp only [VH,asE,atc];omega,λj a'=> ?_,(Lo.ag f10 λal e aq=> ?_).ag f11 λal e aq=> ?_,(f9.ab f10 λj a'=>(bI j a').1).ab f11 λj a'=>(pZ j a').1⟩,cJ gB⟩
 ·rcases g2 j a' with w|w
  ·exact pZ j w
  ·have:=f9.size;exact⟨by omega,by omega⟩
 ·cases e;exact(bI _ aq).2 rfl
 ·cases e;exact(pZ _ aq).2 rfl
theorem ajr(n:Int):∃k:UInt8,IntKind.u8.wrap n=(k.toNat:Int):=by
 have h:0<=IntKind.u8.wrap n/\IntKind.u8.wrap n<256:=by
  unfold atj
  simp [ato,atx]
  omega
 exact⟨apK (IntKind.u8.wrap n).toNat,by rw [atu];omega⟩
theorem ajs{K:ByteArray->Bool->J->Prop}(hs:s.size<=1000000)(hk:∀t b H',t.size<=s.size->Fr [] H H'->K t b H'):
  aY atf ajt ⟨[.string s]⟩ H λv H'=>∃t b,v=.tuple ⟨[.string t,.bool b]⟩/\K t b H':=by
 apply aju
 intro b H1 aB
 have hR:=aB.size
 have bc:=aB.eq
 refine JZ ef.str λr ao aA ae f2=> ?_
 refine⟨λvs H'=>∃(p:Nat) (S:List Nat) (xs:List UInt8),H'[r]?=some (.stringIter s p)/\p<=s.size/\hI H' b S xs/\xs.length<=p/\(∀j∈S,H.size<=j/\j≠r)/\Fr [] H H',λ_ H'=>u' r s H',⟨0,[b],[],ae,by omega,(l4.new aB).ab f2,by simp,λj a'=>by simp at a';subst a';exact⟨by omega,by omega⟩,aB.ag.aw f2⟩,?_⟩
 rintro bm n aF ⟨p,S,xs,au,bh,bK,jr,bI,f3⟩
 refine J0 au (λzH=>.inl ⟨rfl,r5 bK (by omega) λaN f4=>⟨_,_,rfl,hk _ _ aN (by rw [eQ];omega) (f3.ab f4 λj a'=>(bI j a').1)⟩⟩) (λcF aN a6 f4=>.inr ⟨_,_,rfl,_,rfl,?_⟩)
 have Hb:Fr [] H aN:=f3.ab f4 (λk hk=>by simp at hk;omega)
 have aO:=J1 s p cF
 generalize Utf8.decode s p=d at aO a6⊢
 obtain⟨c,w⟩:=d
 obtain⟨tM,mK,mL,Af,yu⟩:=aO
 simp only at tM mK mL Af yu a6⊢
 have S1:1<=w/\p+w<=s.size:=by
  by_cases hw:gK s p=0
  ·obtain⟨rfl,rfl⟩:=mK hw;omega
  ·obtain⟨bu,ca⟩:=tM hw
   rw [bu];exact⟨by omega,J3 cF⟩
 have mn:hI aN b S xs:=bK.ag f4 λj a'=>by simp;exact(bI j a').2
 have no:∃t b,avR ⟨[.string ⟨#[]⟩,.bool false]⟩=.tuple ⟨[.string t,.bool b]⟩/\K t b aN:=⟨_,_,rfl,hk _ _ aN (apG _) Hb⟩
 have em:∀{H'},H'[r]?=some (.stringIter s (p+w))->u' r s H'<u' r s aF:=λh=>by rw [Ae h,Ae au];omega
 refine⟨λ_ H'=>H'=aN,⟨λ_ H'=>H'=aN,ai (λ_=>rfl) (λ_=>rfl),?_⟩,?_⟩
 ·rintro bm fj bw rfl
  exact ai (λ_=>rfl) (λ_=>ai (λ_=>ai (λ_=>rfl) λ_=>no) λ_=>no)
 ·rintro bm d bw rfl
  refine ai (λ_=>⟨⟨p+w,S,xs,a6,S1.2,mn,by omega,bI,Hb⟩,em a6⟩) (λ_=> ?_)
  obtain⟨k,ajv⟩:=ajr (IntKind.i64.wrap ((atg 64 (IntKind.i64.wrap (n*2^4))|||atg 64 d).toNat:Nat))
  rw [ajv]
  refine u9 mn rfl (by omega) λbY B' sP f6 g6=> ?_
  have ca:bY[r]?=some (.stringIter s (p+w)):=f6.get a6 λaq=>(bI _ aq).2 rfl
  have xt:=f6.size
  have ry:=k2 a6
  have are:=Hb.size
  exact⟨⟨p+w,B',_,ca,S1.2,sP,by simp;omega,λj a'=>by
   rcases g6 j a' with q|q
   ·exact bI j q
   ·exact⟨by omega,by omega⟩,Hb.ab f6 λj a'=>(bI j a').1⟩,em ca⟩
theorem ajw{q:ByteArray}{x:Row}{K:Bool->J->Prop}(hk:∀b H',Fr [] H H'->K b H'):
  aY atf ajx ⟨[.agg ⟨[.string q,.int .i64 t,.int .i64 i]⟩,.agg ⟨[.int .i64 x.1,.int .i64 x.2.1,.int .i64 x.2.2]⟩]⟩ H λv H'=>∃b,v=.bool b/\K b H':=by
 apply ajy
 intro b H1 aB b1 ao bH
 have f:=aB.ag.aw bH.ag
 have ah:aU ao ⟨b,0,none⟩ [.string q,.int .i64 t,.int .i64 i]:=aB.bo.ab bH.ag
 have cI:aU ao ⟨b1,0,none⟩ [.int .i64 x.1,.int .i64 x.2.1,.int .i64 x.2.2]:=bH.bo
 have fy:a7 3 ao ⟨b,1,none⟩ (.int .i64 t):=ah.bV (j:=1) (by kernel_rfl) rfl
 have hv:a7 3 ao ⟨b,2,none⟩ (.int .i64 i):=ah.bV (j:=2) (by kernel_rfl) rfl
 have m0:a7 3 ao ⟨b1,0,none⟩ (.int .i64 x.1):=cI.b5 (by kernel_rfl) rfl
 have m1:a7 3 ao ⟨b1,1,none⟩ (.int .i64 x.2.1):=cI.bV (j:=1) (by kernel_rfl) rfl
 have ok:∀fj,∃b,atp fj=.bool b/\K b ao:=λfj=>⟨_,rfl,hk fj ao f⟩
 exact⟨_,hv,ai (λ_=>ok _) λ_=>⟨_,fy,_,m0,ai (λ_=>ok _) λ_=>⟨_,fy,_,m0,ai (λ_=>⟨_,hv,_,m1,ok _⟩) λ_=>ok _⟩⟩⟩
theorem ajz{q:ByteArray}{k:Int}{rows:List Row}{K:Option Addr->Nat->Nat->Bool->J->Prop}(aa:bk fp H a n c rows)(ay:n<=100000000)(pH:1<=k)
  (hk:∀aK aQ aT b H' out,Own fp 128 H.size H' aK aQ aT out->(∀x∈out,x∈rows)->(aQ:Int)<=k->(b=true->1<=aQ)->Fr [] H H'->K aK aQ aT b H'):
  aY atf ajA ⟨[.slice a n c,.agg ⟨[.string q,.int .i64 t,.int .i64 i]⟩,.int .i64 k]⟩ H λv H'=>∃a n c b,v=.tuple ⟨[.slice a n c,.bool b]⟩/\K a n c b H':=by
 apply ajB
 intro b H1 aB
 have aH:=aa.len
 have hR:=aB.size
 have ah:aU H1 ⟨b,0,none⟩ [.string q,.int .i64 t,.int .i64 i]:=aB.bo
 refine⟨λvs H'=>match vs with|[.slice aK aQ aT,.int _ j]=>∃(vq:Nat) (out:List Row),j=vq/\vq<=n/\(aQ<=vq/\(aQ:Int)<=k)/\Own fp 128 H1.size H' aK aQ aT out/\(∀x∈out,x∈rows)/\Fr [] H1 H'|_=>False,
  λvs _=>match vs with|[_,.int _ j]=>n-j.toNat|_=>0,⟨0,[],rfl,by omega,⟨by omega,by omega⟩,Own.nil _ _ _ _,by simp,Fr.refl _ _⟩,?_⟩
 rintro bm aK aQ aT j ao ⟨vq,out,rfl,du,GW,an,eC,f2⟩
 have done:∀{fj:Bool} {H'},Fr [] ao H'->(fj=true->1<=aQ)->∃a n c b,avR ⟨[.slice aK aQ aT,.bool fj]⟩=.tuple ⟨[.slice a n c,.bool b]⟩/\K a n c b H':=λaf hq=>⟨_,_,_,_,rfl,hk aK aQ aT _ _ out ((an.ab af).base (base':=H.size) (by omega)) eC GW.2 hq ((aB.ag.aw f2).aw af)⟩
 refine ai (λc0=> ?_) (λc0=>done (Fr.refl _ _) λh=>by cases h)
 have gB:vq<n:=by simpa using c0
 obtain⟨x,p5⟩:=eR (l:=rows) (i:=vq) (by omega)
 refine((aa.ab aB.ag).ab f2).get rfl p5 (decide_eq_true (by omega)) λal bS ak=>⟨_,_,_,JJ ak,?_⟩
 refine ia (v:=.agg ⟨fp.cells x⟩) (by kernel_rfl) (by kernel_rfl) (by simp [atq,fp,avm]) rfl λcX aF dQ sF f3=> ?_
 have sF:aU aF ⟨cX,0,none⟩ (fp.cells x):=sF
 refine⟨_,_,_,((ah.ab f2).ab f3).dX (by kernel_rfl) (by kernel_rfl) rfl,_,_,_,sF.dX (by kernel_rfl) (by kernel_rfl) rfl,ajw λfj aN f4=> ?_⟩
 have f24:=f3.aw f4
 refine ai (λ_=> ?_) (λ_=>ai (λc1=>done f24 λ_=> ?_) λc1=>⟨_,_,_,(sF.ab f4).dX (by kernel_rfl) (by kernel_rfl) rfl,?_⟩)
 ·rw [b6 (by omega)]
  exact⟨⟨vq+1,out,rfl,by omega,⟨by omega,GW.2⟩,an.ab f24,eC,f2.aw f24⟩,cJ gB⟩
 ·simp at c1;omega
 ·refine k3 (E:=fp) (bytes:=24) x bb.tU bb.tT (an.ab f24) (f2.aw f24) rfl (by omega) λ_ a5 n5 c5 bw ey f5 _=> ?_
  rw [b6 (by omega)]
  have dk:=an.1
  have ajC:=ey.1
  simp at ajC
  simp at c1
  exact⟨⟨vq+1,_,rfl,by omega,⟨by omega,by omega⟩,ey,λy av=>by
   rcases asU.1 av with q|q
   ·exact eC y q
   ·simp at q;subst q;exact att p5,f5⟩,cJ gB⟩
theorem Hc{q q':ByteArray}{t' i':Int}{X:J->Prop}(h:aU H ⟨b,0,none⟩ [.string q,.int .i64 t,.int .i64 i])(k:∀H',aU H' ⟨b,0,none⟩ [.string q',.int .i64 t',.int .i64 i']->Fr [b] H H'->X H'):
  ∃H',fb atf 195 H ⟨b,0,none⟩ (.agg ⟨[.string q',.int .i64 t',.int .i64 i']⟩) H'/\X H':=
 h.jq (v:=.agg ⟨[.string q',.int .i64 t',.int .i64 i']⟩) (by kernel_rfl) (by kernel_rfl) (λx aa=>by simp [atq]at aa;rcases aa with rfl|rfl|rfl<;>rfl) (by simp [atq]) λH' ah af=>k H' (by simpa [atq]using ah) af
theorem ajD{x:ByteArray}(h:eP H (al.add ((0:Int).toNat *bs.dT.sz)) (bs.dT.cells x)):a7 9 H al (.string x):=by
 have e:al.add ((0:Int).toNat *bs.dT.sz)=al:=zZ al
 rw [e]at h
 exact iq (by kernel_rfl) h
theorem S3{at':Int}{K:Int->Int->Int->J->Prop}(hs:s.size<=100000000000)(hk:∀v m e,K v m e H):
  aY atf Qp ⟨[.string s,.int .i64 at']⟩ H λv H'=>∃n m e,v=.tuple ⟨[.int .u64 n,.int .i64 m,.int .i64 e]⟩/\K n m e H':=Jn hs (λ_=>hk _ _ _) λ_ _ _ v m e _=>hk v m e
theorem ajE{K:ByteArray->Int->Int->Int->J->Prop}(dc:k8 H)(hs:s.size<=1000000)(hk:∀q t i e H',(e=0->q.size<=1024)->(e=0\/e=200)->Fr [] H H'->K q t i e H'):
  aY atf ajF ⟨[.string s]⟩ H λv H'=>∃q t i e,v=.tuple ⟨[.agg ⟨[.string q,.int .i64 t,.int .i64 i]⟩,.int .i64 e]⟩/\K q t i e H':=by
 apply ajG
 intro b H1 aB
 have bc:=aB.eq
 have hR:=aB.size
 have ah:aU H1 ⟨b,0,none⟩ [.string ⟨#[]⟩,.int .i64 0,.int .i64 0]:=aB.bo
 have bad:∀{H':J},Fr [] H1 H'->∃cv,fX 195 H' ⟨b,0,none⟩ (.agg ⟨[.string ⟨#[]⟩,.int .i64 0,.int .i64 0]⟩) cv/\∃s n gV,a7 195 cv ⟨b,0,none⟩ (.agg ⟨[.string s,.int .i64 n,.int .i64 gV]⟩)/\∃q t i e,avR ⟨[.agg ⟨[.string s,.int .i64 n,.int .i64 gV]⟩,.int .i64 200]⟩=.tuple ⟨[.agg ⟨[.string q,.int .i64 t,.int .i64 i]⟩,.int .i64 e]⟩/\K q t i e cv:=λaf=>
  Hc (ah.ab af) λao b8 f2=>⟨_,_,_,b8.dX (by kernel_rfl) (by kernel_rfl) rfl,_,_,_,_,rfl,hk _ _ _ _ ao (λh=>by cases h) (.inr rfl) ((aB.ag.aw af).ab f2 λk hk=>by simp at hk;omega)⟩
 refine ajs hs λt fj ao bf f2=> ?_
 refine OX ((dc.ab aB.ag).ab f2) (by omega) λM a o n c aF bQ hsc dC an f3=> ?_
 have f13:=f2.aw f3
 refine⟨λ_ H'=>H'=aF/\n=1,ai (λ_=>bad f13) (λ_=>ai (λ_=>bad f13) λc1=>ai (λ_=>bad f13) λ_=>⟨rfl,by simp at c1;omega⟩),?_⟩
 rintro bm H' ⟨rfl,ay⟩
 have dk:=an.1
 obtain⟨c7,DJ⟩:=eR (l:=M) (i:=0) (by omega)
 have arf:=dC c7 (att DJ)
 have get:∀{aN} {X:Addr->Prop},Fr [] H' aN->(∀al,a7 9 aN al (.string c7)->X al)->eO o λal=>da (decide (0<=(0:Int)/\(0:Int)<(n:Int))) (X al):=λaf gU=>(an.ab af).bL.get (k:=0) rfl DJ (decide_eq_true (by omega)) λal bS ak=>gU al (ajD ak)
 refine get (Fr.refl _ _) λal aH=>⟨_,aH,OY (by omega) (λh=>absurd h (by omega)) λa0 arh ari q O0 e aN DS f4=>ai (λ_=>bad (f13.aw f4)) λc2=> ?_⟩
 have ajH:q.size<=c7.size:=by
  have fi:=c6 c7
  rcases DS with⟨_,ae,_,_⟩|⟨rfl,_⟩|⟨rfl,_⟩
  ·have au:(cx q).length=(cD q.size).length+q.size:=by unfold cx;rw [VH,c6]
   have:((bj c7).drop a0).length<=c7.size:=by rw [asH];omega
   omega
  ·exact apG _
  ·exact apG _
 refine get f4 λad2 ru=>⟨_,ru,S3 (by omega) λv4 n5 nO=>get f4 λad3 JK=>⟨_,JK,S3 (by omega) λHd n8 yX=> ?_⟩⟩
 have S4:=f13.aw f4
 refine⟨λ_ H'=>H'=aN,⟨λvs H'=>H'=aN,ai (λ_=>rfl) (λ_=>ai (λ_=>rfl) λ_=>get f4 λad4 ajI=>⟨_,ajI,ai (λ_=>rfl) λ_=>ai (λ_=>rfl) λ_=>rfl⟩),?_⟩,?_⟩
 ·rintro bm b2 cC rfl
  exact ai (λ_=>bad S4) λ_=>rfl
 ·rintro bm cC rfl b2 ed jB
  have b8:aU ed ⟨b2,0,none⟩ [.string ⟨#[]⟩,.int .i64 0,.int .i64 0]:=jB.bo
  have He:=jB.eq
  refine Hc b8 λee rK f9=>⟨_,_,_,rK.dX (by kernel_rfl) (by kernel_rfl) rfl,?_⟩
  have f19:Fr [] H1 ee:=S4.aw (jB.ag.ab f9 λk hk=>by simp at hk;omega)
  refine Sp λcX fx a1 f10=>ai (λ_=>bad (f19.aw f10)) λc3=> ?_
  refine⟨_,_,_,(rK.ab f10).dX (by kernel_rfl) (by kernel_rfl) rfl,Hc ((ah.ab f19).ab f10) λlE DT f11=>⟨_,_,_,DT.dX (by kernel_rfl) (by kernel_rfl) rfl,_,_,_,_,rfl,?_⟩⟩
  exact hk _ _ _ _ lE (λ_=>a1 (by simpa using c3)) (.inl rfl) ((aB.ag.aw (f19.aw f10)).ab f11 λk hk=>by simp at hk;omega)
open cU (eu eW l9 iu jF)
theorem S5{sep:List UInt8}(h:sep.length=1):∀l:List ByteArray,(nG sep l).length<=hA l+l.length
 |[]=>apG _
 |x::l=>by
  have:∀l:List ByteArray,(l.flatMap λs=>sep++bj s).length=hA l+l.length:=λl=>by
   induction l with
   |nil=>rfl
   |cons y l ih=>
    rw [Er,VH,ih,VH,c6,h]
    unfold hA
    rw [qO,auQ,asE];omega
  unfold nG
  rw [VH,this,c6]
  unfold hA
  rw [qO,auQ,asE];omega
theorem S6(aD:0<=i)(au:i<=3):∃jX v,iB atf 375 [.string ⟨#[61]⟩,.func (.func 333) ⟨[]⟩ ⟨[]⟩,.string ⟨#[33,61]⟩,.func (.func 334) ⟨[]⟩ ⟨[]⟩,.string ⟨#[94,61]⟩,.func (.func 335) ⟨[]⟩ ⟨[]⟩,.string ⟨#[64,61]⟩,.func (.func 337) ⟨[]⟩ ⟨[]⟩] (i.toNat *2) (.agg ⟨[.string jX,v]⟩)/\jX.size<=2/\v.oneCell'=true:=by
 have ak:i=0\/i=1\/i=2\/i=3:=by omega
 rcases ak with rfl|rfl|rfl|rfl
 ·exact⟨⟨#[61]⟩,.func (.func 333) ⟨[]⟩ ⟨[]⟩,by unfold iB;kernel_rfl,by decide,rfl⟩
 ·exact⟨⟨#[33,61]⟩,.func (.func 334) ⟨[]⟩ ⟨[]⟩,by unfold iB;kernel_rfl,by decide,rfl⟩
 ·exact⟨⟨#[94,61]⟩,.func (.func 335) ⟨[]⟩ ⟨[]⟩,by unfold iB;kernel_rfl,by decide,rfl⟩
 ·exact⟨⟨#[64,61]⟩,.func (.func 337) ⟨[]⟩ ⟨[]⟩,by unfold iB;kernel_rfl,by decide,rfl⟩
theorem S7{H0:J}{LM S8:Nat}{x:eu}{S9:Option Addr}{l parts:List ByteArray}{X:Option Addr->Nat->Nat->J->Prop}(aI:eW H b x)(g0:0<=x.1)(g3:x.1<=3)(dC:x.2.1.size<=16)(a':bk bs.dT H S9 LM S8 l)(LN:LM<=8)(Fs:hA l<=1000)
  (an:Own bs.dT 9 H0.size H a n c parts) (af:Fr [] H0 H) (ay:n<=8) (hk:∀aK aQ aT s H',Own bs.dT 9 H0.size H' aK aQ aT (parts++[s])->s.size<=1100->Fr [] H0 H'->X aK aQ aT H'):
  ∃s,a7 9 H ⟨b,1,none⟩ (.string s)/\∃n11,a7 3 H ⟨b,0,none⟩ (.int .i64 n11)/\ba 250 ⟨[]⟩ H λv cC=>∃qt v1 FU v2 tj v3 BN v4,v=.agg ⟨[.string qt,v1,.string FU,v2,.string tj,v3,.string BN,v4]⟩/\a7 3 cC ⟨b,0,none⟩ (.int .i64 n11)/\a7 9 cC ⟨b,1,none⟩ (.string s)/\da (decide (0<=n11/\n11<((4:Nat):Int))) (∃jX v,iB atf 375 [.string qt,v1,.string FU,v2,.string tj,v3,.string BN,v4] (n11.toNat *2) (.agg ⟨[.string jX,v]⟩)/\da (decide (s.size+jX.size<=9223372036854775807)) (cE 251 [.slice S9 LM S8,.string ⟨#[124]⟩] cC λDO ed=>a7 3 ed ⟨b,0,none⟩ (.int .i64 n11)/\a7 9 ed ⟨b,1,none⟩ (.string s)/\da (decide ((s++jX).size+DO.size<=9223372036854775807)) (∀ks ee,ds ed ks (.cells ⟨[.string (s++jX++DO)]⟩ 9) ee->cj atf (Builtin.append_ ⟨[114,114]⟩ 114 ⟨[.slice a n c,.slice (some ⟨ks,0,none⟩) 1 1]⟩) ee λv fx=>∃a n c,v=.slice a n c/\X a n c fx))):=by
 refine⟨_,aI.fy,_,aI.c7,cU.IJ λaF f3=>⟨_,_,_,_,_,_,_,_,rfl,(aI.ab f3).c7,(aI.ab f3).fy,gC ⟨by omega,by omega⟩ ?_⟩⟩
 obtain⟨jX,v,bh,ae,_⟩:=S6 g0 g3
 have EZ:=a'.len
 have zQ:=S5 (sep:=bj ⟨#[124]⟩) rfl l
 refine⟨jX,v,bh,cb (decide_eq_true (by omega)) (J4 (a'.ab f3) (by omega) rfl (by omega) λaN f4=> ?_)⟩
 have hx:(⟨(nG (bj ⟨#[124]⟩) l).toArray⟩:ByteArray).size<=1008:=by rw [eQ];omega
 have f34:=f3.aw f4
 refine⟨(aI.ab f34).c7,(aI.ab f34).fy,cb (decide_eq_true (by rw [avN];omega)) ?_⟩
 exact k3 (E:=bs.dT) (bytes:=16) (x.2.1++jX++⟨(nG (bj ⟨#[124]⟩) l).toArray⟩) (by kernel_rfl) (by kernel_rfl) (an.ab f34) (af.aw f34) rfl (by omega) λ_ aK aQ aT bw bu f5 _=>hk aK aQ aT _ bw bu (by rw [avN,avN];omega) f5
theorem ajJ{m:fg}(h:k7 m):0<=m.1/\m.1<=3/\m.2.1.size<=16/\m.2.2.1.size<=32/\m.2.2.2.length<=8/\∀v∈m.2.2.2,v.size<=32:=by
 obtain⟨h1,ae⟩:=h
 have ay:m.2.1.size<=16:=h1.2.1
 rcases ae with⟨au,a6,bu,ca⟩|⟨au,a6,bu,ca,dJ,hx⟩
 ·exact⟨au,by omega,ay,ca.1,by rw [bu];decide,by rw [bu];simp⟩
 ·exact⟨by omega,by omega,ay,by rw [a6];decide,ca,λv aI=>(dJ v aI).1⟩
theorem S'{xs:List eu}{ms:List fg}{K:ByteArray->Int->J->Prop}(aa:bk cU.hg H a n c xs)(hm:iu H xs ms)(hk:∀s e H',s.size<=100000->(e=0\/e=50)->Fr [] H H'->K s e H'):
  aY atf ajK ⟨[.slice a n c]⟩ H λv H'=>∃s e,v=.tuple ⟨[.string s,.int .i64 e]⟩/\K s e H':=by
 apply ajL
 have aH:=aa.len
 have qw:=hm.len
 refine ai (λ_=>⟨_,_,rfl,hk _ _ _ (apG _) (.inr rfl) (Fr.refl _ _)⟩) λc0=> ?_
 have jB:n<=8:=by simp at c0;omega
 refine⟨λvs H'=>match vs with|[.slice aK aQ aT,.int _ i]=>∃(k:Nat) (parts:List ByteArray),i=k/\k<=n/\aQ=k/\Own bs.dT 9 H.size H' aK aQ aT parts/\hA parts<=1100*k/\Fr [] H H'|_=>False,
  λvs _=>match vs with|[_,.int _ i]=>n-i.toNat|_=>0,⟨0,[],rfl,by omega,rfl,Own.nil _ _ _ _,by decide,Fr.refl _ _⟩,?_⟩
 rintro bm aK aQ aT i H1 ⟨k,parts,rfl,du,rfl,an,Fs,f1⟩
 refine ai (λc1=> ?_) (λc1=> ?_)
 ·have kR:aQ<n:=by simpa using c1
  obtain⟨x,p5⟩:=eR (l:=xs) (i:=aQ) (by omega)
  obtain⟨m,nJ⟩:=eR (l:=ms) (i:=aQ) (by omega)
  have cQ:=hm.at' aQ x m p5 nJ
  refine(aa.ab f1).get rfl p5 (decide_eq_true (by omega)) λal bS ak=>⟨_,_,_,_,_,_,cU.Ft ak,cU.OK rfl λb ao ah aI f2=>⟨_,_,_,_,_,_,aI.nt,?_⟩⟩
  have f12:=f1.aw f2
  refine cU.OH (cQ.ab f12) λaF f3=>ai (λc2=>⟨_,_,rfl,hk _ _ _ (apG _) (by unfold FB;split<;>simp) (f12.aw f3)⟩) λc2=> ?_
  have cL:k7 m:=Classical.byContradiction λh=>by rw [IU h]at c2;simp at c2
  obtain⟨g0,g3,LO,ajM,yY,gs⟩:=ajJ cL
  rw [cQ.kind]at g0 g3
  rw [cQ.name]at LO
  rw [cQ.val]at ajM
  have eo:=cQ.set.len
  have Gk:=aI.ab f3
  have f13:=f12.aw f3
  have f23:=f2.aw f3
  refine⟨_,_,_,Gk.n4,λvs H'=>match vs with|[.slice iX n6 k6,.int _ j]=>∃(e4:Nat) (LP:List ByteArray),j=e4/\e4<=x.2.2.2.2.1/\n6=e4/\Own bs.dT 9 aF.size H' iX n6 k6 LP/\hA LP<=66*e4/\Fr [] aF H'|_=>False,
   λvs _=>match vs with|[_,.int _ j]=>x.2.2.2.2.1-j.toNat|_=>0,⟨0,[],rfl,by omega,rfl,Own.nil _ _ _ _,by decide,Fr.refl _ _⟩,?_⟩
  rintro bm iX n6 k6 j aN ⟨e4,LP,rfl,zQ,rfl,LQ,ajN,f4⟩
  have f14:=f13.aw f4
  have jO:=f14
  have yo:=Gk.ab f4
  have eV:=(an.ab f23).ab f4
  have DF:∀{aK tk aT s H'},Own bs.dT 9 H.size H' aK tk aT (parts++[s])->s.size<=1100->Fr [] H H'->∃(k:Nat) (parts:List ByteArray),IntKind.i64.wrap ((aQ:Int)+1)=k/\k<=n/\tk=k/\Own bs.dT 9 H.size H' aK tk aT parts/\hA parts<=1100*k/\Fr [] H H':=λ{aK tk aT s H'} h1 ae au=>by
   have bc:=h1.1
   have bN:=an.1
   rw [VH]at bc
   simp at bc
   refine⟨aQ+1,_,b6 (by omega),by omega,by omega,h1,?_,au⟩
   unfold hA at Fs⊢
   rw [as2,avO]
   simp
   omega
  refine ai (λc3=> ?_) (λc3=>⟨_,yo.c7,ai (λc4=> ?_) (λc4=> ?_)⟩)
  ·have AL:n6<x.2.2.2.2.1:=by simpa using c3
   obtain⟨v,Ta⟩:=eR (l:=m.2.2.2) (i:=n6) (by omega)
   have ajO:=gs v (att Ta)
   refine((cQ.set.ab f13).ab f4).get rfl Ta (decide_eq_true (by omega)) λal bS ak=>⟨_,iq (by kernel_rfl) ak,J7 (by omega) λbw f5=> ?_⟩
   have a1:(⟨(pV (bj v)).toArray⟩:ByteArray).size<=66:=by
    rw [eQ]
    have:=CP (bj v)
    rw [c6]at this;omega
   refine k3 (E:=bs.dT) (bytes:=16) (⟨(pV (bj v)).toArray⟩:ByteArray) (by kernel_rfl) (by kernel_rfl) (LQ.ab f5) (f4.aw f5) rfl (by omega) λ_ ib n7 pI bY ca f6 _=> ?_
   have bc:=ca.1
   have bN:=LQ.1
   rw [VH]at bc
   simp at bc
   rw [b6 (by omega)]
   refine⟨⟨n6+1,_,rfl,by omega,by omega,ca,?_,f6⟩,cJ AL⟩
   unfold hA at ajN⊢
   rw [as2,avO]
   simp
   omega
  ·refine⟨_,yo.hv,J7 (by omega) λbw f5 b1 bY hL=> ?_⟩
   have a1:(⟨(pV (bj x.2.2.1)).toArray⟩:ByteArray).size<=66:=by
    rw [eQ]
    have:=CP (bj x.2.2.1)
    rw [c6]at this;omega
   have f46:=f5.aw hL.ag
   refine S7 (yo.ab f46) g0 g3 LO (gd bs.dT (⟨(pV (bj x.2.2.1)).toArray⟩:ByteArray) hL rfl) (by omega) (by simp [hA];omega) (eV.ab f46) (jO.aw f46) (by omega) λib n7 pI jX cC dJ vz f7=>⟨DF dJ vz f7,?_⟩
   rw [b6 (by omega)];exact cJ kR
  ·refine S7 yo g0 g3 LO LQ.bL (by omega) (by omega) eV jO (by omega) λib n7 pI jX cC dJ vz f7=>⟨DF dJ vz f7,?_⟩
   rw [b6 (by omega)];exact cJ kR
 ·have dk:=an.1
  have zQ:=S5 (sep:=bj ⟨#[44]⟩) rfl parts
  refine J4 an.bL (by omega) rfl (by omega) λao f2=> ?_
  have hx:(⟨(nG (bj ⟨#[44]⟩) parts).toArray⟩:ByteArray).size<=9000:=by rw [eQ];omega
  have hR:(⟨#[91]⟩:ByteArray).size=1:=rfl
  have z2:(⟨#[93]⟩:ByteArray).size=1:=rfl
  exact cb (decide_eq_true (by omega)) (cb (decide_eq_true (by rw [avN];omega)) ⟨_,_,rfl,hk _ _ ao (by rw [avN,avN];omega) (.inl rfl) (f1.aw f2)⟩)
end Go.Proofs
