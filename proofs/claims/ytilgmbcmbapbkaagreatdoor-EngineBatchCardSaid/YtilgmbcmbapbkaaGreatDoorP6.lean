/- Part of a proof. -/
import Derived.Test.YtilgmbcmbapbkaaGreatDoorP5
import Derived.Lib.Overlaps
import Derived.Lib.AppendZerosOnto
import Derived.Test.YtilgmbcmbapbkaaGreatDoorF02n
open _root_.List renaming length_append→ax6,replicate→aA1,mem_of_getElem?→azR,append_assoc→ax7,take_of_length_le→ayB,length_cons→ayi,length_drop→ayY,mem_cons→axA,getElem?_eq_some_iff→axC,length_take→ayj,take_add_one→azP,length_replicate→aA3,mem_map→ayf,mem_append→azb,eq_nil_of_length_eq_zero→ayT,getElem?_map→ayp,drop_drop→aA4,flatMap_cons→axO,pairwise_iff_getElem→aAD,append_nil→azh,mem_filter→ax2,replicate_succ→aA6,take_append_drop→aAd,drop_zero→aA8,length_nil→azs,flatMap_append→azf,map_cons→axE,nodup_cons→ayk,getElem?_range→aBa,getElem?_eq_none→ayL,take_left'→aBb,drop_of_length_le→az2,getElem?_eq_getElem→ayA,length→aBc,mem_append_left→aBd,pairwise_map→az5,mem_flatMap→azi,take_append_of_le_length→aBe,nil_append→ayn,nodup_append→azk,drop_left'→aBf,sum_cons→azT,map_congr_left→aBi,size_toArray→ay9,length_map→azU,getElem?_drop→ax5,length_pos_iff→aAI,range→ayD,mem_iff_getElem?→aAK,singleton_append→azt,length_filter_le→aAm,ext_getElem?→ayK,mem_range→aBo,map_append→azj,getElem_set→aBp,foldl_cons→ayF,mem_append_right→aBs,getElem?_take→axN,append_cancel_left→aBt,pairwise_append→aAE,take_length_add_append→aBv,flatten_cons→aAz,drop_append_of_le_length→aBw,all_eq_true→ax3,length_set→aBy,foldl_append→aAZ,cons_append→axV,takeWhile_cons→aBA,drop_eq_getElem_cons→az6,range_succ→aBB,append_cancel_left_eq→aBC,mem_nil_iff→azS,pairwise_cons→aAv,length_flatMap→aBD,take_length→ayX,mem_reverse→aBE
open _root_.Go.Value renaming cells→azI,tuple→aA7,agg→ax8
open _root_.UInt8 renaming ofNat→axX,toNat_ofNat'→axY
open _root_.Go.IntKind renaming wrap→azQ,bits→azF,signed→azO
open _root_.Go.Proofs.Tryz renaming prog→azB,underlying137→aBq,underlying214→aBx
open _root_.Nat renaming le_refl→axx,le_trans→ax4,pow_pos→aA2,add_mul→axK,mul_comm→ayU,zero_add→axJ,pow_add→aA5,mod_eq_of_lt→aAb,pow_succ→aym,pow_le_pow_right→azN,lt_of_le_of_lt→aA9,lt_of_lt_of_le→ayQ,mul_lt_mul_of_pos_right→aBg,mul_le_mul→aBh,mul_le_mul_right→axQ,sub_self→aBk,mod_le→aBm,add_assoc→ayG,max_eq_left→aBn,lt_or_ge→azH,zero_le→ayv,le_add_right→az9,div_le_self→aBr,mod_lt→ayq,div_eq_of_lt_le→aBz
open _root_.Int renaming tdiv→azE,toNat_natCast→ayS,toNat→azw,natCast_nonneg→aBl,fdiv_eq_ediv_of_nonneg→aAa
open _root_.BitVec renaming ofInt→azx
open _root_.ByteArray renaming size_append→aBj,toList→azL,size→azC
open _root_.Option renaming getD_some→aAn,filter→aBu
set_option linter.unusedVariables false
set_option linter.unusedSimpArgs false
set_option maxRecDepth 100000
open Go Go.bk
namespace Go.Proofs.aZ
theorem aaW{l:List (ByteArray×ByteArray)}(ay:(l.map (·.1)).Nodup):∃ys,yP (dS l) ys:=by
 let L:List (cR ByteArray):=l.map λp=>(p.1,.nilFunc,0)
 have bZ:∀y,(∃x∈L,x.1=y)↔∃p∈l,p.1=y:=λy=>by
  constructor
  ·rintro⟨x,aa,e⟩
   obtain⟨p,aH,rfl⟩:=ayf.1 aa
   exact⟨p,aH,e⟩
  ·rintro⟨p,aH,e⟩
   exact⟨_,ayf.2 ⟨p,aH,rfl⟩,e⟩
 have al:∀zs:List (List UInt8),(zs.map λx=>(⟨x.toArray⟩:ByteArray)).map bd=zs:=λzs=>by
  rw [List.map_map]
  conv=>rhs;rw [<-List.map_id zs]
  exact aBi λx _=>rfl
 have hs:=Qe (L:=L) (xs:=l.map (·.1)) (ys:=(((l.map (·.1)).map bd).mergeSort (λx y=>decide (x<=y))).map λx=>(⟨x.toArray⟩:ByteArray)) ⟨ay,λy=> ?_⟩ (al _)
 ·refine⟨_,hs.1,λy=> ?_⟩
  rw [hs.2,yQ]
  exact bZ y
 ·rw [bZ]
  exact ayf
theorem Qf{sz:Int}{st:gB}{ch:(ByteArray->Option ByteArray)->ByteArray->Option ByteArray}{l:List (ByteArray×ByteArray)}(h1:st.last=λ_=>none)(ab:st.dir=[])(av:ch st.now=dS l)(cp:Room sz l):changeM sz st ch=({st with now:=dS l},0):=by
 obtain⟨ys,ru⟩:=aaW cp.fL
 have hm:∀y,y∈ys↔∃p∈l,p.1=y:=λy=>by rw [ru.2,yQ]
 have iA:ys.Nodup:=by
  have:=ru.1
  rw [az5]at this
  exact this.imp λ{a b} h e=>by subst e;exact absurd h (List.lt_irrefl _)
 have Gu:∀y∈ys,∃p∈l,p.1=y/\(dS l y)=some p.2:=λy aA=>by
  obtain⟨p,aH,e⟩:=(hm y).1 aA
  exact⟨p,aH,e,J9 cp.fL (by rw [<-e];exact aH)⟩
 have cd:(ys.map (pJ (dS l))).sum<=(l.map λp=>js p.2.size).sum:=by
  refine ax4 (J' cp.fL iA hm (pJ (dS l))) ?_
  have e:(l.map λp=>pJ (dS l) p.1)=l.map λp=>js p.2.size:=aBi λp aH=>by unfold pJ;rw [J9 cp.fL (y:=p.1) (d:=p.2) aH];rfl
  rw [e];exact axx _
 have ee:(ys.map λy=>3+y.size).sum<=(l.map λp=>3+p.1.size).sum:=J' cp.fL iA hm λy=>3+y.size
 have aE:=cp.z
 unfold changeM planN
 rw [av,h1,ab,Qg ru,if_pos (aad (λy aA=>by obtain⟨p,aH,e,_⟩:=Gu y aA;rw [<-e];exact(cp.s1 p aH).1) (λy aA=>by obtain⟨p,aH,e,q⟩:=Gu y aA;rw [q];exact(cp.s1 p aH).2) (by have:=aae cp.fL iA hm;have:=cp.len;omega) (aE.imp (λh=>⟨h.1,by omega,by omega⟩) λh=>⟨h.1,by omega,by omega⟩))]
theorem Qh{sz:Int}{st:gB}{l:List (ByteArray×ByteArray)}{now:ByteArray->Option ByteArray}(h1:st.last=λ_=>none)(ab:st.dir=[])(av:now=dS l)(cp:Room sz l):sy st now:=
 ⟨by rw [ab];simp,(λbX d xs aG=>by rw [h1]at aG;cases aG),λy d h=>by
  rw [av]at h
  have:=cp.s1 _ (CR h)
  exact⟨by have:=this.1;simp only at this;omega,by have:=this.2;simp only at this;omega⟩⟩
structure CS(sz:Int)(R:List (ByteArray×ByteArray)->Prop):Prop where
 w:∀l k v,ly k->R ((k,v)::fx k l)->writeS sz (hQ l) k v=(hQ ((k,v)::fx k l),0)/\sy (hQ l) (oi (dS l) k v)
 d:∀l k v,ly k->(k,v)∈l->R (fx k l)->AN sz (hQ l) k=(hQ (fx k l),0)/\sy (hQ l) (vw (dS l) k)
theorem Qi(sz:Int):CS sz (Room sz) where
 w:=λl k v aB cp=>by
  refine⟨?_,Qh rfl rfl (Gg l k v) cp⟩
  unfold writeS
  rw [if_pos aB]
  exact Qf (st:=hQ l) (ch:=λnow=>oi now k v) rfl rfl (Gg l k v) cp
 d:=λl k v aB hm cp=>by
  refine⟨?_,Qh rfl rfl (PV l k) cp⟩
  unfold AN
  rw [if_pos aB,if_pos (by show(dS l k).isSome=true;rw [yQ];exact⟨_,hm,rfl⟩)]
  exact Qf (st:=hQ l) (ch:=λnow=>vw now k) rfl rfl (PV l k) cp
end Go.Proofs.aZ
namespace Go.Proofs.aS
theorem G0{H:U}{b:Nat}{S:List Nat}{xs:List UInt8}(h:jR H b S xs):b∈S/\In H S:=by
 have:=mo.lt h
 obtain⟨p,ad,n,c,dJ,h1,ar,a7,rfl,b5⟩:=h
 exact⟨by simp,this⟩
theorem apc{n:Int}(h:0<=n)(ab:n<18446744073709551616):azQ .u64 n=((n.toNat:Nat):Int):=by rw [ix h ab];omega
end Go.Proofs.aS
namespace Go.bk
open Go.ChangeShapes Go.WideShapes Go.RowKit
theorem Sl{α:Type}(E:di α)(xs:List α)(i:Nat):(xs.flatMap E.cells).take (i*E.sz)=(xs.take i).flatMap E.cells/\(xs.flatMap E.cells).drop (i*E.sz)=(xs.drop i).flatMap E.cells:=by
 induction xs generalizing i with
 |nil=>simp
 |cons x xs ih=>
  have aG:=E.len x
  cases i with
  |zero=>simp
  |succ i=>
   have e:(i+1)*E.sz=(E.cells x).length+i*E.sz:=by rw [axK,aG];omega
   obtain⟨h1,ab⟩:=ih i
   rw [axO,e,aBv,List.drop_length_add_append,h1,ab]
   simp
theorem GW{α:Type}{E:di α}{P:Program}{ts ty t base bytes:Nat}{H:U}{b n c:Nat}{xs ys:List α}{i dl Ba m Sm adL q:Nat}{vF:Option Addr}{K:Int->U->Prop}
  (ji:sliceB P ts t=true) (he:j8 P t E.sz bytes=true) (aw:Own E t base H (some ⟨b,0,none⟩) n c xs) (aA:bt E H vF q adL ys) (aO:Nat.min m dl=q) (dT:i<=n) (az:i+q<=c)
  (hk:∀H',Own E t base H' (some ⟨b,0,none⟩) (max n (i+q)) c (xs.take i++ys++xs.drop (i+q))->Fr [b] H H'->K q H'):
  gD P (Builtin.copy_ ⟨[ts,ts]⟩ ty ⟨[.slice (some ⟨b,i*E.sz,none⟩) dl Ba,.slice vF m Sm]⟩) H λv H'=>∃n,v=.int .i64 n/\K n H':=by
 intro e2 d
 obtain⟨inf,z,h1,ab,ar,a7,bs,b5,cT⟩:=G' he
 have hu:=rI ji
 have hlen:=aw.1
 obtain⟨aG,fF⟩:=aw
 rcases fF with⟨e,_⟩|⟨iR,cur,e,al,aq,av,hm,hs,aW⟩
 ·cases e
 ·cases e
  have s0:=aA.len
  have iD:(ys.flatMap E.cells).length=q*E.sz:=by rw [s3,s0]
  have DA:∀v∈ys.flatMap E.cells,v.oneCell'=true:=λv aI=>by
   obtain⟨y,_,aI⟩:=azi.1 aI
   exact E.one y v aI
  have s4:i*E.sz+q*E.sz<=cur.size:=by
   rw [hs,<-axK];exact axQ _ az
  have vX:(Builtin.firstCells inf.size q (.slice vF m Sm)).run P (bf e2 H d)=.ok (ys.flatMap E.cells).toArray (bf e2 H d):=by
   rcases aA.arr with e|⟨bI,off,rfl,mc⟩
   ·subst e
    simp only [azs]at s0
    subst s0
    cases vF with
    |none=>simp [Builtin.firstCells]
    |some a=>
     have:=run_loadCells_list (P:=P) (bf e2 H d) a [] (by simp)
     simpa [Builtin.firstCells]using this
   ·have:=run_loadCells_list (P:=P) (bf e2 H d) ⟨bI,off,none⟩ (ys.flatMap E.cells) λj v bq=>by
     obtain⟨k,y,l,g1,g2,rfl⟩:=Ha E ys j v bq
     have:=mc k y g1 l v g2
     rw [lg,<-ayG]
     exact this
    rw [iD]at this
    simpa [Builtin.firstCells,ar]using this
  refine⟨.int .i64 (q:Int),vY H b (cur.toList.take (i*E.sz)++ys.flatMap E.cells++cur.toList.drop (i*E.sz+q*E.sz)).toArray,d,?_,_,rfl,hk _ ?_ (Lc H b _)⟩
  ·have dW:=run_storeCells_at P b (i*E.sz) t (ys.flatMap E.cells) 0 cur (bf e2 H d) aq (by rw [iD];omega) DA
   rw [iD]at dW
   simp only [Nat.add_zero]at dW
   unfold Builtin.copy_
   simp [eU hu,Builtin.lenOf,aO,mu h1,vX,dW,goInt]
   rfl
  ·have Bp:cur.toList.length=c*E.sz:=by simpa using hs
   refine⟨by simp;omega,.inr ⟨b,_,rfl,al,Ld aq,by omega,hm,?_,?_⟩⟩
   ·simp only [ay9,ax6,ayj,ayY,iD,Array.length_toList]
    omega
   ·obtain⟨t1,t2⟩:=Sl E xs i
    obtain⟨_,t3⟩:=Sl E xs (i+q)
    have aa:cur.toList.take (i*E.sz)=(xs.take i).flatMap E.cells:=by
     rw [<-t1,<-aW,List.take_take,Nat.min_eq_left (axQ _ dT)]
    have Sn:(xs.take i).length=i:=by simp;omega
    simp only [azf]
    rw [<-t3,<-aa]
    have aR:(xs.flatMap E.cells).drop ((i+q)*E.sz)=(cur.toList.drop (i*E.sz+q*E.sz)).take ((n-(i+q))*E.sz):=by
     rw [<-aW,List.drop_take,<-Nat.sub_mul,<-axK]
    rw [aR]
    have aL:(cur.toList.take (i*E.sz)++ys.flatMap E.cells).length=(i+q)*E.sz:=by
     rw [ax6,ayj,iD,axK];omega
    have a':max n (i+q)*E.sz=(cur.toList.take (i*E.sz)++ys.flatMap E.cells).length+(n-(i+q))*E.sz:=by
     rw [aL,<-axK];congr 1;omega
    rw [a',aBv]
theorem adM{α:Type}(E:di α)(z:α):∀k:Nat,(aA1 k z).flatMap E.cells=(aA1 k (E.cells z)).flatten:=λk=>by
 induction k with
 |zero=>rfl
 |succ k ih=>rw [aA6,axO,ih,aA6,aAz]
theorem Sp(gL:List Value)(aH:0<gL.length):∀k:Nat,(Builtin.zeroCells (ax8 ⟨gL⟩).cells k).toList=(aA1 k gL).flatten
 |0=>by simp [Builtin.zeroCells,azI]
 |k+1=>by
  have ih:=Sp gL aH k
  rw [List.replicate_succ',List.flatten_append,<-ih]
  simp only [Builtin.zeroCells,azI,aAz,List.flatten_nil,azh]
  apply ayK
  intro j
  simp only [Array.toList_map,Array.toList_range,ayp,ay9]
  rw [List.getElem?_append]
  simp only [azU,List.length_range,ayp]
  by_cases h:j<k*gL.length
  ·rw [if_pos h,aBa (by rw [axK];omega),aBa h]
  ·rw [if_neg h]
   by_cases ab:j<(k+1)*gL.length
   ·rw [aBa ab]
    rw [axK]at ab
    have e:j % gL.length=j-k*gL.length:=by
     have aO:=ayU k gL.length
     obtain⟨i,az⟩:∃i,j=i+gL.length*k:=⟨j-gL.length*k,by omega⟩
     rw [az,Nat.add_mul_mod_self_left,aAb (by omega)]
     omega
    have aG:j-k*gL.length<gL.length:=by omega
    simp [e,aG]
   ·rw [ayL (by simp;omega)]
    rw [axK]at ab
    simp;omega
theorem acB{α:Type}{E:di α}{P:Program}{ts Le ty t bytes k:Nat}{jf:IntKind}{H:U}{a:Option Addr}{n c bg:Nat}{xs:List α}{gL:List Value}{z0:α}{K:Option Addr->Nat->Nat->U->Prop}
  (ji:sliceB P ts t=true) (he:j8 P t E.sz bytes=true) (Lf:P.underlying Le=some (.int jf)) (aE:zeroOf P t=some (.agg ⟨gL⟩)) (Hb:E.cells z0=gL) (aa:bt E H a n bg xs) (aF:0<k) (ba:c<n+k) (al:(n+k)*bytes<=140737488355328)
  (hk:∀aV lT H',Own E t H.size H' aV (n+k) lT (xs++aA1 k z0)->Fr [] H H'->K aV (n+k) lT H'):
  gD P (Builtin.append_ ⟨[ts,Le]⟩ ty ⟨[.slice a n c,.int .i64 (k:Int)]⟩) H λv H'=>∃a n c,v=.slice a n c/\K a n c H':=by
 intro e2 d
 obtain⟨inf,z,h1,ab,ar,a7,bs,b5,cT⟩:=G' he
 have hu:=rI ji
 have adN:z=.agg ⟨gL⟩:=by
  unfold zeroOf at aE
  rw [h1]at aE
  simp only at aE
  rw [ab]at aE;simpa using aE
 subst adN
 have k5:=aa.len
 have iD:(xs.flatMap E.cells).length=n*E.sz:=by rw [s3,k5]
 have vX:(Builtin.firstCells inf.size n (.slice a n c)).run P (bf e2 H d).drew=.ok (xs.flatMap E.cells).toArray (bf e2 H d).drew:=by
  rcases aa.arr with e|⟨bI,off,rfl,mc⟩
  ·subst e
   simp only [azs]at k5
   subst k5
   cases a with
   |none=>simp [Builtin.firstCells]
   |some a=>
    have:=run_loadCells_list (P:=P) (bf e2 H d).drew a [] (by simp)
    simpa [Builtin.firstCells]using this
  ·have:=run_loadCells_list (P:=P) (bf e2 H d).drew ⟨bI,off,none⟩ (xs.flatMap E.cells) λj v bq=>by
    obtain⟨k,y,l,g1,g2,rfl⟩:=Ha E xs j v bq
    have:=mc k y g1 l v g2
    rw [lg,<-ayG]
    exact this
   rw [iD]at this
   simpa [Builtin.firstCells,ar]using this
 have s5:n+k<=(n+k)*bytes:=Nat.le_mul_of_pos_right _ (by omega)
 have Sq:k*bytes<=(n+k)*bytes:=axQ _ (by omega)
 have aB:=Lib.run_append_grow_zeros (P:=P) (bf e2 H d) ts Le ty t inf _ .i64 jf hu Lf h1 ab a n c (xs.flatMap E.cells) vX k aF (by omega) ba (by omega) (by rw [b5];omega) (by rw [b5];exact growslice_fits ba al)
 have eZ:=grownCap_ge (bf e2 H d) (n+k) c t
 have hle:=grownCap_le_maxLen (bf e2 H d) (n+k) c t (by simp only [maxLen];omega)
 have vT:gL.length=E.sz:=by rw [<-Hb,E.len]
 obtain⟨cur,Bp⟩:∃cur:Array Value,cur=(xs.flatMap E.cells).toArray++Builtin.zeroCells (ax8 ⟨gL⟩).cells k++Builtin.zeroCells (ax8 ⟨gL⟩).cells (grownCap (bf e2 H d) (n+k) c t-(n+k)):=⟨_,rfl⟩
 rw [<-Bp]at aB
 refine⟨_,H.push (.cells cur t),up d,?_,some ⟨H.size,0,none⟩,n+k,_,rfl,hk _ _ _ ⟨by simp;omega,.inr ⟨H.size,cur,rfl,axx _,by simp,eZ,hle,?_,?_⟩⟩ ⟨by simp,λj bq _=>by rw [Array.getElem?_push,if_neg (by omega)]⟩⟩
 ·rw [aB];rfl
 ·rw [Bp]
  simp only [Array.size_append,ay9,iD,size_zeroCells,azI,vT]
  rw [<-axK,<-axK]
  congr 1;omega
 ·rw [Bp]
  simp only [Array.toList_append,ax7]
  rw [Sp gL (by rw [vT];omega) k,azf,adM,Hb]
  have e:(n+k)*E.sz=(xs.flatMap E.cells++(aA1 k gL).flatten).length:=by
   rw [ax6,iD,axK,List.length_flatten]
   simp [vT]
  rw [<-ax7,e,aBb]
  rfl
end Go.bk
namespace Go.Proofs
variable{n c:Nat}{H:U}
theorem acu{bI b uv xA off jP cZ:Nat}{vR sS:Array Value}{t1 t2:TypeId}{K:Bool->U->Prop}(h1:H[bI]?=some (.cells vR t1 (0,0)))(ab:H[b]?=some (.cells sS t2 (0,0)))(cP:bI≠b)(hs:sS.size≠0)(hk:K false H):
  pX azB 238 ⟨[.slice (some ⟨bI,0,none⟩) uv xA,.slice (some ⟨b,off,none⟩) jP cZ]⟩ H λv H'=>∃b,v=.bool b/\K b H':=by
 intro E d
 refine⟨.bool false,H,d,?_,_,rfl,hk⟩
 rw [run_callFunc_extern (e:=Extern.SlicesOverlaps.overlaps #[66,66] #[4]) Tryz.func238 (by kernel_rfl) (by kernel_rfl) (by kernel_rfl) (by kernel_rfl)]
 have:=Lib.run_overlaps_apart (P:=azB) (bf E H d) 66 4 122 (by kernel_rfl) 3 (λw=>by kernel_rfl) ⟨bI,0,none⟩ ⟨b,off,none⟩ uv xA jP cZ cP t1 t2 vR.size sS.size (by simp [World.shape?,bf,h1]) (by simp [World.shape?,bf,ab]) hs (by simp [World.frozen?,bf,h1]) (by simp [World.frozen?,bf,h1])
 rw [show(⟨[.slice (some ⟨bI,0,none⟩) uv xA,.slice (some ⟨b,off,none⟩) jP cZ]⟩:Array Value)= #[.slice (some ⟨bI,0,none⟩) uv xA,.slice (some ⟨b,off,none⟩) jP cZ]from rfl,this]
 rfl
def Dn:cK:=(0,0,⟨#[]⟩)
theorem acv:zeroOf azB 122=some (.agg ⟨[.int .i64 0,.int .i64 0,.string ⟨#[]⟩]⟩):=by kernel_rfl
theorem Be{i sz b:Nat}(h:i<c):df c i sz (some ⟨b,0,none⟩)=some ⟨b,i*sz,none⟩:=by
 rw [vS,if_neg (by omega)]
 simp [lg]
theorem acw{α:Type}{ps:List α}{i:Nat}{z:α}(ay:n=ps.length)(az:i<n):(ps.take (i+1)++ps.drop i++ps.drop (i+1+(n-i))).take i++[z]++(ps.take (i+1)++ps.drop i++ps.drop (i+1+(n-i))).drop (i+1)=ps.take i++z::ps.drop i:=by
 have h1:(ps.take (i+1)).length=i+1:=by simp;omega
 rw [az2 (l:=ps) (i:=i+1+(n-i)) (by omega),azh,aBe (by omega),List.take_take,Nat.min_eq_left (by omega)]
 have:(ps.take (i+1)++ps.drop i).drop (i+1)=ps.drop i:=by rw [aBw (by omega),az2 (by omega),ayn]
 rw [this,ax7];rfl
theorem acx{α:Type}{ps:List α}{i:Nat}{z w:α}(ay:n=ps.length)(az:i<n):((ps.take i++aA1 (n+1-i) w).take i++[z]++(ps.take i++aA1 (n+1-i) w).drop (i+1)).take (i+1)++ps.drop i++((ps.take i++aA1 (n+1-i) w).take i++[z]++(ps.take i++aA1 (n+1-i) w).drop (i+1)).drop (i+1+(n-i))=ps.take i++z::ps.drop i:=by
 have h1:(ps.take i).length=i:=by simp;omega
 have e:(ps.take i++aA1 (n+1-i) w).take i=ps.take i:=by rw [aBe (by omega),ayB (by omega)]
 rw [e]
 have ab:(ps.take i++[z]).length=i+1:=by simp;omega
 rw [aBe (by omega),ayB (by omega),az2 (i:=i+1+(n-i)) (by simp;omega),azh,ax7]
 rfl
theorem RR{α:Type}{E:di α}{t base:Nat}{a:Option Addr}{xs:List α}(h:Own E t base H a n c xs)(ay:0<n):∃b u,a=some ⟨b,0,none⟩/\H[b]?=some (.cells u t (0,0))/\u.size=c*E.sz/\c<=maxLen/\base<=b:=by
 rcases h.2 with⟨_,aF,_⟩|⟨b,u,e,h1,ab,_,ar,a7,_⟩
 ·omega
 ·exact⟨b,u,e,ab,a7,ar,h1⟩
theorem acy{bI base i:Nat}{sS:Array Value}{a:Option Addr}{ps:List cK}{K:Option Addr->Nat->Nat->U->Prop}(aw:Own gf 122 base H a n c ps)(az:i<=n)(aI:bt gf H (some ⟨bI,0,none⟩) 1 1 [Dn])(bK:H[bI]?=some (.cells sS 122 (0,0)))(cO:bI∉an a)(al:base<=H.size)(aG:n<=1000)
  (hk:∀aV bg H',Own gf 122 base H' aV (n+1) bg (ps.take i++Dn::ps.drop i)->Fr (an a) H H'->Grow H (an a) (an aV)->K aV (n+1) bg H'):
  dy acz [J a n c,o i,J (some (ak bI)) 1 1] H K:=by
 apply acA
 have hlen:=aw.1
 have Bf:=aw.bT.cap
 have hw:IntKind.i64.wrap ((n:Int)+((1:Nat):Int))=((n+1:Nat):Int):=by rw [cj (by omega) (by omega)];omega
 have K1:IntKind.i64.wrap ((i:Int)+((1:Nat):Int))=((i+1:Nat):Int):=by rw [cj (by omega) (by omega)];omega
 have e8:IntKind.i64.wrap (((n+1:Nat):Int)-(i:Int))=((n+1-i:Nat):Int):=by rw [cj (by omega) (by omega)];omega
 refine gK ⟨by omega,by omega,by omega⟩ (au (λc=>by simp at c) λ_=>au (λc0=> ?_) λc0=> ?_)
 ·have e:i=n:=by simp at c0;omega
  subst e
  refine ic (E:=gf) y' za aw aI al (by omega) λaV bn bg H' jQ ai ba=>⟨_,_,_,rfl,?_⟩
  have jM:bn=i+1:=by have:=jQ.1;rw [ax6,List.length_singleton]at this;omega
  subst jM
  refine hk aV bg H' ?_ ai ba
  rw [ayB (by omega),az2 (by omega)];exact jQ
 have dT:i<n:=by simp at c0;omega
 obtain⟨b,u,rfl,hu,Bg,Dp,h4⟩:=RR aw (by omega)
 simp only [maxLen]at Dp
 rw [hw,K1,e8]
 simp only [ayS,Nat.sub_zero]
 refine au (λc1=> ?_) (λc1=> ?_)
 ·have zb:c<n+1:=by simp at c1;omega
  refine gK ⟨by omega,by omega,by omega⟩ ?_
  refine acB (E:=gf) (k:=n+1-i) (z0:=Dn) y' za Tryz.underlying3 acv rfl (aw.take az).bT (by omega) (by omega) (by omega) λcW c2 H1 fF f1=> ?_
  have jM:i+(n+1-i)=n+1:=by omega
  rw [jM]at fF⊢
  obtain⟨dz,acC,rfl,avw,_,_,fm⟩:=RR fF (by omega)
  have avx:=fF.bT.cap
  have ht:=f1.size
  refine gK ⟨by omega,by omega,by omega⟩ ?_
  rw [Be (b:=dz) (i:=i) (by omega),Be (b:=dz) (i:=i+1) (by omega)]
  refine GW (E:=gf) (q:=1) y' za fF (aI.ag f1) (by show min 1 _=1;omega) (by omega) (by omega) λao dk f2=> ?_
  rw [aBn (by omega)]at dk
  refine gK ⟨by omega,by omega,by omega⟩ (gK ⟨by omega,by omega,by omega⟩ ?_)
  have fh:=km hu
  refine GW (E:=gf) (q:=n-i) y' za dk (((aw.bT.drop az).ag f1).af f2 λaC e=> ?_) (by show min (n-i) _=n-i;omega) (by omega) (by omega) λaP fP f3=> ?_
  ·rw [Be (b:=b) (i:=i) (by omega)]at e;cases e;simp;omega
  rw [aBn (by omega),acx hlen dT]at fP
  refine⟨_,_,_,rfl,hk _ _ aP (fP.base (by omega)) ?_ λk hk=> ?_⟩
  ·exact(((f1.ag f2 λk hk=>by simp at hk;omega).ag f3 λk hk=>by simp at hk;omega)).mono (by simp)
  ·simp [an]at hk;subst hk;exact .inr fm
 ·have zb:n+1<=c:=by simp at c1;omega
  refine gK ⟨by omega,by omega,by omega⟩ (gK ⟨by omega,by omega,by omega⟩ ?_)
  rw [Be (b:=b) (i:=i) (by omega),Be (b:=b) (i:=i+1) (by omega)]
  have dF:gf.sz=3:=rfl
  refine acu bK hu (by simpa [an]using cO) (by rw [Bg,dF];omega) ?_
  refine au (λ_=> ?_) λc=>by cases c
  refine gK ⟨by omega,by omega,by omega⟩ (gK ⟨by omega,by omega,by omega⟩ ?_)
  have aR:=aw.bT.drop az
  rw [Be (i:=i) (c:=c) (by omega)]at aR
  refine GW (E:=gf) (q:=n-i) y' za aw aR (by show min _ (n+1-(i+1))=n-i;omega) (by omega) (by omega) λao dk f2=> ?_
  rw [Nat.max_eq_right (by omega),show i+1+(n-i)=n+1 from by omega]at dk
  refine gK ⟨by omega,by omega,by omega⟩ ?_
  refine GW (E:=gf) (q:=1) y' za dk (aI.af f2 λaC e=>by cases e;simpa [an]using cO) (by show min 1 _=1;omega) (by omega) (by omega) λaP fP f3=> ?_
  have lh:=acw (z:=Dn) hlen dT
  rw [show i+1+(n-i)=n+1 from by omega]at lh
  rw [aBn (by omega),lh]at fP
  exact⟨_,_,_,rfl,hk _ _ aP fP (f2.trans' f3 (λk hk _=>hk) λk hk _=>hk) λk hk=>.inl hk⟩
def Bh(ps:List cK)(day:Int):Bool:=match ps[ml ps day]? with|some x=>x.1==day|none=>false
theorem acD{a:Option Addr}{ps:List cK}{day:Int}{K:Int->Bool->U->Prop}(aa:bt gf H a n c ps)(aR:vM ps)(ay:n<=1000)(hk:∀H',Fr [] H H'->K (ml ps day) (Bh ps day) H'):
  aK acE [J a n c,o day] H λv H'=>∃i b,v=.tuple ⟨[.int .i64 i,.bool b]⟩/\K i b H':=by
 apply acF
 apply acG
 have aG:=aa.len
 have cmp:∀{x:cK} {H1:U} {R:Int->U->Prop},(∀ao,Fr [] H1 ao->R (aS.jB x.1 day) ao)->dY azB (.func (Fn.func 237) ⟨[]⟩ ⟨[]⟩) [.agg ⟨[.int .i64 x.1,.int .i64 x.2.1,.string x.2.2]⟩,.int .i64 day] H1 λv ao=>∃n,v=.int .i64 n/\R n ao:=λ{x H1 R} cp=>by
  refine⟨237, #[],_,rfl,by kernel_rfl,?_⟩
  apply acH
  intro b ao bK
  exact⟨x.1,bK.bz.cF 0 rfl,aS.Dq ⟨_,rfl,cp ao bK.af⟩⟩
 have bQ:∀{i j:Nat} {x y:cK},i<j->ps[i]?=some x->ps[j]?=some y->x.1<y.1:=λ{i j x y} mn aa aA=>by
  obtain⟨az,rfl⟩:=axC.1 aa
  obtain⟨bq,rfl⟩:=axC.1 aA
  exact aAD.1 aR i j az bq mn
 refine⟨λae H'=>match ae with
   |[.int _ i,.int _ j]=>∃p q:Nat,i=p/\j=q/\p<=q/\q<=n/\(∀k x,k<p->ps[k]?=some x->x.1<day)/\(∀k x,q<=k->ps[k]?=some x->day<=x.1)/\Fr [] H H'
   |_=>False,
  λae _=>match ae with|[.int _ i,.int _ j]=>j.toNat-i.toNat|_=>0,⟨0,n,rfl,rfl,by omega,by omega,λk x h=>by omega,λk x h aa=>by have:=(axC.1 aa).1;omega,Fr.refl _ _⟩,?_⟩
 rintro br i j ao ⟨p,q,rfl,rfl,Dr,zc,nU,pW,ai⟩
 refine au (λaF=> ?_) (λaF=> ?_)
 ·have b':p<q:=by simpa using aF
  rw [aS.zd (by omega)]
  have uw:p<=(p+q)/2:=by omega
  have ux:(p+q)/2<q:=by omega
  generalize(p+q)/2=h at uw ux
  obtain⟨z,aE⟩:=fM (l:=ps) (i:=h) (by omega)
  refine(aa.ag ai).get (k:=h) rfl aE (bh (by omega)) λaC b4 av=>⟨_,_,_,vB av,cmp (x:=z) λaP bP=> ?_⟩
  rw [cE (by omega)]
  refine au (λb5=>⟨⟨h+1,q,rfl,rfl,by omega,zc,λk x hk aa=> ?_,pW,ai.aT bP⟩,?_⟩) (λb5=>⟨⟨p,h,rfl,rfl,by omega,by omega,nU,λk x hk aa=> ?_,ai.aT bP⟩,?_⟩)
  ·have b5:z.1<day:=aS.ox.1 (of_decide_eq_true b5)
   rcases azH k h with cT|cT
   ·have:=bQ cT aa aE;omega
   ·have:k=h:=by omega
    subst this
    rw [aE]at aa;cases aa;exact b5
  ·show((q:Nat):Int).toNat-((h+1:Nat):Int).toNat<((q:Nat):Int).toNat-((p:Nat):Int).toNat
   omega
  ·have b5:¬z.1<day:=λh=>of_decide_eq_false b5 (aS.ox.2 h)
   rcases azH h k with cT|cT
   ·have:=bQ cT aE aa;omega
   ·have:k=h:=by omega
    subst this
    rw [aE]at aa;cases aa;omega
  ·show((h:Nat):Int).toNat-((p:Nat):Int).toNat<((q:Nat):Int).toNat-((p:Nat):Int).toNat
   omega
 ·have b':p=q:=by simp at aF;omega
  subst b'
  have iC:=acr nU pW (by omega)
  have dc:=λH' eE=>hk H' (ai.aT eE)
  unfold Bh at dc
  rw [iC]at dc
  refine au (λh1=> ?_) (λh1=> ?_)
  ·have fc:p<n:=by simpa using h1
   obtain⟨z,aE⟩:=fM (l:=ps) (i:=p) (by omega)
   refine(aa.ag ai).get (k:=p) rfl aE (bh (by omega)) λaC b4 av=>⟨_,_,_,vB av,cmp (x:=z) λaP bP=> ?_⟩
   have:=dc aP bP
   rw [aE]at this
   simp only at this
   have ze:(aS.jB z.1 day==0)=(z.1==day):=by
    unfold aS.jB
    by_cases e:z.1=day
    ·simp [e]
    ·by_cases l:z.1<day
     ·simp [l,e]
     ·have:day<z.1:=by omega
      simp [l,this,e]
   exact⟨_,_,rfl,_,_,rfl,by rw [ze];exact this⟩
  ·have:=dc ao (Fr.refl _ _)
   rw [ayL (by simp at h1;omega)]at this
   exact⟨_,_,rfl,_,_,rfl,this⟩
structure acI(n:Nat):Prop where
 s1:(c6 n).size<=3
 hh:0<(c6 n).size
 ok:∀c∈(c6 n).data.toList,(97<=c.toNat/\c.toNat<=122)\/(48<=c.toNat/\c.toNat<=57)
 aR:(c6 n).data.toList.head?=some 102
 pre:Lib.hasPrefix (c6 n).data.toList (⟨#[102]⟩:ByteArray).data.toList=true
 trim:Lib.trimPrefix (c6 n).data.toList (⟨#[102]⟩:ByteArray).data.toList=Lib.itoa (n:Int)
 num:Lib.atoiAll (Lib.itoa (n:Int))=.ok (n:Int)
theorem qC(h:n<100):acI n:=by
 have:=ax3.1 acs n (aBo.2 h)
 simp only [Bool.and_eq_true,decide_eq_true_eq,beq_iff_eq,ax3,Bool.or_eq_true]at this
 obtain⟨⟨⟨⟨⟨⟨h1,ab⟩,ar⟩,a7⟩,bs⟩,b5⟩,cT⟩:=this
 refine⟨h1,ab,ar,a7,bs,b5,?_⟩
 split at cT
 ·rename_i v e;rw [e];simp at cT;rw [cT]
 ·cases cT
theorem GJ{m:Nat}(hm:m<100)(ay:n<100)(h:c6 m=c6 n):m=n:=by
 have h1:=(qC hm).num
 have ab:=(qC ay).num
 rw [<-(qC hm).trim,h,(qC ay).trim,ab]at h1
 simp at h1;omega
theorem RS{K:ByteArray->U->Prop}(ay:n<100)(cx:jL H)(hk:∀H',Fr [] H H'->K (c6 n) H'):dv acJ [o (n:Int)] H K:=by
 apply acK
 rw [if_neg (by omega)]
 refine acL Tryz.itoa rfl ⟨by omega,by omega⟩ cx.acM λH1 f1=>cM (bh ?_) ⟨c6 n,rfl,hk H1 f1⟩
 have:=(qC ay).s1
 unfold c6 at this
 rw [aBj]at this
 rw [show azC ⟨#[102]⟩=1 from rfl]at this
 have kn:1+azC ⟨(Lib.itoa (n:Int)).toArray⟩<=9223372036854775807:=by omega
 simpa using kn
theorem RT{K:Int->U->Prop}(ay:n<100)(cx:jL H)(hk:∀H',Fr [] H H'->K (n:Int) H'):cG acN [aj (c6 n)] H K:=by
 apply acO
 refine acP Tryz.acQ rfl ?_
 have aH:=qC ay
 rw [aH.pre,aH.trim]
 apply acR
 refine acS Tryz.acT rfl ?_ (v:=(n:Int)) aH.num λH1 f1=>⟨_,RU,au (λc=>by simp at c) λ_=>⟨_,_,rfl,au (λc=>by cases c) λ_=>⟨_,RU,au (λc=>by simp at c) λ_=>RS ay (cx.ag f1) λao f2=>au (λc=> ?_) λ_=>au (λc=>by simp at c;omega) λ_=>⟨_,rfl,hk ao (f1.aT f2)⟩⟩⟩⟩
 ·have:=aH.s1
  unfold c6 at this
  rw [aBj]at this
  omega
 ·simp at c
structure iz(ps:List cK)(nx:Nat):Prop where
 d:vM ps
 ok:∀p∈ps,(0<=p.1/\p.1<17179869184)/\p.2.1=0/\∃n,n<nx/\p.2.2=c6 n
 fL:(ps.map (·.2.2)).Nodup
 nx:nx<100
 len:ps.length<=60
def RV(L:List (cR ByteArray))(ps:List cK):Prop:=∀f,∃b:Bool,(dm f L).getD (.bool false)=.bool b/\(b=true↔f∈ps.map λx=>x.2.2)
theorem GX{s:lQ}{ps:List cK}{nx:Nat}{K:Bool->U->Prop}(aa:bt gf H s.h.1 s.h.2.1 s.h.2.2 ps)(b9:iz ps nx)(ay:s.next=(nx:Int))(aH:s.past=0)(cx:jL H)(hk:∀H',Fr [] H H'->K true H'):
  eu acU [vG s] H K:=by
 apply acV
 intro b H1 bb b1 ao bK
 have f2:=bb.af.aT bK.af
 have aL:=bb.eq
 have a':=bK.eq
 have ht:=bb.size
 have z2:=bK.size
 have aG:=aa.len
 have hlen:=b9.len
 have qG:=b9.nx
 have al:a6 ao ⟨b,0,none⟩ (ig s):=bb.bz.ag bK.af
 have Bi:b∉[b1]:=by simp;omega
 refine⟨_,_,_,al.bY rfl,λae H'=>match ae with
   |[.int _ l,.int _ i]=>∃(k ck:Nat) (L:List (cR ByteArray)),i=k/\k<=s.h.2.1/\(∀x,ps[k]?=some x->l<x.1)/\dN aZ.ej H' b1 ck L/\RV L (ps.take k)/\Fr [b1] ao H'
   |_=>False,
  λae _=>match ae with|[_,.int _ i]=>s.h.2.1-i.toNat|_=>0,⟨0,0,[],rfl,by omega,λx aa=>by have:=(b9.ok x (azR aa)).1;omega,dN.new aZ.ej bK,λf=>⟨false,by simp [dm],by simp⟩,Fr.refl _ _⟩,?_⟩
 rintro br l i aP ⟨k,ck,L,rfl,eC,nU,hm,ba,f3⟩
 have z3:=f3.size
 have fm:=al.af f3 Bi
 have kD:Fr [] H aP:=f2.ag f3 λk hk=>by simp at hk;omega
 refine au (λc=> ?_) λc=> ?_
 ·have bg:k<s.h.2.1:=by simpa using c
  obtain⟨x,pP⟩:=fM (l:=ps) (i:=k) (by omega)
  obtain⟨⟨nI,rp⟩,vx,n,GY,o2⟩:=b9.ok x (azR pP)
  have j6:=nU x pP
  have cq:x.2.2∉(ps.take k).map (·.2.2):=λaq=>by
   have h1:=b9.fL
   rw [show ps.map (·.2.2)=(ps.take k).map (·.2.2)++(ps.drop k).map (·.2.2) by rw [<-azj,aAd]]at h1
   refine(azk.1 h1).2.2 _ aq _ (ayf.2 ⟨x,?_,rfl⟩) rfl
   exact azR (i:=0) (by rw [ax5];simpa using pP)
  refine⟨λae H'=>∃(ck:Nat) (L:List (cR ByteArray)),ae=[.int .i64 x.1]/\dN aZ.ej H' b1 ck L/\RV L (ps.take (k+1))/\Fr [b1] ao H',(aa.ag kD).get (k:=k) rfl pP (bh (by omega)) λaC b4 av=>⟨_,_,_,vB av,?_⟩,?_⟩
  ·refine su (x:=x) rfl λbI a8 cO bM f4=> ?_
   refine⟨x.2.2,bM.cF 2 rfl,?_⟩
   rw [o2]
   refine RT (by omega) (cx.ag (kD.aT f4)) λbA f5=> ?_
   have g5:=f4.aT f5
   have mb:=bM.ag f5
   have dI:=fm.ag g5
   have mS:=hm.ag aZ.ej g5
   have kk:=sQ (T:=aZ.ej) (mt:=214) (e:=4) aBx (z:=.bool false) (by kernel_rfl) mS x.2.2
   obtain⟨Bj,Ds,acW⟩:=ba x.2.2
   rw [Ds,show Bj=false from by rcases Bj with _|_;rfl;exact(cq (acW.1 rfl)).elim]at kk
   refine⟨λ_ H'=>bA=H',⟨x.1,mb.cF 0 rfl,au (λc=>by simp at c;omega) λ_=>⟨x.1,mb.cF 0 rfl,au (λc=>by simp at c;omega) λ_=>⟨x.2.1,mb.cF 1 rfl,Dt (au (λc=>by rw [vx]at c;simp at c) λ_=>au (λc=>by simp at c;omega) λ_=>⟨(nx:Int),(by rw [<-ay];exact dI.cF 1 rfl),au (λc=>by simp at c;omega) λ_=>⟨x.2.2,mb.cF 2 rfl,false,kk,au (λc=>by cases c) λ_=>rfl⟩⟩)⟩⟩⟩,?_⟩
   rintro br _ rfl
   refine⟨x.2.2,mb.cF 2 rfl,x.1,mb.cF 0 rfl,?_⟩
   refine t' (T:=aZ.ej) (mt:=214) (e:=4) aBx mS x.2.2 λct AR f6=>⟨_,_,rfl,AR,λf=> ?_,(f3.trans' g5 (λk hk _=>hk) (by simp)).trans' f6 (λk hk _=>hk) λk hk _=>hk⟩
   rw [sC,azP,pP]
   by_cases e:f=x.2.2
   ·rw [if_pos e];exact⟨true,rfl,by simp [e]⟩
   ·rw [if_neg e]
    obtain⟨Bk,h1,ab⟩:=ba f
    exact⟨Bk,h1,by rw [ab];simp [e]⟩
  ·rintro br n a8 ⟨vC,L',e,ub,ko,f4⟩
   simp only [List.cons.injEq,Value.int.injEq,true_and,and_true]at e
   subst e
   rw [cE (by omega)]
   refine⟨⟨k+1,vC,L',rfl,by omega,λy aA=> ?_,ub,ko,f4⟩,dU bg⟩
   obtain⟨az,rfl⟩:=axC.1 pP
   obtain⟨bq,rfl⟩:=axC.1 aA
   exact aAD.1 b9.d k (k+1) az bq (by omega)
 ·refine⟨_,_,_,_,_,_,_,_,_,fm.f' rfl,0,fm.cF 4 rfl,tW (s:=s) (aa.ag kD) (by omega) λa8 f4=> ?_⟩
  refine su (x:=((fW ps 0).getD (0,0,⟨#[]⟩))) rfl λk7 bA dI mb f5=> ?_
  have dI:=(fm.ag f4).ag f5
  have qJ:=(kD.aT f4).aT f5
  refine⟨λae H'=>ae=[.bool true]/\bA=H',⟨0,dI.cF 4 rfl,au (λ_=>⟨0,dI.cF 5 rfl,au (λ_=>⟨0,dI.cF 6 rfl,rfl,rfl⟩) λc=>by simp at c⟩) λc=>by simp at c⟩,?_⟩
  rintro br rB _ ⟨e,rfl⟩
  simp only [List.cons.injEq,Value.bool.injEq,and_true]at e
  subst e
  refine⟨λae H'=>ae=[.bool true]/\bA=H',⟨false,dI.cF 3 rfl,au (λc=>by cases c) λ_=>⟨rfl,rfl⟩⟩,?_⟩
  rintro br rB _ ⟨e,rfl⟩
  simp only [List.cons.injEq,Value.bool.injEq,and_true]at e
  subst e
  refine au (λ_=>⟨(nx:Int),(by rw [<-ay];exact dI.cF 1 rfl),Dt (au (λ_=>⟨0,(by rw [<-aH];exact dI.cF 2 rfl),Dt ⟨_,rfl,?_⟩⟩) λc=>by simp at c;omega)⟩) λc=>by cases c
  have:decide ((0:Int)<=0/\(0:Int)<=1099511627776)=true:=by decide
  rw [this]
  exact hk bA qJ
theorem GZ{a:Option Addr}{dz:Nat}{xs:List Int}{S:List Nat}{cU:List UInt8}{K:U->Prop}(aa:bt cH H a n c xs)(o9:∀x∈xs,0<=x/\x<34359738368)(al:jR H dz S cU)(aR:∀k∈an a,k<H.size/\k∉S)(aG:cU.length<=100000)(ay:n<=10)
  (hk:∀H' S' Du,jR H' dz S' Du->Du.length<=cU.length+5*n->Fr S H H'->Grow H S S'->K H'):
  dY azB (.func (Fn.func 244) ⟨[]⟩ ⟨[.pointer (some ⟨dz,0,none⟩)]⟩) [.slice a n c] H λv H'=>v=.tuple ⟨[]⟩/\K H':=by
 refine⟨244, #[],_,rfl,by kernel_rfl,?_⟩
 apply acX
 have k5:=aa.len
 refine⟨λae H'=>match ae with|[.int _ i]=>∃(k:Nat) (S':List Nat) (Du:List UInt8),i=k/\k<=n/\jR H' dz S' Du/\Du.length<=cU.length+5*k/\Fr S H H'/\Grow H S S'|_=>False,λae _=>match ae with|[.int _ i]=>n-i.toNat|_=>0,⟨0,S,cU,rfl,by omega,al,by omega,Fr.refl _ _,Grow.refl _ _⟩,?_⟩
 rintro br i H1 ⟨k,e0,acY,rfl,eC,dA,kp,f1,g1⟩
 refine au (λc=> ?_) λc=> ?_
 ·have bg:k<n:=by simpa using c
  obtain⟨y,aA⟩:=fM (l:=xs) (i:=k) (by omega)
  have ru:=o9 y (azR aA)
  have ht:=f1.size
  refine(aa.af f1 (fO λq aO=>(aR q aO).2)).get rfl aA (bh (by omega)) λaC b4 av=>⟨y,xC (by kernel_rfl) av rfl,?_⟩
  rw [show azQ .u64 y=((y.toNat:Nat):Int)from by rw [ix (by omega) (by omega)];omega]
  have d1:=fD (cn y.toNat)
  have d2:=oX 4 y.toNat (by omega)
  refine qK (by omega) λao f2=>sT (dA.ag f2) (by omega) λaP jC fm f3 g3=> ?_
  rw [cE (by omega)]
  have z2:=f2.size
  refine⟨⟨k+1,jC,_,rfl,by omega,fm,by rw [ax6,dR];omega,(f1.trans' f2 (λq aO _=>aO) (by simp)).trans' f3 (λq aO _=>aO) λq aO bQ=> ?_,λq aO=> ?_⟩,dU bg⟩
  ·rcases g1 q aO with h|h
   ·exact h
   ·omega
  ·rcases g3 q aO with h|h
   ·exact g1 q h
   ·exact .inr (by omega)
 ·have e:k=n:=by simp at c;omega
  subst e
  exact⟨rfl,hk H1 e0 acY dA kp f1 g1⟩
theorem aba{s:lQ}{ps:List cK}{nx:Nat}{K:ByteArray->Int->U->Prop}(aa:bt gf H s.h.1 s.h.2.1 s.h.2.2 ps)(yR:∀k∈an s.h.1,k<H.size)(b9:iz ps nx)(ay:s.next=(nx:Int))(aH:s.past=0)(cx:jL H)(cT:7<=H.size)(hk:∀t H',t.size<=20+15*ps.length->Fr [] H H'->K t 0 H'):
  aK acZ [vG s] H λv H'=>∃t e,v=.tuple ⟨[.string t,.int .i64 e]⟩/\K t e H':=by
 apply ac0
 intro b H1 bb
 have al:a6 H1 ⟨b,0,none⟩ (ig s):=bb.bz
 have aG:=aa.len
 have hlen:=b9.len
 have qG:=b9.nx
 have aL:=bb.eq
 have ht:=bb.size
 refine⟨_,_,_,_,_,_,_,_,_,al.f' rfl,GX (aa.ag bb.af) b9 ay aH (cx.ag bb.af) λao f2=>au (λc=>by cases c) λ_=> ?_⟩
 intro dz aP bw
 have g3:=(bb.af.aT f2).aT bw.af
 have cX:=bw.eq
 have z3:=bw.size
 have z2:=f2.size
 have fm:=(al.ag f2).ag bw.af
 have pL:jR aP dz [dz] []:=mo.new bw
 have up:∀{S H' dn},Fr [] H H'->Fr S H' dn->(∀k∈S,dz<=k)->Fr [] H dn:=λh1 ab ar=>h1.ag ab λk hk=>by have:=ar k hk;omega
 refine⟨_,_,_,fm.bY rfl,λjy a8 cS=> ?_⟩
 have gQ:=cS.eq
 have z4:=cS.size
 refine GZ (n:=1) (fy cH (s.h.2.1:Int) cS rfl) (by simp;omega) (pL.ag cS.af) (λk hk=>by simp [an]at hk;simp;omega) (by simp) (by omega) λbA mq ac1 mb ac2 f5 g5=> ?_
 have ac3:∀k∈mq,dz<=k:=λk hk=>by
  rcases g5 k hk with q|q
  ·simp at q;omega
  ·omega
 have dI:=(fm.ag cS.af).af f5 (by simp;omega)
 have iw:Fr [] H bA:=up (g3.aT cS.af) f5 (by simp)
 refine⟨_,_,_,dI.bY rfl,?_⟩
 refine⟨λae H'=>match ae with|[.int _ i]=>∃(k:Nat) (S:List Nat) (cU:List UInt8),i=k/\k<=s.h.2.1/\jR H' dz S cU/\(∀k∈S,dz<=k)/\a6 H' ⟨b,0,none⟩ (ig s)/\Fr [] H H'/\cU.length<=5+15*k|_=>False,λae _=>match ae with|[.int _ i]=>s.h.2.1-i.toNat|_=>0,⟨0,mq,ac1,rfl,by omega,mb,ac3,dI,iw,by simpa using ac2⟩,?_⟩
 rintro br i ct ⟨k,S,cU,rfl,eC,sL,bB,jN,hr,avy⟩
 have vz:=hr.size
 have K2:=sL.lt
 have avz:=K2 dz (aS.G0 sL).1
 refine au (λc=> ?_) λc=> ?_
 ·have bg:k<s.h.2.1:=by simpa using c
  obtain⟨x,pP⟩:=fM (l:=ps) (i:=k) (by omega)
  obtain⟨⟨nI,rp⟩,vx,n,GY,o2⟩:=b9.ok x (azR pP)
  refine(aa.ag hr).get (k:=k) rfl pP (bh (by omega)) λaC b4 av=>⟨_,_,_,vB av,?_⟩
  refine su (x:=x) rfl λrq dx mQ rr f7=>⟨x.1,rr.cF 0 rfl,x.2.1,rr.cF 1 rfl,x.2.2,rr.cF 2 rfl,?_⟩
  rw [o2]
  refine RT (by omega) (cx.ag (hr.aT f7)) λeQ f8=>⟨(rr.ag f8).cF 1 rfl,(rr.ag f8).cF 0 rfl,λrE cN fC=> ?_⟩
  have f69:=(f7.aT f8).aT fC.af
  have avA:=(f7.aT f8).size
  have ze:=fC.eq
  have z9:=fC.size
  refine GZ (G1 [x.1,x.2.1,(n:Int)] fC rfl) (by simp;omega) (sL.ag f69) (λk hk=> ?_) (by omega) (by simp) λhj K3 RW K4 RX f10 g10=> ?_
  ·simp [an]at hk
   subst hk
   exact⟨by omega,λaq=>by have:=K2 k aq;omega⟩
  rw [cE (by omega)]
  refine⟨⟨k+1,K3,RW,rfl,by omega,K4,λk hk=> ?_,(jN.ag f69).af f10 λaq=>by have:=bB _ aq;simp only at this;omega,up (hr.aT f69) f10 bB,by simp at RX;omega⟩,dU bg⟩
  rcases g10 k hk with q|q
  ·exact bB k q
  ·omega
 ·refine⟨(nx:Int),(by rw [<-ay];exact jN.cF 1 rfl),0,(by rw [<-aH];exact jN.cF 2 rfl),λrq dx ga=> ?_⟩
  have gR:k=s.h.2.1:=by simp at c;omega
  have Bl:=ga.eq
  have xf:=ga.size
  refine GZ (G1 [(nx:Int),0] ga rfl) (by simp;omega) (sL.ag ga.af) (λk hk=> ?_) (by omega) (by simp) λeQ K5 bs8 hB8 hl8 f8 g8=> ?_
  ·simp [an]at hk
   subst hk
   exact⟨by omega,λaq=>by have:=K2 k aq;omega⟩
  have RY:∀k∈K5,dz<=k:=λk hk=>by
   rcases g8 k hk with q|q
   ·exact bB k q
   ·omega
  have uo:=(jN.ag ga.af).af f8 λaq=>by have:=bB _ aq;simp only at this;omega
  refine⟨false,uo.cF 3 rfl,au (λc=>by cases c) λ_=>λrE cN fC=> ?_⟩
  have ze:=fC.eq
  have z9:=fC.size
  have KR:=f8.size
  have ac4:=hB8.lt
  refine GZ (n:=1) (fy cH 0 fC rfl) (by simp) (hB8.ag fC.af) (λk hk=> ?_) (by omega) (by omega) λhj K3 RW K4 RX f10 g10=> ?_
  ·simp [an]at hk
   subst hk
   exact⟨by omega,λaq=>by have:=ac4 k aq;omega⟩
  refine xD K4 (by omega) λjO f11=>⟨_,_,rfl,hk _ jO (by rw [fD];omega) ?_⟩
  have ac5:∀k∈K3,dz<=k:=λk hk=>by
   rcases g10 k hk with q|q
   ·exact RY k q
   ·omega
  exact up (up ((up (hr.aT ga.af) f8 bB).aT fC.af) f10 RY) f11 ac5
end Go.Proofs
namespace Go.Proofs.Bt
def oU(H:U)(X:Nat->Prop)(aZ:List (List Nat)):Prop:=aZ.Pairwise er/\∀F∈aZ,∀k∈F,¬X k/\k<H.size
variable{H H':U}{X:Nat->Prop}{x i N b:Nat}
theorem oU.le{aZ:List (List Nat)}(h:oU H X aZ)(hs:H.size<=H'.size):oU H' X aZ:=⟨h.1,λF bS k hk=>⟨(h.2 F bS k hk).1,ayQ (h.2 F bS k hk).2 hs⟩⟩
theorem oU.gd{aZ:List (List Nat)}(h:oU H X aZ){j:Nat}{F G:List Nat}(mn:i≠j)(bS:aZ[i]?=some F)(cx:aZ[j]?=some G):er F G:=by
 obtain⟨az,rfl⟩:=axC.1 bS
 obtain⟨bq,rfl⟩:=axC.1 cx
 have aH:=aAD.1 h.1
 rcases Nat.lt_or_gt_of_ne mn with q|q
 ·exact aH i j az bq q
 ·exact(aH j i bq az q).symm
theorem oU.ne{aZ:List (List Nat)}(h:oU H X aZ){j k:Nat}{F G:List Nat}(mn:i≠j)(bS:aZ[i]?=some F)(cx:aZ[j]?=some G)(hk:k∈F):k∉G:=h.gd mn bS cx k hk
theorem oU.jz{aZ:List (List Nat)}(h:oU H X aZ){F:List Nat}(bS:aZ[i]?=some F):In H F:=λk hk=>(h.2 F (azR bS) k hk).2
theorem oU.no{aZ:List (List Nat)}(h:oU H X aZ){F:List Nat}(bS:aZ[i]?=some F):∀k∈F,¬X k:=λk hk=>(h.2 F (azR bS) k hk).1
theorem oU.set{aZ:List (List Nat)}(h:oU H X aZ){F F':List Nat}(bS:aZ[i]?=some F)(ba:Grow H F F')(bM:∀k,X k->k<H.size)(hs:H.size<=H'.size)(az:In H' F'):oU H' X (aZ.set i F'):=by
 have aR:∀j G,j≠i->aZ[j]?=some G->er F' G:=λj G bq cx k hk hkG=>by
  rcases ba k hk with q|q
  ·exact h.gd (Ne.symm bq) bS cx k q hkG
  ·have:=h.jz cx k hkG;omega
 refine⟨?_,λG cx k hk=> ?_⟩
 ·rw [aAD]
  intro a b bW al oj
  rw [aBp,aBp]
  simp only [aBy]at bW al
  split
  ·rename_i e;subst e
   rw [if_neg (by omega)]
   exact aR b _ (by omega) (ayA al)
  ·split
   ·rename_i e;subst e
    exact(aR a _ (by omega) (ayA bW)).symm
   ·exact aAD.1 h.1 a b bW al oj
 ·obtain⟨j,bq,rfl⟩:=List.mem_iff_getElem.1 cx
  rw [aBp]at hk
  simp only [aBy]at bq
  split at hk
  ·refine⟨λaa=> ?_,az k hk⟩
   rcases ba k hk with q|q
   ·exact(h.2 F (azR bS) k q).1 aa
   ·have:=bM k aa;omega
  ·have:=h.2 _ (List.getElem_mem bq) k hk
   exact⟨this.1,by omega⟩
structure ey where
 L:List bR
 ss:List aS.bF
 st:aZ.gB
structure en where
 s:Addr
 d:Addr
 cA:Nat
 cu:Nat
 Sd:List Nat
 m:aZ.eX
 N:Nat
 M:Nat
 dE:Nat
 bC:List Nat
 bW:eH
 hs:List aS.aS
 gb:eH
 ps:List cK
 nx:Nat
 p:Nat
 ds:Nat
def o0(A:en):List Value:=[.pointer (some A.d),.pointer (some A.s),.pointer (some ⟨A.dE,0,none⟩),.slice A.gb.1 A.gb.2.1 A.gb.2.2,.int .i64 A.nx,.int .i64 0,.bool false,.int .i64 0,.int .i64 0,.int .i64 0,.slice A.bW.1 A.bW.2.1 A.bW.2.2,.slice none 0 0,.int .i64 0,.pointer (some ⟨A.p,0,none⟩),.pointer none]
def jA(x:Nat)(A:en):List (List Nat):=[[x],A.s.block::A.cA::A.cu::A.Sd,A.bC,an A.gb.1,an A.bW.1++Av A.hs,[A.p,A.ds]]
structure fN(H:U)(X:Nat->Prop)(x:Nat)(A:en)(db:ey):Prop where
 bz:a6 H ⟨x,0,none⟩ (o0 A)
 bT:aZ.ib H A.s A.d A.cA A.cu none 0 0 [] A.Sd db.st A.m A.N A.M
 bH:dh.k9 H A.dE A.bC db.L
 aR:bt aS.dM H A.bW.1 A.bW.2.1 A.bW.2.2 A.hs
 kE:aS.eG H A.hs db.ss
 rs:aS.cy db.ss
 om:bt gf H A.gb.1 A.gb.2.1 A.gb.2.2 A.ps
 nH:a6 H ⟨A.p,0,none⟩ [.map (some A.ds)]
 pm:H[A.ds]?=some (.map ⟨[]⟩ 0)
 sep:oU H X (jA x A)
 base:∀k,X k->k<H.size
theorem fN.ag{A:en}{db:ey}(h:fN H X x A db)(ai:Fr [] H H'):fN H' X x A db:=
 ⟨h.bz.ag ai,h.bT.ag ai,h.bH.ag ai,h.aR.ag ai,h.kE.ag ai,h.rs,h.om.ag ai,h.nH.ag ai,ai.vE h.pm,h.sep.le ai.size,λk hk=>ayQ (h.base k hk) ai.size⟩
def mN(x:Nat)(A:en):List Nat:=x::A.bC
theorem fN.arx{A:en}{db:ey}{fU kj:Nat}{st':aZ.gB}(h:fN H X x A db)(hs:aZ.ib H' A.s A.d fU A.cu none 0 0 [] A.Sd st' A.m A.N kj)(aB:fU=A.cA\/H.size<=fU)(aG:fU<H'.size)(ai:Fr [A.s.block] H H'):
  fN H' X x {A with cA:=fU,M:=kj} {db with st:=st'}:=by
 have aE:=ai.size
 have no:∀{j:Nat} {G:List Nat},j≠1->(jA x A)[j]?=some G->∀k∈G,k∉[A.s.block]:=λ{j G} bq cx k hk hm=>by
  simp only [List.mem_singleton]at hm;subst hm
  exact h.sep.ne bq cx (show(jA x A)[1]?=some _ from rfl) hk (by simp)
 have fj:=no (j:=0) (by decide) rfl
 have la:=no (j:=2) (by decide) rfl
 have nP:=no (j:=3) (by decide) rfl
 have me:=no (j:=4) (by decide) rfl
 have lR:=no (j:=5) (by decide) rfl
 refine⟨h.bz.af ai (fj x (by simp)),hs,h.bH.af ai la,h.aR.af ai (fO λk hk=>me k (by simp [hk])),eG.af h.kE ai λk hk=>me k (by simp [hk]),h.rs,h.om.af ai (fO nP),h.nH.af ai (lR _ (by simp)),ai.get h.pm (lR _ (by simp)),?_,λk hk=>by have:=h.base k hk;omega⟩
 exact h.sep.set (i:=1) (F':=A.s.block::fU::A.cu::A.Sd) rfl (λk hk=>by
  simp only [axA]at hk⊢
  rcases hk with q|q|q|q
  ·exact .inl (.inl q)
  ·rcases aB with e|e
   ·exact .inl (.inr (.inl (q.trans e)))
   ·exact .inr (by omega)
  ·exact .inl (.inr (.inr (.inl q)))
  ·exact .inl (.inr (.inr (.inr q)))) h.base aE (λk hk=>by
  have:=h.sep.jz (i:=1) rfl
  simp only [axA]at hk
  rcases hk with q|q|q|q
  ·have:=this k (by simp [q]);omega
  ·omega
  ·have:=this k (by simp [q]);omega
  ·have:=this k (by simp [q]);omega)
theorem fN.ary{A:en}{db:ey}{kS:List Nat}{L':List bR}(h:fN H X x A db)(az:dh.k9 H' A.dE kS L')(ba:Grow H A.bC kS)(aG:In H' kS)(ai:Fr A.bC H H'):
  fN H' X x {A with bC:=kS} {db with L:=L'}:=by
 have no:∀{j:Nat} {G:List Nat},j≠2->(jA x A)[j]?=some G->∀k∈G,k∉A.bC:=λ{j G} bq cx k hk=>h.sep.ne bq cx (show(jA x A)[2]?=some _ from rfl) hk
 have fj:=no (j:=0) (by decide) rfl
 have k':=no (j:=1) (by decide) rfl
 have nP:=no (j:=3) (by decide) rfl
 have me:=no (j:=4) (by decide) rfl
 have lR:=no (j:=5) (by decide) rfl
 refine⟨h.bz.af ai (fj x (by simp)),h.bT.af ai (λk hk=>k' k (by simp at hk⊢;rcases hk with q|q|q<;>simp [q])) (λk hk=>k' k (by simp [hk])),az,h.aR.af ai (fO λk hk=>me k (by simp [hk])),eG.af h.kE ai λk hk=>me k (by simp [hk]),h.rs,h.om.af ai (fO nP),h.nH.af ai (lR _ (by simp)),ai.get h.pm (lR _ (by simp)),?_,λk hk=>by have:=h.base k hk;have:=ai.size;omega⟩
 exact h.sep.set (i:=2) (F':=kS) rfl ba h.base ai.size aG
theorem fN.arz{A:en}{db:ey}{ha' ph':eH}{cQ:List aS.aS}{q3:List aS.bF}{CZ:List cK}{nx':Nat}(h:fN H X x A db)(al:a6 H' ⟨x,0,none⟩ (o0 {A with bW:=ha',gb:=ph',nx:=nx'}))(ai:Fr [x] H H')
  (h1:bt aS.dM H ha'.1 ha'.2.1 ha'.2.2 cQ) (ab:aS.eG H cQ q3) (ar:aS.cy q3) (a7:bt gf H ph'.1 ph'.2.1 ph'.2.2 CZ)
  (g1:oU H X [[x],A.s.block::A.cA::A.cu::A.Sd,A.bC,an ph'.1,an ha'.1++Av cQ,[A.p,A.ds]]):
  fN H' X x {A with bW:=ha',hs:=cQ,gb:=ph',ps:=CZ,nx:=nx'} {db with ss:=q3}:=by
 have no:∀{j:Nat} {G:List Nat},j≠0->[[x],A.s.block::A.cA::A.cu::A.Sd,A.bC,an ph'.1,an ha'.1++Av cQ,[A.p,A.ds]][j]?=some G->∀k∈G,k∉[x]:=λ{j G} bq cx k hk=>g1.ne bq cx (j:=0) rfl hk
 have k':=no (j:=1) (by decide) rfl
 have la:=no (j:=2) (by decide) rfl
 have nP:=no (j:=3) (by decide) rfl
 have me:=no (j:=4) (by decide) rfl
 have lR:=no (j:=5) (by decide) rfl
 exact⟨al,h.bT.af ai (λk hk=>k' k (by simp at hk⊢;rcases hk with q|q|q<;>simp [q])) (λk hk=>k' k (by simp [hk])),h.bH.af ai la,h1.af ai (fO λk hk=>me k (by simp [hk])),eG.af ab ai λk hk=>me k (by simp [hk]),ar,a7.af ai (fO nP),h.nH.af ai (lR _ (by simp)),ai.get h.pm (lR _ (by simp)),g1.le ai.size,λk hk=>by have:=h.base k hk;have:=ai.size;omega⟩
open aS (bF eG kC dM encS cy h9 n' cL)
structure wX(N:Nat)(db:ey):Prop where
 ss:db.ss.length<=N
 bT:∀s∈db.ss,s.2.length<=N
noncomputable def iZ(db:ey)(r:eW):ey:=if r.k=0 then {db with L:=oF db.L r.l}else if r.k=1 then {db with ss:=cL db.ss r.rows}else db
theorem arA{M:Nat}{A:en}{db:ey}{m:h6}{r:eW}{K:U->Prop}(h:fN H X x A db)(aB:mF H m r)(FZ:r.k=0\/r.k=1)(al:wX N db)(fl:N<=50000)(cV:r.rows.length<=M)(xc:M<=50000)(aG:r.l.length<=1000000)(hs:∀k∈sd m,k∉mN x A)
  (hk:∀H' dG,fN H' X x dG (iZ db r)->wX (N+M) (iZ db r)->Fr (mN x A) H H'->Grow H (mN x A) (mN x dG)->dG.s=A.s->dG.M=A.M->dG.m=A.m->dG.gb=A.gb/\dG.ps=A.ps/\dG.nx=A.nx->K H'):
  dQ arB [ax (some (ak x)),.agg ⟨gV m⟩] H K:=by
 apply arC
 intro b H1 bb b1 ao bK
 have aL:=bb.eq
 have a':=bK.eq
 have ht:=bb.size
 have z2:=bK.size
 have f2:=bb.af.aT bK.af
 have dA:a6 ao ⟨b,0,none⟩ [.pointer (some ⟨x,0,none⟩)]:=bb.bz.ag bK.af
 have cO:a6 ao ⟨b1,0,none⟩ (gV m):=bK.bz
 have ab:=h.ag f2
 have gC:=aB.ag f2
 have k5:=h.bz.lt
 simp only at k5
 have NB:x∈mN x A:=by simp [mN]
 have axa:∀k∈mN x A,k<H.size:=λk hk=>by
  simp only [mN,axA]at hk
  rcases hk with rfl|hk
  ·exact k5
  ·exact h.sep.jz (i:=2) rfl k hk
 have vA:=al.ss
 have zf:=aB.k
 refine⟨_,cO.bY rfl,?_⟩
 refine au (λc0=> ?_) (λc0=>au (λc1=> ?_) (λc1=>absurd FZ (by simp at c0 c1;omega)))
 ·have Pa:r.k=0:=by simp at c0;omega
  have mV:iZ db r={db with L:=oF db.L r.l}:=by unfold iZ;rw [if_pos Pa]
  refine⟨_,dA.bY rfl,_,ab.bz.fk 2 rfl,_,_,_,cO.fk 1 rfl,?_⟩
  have rA:=aB.l.len
  refine dh.ae8 ab.bH gC.l (by omega) (λ_ aC e lG=>hs aC.block (by simp [sd,e,an]) (by simp [mN,lG])) λaP kS az ai ba=>⟨rfl,?_⟩
  have z3:=ai.size
  refine hk aP {A with bC:=kS} ?_ ?_ ?_ ?_ rfl rfl rfl ⟨rfl,rfl,rfl⟩
  ·rw [mV];exact ab.ary az ba (aqh az) ai
  ·rw [mV];exact⟨by simp only;omega,λs hs=>by have:=al.bT s hs;omega⟩
  ·exact f2.trans' ai (by simp) λk hk _=>by simp [mN,hk]
  ·intro k hk
   simp only [mN,axA]at hk⊢
   rcases hk with hk|hk
   ·exact .inl (.inl hk)
   ·rcases ba k hk with q|q
    ·exact .inl (.inr q)
    ·exact .inr (by omega)
 ·have Pa:r.k≠0:=by simp at c0;omega
  have fq:r.k=1:=by simp at c1;omega
  have mV:iZ db r={db with ss:=cL db.ss r.rows}:=by unfold iZ;rw [if_neg Pa,if_pos fq]
  have mR:=aB.rows.len
  have nV:=h.aR.len.trans h.kE.len
  refine⟨_,dA.bY rfl,_,dA.bY rfl,_,_,_,ab.bz.fk 10 rfl,_,_,_,cO.fk 2 rfl,?_⟩
  refine aS.xe ab.aR ab.kE ab.rs gC.rows (by omega) (by omega) (λs hs=>by have:=al.bT s hs;omega) λaV bn bg aP cQ aw CW qe f3=>⟨dA.ag f3|>.bY rfl,?_⟩
  have z3:=f3.size
  have ar:=ab.ag f3
  obtain⟨eY,fR⟩:=aS.NG (rows:=r.rows) (ss:=db.ss) al.bT
  refine ar.bz.st (j:=10) (v:=.slice aV bn bg) (by kernel_rfl) (by kernel_rfl) (pM rfl) (by simp [azI,o0]) λa8 gm f4=>⟨rfl,?_⟩
  have yf:=(aS.y0 (rows:=r.rows) h.rs).1
  have arD:∀q∈Av cQ,q<aP.size:=λq aO=>by
   obtain⟨m',p9,rY⟩:=azi.1 aO
   obtain⟨s,gh,ks⟩:=aS.dd.mem CW p9
   exact aS.GR ks.2 (yf.2 s gh).1 q rY
  have sp:=ab.sep.set (i:=4) (F':=an aV++Av cQ) (H':=aP) rfl (λq aO=>by
   rcases azb.1 aO with aO|aO
   ·exact .inr (aw.ge q aO).1
   ·obtain⟨m',p9,rY⟩:=azi.1 aO;exact .inr (qe m' p9 q rY)) ab.base z3 (λq aO=>by
   rcases azb.1 aO with aO|aO
   ·exact(aw.ge q aO).2
   ·exact arD q aO)
  refine hk a8 {A with bW:=(aV,bn,bg),hs:=cQ} ?_ ?_ ?_ ?_ rfl rfl rfl ⟨rfl,rfl,rfl⟩
  ·rw [mV];exact ar.arz (ha':=(aV,bn,bg)) (ph':=A.gb) (nx':=A.nx) (by simpa [azI,o0]using gm) f4 aw.bT CW yf ar.om sp
  ·rw [mV];exact⟨by simp only;omega,λs hs=>by have:=fR s hs;omega⟩
  ·exact(f2.aT f3).trans' f4 (by simp) λk hk _=>by simp at hk;subst hk;exact NB
  ·exact λk hk=>.inl hk
open aS (bF cL)
structure JL(st:aZ.gB)(b:Nat):Prop where
 last:st.last=λ_=>none
 dir:st.dir=[]
 now:∀y d,st.now y=some d->y.size<=16/\d.size<=b
noncomputable def lM(db:ey)(rs:List eW):aZ.gB:={db.st with now:=aZ.oi db.st.now ei ((db.st.now ei).getD ⟨#[]⟩++lY (lZ rs))}
noncomputable def nC(size:Int)(db:ey)(rs:List eW):Int:=if mH rs≠0 then mH rs else(aZ.writeS size db.st ei ((db.st.now ei).getD ⟨#[]⟩++lY (lZ rs))).2
def kB(x:Nat)(A:en):List Nat:=A.s.block::mN x A
theorem arE{n c:Nat}{a:Option Addr}{A:en}{db:ey}{ms:List h6}{rs:List eW}{K:Int->U->Prop}(h:fN H X x A db)(MU:n2 H)(al:wX N db)(dW:JL db.st b)
  (aa:bt r6 H a n c ms) (aB:wB H ms rs) (cd:∀r∈rs,tA r) (FZ:∀r∈rs,r.k=0\/r.k=1) (o9:∀m∈ms,Small m) (ay:n<=100) (hw:lq rs<=10000) (fl:N+lq rs<=40000) (cO:b<=20000000) (cV:A.M<=90) (rA:∀r∈rs,r.l.length<=1000000)
  (gh:∀k∈an a,k∉kB x A) (mh:∀m∈ms,∀k∈sd m,k<H.size/\k∉kB x A)
  (cq:∀H' dG,nC A.m.size db rs≠0->fN H' X x dG db->wX N db->dG.M<=A.M+1->dG.m=A.m->Fr (kB x A) H H'->K (nC A.m.size db rs) H')
  (eV:∀H' dG,nC A.m.size db rs=0->fN H' X x dG (rs.foldl iZ {db with st:=lM db rs})->wX (N+lq rs) (rs.foldl iZ {db with st:=lM db rs})->JL (lM db rs) (b+400000)->dG.M<=A.M+1->dG.m=A.m->dG.gb=A.gb/\dG.ps=A.ps/\dG.nx=A.nx->Fr (kB x A) H H'->K 0 H'):
  cG X6 [ax (some (ak x)),J a n c] H K:=by
 apply arF
 have k5:=aa.len
 have mR:=aB.1
 refine⟨_,h.bz.fk 1 rfl,?_⟩
 refine fo.mono (aiG (st:=A.s) (K:=λe H1=>Fr [A.s.block] H H1/\e=nC A.m.size db rs/\∃fU kj,(fU=A.cA\/H.size<=fU)/\fU<H1.size/\kj<=A.M+1/\aZ.ib H1 A.s A.d fU A.cu none 0 0 [] A.Sd (if e=0 then lM db rs else db.st) A.m A.N kj/\(e=0->∀r∈rs,oN r)) aa aB cd o9 MU (by omega) (by omega) (λhe H1 f1=> ?_) λhe ba H1 f1=> ?_) λv H1=> ?_
 ·have aL:nC A.m.size db rs=mH rs:=by unfold nC;rw [if_pos he]
  rw [aL]
  refine⟨f1.mono (by simp),rfl,A.cA,A.M,.inl rfl,(h.bT.ag f1).now.lt,by omega,?_,λh=>absurd h he⟩
  rw [if_neg he];exact h.bT.ag f1
 ·have aL:nC A.m.size db rs=(aZ.writeS A.m.size db.st ei ((db.st.now ei).getD ⟨#[]⟩++lY (lZ rs))).2:=by unfold nC;rw [if_neg (by simp [he])]
  have MV:=IA ba λr aB=>by have:=EL aB;omega
  have hold:((db.st.now ei).getD ⟨#[]⟩).size<=b:=by
   cases e:db.st.now ei with
   |none=>exact ayv _
   |some d=>exact(dW.now _ _ e).2
  have uG:=z6 (lZ rs)
  refine aZ.ah7 (h.bT.ag f1) (by omega) (by decide) (by omega) (λ_=>⟨by rw [dW.dir];simp,(λbX d xs aG=>by rw [dW.last]at aG;simp at aG),(λy d aR=> ?_)⟩) λfU ao aO eo ai=> ?_
  ·unfold aZ.oi at aR
   split at aR
   ·rename_i Dk;subst Dk;cases aR
    refine⟨by decide,?_⟩
    rw [aBj];omega
   ·obtain⟨X7,q⟩:=dW.now _ _ aR
    exact⟨by omega,by omega⟩
  ·rw [aL]
   refine⟨f1.trans' ai (by simp) λk hk _=>hk,rfl,fU,A.M+1,aO.imp id λq=>by have:=f1.size;omega,eo.now.lt,axx _,?_,λ_=>ba⟩
   rcases aqj A.m.size db.st ((db.st.now ei).getD ⟨#[]⟩++lY (lZ rs))with⟨ca,b0⟩|⟨ca,b0⟩
   ·rw [if_pos ca,<-show _=lM db rs from b0];exact eo
   ·rw [if_neg ca,<-b0];exact eo
 rintro⟨e,rfl,f1,he,fU,kj,pT,arG,wM,eo,CA⟩
 refine⟨e,rfl,?_⟩
 have h1:=h.arx eo pT arG f1
 have JM:∀k∈[A.s.block],k∈kB x A:=by simp [kB]
 refine au (λaF=>⟨_,rfl,?_⟩) (λaF=> ?_)
 ·have b':e≠0:=by simpa using aF
  rw [if_neg b']at h1
  rw [he]
  exact cq H1 _ (by rw [<-he];exact b') h1 al wM rfl (f1.mono JM)
 ·have b':e=0:=by simpa using aF
  rw [if_pos b']at h1
  have ba:=CA b'
  have MV:=IA ba λr aB=>by have:=EL aB;omega
  have arH:JL (lM db rs) (b+400000):=⟨dW.last,dW.dir,λy d aR=>by
   have hold:((db.st.now ei).getD ⟨#[]⟩).size<=b:=by
    cases e:db.st.now ei with
    |none=>exact ayv _
    |some d=>exact(dW.now _ _ e).2
   unfold lM aZ.oi at aR
   simp only at aR
   split at aR
   ·rename_i Dk;cases aR
    have uG:=z6 (lZ rs)
    exact⟨by rw [Dk];decide,by rw [aBj];omega⟩
   ·obtain⟨ca,q⟩:=dW.now _ _ aR
    exact⟨ca,by omega⟩⟩
  have fB:=wB.af aB f1 λm hm k hk aq=>(mh m hm k hk).2 (JM k aq)
  have k':=aa.af f1 (fO λk hk aq=>gh k hk (JM k aq))
  have ht:=f1.size
  refine⟨λae ao=>match ae with|[.int _ i]=>∃(k:Nat) (dG:en),i=k/\k<=n/\fN ao X x dG ((rs.take k).foldl iZ {db with st:=lM db rs})/\wX (N+lq (rs.take k)) ((rs.take k).foldl iZ {db with st:=lM db rs})/\Fr (mN x A) H1 ao/\Grow H1 (mN x A) (mN x dG)/\dG.s=A.s/\dG.M=kj/\dG.m=A.m/\dG.gb=A.gb/\dG.ps=A.ps/\dG.nx=A.nx|_=>False,
   λae _=>match ae with|[.int _ i]=>n-i.toNat|_=>0,⟨0,{A with cA:=fU,M:=kj},rfl,by omega,h1,⟨ax4 al.ss (by simp),λs hs=>ax4 (al.bT s hs) (by simp)⟩,Fr.refl _ _,Grow.refl _ _,rfl,rfl,rfl,rfl,rfl,rfl⟩,?_⟩
  rintro br i ao ⟨k,dG,rfl,eC,ab,qf,f2,g2,arI,xc,rY,l4⟩
  have aiK:=MT rs k
  refine au (λc0=> ?_) (λc0=>⟨_,rfl,?_⟩)
  ·have k4:k<n:=by simpa using c0
   obtain⟨m,hm⟩:=fM (l:=ms) (i:=k) (by omega)
   obtain⟨r,yh,cp⟩:=fB.at hm
   have sc:=azR hm
   have Pb:=azR yh
   have ww:∀k∈mN x A,k∈kB x A:=λk hk=>by simp [kB,hk]
   refine(k'.af f2 (fO λq aO aq=>gh q aO (ww q aq))).get rfl hm (bh (by omega)) λaC b4 av=>⟨_,_,_,_,_,_,_,_,_,_,_,US av,λb1 aP bw=> ?_⟩
   have cX:=bw.eq
   have qA:=bw.size
   refine MR (m:=m) (m':=m0 0) bw.bz λa8 gm cm=>⟨_,_,_,_,_,_,_,_,_,_,_,gm.f' rfl,?_⟩
   have oJ:Fr [] ao a8:=bw.af.ag cm λk hk=>by simp at hk;omega
   have z2:=f2.size
   have z24:=oJ.size
   have arJ:=(mF.af cp f2 λq aO aq=>(mh m sc q aO).2 (ww q aq)).ag oJ
   have B4:=EL Pb
   have gv:rs.take (k+1)=rs.take k++[r]:=by rw [azP,yh];rfl
   have ME:lq (rs.take (k+1))=lq (rs.take k)+(r.rows.length+r.gU.length):=by
    rw [gv];unfold lq;rw [azj,List.sum_append];simp [pA]
   have axb:=MT rs (k+1)
   have arK:∀q∈sd m,q∉mN x dG:=λq aO aq=>by
    rcases g2 q aq with w|w
    ·exact(mh m sc q aO).2 (ww q w)
    ·have:=(mh m sc q aO).1;omega
   refine arA (ab.ag oJ) arJ (FZ r Pb) qf (by omega) (M:=r.rows.length+r.gU.length) (by omega) (by omega) (rA r Pb) arK λbA A5 bs dI f5 g5 hs5 hM5 mS hp5=> ?_
   have GG:(rs.take (k+1)).foldl iZ {db with st:=lM db rs}=iZ ((rs.take k).foldl iZ {db with st:=lM db rs}) r:=by rw [gv,aAZ];rfl
   rw [cE (by omega)]
   refine⟨⟨k+1,A5,rfl,by omega,by rw [GG];exact bs,by rw [GG];exact⟨ax4 dI.ss (by omega),λs hs=>ax4 (dI.bT s hs) (by omega)⟩,(f2.trans' oJ (λk hk _=>hk) (by simp)).trans' f5 (λk hk _=>hk) (λk hk bQ=>(g2 k hk).elim id λw=>absurd w (by omega)),λq aO=> ?_,hs5.trans arI,hM5.trans xc,mS.trans rY,hp5.1.trans l4.1,hp5.2.1.trans l4.2.1,hp5.2.2.trans l4.2.2⟩,dU k4⟩
   rcases g5 q aO with w|w
   ·exact g2 q w
   ·exact .inr (by omega)
  ·have z8:k=n:=by simp at c0;omega
   have ed:rs.take k=rs:=ayB (by omega)
   rw [ed]at ab qf
   exact eV ao dG (by rw [<-he,b']) ab qf arH (by omega) rY l4 (f1.trans' f2 (λk hk _=>JM k hk) λk hk _=>by simp [kB,hk])
open aS (bF cL eK)
theorem arL{db:ey}{r:eW}(h:pG db.ss)(aB:oN r):pG (iZ db r).ss:=by
 unfold iZ
 split
 ·exact h
 ·split
  ·exact h.put (aqm aB)
  ·exact h
theorem X8:∀{rs:List eW} {db:ey},pG db.ss->(∀r∈rs,oN r)->pG (rs.foldl iZ db).ss
 |[],_,h,_=>h
 |r::rs,db,h,aB=>X8 (rs:=rs) (arL h (aB r (by simp))) λx aa=>aB x (by simp [aa])
theorem arM(db:ey)(r:eW):eD (iZ db r).ss<=eD db.ss+pA r:=by
 unfold iZ pA
 split
 ·exact az9 _ _
 ·split
  ·have:=OX r.rows db.ss;simp only;omega
  ·exact az9 _ _
theorem X9:∀(rs:List eW) (db:ey),eD (rs.foldl iZ db).ss<=eD db.ss+lq rs
 |[],_=>az9 _ _
 |r::rs,db=>by
  have h1:=arM db r
  have ab:=X9 rs (iZ db r)
  have e:lq (r::rs)=pA r+lq rs:=by unfold lq;simp
  rw [ayF,e];omega
theorem arN(db:ey)(r:eW):(iZ db r).st=db.st:=by
 unfold iZ
 split
 ·rfl
 ·split<;>rfl
theorem Ya:∀(rs:List eW) (db:ey),(rs.foldl iZ db).st=db.st
 |[],_=>rfl
 |r::rs,db=>(Ya rs _).trans (arN db r)
theorem fN.wr{A:en}{db:ey}(h:fN H X x A db):∀k∈kB x A,¬X k/\k<H.size:=λk hk=>by
 simp only [kB,mN,axA]at hk
 rcases hk with rfl|rfl|hk
 ·exact h.sep.2 _ (azR (i:=1) rfl) _ (by simp)
 ·exact h.sep.2 _ (azR (i:=0) rfl) _ (by simp)
 ·exact h.sep.2 _ (azR (i:=2) rfl) _ hk
structure jX(H:U)(X:Nat->Prop)(x N b M:Nat)(m:aZ.eX)(A:en)(db:ey):Prop where
 p:fN H X x A db
 q:wX N db
 w:JL db.st b
 g:pG db.ss/\eD db.ss<=N
 M:A.M<=M
 m:A.m=m
 t:n2 H
theorem jX.ag{M:Nat}{m:aZ.eX}{A:en}{db:ey}(h:jX H X x N b M m A db)(ai:Fr [] H H'):jX H' X x N b M m A db:=⟨h.p.ag ai,h.q,h.w,h.g,h.M,h.m,h.t.ag ai⟩
theorem jX.mono{M Em iR kj:Nat}{m:aZ.eX}{A:en}{db:ey}(h:jX H X x N b M m A db)(h1:N<=Em)(ab:b<=iR)(ar:M<=kj):jX H X x Em iR kj m A db:=
 ⟨h.p,⟨ax4 h.q.ss h1,λs hs=>ax4 (h.q.bT s hs) h1⟩,⟨h.w.last,h.w.dir,λy d aR=>⟨(h.w.now y d aR).1,ax4 (h.w.now y d aR).2 ab⟩⟩,⟨h.g.1,ax4 h.g.2 h1⟩,ax4 h.M ar,h.m,h.t⟩
theorem arO(size:Int)(db:ey)(rs:List eW):eM (nC size db rs):=by
 unfold nC
 split
 ·exact XM rs
 ·unfold aZ.writeS aZ.changeM
  split
  ·split<;>exact⟨by simp,by simp⟩
  ·exact⟨by simp,by simp⟩
theorem arP{M n c:Nat}{m:aZ.eX}{a:Option Addr}{A:en}{db:ey}{ms:List h6}{rs:List eW}{w:Nat}{K:Int->U->Prop}(h:jX H X x N b M m A db)
  (aa:bt r6 H a n c ms) (aB:wB H ms rs) (cd:∀r∈rs,tA r) (FZ:∀r∈rs,r.k=0\/r.k=1) (o9:∀m∈ms,Small m) (ay:n<=100) (hw:lq rs<=w) (e8:w<=10000) (fl:N+w<=40000) (cO:b<=20000000) (cV:M<=90) (rA:∀r∈rs,r.l.length<=1000000)
  (gh:∀k∈an a,k∉kB x A) (mh:∀m∈ms,∀k∈sd m,k<H.size/\k∉kB x A)
  (cT:∀k,k<7->X k)
  (cq:∀e H' dG,e=nC m.size db rs->e≠0->eM e->jX H' X x N b (M+1) m dG db->Fr (kB x A) H H'->K e H')
  (eV:∀H' dG,nC m.size db rs=0->jX H' X x (N+w) (b+400000) (M+1) m dG (rs.foldl iZ {db with st:=lM db rs})->dG.gb=A.gb->dG.ps=A.ps->dG.nx=A.nx->Fr (kB x A) H H'->K 0 H'):
  cG X6 [ax (some (ak x)),J a n c] H K:=by
 have uZ:∀{H'},Fr (kB x A) H H'->n2 H':=λai=>h.t.af ai λk hk e=>(h.p.wr k hk).1 (cT k (by omega))
 have hm:=h.m
 refine arE h.p h.t h.q h.w aa aB cd FZ o9 ay (by omega) (by omega) cO (by have:=h.M;omega) rA gh mh (λH' dG he aH al wM fv ai=> ?_) λH' dG he aH al mE wM fv l4 ai=> ?_
 ·rw [hm]at he⊢
  exact cq _ H' dG rfl he (arO _ _ _) ⟨aH,al,h.w,h.g,by have:=h.M;omega,fv.trans hm,uZ ai⟩ ai
 ·rw [hm]at he
  have ba:∀r∈rs,oN r:=(Iz cd).1 (by unfold nC at he;split at he<;>first|assumption|omega)
  have ab:wX (N+w) (rs.foldl iZ {db with st:=lM db rs}):=⟨ax4 al.ss (by omega),λs hs=>ax4 (al.bT s hs) (by omega)⟩
  have ar:(rs.foldl iZ {db with st:=lM db rs}).st=lM db rs:=Ya rs _
  exact eV H' dG he ⟨aH,ab,by rw [ar];exact mE,⟨X8 (db:={db with st:=lM db rs}) h.g.1 ba,ax4 (X9 _ _) (by have:=h.g.2;simp only;omega)⟩,by have:=h.M;omega,fv.trans hm,uZ ai⟩ l4.1 l4.2.1 l4.2.2 ai
open aS (bF eG kC dM encS dP cy gP cL h9 iP dr)
theorem ada{id t:Int}{K:Bool->U->Prop}(hk:∀H',Fr [] H H'->K false H'):eu adb [b2,o id,o t] H K:=by
 apply ade
 intro b H1 bb b1 ao bK
 apply adf
 apply adg
 refine⟨λae H'=>ae=[.int .i64 0]/\ao=H',λ_ _=>0,⟨rfl,rfl⟩,?_⟩
 rintro br n _ ⟨e,rfl⟩
 simp only [List.cons.injEq,Value.int.injEq,true_and,and_true]at e
 subst e
 exact au (λc=>by simp at c) λ_=>⟨_,rfl,_,rfl,by simpa using hk ao (bb.af.aT bK.af)⟩
theorem adh{a:Option Addr}{n c:Nat}{rows:List dr}{D:Value}{K:Int->U->Prop}(aa:bt dP H a n c rows)(ay:n<=1000000)
  (ee:∀(x:dr) H1 (R:Bool->U->Prop),Fr [] H H1->(∀ao,Fr [] H1 ao->R false ao)->dY azB D [.agg ⟨dP.cells x⟩] H1 λv ao=>∃b,v=.bool b/\R b ao) (hk:∀H',Fr [] H H'->K (-1) H'):
  cG adi [J a n c,D] H K:=by
 apply adj
 refine⟨λae H'=>match ae with|[.int _ i]=>∃k:Nat,i=k/\k<=n/\Fr [] H H'|_=>False,λae _=>match ae with|[.int _ i]=>n-i.toNat|_=>0,⟨0,rfl,by omega,Fr.refl _ _⟩,?_⟩
 rintro br i H1 ⟨k,rfl,eC,f1⟩
 refine au (λc=> ?_) λc=>⟨_,rfl,hk H1 f1⟩
 have bg:k<n:=by simpa using c
 obtain⟨x,pP⟩:=fM (l:=rows) (i:=k) (by have:=aa.len;omega)
 refine(aa.ag f1).get rfl pP (bh (by omega)) λaC b4 av=>⟨_,_,_,aS.sw av,ee x H1 _ f1 λao f2=>au (λc=>by cases c) λ_=> ?_⟩
 rw [cE (by omega)]
 exact⟨⟨k+1,rfl,by omega,f1.aT f2⟩,dU bg⟩
theorem aar{a:Option Addr}{n c:Nat}{rows:List dr}{D:Value}{K:Option Addr->Nat->Nat->U->Prop}(aa:bt dP H a n c rows)(ay:n<=1000000)
  (ee:∀(x:dr) H1 (R:Bool->U->Prop),Fr [] H H1->(∀ao,Fr [] H1 ao->R false ao)->dY azB D [.agg ⟨dP.cells x⟩] H1 λv ao=>∃b,v=.bool b/\R b ao) (hk:∀H',Fr [] H H'->K a n c H'):
  dy adk [J a n c,D] H K:=by
 apply adl
 exact adh aa ay ee λH1 f1=>au (λ_=>⟨_,_,_,rfl,hk H1 f1⟩) λc=>by simp at c
theorem aas{ae:List Value}(al:a6 H ⟨b,0,none⟩ [.pointer (some ⟨x,0,none⟩)])(aa:a6 H ⟨x,0,none⟩ ae)(R3:ae[11]?=some (.slice none 0 0))(y:dr){H1:U}{R:Bool->U->Prop}(f1:Fr [] H H1)(cp:∀ao,Fr [] H1 ao->R false ao):
  dY azB (.func (Fn.func 151) ⟨[]⟩ ⟨[.pointer (some ⟨b,0,none⟩)]⟩) [.agg ⟨dP.cells y⟩] H1 λv ao=>∃b,v=.bool b/\R b ao:=by
 refine⟨151, #[],_,rfl,by kernel_rfl,?_⟩
 apply adm
 intro bI ao bK
 have j0:=f1.aT bK.af
 refine⟨_,(al.ag j0).bY rfl,w8 rfl ⟨_,_,_,(aa.ag j0).fk 11 R3,_,bK.bz.cF 1 rfl,_,bK.bz.cF 0 rfl,ada λaP f3=>⟨_,rfl,cp aP (bK.af.aT f3)⟩⟩⟩
theorem P9{day:Int}{K:Int->Int->U->Prop}(aF:0<=day)(h1:day<17179869184)(hk:∀H',Fr [] H H'->K (day*100) ((day+1)*100) H'):aK adn [o day] H λv H'=>∃f t,v=.agg ⟨[.int .i64 f,.int .i64 t]⟩/\K f t H':=by
 apply ado
 rw [cj (n:=day*100) (by omega) (by omega),cj (n:=day+1) (by omega) (by omega),cj (n:=(day+1)*100) (by omega) (by omega)]
 refine iS (v:=.agg ⟨[.int .i64 (day*100),.int .i64 ((day+1)*100)]⟩) (by kernel_rfl) (by kernel_rfl) (λv h=>by simp [azI]at h;rcases h with rfl|rfl<;>rfl) rfl λb H1 al bM f=> ?_
 have adp:a6 H1 ⟨b,0,none⟩ [.int .i64 (day*100),.int .i64 ((day+1)*100)]:=bM
 exact⟨_,_,adp.f' rfl,_,_,rfl,hk H1 f⟩
def sr(L:List (cR Int)):Prop:=∀e∈L,∃a b:Int,e.2.1=.agg ⟨[.int .i64 a,.int .i64 b]⟩
theorem sr.get{L:List (cR Int)}(h:sr L)(k:Int):∃a b:Int,(dm k L).getD (.agg ⟨[.int .i64 0,.int .i64 0]⟩)=.agg ⟨[.int .i64 a,.int .i64 b]⟩:=by
 cases e:dm k L with
 |none=>exact⟨0,0,rfl⟩
 |some v=>
  obtain⟨b,al⟩:=Bn e
  obtain⟨x,y,q⟩:=h _ al
  exact⟨x,y,q⟩
theorem sr.put{L:List (cR Int)}(h:sr L)(k:Int)(a b:Int)(ck:Nat):sr (oq k (.agg ⟨[.int .i64 a,.int .i64 b]⟩) ck L):=by
 intro e he
 unfold oq at he
 split at he
 ·have:∀L:List (cR Int),sr L->e∈mr k (.agg ⟨[.int .i64 a,.int .i64 b]⟩) L->∃a b:Int,e.2.1=.agg ⟨[.int .i64 a,.int .i64 b]⟩:=λL=>by
   induction L with
   |nil=>intro _ h;simp [mr]at h
   |cons x L ih=>
    intro av h
    unfold mr at h
    split at h
    ·rcases axA.1 h with rfl|h
     ·exact⟨a,b,rfl⟩
     ·exact av e (by simp [h])
    ·rcases axA.1 h with rfl|h
     ·exact av _ (by simp)
     ·exact ih (λy aA=>av y (by simp [aA])) h
  exact this L h he
 ·rcases azb.1 he with he|he
  ·exact h e he
  ·simp at he;subst he;exact⟨a,b,rfl⟩
theorem adq:zeroOf azB 297=some (.agg ⟨[.int .i64 0,.int .i64 0]⟩):=by kernel_rfl
theorem adr{p ds ck:Nat}{L:List (cR Int)}{day a b:Int}{K:U->Prop}(aH:a6 H ⟨p,0,none⟩ [.map (some ds)])(hm:dN aS.du H ds ck L)(av:sr L)(hk:∀H' vC L',dN aS.du H' ds vC L'->sr L'->Fr [ds] H H'->K H'):
  dQ ads [ax (some (ak p)),o day,.agg ⟨[o a,o b]⟩] H K:=by
 apply adt
 intro q H1 bb
 have aO:a6 H1 ⟨q,0,none⟩ [.int .i64 a,.int .i64 b]:=bb.bz
 have f1:=bb.af
 have m1:=hm.ag aS.du f1
 refine⟨_,_,aO.f' rfl,au (λ_=>⟨_,(aH.ag f1).bY rfl,?_⟩) λ_=>⟨_,(aH.ag f1).bY rfl,_,_,aO.f' rfl,?_⟩⟩
 ·refine R4 aS.du (mt:=137) (e:=297) aBq m1 day λao m2 f2=>⟨rfl,hk ao _ _ m2 (λe he=>av e (ax2.1 he).1) (f1.trans' f2 (by simp) λk hk _=>hk)⟩
 ·exact t' aS.du (mt:=137) (e:=297) aBq m1 day λao m2 f2=>⟨rfl,hk ao _ _ m2 (av.put day a b ck) (f1.trans' f2 (by simp) λk hk _=>hk)⟩
theorem aaJ{p ds ck:Nat}{L:List (cR Int)}{day kind:Int}{K:U->Prop}(aH:a6 H ⟨p,0,none⟩ [.map (some ds)])(hm:dN aS.du H ds ck L)(av:sr L)(R5:kind=0\/kind=1)(hk:∀H' vC L',dN aS.du H' ds vC L'->sr L'->Fr [ds] H H'->K H'):
  dQ adu [ax (some (ak p)),o day,o kind,o 1] H K:=by
 apply adv
 refine⟨λ_ H'=>H=H',au (λc=>by simp at c;omega) λ_=>au (λc=>by simp at c;omega) λ_=>au (λc=>by simp at c) λ_=>rfl,?_⟩
 rintro br _ rfl
 obtain⟨a,b,adw⟩:=av.get day
 have kk:=sQ (T:=aS.du) (mt:=137) (e:=297) aBq adq hm day
 rw [adw]at kk
 refine⟨_,aH.bY rfl,a,b,kk,?_⟩
 refine iS (v:=.agg ⟨[.int .i64 a,.int .i64 b]⟩) (by kernel_rfl) (by kernel_rfl) (λv h=>by simp [azI]at h;rcases h with rfl|rfl<;>rfl) rfl λq H1 aO bM f1=> ?_
 have rn:a6 H1 ⟨q,0,none⟩ [.int .i64 a,.int .i64 b]:=bM
 have fin:∀{ao:U} {aV iR:Int},a6 ao ⟨q,0,none⟩ [.int .i64 aV,.int .i64 iR]->Fr [q] H1 ao->∃n pQ,ah 297 ao ⟨q,0,none⟩ (.agg ⟨[.int .i64 n,.int .i64 pQ]⟩)/\dQ 175 [.pointer (some ⟨p,0,none⟩),.int .i64 day,.agg ⟨[.int .i64 n,.int .i64 pQ]⟩] ao λH'=>(aA7 ⟨[]⟩=.tuple ⟨[]⟩/\K H'):=λ{ao aV iR} k8 f2=>by
  have j0:Fr [] H ao:=f1.ag f2 λk hk=>by simp at hk;omega
  exact⟨_,_,k8.f' rfl,adr (aH.ag j0) (hm.ag aS.du j0) av λaP vC L' m3 c3 f3=>⟨rfl,hk aP vC L' m3 c3 (j0.trans' f3 (by simp) λk hk _=>hk)⟩⟩
 rcases R5 with rfl|rfl
 ·refine cM (by kernel_rfl) ⟨a,rn.bY rfl,cM (by kernel_rfl) ?_⟩
  exact rn.st (j:=0) (v:=.int .i64 _) (by kernel_rfl) (by kernel_rfl) (pM rfl) (by simp [azI]) λao k8 f2=>fin (by simpa [azI]using k8) f2
 ·refine cM (by kernel_rfl) ⟨b,rn.fk 1 rfl,cM (by kernel_rfl) ?_⟩
  exact rn.st (j:=1) (v:=.int .i64 _) (by kernel_rfl) (by kernel_rfl) (pM rfl) (by simp [azI]) λao k8 f2=>fin (by simpa [azI]using k8) f2
end Go.Proofs.Bt
namespace Go.Proofs.aS
theorem Jp{n:Nat}{H:U}{K:Int->U->Prop}(ay:n<18446744073709551616)(hk:K (fE n) H):aK ao5 [b3 n] H λw H'=>∃v,w=.int .i64 v/\K v H':=by
 apply ao6
 refine⟨_,rfl,?_⟩
 unfold fE at hk
 have aL:Int.fdiv (n:Int) (2^1)=((n/2:Nat):Int):=by rw [aAa _ (by decide)];omega
 rw [aL,aku n ay,ix (n:=((n % 2:Nat):Int)) (by omega) (by omega),cj (n:=((n % 2:Nat):Int)) (by omega) (by omega),cj (n:=((n/2:Nat):Int)) (by omega) (by omega)]
 by_cases aF:n % 2=0
 ·rw [if_pos aF]at hk
  rw [aF,cj (n:=0-((0:Nat):Int)) (by omega) (by omega)]
  show K (IntKind.i64.wrap ((azx 64 ((n/2:Nat):Int)^^^azx 64 0).toNat:Nat)) H
  rw [xor_zero (by omega),cj (by omega) (by omega)]
  exact hk
 ·rw [if_neg aF]at hk
  have a':n % 2=1:=by omega
  rw [a',cj (n:=0-((1:Nat):Int)) (by omega) (by omega)]
  show K (IntKind.i64.wrap ((azx 64 ((n/2:Nat):Int)^^^azx 64 (-1)).toNat:Nat)) H
  rw [akj (by omega),Vx (by omega) (by omega)]
  have:((18446744073709551615-n/2:Nat):Int)-18446744073709551616= -((n/2:Nat):Int)-1:=by omega
  rw [this];exact hk
theorem aoX{s:ByteArray}{at':Int}{H:U}{K:Int->Int->Int->U->Prop}(hs:s.size<=100000000000)(o':¬(0<=at'/\at'<=s.size)->K 0 0 1 H)
  (hk:∀a:Nat,at'=a->a<=s.size->∀(v:Nat) n e,nu ((bd s).drop a) a v n e->v<18446744073709551616->K (fE v) n e H):
  aK ao7 [aj s,o at'] H λv H'=>∃n m e,v=.tuple ⟨[.int .i64 n,.int .i64 m,.int .i64 e]⟩/\K n m e H':=by
 apply ao8
 refine zR hs (λh=> ?_) λa b4 bW v n e ba=> ?_
 ·have:=Jp (n:=0) (H:=H) (K:=λw H'=>K w 0 1 H') (by omega) (o' h)
  exact this.mono λv H' ⟨w,h1,ab⟩=>⟨w,h1,_,_,_,rfl,ab⟩
 ·obtain⟨m,rfl,hm⟩:∃m:Nat,v=m/\m<18446744073709551616:=by
   rcases ba with⟨m,h1,ab,_⟩|⟨h,_⟩|⟨h,_⟩
   ·exact⟨m,h1,ab⟩
   ·exact⟨0,h,by omega⟩
   ·exact⟨0,h,by omega⟩
  have:=Jp (n:=m) (H:=H) (K:=λw H'=>K w n e H') hm (hk a b4 bW m n e ba hm)
  exact this.mono λv H' ⟨w,h1,ab⟩=>⟨w,h1,_,_,_,rfl,ab⟩
end Go.Proofs.aS
namespace Go.Proofs
def fr(n:Nat):Nat->List Bool
 |0=>[]
 |b+1=>(n/2^b % 2==1)::fr n b
def ec(l:List Bool):Nat:=l.foldl (λa x=>2*a+x.toNat) 0
theorem kZ(n:Nat):∀b,(fr n b).length=b
 |0=>rfl
 |b+1=>by rw [fr,ayi,kZ n b]
theorem OJ:∀(l:List Bool) (a:Nat),l.foldl (λa x=>2*a+x.toNat) a=a*2^l.length+ec l
 |[],a=>by simp [ec]
 |x::l,a=>by
  unfold ec
  rw [ayF,ayF,OJ l,OJ l (2*0+x.toNat),ayi,aym]
  have:(2*a+x.toNat)*2^l.length=a*(2^l.length*2)+x.toNat *2^l.length:=by
   rw [axK,ayU 2 a,Nat.mul_assoc,ayU 2 (2^l.length)]
  rw [this]
  have:(2*0+x.toNat)*2^l.length=x.toNat *2^l.length:=by rw [Nat.mul_zero,axJ]
  omega
theorem Ag(a b:List Bool):ec (a++b)=ec a*2^b.length+ec b:=by
 conv=>lhs;unfold ec
 rw [aAZ,OJ];rfl
theorem Ah(x:Bool)(l:List Bool):ec (x::l)=x.toNat *2^l.length+ec l:=by
 rw [show x::l=[x]++l from rfl,Ag]
 simp [ec]
theorem pF:∀l:List Bool,ec l<2^l.length
 |[]=>by simp [ec]
 |x::l=>by
  have:=pF l
  rw [Ah,ayi,aym]
  cases x<;>simp<;>omega
theorem apK(n b:Nat):n % 2^(b+1)=n/2^b % 2*2^b+n % 2^b:=by
 rw [aym,Nat.mod_mul,ayU (n/2^b % 2)]
 omega
theorem r'(n:Nat):∀b,ec (fr n b)=n % 2^b
 |0=>by simp [fr,ec,Nat.mod_one]
 |b+1=>by
  rw [fr,Ah,kZ,r' n b,apK n b]
  have:n/2^b % 2=0\/n/2^b % 2=1:=by omega
  rcases this with e|e<;>rw [e]<;>rfl
theorem Jx:∀{a b:List Bool},a.length=b.length->ec a=ec b->a=b
 |[],[],_,_=>rfl
 |[],_::_,h,_=>by simp at h
 |_::_,[],h,_=>by simp at h
 |x::a,y::b,h,e=>by
  have aG:a.length=b.length:=by simpa using h
  have h1:=pF a
  have ab:=pF b
  rw [Ah,Ah,aG]at e
  rw [aG]at h1
  cases x<;>cases y<;>simp at e<;>first|(exact congrArg _ (Jx aG e))|omega
theorem Je(n b:Nat):fr (n % 2^b) b=fr n b:=by
 refine Jx (by rw [kZ,kZ]) ?_
 rw [r',r',Nat.mod_mod]
theorem Fk(n:Nat)(a b:Nat):fr n (a+b)=fr (n/2^b) a++fr n b:=by
 refine Jx (by rw [ax6,kZ,kZ,kZ]) ?_
 rw [Ag,r',r',r',kZ,Nat.add_comm a b,aA5,Nat.mod_mul,ayU (n/2^b % 2^a)]
 omega
theorem NW(q:Nat):fr (2^q-1) q=aA1 q true:=by
 induction q with
 |zero=>rfl
 |succ q ih=>
  rw [fr,aA6]
  have ab:0<2^q:=aA2 (by decide)
  have aL:(2^(q+1)-1)/2^q=1:=by
   rw [aym]
   refine aBz ?_ ?_<;>omega
  rw [aL,<-Je,show(2^(q+1)-1) % 2^q=2^q-1 from by
   rw [aym,show 2^q*2-1=2^q-1+2^q from by omega,Nat.add_mod_right]
   exact aAb (by omega),ih]
  rfl
def hq(n k:Nat):List Bool:=if 24<=n/2^k then aA1 24 true++fr n 64 else aA1 (n/2^k) true++false::fr n k
theorem Fo(n k:Nat):(hq n k).length=if 24<=n/2^k then 88 else n/2^k+1+k:=by
 unfold hq
 split
 ·rw [ax6,aA3,kZ]
 ·rw [ax6,aA3,ayi,kZ];omega
def q7(l:List Bool):UInt8:=axX (ec l*2^(8-l.length))
def tN:Nat->List Bool->List UInt8
 |0,_=>[]
 |f+1,l=>if l=[]then []else q7 (l.take 8)::tN f (l.drop 8)
def pack(l:List Bool):List UInt8:=tN l.length l
theorem Xk:∀(f g:Nat) (l:List Bool),l.length<=f->l.length<=g->tN f l=tN g l
 |0,g,l,h,_=>by
  have:l=[]:=ayT (by omega)
  subst this
  cases g<;>simp [tN]
 |f+1,0,l,_,h=>by
  have:l=[]:=ayT (by omega)
  subst this
  simp [tN]
 |f+1,g+1,l,h,h'=>by
  unfold tN
  split
  ·rfl
  ·rename_i ay
   have:0<l.length:=aAI.2 ay
   rw [Xk f g (l.drop 8) (by rw [ayY];omega) (by rw [ayY];omega)]
theorem apL:pack []=[]:=rfl
theorem OK(a b:List Bool)(h:a.length=8):pack (a++b)=q7 a::pack b:=by
 have aG:(a++b).length=b.length+7+1:=by rw [ax6];omega
 unfold pack
 rw [aG]
 show(if a++b=[]then []else _)=_
 rw [if_neg (by intro e;rw [e]at aG;simp at aG),aBb h,aBf h]
 rw [Xk (b.length+7) b.length b (by omega) (axx _)]
theorem N1{l:List Bool}(aF:l≠[])(h:l.length<=8):pack l=[q7 l]:=by
 have aH:0<l.length:=aAI.2 aF
 unfold pack
 obtain⟨m,hm⟩:∃m,l.length=m+1:=⟨l.length-1,by omega⟩
 rw [hm]
 show(if l=[]then []else _)=_
 rw [if_neg aF,ayB h,az2 h]
 cases m<;>simp [tN]
theorem Ww:∀(x:List Bool) (y:List Bool),x.length % 8=0->pack (x++y)=pack x++pack y:=by
 intro x
 generalize ay:x.length/8=n
 induction n generalizing x with
 |zero=>
  intro y h
  have:x=[]:=ayT (by omega)
  subst this
  simp [apL]
 |succ n ih=>
  intro y h
  have aa:x=x.take 8++x.drop 8:=(aAd 8 x).symm
  have aW:(x.take 8).length=8:=by rw [ayj];omega
  have aR:(x.drop 8).length=x.length-8:=ayY
  rw [aa,ax7,OK _ _ aW,OK _ _ aW,ih (x.drop 8) (by omega) y (by omega)]
  rfl
def gx(l:List UInt8):List Bool:=l.flatMap λx=>fr x.toNat 8
theorem Wp(l:List UInt8):(gx l).length=8*l.length:=by
 induction l with
 |nil=>rfl
 |cons x l ih=>unfold gx at ih⊢;rw [axO,ax6,ih,kZ,ayi];omega
theorem Xl(l:List Bool)(h:l.length<=8):fr (q7 l).toNat 8=l++aA1 (8-l.length) false:=by
 have aI:=pF l
 have aH:2^l.length*2^(8-l.length)=256:=by rw [<-aA5,show l.length+(8-l.length)=8 from by omega]
 have bQ:ec l*2^(8-l.length)<256:=by
  rw [<-aH];exact aBg aI (aA2 (by decide))
 have M':∀m,ec (aA1 m false)=0:=λm=>by
  induction m with
  |zero=>rfl
  |succ m ih=>rw [aA6,Ah,ih];simp
 refine Jx (by rw [kZ,ax6,aA3];omega) ?_
 rw [r',Ag,aA3,M']
 unfold q7
 rw [axY]
 omega
theorem Jc:∀(n:Nat) (l:List Bool),l.length<=n->∃m,m<8/\gx (pack l)=l++aA1 m false:=by
 intro n
 induction n using Nat.strongRecOn with
 |_ n ih=>
  intro l aG
  by_cases aF:l=[]
  ·subst aF;exact⟨0,by decide,rfl⟩
  ·by_cases fi:l.length<=8
   ·rw [N1 aF fi]
    have aH:0<l.length:=aAI.2 aF
    refine⟨8-l.length,by omega,?_⟩
    unfold gx
    rw [axO,List.flatMap_nil,azh,Xl l fi]
   ·have aW:(l.take 8).length=8:=by rw [ayj];omega
    obtain⟨m,hm,e⟩:=ih (l.drop 8).length (by rw [ayY];omega) (l.drop 8) (axx _)
    refine⟨m,hm,?_⟩
    have aa:l=l.take 8++l.drop 8:=(aAd 8 l).symm
    conv=>lhs;rw [aa,OK _ _ aW]
    unfold gx at e⊢
    rw [axO,e,Xl _ (by omega),aW]
    simp only [aBk,List.replicate_zero,azh]
    rw [<-ax7,aAd]
end Go.Proofs
namespace Go.Proofs.aS
theorem hd{n:Nat}(h:n<18446744073709551616):IntKind.u64.wrap (n:Int)=(n:Int):=ix (by omega) (by omega)
variable{t:Nat}{H:U}
theorem NU(aW:t<=64):min (azw (IntKind.u64.wrap (t:Int))) 64=t:=by
 rw [hd (by omega)];omega
theorem I6(t:Nat):((2:Int)^t)=((2^t:Nat):Int):=by simp
theorem wN:(2:Nat)^64=18446744073709551616:=by decide
theorem Fi{n:Nat}(aW:t<=64)(h:n*2^t<18446744073709551616):IntKind.u64.wrap ((n:Int)*2^min (azw (IntKind.u64.wrap (t:Int))) 64)=((n*2^t:Nat):Int):=by
 rw [NU aW,I6,<-Int.natCast_mul,hd h]
theorem Cq(n:Nat)(aW:t<=64):Int.fdiv (n:Int) (2^min (azw (IntKind.u64.wrap (t:Int))) 64)=((n/2^t:Nat):Int):=by
 rw [NU aW,I6,aAa _ (aBl _)]
 exact(Int.natCast_ediv n (2^t)).symm
theorem I7(aW:t<=64):IntKind.u64.wrap (IntKind.u64.wrap (1*2^min (azw (IntKind.u64.wrap (t:Int))) 64)-1)=((2^t-1:Nat):Int):=by
 rw [NU aW,I6,Int.one_mul]
 have aF:0<2^t:=aA2 (by decide)
 by_cases h:t=64
 ·subst h;decide
 ·have h1:2^t<2^64:=Nat.pow_lt_pow_right (by decide) (by omega)
  rw [wN]at h1
  rw [hd h1,ix (by omega) (by omega)]
  omega
theorem Fj{n:Nat}(ay:n<18446744073709551616)(aW:t<=64):(azx 64 (n:Int)&&&azx 64 ((2^t-1:Nat):Int)).toNat=n % 2^t:=by
 have h1:2^t<=2^64:=azN (by decide) aW
 rw [wN]at h1
 have aF:0<2^t:=aA2 (by decide)
 rw [BitVec.toNat_and,u' ay,u' (by omega),Nat.and_two_pow_sub_one_eq_mod]
theorem NV{a b:Nat}(bW:a*2^t+b<18446744073709551616)(al:b<2^t):(azx 64 ((a*2^t:Nat):Int)|||azx 64 (b:Int)).toNat=a*2^t+b:=by
 rw [BitVec.toNat_or,u' (by omega),u' (by omega),ayU a,<-Nat.two_pow_add_eq_or_of_lt al]
theorem Wl{x k:Nat}(hk:k<64)(h1:2^k<=x)(ab:x<2^(k+1)):Lib.bitLen x=k+1:=by
 have ar:x<2^64:=ayQ ab (azN (by decide) (by omega))
 rw [Lib.bitLen_shift k x h1 ar]
 have e:x/2^k=1:=by
  refine aBz (by omega) ?_
  rw [aym]at ab;omega
 rw [e];rfl
def l3(l:List Bool):Nat:=(l.takeWhile id).length
theorem Wm(l:List Bool):l3 l<=l.length:=by
 unfold l3
 induction l with
 |nil=>simp
 |cons x l ih=>cases x<;>simp<;>omega
theorem Wn:∀(l:List Bool),l=aA1 (l3 l) true\/∃r,l=aA1 (l3 l) true++false::r
 |[]=>.inl rfl
 |false::l=>.inr ⟨l,rfl⟩
 |true::l=>by
  have e:l3 (true::l)=l3 l+1:=by unfold l3;simp
  rw [e,aA6]
  rcases Wn l with h|⟨r,h⟩
  ·left
   conv=>lhs;rw [h]
  ·right
   refine⟨r,?_⟩
   conv=>lhs;rw [h]
   rfl
theorem amO(q:Nat)(r:List Bool):l3 (aA1 q true++false::r)=q:=by
 unfold l3
 induction q with
 |zero=>rfl
 |succ q ih=>rw [aA6,axV,aBA];simp
theorem amP(q:Nat):l3 (aA1 q true)=q:=by
 unfold l3
 induction q with
 |zero=>rfl
 |succ q ih=>rw [aA6,aBA];simp
theorem Wo(q:Nat):ec (aA1 q true)=2^q-1:=by
 rw [<-NW,r']
 exact aAb (by have:0<2^q:=aA2 (by decide);omega)
theorem amQ{l:List Bool}(aF:0<l.length)(aG:l.length<=24):ec l*2^(64-l.length)<18446744073709551616/\Lib.bitLen (18446744073709551615-ec l*2^(64-l.length))=64-l3 l:=by
 have aI:=pF l
 have aH:2^l.length*2^(64-l.length)=18446744073709551616:=by rw [<-wN,<-aA5,show l.length+(64-l.length)=64 from by omega]
 have bQ:ec l*2^(64-l.length)<18446744073709551616:=by
  rw [<-aH];exact aBg aI (aA2 (by decide))
 refine⟨bQ,?_⟩
 have hle:=Wm l
 generalize aO:l3 l=q at *
 have hs:=Wn l
 rw [aO]at hs
 have jE:2^q*2^(64-q)=18446744073709551616:=by rw [<-wN,<-aA5,show q+(64-q)=64 from by omega]
 have iC:0<2^(64-q):=aA2 (by decide)
 have Kc:0<2^q:=aA2 (by decide)
 have awu:2^(64-q)=2*2^(63-q):=by rw [show 64-q=(63-q)+1 from by omega,aym,ayU]
 have main:(2^q-1)*2^(64-q)=18446744073709551616-2^(64-q):=by rw [Nat.sub_mul,Nat.one_mul,jE]
 have awv:2^(64-q)<=18446744073709551616:=by rw [<-jE];exact Nat.le_mul_of_pos_left _ Kc
 rcases hs with h|⟨r,h⟩
 ·have H8:l.length=q:=by rw [h,aA3]
  rw [H8,h,Wo,main,show 18446744073709551615-(18446744073709551616-2^(64-q))=2^(64-q)-1 from by omega]
  rw [Wl (k:=63-q) (by omega) (by omega) (by rw [show 63-q+1=64-q from by omega];omega)]
  omega
 ·have H8:l.length=q+1+r.length:=by rw [h,ax6,aA3,ayi];omega
  have aB:=pF r
  have oa:ec l=(2^q-1)*2^(r.length+1)+ec r:=by
   conv=>lhs;rw [h]
   rw [Ag,Wo,Ah,ayi];simp
  have a':2^(r.length+1)*2^(64-l.length)=2^(64-q):=by rw [<-aA5,show r.length+1+(64-l.length)=64-q from by omega]
  have cX:2^r.length*2^(64-l.length)=2^(63-q):=by rw [<-aA5,show r.length+(64-l.length)=63-q from by omega]
  have gQ:ec r*2^(64-l.length)<2^(63-q):=by
   rw [<-cX];exact aBg aB (aA2 (by decide))
  rw [oa,axK,Nat.mul_assoc,a',main]
  generalize ec r*2^(64-l.length)=t at *
  rw [Wl (k:=63-q) (by omega) (by omega) (by rw [show 63-q+1=64-q from by omega];omega)]
  omega
theorem amR{x:Nat}{K:Int->U->Prop}(aa:x<18446744073709551616)(hk:K (Lib.bitLen x) H):cG 222 [b3 (x:Int)] H K:=λE d=>
 (Tryz.bits_Len64 (x:Int) _ (by omega) (by omega)).mono λe w' ⟨he,hw⟩=>⟨_,H,d,he,hw,_,rfl,hk⟩
theorem amS{x:Nat}{K:Int->U->Prop}(aa:x<18446744073709551616)(hk:K (64-(Lib.bitLen x:Int)) H):cG amT [b3 (x:Int)] H K:=by
 apply amU
 refine amR aa ⟨_,rfl,?_⟩
 have:=Lib.bitLen_le x 64 (axx _) (by rw [wN];exact aa)
 rw [cj (by omega) (by omega)]
 exact hk
theorem amV(l:List UInt8)(i:Nat):(gx l).drop (8*i)=gx (l.drop i):=by
 induction i generalizing l with
 |zero=>rfl
 |succ i ih=>
  cases l with
  |nil=>simp [gx]
  |cons x l=>
   have e:gx (x::l)=fr x.toNat 8++gx l:=rfl
   rw [e,show 8*(i+1)=8+8*i from by omega,<-aA4,aBf (kZ _ _),ih]
   rfl
theorem amW(x:Nat){ad:Nat}(h:ad+t<=8):((fr x 8).drop ad).take t=fr (x/2^(8-ad-t)) t:=by
 have e:fr x 8=fr (x/2^(8-ad)) ad++(fr (x/2^(8-ad-t)) t++fr x (8-ad-t)):=by
  rw [<-Fk,show t+(8-ad-t)=8-ad from by omega,<-Fk,show ad+(8-ad)=8 from by omega]
 rw [e,aBf (kZ _ _),aBb (kZ _ _)]
theorem amX{s:ByteArray}{a:Nat}(bW:a+t<=8*s.size)(h:a % 8+t<=8)(aF:0<t):((gx (bd s)).drop a).take t=fr (bo s (a/8)/2^(8-a % 8-t)) t:=by
 have bQ:a/8<(bd s).length:=by rw [dR];omega
 have aL:a=8*(a/8)+a % 8:=by omega
 have a':(bd s).drop (a/8)=(bd s)[a/8]::(bd s).drop (a/8+1):=az6 bQ
 have cX:((bd s)[a/8]).toNat=bo s (a/8):=(Ca (by rw [yl];simp)).symm
 conv=>lhs;rw [aL,<-aA4,amV,a']
 have gQ:gx ((bd s)[a/8]::(bd s).drop (a/8+1))=fr (bo s (a/8)) 8++gx ((bd s).drop (a/8+1)):=by rw [<-cX];rfl
 rw [gQ,aBw (by rw [kZ];omega),aBe (by rw [ayY,kZ];omega),amW _ h]
theorem NX(s:ByteArray):(gx (bd s)).length=8*s.size:=by rw [Wp,dR]
theorem Fl{r:Nat}{s:ByteArray}{a:Int}(h:a6 H ⟨r,0,none⟩ [.string s,.int .i64 a]):ah 9 H ⟨r,0,none⟩ (.string s):=h.bY rfl
theorem I8{r:Nat}{s:ByteArray}{x:Int}{at' many:Int}{a m:Nat}{K:Int->U->Prop}(al:a6 H ⟨r,0,none⟩ [.string s,.int .i64 x])(b4:at'=a)(em:many=m)(bW:a+m<=8*s.size)(hm:m<=64)(hs:s.size<=1000000000000)
  (hk:K (ec (((gx (bd s)).drop a).take m):Nat) H):aK amY [ax (some (ak r)),o at',o many] H λv H'=>∃n,v=.int .u64 n/\K n H':=by
 subst b4;subst em
 apply amZ
 have fh:=NX s
 refine⟨λae H'=>match ae with|[.int _ i,.int _ j,.int _ n]=>∃t u:Nat,t+u=m/\i=(a+t:Nat)/\j=u/\n=(ec (((gx (bd s)).drop a).take t):Nat)/\H'=H|_=>False,
  λae _=>match ae with|[_,.int _ j,_]=>j.toNat|_=>0,⟨0,m,by omega,by simp,rfl,by simp [ec],rfl⟩,?_⟩
 rintro br i j n H1 ⟨t,u,aww,rfl,rfl,rfl,rfl⟩
 refine au (λaF=> ?_) (λaF=> ?_)
 ·have hu:0<u:=by simpa using aF
  refine⟨s,Fl al,?_⟩
  have Ai:IntKind.i64.wrap (8-Int.tmod ((a+t:Nat):Int) 8)=((8-(a+t) % 8:Nat):Int):=by
   rw [show Int.tmod ((a+t:Nat):Int) 8=(((a+t) % 8:Nat):Int)from(Int.ofNat_tmod (a+t) 8).symm,cj (by omega) (by omega)]
   omega
  have I9:IntKind.i64.wrap (azE ((a+t:Nat):Int) 8)=(((a+t)/8:Nat):Int):=by
   rw [show azE ((a+t:Nat):Int) 8=(((a+t)/8:Nat):Int)from(Int.ofNat_tdiv (a+t) 8).symm,cj (by omega) (by omega)]
  rw [Ai,I9]
  obtain⟨w,hw,K1,e8,vd⟩:∃w:Nat,(if(u:Int)<((8-(a+t) % 8:Nat):Int)then(u:Int)else((8-(a+t) % 8:Nat):Int))=(w:Int)/\0<w/\w<=u/\(a+t) % 8+w<=8:=⟨min u (8-(a+t) % 8),by split<;>omega,by omega,by omega,by omega⟩
  rw [hw]
  have ku:IntKind.i64.wrap (((8-(a+t) % 8:Nat):Int)-(w:Int))=((8-(a+t) % 8-w:Nat):Int):=by
   rw [cj (by omega) (by omega)];omega
  rw [ku,ayS]
  have aa:=u5 s ((a+t)/8)
  have aI:=pF (((gx (bd s)).drop a).take t)
  have jV:(((gx (bd s)).drop a).take t).length=t:=by rw [ayj,ayY];omega
  rw [jV]at aI
  have EP:2^t*2^w<=18446744073709551616:=by rw [<-aA5,<-wN];exact azN (by decide) (by omega)
  have NY:ec (((gx (bd s)).drop a).take t)*2^w+2^w<=18446744073709551616:=by
   refine ax4 ?_ EP
   rw [<-Nat.succ_mul]
   exact axQ _ aI
  have iC:0<2^w:=aA2 (by decide)
  rw [hd (n:=bo s ((a+t)/8)) (by omega),Cq _ (by omega),I7 (by omega),Fi (by omega) (by omega)]
  rw [Fj (aA9 (aBr _ _) (by omega)) (by omega),hd (aA9 (aBm _ _) (aA9 (aBr _ _) (by omega)))]
  have cO:bo s ((a+t)/8)/2^(8-(a+t) % 8-w) % 2^w<2^w:=ayq _ iC
  rw [NV (by omega) cO,hd (by omega)]
  refine cM (bh (by omega)) (cM (bh (by first|omega|(rw [hd (by omega)];omega))) (cM (bh (by first|omega|(rw [hd (by omega)];omega))) (cM (bh (by first|omega|(rw [hd (by omega)];omega))) ⟨⟨t+w,u-w,by omega,?_,?_,?_,rfl⟩,?_⟩)))
  ·rw [cj (by omega) (by omega)];omega
  ·rw [cj (by omega) (by omega)];omega
  ·have aL:((gx (bd s)).drop a).take (t+w)=((gx (bd s)).drop a).take t++((gx (bd s)).drop (a+t)).take w:=by
    rw [List.take_add,aA4]
   rw [aL,Ag,amX (by omega) vd K1,r',kZ]
   exact hd (by omega)
  ·show(IntKind.i64.wrap ((u:Int)-(w:Int))).toNat<((u:Nat):Int).toNat
   rw [cj (by omega) (by omega)];omega
 ·have hu:u=0:=by simp at aF;omega
  have aW:t=m:=by omega
  subst aW
  exact⟨_,rfl,hk⟩
theorem a6.set{P:Program}{t:TypeId}{a:Addr}{ae:List Value}{j:Nat}{v:Value}{X:U->Prop}(h:a6 H a ae)(hs:hy P t=1)(az:(P.info? t).isSome=true)(aI:v.cells= #[v])(h1:v.oneCell'=true)(bq:j<ae.length)
  (k:∀H',a6 H' a (ae.set j v)->Fr [a.block] H H'->X H'):∃H',oz P t H (a.add j) v H'/\X H':=by
 have av:v.cells.toList=[v]:=by rw [aI]
 refine h.st (by rw [hs,aI];rfl) az (by rw [av];simpa using h1) (by rw [aI];simp;omega) λH' al ai=>k H' ?_ ai
 rw [av]at al
 have e:ae.take j++[v]++ae.drop (j+[v].length)=ae.set j v:=by
  rw [List.set_eq_take_append_cons_drop,if_pos bq];simp
 rwa [e]at al
def sa(r:List Bool)(k:Nat):Option (Nat×Nat):=
 if l3 (r.take 24)=24 then(if r.length<88\/ec ((r.drop 24).take 64)/2^k<24 then none else some (ec ((r.drop 24).take 64),88))
 else if r.length<l3 (r.take 24)+1+k then none else some (l3 (r.take 24)*2^k+ec ((r.drop (l3 (r.take 24)+1)).take k),l3 (r.take 24)+1+k)
theorem Fm{n k:Nat}(ay:n<18446744073709551616)(rest:List Bool):sa (hq n k++rest) k=some (n,(hq n k).length):=by
 have aH:0<2^k:=aA2 (by decide)
 by_cases h:24<=n/2^k
 ·have mg:hq n k=aA1 24 true++fr n 64:=if_pos h
  have aL:(hq n k++rest).take 24=aA1 24 true:=by
   rw [mg,ax7,aBb (aA3)]
  have a':((hq n k++rest).drop 24).take 64=fr n 64:=by
   rw [mg,ax7,aBf (aA3),aBb (kZ _ _)]
  have cX:ec (fr n 64)=n:=by rw [r',wN];exact aAb ay
  have gQ:(hq n k).length=88:=by rw [Fo,if_pos h]
  unfold sa
  rw [aL,amP,if_pos rfl,a',cX,if_neg,gQ]
  rw [ax6,gQ]
  omega
 ·have mg:hq n k=aA1 (n/2^k) true++false::fr n k:=if_neg h
  have aO:n/2^k<24:=by omega
  have aL:l3 ((hq n k++rest).take 24)=n/2^k:=by
   rw [mg,ax7,axV]
   obtain⟨m,hm⟩:∃m,24=n/2^k+(m+1):=⟨23-n/2^k,by omega⟩
   have:(aA1 (n/2^k) true++false::(fr n k++rest)).take 24=aA1 (n/2^k) true++false::(fr n k++rest).take m:=by
    conv=>lhs;rw [hm]
    have aG:(aA1 (n/2^k) true).length=n/2^k:=aA3
    conv=>lhs;rw [<-aG]
    rw [aG,List.take_append,aG]
    simp [ayB]
   rw [this,amO]
  have a':((hq n k++rest).drop (n/2^k+1)).take k=fr n k:=by
   have:hq n k++rest=(aA1 (n/2^k) true++[false])++(fr n k++rest):=by rw [mg];simp
   rw [this,aBf (by simp),aBb (kZ _ _)]
  have gQ:(hq n k).length=n/2^k+1+k:=by rw [Fo,if_neg h]
  unfold sa
  rw [aL,if_neg (by omega),a',r',if_neg (by rw [ax6,gQ];omega),gQ]
  congr 2
  rw [ayU];exact Nat.div_add_mod n (2^k)
theorem am0{r:Nat}{s:ByteArray}{x e7:Int}{a k:Nat}{K:Int->Int->U->Prop}(al:a6 H ⟨r,0,none⟩ [.string s,.int .i64 x])(ex:x=a)(gR:e7=k)(bW:a<=8*s.size)(hs:s.size<=1000000000000)
  (cq:k>40\/sa ((gx (bd s)).drop a) k=none->∀e,e≠0->K 0 e H)
  (eV:k<=40->∀n m H',sa ((gx (bd s)).drop a) k=some (n,m)->n<18446744073709551616->a+m<=8*s.size->a6 H' ⟨r,0,none⟩ [.string s,.int .i64 ((a+m:Nat):Int)]->Fr [r] H H'->K n 0 H'):
  aK Wq [ax (some (ak r)),o e7] H λv H'=>∃n e,v=.tuple ⟨[.int .u64 n,.int .i64 e]⟩/\K n e H':=by
 subst gR;subst ex
 apply am1
 refine⟨λ_ H'=>H'=H/\k<=40,au (λh=>by simp at h;omega) λ_=>au (λh=>⟨_,_,rfl,cq (.inl (by simp at h;omega)) 1 (by decide)⟩) λh=>⟨rfl,by simp at h;omega⟩,?_⟩
 rintro br H1 ⟨rfl,Cr⟩
 have fh:=NX s
 have ld1:ah 3 H1 (Addr.add ⟨r,0,none⟩ 1) (.int .i64 (a:Int)):=al.fk 1 rfl
 apply Wr
 refine⟨s,Fl al,_,ld1,_,rfl,_,ld1,?_⟩
 have el:IntKind.i64.wrap (IntKind.i64.wrap (8*(s.size:Int))-(a:Int))=((8*s.size-a:Nat):Int):=by
  rw [cj (n:=8*(s.size:Int)) (by omega) (by omega),cj (by omega) (by omega)];omega
 rw [el]
 obtain⟨h,aq,uw,ux⟩:∃h:Nat,(if(((8*s.size-a:Nat):Int))<24 then((8*s.size-a:Nat):Int)else 24)=(h:Int)/\h<=24/\h=min (8*s.size-a) 24:=⟨min (8*s.size-a) 24,by split<;>omega,by omega,rfl⟩
 rw [aq]
 generalize cp:(gx (bd s)).drop a=R at *
 have Nt:R.length=8*s.size-a:=by rw [<-cp,ayY,fh]
 have NZ:(R.take 24).length=h:=by rw [ayj];omega
 have gv:R.take h=R.take 24:=by
  by_cases av:24<=R.length
  ·rw [show h=24 by omega]
  ·rw [ayB (by omega),ayB (by omega)]
 have am2:=Wm (R.take 24)
 rw [NZ]at am2
 refine I8 al rfl rfl (by omega) (by omega) hs ?_
 rw [cp,gv]
 have am3:IntKind.i64.wrap (64-(h:Int))=((64-h:Nat):Int):=by rw [cj (by omega) (by omega)];omega
 rw [am3]
 refine cM (bh (by rw [hd (by omega)];omega)) ?_
 have am4:(if azO .u64=true then(-1:Int)else IntKind.max .u64)=18446744073709551615:=by decide
 rw [am4]
 have oa:ec (R.take 24)*2^(64-h)<18446744073709551616:=by
  have h1:=pF (R.take 24)
  rw [NZ]at h1
  have ab:2^h*2^(64-h)=18446744073709551616:=by rw [<-aA5,<-wN];congr 1;omega
  rw [<-ab]
  exact aBg h1 (aA2 (by decide))
 rw [Fi (by omega) oa,BitVec.xor_comm,Vy oa,hd (by omega)]
 refine amS (by omega) ?_
 generalize aO:l3 (R.take 24)=q at *
 refine⟨λae H'=>ae=[.int .i64 (q:Int)]/\H'=H1,au (λaF=>⟨?_,rfl⟩) (λaF=>⟨?_,rfl⟩),?_⟩
 ·have:h=0:=by simpa using aF
  rw [show q=0 by omega];rfl
 ·have h1:0<h:=by
   have:¬(h:Int)=0:=by simpa using aF
   omega
  have:=(amQ (l:=R.take 24) (by omega) (by omega)).2
  rw [NZ,aO]at this
  rw [this,show(64-((64-q:Nat):Int))=(q:Int) by omega]
 rintro br nL ao ⟨gQ,rfl⟩
 simp only [List.cons.injEq,Value.int.injEq,true_and,and_true]at gQ
 subst gQ
 have am5:(if(h:Int)<(q:Int)then(h:Int)else(q:Int))=(q:Int):=by split<;>omega
 rw [am5]
 refine⟨_,ld1,?_⟩
 refine⟨λae H'=>H'=ao/\((q=24/\ae=[.int .i64 (q:Int),.int .i64 ((a+24:Nat):Int),.int .i64 ((64:Nat):Int)])\/(q<24/\ae=[.int .i64 (q:Int),.int .i64 ((a+q+1:Nat):Int),.int .i64 (k:Int)])),au (λaF=>⟨_,ld1,rfl,.inl ⟨by have kn:(q:Int)=24:=(by simpa using aF);omega,?_⟩⟩) (λaF=>⟨rfl,.inr ⟨by have kn:¬(q:Int)=24:=(by simpa using aF);omega,?_⟩⟩),?_⟩
 ·rw [cj (by omega) (by omega)];rfl
 ·rw [cj (n:=(a:Int)+q) (by omega) (by omega),cj (by omega) (by omega)];rfl
 rintro br n n6 n7 aP ⟨rfl,av⟩
 have awx:=ld1
 rcases av with⟨Fp,aI⟩|⟨Fp,aI⟩
 ·simp only [List.cons.injEq,Value.int.injEq,true_and,and_true]at aI
  obtain⟨rfl,rfl,rfl⟩:=aI
  refine⟨s,Fl al,au (λaF=>⟨_,_,rfl,cq (.inr ?_) 10 (by decide)⟩) (λaF=> ?_)⟩
  ·rw [cj (n:=8*(s.size:Int)) (by omega) (by omega),cj (by omega) (by omega)]at aF
   have:R.length<88:=by simp at aF;omega
   unfold sa
   rw [aO,if_pos Fp,if_pos (.inl this)]
  ·rw [cj (n:=8*(s.size:Int)) (by omega) (by omega),cj (by omega) (by omega)]at aF
   have awy:88<=R.length:=by simp at aF;omega
   refine I8 al rfl rfl (by omega) (by omega) hs ?_
   rw [<-aA4,cp]
   have jV:=pF ((R.drop 24).take 64)
   have:((R.drop 24).take 64).length=64:=by rw [ayj,ayY];omega
   rw [this,wN]at jV
   refine⟨λae H'=>ae=[.int .u64 (ec ((R.drop 24).take 64):Nat)]/\H'=aP/\¬ec ((R.drop 24).take 64)/2^k<24,?_,?_⟩
   ·refine⟨λae H'=>ae=[.bool (decide (ec ((R.drop 24).take 64)/2^k<24))]/\H'=aP,au (λ_=>cM (bh (by rw [hd (by omega)];omega)) ⟨?_,rfl⟩) (λaF=>by simp [Fp]at aF),?_⟩
    ·rw [Cq _ (by omega)]
     have Bl:decide (((ec ((R.drop 24).take 64)/2^k:Nat):Int)<24)=decide (ec ((R.drop 24).take 64)/2^k<24):=decide_eq_decide.2 (by generalize ec ((R.drop 24).take 64)/2^k=z;omega)
     rw [Bl]
    ·rintro br b a8 ⟨e,rfl⟩
     simp only [List.cons.injEq,Value.bool.injEq,and_true]at e
     subst e
     refine au (λaF=>⟨_,_,rfl,cq (.inr ?_) 11 (by decide)⟩) (λaF=>au (λh1=>by simp at h1;omega) λ_=>⟨rfl,rfl,by simpa using aF⟩)
     unfold sa
     rw [aO,if_pos Fp,if_pos (.inr (by simpa using aF))]
   ·rintro br n a8 ⟨e,rfl,awz⟩
    simp only [List.cons.injEq,Value.int.injEq,true_and,and_true]at e
    subst e
    refine a6.set al (j:=1) (by kernel_rfl) (by kernel_rfl) rfl rfl (by simp) λbA dI cb=>⟨_,_,rfl,eV Cr _ 88 bA ?_ jV (by omega) ?_ cb⟩
    ·unfold sa
     rw [aO,if_pos Fp,if_neg (by omega)]
    ·rw [cj (by omega) (by omega)]at dI
     have kg:((a+24:Nat):Int)+((64:Nat):Int)=((a+88:Nat):Int):=by omega
     rw [kg]at dI
     exact dI
 ·simp only [List.cons.injEq,Value.int.injEq,true_and,and_true]at aI
  obtain⟨rfl,rfl,rfl⟩:=aI
  refine⟨s,Fl al,au (λaF=>⟨_,_,rfl,cq (.inr ?_) 10 (by decide)⟩) (λaF=> ?_)⟩
  ·rw [cj (n:=8*(s.size:Int)) (by omega) (by omega),cj (by omega) (by omega)]at aF
   have:R.length<q+1+k:=by simp at aF;omega
   unfold sa
   rw [aO,if_neg (by omega),if_pos this]
  ·rw [cj (n:=8*(s.size:Int)) (by omega) (by omega),cj (by omega) (by omega)]at aF
   have hle:q+1+k<=R.length:=by simp at aF;omega
   refine I8 al rfl rfl (by omega) (by omega) hs ?_
   rw [ayG a q 1,<-aA4,cp]
   have jV:=pF ((R.drop (q+1)).take k)
   have:((R.drop (q+1)).take k).length=k:=by rw [ayj,ayY];omega
   rw [this]at jV
   have fA:2^k<=2^40:=azN (by decide) Cr
   have am6:(2:Nat)^40=1099511627776:=by decide
   have RI:q*2^k<=24*1099511627776:=by rw [<-am6];exact aBh (by omega) fA
   refine⟨λae H'=>ae=[.int .u64 (q*2^k+ec ((R.drop (q+1)).take k):Nat)]/\H'=aP,?_,?_⟩
   ·refine⟨λae H'=>ae=[.bool false]/\H'=aP,au (λaF=>by
     have:(q:Int)=24:=by simpa using aF
     omega) (λaF=>⟨rfl,rfl⟩),?_⟩
    rintro br b a8 ⟨e,rfl⟩
    simp only [List.cons.injEq,Value.bool.injEq,and_true]at e
    subst e
    refine au (λaF=>by cases aF) (λ_=>au (λ_=>cM (bh (by rw [hd (by omega)];omega)) ⟨?_,rfl⟩) (λaF=>by simp at aF;omega))
    rw [hd (n:=q) (by omega),Fi (by omega) (by omega),BitVec.or_comm,NV (by omega) jV,hd (by omega)]
   ·rintro br n a8 ⟨e,rfl⟩
    simp only [List.cons.injEq,Value.int.injEq,true_and,and_true]at e
    subst e
    refine a6.set al (j:=1) (by kernel_rfl) (by kernel_rfl) rfl rfl (by simp) λbA dI cb=>⟨_,_,rfl,eV Cr _ (q+1+k) bA ?_ (by omega) (by omega) ?_ cb⟩
    ·unfold sa
     rw [aO,if_neg (by omega),if_neg (by omega)]
    ·rw [cj (by omega) (by omega)]at dI
     have kg:((a+(q+1):Nat):Int)+(k:Int)=((a+(q+1+k):Nat):Int):=by omega
     rw [kg]at dI
     exact dI
end Go.Proofs.aS
namespace Go.Proofs
def oQ(l:List Nat)(k:Nat):Nat:=(l.map λx=>(hq x k).length).sum
theorem anD{l:List Nat}{i x k:Nat}(h:l[i]?=some x):oQ (l.take (i+1)) k=oQ (l.take i) k+(hq x k).length:=by
 unfold oQ
 rw [azP,h]
 simp
theorem anE(l:List Nat){k:Nat}(hk:k<=40):oQ l k<=88*l.length:=by
 unfold oQ
 induction l with
 |nil=>simp
 |cons x l ih=>
  rw [axE,azT,ayi]
  have:(hq x k).length<=88:=by rw [Fo];split<;>omega
  omega
def qt(l:List Nat):Nat->Nat
 |0=>0
 |m+1=>if oQ l (m+1)<oQ l (qt l m)then m+1 else qt l m
theorem Xm(l:List Nat):∀m,qt l m<=m
 |0=>axx _
 |m+1=>by
  have:=Xm l m
  unfold qt
  split<;>omega
def fK(l:List Nat):Nat:=qt l 40
theorem qv(l:List Nat):fK l<=40:=Xm l 40
end Go.Proofs
namespace Go.Proofs.aS
def dX(l:List bl)(i:Nat):Int:=(l[i]?.getD (0,0)).1
def iq(l:List bl)(i:Nat):Int:=(l[i]?.getD (0,0)).2
def nw(l:List bl)(i:Nat):Int:=dX l (i+1)-dX l i
def nv(l:List bl)(i:Nat):Int:=if i=0 then 0 else nw l (i-1)
def gn(l:List bl)(i:Nat):Nat:=qn (nw l i-nv l i)
def kb(l:List bl)(i:Nat):Nat:=qn (IntKind.i64.wrap (iq l (i+1)-iq l i))
def gy(l:List bl):List Nat:=(ayD (l.length-1)).map (gn l)
def gz(l:List bl):List Nat:=(ayD (l.length-1)).map (kb l)
def jn(l:List bl)(a b m:Nat):List Bool:=(ayD m).flatMap λi=>hq (gn l i) a++hq (kb l i) b
def lK:List bl->List UInt8
 |[]=>[]
 |x::_=>cn x.1.toNat++mG x.2
def jI(l:List bl):List UInt8:=if l.length<2 then []else axX (fK (gy l))::axX (fK (gz l))::pack (jn l (fK (gy l)) (fK (gz l)) (l.length-1))
def ft(l:List bl):List UInt8:=cn l.length++(lK l++jI l)
structure eJ(l:List bl):Prop where
 len:l.length<=5000
 AL:gJ l
 dH:∀x∈l,0<=x.1/\x.1<1099511627776
 v:∀x∈l,eM x.2
variable{H H' ao:U}{s:ByteArray}{i n b c k p N A fg:Nat}{S:List Nat}{a:Option Addr}{xs:List UInt8}{l m v e pg:Int}
theorem Jw{l:List bl}{x:bl}(h:l[i]?=some x):dX l i=x.1:=by unfold dX;rw [h];rfl
theorem apC{l:List bl}{x:bl}(h:l[i]?=some x):iq l i=x.2:=by unfold iq;rw [h];rfl
theorem vk{l:List bl}(h:i<l.length):l[i]?=some (dX l i,iq l i):=by
 have:=ayA h
 rw [this,Jw this,apC this]
theorem eJ.at{l:List bl}(h:eJ l)(az:i<l.length):(0<=dX l i/\dX l i<1099511627776)/\eM (iq l i):=by
 have:=vk az
 have hm:=azR this
 exact⟨h.dH _ hm,h.v _ hm⟩
theorem eJ.Ft{l:List bl}(h:eJ l)(az:i+1<l.length):1<=nw l i/\nw l i<1099511627776:=by
 have h1:=vk (l:=l) (i:=i) (by omega)
 have ab:=vk az
 have bQ:=(aAD.1 h.AL) i (i+1) (by omega) az (by omega)
 rw [ayA (by omega)]at h1 ab
 rw [Option.some.inj h1,Option.some.inj ab]at bQ
 have:=(h.at (i:=i) (by omega)).1
 have:=(h.at az).1
 unfold nw
 simp only at bQ
 omega
theorem eJ.ahead{l:List bl}(h:eJ l)(az:i<l.length):0<=nv l i/\nv l i<1099511627776:=by
 unfold nv
 split
 ·omega
 ·have:=h.Ft (i:=i-1) (by omega)
  omega
theorem eJ.more{l:List bl}(h:eJ l)(az:i+1<l.length): -1099511627776<nw l i-nv l i/\nw l i-nv l i<1099511627776:=by
 have:=h.Ft az
 have:=h.ahead (i:=i) (by omega)
 omega
theorem eJ.gn{l:List bl}(h:eJ l)(az:i+1<l.length):gn l i<18446744073709551616:=by
 have:=h.more az
 exact tB ⟨by omega,by omega⟩
theorem OH(v:Int):IntKind.i64.wrap v=if 9223372036854775808<=v % 18446744073709551616 then v % 18446744073709551616-18446744073709551616 else v % 18446744073709551616:=by
 unfold azQ
 simp [azO,azF]
theorem N6(v:Int):eM (IntKind.i64.wrap v):=by
 rw [OH]
 constructor<;>split<;>omega
theorem Fz(l:List bl)(i:Nat):kb l i<18446744073709551616:=tB (N6 _)
theorem An(l:List bl)(a b m:Nat):jn l a b (m+1)=jn l a b m++(hq (gn l m) a++hq (kb l m) b):=by
 unfold jn
 rw [aBB,azf];simp
theorem Oo(hk:k<=40):(hq n k).length<=88:=by rw [Fo];split<;>omega
theorem Jm(l:List bl){a:Nat}(bW:a<=40)(al:b<=40)(m:Nat):(jn l a b m).length<=176*m:=by
 induction m with
 |zero=>simp [jn]
 |succ m ih=>
  rw [An,ax6,ax6]
  have:=Oo (n:=gn l m) bW
  have:=Oo (n:=kb l m) al
  omega
theorem Ou(l:List bl)(a b:Nat){m:Nat}(az:i<m):∃r,jn l a b m=jn l a b i++(hq (gn l i) a++(hq (kb l i) b++r)):=by
 induction m with
 |zero=>omega
 |succ m ih=>
  by_cases h:i=m
  ·subst h
   exact⟨[],by rw [An];simp⟩
  ·obtain⟨r,e⟩:=ih (by omega)
   exact⟨r++(hq (gn l m) a++hq (kb l m) b),by rw [An,e];simp⟩
theorem WU(l:List bl):(gy l).length=l.length-1:=by simp [gy]
theorem WV(l:List bl):(gz l).length=l.length-1:=by simp [gz]
theorem Of{l:List bl}(h:i+1<l.length):(gy l)[i]?=some (gn l i):=by
 unfold gy;rw [ayp,aBa (by omega)];rfl
theorem Og{l:List bl}(h:i+1<l.length):(gz l)[i]?=some (kb l i):=by
 unfold gz;rw [ayp,aBa (by omega)];rfl
theorem Xe{m:Nat}(ay:n<=40)(hm:m<=40)(h:axX n=axX m):n=m:=by
 have:=congrArg UInt8.toNat h
 rw [axY,axY]at this
 omega
theorem apD{w:Int}(hw:eM w):IntKind.i64.wrap (v+IntKind.i64.wrap (w-v))=w:=by
 obtain⟨h1,ab⟩:=hw
 rw [OH (v+_),OH (w-v)]
 split<;>split<;>omega
theorem Ov{l:List bl}(h:eJ l)(az:i+1<l.length):l[i+1]?=some (dX l i+(nv l i+fE (gn l i)),IntKind.i64.wrap (iq l i+fE (kb l i))):=by
 rw [vk az]
 unfold gn kb
 rw [Cd,Cd,apD (h.at az).2]
 congr 2
 unfold nw;omega
theorem Si{l m:List bl}(aG:eJ l)(hm:eJ m){x y:List UInt8}(h:ft l=ft m):l=m:=by
 unfold ft at h
 obtain⟨hlen,h⟩:=tM h
 by_cases aF:l.length=0
 ·have aL:l=[]:=ayT aF
  have a':m=[]:=ayT (by omega)
  rw [aL,a']
 ·obtain⟨p,fG,rfl⟩:∃p fG,l=p::fG:=by
   cases l with
   |nil=>simp at aF
   |cons p fG=>exact⟨p,fG,rfl⟩
  obtain⟨q,m',rfl⟩:∃p fG,m=p::fG:=by
   cases m with
   |nil=>simp at hlen
   |cons p fG=>exact⟨p,fG,rfl⟩
  have aH:=aG.at (i:=0) (by simp)
  have aO:=hm.at (i:=0) (by simp)
  simp only [lK,ax7]at h
  obtain⟨aL,h⟩:=tM h
  unfold mG at h
  obtain⟨a',h⟩:=tM h
  have Dr:p=q:=by
   have cW:p.1=q.1:=by
    have:=aH.1.1;have:=aO.1.1
    simp only [dX,List.getElem?_cons_zero,aAn]at *
    omega
   have a2:p.2=q.2:=by rw [<-Cd p.2,a',Cd]
   exact Prod.ext cW a2
  subst Dr
  unfold jI at h
  by_cases ab:(p::fG).length<2
  ·have cD:fG=[]:=ayT (by simp at ab;omega)
   have cz:m'=[]:=ayT (by rw [hlen]at ab;simp at ab;omega)
   rw [cD,cz]
  ·rw [if_neg ab,if_neg (by rw [<-hlen];exact ab)]at h
   simp only [List.cons.injEq]at h
   obtain⟨b4,hi,h⟩:=h
   have b4:=Xe (qv _) (qv _) b4
   have hi:=Xe (qv _) (qv _) hi
   rw [<-b4,<-hi,<-hlen]at h
   have bW:=qv (gy (p::fG))
   have al:=qv (gz (p::fG))
   generalize fK (gy (p::fG))=a at *
   generalize fK (gz (p::fG))=b at *
   generalize bZ:(p::fG)=L at *
   generalize cV:(p::m')=M at *
   obtain⟨ht,_,eY⟩:=Jc _ (jn L a b (L.length-1)) (axx _)
   obtain⟨z2,_,fR⟩:=Jc _ (jn M a b (L.length-1)) (axx _)
   rw [h,fR]at eY
   have key:∀i,i<L.length->(∀j,j<=i->L[j]?=M[j]?)/\jn L a b i=jn M a b i:=by
    intro i
    induction i with
    |zero=>
     intro az
     refine⟨λj bq=> ?_,rfl⟩
     have:j=0:=by omega
     subst this
     rw [<-bZ,<-cV];rfl
    |succ i ih=>
     intro az
     obtain⟨bq,al⟩:=ih (by omega)
     obtain⟨fB,s1⟩:=Ou L a b (i:=i) (m:=L.length-1) (by omega)
     obtain⟨gj,s2⟩:=Ou M a b (i:=i) (m:=L.length-1) (by omega)
     rw [s1,s2,al]at eY
     simp only [ax7,aBC]at eY
     have t1:=aG.gn (i:=i) (by omega)
     have t2:=hm.gn (i:=i) (by omega)
     have c1:=Fm (k:=a) t1 (hq (kb L i) b++(fB++aA1 ht false))
     have c2:=Fm (k:=a) t2 (hq (kb M i) b++(gj++aA1 z2 false))
     rw [<-eY,c2]at c1
     have mO:gn M i=gn L i:=(Prod.mk.inj (Option.some.inj c1)).1
     rw [mO]at eY
     simp only [aBC]at eY
     have c1:=Fm (k:=b) (Fz L i) (fB++aA1 ht false)
     have c2:=Fm (k:=b) (Fz M i) (gj++aA1 z2 false)
     rw [<-eY,c2]at c1
     have b8:kb M i=kb L i:=(Prod.mk.inj (Option.some.inj c1)).1
     refine⟨λj kO=> ?_,by rw [An,An,al,mO,b8]⟩
     by_cases mA:j<=i
     ·exact bq j mA
     ·have:j=i+1:=by omega
      subst this
      rw [Ov aG az,Ov hm (by omega),mO,b8]
      have OI:∀k,k<=i->dX L k=dX M k:=λk hk=>by unfold dX;rw [bq k hk]
      have apE:iq L i=iq M i:=by unfold iq;rw [bq i (axx _)]
      have apF:nv L i=nv M i:=by
       unfold nv
       split
       ·rfl
       ·unfold nw
        rw [OI (i-1) (by omega),OI (i-1+1) (by omega)]
      rw [OI i (axx _),apE,apF]
   refine ayK λj=> ?_
   by_cases bq:j<L.length
   ·exact(key j bq).1 j (axx _)
   ·rw [ayL (by omega),ayL (by omega)]
def yB(l:List bl)(j:Nat):Prop:=∀i,i<j->(0<=dX l i/\dX l i<1099511627776)/\(0<i->dX l (i-1)<dX l i)
theorem aoe(l:List bl):yB l 0:=λi h=>by omega
theorem aof{l:List bl}{j:Nat}(h:yB l j)(h1:0<=dX l j/\dX l j<1099511627776)(ab:0<j->dX l (j-1)<dX l j):yB l (j+1):=by
 intro i az
 by_cases e:i=j
 ·subst e;exact⟨h1,ab⟩
 ·exact h i (by omega)
theorem aog{l:List bl}(aG:l.length<=5000)(h:yB l l.length)(aI:∀x∈l,eM x.2):eJ l:=by
 refine⟨aG,Xf λi x y aa aA=> ?_,λx aa=> ?_,aI⟩
 ·have az:i+1<l.length:=(axC.1 aA).1
  have:=(h (i+1) az).2 (by omega)
  rw [show i+1-1=i by omega,Jw aa,Jw aA]at this
  exact this
 ·obtain⟨i,az⟩:=aAK.1 aa
  have:=(h i (axC.1 az).1).1
  rw [Jw az]at this
  exact this
theorem eJ.yB{l:List bl}(h:eJ l):∀i,i<l.length->(0<=dX l i/\dX l i<1099511627776)/\(0<i->dX l (i-1)<dX l i):=λi az=>
 ⟨(h.at az).1,λaF=>by
  have:=h.Ft (i:=i-1) (by omega)
  unfold nw at this
  rw [show i-1+1=i by omega]at this
  omega⟩
theorem fM{α:Type}{l:List α}(h:i<l.length):∃x,l[i]?=some x:=⟨l[i],by simp⟩
theorem am7{K:Option Addr->U->Prop}(hk:∀b H',H.size<=b->a6 H' ⟨b,0,none⟩ [.string s,.int .i64 ((0:Nat):Int)]->Fr [] H H'->K (some ⟨b,0,none⟩) H'):
  qW am8 [aj s] H K:=by
 apply am9
 intro b H1 ay
 exact⟨_,rfl,hk b H1 (by have:=ay.eq;omega) ay.bz ay.af⟩
theorem am'{r:Nat}{a:Nat}{K:Int->U->Prop}(al:a6 H ⟨r,0,none⟩ [.string s,.int .i64 (a:Int)])(bW:a<=8*s.size)(hs:s.size<=1000000000000)
  (cq:¬(((gx (bd s)).drop a).length<8/\ec ((gx (bd s)).drop a)=0)->K 11 H) (eV:((gx (bd s)).drop a).length<8->ec ((gx (bd s)).drop a)=0->K 0 H):
  cG ana [ax (some (ak r))] H K:=by
 apply anb
 have ld1:ah 3 H (Addr.add ⟨r,0,none⟩ 1) (.int .i64 (a:Int)):=al.fk 1 rfl
 have fh:=NX s
 generalize cp:(gx (bd s)).drop a=R at *
 have Nt:R.length=8*s.size-a:=by rw [<-cp,ayY,fh]
 apply Wr
 refine⟨s,Fl al,_,ld1,_,rfl,?_⟩
 have el:IntKind.i64.wrap (IntKind.i64.wrap (8*(s.size:Int))-(a:Int))=((8*s.size-a:Nat):Int):=by
  rw [cj (n:=8*(s.size:Int)) (by omega) (by omega),cj (by omega) (by omega)];omega
 rw [el]
 refine au (λaF=>⟨_,rfl,cq λh=>by simp at aF;omega⟩) (λaF=> ?_)
 have bQ:R.length<8:=by simp at aF;omega
 refine⟨_,ld1,I8 al rfl rfl (by omega) (by omega) hs ?_⟩
 rw [cp,ayB (by omega)]
 refine au (λh1=>⟨_,rfl,cq λh=>by rw [h.2]at h1;simp at h1⟩) (λh1=>⟨_,rfl,eV bQ ?_⟩)
 have:((ec R:Nat):Int)=0:=by simpa using h1
 omega
theorem anc:liesAt azB Tryz.prog.depth 437 (4/Tryz.prog.cellsOf 437) 0 170 1=true:=by kernel_rfl
theorem ane{cs:Array Value}{mB:Nat×Nat}{X:Value->U->Prop}(h1:H[b]?=some (.cells cs 437 mB))(iF:cs.size=4)
  (hk:X (.pointer (some ⟨b,0,none⟩)) H):bO (convert 167 316 (.pointer (some ⟨b,0,none⟩))) H X:=by
 intro E d
 have hs:=dt.sz
 unfold hy at hs
 split at hs
 ·rename_i i az
  exact⟨_,H,d,Lib.run_to_unsafe (bf E H d) ⟨b,0,none⟩ dt.ptr dt.uns az (by omega) (Cs h1) (by rw [iF];exact Nat.zero_lt_succ 3),hk⟩
 ·cases hs
theorem anf{cs:Array Value}{mB:Nat×Nat}{K:Option Addr->U->Prop}(h1:H[b]?=some (.cells cs 437 mB))(iF:cs.size=4)
  (hk:K (some ⟨b,0,none⟩) H):bO (convert 316 167 (.pointer (some ⟨b,0,none⟩))) H λv H'=>∃a,v=.pointer a/\K a H':=by
 intro E d
 have hs:=dt.sz
 unfold hy at hs
 split at hs
 ·rename_i i az
  exact⟨_,H,d,Lib.run_from_unsafe (bf E H d) ⟨b,0,none⟩ dt.uns dt.ptr az (Cs h1) (by rw [iF];exact anc),_,rfl,hk⟩
 ·cases hs
structure k0(H:U)(b:Nat)(S:List Nat)(xs:List UInt8)(l m:Int):Prop where
 it:∃p ad n c dJ,H[b]?=some (.cells ⟨[.pointer p,.slice ad n c,.int .u64 l,.int .i64 m]⟩ dJ (0,0))/\((p=none/\dJ=437)\/p=some ⟨b,0,none⟩)/\Own fb 5 0 H ad n c xs/\S=b::an ad/\b∉an ad
theorem k0.af{T:List Nat}(h:k0 H b S xs l m)(ai:Fr T H H')(aR:∀k∈S,k∉T):k0 H' b S xs l m:=by
 obtain⟨p,ad,n,c,dJ,h1,ar,a7,rfl,b5⟩:=h.it
 exact⟨p,ad,n,c,dJ,ai.get h1 (aR _ (by simp)),ar,a7.af ai (λaC e=>aR _ (by simp [e,an])),rfl,b5⟩
theorem k0.ag(h:k0 H b S xs l m)(ai:Fr [] H H'):k0 H' b S xs l m:=h.af ai (by simp)
theorem k0.I'(h:k0 H b S xs l m):ah 89 H (Addr.add ⟨b,0,none⟩ 2) (.int .u64 l):=by
 obtain⟨p,ad,n,c,dJ,h1,_⟩:=h.it
 exact a6.ld (j:=2) (by kernel_rfl) ⟨b,dJ,rfl,h1⟩ rfl
theorem k0.Aj(h:k0 H b S xs l m):ah 3 H (Addr.add ⟨b,0,none⟩ 3) (.int .i64 m):=by
 obtain⟨p,ad,n,c,dJ,h1,_⟩:=h.it
 exact a6.ld (j:=3) (by kernel_rfl) ⟨b,dJ,rfl,h1⟩ rfl
theorem ang{K:U->Prop}(h:k0 H b S xs l m)
  (hk:∀H' ad n c dJ,H'[b]?=some (.cells ⟨[.pointer (some ⟨b,0,none⟩),.slice ad n c,.int .u64 l,.int .i64 m]⟩ dJ (0,0))->Own fb 5 0 H' ad n c xs->S=b::an ad->b∉an ad->Fr [b] H H'->K H'):
  dQ UY [ax (some (ak b))] H K:=by
 apply UZ
 obtain⟨p,ad,n,c,dJ,h1,ar,a7,rfl,b5⟩:=h.it
 have al:a6 H ⟨b,0,none⟩ [.pointer p,.slice ad n c,.int .u64 l,.int .i64 m]:=⟨b,_,rfl,h1⟩
 refine⟨_,al.tu dt.ap rfl,?_⟩
 rcases ar with⟨rfl,rfl⟩|rfl
 ·refine ane h1 rfl ⟨_,rfl,UX ?_⟩
  refine anf h1 rfl ?_
  refine al.iQ (v:=.pointer (some ⟨b,0,none⟩)) dt.eY dt.pi (λx aa=>by simp [azI]at aa;subst aa;rfl) (by simp [azI]) λH' h' ai=>⟨rfl,?_⟩
  obtain⟨iR,tC,e,ba⟩:=h'
  cases e
  exact hk H' ad n c tC ba (a7.af ai (λaC e aq=>by
   have:aC.block=b:=by simpa using aq
   exact b5 (by simp [e,an,this]))) rfl b5 ai
 ·exact⟨_,al.tu dt.ap rfl,false,U0 dt _ _ _,rfl,hk H ad n c dJ h1 a7 rfl b5 (Fr.refl _ _)⟩
theorem anh{x:UInt8}{y:Int}{K:Value->U->Prop}(h:k0 H b S xs l m)(aa:y=x.toNat)(hlen:xs.length+1<=140737488355328)
  (hk:∀H' S',k0 H' b S' (xs++[x]) l m->Fr S H H'->Grow H S S'->K .nilIface H'):
  kY U1 [ax (some (ak b)),.int .u8 y] H K:=by
 subst aa
 apply U2
 refine ang h λH1 ad n c dJ h1 ab bB ar cv=> ?_
 have al:a6 H1 ⟨b,0,none⟩ [.pointer (some ⟨b,0,none⟩),.slice ad n c,.int .u64 l,.int .i64 m]:=⟨b,_,rfl,h1⟩
 refine⟨ad,n,c,al.ld dt.pB (j:=1) rfl,?_⟩
 intro b1 ao bb
 have gh:bt fb ao (some ⟨b1,0,none⟩) 1 1 [x]:=fy fb x bb rfl
 have gF:=ab.ag bb.af
 refine ic (E:=fb) (bytes:=1) dt.bT (by kernel_rfl) gF gh (ayv _) (by rw [ab.1];omega) λaV bn bg aP a7 bG ln=> ?_
 have cO:=(al.ag bb.af).af bG ar
 refine cO.st (j:=1) (v:=.slice aV bn bg) dt.s1 dt.si (λx aa=>by simp [azI]at aa;subst aa;rfl) (by simp [azI]) λa8 fm bP=>⟨_,rfl,?_⟩
 obtain⟨iR,tC,e,ba⟩:=fm
 cases e
 have bQ:b<H1.size:=km h1
 have dF:=bb.size
 have s5:b∉an aV:=λhk=>by
  rcases ln b hk with bs|bs
  ·exact ar bs
  ·omega
 refine hk a8 (b::an aV) ⟨_,aV,bn,bg,tC,ba,.inr rfl,a7.af bP (λaC e aq=>s5 (by
   have:aC.block=b:=by simpa using aq
   simp [e,an,this])),rfl,s5⟩ ?_ ?_
 ·rw [bB]
  exact((cv.trans' bb.af (T:=b::an ad) (by simp) (by simp)).trans' bG (T:=b::an ad) (λk hk _=>hk) (λk hk _=>by simp [hk])).trans' bP (λk hk _=>hk) (by simp)
 ·rw [bB]
  intro k hk
  rcases axA.1 hk with rfl|hk
  ·exact .inl (by simp)
  ·rcases ln k hk with bs|bs
   ·exact .inl (by simp [bs])
   ·exact .inr (by have:=cv.size;omega)
theorem Ja{K:ByteArray->U->Prop}(h:k0 H b S xs l m)(hlen:xs.length<=140737488355328)
  (hk:∀H',Fr S H H'->ah 89 H' (Addr.add ⟨b,0,none⟩ 2) (.int .u64 l)->ah 3 H' (Addr.add ⟨b,0,none⟩ 3) (.int .i64 m)->K ⟨xs.toArray⟩ H'):
  dv U3 [ax (some (ak b))] H K:=by
 apply U4
 obtain⟨p,ad,n,c,dJ,h1,ar,a7,rfl,b5⟩:=h.it
 have al:a6 H ⟨b,0,none⟩ [.pointer p,.slice ad n c,.int .u64 l,.int .i64 m]:=⟨b,_,rfl,h1⟩
 refine⟨ad,n,c,al.ld dt.pB (j:=1) rfl,ad,n,c,al.ld dt.pB (j:=1) rfl,?_⟩
 have hs:=U5 dt (it:=3) (sty:=9) (ts:=⟨[168]⟩) (K:=λH'=>K ⟨xs.toArray⟩ H') (L:=λH'=>ah 168 H' (Addr.add ⟨b,0,none⟩ 1) (.slice ad n c)) a7 (by rw [a7.1];exact hlen) (λH' ai=>(al.ag ai).ld dt.pB (j:=1) rfl)
  (λH' ai=>hk H' (ai.mono (λk hk=>by simp [hk])) ((al.af ai b5).fk 2 rfl) ((al.af ai b5).fk 3 rfl))
 refine hs.mono λv H' h=> ?_
 obtain⟨a,rfl,bs,cT⟩:=h
 refine⟨a,rfl,bs,cT.mono λv H' h=> ?_⟩
 obtain⟨s,rfl,rfl,h⟩:=h
 exact⟨_,rfl,_,rfl,h⟩
theorem k0.Ws{fG:Int}{X:U->Prop}(h:k0 H b S xs l m)(hk:∀H',k0 H' b S xs fG m->Fr [b] H H'->X H'):∃H',bp 89 H (Addr.add ⟨b,0,none⟩ 2) (.int .u64 fG) H'/\X H':=by
 obtain⟨p,ad,n,c,dJ,h1,ar,a7,rfl,b5⟩:=h.it
 rw [lg,axJ]
 refine zG (off:=2) (v:=.int .u64 fG) h1 (by kernel_rfl) (by kernel_rfl) (λx aa=>by simp [azI]at aa;subst aa;rfl) (by simp [azI]) λH' ba ai=>hk H' ⟨p,ad,n,c,dJ,?_,ar,a7.af ai (λaC e aq=>by
  have:aC.block=b:=by simpa using aq
  exact b5 (by simp [e,an,this])),rfl,b5⟩ ai
 simpa [azI]using ba
theorem k0.Wt{fG:Int}{X:U->Prop}(h:k0 H b S xs l m)(hk:∀H',k0 H' b S xs l fG->Fr [b] H H'->X H'):∃H',bp 3 H (Addr.add ⟨b,0,none⟩ 3) (.int .i64 fG) H'/\X H':=by
 obtain⟨p,ad,n,c,dJ,h1,ar,a7,rfl,b5⟩:=h.it
 rw [lg,axJ]
 refine zG (off:=3) (v:=.int .i64 fG) h1 (by kernel_rfl) (by kernel_rfl) (λx aa=>by simp [azI]at aa;subst aa;rfl) (by simp [azI]) λH' ba ai=>hk H' ⟨p,ad,n,c,dJ,?_,ar,a7.af ai (λaC e aq=>by
  have:aC.block=b:=by simpa using aq
  exact b5 (by simp [e,an,this])),rfl,b5⟩ ai
 simpa [azI]using ba
structure vj(H:U)(w:Nat)(S:List Nat)(cU:List Bool):Prop where
 it:∃full rem,cU=full++rem/\full.length % 8=0/\rem.length<8/\k0 H w S (pack full) (ec rem:Nat) (rem.length:Nat)
theorem Jb(l:List Bool):(pack l).length<=l.length:=by
 obtain⟨m,hm,e⟩:=Jc l.length l (axx _)
 have:=congrArg aBc e
 rw [Wp,ax6,aA3]at this
 omega
theorem k0.po(h:k0 H b S xs l m):b∈S:=by
 obtain⟨p,ad,n,c,dJ,h1,ar,a7,rfl,b5⟩:=h.it
 simp
theorem GA{w:Nat}{cU:List Bool}{mm:Int}{m:Nat}{K:U->Prop}(h:vj H w S cU)(jM:pg=n)(em:mm=m)(hm:m<=8)(ay:n<2^m)(hlen:cU.length<=1000000000000)
  (hk:∀H' S',vj H' w S' (cU++fr n m)->Fr S H H'->Grow H S S'->K H'):
  dQ ani [ax (some (ak w)),b3 pg,o mm] H K:=by
 subst jM;subst em
 apply anj
 obtain⟨full,rem,rfl,jl,ank,al⟩:=h.it
 have iO:=Jb full
 rw [ax6]at hlen
 have aI:=pF rem
 have cT:2^rem.length<=2^7:=azN (by decide) (by omega)
 have Qr:2^m<=2^8:=azN (by decide) hm
 have Bl:(2:Nat)^7=128:=by decide
 have Ai:(2:Nat)^8=256:=by decide
 have hmul:ec rem*2^m<=128*256:=aBh (by omega) (by omega)
 have oa:ec (rem++fr n m)=ec rem*2^m+n:=by rw [Ag,r',kZ,aAb ay]
 have bZ:(rem++fr n m).length=rem.length+m:=by rw [ax6,kZ]
 have bB:=al.po
 refine⟨_,al.I',cM (bh (by rw [hd (by omega)];omega)) ⟨_,al.Aj,?_⟩⟩
 rw [Fi (by omega) (by omega),NV (by omega) ay,hd (by omega),<-oa]
 refine al.Ws λH1 dA cv=> ?_
 rw [cj (by omega) (by omega),<-Int.natCast_add,<-bZ]
 refine dA.Wt λao cO bG=>⟨_,cO.Aj,?_⟩
 have f2:Fr S H ao:=(cv.mono (S':=S) (by simpa using bB)).trans' bG (λk hk _=>hk) λk hk _=>by simp at hk;rw [hk];exact bB
 generalize cp:rem++fr n m=R at *
 refine au (λfi=>⟨_,cO.Aj,?_⟩) (λfi=>⟨rfl,hk ao S ⟨full,R,by rw [<-cp,ax7],jl,by simp at fi;omega,cO⟩ f2 (Grow.refl _ _)⟩)
 have awA:8<=R.length:=by simp at fi;omega
 have awB:=pF R
 have cX:IntKind.i64.wrap (((R.length:Nat):Int)-8)=((R.length-8:Nat):Int):=by rw [cj (by omega) (by omega)];omega
 rw [cX]
 refine cO.Wt λaP fm bP=>⟨_,fm.I',_,fm.Aj,cM (bh (by rw [hd (by omega)];omega)) ?_⟩
 have qE:R=R.take 8++R.drop 8:=(aAd 8 R).symm
 have Fq:(R.take 8).length=8:=by rw [ayj];omega
 have Co:(R.drop 8).length=R.length-8:=ayY
 have N0:=pF (R.drop 8)
 have Wu:=pF (R.take 8)
 rw [Co]at N0
 rw [Fq]at Wu
 have Wv:ec R=ec (R.take 8)*2^(R.length-8)+ec (R.drop 8):=by
  conv=>lhs;rw [qE]
  rw [Ag,Co]
 have hdiv:ec R/2^(R.length-8)=ec (R.take 8):=by
  rw [Wv,ayU,Nat.mul_add_div (aA2 (by decide)),Nat.div_eq_of_lt N0,Nat.add_zero]
 have anl:ec R % 2^(R.length-8)=ec (R.drop 8):=by
  rw [Wv,ayU,Nat.mul_add_mod,aAb N0]
 have anm:ec R<18446744073709551616:=by rw [oa];omega
 rw [Cq _ (by omega),hdiv]
 have ann:IntKind.u8.wrap ((ec (R.take 8):Nat):Int)=((q7 (R.take 8)).toNat:Int):=by
  unfold q7
  rw [Fq,aBk,Nat.pow_zero,Nat.mul_one,axY]
  have:ec (R.take 8) % 2^8=ec (R.take 8):=aAb Wu
  rw [this,rW (aBl _)]
  omega
 rw [ann]
 refine anh fm rfl (by omega) λa8 yb gm cm ko=>⟨_,gm.I',_,gm.Aj,cM (bh (by rw [hd (by omega)];omega)) ?_⟩
 rw [I7 (by omega),Fj anm (by omega),anl,hd (by omega)]
 refine gm.Ws λbA dI cb=>⟨rfl,hk bA yb ⟨full++R.take 8,R.drop 8,?_,?_,by omega,?_⟩ ?_ ?_⟩
 ·rw [ax7,ax7,aAd,<-cp]
 ·rw [ax6,Fq];omega
 ·rw [Co]
  have:pack (full++R.take 8)=pack full++[q7 (R.take 8)]:=by
   rw [Ww _ _ jl,N1 (l:=R.take 8) (by intro e;rw [e]at Fq;cases Fq) (by omega)]
  rw [this];exact dI
 ·have f3:Fr S H aP:=f2.trans' bP (λk hk _=>hk) λk hk _=>by simp at hk;rw [hk];exact bB
  have f4:Fr S H a8:=f3.trans' cm (λk hk _=>hk) λk hk _=>hk
  exact f4.trans' cb (λk hk _=>hk) λk hk _=>by simp at hk;rw [hk];exact bB
 ·intro k hk
  rcases ko k hk with e|e
  ·exact .inl e
  ·exact .inr (by have:=cv.size;have:=bG.size;have:=bP.size;omega)
theorem Jd{S':List Nat}(h1:Fr S H H')(ba:Grow H S S')(ab:Fr S' H' ao):Fr S H ao:=h1.trans' ab (λk hk _=>hk) λk hk bQ=>(ba k hk).elim id λh=>by omega
theorem Ak{w:Nat}{cU:List Bool}{mm:Int}{m:Nat}{K:U->Prop}(h:vj H w S cU)(jM:pg=n)(em:mm=m)(hm:m<=64)(ay:n<18446744073709551616)(hlen:cU.length<=900000000000)
  (hk:∀H' S',vj H' w S' (cU++fr n m)->Fr S H H'->Grow H S S'->K H'):
  dQ ano [ax (some (ak w)),b3 pg,o mm] H K:=by
 subst jM;subst em
 apply anp
 refine⟨λae H'=>match ae with|[.int _ i]=>∃(j:Nat) (S':List Nat),i=j/\j<=m/\vj H' w S' (cU++fr (n/2^j) (m-j))/\Fr S H H'/\Grow H S S'|_=>False,λae _=>match ae with|[.int _ i]=>i.toNat|_=>0,⟨m,S,rfl,axx _,by rw [aBk];simpa [fr]using h,Fr.refl _ _,Grow.refl _ _⟩,?_⟩
 rintro br i H1 ⟨j,e0,rfl,bq,hw,ai,ba⟩
 have kp:(cU++fr (n/2^j) (m-j)).length<=1000000000000:=by rw [ax6,kZ];omega
 refine au (λfi=> ?_) (λfi=> ?_)
 ·have IC:8<j:=by simp at fi;omega
  have aL:IntKind.i64.wrap (((j:Nat):Int)-8)=((j-8:Nat):Int):=by rw [cj (by omega) (by omega)];omega
  rw [aL,Cq _ (by omega),show(255:Int)=((2^8-1:Nat):Int)from rfl,Fj (aA9 (aBr _ _) ay) (by omega)]
  have av:n/2^(j-8) % 2^8<2^8:=ayq _ (by decide)
  rw [hd (n:=n/2^(j-8) % 2^8) (ayQ av (by decide))]
  refine cM (bh (by rw [hd (by omega)];omega)) ?_
  refine GA (m:=8) hw rfl rfl (by omega) av kp λao S2 e8 bG ln=>⟨⟨j-8,S2,rfl,by omega,?_,Jd ai ba bG,ba.trans ai.size ln⟩,?_⟩
  ·have a':n/2^(j-8)/2^8=n/2^j:=by rw [Nat.div_div_eq_div_mul,<-aA5,show j-8+8=j by omega]
   rw [Je,ax7,<-a',<-Fk,show m-j+8=m-(j-8) by omega]at e8
   exact e8
  ·show(((j-8:Nat):Int)).toNat<((j:Nat):Int).toNat
   omega
 ·have IC:j<=8:=by simp at fi;omega
  rw [I7 (by omega),Fj ay (by omega),hd (n:=n % 2^j) (aA9 (aBm _ _) ay)]
  refine cM (bh (by rw [hd (by omega)];omega)) ?_
  refine GA (m:=j) hw rfl rfl IC (ayq _ (aA2 (by decide))) kp λao S2 e8 bG ln=>⟨rfl,hk ao S2 ?_ (Jd ai ba bG) (ba.trans ai.size ln)⟩
  rw [Je,ax7,<-Fk,show m-j+j=m by omega]at e8
  exact e8
theorem anq(q:Nat):fr ((2^q-1)*2) (q+1)=aA1 q true++[false]:=by
 rw [Fk,show(2^q-1)*2/2^1=2^q-1 by omega,NW]
 have:fr ((2^q-1)*2) 1=[false]:=by
  show [((2^q-1)*2/2^0 % 2==1)]=[false]
  rw [Nat.pow_zero,Nat.div_one,Nat.mul_mod_left];rfl
 rw [this]
theorem Wx{w:Nat}{cU:List Bool}{e7:Int}{K:Int->U->Prop}(h:vj H w S cU)(jM:pg=n)(gR:e7=k)(Cr:k<=40)(ay:n<18446744073709551616)(hlen:cU.length<=800000000000)
  (hk:∀H' S',vj H' w S' (cU++hq n k)->Fr S H H'->Grow H S S'->K 0 H'):
  cG anr [ax (some (ak w)),b3 pg,o e7] H K:=by
 subst jM;subst gR
 apply ans
 refine⟨λ_ H'=>H'=H,au (λh=>by simp at h;omega) λ_=>au (λh=>by simp at h;omega) λ_=>rfl,?_⟩
 rintro br H1 rfl
 refine cM (bh (by rw [hd (by omega)];omega)) ?_
 have hi:azF .u64=64:=rfl
 rw [hi,Cq _ (by omega)]
 generalize aO:n/2^k=q at *
 refine au (λaF=> ?_) (λaF=> ?_)
 ·have Fs:24<=q:=by simp at aF;omega
  refine Ak (n:=16777215) (m:=24) h rfl rfl (by omega) (by omega) (by omega) λao S2 ab f2 g2=> ?_
  have aL:fr 16777215 24=aA1 24 true:=NW 24
  rw [aL]at ab
  refine Ak (m:=64) ab rfl rfl (by omega) ay (by rw [ax6,aA3];omega) λaP jC ar f3 g3=>⟨_,rfl,hk aP jC ?_ (Jd f2 g2 f3) (g2.trans f2.size g3)⟩
  have mg:hq n k=aA1 24 true++fr n 64:=if_pos (by rw [aO];exact Fs)
  rw [mg,<-ax7];exact ar
 ·have Fs:q<24:=by simp at aF;omega
  have aH:2^q<=2^24:=azN (by decide) (by omega)
  have awC:(2:Nat)^24=16777216:=by decide
  have lS:0<2^q:=aA2 (by decide)
  have b8:IntKind.u64.wrap (IntKind.u64.wrap (IntKind.u64.wrap (1*2^min (azw ((q:Nat):Int)) 64)-1)*2^1)=(((2^q-1)*2:Nat):Int):=by
   rw [ayS,show min q 64=q by omega,I6,Int.one_mul,hd (by omega),ix (n:=((2^q:Nat):Int)-1) (by omega) (by omega),ix (by omega) (by omega)]
   omega
  have em:IntKind.i64.wrap (IntKind.i64.wrap ((q:Nat):Int)+1)=((q+1:Nat):Int):=by
   rw [cj (n:=((q:Nat):Int)) (by omega) (by omega),cj (by omega) (by omega)];rfl
  rw [b8,em]
  refine cM (bh (by omega)) ?_
  refine Ak (m:=q+1) h rfl rfl (by omega) (by omega) (by omega) λao S2 ab f2 g2=> ?_
  rw [anq]at ab
  refine cM (bh (by rw [hd (by omega)];omega)) ?_
  rw [I7 (by omega),Fj ay (by omega),hd (n:=n % 2^k) (aA9 (aBm _ _) ay)]
  refine Ak (m:=k) ab rfl rfl (by omega) (aA9 (aBm _ _) ay) (by rw [ax6,ax6,aA3];simp;omega) λaP jC ar f3 g3=>⟨_,rfl,hk aP jC ?_ (Jd f2 g2 f3) (g2.trans f2.size g3)⟩
  have mg:hq n k=aA1 q true++false::fr n k:=by
   unfold hq;rw [aO,if_neg (by omega)]
  rw [Je]at ar
  rw [mg]
  have cX:cU++(aA1 q true++[false])++fr n k=cU++(aA1 q true++false::fr n k):=by simp
  rw [cX]at ar
  exact ar
theorem ant{K:Option Addr->U->Prop}(hk:∀w H',H.size<=w->vj H' w [w] []->Fr [] H H'->K (some ⟨w,0,none⟩) H'):
  qW anu [] H K:=by
 apply anv
 intro b H1 ay
 refine⟨_,rfl,hk b H1 (by have:=ay.eq;omega) ⟨[],[],rfl,rfl,by decide,none,none,0,0,437,ay.get,.inl ⟨rfl,rfl⟩,Own.nil _ _ _ _,rfl,by simp [an]⟩ ay.af⟩
theorem Wy{H1:U}(h1:Fr [] H H1)(ab:Fr S H1 ao):Fr S H ao:=(h1.mono (by simp)).trans' ab (λk hk _=>hk) λk hk _=>hk
theorem Wz{x:Nat}{aP:U}{K:ByteArray->U->Prop}(aa:x<256)(ay:dV ao b (.cells ⟨[.int .u8 (x:Int)]⟩ 5) aP)(hk:K ⟨#[axX x]⟩ aP):bO (convert 168 9 (.slice (some ⟨b,0,none⟩) 1 1)) aP λv H'=>∃s,v=.string s/\K s H':=by
 have gh:bt fb aP (some ⟨b,0,none⟩) 1 1 [axX x]:=fy fb _ ay (by rw [MZ x aa];rfl)
 exact wo (e:=5) dt.bT dt.str (by kernel_rfl) gh hk
theorem N2{w:Nat}{cU:List Bool}{K:ByteArray->U->Prop}(h:vj H w S cU)(hlen:cU.length<=1000000000000)(hk:∀H',Fr S H H'->K ⟨(pack cU).toArray⟩ H'):
  dv anw [ax (some (ak w))] H K:=by
 apply anx
 obtain⟨full,rem,rfl,jl,ank,al⟩:=h.it
 have iO:=Jb full
 have anz:∀k∈S,k<H.size:=by
  obtain⟨p,ad,n,c,dJ,h1,ar,a7,rfl,b5⟩:=al.it
  intro k hk
  rcases axA.1 hk with e|e
  ·rw [e];exact km h1
  ·exact(a7.ge k e).2
 rw [ax6]at hlen
 have aI:=pF rem
 refine⟨_,al.Aj,au (λaF=> ?_) (λaF=> ?_)⟩
 ·have:rem=[]:=ayT (by simpa using aF)
  subst this
  refine Ja al (by omega) λH' ai _ _=>⟨_,rfl,?_⟩
  rw [azh]at hk
  exact hk H' ai
 ·have iC:0<rem.length:=by
   have:¬((rem.length:Nat):Int)=0:=by simpa using aF
   omega
  have cP:rem≠[]:=aAI.1 iC
  have Ai:IntKind.i64.wrap (8-((rem.length:Nat):Int))=((8-rem.length:Nat):Int):=by rw [cj (by omega) (by omega)];omega
  have aH:2^rem.length*2^(8-rem.length)=256:=by rw [<-aA5,show rem.length+(8-rem.length)=8 by omega]
  have bQ:ec rem*2^(8-rem.length)<256:=by
   rw [<-aH];exact aBg aI (aA2 (by decide))
  have ex:IntKind.u8.wrap (IntKind.u64.wrap (((ec rem:Nat):Int)*2^min (azw (IntKind.u64.wrap ((8-rem.length:Nat):Int))) 64))=((ec rem*2^(8-rem.length):Nat):Int):=by
   rw [Fi (by omega) (by omega),rW (aBl _)]
   omega
  have N3:(⟨(pack full).toArray⟩:ByteArray)++⟨#[axX (ec rem*2^(8-rem.length))]⟩=⟨(pack (full++rem)).toArray⟩:=iV (by
   rw [kQ,jW,jW,Ww _ _ jl,N1 cP (by omega)]
   rfl)
  have dF:(⟨(pack full).toArray⟩:ByteArray).size+(⟨#[axX (ec rem*2^(8-rem.length))]⟩:ByteArray).size<=9223372036854775807:=by
   show(pack full).toArray.size+1<=_
   rw [ay9];omega
  refine⟨_,al.I',_,al.Aj,?_⟩
  rw [Ai,ex]
  refine cM (bh (by rw [hd (by omega)];omega)) ⟨?_,λb H1 bb=>⟨?_,?_⟩⟩
  ·refine Ja al (by omega) λH1 cv gA VP=>⟨VP,gA,λb ao bK=> ?_⟩
   refine Wz bQ bK (cM (bh dF) ⟨_,rfl,?_⟩)
   rw [N3]
   exact hk ao (cv.trans' bK.af (λk hk _=>hk) (by simp))
  ·refine Ja (al.ag bb.af) (by omega) λao bG _ _=> ?_
   have gh:bt fb H1 (some ⟨b,0,none⟩) 1 1 [axX (ec rem*2^(8-rem.length))]:=fy fb _ bb (by rw [MZ _ bQ];rfl)
   have mh:=gh.af bG λaC e hm=>by
    cases e
    have:=anz b hm
    have:=bb.eq
    omega
   refine wo (e:=5) dt.bT dt.str (by kernel_rfl) mh (cM (bh dF) ⟨_,rfl,?_⟩)
   rw [N3]
   exact hk ao (Wy bb.af bG)
  ·refine Wz bQ bb ?_
   refine Ja (al.ag bb.af) (by omega) λao bG _ _=>cM (bh dF) ⟨_,rfl,?_⟩
   rw [N3]
   exact hk ao (Wy bb.af bG)
theorem _root_.Go.bk.bt.at'{α:Type}{E:di α}{xs:List α}(h:bt E H a n c xs)(hk:k<n):∃x,xs[k]?=some x:=fM (by rw [<-h.len];exact hk)
theorem _root_.Go.bk.Own.idx{α:Type}{E:di α}{t base:Nat}{xs:List α}(h:Own E t base H a n c xs){i:Int}{x:α}{b:Bool}(az:i=k)(aa:xs[k]?=some x)(al:b=true){X:Addr->Prop}
  (hk:∀aC,a=some aC->gu H (aC.add (i.toNat *E.sz)) (E.cells x)->X aC):fp a λaC=>dB b (X aC):=h.bT.get az aa al hk
theorem anA:sliceB azB 168 5=true:=by kernel_rfl
def kz:di Nat:=⟨λn=>[.int .u64 (n:Int)],1,λ_=>rfl,by decide,λ_ v h=>by simp at h;subst h;rfl⟩
theorem WA{l:List Nat}{e7:Int}{K:Int->U->Prop}(aG:bt kz H a n c l)(bQ:∀x∈l,x<18446744073709551616)(ay:n<=1000000)(gR:e7=k)(Cr:k<=40)(hk:K (oQ l k:Nat) H):
  cG anB [J a n c,o e7] H K:=by
 subst gR
 apply anC
 refine⟨λ_ H'=>H'=H,au (λh=>by simp at h;omega) λ_=>au (λh=>by simp at h;omega) λ_=>rfl,?_⟩
 rintro br H1 rfl
 refine⟨λae H'=>match ae with|[.int _ s,.int _ i]=>∃j:Nat,i=j/\j<=n/\s=(oQ (l.take j) k:Nat)/\H'=H1|_=>False,λae _=>match ae with|[_,.int _ i]=>n-i.toNat|_=>0,⟨0,rfl,by omega,rfl,rfl⟩,?_⟩
 rintro br s i ao ⟨j,rfl,bq,rfl,rfl⟩
 refine au (λaF=> ?_) (λaF=> ?_)
 ·have zO:j<n:=by simp at aF;omega
  obtain⟨x,aa⟩:=aG.at' zO
  have awD:=bQ x (azR aa)
  refine aG.get rfl aa (bh (by omega)) λaC b4 av=>⟨_,jb av,cM (bh (by rw [hd (by omega)];omega)) ?_⟩
  have hi:azF .u64=64:=rfl
  rw [hi,Cq _ (by omega),cE (by omega)]
  have lX:n-((j+1:Nat):Int).toNat<n-((j:Nat):Int).toNat:=by omega
  have WB:=anD (k:=k) aa
  have iD:=anE (l.take j) Cr
  rw [ayj]at iD
  have WC:=Fo x k
  generalize aO:x/2^k=q at *
  refine au (λh1=> ?_) (λh1=> ?_)
  ·have Fs:q<24:=by simp at h1;omega
   rw [if_neg (by omega)]at WC
   refine⟨⟨j+1,rfl,by omega,?_,rfl⟩,lX⟩
   rw [cj (n:=(q:Int)) (by omega) (by omega),cj (n:=(q:Int)+1) (by omega) (by omega),cj (n:=(q:Int)+1+k) (by omega) (by omega),cj (by omega) (by omega)]
   omega
  ·have Fs:24<=q:=by simp at h1;omega
   rw [if_pos Fs]at WC
   refine⟨⟨j+1,rfl,by omega,?_,rfl⟩,lX⟩
   rw [cj (by omega) (by omega)]
   omega
 ·have:j=n:=by simp at aF;omega
  subst this
  rw [ayB (by rw [aG.len];exact axx _)]
  exact⟨_,rfl,hk⟩
theorem WD{l:List Nat}{K:Int->U->Prop}(aG:bt kz H a n c l)(bQ:∀x∈l,x<18446744073709551616)(ay:n<=1000000)(hk:∀H',Fr [] H H'->K (fK l:Nat) H'):
  cG anF [J a n c] H K:=by
 apply anG
 intro b H1 bb
 refine⟨_,_,_,bb.bz.bY rfl,?_⟩
 refine WA (k:=0) (aG.ag bb.af) bQ ay rfl (by omega) λb1 ao bK bI aP bw=> ?_
 have ed:=bb.eq
 have aL:=bK.eq
 have a':=bw.eq
 have hh:=bb.size
 have s1:=bK.size
 have anH:=(bb.bz.ag bK.af).ag bw.af
 have anI:=bK.bz.ag bw.af
 refine anI.iQ (v:=.int .i64 0) (by kernel_rfl) (by kernel_rfl) (λx aa=>by simp [azI]at aa;subst aa;rfl) (by simp [azI]) λa8 gm cm=> ?_
 have anJ:=bw.bz.af cm (by simp;omega)
 refine anJ.iQ (v:=.int .i64 ((oQ l 0:Nat):Int)) (by kernel_rfl) (by kernel_rfl) (λx aa=>by simp [azI]at aa;subst aa;rfl) (by simp [azI]) λbA dI cb=> ?_
 have f3:Fr [] H aP:=(bb.af.aT bK.af).aT bw.af
 have f4:Fr [] H a8:=f3.ag cm λk hk=>by simp at hk;omega
 have f5:Fr [] H bA:=f4.ag cb λk hk=>by simp at hk;omega
 have anK:=(anH.af cm (by simp;omega)).af cb (by simp;omega)
 have anL:=gm.af cb (by simp;omega)
 refine⟨λae H'=>match ae with|[.int _ i]=>∃j:Nat,i=((j+1:Nat):Int)/\j<=40/\a6 H' ⟨b,0,none⟩ [.slice a n c]/\a6 H' ⟨b1,0,none⟩ [.int .i64 (qt l j:Nat)]/\a6 H' ⟨bI,0,none⟩ [.int .i64 (oQ l (qt l j):Nat)]/\Fr [] H H'|_=>False,λae _=>match ae with|[.int _ i]=>41-i.toNat|_=>0,
  ⟨0,rfl,by omega,anK,anL,dI,f5⟩,?_⟩
 rintro br i ct ⟨j,rfl,bq,aF,h1,ab,f6⟩
 refine au (λhle=> ?_) (λhle=> ?_)
 ·have N4:j+1<=40:=by simp at hle;omega
  refine⟨337,⟨[]⟩,_,rfl,by kernel_rfl,?_⟩
  apply anM
  refine⟨_,_,_,aF.bY rfl,?_⟩
  refine WA (k:=j+1) (aG.ag f6) bQ ay rfl N4 ⟨_,ab.bY rfl,?_⟩
  rw [cE (by omega)]
  have lX:41-((j+1+1:Nat):Int).toNat<41-((j+1:Nat):Int).toNat:=by omega
  refine au (λar=> ?_) (λar=> ?_)
  ·have ar:oQ l (j+1)<oQ l (qt l j):=by simp at ar;omega
   refine h1.iQ (v:=.int .i64 ((j+1:Nat):Int)) (by kernel_rfl) (by kernel_rfl) (λx aa=>by simp [azI]at aa;subst aa;rfl) (by simp [azI]) λdx mQ e4=> ?_
   refine(ab.af e4 (by simp;omega)).iQ (v:=.int .i64 ((oQ l (j+1):Nat):Int)) (by kernel_rfl) (by kernel_rfl) (λx aa=>by simp [azI]at aa;subst aa;rfl) (by simp [azI]) λeQ uo jl=> ?_
   have e:qt l (j+1)=j+1:=by rw [qt,if_pos ar]
   refine⟨rfl,⟨j+1,rfl,N4,(aF.af e4 (by simp;omega)).af jl (by simp;omega),?_,?_,?_⟩,lX⟩
   ·rw [e];exact mQ.af jl (by simp;omega)
   ·rw [e];exact uo
   ·exact(f6.ag e4 λk hk=>by simp at hk;omega).ag jl λk hk=>by simp at hk;omega
  ·have ar:¬oQ l (j+1)<oQ l (qt l j):=by simp at ar;omega
   have e:qt l (j+1)=qt l j:=by rw [qt,if_neg ar]
   exact⟨rfl,⟨j+1,rfl,N4,aF,by rw [e];exact h1,by rw [e];exact ab,f6⟩,lX⟩
 ·have:j=40:=by simp at hle;omega
  subst this
  exact⟨_,h1.bY rfl,_,rfl,hk _ f6⟩
theorem N5{x y:Int}:∀v∈(ax8 ⟨[.int .i64 x,.int .i64 y]⟩).cells.toList,v.oneCell'=true:=λv h=>by
 simp [azI]at h;rcases h with rfl|rfl<;>rfl
structure anN(l n:Nat)(xs:List bl)(I:Nat->List Nat->U->Prop):Prop where
 uR:∀i S H1 ao,I i S H1->Fr [] H1 ao->I i S ao
 step:∀i S H1,i+1<n->In H1 S->I i S H1->oR azB l [.int .u64 (gn xs i:Nat),.int .u64 (kb xs i:Nat)] H1 λv ao=>v=.bool true/\∃S2,I (i+1) S2 ao/\Fr S H1 ao/\Grow H1 S S2/\In ao S2
theorem B7{l:Nat}{xs:List bl}{I:Nat->List Nat->U->Prop}{K:U->Prop}(al:a6 H ⟨b,0,none⟩ [.slice a n c])(aa:bt encS H a n c xs)(b9:eJ xs)(h1:1<=n)
  (dT:In H S) (aR:b∉S/\∀k∈an a,k∉S) (aF:I 0 S H) (dK:anN l n xs I) (fin:∀e0 H1,I (n-1) e0 H1->In H1 e0->Fr S H H1->Grow H S e0->K H1):
  dY azB (.func (.func 335) ⟨[]⟩ ⟨[.pointer (some ⟨b,0,none⟩)]⟩) [.func (.yield l) ⟨[]⟩ ⟨[]⟩] H λv H'=>v=.tuple ⟨[]⟩/\K H':=by
 refine⟨335,⟨[]⟩,_,rfl,by kernel_rfl,?_⟩
 apply anO
 have hlen:=aa.len
 have Bf:=aa.cap
 have awE:=b9.len
 refine⟨_,_,_,al.bY rfl,cM (bh ⟨by omega,by omega,by omega⟩) ?_⟩
 refine⟨λae H'=>match ae with|[.int _ WE,.int _ i]=>∃(j:Nat) (S2:List Nat),i=j/\j+1<=n/\WE=nv xs j/\I j S2 H'/\Fr S H H'/\Grow H S S2/\In H' S2|_=>False,λae _=>match ae with|[_,.int _ i]=>n-i.toNat|_=>0,
  ⟨0,S,rfl,by omega,rfl,aF,Fr.refl _ _,Grow.refl _ _,dT⟩,?_⟩
 rintro br WE i H1 ⟨j,S2,rfl,bq,rfl,WG,ai,ba,pq⟩
 have dA:=al.af ai aR.1
 have cB:=aa.af ai λaC e=>aR.2 _ (by simp [an,e])
 refine au (λbQ=> ?_) (λeZ=>⟨rfl,?_⟩)
 ·have bQ:j+1<n:=by simp at bQ;omega
  have hs:=vk (l:=xs) (i:=j) (by omega)
  have gh:=vk (l:=xs) (i:=j+1) (by omega)
  refine(cB.drop (k:=1) (by omega)).get (k:=j) (x:=(dX xs (j+1),iq xs (j+1))) rfl (by rw [ax5,Nat.add_comm];exact gh) (bh (by simp;omega)) λaC b4 av=>⟨_,_,hL av,?_⟩
  refine iS (by kernel_rfl) (by kernel_rfl) N5 (by rfl) λv ao jV aI hU=>⟨_,aI.bY rfl,_,_,_,(dA.ag hU).bY rfl,?_⟩
  have wv:=cB.ag hU
  refine wv.get rfl hs (bh (by omega)) λad2 ea2 mc=>⟨_,Ng mc,_,aI.cF 1 rfl,_,_,_,(dA.ag hU).bY rfl,?_⟩
  refine wv.get rfl hs (bh (by omega)) λad3 Dl tI=>⟨_,pC (by kernel_rfl) tI (j:=1) rfl,?_⟩
  have anP:=b9.Ft (i:=j) (by omega)
  have awF:=b9.ahead (i:=j) (by omega)
  have aL:azQ .i64 (dX xs (j+1)-dX xs j)=nw xs j:=cj (n:=nw xs j) (by omega) (by omega)
  have a':azQ .i64 (nw xs j-nv xs j)=nw xs j-nv xs j:=cj (by omega) (by omega)
  rw [aL,a']
  refine Nf ⟨by omega,by omega⟩ ⟨pC (by kernel_rfl) tI (j:=1) rfl,(dA.ag hU).bY rfl,aI.cF 1 rfl,?_⟩
  refine Nf (N6 _) (.inr ⟨l,rfl,?_⟩)
  refine(dK.step j S2 ao bQ (pq.le hU.size) (dK.uR _ _ _ _ WG hU)).mono λv aP=> ?_
  rintro⟨rfl,jC,wq,bP,pt,wu⟩
  refine⟨true,rfl,au (λh=>by simp at h) λ_=>⟨⟨j+1,jC,cE (by omega),by omega,?_,wq,?_,?_,wu⟩,?_⟩⟩
  ·unfold nv;rw [if_neg (by omega)];rfl
  ·have N7:Fr S H ao:=ai.trans' hU (λk hk _=>hk) (by simp)
   exact N7.trans' bP (λk hk _=>hk) λk hk aG=>(ba k hk).elim id λh=>by omega
  ·exact ba.trans ai.size λk hk=>(pt k hk).imp id λh=>by have:=hU.size;omega
  ·show n-(azQ .i64 ((j:Int)+1)).toNat<n-((j:Nat):Int).toNat
   rw [cE (by omega)];omega
 ·have:j=n-1:=by simp at eZ;omega
  subst this
  exact fin S2 H1 WG pq ai ba
theorem Jf:sliceB azB 390 89=true:=by kernel_rfl
theorem Jg:j8 azB 89 kz.sz 8=true:=by kernel_rfl
theorem Lb:∀x∈(Value.slice a n c).cells.toList,x.oneCell'=true:=λx aa=>by simp [azI]at aa;subst aa;rfl
theorem lB(h:∀k∈an a,k∉S):∀aC,a=some aC->aC.block∉S:=λaC e=>h _ (by simp [an,e])
structure qu(xs:List bl)(b b1 l D:Nat)(bc:Loop)(cw:U)(i:Nat)(S:List Nat)(H:U):Prop where
 af:Fr [] cw H
 Mn:dO H l bc .ready none
 dq:hT H D
 it:∃a n c aV bn bg,a6 H ⟨b,0,none⟩ [.slice a n c]/\a6 H ⟨b1,0,none⟩ [.slice aV bn bg]/\Own kz 89 cw.size H a n c ((gy xs).take i)/\Own kz 89 cw.size H aV bn bg ((gz xs).take i)/\S=b::b1::l::D::(an a++an aV)/\S.Nodup
 dH:∀k∈S,cw.size<=k
theorem qu.uR{xs:List bl}{b1 l D:Nat}{bc:Loop}{cw:U}(i:Nat)(S:List Nat)(H1 ao:U)(h:qu xs b b1 l D bc cw i S H1)(ai:Fr [] H1 ao):qu xs b b1 l D bc cw i S ao:=by
 obtain⟨h1,ab,ar,⟨a,n,c,aV,bn,bg,ca,b0,cY,eP,iw,hr⟩,bs⟩:=h
 exact⟨h1.aT ai,ab.af ai (by simp),ar.af ai (by simp),⟨a,n,c,aV,bn,bg,ca.ag ai,b0.ag ai,cY.ag ai,eP.ag ai,iw,hr⟩,bs⟩
theorem anQ{X A B hz kJ:List Nat}(h:(X++(A++B)).Nodup)(hc:In H X)(ev:∀k∈hz,k∈A\/H.size<=k)(bM:∀k∈kJ,k∈B\/H.size<=k)(VU:∀k∈hz,k∈kJ->H.size<=k->False)(anR:hz.Nodup)(anS:kJ.Nodup)(Jh:In H A)(WH:In H B):(X++(hz++kJ)).Nodup:=by
 rw [azk]at h⊢
 obtain⟨aa,oj,aR⟩:=h
 rw [azk]at oj⊢
 obtain⟨bW,al,rS⟩:=oj
 refine⟨aa,⟨anR,anS,λp aH q aO e=> ?_⟩,λp aH q aO e=> ?_⟩
 ·subst e
  rcases ev p aH with h1|h1
  ·rcases bM p aO with ab|ab
   ·exact rS p h1 p ab rfl
   ·have:=Jh p h1;omega
  ·exact VU p aH aO h1
 ·subst e
  have bQ:=hc p aH
  rcases azb.1 aO with h1|h1
  ·rcases ev p h1 with ab|ab
   ·exact aR p aH p (aBd _ ab) rfl
   ·omega
  ·rcases bM p h1 with ab|ab
   ·exact aR p aH p (aBs _ ab) rfl
   ·omega
theorem WI(a:Option Addr):(an a).Nodup:=by cases a<;>simp [an]
theorem WJ{xs:List bl}{b1 l D:Nat}{bc:Loop}{cw aP:U}{aV:Option Addr}{bn bg:Nat}{p:Option Addr}{m d:Nat}{p':Option Addr}{m' d':Nat}{fY:Value->U->Prop}(h:qu xs b b1 l D bc cw i S ao)(dT:In ao S)
  (bB:S=b::b1::l::D::(an a++an aV)) (al:a6 ao ⟨b,0,none⟩ [.slice a n c]) (dA:a6 ao ⟨b1,0,none⟩ [.slice aV bn bg])
  (ar:Own kz 89 cw.size aP p m d ((gy xs).take (i+1))) (pb:Own kz 89 cw.size aP p' m' d' ((gz xs).take (i+1)))
  (f3:Fr (an a++an aV) (cC ao l bc .busy none) aP) (g:∀k∈an p,k∈an a\/ao.size<=k) (N8:∀k∈an p',k∈an aV\/ao.size<=k) (anT:∀k∈an p,k∈an p'->ao.size<=k->False)
  (hk:∀a8,(∃S2,qu xs b b1 l D bc cw (i+1) S2 a8/\Fr S ao a8/\Grow ao S S2/\In a8 S2)->fY (.bool true) a8):
  ∃a8,bp 390 aP ⟨b,0,none⟩ (.slice p m d) a8/\∃bA,bp 390 a8 ⟨b1,0,none⟩ (.slice p' m' d') bA/\dO bA l bc .busy none/\fY (.bool true) (cC bA l bc .ready none):=by
 obtain⟨h1,ab,zh,⟨_,_,_,_,_,_,ca,b0,cY,eP,iw,hr⟩,bs⟩:=h
 subst bB
 have awG:∀k,k∈[b,b1,l,D]->k∉an a++an aV:=by
  have:=(azk (l₁:=[b,b1,l,D]) (l₂:=an a++an aV)).1 hr
  exact λk hk fA=>this.2.2 k hk k fA rfl
 have WK:=hr
 simp only [ayk,axA,not_or]at WK
 obtain⟨⟨Ji,wO,N9,pY⟩,⟨wP,N',Jj⟩,⟨Fu,nl⟩,Fv,_⟩:=WK
 have bQ:=ab.lt
 have iW:=mW ao l bc .busy none
 have Bo:=sY ao l bc .busy none
 have f23:Fr (b::b1::l::D::(an a++an aV)) ao aP:=iW.trans' f3 (λk hk _=>by simp at hk;simp [hk]) λk hk _=>by simp only [axA];simp [hk]
 have anU:a6 aP ⟨b,0,none⟩ [.slice a n c]:=(al.af iW (by simpa using wO)).af f3 pY
 have anV:a6 aP ⟨b1,0,none⟩ [.slice aV bn bg]:=(dA.af iW (by simpa using wP)).af f3 Jj
 have Fw:dO aP l bc .busy none:=(vV bQ).af f3 nl
 have anW:hT aP D:=(zh.af iW (by simpa using λe=>Fu e.symm)).af f3 Fv
 have hc:In ao [b,b1,l,D]:=λk hk=>dT k (aBd (an a++an aV) hk)
 have Jh:In ao (an a):=λk hk=>dT k (by simp [hk])
 have WH:In ao (an aV):=λk hk=>dT k (by simp [hk])
 have fL:(b::b1::l::D::(an p++an p')).Nodup:=anQ (X:=[b,b1,l,D]) hr hc g N8 anT (WI _) (WI _) Jh WH
 have WL:=fL
 simp only [ayk,axA,not_or,azb]at WL
 obtain⟨⟨_,_,_,anX,anY⟩,⟨_,_,anZ,an0⟩,⟨_,an1,an2⟩,⟨awH,awI⟩,_⟩:=WL
 refine anU.iQ (v:=.slice p m d) (by kernel_rfl) (by kernel_rfl) Lb (by simp [azI]) λa8 gm f4=> ?_
 have GH:=anV.af f4 (by simpa using λe=>Ji e.symm)
 refine GH.iQ (v:=.slice p' m' d') (by kernel_rfl) (by kernel_rfl) Lb (by simp [azI]) λbA dI f5=> ?_
 have an3:=gm.af f5 (by simpa using Ji)
 have yA:dO bA l bc .busy none:=(Fw.af f4 (by simpa using λe=>wO e.symm)).af f5 (by simpa using λe=>wP e.symm)
 have an4:hT bA D:=(anW.af f4 (by simpa using λe=>N9 e.symm)).af f5 (by simpa using λe=>N' e.symm)
 have e1:=mW bA l bc .ready none
 have Dz:=sY bA l bc .ready none
 have f24:Fr (b::b1::l::D::(an a++an aV)) ao a8:=f23.trans' f4 (λk hk _=>hk) λk hk _=>by simp at hk;simp [hk]
 have f25:Fr (b::b1::l::D::(an a++an aV)) ao bA:=f24.trans' f5 (λk hk _=>hk) λk hk _=>by simp at hk;simp [hk]
 have f26:Fr (b::b1::l::D::(an a++an aV)) ao (cC bA l bc .ready none):=f25.trans' e1 (λk hk _=>hk) λk hk _=>by simp at hk;simp [hk]
 refine⟨yA,hk _ ⟨b::b1::l::D::(an p++an p'),⟨h1.ag f26 bs,vV yA.lt,an4.af e1 (by simpa using λe=>Fu e.symm),⟨p,m,d,p',m',d',?_,?_,?_,?_,rfl,fL⟩,?_⟩,f26,?_,?_⟩⟩
 ·simpa [azI]using an3.af e1 (by simpa using wO)
 ·simpa [azI]using dI.af e1 (by simpa using wP)
 ·exact((ar.af f4 (lB λk e7 hm=>anX (by simp at hm;subst hm;exact e7))).af f5 (lB λk e7 hm=>anZ (by simp at hm;subst hm;exact e7))).af e1 (lB λk e7 hm=>an1 (by simp at hm;subst hm;exact e7))
 ·exact((pb.af f4 (lB λk e7 hm=>anY (by simp at hm;subst hm;exact e7))).af f5 (lB λk e7 hm=>an0 (by simp at hm;subst hm;exact e7))).af e1 (lB λk e7 hm=>an2 (by simp at hm;subst hm;exact e7))
 ·intro k hk
  have:k∈[b,b1,l,D]\/k∈an p\/k∈an p':=by simpa [or_assoc]using hk
  rcases this with h|h|h
  ·exact bs k (aBd (an a++an aV) h)
  ·exact(ar.ge k h).1
  ·exact(pb.ge k h).1
 ·intro k hk
  have:k∈[b,b1,l,D]\/k∈an p\/k∈an p':=by simpa [or_assoc]using hk
  rcases this with h|h|h
  ·exact .inl (aBd (an a++an aV) h)
  ·exact(g k h).imp (λh=>by simp [h]) id
  ·exact(N8 k h).imp (λh=>by simp [h]) id
 ·intro k hk
  have kg:=f25.size
  have awJ:=ax4 f4.size f5.size
  have:k∈[b,b1,l,D]\/k∈an p\/k∈an p':=by simpa [or_assoc]using hk
  rcases this with h|h|h
  ·have:=hc k h;omega
  ·have:=(ar.ge k h).2;omega
  ·have:=(pb.ge k h).2;omega
section
variable{xs:List bl}{b b1 l D i:Nat}{bc:Loop}{cw ao hG:U}{S:List Nat}{a:Option Addr}{n c:Nat}{aV:Option Addr}{bn bg:Nat}{fY:Value->U->Prop}
theorem WM(bB:S=b::b1::l::D::(an a++an aV))(fL:S.Nodup)(aw:Own kz 89 cw.size ao a n c ((gy xs).take i))(jQ:Own kz 89 cw.size ao aV bn bg ((gz xs).take i))(dA:a6 ao ⟨b1,0,none⟩ [.slice aV bn bg])(al:a6 ao ⟨b,0,none⟩ [.slice a n c])
  (aa:Fr [] (cC ao l bc .busy none) hG):Own kz 89 cw.size hG a n c ((gy xs).take i)/\Own kz 89 cw.size hG aV bn bg ((gz xs).take i)/\a6 hG ⟨b1,0,none⟩ [.slice aV bn bg]/\a6 hG ⟨b,0,none⟩ [.slice a n c]/\(∀k∈an a,k∉an aV)/\b1∉an a/\b1∉an aV:=by
 subst bB
 have iW:=mW ao l bc .busy none
 have q:=fL
 simp only [ayk,axA,not_or,azb]at q
 obtain⟨⟨Ji,wO,N9,pY,an5⟩,⟨wP,N',Jj,WN⟩,⟨Fu,nl,Oa⟩,_,iw⟩:=q
 refine⟨(aw.af iW (lB λk e7 hm=>nl (by simp at hm;subst hm;exact e7))).ag aa,(jQ.af iW (lB λk e7 hm=>Oa (by simp at hm;subst hm;exact e7))).ag aa,(dA.af iW (by simpa using wP)).ag aa,(al.af iW (by simpa using wO)).ag aa,λk h1 ab=> ?_,Jj,WN⟩
 exact(azk.1 iw).2.2 k h1 k ab rfl
theorem WO(h:qu xs b b1 l D bc cw i S ao)(dT:In ao S)(bB:S=b::b1::l::D::(an a++an aV))(fL:S.Nodup)(aw:Own kz 89 cw.size ao a n c ((gy xs).take i))(jQ:Own kz 89 cw.size ao aV bn bg ((gz xs).take i))(al:a6 ao ⟨b,0,none⟩ [.slice a n c])(dA:a6 ao ⟨b1,0,none⟩ [.slice aV bn bg])
  (az:i+1<xs.length) (b9:eJ xs) (aa:Fr [] (cC ao l bc .busy none) hG) {eY fR:Nat} (s1:bt kz hG (some ⟨eY,0,none⟩) 1 1 [gn xs i]) (s2:bt kz hG (some ⟨fR,0,none⟩) 1 1 [kb xs i]) (lA:ao.size<=fR)
  (hk:∀a8,(∃S2,qu xs b b1 l D bc cw (i+1) S2 a8/\Fr S ao a8/\Grow ao S S2/\In a8 S2)->fY (.bool true) a8):
  bO (Builtin.append_ ⟨[390,390]⟩ 390 ⟨[.slice a n c,.slice (some ⟨eY,0,none⟩) 1 1]⟩) hG λv H'=>∃p m d,v=.slice p m d/\ah 390 H' ⟨b1,0,none⟩ (.slice aV bn bg)∧
   bO (Builtin.append_ ⟨[390,390]⟩ 390 ⟨[.slice aV bn bg,.slice (some ⟨fR,0,none⟩) 1 1]⟩) H' λv H'=>∃p' m' d',v=.slice p' m' d'∧
    ∃a8,bp 390 H' ⟨b,0,none⟩ (.slice p m d) a8/\∃bA,bp 390 a8 ⟨b1,0,none⟩ (.slice p' m' d') bA/\dO bA l bc .busy none/\fY (.bool true) (cC bA l bc .ready none):=by
 obtain⟨fq,gT,lb,_,Al,wQ,Ob⟩:=WM bB fL aw jQ dA al aa
 have Bo:=sY ao l bc .busy none
 have an6:=aa.size
 have hlen:=b9.len
 have kd:=aw.1
 have gA:=jQ.1
 rw [ayj]at kd gA
 have o8:cw.size<=hG.size:=by have:=h.af.size;omega
 refine ic Jf Jg fq s1 o8 (by omega) λp m d aP ar f3 g3=>⟨(lb.af f3 wQ).bY rfl,?_⟩
 have Oc:=gT.af f3 (lB λk e7 hm=>Al k hm e7)
 have WQ:In ao (an a):=λk hk=>dT k (by rw [bB];simp [hk])
 have Fx:In ao (an aV):=λk hk=>dT k (by rw [bB];simp [hk])
 have an7:=s2.af f3 λaC e hm=>by cases e;have:=WQ _ hm;simp at this;omega
 refine ic Jf Jg Oc an7 (by have:=f3.size;omega) (by omega) λp' m' d' a8 a7 f4 g4=> ?_
 have Fy:∀k∈an p,k∈an a\/ao.size<=k:=λk hk=>(g3 k hk).imp id λh=>by omega
 have Od:∀k∈an p',k∈an aV\/ao.size<=k:=λk hk=>(g4 k hk).imp id λh=>by have:=f3.size;omega
 have Oe:∀k∈an p,k∉an aV:=λk hk fA=>(Fy k hk).elim (λh=>Al k h fA) λh=>by have:=Fx k fA;omega
 have t1:=Of az
 have t2:=Og az
 refine WJ h dT bB al dA (p:=p) (m:=m) (d:=d) (p':=p') (m':=m') (d':=d') ?_ ?_ ?_ Fy Od (λk hk fA eZ=> ?_) hk
 ·have:=ar.af f4 (lB Oe)
  rw [azP,t1];exact this
 ·rw [azP,t2];exact a7
 ·have f13:Fr (an a++an aV) (cC ao l bc .busy none) aP:=aa.trans' f3 (by simp) λk hk _=>aBd _ hk
  exact f13.trans' f4 (λk hk _=>hk) λk hk _=>aBs _ hk
 ·rcases g4 k fA with bs|bs
  ·have:=Fx k bs;omega
  ·have:=(ar.ge k hk).2;omega
theorem an8(h:qu xs b b1 l D bc cw i S ao)(dT:In ao S)(bB:S=b::b1::l::D::(an a++an aV))(fL:S.Nodup)(aw:Own kz 89 cw.size ao a n c ((gy xs).take i))(jQ:Own kz 89 cw.size ao aV bn bg ((gz xs).take i))(al:a6 ao ⟨b,0,none⟩ [.slice a n c])(dA:a6 ao ⟨b1,0,none⟩ [.slice aV bn bg])
  (az:i+1<xs.length) (b9:eJ xs) (aa:Fr [] (cC ao l bc .busy none) hG) {eY:Nat} (s1:bt kz hG (some ⟨eY,0,none⟩) 1 1 [gn xs i])
  (hk:∀a8,(∃S2,qu xs b b1 l D bc cw (i+1) S2 a8/\Fr S ao a8/\Grow ao S S2/\In a8 S2)->fY (.bool true) a8):
  bO (Builtin.append_ ⟨[390,390]⟩ 390 ⟨[.slice a n c,.slice (some ⟨eY,0,none⟩) 1 1]⟩) hG λv H'=>∃p m d,v=.slice p m d/\ah 390 H' ⟨b1,0,none⟩ (.slice aV bn bg)∧
   ∀(dz:Nat) (je:U),dV H' dz (.cells ⟨[.int .u64 (kb xs i:Nat)]⟩ 89) je->ah 390 je ⟨b1,0,none⟩ (.slice aV bn bg)∧
   bO (Builtin.append_ ⟨[390,390]⟩ 390 ⟨[.slice aV bn bg,.slice (some ⟨dz,0,none⟩) 1 1]⟩) je λv H'=>∃p' m' d',v=.slice p' m' d'∧
    ∃a8,bp 390 H' ⟨b,0,none⟩ (.slice p m d) a8/\∃bA,bp 390 a8 ⟨b1,0,none⟩ (.slice p' m' d') bA/\dO bA l bc .busy none/\fY (.bool true) (cC bA l bc .ready none):=by
 obtain⟨fq,gT,lb,_,Al,wQ,Ob⟩:=WM bB fL aw jQ dA al aa
 have Bo:=sY ao l bc .busy none
 have an6:=aa.size
 have hlen:=b9.len
 have kd:=aw.1
 have gA:=jQ.1
 rw [ayj]at kd gA
 have o8:cw.size<=hG.size:=by have:=h.af.size;omega
 refine ic Jf Jg fq s1 o8 (by omega) λp m d aP ar f3 g3=>⟨(lb.af f3 wQ).bY rfl,λdz H3' bw=>⟨((lb.af f3 wQ).ag bw.af).bY rfl,?_⟩⟩
 have Oc:=(gT.af f3 (lB λk e7 hm=>Al k hm e7)).ag bw.af
 have pb:=ar.ag bw.af
 have awK:=bw.size
 have WQ:In ao (an a):=λk hk=>dT k (by rw [bB];simp [hk])
 have Fx:In ao (an aV):=λk hk=>dT k (by rw [bB];simp [hk])
 refine ic Jf Jg Oc (fy kz (kb xs i) bw rfl) (by have:=f3.size;omega) (by omega) λp' m' d' a8 a7 f4 g4=> ?_
 have Fy:∀k∈an p,k∈an a\/ao.size<=k:=λk hk=>(g3 k hk).imp id λh=>by omega
 have Od:∀k∈an p',k∈an aV\/ao.size<=k:=λk hk=>(g4 k hk).imp id λh=>by have:=f3.size;omega
 have Oe:∀k∈an p,k∉an aV:=λk hk fA=>(Fy k hk).elim (λh=>Al k h fA) λh=>by have:=Fx k fA;omega
 have t1:=Of az
 have t2:=Og az
 refine WJ h dT bB al dA (p:=p) (m:=m) (d:=d) (p':=p') (m':=m') (d':=d') ?_ ?_ ?_ Fy Od (λk hk fA eZ=> ?_) hk
 ·have:=pb.af f4 (lB Oe)
  rw [azP,t1];exact this
 ·rw [azP,t2];exact a7
 ·have f13:Fr (an a++an aV) (cC ao l bc .busy none) aP:=aa.trans' f3 (by simp) λk hk _=>aBd _ hk
  exact(f13.trans' bw.af (λk hk _=>hk) (by simp)).trans' f4 (λk hk _=>hk) λk hk _=>aBs _ hk
 ·rcases g4 k fA with bs|bs
  ·have:=Fx k bs;omega
  ·have:=(ar.ge k hk).2;omega
end
theorem an9{t:ByteArray}{x y:List UInt8}(hs:bd s=x)(aW:bd t=y):s++t=⟨(x++y).toArray⟩:=iV (by rw [kQ,hs,aW,jW])
theorem Am(x y:List UInt8):(⟨x.toArray⟩:ByteArray)++⟨y.toArray⟩=⟨(x++y).toArray⟩:=an9 (jW x) (jW y)
theorem an'{xs:List bl}(h:eJ xs):∀x∈gy xs,x<18446744073709551616:=λx aa=>by
 unfold gy at aa
 obtain⟨i,az,rfl⟩:=ayf.1 aa
 exact h.gn (by have:=aBo.1 az;omega)
theorem aoa(xs:List bl):∀x∈gz xs,x<18446744073709551616:=λx aa=>by
 unfold gz at aa
 obtain⟨i,az,rfl⟩:=ayf.1 aa
 exact Fz _ _
theorem aob(l:List Bool):(pack l).length<=l.length:=Jb l
theorem WR{xs:List bl}(h:eJ xs):(lK xs).length<=20:=by
 cases xs with
 |nil=>simp [lK]
 |cons x l=>
  unfold lK
  rw [ax6]
  have h1:=(h.dH x (by simp))
  have ab:=hD (n:=x.1.toNat) (by omega)
  have ar:=hD (tB (h.v x (by simp)))
  unfold mG;omega
theorem byteOf(h:k<=40):azQ .u8 ((k:Nat):Int)=((axX k).toNat:Int):=by
 rw [rW (aBl _),axY];omega
theorem Oh{B:Nat}{K:ByteArray->U->Prop}(ev:A<=40)(bM:B<=40)(ay:dV H b (.cells ⟨[.int .u8 (azQ .u8 ((A:Nat):Int)),.int .u8 (azQ .u8 ((B:Nat):Int))]⟩ 5) H')(ai:Fr S H' ao)(bB:In H S)(hk:K ⟨[axX A,axX B].toArray⟩ ao):
  bO (convert 168 9 (.slice (some ⟨b,0,none⟩) 2 2)) ao λv H'=>∃s,v=.string s/\K s H':=by
 rw [byteOf ev,byteOf bM]at ay
 have hs:bt fb H' (some ⟨b,0,none⟩) 2 2 [axX A,axX B]:=by
  refine⟨rfl,axx _,.inr ⟨b,0,rfl,λi x aa j v aI=> ?_⟩⟩
  rw [tp ay.get]
  match i,aa with
  |0,aa=>cases aa;match j,aI with|0,aI=>cases aI;rfl
  |1,aa=>cases aa;match j,aI with|0,aI=>cases aI;rfl
 refine wo (e:=5) anA dt.str (by kernel_rfl) (hs.af ai λaC e hm=> ?_) hk
 cases e
 have:=bB _ hm
 have:=ay.eq
 simp at *
 omega
def WS(xs:List bl)(b b1 l D:Nat)(bc:Loop)(cw:U)(i:Nat)(S:List Nat)(H:U)(v:Value)(H':U):Prop:=v=.bool true/\∃S2,qu xs b b1 l D bc cw (i+1) S2 H'/\Fr S H H'/\Grow H S S2/\In H' S2
theorem A3{xs:List bl}{K:ByteArray->Int->U->Prop}(aa:bt encS H a n c xs)(aI:∀x∈xs,eM x.2)(ay:n<=1000000000)
  (WT:5000<n->K ⟨#[]⟩ 1 H) (o':n<=5000->¬eJ xs->∀H',Fr [] H H'->K ⟨#[]⟩ 30 H') (e':eJ xs->∀H',Fr [] H H'->K ⟨(ft xs).toArray⟩ 0 H'):
  aK aoc [J a n c] H λv H'=>∃s e,v=.tuple ⟨[.string s,.int .i64 e]⟩/\K s e H':=by
 apply aod
 have hlen:=aa.len
 refine au (λh=>⟨_,_,rfl,WT (by simp at h;omega)⟩) (λh=> ?_)
 have gH:n<=5000:=by simp at h;omega
 clear h
 refine⟨λae H'=>match ae with|[.int _ last,.int _ i]=>∃j:Nat,i=j/\j<=n/\last=(if j=0 then -1 else dX xs (j-1))/\yB xs j/\Fr [] H H'|_=>False,λae _=>match ae with|[_,.int _ i]=>n-i.toNat|_=>0,
  ⟨0,rfl,by omega,rfl,aoe _,Fr.refl _ _⟩,?_⟩
 rintro br last i H1 ⟨j,rfl,bq,rfl,Oi,f1⟩
 refine au (λbQ=> ?_) (λeZ=> ?_)
 ·have bQ:j<n:=by simp at bQ;omega
  have hs:=vk (l:=xs) (i:=j) (by omega)
  refine(aa.ag f1).get rfl hs (bh (by omega)) λaC b4 av=>⟨_,_,hL av,?_⟩
  refine iS (by kernel_rfl) (by kernel_rfl) N5 (by rfl) λv ao jV qj hU=>⟨_,qj.bY rfl,?_⟩
  have f2:=f1.aT hU
  have tr: -1<=(if j=0 then(-1:Int)else dX xs (j-1)):=by
   split
   ·omega
   ·have:=(Oi (j-1) (by omega)).1;omega
  refine au (λh=>⟨_,_,rfl,o' gH (λb9=> ?_) ao f2⟩) (λh=>⟨_,qj.bY rfl,au (λab=>⟨_,_,rfl,o' gH (λb9=> ?_) ao f2⟩) λab=>⟨_,qj.bY rfl,?_⟩⟩)
  ·have h:=of_decide_eq_true h
   have ar:=b9.yB j (by omega)
   split at h
   ·simp only at h;omega
   ·have:=ar.2 (by omega);simp only at h;omega
  ·have ab:=of_decide_eq_true ab
   have ar:=b9.yB j (by omega)
   simp only at ab;omega
  ·have h:=of_decide_eq_false h
   have ab:=of_decide_eq_false ab
   simp only at h ab
   rw [cE (by omega)]
   have lX:n-((j+1:Nat):Int).toNat<n-((j:Nat):Int).toNat:=by omega
   refine⟨⟨j+1,rfl,by omega,by rw [if_neg (by omega)];rfl,aof Oi ⟨by omega,by omega⟩ (λaF=> ?_),f2⟩,lX⟩
   rw [if_neg (by omega)]at h
   omega
 ·have:j=n:=by simp at eZ;omega
  subst this
  have b9:eJ xs:=aog (by omega) (by rw [<-hlen];exact Oi) aI
  have e':=e' b9
  rw [hd (n:=j) (by omega)]
  refine qK (by omega) λao g2=> ?_
  have f2:=f1.aT g2
  refine au (λiC=> ?_) (λaE=> ?_)
  ·have iC:0<j:=by simp at iC;omega
   have hs:=vk (l:=xs) (i:=0) (by omega)
   have aF:=b9.at (i:=0) (by omega)
   refine(aa.ag f2).get (k:=0) rfl hs (bh (by omega)) λaC b4 av=>⟨dX xs 0,by have:=Ng av;simpa [Addr.add]using this,?_⟩
   refine(aa.ag f2).get (k:=0) rfl hs (bh (by omega)) λad2 ea2 mc=>⟨iq xs 0,by have:=pC (P:=azB) (t:=3) (by kernel_rfl) mc (j:=1) rfl;simpa [Addr.add]using this,?_⟩
   have aoh:dX xs 0=(((dX xs 0).toNat:Nat):Int):=by omega
   rw [show azQ .u64 (dX xs 0)=azQ .u64 (((dX xs 0).toNat:Nat):Int) by rw [<-aoh],hd (n:=(dX xs 0).toNat) (by omega)]
   refine qK (by omega) λaP g3=>⟨by have:=pC (P:=azB) (t:=3) (by kernel_rfl) (mc.ag g3) (j:=1) rfl;simpa [Addr.add]using this,?_⟩
   have f3:=f2.aT g3
   refine UO aF.2 λa8 g4=> ?_
   have f4:=f3.aT g4
   have ht:=hD (n:=j) (by omega)
   have z2:=hD (n:=(dX xs 0).toNat) (by omega)
   have z3:=hD (tB aF.2)
   have aoi:lK xs=cn (dX xs 0).toNat++mG (iq xs 0):=by
    cases xs with
    |nil=>simp at hs
    |cons x l=>rfl
   have IZ:cn j=cn xs.length:=by rw [<-hlen]
   rw [Am,Am,<-aoi,IZ]
   rw [IZ]at ht
   have awL:=WR b9
   refine cM (bh (by rw [fD,fD];unfold mG;omega)) (cM (bh (by rw [fD,fD];omega)) (au (λh1=>⟨_,_,rfl,?_⟩) (λh1=> ?_)))
   ·have:jI xs=[]:=by unfold jI;rw [if_pos (by simp at h1;omega)]
    have e:ft xs=cn xs.length++lK xs:=by unfold ft;rw [this,azh]
    rw [<-e]
    exact e' _ f4
   ·have ab:2<=xs.length:=by simp at h1;omega
    intro b bA Jk b1 ct j7
    apply aoj
    intro bI dx ga
    refine⟨_,rfl,λD l bc eQ kq lU=> ?_⟩
    obtain⟨f78,aok,aol,Sa,el,awM⟩:=kq.out
    have hi:=Jk.eq
    have Ct:=j7.eq
    have Ie:=ga.eq
    have HZ:=Jk.size
    have HY:=j7.size
    have RC:=ga.size
    have Oj:Fr [] a8 eQ:=((Jk.af.aT j7.af).aT ga.af).aT f78
    have f8:=f4.aT Oj
    have gl:=((Jk.bz.ag j7.af).ag ga.af).ag f78
    have aom:=(j7.bz.ag ga.af).ag f78
    have aon:=ga.bz.ag f78
    have aoo:(b::b1::l::D::(an (none:Option Addr)++an (none:Option Addr))).Nodup:=by
     simp only [ayk,axA,an,azh,List.not_mem_nil,or_false,not_or]
     refine⟨⟨by omega,by omega,by omega⟩,⟨by omega,by omega⟩,by omega,by simp,List.nodup_nil⟩
    have nU:∀k∈[b,b1,l,D],a8.size<=k/\k<eQ.size/\k≠bI:=λk hk=>by
     simp only [axA,azS,or_false]at hk
     omega
    have aop:∀k∈an a,k<H.size:=λk hk=>by
     cases a with
     |none=>simp [an]at hk
     |some aC=>
      simp [an]at hk
      obtain⟨o4,off,aL,a'⟩:=aa.arr.lt (by intro e;rw [e]at ab;simp at ab)
      cases aL
      simp at hk
      omega
    have Ig:=f4.size
    refine dY.mono (B7 (K:=λcN=>∃e0,qu xs b b1 l D bc a8 (j-1) e0 cN/\In cN e0/\Fr [] a8 cN) aon (aa.ag f8) b9 (by omega) (S:=[b,b1,l,D]) (λk hk=>(nU k hk).2.1) ⟨λhk=>(nU bI hk).2.2 rfl,λk hk fA=>by
      have:=aop k hk
      have:=(nU k fA).1
      omega⟩ (I:=qu xs b b1 l D bc a8) ?_ ⟨qu.uR,?_⟩ (λe0 cN cd dT ai ba=>⟨e0,cd,dT,Oj.ag ai λk hk=>(nU k hk).1⟩)) λv cN=> ?_
    ·exact⟨Oj,aok,aol,⟨none,0,0,none,0,0,gl,aom,Own.nil ..,Own.nil ..,rfl,aoo⟩,λk hk=>(nU k hk).1⟩
    ·intro i S cN az dT cd
     have z7:=cd
     obtain⟨t1,t2,t3,⟨p,m,d,p',m',d',ca,b0,cY,eP,iw,hr⟩,t5⟩:=z7
     have wO:b≠l:=by rw [iw]at hr;simp only [ayk,axA,not_or]at hr;exact hr.1.2.1
     have wP:b1≠l:=by rw [iw]at hr;simp only [ayk,axA,not_or]at hr;exact hr.2.1.1
     have iW:=mW cN l bc .busy none
     have Bo:=sY cN l bc .busy none
     have G6:=ca.af iW (by simpa using wO)
     have G7:=b0.af iW (by simpa using wP)
     have ld:=λ{H':U} (ai:Fr [] (cC cN l bc .busy none) H')=>(G6.ag ai).tu (P:=azB) (t:=390) (by kernel_rfl) rfl
     have ld1:=λ{H':U} (ai:Fr [] (cC cN l bc .busy none) H')=>(G7.ag ai).tu (P:=azB) (t:=390) (by kernel_rfl) rfl
     have hk:∀FA,(∃S2,qu xs b b1 l D bc a8 (i+1) S2 FA/\Fr S cN FA/\Grow cN S S2/\In FA S2)->WS xs b b1 l D bc a8 i S cN (.bool true) FA:=λFA h=>⟨rfl,h⟩
     refine lU _ _ cN (WS xs b b1 l D bc a8 i S cN) t2 ⟨t2,p,m,d,ld (Fr.refl _ _),p',m',d',ld1 (Fr.refl _ _),?_,?_⟩
     ·intro dz hj p8
      have f10:=p8.af
      refine⟨ld1 f10,ld f10,?_,?_⟩
      ·exact an8 cd dT iw hr cY eP ca b0 (by omega) b9 f10 (fy kz (gn xs i) p8 rfl) hk
      ·intro jy jO mi
       have f11:=f10.aT mi.af
       exact⟨ld1 f11,ld f11,WO cd dT iw hr cY eP ca b0 (by omega) b9 f11 ((fy kz (gn xs i) p8 rfl).ag mi.af) (fy kz (kb xs i) mi rfl) (by have:=mi.eq;have:=p8.size;omega) hk⟩
     ·intro dz hj p8
      have f10:=p8.af
      refine⟨ld1 f10,ld f10,?_⟩
      intro jy jO mi
      have f11:=f10.aT mi.af
      exact⟨ld1 f11,ld f11,WO cd dT iw hr cY eP ca b0 (by omega) b9 f11 (fy kz (gn xs i) mi rfl) ((fy kz (kb xs i) p8 rfl).ag mi.af) (by have:=p8.eq;omega) hk⟩
    ·rintro⟨rfl,e0,cd,awN,f9⟩
     obtain⟨t1,t2,t3,⟨p,m,d,p',m',d',ca,b0,cY,eP,iw,hr⟩,t5⟩:=cd
     have awO:j-1=(gy xs).length:=by rw [WU];omega
     have T':j-1=(gz xs).length:=by rw [WV];omega
     rw [ayB (by omega)]at cY eP
     have Cu:=hr
     rw [iw]at Cu
     simp only [ayk,axA,not_or,azb]at Cu
     obtain⟨⟨Ji,wO,N9,pY,an5⟩,⟨wP,N',Jj,WN⟩,⟨Fu,nl,Oa⟩,_,_⟩:=Cu
     have e1:=mW cN l bc .exhausted none
     generalize awP:cC cN l bc .exhausted none=hG at *
     have WW:=ca.af e1 (by simpa using wO)
     have Ol:=b0.af e1 (by simpa using wP)
     have aoq:=t3.af e1 (by simpa using λe=>Fu e.symm)
     have Om:=cY.af e1 (lB λk e7 hm=>nl (by simp at hm;subst hm;exact e7))
     have On:=eP.af e1 (lB λk e7 hm=>Oa (by simp at hm;subst hm;exact e7))
     have aor:Fr [] a8 hG:=f9.ag e1 λk hk=>by simp at hk;subst hk;exact t5 _ (by rw [iw];simp)
     have hm:=Om.1
     have fv:=On.1
     rw [WU]at hm
     rw [WV]at fv
     refine .inl ⟨t2,p,m,d,WW.bY rfl,p',m',d',Ol.bY rfl,?_⟩
     refine WD Om.bT (an' b9) (by omega) λhj f10=>⟨(Ol.ag f10).bY rfl,?_⟩
     refine WD (On.ag f10).bT (aoa xs) (by omega) λjO f11=> ?_
     refine ant λw mj hw kI f12=> ?_
     have WX:Fr [] hG mj:=(f10.aT f11).aT f12
     refine⟨p,m,d,(WW.ag WX).bY rfl,?_⟩
     have ev:=qv (gy xs)
     have bM:=qv (gz xs)
     have awQ:=(f10.aT f11).size
     refine⟨λae H'=>match ae with|[.int _ i]=>∃(q:Nat) (S':List Nat),i=q/\q<=j-1/\vj H' w S' (jn xs (fK (gy xs)) (fK (gz xs)) q)/\Fr [] hG H'/\(∀k∈S',hG.size<=k)/\In H' S'|_=>False,λae _=>match ae with|[.int _ i]=>j-i.toNat|_=>0,
      ⟨0,[w],rfl,by omega,kI,WX,λk hk=>by simp at hk;omega,λk hk=>by
       simp at hk;subst hk
       obtain⟨_,_,_,_,_,aq⟩:=kI.it
       obtain⟨_,_,_,_,_,aq,_⟩:=aq.it
       exact km aq⟩,?_⟩
     rintro ek i rD ⟨q,S',rfl,aO,Jl,Cw,FB,aos⟩
     have fh:=Jm xs ev bM q
     refine au (λbQ=> ?_) (λeZ=> ?_)
     ·have awR:q<m:=by simp at bQ;omega
      refine(Om.ag Cw).idx rfl (Of (l:=xs) (i:=q) (by omega)) (bh (by omega)) λad3 Dl tI=>⟨_,jb tI,?_⟩
      refine Wx Jl rfl rfl ev (b9.gn (by omega)) (by omega) λH14 aot hW14 f14 g14=> ?_
      have Jn:Fr [] hG H14:=Cw.ag f14 FB
      refine⟨p',m',d',(Ol.ag Jn).bY rfl,?_⟩
      refine(On.ag Jn).idx rfl (Og (l:=xs) (i:=q) (by omega)) (bh (by omega)) λad4 ea4 Jo=>⟨_,jb Jo,?_⟩
      have iD:=Oo (n:=gn xs q) ev
      have GK:∀k∈aot,hG.size<=k:=λk hk=>(g14 k hk).elim (FB k) λh=>by have:=Cw.size;omega
      refine Wx hW14 rfl rfl bM (Fz _ _) (by rw [ax6];omega) λH15 aou WY f15 g15=> ?_
      rw [cE (by omega)]
      have lX:j-((q+1:Nat):Int).toNat<j-((q:Nat):Int).toNat:=by omega
      refine⟨⟨q+1,aou,rfl,by omega,by rw [An,<-ax7];exact WY,Jn.ag f15 GK,λk hk=>(g15 k hk).elim (GK k) λh=>by have:=Jn.size;omega,?_⟩,lX⟩
      obtain⟨_,_,_,_,_,GI⟩:=WY.it
      obtain⟨_,_,_,_,_,aov,_,aw,aow,_⟩:=GI.it
      intro k hk
      rw [aow]at hk
      rcases axA.1 hk with e|hk
      ·rw [e];exact km aov
      ·exact(aw.ge k hk).2
     ·have:q=j-1:=by simp at eZ;omega
      subst this
      have FC:jI xs=axX (fK (gy xs))::axX (fK (gz xs))::pack (jn xs (fK (gy xs)) (fK (gz xs)) (j-1)):=by
       unfold jI;rw [if_neg (by omega),hlen]
      have WZ:(⟨(cn xs.length++lK xs).toArray⟩:ByteArray)++⟨[axX (fK (gy xs)),axX (fK (gz xs))].toArray⟩++⟨(pack (jn xs (fK (gy xs)) (fK (gz xs)) (j-1))).toArray⟩=⟨(ft xs).toArray⟩:=by
       rw [Am,Am]
       unfold ft
       rw [FC];simp
      have awS:=aob (jn xs (fK (gy xs)) (fK (gz xs)) (j-1))
      have awT:(cn xs.length++lK xs).length<=30:=by rw [ax6];omega
      have Oq:(⟨(cn xs.length++lK xs).toArray⟩:ByteArray).size+(⟨[axX (fK (gy xs)),axX (fK (gz xs))].toArray⟩:ByteArray).size<=9223372036854775807:=by
       rw [fD,fD];simp only [ayi,azs];omega
      have Ot:((⟨(cn xs.length++lK xs).toArray⟩:ByteArray)++⟨[axX (fK (gy xs)),axX (fK (gz xs))].toArray⟩).size+(⟨(pack (jn xs (fK (gy xs)) (fK (gz xs)) (j-1))).toArray⟩:ByteArray).size<=9223372036854775807:=by
       rw [Am,fD,fD,ax6];simp only [ayi,azs];omega
      have fin:∀H',Fr [] hG H'->hT H' D/\∃s e,aA7 ⟨[.string (⟨(cn xs.length++lK xs).toArray⟩++⟨[axX (fK (gy xs)),axX (fK (gz xs))].toArray⟩++⟨(pack (jn xs (fK (gy xs)) (fK (gz xs)) (j-1))).toArray⟩),.int .i64 0]⟩=.tuple ⟨[.string s,.int .i64 e]⟩/\K s e (ir H' D):=λH' ai=>by
       refine⟨aoq.af ai (by simp),_,_,rfl,?_⟩
       rw [WZ]
       exact e' _ ((f4.aT (aor.aT ai)).ag (G9 H' D) λk hk=>by simp at hk;omega)
      refine⟨λk7 H14 Cx=>⟨?_,?_⟩,?_⟩
      ·refine Oh ev bM Cx (S:=[]) (Fr.refl _ _) (λk hk=>by simp at hk) (cM (bh Oq) ?_)
       refine N2 ⟨Jl.it.imp λ_ h=>h.imp λ_ h=>⟨h.1,h.2.1,h.2.2.1,h.2.2.2.ag Cx.af⟩⟩ (by omega) λH15 f15=>cM (bh Ot) (fin H15 ((Cw.aT Cx.af).ag f15 FB))
      ·refine N2 ⟨Jl.it.imp λ_ h=>h.imp λ_ h=>⟨h.1,h.2.1,h.2.2.1,h.2.2.2.ag Cx.af⟩⟩ (by omega) λH15 f15=> ?_
       exact Oh ev bM Cx f15 aos (cM (bh Oq) (cM (bh Ot) (fin H15 ((Cw.aT Cx.af).ag f15 FB))))
      ·refine N2 Jl (by omega) λH15 f15 k7 KC hn16=> ?_
       exact Oh ev bM hn16 (S:=[]) (Fr.refl _ _) (λk hk=>by simp at hk) (cM (bh Oq) (cM (bh Ot) (fin KC ((Cw.ag f15 FB).aT hn16.af))))
  ·have EF:j=0:=by simp at aE;omega
   subst EF
   have e:xs=[]:=ayT (by omega)
   subst e
   refine au (λ_=>⟨_,_,rfl,?_⟩) (λh=>by simp at h)
   have e:ft []=cn 0:=by simp [ft,lK,jI]
   rw [<-e]
   exact e' _ f2
def wR(R:List Bool)(k p:Nat)(n e:Int)(p':Nat):Prop:=
 (∃v m:Nat,n=v/\v<18446744073709551616/\e=0/\k<=40/\sa (R.drop p) k=some (v,m)/\p'=p+m)\/(n=0/\e≠0/\p'=p/\(k>40\/sa (R.drop p) k=none))
theorem wR.nat{R:List Bool}{p':Nat}{n:Int}(h:wR R k p n e p'):∃v:Nat,n=v/\v<18446744073709551616:=by
 rcases h with⟨v,m,h1,ab,_⟩|⟨h1,_⟩
 ·exact⟨v,h1,ab⟩
 ·exact⟨0,h1,by decide⟩
theorem wR.of{R r:List Bool}{p' v:Nat}{n:Int}(h:wR R k p n e p')(hk:k<=40)(aI:v<18446744073709551616)(aB:R.drop p=hq v k++r):e=0/\n=v/\p'=p+(hq v k).length:=by
 have av:=Fm (k:=k) aI r
 rw [<-aB]at av
 rcases h with⟨w,m,h1,ab,ar,a7,bs,b5⟩|⟨_,_,_,h|h⟩
 ·rw [av]at bs
  obtain⟨rfl,rfl⟩:=Prod.mk.inj (Option.some.inj bs)
  exact⟨ar,h1,b5⟩
 ·omega
 ·rw [av]at h;cases h
theorem W0{r:Nat}{e7:Int}{a:Nat}{K:Int->Int->U->Prop}(al:a6 H ⟨r,0,none⟩ [.string s,.int .i64 (a:Int)])(gR:e7=k)(bW:a<=8*s.size)(hs:s.size<=1000000000000)
  (hk:∀n e p' H',wR (gx (bd s)) k a n e p'->p'<=8*s.size->a6 H' ⟨r,0,none⟩ [.string s,.int .i64 (p':Int)]->Fr [r] H H'->K n e H'):
  aK Wq [ax (some (ak r)),o e7] H λv H'=>∃n e,v=.tuple ⟨[.int .u64 n,.int .i64 e]⟩/\K n e H':=
 am0 al rfl gR bW hs (λh e he=>hk 0 e a H (.inr ⟨rfl,he,rfl,h⟩) bW al (Fr.refl _ _)) λaox n m H' h1 ab ar a7 bs=>hk n 0 (a+m) H' (.inl ⟨n,m,rfl,ab,rfl,aox,h1,rfl⟩) ar a7 bs
structure q8(A B:Nat)(s2:ByteArray)(N:Nat)(fj:bl)(L:List bl):Prop where
 P:eJ L
 len:L.length=N
 fst:L[0]?=some fj
 A40:A<=40
 B40:B<=40
 bits:∃m,m<8/\gx (bd s2)=jn L A B (N-1)++aA1 m false
theorem q8.next{B eY fR j:Nat}{s2:ByteArray}{fj:bl}{L:List bl}{cD aL cz a':Int}(bZ:q8 A B s2 N fj L)(bq:j+1<N)(aH:p=(jn L A B j).length)(h1:wR (gx (bd s2)) A p cD aL eY)(ab:wR (gx (bd s2)) B eY cz a' fR):
  aL=0/\a'=0/\cD=(gn L j:Nat)/\cz=(kb L j:Nat)/\fR=(jn L A B (j+1)).length:=by
 obtain⟨m,_,al⟩:=bZ.bits
 obtain⟨r,aB⟩:=Ou L A B (i:=j) (m:=N-1) (by omega)
 rw [aB]at al
 have hlen:=bZ.len
 have d1:(gx (bd s2)).drop p=hq (gn L j) A++(hq (kb L j) B++(r++aA1 m false)):=by
  rw [al,aH];simp
 obtain⟨ca,b0,cY⟩:=h1.of bZ.A40 (bZ.P.gn (i:=j) (by omega)) d1
 have d2:(gx (bd s2)).drop eY=hq (kb L j) B++(r++aA1 m false):=by
  rw [cY,<-aA4,d1];simp
 obtain⟨eP,iw,hr⟩:=ab.of bZ.B40 (Fz L j) d2
 refine⟨ca,eP,b0,iw,?_⟩
 rw [hr,cY,aH,An,ax6,ax6];omega
structure Cy(A B N:Nat)(s2:ByteArray)(fj:bl)(r base:Nat)(H:U)(a:Option Addr)(n c:Nat)(l:List bl)(d:Int)(p:Nat):Prop where
 own:Own encS 111 base H a n c l
 rd:a6 H ⟨r,0,none⟩ [.string s2,.int .i64 (p:Int)]
 cA:r∉an a
 len:1<=l.length/\l.length<=N
 dC:p<=8*s2.size
 db:0<=d/\d<=1099511627776
 last:0<=dX l (l.length-1)/\dX l (l.length-1)<1099511627776
 v:∀x∈l,eM x.2
 cmp:∀L,q8 A B s2 N fj L->l=L.take l.length/\p=(jn L A B (l.length-1)).length/\d=nv L (l.length-1)
theorem aoy{L:List bl}{m:Nat}(h:i<m):dX (L.take m) i=dX L i:=by unfold dX;rw [axN,if_pos h]
theorem aoz{L:List bl}{m:Nat}(h:i<m):iq (L.take m) i=iq L i:=by unfold iq;rw [axN,if_pos h]
theorem q8.xa{B:Nat}{s2:ByteArray}{fj:bl}{L l:List bl}(bZ:q8 A B s2 N fj L)(h1:1<=l.length)(bq:l.length<N)(aG:l=L.take l.length){d:Int}(aR:d=nv L (l.length-1)):
  d+fE (gn L (l.length-1))=nw L (l.length-1)/\1<=d+fE (gn L (l.length-1))/\d+fE (gn L (l.length-1))<1099511627776/\dX l (l.length-1)+(d+fE (gn L (l.length-1)))<1099511627776∧
   -1099511627776<fE (gn L (l.length-1))/\fE (gn L (l.length-1))<1099511627776∧
   L[l.length]?=some (dX l (l.length-1)+(d+fE (gn L (l.length-1))),IntKind.i64.wrap (iq l (l.length-1)+fE (kb L (l.length-1)))):=by
 have hlen:=bZ.len
 have aL:dX l (l.length-1)=dX L (l.length-1):=by rw [aG,ayj,aoy (by omega)]
 have a':iq l (l.length-1)=iq L (l.length-1):=by rw [aG,ayj,aoz (by omega)]
 have ay:=Ov bZ.P (i:=l.length-1) (by omega)
 have anP:=bZ.P.Ft (i:=l.length-1) (by omega)
 have W1:=bZ.P.more (i:=l.length-1) (by omega)
 have ab:=(bZ.P.at (i:=l.length-1+1) (by omega)).1
 have yg:fE (gn L (l.length-1))=nw L (l.length-1)-nv L (l.length-1):=by unfold gn;rw [Cd]
 have cX:l.length-1+1=l.length:=by omega
 have I9:dX L (l.length-1)+nw L (l.length-1)=dX L (l.length-1+1):=by unfold nw;omega
 rw [cX]at ay
 refine⟨by rw [yg,aR];omega,by rw [yg,aR];omega,by rw [yg,aR];omega,by rw [yg,aR,aL];omega,by rw [yg];omega,by rw [yg];omega,?_⟩
 rw [aL,a',aR];exact ay
theorem aoA:∀m,ec (aA1 m false)=0:=λm=>by
 induction m with
 |zero=>rfl
 |succ m ih=>rw [aA6,Ah,ih];simp
theorem Cy.all{B r base:Nat}{s2:ByteArray}{fj:bl}{l:List bl}{d:Int}(h:Cy A B N s2 fj r base H a n c l d p)(aG:l.length=N){L:List bl}(bZ:q8 A B s2 N fj L):
  l=L/\((gx (bd s2)).drop p).length<8/\ec ((gx (bd s2)).drop p)=0:=by
 obtain⟨h1,ab,ar⟩:=h.cmp L bZ
 obtain⟨m,hm,al⟩:=bZ.bits
 have hlen:=bZ.len
 refine⟨by rw [h1,ayB (by omega)],?_⟩
 have:(gx (bd s2)).drop p=aA1 m false:=by
  rw [al,ab,aG];simp
 rw [this,aA3,aoA]
 exact⟨hm,rfl⟩
theorem Cy.more{B r base eY fR:Nat}{s2:ByteArray}{fj:bl}{bn bg:Nat}{aV:Option Addr}{l:List bl}{d cD aL cz a':Int}{v1 v2:Nat}(h:Cy A B N s2 fj r base H a n c l d p)(bQ:l.length<N)
  (h1:wR (gx (bd s2)) A p cD aL eY) (ab:wR (gx (bd s2)) B eY cz a' fR) (Ow:cD=v1) (zZ:cz=v2) (awU:v2<18446744073709551616) (lA:fR<=8*s2.size)
  (aR:1<=d+fE v1/\d+fE v1<=1099511627776) (cd:dX l (l.length-1)+(d+fE v1)<1099511627776)
  (aw:Own encS 111 base H' aV bn bg (l++[(dX l (l.length-1)+(d+fE v1),IntKind.i64.wrap (iq l (l.length-1)+fE v2))])) (aB:a6 H' ⟨r,0,none⟩ [.string s2,.int .i64 (fR:Int)]) (pT:r∉an aV):
  Cy A B N s2 fj r base H' aV bn bg (l++[(dX l (l.length-1)+(d+fE v1),IntKind.i64.wrap (iq l (l.length-1)+fE v2))]) (d+fE v1) fR:=by
 have aG:=h.len
 have tr:=h.last
 refine⟨aw,aB,pT,by simp;omega,lA,by omega,?_,?_,?_⟩
 ·have:dX (l++[(dX l (l.length-1)+(d+fE v1),IntKind.i64.wrap (iq l (l.length-1)+fE v2))]) ((l++[(dX l (l.length-1)+(d+fE v1),IntKind.i64.wrap (iq l (l.length-1)+fE v2))]).length-1)=dX l (l.length-1)+(d+fE v1):=by
   rw [ax6]
   unfold dX
   simp
  rw [this]
  omega
 ·intro x aa
  rcases azb.1 aa with aa|aa
  ·exact h.v x aa
  ·simp at aa;subst aa;exact N6 _
 ·intro L bZ
  obtain⟨ca,b0,cY⟩:=h.cmp L bZ
  have fl:=bZ.len
  obtain⟨fB,gj,y6,y7,aoB⟩:=bZ.next (j:=l.length-1) (by omega) b0 h1 ab
  have HL:v1=gn L (l.length-1):=by omega
  have aoC:v2=kb L (l.length-1):=by omega
  obtain⟨ht,z2,z3,z4,z5,vz,xf⟩:=bZ.xa aG.1 bQ ca cY
  rw [<-HL,<-aoC]at xf
  rw [<-HL]at ht
  refine⟨?_,?_,?_⟩
  ·rw [ax6,ayi,azs,axJ,azP,<-ca,xf];rfl
  ·rw [aoB,ax6];simp;rw [show l.length-1+1=l.length by omega]
  ·rw [ht,ax6]
   unfold nv
   simp
   intro e;rw [e]at aG;simp at aG
theorem aoD{l:List bl}(h:1<=l.length):l[l.length-1]?=some (dX l (l.length-1),iq l (l.length-1)):=vk (by omega)
theorem aoE(h:n<=1000000000):azQ .u64 ((n:Nat):Int)=((n:Nat):Int):=hd (by omega)
theorem aoF{fj:bl}{L:List bl}(b9:eJ L)(aG:L.length=N)(fl:2<=N)(aF:L[0]?=some fj)(hs:(bd s).drop k=jI L):
  k+2<=s.size/\q8 (bo s k) (bo s (k+1)) (s.extract (k+2) s.size) N fj L:=by
 have eo:=dR s
 have aW:jI L=axX (fK (gy L))::axX (fK (gz L))::pack (jn L (fK (gy L)) (fK (gz L)) (L.length-1)):=by
  unfold jI;rw [if_neg (by omega)]
 rw [aW]at hs
 have hlen:=congrArg aBc hs
 rw [ayY,ayi,ayi]at hlen
 have ev:=qv (gy L)
 have bM:=qv (gz L)
 have a0:bo s k=fK (gy L):=by
  have:(bd s)[k]?=some (axX (fK (gy L))):=by
   have:=congrArg (λl=>l[0]?) hs
   simpa [ax5]using this
  rw [Ca (by rw [yl];exact this),axY];omega
 have cW:bo s (k+1)=fK (gz L):=by
  have:(bd s)[k+1]?=some (axX (fK (gz L))):=by
   have:=congrArg (λl=>l[1]?) hs
   simpa [ax5]using this
  rw [Ca (by rw [yl];exact this),axY];omega
 refine⟨by omega,b9,aG,aF,by omega,by omega,?_⟩
 have a':bd (s.extract (k+2) s.size)=pack (jn L (fK (gy L)) (fK (gz L)) (L.length-1)):=by
  rw [tE,ayB (by omega),<-aA4,hs];rfl
 rw [a',a0,cW,<-aG]
 exact Jc _ _ (axx _)
theorem W2(s:ByteArray)(i:Nat):azQ .i64 (bo s i:Int)=((bo s i:Nat):Int):=by
 have:=u5 s i
 exact cj (by omega) (by omega)
theorem aoG{base:Nat}{fj:bl}{K:Option Addr->Nat->Nat->Bool->U->Prop}(aw:Own encS 111 base H a 1 c [fj])(o8:base<=H.size)(jM:pg=N)(fl:2<=N/\N<=5000)(hs:s.size<=100000000000)
  (oy:0<=fj.1/\fj.1<1099511627776) (aoH:eM fj.2)
  (cq:(∀L,eJ L->L.length=N->L[0]?=some fj->bd s≠jI L)->∀H',Fr (an a) H H'->K none 0 0 false H')
  (eV:∀aV bg l b H',Own encS 111 base H' aV N bg l->(∀x∈l,eM x.2)->Fr (an a) H H'->(∀L,eJ L->L.length=N->L[0]?=some fj->bd s=jI L->l=L/\b=true)->K aV N bg b H'):
  aK aoI [J a 1 c,o pg,aj s] H λv H'=>∃a n c b,v=.tuple ⟨[.slice a n c,.bool b]⟩/\K a n c b H':=by
 subst jM
 apply aoJ
 have hyp:∀L,eJ L->L.length=N->L[0]?=some fj->bd s=jI L->2<=s.size/\q8 (bo s 0) (bo s 1) (s.extract 2 s.size) N fj L:=λL h1 ab ar a7=>by
  have:=aoF (s:=s) (k:=0) h1 ab fl.1 ar a7
  simpa using this
 refine au (λh=>⟨_,_,_,_,rfl,cq (λL h1 ab ar a7=> ?_) H (Fr.refl _ _)⟩) (λh=> ?_)
 ·have:=(hyp L h1 ab ar a7).1
  simp at h;omega
 have ab:2<=s.size:=by simp at h;omega
 refine cM (bh (by omega)) (cM (bh (by omega)) (cM (bh (by omega)) ?_))
 rw [ayS,W2,W2]
 have dF:(s.extract 2 s.size).size<=s.size:=by rw [tF];omega
 generalize mh:s.extract 2 s.size=s2 at *
 generalize ev:bo s 0=A at *
 generalize bM:bo s 1=B at *
 refine am7 λr H1 aB dA f1=> ?_
 have dT:∀k∈an a,k<H.size:=λk hk=>(aw.ge k hk).2
 refine⟨λae H'=>match ae with|[.slice p m d,.int _ da]=>∃(l:List bl) (q:Nat),m=l.length/\Cy A B N s2 fj r base H' p m d l da q/\Fr (an a) H H'/\Grow H (an a) (an p)|_=>False,λae _=>match ae with|[.slice _ m _,_]=>N-m|_=>0,
  ⟨[fj],0,rfl,⟨aw.ag f1,dA,λhk=>by have:=dT r hk;omega,by simp;omega,by omega,by omega,?_,λx aa=>by simp at aa;subst aa;exact aoH,λL bZ=>⟨?_,rfl,rfl⟩⟩,f1.mono (by simp),Grow.refl _ _⟩,?_⟩
 ·have:dX [fj] ([fj].length-1)=fj.1:=rfl
  rw [this];exact oy
 ·have:=bZ.fst
  cases L with
  |nil=>simp at this
  |cons y L=>simp at this;subst this;simp
 rintro br p m d da ao ⟨l,q,rfl,bB,f2,g2⟩
 have aG:=bB.len
 have Ao:(∀L,q8 A B s2 N fj L->False)->∀H',Fr (an a) H H'->K none 0 0 false H':=λh H' ai=>cq (λL h1 gF ar a7=>h L (hyp L h1 gF ar a7).2) H' ai
 refine au (λbQ=> ?_) (λeZ=> ?_)
 ·have bQ:l.length<N:=by simp at bQ;omega
  have awV:H.size<=r:=aB
  have W3:∀{X Y:U},Fr (an a) H X->Fr [r] X Y->Fr (an a) H Y:=λh1 ab=>h1.trans' ab (λk hk _=>hk) λk hk aoK=>by simp at hk;omega
  refine W0 bB.rd rfl bB.dC (by omega) λcD aL eY aP sK jE fm f3=> ?_
  refine W0 fm rfl jE (by omega) λcz a' fR a8 yC lA gm f4=> ?_
  have aoL:=W3 (W3 f2 f3) f4
  have aoM:Fr [r] ao a8:=f3.trans' f4 (λk hk _=>hk) λk hk _=>hk
  obtain⟨v1,rfl,Ow⟩:=sK.nat
  obtain⟨v2,rfl,zZ⟩:=yC.nat
  have W4:=bB.own.af aoM (lB λk e7 hm=>by simp at hm;subst hm;exact bB.cA e7)
  have aoN:azQ .i64 (((l.length:Nat):Int)-1)=((l.length-1:Nat):Int):=uQ (by omega) (by omega)
  rw [aoN]
  refine W4.idx rfl (aoD aG.1) (bh (by omega)) λaC b4 av=>⟨_,_,hL av,?_⟩
  refine iS (by kernel_rfl) (by kernel_rfl) N5 (by rfl) λvb bA jV qj hU=> ?_
  have f5:=aoL.trans' hU (T:=an a) (λk hk _=>hk) (by simp)
  refine Jp Ow ⟨λ_ H'=>H'=bA/\fE v1<=1099511627776/\ -1099511627776<=fE v1,?_,?_⟩
  ·have nx:=λL (bZ:q8 A B s2 N fj L)=>bZ.next (j:=l.length-1) (by have:=bZ.len;omega) (bB.cmp L bZ).2.1 sK yC
   have q4:=λL (bZ:q8 A B s2 N fj L)=>bZ.xa aG.1 bQ (bB.cmp L bZ).1 (bB.cmp L bZ).2.2
   refine au (λh=>⟨_,_,_,_,rfl,Ao (λL bZ=> ?_) _ f5⟩) λh=>au (λh=>⟨_,_,_,_,rfl,Ao (λL bZ=> ?_) _ f5⟩) λh=>au (λh=>⟨_,_,_,_,rfl,Ao (λL bZ=> ?_) _ f5⟩) λar=>au (λh=>⟨_,_,_,_,rfl,Ao (λL bZ=> ?_) _ f5⟩) λa7=>⟨rfl,?_,?_⟩
   ·have:=(nx L bZ).1;simp at h;omega
   ·have:=(nx L bZ).2.1;simp at h;omega
   ·have e:=(nx L bZ).2.2.1
    have:=q4 L bZ
    have b8:v1=gn L (l.length-1):=by omega
    rw [<-b8]at this
    simp at h;omega
   ·have e:=(nx L bZ).2.2.1
    have:=q4 L bZ
    have b8:v1=gn L (l.length-1):=by omega
    rw [<-b8]at this
    simp at h;omega
   ·simp at ar;omega
   ·simp at a7;omega
  ·rintro lp ct ⟨rfl,p9,rY⟩
   have lf:=bB.db
   have I9:azQ .i64 (da+fE v1)=da+fE v1:=cj (by omega) (by omega)
   rw [I9]
   have awW:=bB.last
   have nx:=λL (bZ:q8 A B s2 N fj L)=>bZ.next (j:=l.length-1) (by have:=bZ.len;omega) (bB.cmp L bZ).2.1 sK yC
   have q4:=λL (bZ:q8 A B s2 N fj L)=>bZ.xa aG.1 bQ (bB.cmp L bZ).1 (bB.cmp L bZ).2.2
   refine⟨λae H'=>ae=[.int .i64 (da+fE v1)]/\H'=ct/\1<=da+fE v1/\da+fE v1<=1099511627776/\dX l (l.length-1)+(da+fE v1)<1099511627776,?_,?_⟩
   ·refine au (λh=>⟨_,_,_,_,rfl,Ao (λL bZ=> ?_) _ f5⟩) λh1=>au (λh=>⟨_,_,_,_,rfl,Ao (λL bZ=> ?_) _ f5⟩) λab=>⟨_,qj.bY rfl,?_⟩
    ·have e:=(nx L bZ).2.2.1
     have:=q4 L bZ
     have b8:v1=gn L (l.length-1):=by omega
     rw [<-b8]at this
     simp at h;omega
    ·have e:=(nx L bZ).2.2.1
     have:=q4 L bZ
     have b8:v1=gn L (l.length-1):=by omega
     rw [<-b8]at this
     simp at h;omega
    ·have h1:=of_decide_eq_false h1
     have ab:=of_decide_eq_false ab
     have mO:azQ .i64 (dX l (l.length-1)+(da+fE v1))=dX l (l.length-1)+(da+fE v1):=cj (by omega) (by omega)
     simp only
     rw [mO]
     refine au (λh=>⟨_,_,_,_,rfl,Ao (λL bZ=> ?_) _ f5⟩) λar=>⟨trivial,trivial,by omega,by omega,by simp at ar;omega⟩
     have e:=(nx L bZ).2.2.1
     have:=q4 L bZ
     have b8:v1=gn L (l.length-1):=by omega
     rw [<-b8]at this
     simp at h;omega
   ·rintro q9 fL dx ⟨e,rfl,rp,rS,cd⟩
    simp only [List.cons.injEq,Value.int.injEq,true_and,and_true]at e
    subst e
    refine⟨_,qj.bY rfl,_,qj.cF 1 rfl,?_⟩
    refine Jp zZ ⟨qj.cF 1 rfl,qj.bY rfl,?_⟩
    have mO:azQ .i64 (dX l (l.length-1)+(da+fE v1))=dX l (l.length-1)+(da+fE v1):=cj (by omega) (by omega)
    simp only
    rw [mO]
    intro rE cN fC
    have TE:=f5.size
    have afo:=fC.size
    refine ic qT wD ((W4.ag hU).ag fC.af) (fy encS (dX l (l.length-1)+(da+fE v1),IntKind.i64.wrap (iq l (l.length-1)+fE v2)) fC rfl) (by omega) (by omega) λp' m' d' hj L0 f10 g10=> ?_
    have fv:=L0.1
    have mR:r<dx.size:=ayQ gm.lt hU.size
    have aoO:r∉an p':=λhk=>(g10 r hk).elim bB.cA λh=>by omega
    have W1:=bB.more bQ sK yC rfl rfl zZ lA ⟨rp,rS⟩ cd L0 (((gm.ag hU).ag fC.af).af f10 bB.cA) aoO
    refine⟨⟨_,fR,fv,W1,(f5.trans' fC.af (λk hk _=>hk) (by simp)).trans' f10 (λk hk _=>hk) λk hk aoK=>(g2 k hk).elim id λh=>by omega,λk hk=>(g10 k hk).elim (λh=>g2 k h) λh=>.inr (by omega)⟩,?_⟩
    ·show N-m'<N-l.length
     rw [fv,ax6];simp;omega
 ·have tK:l.length=N:=by simp at eZ;omega
  refine am' bB.rd bB.dC (by omega) (λcP=>⟨_,_,_,_,rfl,?_⟩) (λh1 gF=>⟨_,_,_,_,rfl,?_⟩)
  ·rw [tK]
   refine eV _ _ l _ _ (by have:=bB.own;rw [tK]at this;exact this) bB.v f2 λL h1 gF ar a7=> ?_
   have:=bB.all tK (hyp L h1 gF ar a7).2
   exact absurd ⟨this.2.1,this.2.2⟩ cP
  ·rw [tK]
   refine eV _ _ l _ _ (by have:=bB.own;rw [tK]at this;exact this) bB.v f2 λL h1 aoP ar a7=> ?_
   exact⟨(bB.all tK (hyp L h1 aoP ar a7).2).1,rfl⟩
theorem _root_.Go.Proofs.nu.ok{r:List UInt8}{a:Nat}{next:Int}(h:nu r a v next e)(he:e=0):∃m:Nat,v=m/\m<18446744073709551616/\r=cn m++r.drop (cn m).length/\(cn m).length<=r.length/\next=((a+(cn m).length:Nat):Int):=by
 rcases h with⟨m,h1,ab,ar,a7,bs,_⟩|⟨_,_,h,_⟩|⟨_,_,h,_⟩
 ·exact⟨m,h1,ab,ar,a7,bs⟩
 ·omega
 ·omega
theorem _root_.Go.Proofs.nu.bad{r t:List UInt8}{a:Nat}{next:Int}(h:nu r a v next e)(he:¬e=0)(ay:n<18446744073709551616)(aB:r=cn n++t):False:=he (h.of ay aB).2.2
theorem aoQ{L:List bl}(h:L≠[]):lK L=cn (dX L 0).toNat++mG (iq L 0):=by
 cases L with
 |nil=>exact absurd rfl h
 |cons x l=>rfl
theorem Cz{x y:List UInt8}{l:List UInt8}(h:l.drop k=x++y):l.drop (k+x.length)=y:=by rw [<-aA4,h];simp
theorem aoR{L:List bl}(h:L.length=0):L=[]/\ft L=cn 0:=by
 have e:L=[]:=ayT h
 subst e
 exact⟨rfl,by simp [ft,lK,jI]⟩
theorem aoS{L:List bl}{n:Int}(b9:eJ L)(hs:bd s=ft L)(h:nu ((bd s).drop 0) 0 v n e):v=L.length/\e=0/\n=((cn L.length).length:Nat)/\(bd s).drop (cn L.length).length=lK L++jI L:=by
 have aB:(bd s).drop 0=cn L.length++(lK L++jI L):=by rw [aA8,hs];rfl
 obtain⟨h1,ab,ar⟩:=h.of (by have:=b9.len;omega) aB
 refine⟨h1,ar,by rw [ab,axJ],?_⟩
 have:=Cz aB
 rwa [axJ]at this
theorem sized{t:ByteArray}(h:s=t):(!s.toList==t.toList)=false:=by subst h;simp
theorem W5{t:ByteArray}(h:s≠t):(!s.toList==t.toList)=true:=by rw [yV];simp [h]
theorem aoT{K:Option Addr->Nat->Nat->Int->U->Prop}(hs:s.size<=100000000000)
  (cq:(∀L,eJ L->bd s≠ft L)->∀H',Fr [] H H'->K none 0 0 11 H')
  (eV:∀L a n c H',eJ L->bd s=ft L->Own encS 111 H.size H' a n c L->Fr [] H H'->K a n c 0 H'):
  aK aoU [aj s] H λv H'=>∃a n c e,v=.tuple ⟨[.slice a n c,.int .i64 e]⟩/\K a n c e H':=by
 apply aoV
 have eo:=dR s
 refine zR hs (λh=>(h ⟨by omega,by omega⟩).elim) λa0 ea0 ha0 v cD aL sb=> ?_
 have:a0=0:=by omega
 subst this
 have hi:=λL (b9:eJ L) (bZ:bd s=ft L)=>aoS b9 bZ sb
 refine⟨λ_ H'=>H'=H/\aL=0/\1<=v/\v<=5000,⟨λae H'=>match ae with|[.bool b]=>H'=H/\(b=true->(∀L,eJ L->bd s≠ft L))/\(b=false->aL=0/\v<=5000/\(v=0->(s.size:Int)<=cD))|_=>False,?_,?_⟩,?_⟩
 ·refine au (λh=>⟨rfl,λ_ L b9 bZ=> ?_,λh=>by cases h⟩) λh1=>au (λh=>⟨rfl,λ_ L b9 bZ=> ?_,λh=>by cases h⟩) λab=>au (λh=>⟨rfl,λa7 L b9 bZ=> ?_,λa7=> ?_⟩) λar=>⟨rfl,(λh=>by cases h),λ_=> ?_⟩
  ·have:=(hi L b9 bZ).2.1;simp at h;omega
  ·have:=(hi L b9 bZ).1;have:=b9.len;simp at h;omega
  ·have bs:=of_decide_eq_true a7
   obtain⟨ca,b0,cY,eP⟩:=hi L b9 bZ
   have aE:L.length=0:=by simp at h;omega
   have:=congrArg aBc bZ
   rw [(aoR aE).2,eo]at this
   rw [aE]at cY
   omega
  ·have bs:=of_decide_eq_false a7
   simp at h1 ab h
   exact⟨h1,by omega,λ_=>by omega⟩
  ·simp at h1 ab ar
   exact⟨h1,by omega,λh=>absurd h ar⟩
 ·rintro br b H1 ⟨rfl,dA,cO⟩
  refine au (λh=>⟨_,_,_,_,rfl,cq (dA h) _ (Fr.refl _ _)⟩) λh=> ?_
  obtain⟨he,W6,aE⟩:=cO h
  obtain⟨m,rfl,hm,aB,mR,ay⟩:=sb.ok he
  refine au (λaF=>⟨_,_,_,_,rfl,?_⟩) λaF=>⟨rfl,he,by simp at aF;omega,W6⟩
  have aF:m=0:=by simp at aF;omega
  subst aF
  have aE:=aE rfl
  rw [aA8]at aB mR
  have aR:(bd s).drop (cn 0).length=[]:=az2 (by omega)
  rw [aR,azh]at aB
  exact eV [] _ _ _ _ ⟨by simp,gJ.nil,by simp,by simp⟩ (by rw [aB];simp [ft,lK,jI]) (Own.nil ..) (Fr.refl _ _)
 ·rintro br H1 ⟨rfl,rfl,Ow,W6⟩
  obtain⟨N,rfl,hm,aB,mR,rfl⟩:=sb.ok rfl
  rw [aA8]at aB mR
  rw [axJ]at *
  generalize Ox:(cn N).length=cW at *
  have Ct:∀L,eJ L->bd s=ft L->L.length=N/\L≠[]/\(bd s).drop cW=cn (dX L 0).toNat++(mG (iq L 0)++jI L)/\L[0]?=some (dX L 0,iq L 0)/\(0<=dX L 0/\dX L 0<1099511627776)/\eM (iq L 0):=λL b9 bZ=>by
   obtain⟨ca,b0,cY,eP⟩:=hi L b9 bZ
   have tK:L.length=N:=by omega
   have cP:L≠[]:=by intro e;rw [e]at tK;simp at tK;omega
   rw [tK,Ox,aoQ cP,ax7]at eP
   exact⟨tK,cP,eP,vk (by omega),b9.at (by omega)⟩
  refine zR hs (λh=>(h ⟨by omega,by omega⟩).elim) λaV ea' ha' T cz a' hG2=> ?_
  have:aV=cW:=by omega
  subst this
  refine⟨λ_ H'=>H'=H1/\a'=0/\T<1099511627776,?_,?_⟩
  ·refine au (λh=>⟨_,_,_,_,rfl,cq (λL b9 bZ=> ?_) _ (Fr.refl _ _)⟩) λh=>au (λh=>⟨_,_,_,_,rfl,cq (λL b9 bZ=> ?_) _ (Fr.refl _ _)⟩) λab=>⟨rfl,by simpa using h,by simp at ab;omega⟩
   ·obtain⟨ca,b0,cY,eP,iw,hr⟩:=Ct L b9 bZ
    exact hG2.bad (by simpa using h) (by omega) cY
   ·obtain⟨ca,b0,cY,eP,iw,hr⟩:=Ct L b9 bZ
    have:=(hG2.of (by omega) cY).1
    simp at h;omega
  ·rintro br ao ⟨rfl,rfl,cd⟩
   obtain⟨t,rfl,aW,gC,aoW,rfl⟩:=hG2.ok rfl
   rw [ayY,eo]at aoW
   generalize Oy:aV+(cn t).length=a2 at *
   have Ie:∀L,eJ L->bd s=ft L->dX L 0=t/\(bd s).drop a2=cn (qn (iq L 0))++jI L:=λL b9 bZ=>by
    obtain⟨ca,b0,cY,eP,iw,hr⟩:=Ct L b9 bZ
    have h1:=(hG2.of (by omega) cY).1
    have e:(dX L 0).toNat=t:=by omega
    refine⟨by omega,?_⟩
    have:=Cz cY
    rw [e,Oy]at this
    exact this
   refine aoX hs (λh=>(h ⟨by omega,by omega⟩).elim) λnk ea'' ha'' w ij cX Cl hw=> ?_
   have:nk=a2:=by omega
   subst this
   refine au (λh=>⟨_,_,_,_,rfl,cq (λL b9 bZ=> ?_) _ (Fr.refl _ _)⟩) λh b aP bw=> ?_
   ·exact Cl.bad (by simpa using h) (tB (Ct L b9 bZ).2.2.2.2.2) (Ie L b9 bZ).2
   ·have aoY:cX=0:=by simpa using h
    obtain⟨w',ku,mE,KH,aoZ,rfl⟩:=Cl.ok aoY
    have:w'=w:=by omega
    subst this
    rw [ayY,eo]at aoZ
    generalize ao0:nk+(cn w').length=a3 at *
    have FD:∀L,eJ L->bd s=ft L->L.length=N/\L[0]?=some ((t:Int),fE w')/\(bd s).drop a3=jI L:=λL b9 bZ=>by
     obtain⟨ca,b0,cY,eP,iw,hr⟩:=Ct L b9 bZ
     obtain⟨Cu,Oz⟩:=Ie L b9 bZ
     have h1:=(Cl.of (tB hr) Oz).1
     have e:qn (iq L 0)=w':=by omega
     refine⟨ca,?_,?_⟩
     ·rw [eP,Cu,<-e,Cd]
     ·have:=Cz Oz
      rwa [e,ao0]at this
    have ao1:azQ .i64 ((t:Nat):Int)=t:=cj (by omega) (by omega)
    rw [ao1]at bw
    have ao2:azQ .i64 ((N:Nat):Int)=N:=cj (by omega) (by omega)
    have W7:Own encS 111 ao.size aP (some ⟨b,0,none⟩) 1 1 [((t:Int),fE w')]:=by
     refine⟨rfl,.inr ⟨b,_,rfl,by rw [bw.eq];exact axx _,bw.get,axx _,by decide,rfl,rfl⟩⟩
    have NY:=aki mE
    have ao3:s≠⟨#[]⟩:=by
     intro e
     have:s.size=0:=by rw [e];rfl
     have:=OA N
     omega
    have fin:∀(a:Option Addr) (n c:Nat) (l:List bl) (a8:U),n=N->Own encS 111 ao.size a8 a n c l->(∀x∈l,eM x.2)->Fr [] ao a8->(∀L,eJ L->bd s=ft L->l=L)→
      aK 232 [J a n c] a8 λv H'=>∃nQ Ir,v=.tuple ⟨[.string nQ,.int .i64 Ir]⟩/\aU (!azL nQ==azL s) (∃a n c e,aA7 ⟨[.slice none 0 0,.int .i64 11]⟩=.tuple ⟨[.slice a n c,.int .i64 e]⟩/\K a n c e H') (∃ie iT hg e,aA7 ⟨[.slice a n c,.int .i64 0]⟩=.tuple ⟨[.slice ie iT hg,.int .i64 e]⟩/\K ie iT hg e H'):=by
     intro a n c l a8 awX aw aI ai Ap
     have aG:=aw.1
     have bad:¬eJ l->∀H',Fr [] ao H'->aU (!azL (⟨#[]⟩:ByteArray)==azL s) (∃a n c e,aA7 ⟨[.slice none 0 0,.int .i64 11]⟩=.tuple ⟨[.slice a n c,.int .i64 e]⟩/\K a n c e H') (∃ie iT hg e,aA7 ⟨[.slice a n c,.int .i64 0]⟩=.tuple ⟨[.slice ie iT hg,.int .i64 e]⟩/\K ie iT hg e H'):=λFE H' eE=>by
      rw [W5 (λe=>ao3 e.symm)]
      refine⟨_,_,_,_,rfl,cq (λL b9 bZ=>FE ?_) _ eE⟩
      rw [Ap L b9 bZ];exact b9
     refine A3 aw.bT aI (by omega) (λh=>by omega) (λ_ FE H' eE=>bad FE H' (ai.aT eE)) λb9 H' eE=> ?_
     by_cases e:s=⟨(ft l).toArray⟩
     ·rw [sized e.symm]
      exact⟨_,_,_,_,rfl,eV l _ _ _ _ b9 (by rw [e]) (aw.ag eE) (ai.aT eE)⟩
     ·rw [W5 (λh=>e h.symm)]
      refine⟨_,_,_,_,rfl,cq (λL Aq bZ=>e ?_) _ (ai.aT eE)⟩
      rw [Ap L Aq bZ]
      exact iV bZ
    refine au (λh1=> ?_) (λh1=> ?_)
    ·have ab:2<=N:=by simp at h1;omega
     refine cM (bh ⟨by omega,by omega,by omega⟩) ?_
     rw [ao2,ayS,ayS]
     have xQ:bd (s.extract a3 s.size)=(bd s).drop a3:=by rw [tE,ayB (by omega)]
     have awY:(s.extract a3 s.size).size<=s.size:=by rw [tF];omega
     refine aoG W7 bw.af.size rfl ⟨ab,by omega⟩ (by omega) ⟨by simp only;omega,cd⟩ NY (λay a8 f4=>au (λ_=>⟨_,_,_,_,rfl,cq (λL b9 bZ=> ?_) _ ?_⟩) λh=>by cases h) λaV bg l iR a8 aw aI f4 Ap=> ?_
     ·obtain⟨ca,b0,cY⟩:=FD L b9 bZ
      exact ay L b9 ca b0 (by rw [xQ];exact cY)
     ·exact bw.af.ag f4 λk hk=>by simp [an]at hk;have:=bw.eq;omega
     ·have cm:Fr [] ao a8:=bw.af.ag f4 λk hk=>by simp [an]at hk;have:=bw.eq;omega
      refine au (λal=>⟨_,_,_,_,rfl,cq (λL b9 bZ=> ?_) _ cm⟩) λal=> ?_
      ·obtain⟨ca,b0,cY⟩:=FD L b9 bZ
       have:=(Ap L b9 ca b0 (by rw [xQ];exact cY)).2
       rw [this]at al;cases al
      ·exact fin _ _ _ l a8 rfl aw aI cm λL b9 bZ=>by
        obtain⟨ca,b0,cY⟩:=FD L b9 bZ
        exact(Ap L b9 ca b0 (by rw [xQ];exact cY)).1
    ·have ao4:N=1:=by simp at h1;omega
     subst ao4
     refine au (λh=>⟨_,_,_,_,rfl,cq (λL b9 bZ=> ?_) _ bw.af⟩) λh=> ?_
     ·obtain⟨ca,b0,cY⟩:=FD L b9 bZ
      have:jI L=[]:=by unfold jI;rw [if_pos (by omega)]
      rw [this]at cY
      have:=congrArg aBc cY
      rw [ayY,eo]at this
      simp at h this;omega
     ·exact fin _ _ _ _ _ rfl W7 (λx aa=>by simp at aa;subst aa;exact NY) bw.af λL b9 bZ=>by
       obtain⟨ca,b0,cY⟩:=FD L b9 bZ
       cases L with
       |nil=>simp at ca
       |cons x L=>simp at b0 ca;subst ca;rw [b0]
theorem _root_.Go.Proofs.nu.pos{a:Nat}{n:Int}(h:nu ((bd s).drop a) a v n e)(bW:a<=s.size):∃aV m:Nat,n=aV/\aV<=s.size/\v=m/\m<18446744073709551616:=by
 have eo:=dR s
 rcases h with⟨m,h1,ab,ar,a7,bs,_⟩|⟨h1,ab,_⟩|⟨h1,ab,_⟩
 ·rw [ayY,eo]at a7
  exact⟨a+(cn m).length,m,bs,by omega,h1,ab⟩
 ·exact⟨0,0,ab,by omega,h1,by decide⟩
 ·exact⟨0,0,ab,by omega,h1,by decide⟩
theorem _root_.Go.Proofs.nu.step{a m:Nat}{n:Int}{t:List UInt8}(h:nu ((bd s).drop a) a v n e)(hm:m<18446744073709551616)(aB:(bd s).drop a=cn m++t):e=0/\v=m/\n=((a+(cn m).length:Nat):Int)/\(bd s).drop (a+(cn m).length)=t:=by
 obtain⟨h1,ab,ar⟩:=h.of hm aB
 exact⟨ar,h1,ab,Cz aB⟩
theorem apw{aC:Addr}{x:dr}(h:gu H aC (dP.cells x)):ah 3 H (aC.add 1) (.int .i64 x.2.1):=pC (by kernel_rfl) h (j:=1) rfl
theorem apy{aC:Addr}{x:dr}(h:gu H aC (dP.cells x)):ah 3 H (aC.add 2) (.int .i64 x.2.2):=pC (by kernel_rfl) h (j:=2) rfl
theorem Gt{x y z:Int}:∀v∈(ax8 ⟨[.int .i64 x,.int .i64 y,.int .i64 z]⟩).cells.toList,v.oneCell'=true:=λv h=>by
 simp [azI]at h;rcases h with rfl|rfl|rfl<;>rfl
structure hN(ss:List bF):Prop where
 right:cy ss
 dH:∀s∈ss,(0<=s.1/\s.1<200)/\eJ s.2
def oS(ss:List bF):List UInt8:=ss.flatMap λs=>cn s.1.toNat++cn (ft s.2).length
def k1(ss:List bF):List UInt8:=ss.flatMap λs=>ft s.2
def fs(ss:List bF):List UInt8:=cn ss.length++(oS ss++k1 ss)
theorem Xg{l:List Int}(aH:l.Pairwise (·<·)){a b:Int}(h:∀x∈l,a<=x/\x<b):l.length<=(b-a).toNat:=by
 induction l generalizing a with
 |nil=>simp
 |cons x l ih=>
  have h1:=h x (by simp)
  have:=ih (aAv.1 aH).2 (a:=x+1) λy aA=>⟨by have:=(aAv.1 aH).1 y aA;omega,(h y (by simp [aA])).2⟩
  rw [ayi];omega
theorem hN.len{ss:List bF}(h:hN ss):ss.length<=200:=by
 have:=Xg (l:=ss.map (·.1)) (a:=0) (b:=200) (by rw [az5];exact h.right.1) λx aa=>by
  obtain⟨s,hs,rfl⟩:=ayf.1 aa
  exact(h.dH s hs).1
 simpa using this
theorem apG(l:List bl):(jI l).length<=2+176*l.length:=by
 unfold jI
 split
 ·simp
 ·rw [ayi,ayi]
  have h1:=Jb (jn l (fK (gy l)) (fK (gz l)) (l.length-1))
  have ab:=Jm l (qv (gy l)) (qv (gz l)) (l.length-1)
  omega
theorem OB{l:List bl}(h:eJ l):(ft l).length<=1000000:=by
 unfold ft
 rw [ax6,ax6]
 have h1:=hD (n:=l.length) (by have:=h.len;omega)
 have ab:=WR h
 have ar:=apG l
 have:=h.len
 omega
theorem R7{ss:List bF}(h:∀s∈ss,eJ s.2):(k1 ss).length<=1000000*ss.length:=by
 induction ss with
 |nil=>simp [k1]
 |cons s ss ih=>
  unfold k1 at ih⊢
  rw [axO,ax6,ayi]
  have:=OB (h s (by simp))
  have:=ih λx aa=>h x (by simp [aa])
  omega
theorem R8{ss:List bF}(h:∀s∈ss,(0<=s.1/\s.1<200)/\eJ s.2):(oS ss).length<=20*ss.length:=by
 induction ss with
 |nil=>simp [oS]
 |cons s ss ih=>
  unfold oS at ih⊢
  rw [axO,ax6,ax6,ayi]
  have aF:=h s (by simp)
  have h1:=hD (n:=s.1.toNat) (by omega)
  have ab:=hD (n:=(ft s.2).length) (by have:=OB aF.2;omega)
  have:=ih λx aa=>h x (by simp [aa])
  omega
theorem apf(ss:List bF)(s:bF):oS (ss++[s])=oS ss++(cn s.1.toNat++cn (ft s.2).length):=by unfold oS;rw [azf];simp
theorem apg(ss:List bF)(s:bF):k1 (ss++[s])=k1 ss++ft s.2:=by unfold k1;rw [azf];simp
abbrev Z:=Nat×Nat
def lL(zs:List Z):List UInt8:=zs.flatMap λz=>cn z.1++cn z.2
def hB(zs:List Z):Nat:=(zs.map (·.2)).sum
structure mK(s:ByteArray)(zs:List Z):Prop where
 CB:zs.Pairwise λa b=>a.1<b.1
 dH:∀z∈zs,z.1<200
 s:∃r,bd s=cn zs.length++(lL zs++r)/\r.length=hB zs
theorem mK.len{zs:List Z}(h:mK s zs):zs.length<=200:=by
 have:=Xg (l:=zs.map λz=>(z.1:Int)) (a:=0) (b:=200) (by rw [az5];exact h.CB.imp λh=>by omega) λx aa=>by
  obtain⟨z,aE,rfl⟩:=ayf.1 aa
  have:=h.dH z aE
  omega
 simpa using this
theorem apk(zs:List Z)(z:Z):lL (zs++[z])=lL zs++(cn z.1++cn z.2):=by unfold lL;rw [azf];simp
theorem OF(z:Z)(zs:List Z):lL (z::zs)=cn z.1++(cn z.2++lL zs):=by unfold lL;rw [axO];simp
theorem apj(a b:List Z):lL (a++b)=lL a++lL b:=by unfold lL;rw [azf]
theorem OE(zs:List Z)(z:Z):hB (zs++[z])=hB zs+z.2:=by unfold hB;simp
theorem apH(a b:List Z):hB (a++b)=hB a+hB b:=by unfold hB;simp
theorem Xh:∀{a b:List Z} {x y:List UInt8},a.length=b.length->lL a++x=lL b++y->a=b/\x=y
 |[],[],_,_,_,h=>⟨rfl,h⟩
 |[],_::_,_,_,aG,_=>by simp at aG
 |_::_,[],_,_,aG,_=>by simp at aG
 |z::a,w::b,x,y,aG,h=>by
  rw [OF,OF]at h
  simp only [ax7]at h
  obtain⟨aL,h⟩:=tM h
  obtain⟨a',h⟩:=tM h
  obtain⟨cX,gQ⟩:=Xh (by simpa using aG) h
  exact⟨by rw [cX,Prod.ext aL a'],gQ⟩
theorem mK.uniq{zs gN:List Z}(h:mK s zs)(h':mK s gN):zs=gN:=by
 obtain⟨r,h1,_⟩:=h.s
 obtain⟨fS,ab,_⟩:=h'.s
 rw [h1]at ab
 obtain⟨aL,ab⟩:=tM ab
 exact(Xh aL ab).1
def hS(ss:List bF):List Z:=ss.map λs=>(s.1.toNat,(ft s.2).length)
theorem Xi(ss:List bF):lL (hS ss)=oS ss:=by
 unfold lL hS oS
 rw [List.flatMap_map]
theorem apI(ss:List bF):hB (hS ss)=(k1 ss).length:=by
 unfold hB hS k1
 rw [aBD,List.map_map];rfl
theorem hN.uy{ss:List bF}(h:hN ss)(hs:bd s=fs ss):mK s (hS ss):=by
 refine⟨?_,λz aE=> ?_,k1 ss,?_,(apI ss).symm⟩
 ·unfold hS
  rw [az5]
  refine List.Pairwise.imp_of_mem (λbW al bQ=> ?_) h.right.1
  have:=(h.dH _ bW).1
  have:=(h.dH _ al).1
  simp only
  omega
 ·unfold hS at aE
  obtain⟨x,aa,rfl⟩:=ayf.1 aE
  have:=(h.dH x aa).1
  simp only
  omega
 ·rw [hs,Xi]
  unfold fs
  rw [show(hS ss).length=ss.length by simp [hS]]
def mL(zs:List Z):Nat:=(cn zs.length).length+(lL zs).length
def fw(zs:List Z)(i:Nat):Nat:=hB (zs.take i)
theorem OG{zs:List Z}{z:Z}(h:zs[i]?=some z):fw zs (i+1)=fw zs i+z.2:=by
 unfold fw;rw [azP,h];exact OE _ _
theorem Js(zs:List Z)(i:Nat):fw zs i<=hB zs:=by
 have:=apH (zs.take i) (zs.drop i)
 rw [aAd]at this
 unfold fw;omega
theorem mK.size{zs:List Z}(h:mK s zs):mL zs+hB zs=s.size:=by
 obtain⟨r,h1,ab⟩:=h.s
 have:=congrArg aBc h1
 rw [dR,ax6,ax6]at this
 unfold mL;omega
theorem mK.drop{zs:List Z}(h:mK s zs):∃r,(bd s).drop (mL zs)=r/\r.length=hB zs/\bd s=cn zs.length++(lL zs++r):=by
 obtain⟨r,h1,ab⟩:=h.s
 refine⟨r,?_,ab,h1⟩
 have:=Cz (l:=bd s) (k:=0) (x:=cn zs.length) (y:=lL zs++r) (by rw [aA8];exact h1)
 have:=Cz this
 unfold mL
 rwa [axJ]at this
def yD(s:ByteArray)(zs:List Z)(i:Nat):ByteArray:=s.extract (mL zs+fw zs i) (mL zs+fw zs (i+1))
theorem apJ{zs:List Z}{z:Z}(h:zs[i]?=some z):bd (yD s zs i)=(((bd s).drop (mL zs)).drop (fw zs i)).take z.2:=by
 unfold yD
 rw [tE,OG h,List.drop_take,aA4,show mL zs+(fw zs i+z.2)-(mL zs+fw zs i)=z.2 by omega]
theorem Xj:∀{ss:List bF} {i:Nat} {x:bF},ss[i]?=some x->((k1 ss).drop (fw (hS ss) i)).take (ft x.2).length=ft x.2
 |[],_,_,h=>by simp at h
 |y::ss,0,x,h=>by
  simp at h;subst h
  unfold k1
  rw [axO]
  have:fw (hS (y::ss)) 0=0:=by simp [fw,hB]
  rw [this,aA8,List.take_left]
 |y::ss,i+1,x,h=>by
  have ih:=Xj (ss:=ss) (i:=i) (by simpa using h)
  have e:fw (hS (y::ss)) (i+1)=(ft y.2).length+fw (hS ss) i:=by simp [fw,hS,hB]
  have a':k1 (y::ss)=ft y.2++k1 ss:=by unfold k1;rw [axO]
  rw [e,a',<-aA4,List.drop_left]
  exact ih
theorem hN.piece{ss:List bF}(h:hN ss)(hs:bd s=fs ss){x:bF}(aa:ss[i]?=some x):bd (yD s (hS ss) i)=ft x.2:=by
 have aE:(hS ss)[i]?=some (x.1.toNat,(ft x.2).length):=by unfold hS;rw [ayp,aa];rfl
 rw [apJ aE]
 obtain⟨r,h1,ab,ar⟩:=(h.uy hs).drop
 have:r=k1 ss:=by
  rw [hs]at ar
  unfold fs at ar
  rw [Xi,show(hS ss).length=ss.length by simp [hS]]at ar
  exact(aBt (aBt ar)).symm
 rw [h1,this]
 exact Xj aa
theorem ao9{i:Int}:∀v∈(ax8 ⟨[.int .i64 i,.slice a n c]⟩).cells.toList,v.oneCell'=true:=λv h=>by
 simp [azI]at h;rcases h with rfl|rfl<;>rfl
theorem ao'{ss:List bF}(cp:cy ss)(h:∀(i:Nat) (x:bF),ss[i]?=some x->(0<=x.1/\x.1<200)/\eJ x.2):hN ss:=
 ⟨cp,λs hs=>by obtain⟨i,az⟩:=aAK.1 hs;exact h i s az⟩
theorem aaV{hs:List aS}{ss:List bF}{K:ByteArray->Int->U->Prop}(aa:bt dM H a n c hs)(h1:eG H hs ss)(cp:cy ss)(ay:n<=1000000)(eo:∀s∈ss,s.2.length<=1000000)(aI:∀s∈ss,∀x∈s.2,eM x.2)
  (o':¬hN ss->∀H',Fr [] H H'->K ⟨#[]⟩ 30 H') (e':hN ss->∀H',Fr [] H H'->K ⟨(fs ss).toArray⟩ 0 H'):
  aK apa [J a n c] H λv H'=>∃s e,v=.tuple ⟨[.string s,.int .i64 e]⟩/\K s e H':=by
 apply apb
 have hlen:=aa.len
 have pV:=h1.len
 intro b ao bK b1 aP bw
 rw [aoE (by omega)]
 refine qK (by omega) λa8 f4=> ?_
 have a':=bK.eq
 have cX:=bw.eq
 have s2:=bK.size
 have qA:=bw.size
 have Ig:=f4.size
 have awZ:=hD (n:=n) (by omega)
 refine sT (((mo.new bK).ag bw.af).ag f4) (by rw [fD];simp;omega) λbA mq bs f5 g5=> ?_
 rw [ayn,jW]at bs
 have f15:Fr [] H bA:=((bK.af.aT bw.af).aT f4).ag f5 λk hk=>by simp at hk;omega
 have dI:=((mo.new bw).ag f4).af f5 (by simp;omega)
 have jK:∀k∈mq,k=b\/a8.size<=k:=λk hk=>(g5 k hk).imp (λh=>by simpa using h) id
 refine⟨λae H'=>match ae with|[.int _ last,.int _ i]=>∃(j:Nat) (e0 S2:List Nat),i=j/\j<=n/\last=(if j=0 then -1 else(ss[j-1]?.getD (0,[])).1)/\(∀(i:Nat) (x:bF),i<j->ss[i]?=some x->(0<=x.1/\x.1<200)/\eJ x.2)/\jR H' b e0 (cn n++oS (ss.take j))/\jR H' b1 S2 (k1 (ss.take j))/\er e0 S2/\(∀k∈e0,H.size<=k)/\(∀k∈S2,H.size<=k)/\Fr [] H H'|_=>False,λae _=>match ae with|[_,.int _ i]=>n-i.toNat|_=>0,
  ⟨0,mq,[b1],rfl,by omega,rfl,(λ_ _ h=>by omega),by simpa [oS]using bs,by simpa [k1]using dI,(λk hk fA=>by simp at fA;subst fA;rcases jK _ hk with h|h<;>omega),(λk hk=>(jK k hk).elim (λh=>by omega) λh=>by omega),(λk hk=>by simp at hk;omega),f15⟩,?_⟩
 rintro br last i ct ⟨j,e0,S2,rfl,bq,rfl,CA,dA,cO,gd,pU,tH,f6⟩
 have pre:∀x∈ss.take j,(0<=x.1/\x.1<200)/\eJ x.2:=λx aa=>by
  obtain⟨i,az⟩:=aAK.1 aa
  rw [axN]at az
  split at az
  ·exact CA i x (by assumption) az
  ·cases az
 have FC:=R8 pre
 have W8:=R7 λx aa=>(pre x aa).2
 rw [ayj]at FC W8
 refine au (λbQ=> ?_) (λeZ=> ?_)
 ·have bQ:j<n:=by simp at bQ;omega
  obtain⟨m,hm⟩:=fM (l:=hs) (i:=j) (by omega)
  obtain⟨x,q2,aB⟩:=h1.get hm
  refine(aa.ag f6).get rfl hm (bh (by omega)) λaC b4 av=>⟨_,_,_,_,vU (by kernel_rfl) (by kernel_rfl) av,?_⟩
  refine iS (by kernel_rfl) (by kernel_rfl) ao9 (by rfl) λvb dx jV qj hU=>⟨_,_,_,qj.cF 1 rfl,?_⟩
  have f7:=f6.aT hU
  have k5:=eo x (azR q2)
  have sV:=aB.2.len
  have mod:hN ss->(0<=x.1/\x.1<200)/\eJ x.2:=λh=>h.dH x (azR q2)
  have fail:¬eJ x.2->∀H' e,Fr [] dx H'->e≠0->∃(M:bx),aU (e !=0) (∃s dp,aA7 ⟨[.string {data:= #[]},.int .i64 30]⟩=.tuple ⟨[.string s,.int .i64 dp]⟩/\K s dp H') (M [] H')/\∀H',¬M [] H':=λcq H' e ai he=>
   ⟨λ_ _=>False,au (λ_=>⟨_,_,rfl,o' (λh=>cq (mod h).2) _ (f7.aT ai)⟩) (λh=>by simp at h;exact he h),λ_ h=>h⟩
  refine A3 (aB.2.ag f7) (aI x (azR q2)) (by omega) (λWT=> ?_) (λ_ FE eQ f8=> ?_) λb9 eQ f8=> ?_
  ·refine⟨λ_ _=>False,au (λ_=>⟨_,_,rfl,o' (λh=> ?_) _ f7⟩) (λh=>by simp at h),λ_ _ h=>h.elim⟩
   have:=(mod h).2.len
   omega
  ·exact⟨λ_ _=>False,au (λ_=>⟨_,_,rfl,o' (λh=>FE (mod h).2) _ (f7.aT f8)⟩) (λh=>by simp at h),λ_ _ h=>h.elim⟩
  ·have f78:=f7.aT f8
   have FF:=qj.ag f8
   refine⟨λ_ H'=>H'=eQ/\(0<=x.1/\x.1<200),au (λh=>by simp at h) λ_=>⟨_,_,_,FF.cF 1 rfl,au (λh=> ?_) λaF=>⟨_,FF.bY rfl,au (λh=>⟨_,_,rfl,o' (λcV=> ?_) _ f78⟩) λab=>⟨_,FF.bY rfl,au (λh=>⟨_,_,rfl,o' (λcV=> ?_) _ f78⟩) λar=>⟨rfl,?_⟩⟩⟩⟩,?_⟩
   ·exfalso
    have h:x.2=[]:=ayT (by simp at h;omega)
    exact(cp.2 x (azR q2)).1 h
   ·have h:=of_decide_eq_true h
    have:=(mod cV).1
    split at h
    ·have:=aB.1;omega
    ·have aA:=ayA (l:=ss) (i:=j-1) (by omega)
     rw [aA,aAn]at h
     obtain⟨HD,ex⟩:=axC.1 q2
     have bQ:=aAD.1 cp.1 (j-1) j (by omega) HD (by omega)
     rw [ex]at bQ
     have:=aB.1
     omega
   ·have:=(mod cV).1
    have:=aB.1
    simp at h;omega
   ·have ab:=of_decide_eq_false ab
    have ar:=of_decide_eq_false ar
    have:=aB.1
    split at ab
    ·omega
    ·have aA:=ayA (l:=ss) (i:=j-1) (by omega)
     rw [aA,aAn]at ab
     have:=(CA (j-1) _ (by omega) aA).1
     omega
   ·rintro ek cN ⟨rfl,hid⟩
    refine⟨_,FF.bY rfl,_,FF.bY rfl,?_⟩
    have em:=aB.1
    rw [em,apc hid.1 (by omega)]
    refine qK (by omega) λhj f10=> ?_
    have WZ:=OB b9
    rw [fD,hd (n:=(ft x.2).length) (by omega)]
    refine qK (by omega) λjO f11=> ?_
    have ht:=hD (n:=x.1.toNat) (by omega)
    have z2:=hD (n:=(ft x.2).length) (by omega)
    refine cM (bh (by rw [fD,fD];omega)) ?_
    rw [Am]
    have Jq:Fr [] ct jO:=((hU.aT f8).aT f10).aT f11
    refine sT (dA.ag Jq) (by rw [fD,ax6,ax6];omega) λmj OC xu f12 g12=> ?_
    have i1:=(G0 dA).2
    have i2:=(G0 cO).2
    have aw0:=Jq.size
    refine sT ((cO.ag Jq).af f12 λk hk fA=>gd k fA hk) (by rw [fD];omega) λrD apd CT f13 g13=> ?_
    rw [jW]at xu CT
    have ape:=f12.size
    have i12:=(G0 xu).2
    have uZ:ss.take (j+1)=ss.take j++[x]:=by rw [azP,q2];rfl
    have W9:∀k∈OC,k∈e0\/jO.size<=k:=g12
    have Xa:er OC S2:=λk hk fA=>(W9 k hk).elim (λh=>gd k h fA) λh=>by have:=i2 k fA;omega
    rw [cE (by omega)]
    have lX:n-((j+1:Nat):Int).toNat<n-((j:Nat):Int).toNat:=by omega
    have HY:=f6.size
    refine⟨⟨j+1,OC,apd,rfl,by omega,by rw [if_neg (by omega),Nat.add_sub_cancel,q2];rfl,λi y az aA=> ?_,?_,?_,λk hk fA=> ?_,λk hk=>(W9 k hk).elim (pU k) λh=>by omega,λk hk=>(g13 k hk).elim (tH k) λh=>by omega,((f6.aT Jq).ag f12 pU).ag f13 tH⟩,lX⟩
    ·by_cases e:i=j
     ·subst e
      rw [q2]at aA
      cases aA
      exact⟨hid,b9⟩
     ·exact CA i y (by omega) aA
    ·rw [uZ,apf,<-ax7]
     exact xu.af f13 λk hk fA=>Xa k hk fA
    ·rw [uZ,apg];exact CT
    ·rcases g13 k fA with h|h
     ·exact Xa k hk h
     ·have:=i12 k hk;omega
 ·have zO:j=n:=by simp at eZ;omega
  subst zO
  have cV:hN ss:=ao' cp λi x aa=>CA i x (by have:=(axC.1 aa).1;omega) aa
  rw [ayB (by omega)]at dA cO
  refine xD dA (by rw [ax6];rw [ayB (by omega)]at FC;omega) λdx f7=> ?_
  rw [ayB (by omega)]at FC W8
  refine xD (cO.af f7 λk hk fA=>gd k fA hk) (by omega) λeQ f8=> ?_
  refine cM (bh (by rw [fD,fD,ax6];omega)) ⟨_,_,rfl,?_⟩
  rw [Am,ax7,<-(show fs ss=cn j++(oS ss++k1 ss) by unfold fs;rw [hlen,pV])]
  exact e' cV _ ((f6.ag f7 pU).ag f8 tH)
def ed(zs:List Z)(i:Nat):dr:=(((zs[i]?.getD (0,0)).1:Nat),(fw zs i:Nat),(fw zs (i+1):Nat))
def ny(zs:List Z)(p k:Nat):List dr:=(ayD zs.length).map λi=>if i<k then(((zs[i]?.getD (0,0)).1:Int),((p+fw zs i:Nat):Int),((p+fw zs (i+1):Nat):Int))else ed zs i
theorem zg(zs:List Z)(p k:Nat):(ny zs p k).length=zs.length:=by simp [ny]
theorem Jr{zs:List Z}(h:i<zs.length):(ny zs p k)[i]?=some (if i<k then(((zs[i]?.getD (0,0)).1:Int),((p+fw zs i:Nat):Int),((p+fw zs (i+1):Nat):Int))else ed zs i):=by
 unfold ny;rw [ayp,aBa h];rfl
theorem aph{zs:List Z}(h:k<zs.length):ny zs p (k+1)=(ny zs p k).set k (((zs[k]?.getD (0,0)).1:Int),((p+fw zs k:Nat):Int),((p+fw zs (k+1):Nat):Int)):=by
 refine ayK λi=> ?_
 rw [List.getElem?_set,zg]
 by_cases az:i<zs.length
 ·rw [Jr az]
  by_cases e:k=i
  ·subst e
   rw [if_pos (by omega),if_pos rfl,if_pos h]
  ·rw [if_neg e,Jr az]
   by_cases ab:i<k
   ·rw [if_pos (by omega),if_pos ab]
   ·rw [if_neg (by omega),if_neg ab]
 ·rw [if_neg (by omega),ayL (by rw [zg];omega),ayL (by rw [zg];omega)]
theorem OD{zs:List Z}{z:Z}(h:i<=zs.length):fw (zs++[z]) i=fw zs i:=by
 unfold fw;rw [aBe h]
theorem api(zs:List Z)(z:Z)(p:Nat):ny (zs++[z]) p 0=ny zs p 0++[((z.1:Int),(hB zs:Int),((hB zs+z.2:Nat):Int))]:=by
 unfold ny
 rw [ax6,ayi,azs,axJ,aBB,azj]
 congr 1
 ·refine aBi λi az=> ?_
  have az:=aBo.1 az
  simp only [Nat.not_lt_zero,if_false]
  unfold ed
  rw [OD (by omega),OD (by omega),List.getElem?_append_left az]
 ·simp only [axE,List.map_nil,Nat.not_lt_zero,if_false]
  unfold ed
  rw [OD (axx _)]
  have aL:fw zs zs.length=hB zs:=by unfold fw;rw [ayX]
  have a':fw (zs++[z]) (zs.length+1)=hB zs+z.2:=by
   unfold fw;rw [ayB (by simp)];exact OE _ _
  rw [aL,a']
  simp
structure tL(s:ByteArray)(fg:Nat)(zs:List Z)(p:Nat):Prop where
 snd:bd s=cn fg++(lL zs++(bd s).drop p)
 pos:p<=s.size
 CB:zs.Pairwise λa b=>a.1<b.1
 dH:∀z∈zs,z.1<200/\z.2<=s.size
 cmp:∀gN,mK s gN->gN.length=fg/\gN.take zs.length=zs
theorem tL.start{e:Nat}{n:Int}(h:nu ((bd s).drop 0) 0 v n 0)(aI:v=fg)(ay:n=p)(aH:p<=s.size):tL s fg [] p:=by
 obtain⟨m,h1,ab,ar,a7,bs⟩:=h.ok rfl
 have hm:m=fg:=by omega
 subst hm
 rw [aA8]at ar
 have:p=(cn m).length:=by omega
 subst this
 refine⟨by simpa [lL]using ar,aH,List.Pairwise.nil,by simp,λgN aW=>⟨?_,rfl⟩⟩
 obtain⟨r,b5,_⟩:=aW.s
 rw [ar]at b5
 exact(tM b5).1.symm
theorem tL.next{zs gN:List Z}(h:tL s fg zs p)(aW:mK s gN)(aG:zs.length<fg):∃z r,gN[zs.length]?=some z/\(bd s).drop p=cn z.1++(cn z.2++r)/\(∀y,zs.getLast?=some y->y.1<z.1)/\z.1<200/\z.2<=s.size:=by
 obtain⟨c1,c2⟩:=h.cmp gN aW
 obtain⟨z,FG,rfl⟩:∃z FG,gN=zs++z::FG:=⟨gN[zs.length]'(by omega),gN.drop (zs.length+1),by
  conv=>lhs;rw [<-aAd zs.length gN,c2,az6 (by omega)]⟩
 have aE:(zs++z::FG)[zs.length]?=some z:=by rw [List.getElem?_append_right (axx _),aBk];rfl
 obtain⟨r,b5,cT⟩:=aW.s
 have ab:=(tM (b5.symm.trans h.snd)).2
 rw [apj,ax7]at ab
 have ar:=aBt ab
 rw [OF]at ar
 refine⟨z,lL FG++r,aE,by rw [<-ar];simp only [ax7],λy aA=> ?_,aW.dH _ (azR aE),?_⟩
 ·have aB:=aW.CB
  rw [aAE]at aB
  exact aB.2.2 y (List.mem_of_getLast? aA) z (by simp)
 ·have fi:=OG aE
  have kn:=Js (zs++z::FG) (zs.length+1)
  have:=aW.size
  omega
theorem tL.more{p':Nat}{zs:List Z}{z:Z}(h:tL s fg zs p)(aG:zs.length<fg)(aH:(bd s).drop p=cn z.1++(cn z.2++(bd s).drop p'))(yw:p'<=s.size)(aB:∀y,zs.getLast?=some y->y.1<z.1)(aE:z.1<200/\z.2<=s.size):tL s fg (zs++[z]) p':=by
 refine⟨?_,yw,?_,λx aa=> ?_,λgN aW=> ?_⟩
 ·rw [apk]
  have:=h.snd
  rw [aH]at this
  rw [ax7,ax7];exact this
 ·rw [aAE]
  refine⟨h.CB,List.pairwise_singleton _ _,λa bW b al=> ?_⟩
  simp at al;subst al
  cases ba:zs.getLast? with
  |none=>
   have:=List.getLast?_eq_none_iff.1 ba
   rw [this]at bW;cases bW
  |some y=>
   have aA:=aB y ba
   obtain⟨ys,e⟩:=List.getLast?_eq_some_iff.1 ba
   have Jt:=h.CB
   rw [e,aAE]at Jt
   rw [e]at bW
   rcases azb.1 bW with h1|h1
   ·exact Nat.lt_trans (Jt.2.2 a h1 y (by simp)) aA
   ·simp at h1;rw [h1];exact aA
 ·rcases azb.1 aa with h1|h1
  ·exact h.dH x h1
  ·simp at h1;rw [h1];exact aE
 ·obtain⟨c1,c2⟩:=h.cmp gN aW
  obtain⟨w,r,ca,b0,_⟩:=h.next aW aG
  rw [aH]at b0
  obtain⟨aL,cY⟩:=tM b0
  obtain⟨a',eP⟩:=tM cY
  refine⟨c1,?_⟩
  rw [ax6,ayi,azs,axJ,azP,c2,ca]
  have:w=z:=Prod.ext aL.symm a'.symm
  rw [this];rfl
theorem tL.done{zs:List Z}(h:tL s fg zs p)(aG:zs.length=fg):(hB zs=s.size-p->mK s zs/\p=mL zs)/\(∀gN,mK s gN->hB zs=s.size-p):=by
 have eo:=dR s
 have hlen:=congrArg aBc h.snd
 rw [eo,ax6,ax6,ayY,eo]at hlen
 have aH:=h.pos
 refine⟨λhs=>⟨⟨h.CB,λz aE=>(h.dH z aE).1,(bd s).drop p,by rw [aG];exact h.snd,by rw [ayY,eo];omega⟩,by unfold mL;rw [aG];omega⟩,λgN aW=> ?_⟩
 obtain⟨c1,c2⟩:=h.cmp gN aW
 have:gN=zs:=by rw [<-c2,aG,<-c1,ayX]
 subst this
 have:=aW.size
 unfold mL at this
 rw [aG]at this
 omega
theorem apl:sliceB azB 369 383=true:=by kernel_rfl
theorem apm:j8 azB 383 dP.sz 24=true:=by kernel_rfl
theorem apn{zs:List Z}{m:Nat}(h:∀z∈zs,z.2<=m):hB zs<=zs.length*m:=by
 induction zs with
 |nil=>simp [hB]
 |cons z zs ih=>
  have:=h z (by simp)
  have:=ih λw hw=>h w (by simp [hw])
  unfold hB at *
  rw [axE,azT,ayi,axK]
  omega
theorem R9{K:Option Addr->Nat->Nat->Bool->U->Prop}(hs:s.size<=1000000000)
  (cq:(∀zs,¬mK s zs)->∀a n c H',Fr [] H H'->K a n c false H')
  (eV:∀zs a n c H',mK s zs->Own dP 383 H.size H' a n c (ny zs (mL zs) zs.length)->Fr [] H H'->K a n c true H'):
  aK apo [aj s] H λv H'=>∃a n c b,v=.tuple ⟨[.slice a n c,.bool b]⟩/\K a n c b H':=by
 apply apq
 have eo:=dR s
 refine zR (by omega) (λh=>(h ⟨by omega,by omega⟩).elim) λa0 ea0 ha0 v cD aL sb=> ?_
 have:a0=0:=by omega
 subst this
 obtain⟨ik,fg,rfl,lS,rfl,ou⟩:=sb.pos ha0
 refine⟨λ_ H'=>H'=H/\aL=0/\fg<=200,?_,?_⟩
 ·refine au (λh=>⟨_,_,_,_,rfl,cq (λzs aW=> ?_) _ _ _ _ (Fr.refl _ _)⟩) λh1=>au (λh=>⟨_,_,_,_,rfl,cq (λzs aW=> ?_) _ _ _ _ (Fr.refl _ _)⟩) λab=>⟨rfl,by simpa using h1,by simp at ab;omega⟩
  ·obtain⟨r,h1,_⟩:=aW.s
   have:=sb.of (n:=zs.length) (by have:=aW.len;omega) (by rw [aA8];exact h1)
   simp at h;omega
  ·obtain⟨r,h1,_⟩:=aW.s
   have:=sb.of (n:=zs.length) (by have:=aW.len;omega) (by rw [aA8];exact h1)
   have:=aW.len
   simp at h;omega
 rintro br H1 ⟨rfl,rfl,aw1⟩
 refine⟨λae H'=>match ae with|[.int _ pos,.slice a n c,.int _ last,.int _ all,.int _ i]=>∃(zs:List Z) (p:Nat),pos=((p:Nat):Int)/\i=((zs.length:Nat):Int)/\zs.length<=fg/\tL s fg zs p/\all=((hB zs:Nat):Int)/\last=(match zs.getLast? with|some y=>(y.1:Int)|none=> -1)/\Own dP 383 H1.size H' a n c (ny zs 0 0)/\Fr [] H1 H'|_=>False,λae _=>match ae with|[_,_,_,_,.int _ i]=>fg-i.toNat|_=>0,
  ⟨[],ik,rfl,rfl,by simp,tL.start (e:=0) sb rfl rfl lS,rfl,rfl,Own.nil ..,Fr.refl _ _⟩,?_⟩
 rintro br pos a n c last all i ao ⟨zs,p,rfl,rfl,vT,cd,rfl,rfl,aw,f2⟩
 have kq:=aw.1
 rw [zg]at kq
 have Vj:=apn λz aE=>(cd.dH z aE).2
 have apr:zs.length<=200:=by omega
 have aw2:hB zs<=200000000000:=ax4 Vj (ax4 (aBh apr hs) (by omega))
 refine au (λbQ=> ?_) (λeZ=> ?_)
 ·have bQ:zs.length<fg:=by simp at bQ;omega
  refine zR (by omega) (λh=>(h ⟨by omega,by have:=cd.pos;omega⟩).elim) λcW ea1 Ox v1 cD aL sb=> ?_
  have:cW=p:=by omega
  subst this
  obtain⟨eY,m1,rfl,jE,rfl,p9⟩:=sb.pos Ox
  refine zR (by omega) (λh=>(h ⟨by omega,by omega⟩).elim) λa2 ea2 Oy v2 cz a' hG2=> ?_
  have:a2=eY:=by omega
  subst this
  obtain⟨fR,m2,rfl,lA,rfl,rY⟩:=hG2.pos Oy
  have FH:∀gN,mK s gN->aL=0/\a'=0/\m1<200/\m2<=s.size/\(∀y,zs.getLast?=some y->y.1<m1):=λgN aW=>by
   obtain⟨z,r,ca,b0,cY,eP,iw⟩:=cd.next aW bQ
   obtain⟨vR,sS,acC,Xb⟩:=sb.step (by omega) b0
   have:a2=cW+(cn z.1).length:=by omega
   rw [<-this]at Xb
   obtain⟨Ch,Ci,VN,aw3⟩:=hG2.step (by omega) Xb
   refine⟨vR,Ch,by omega,by omega,λy aA=>by have:=cY y aA;omega⟩
  have no:(∀gN,¬mK s gN)->∃a n c b,aA7 ⟨[.slice none 0 0,.bool false]⟩=.tuple ⟨[.slice a n c,.bool b]⟩/\K a n c b ao:=λh=>⟨_,_,_,_,rfl,cq h _ _ _ _ f2⟩
  have aps:azQ .u64 (s.size:Int)=s.size:=hd (by omega)
  refine⟨λ_ H'=>H'=ao/\aL=0/\a'=0/\m1<200/\m2<=s.size/\(∀y,zs.getLast?=some y->y.1<m1),?_,?_⟩
  ·refine au (λh=>no λgN aW=> ?_) λh1=>au (λh=>no λgN aW=> ?_) λab=>au (λh=>no λgN aW=> ?_) λar=> ?_
   ·have:=(FH gN aW).1;simp at h;omega
   ·have:=(FH gN aW).2.1;simp at h;omega
   ·have:=(FH gN aW).2.2.1;simp at h;omega
   ·have ar:=of_decide_eq_false ar
    have vf:azQ .i64 (m1:Int)=m1:=cj (by omega) (by omega)
    rw [vf,aps]
    refine au (λh=>no λgN aW=> ?_) λa7=>au (λh=>no λgN aW=> ?_) λbs=>⟨rfl,by simpa using h1,by simpa using ab,by omega,by simp at bs;omega,λy aA=> ?_⟩
    ·have b5:=(FH gN aW).2.2.2.2
     have h:=of_decide_eq_true h
     cases ba:zs.getLast? with
     |none=>rw [ba]at h;simp only at h;omega
     |some y=>rw [ba]at h;simp only at h;have:=b5 y ba;omega
    ·have:=(FH gN aW).2.2.2.1;simp at h;omega
    ·have a7:=of_decide_eq_false a7
     rw [aA]at a7
     simp only at a7
     omega
  ·rintro ek aP ⟨rfl,rfl,rfl,apt,apu,Jt⟩ b a8 cS
   have vf:azQ .i64 (m1:Int)=m1:=cj (by omega) (by omega)
   have vg:azQ .i64 (m2:Int)=m2:=cj (by omega) (by omega)
   have Ck:azQ .i64 (((hB zs:Nat):Int)+(m2:Int))=((hB zs+m2:Nat):Int):=by rw [cj (by omega) (by omega)];rfl
   rw [vf,vg,Ck]at cS
   rw [vf,vg,Ck]
   have s2:=f2.size
   have Ig:=cS.size
   have pS:=api zs (m1,m2) 0
   refine ic apl apm (aw.ag cS.af) (fy dP ((m1:Int),(hB zs:Int),((hB zs+m2:Nat):Int)) cS rfl) (by omega) (by omega) λq m d bA bs f5 g5=> ?_
   have apv:azQ .u64 (((zs.length:Nat):Int)+1)=((zs.length+1:Nat):Int):=hd (n:=zs.length+1) (by omega)
   rw [apv]
   have lX:fg-((zs.length+1:Nat):Int).toNat<fg-((zs.length:Nat):Int).toNat:=by omega
   obtain⟨fq,k',la,nP,me,lR⟩:=sb.ok rfl
   obtain⟨gT,aw4,E7,FI,aw5,aw6⟩:=hG2.ok rfl
   have aR:(bd s).drop cW=cn m1++(cn m2++(bd s).drop fR):=by
    have aL:fq=m1:=by omega
    have a':gT=m2:=by omega
    subst aL;subst a'
    rw [aA4]at nP FI
    have b4:cW+(cn fq).length=a2:=by omega
    have hi:a2+(cn gT).length=fR:=by omega
    rw [b4]at nP
    rw [hi]at FI
    rw [nP,FI]
   refine⟨⟨zs++[(m1,m2)],fR,rfl,by simp,by simp;omega,cd.more bQ aR lA Jt ⟨apt,apu⟩,by rw [OE],by simp,by rw [pS];exact bs,(f2.aT cS.af).ag f5 λk hk=>(aw.ge k hk).1⟩,lX⟩
 ·have Hb:zs.length=fg:=by simp at eZ;omega
  obtain⟨d1,d2⟩:=cd.done Hb
  have l4:=cd.pos
  refine⟨λae H'=>match ae with|[.int _ i]=>∃k:Nat,i=k/\k<=n/\Own dP 383 H1.size H' a n c (ny zs p k)/\Fr [] H1 H'|_=>False,λae _=>match ae with|[.int _ i]=>n-i.toNat|_=>0,
   ⟨0,rfl,by omega,?_,f2⟩,?_⟩
  ·have:ny zs p 0=ny zs 0 0:=by unfold ny;simp
   rw [this];exact aw
  rintro br i aP ⟨k,rfl,hk,ar,f3⟩
  refine au (λbQ=> ?_) (λXc=> ?_)
  ·have bQ:k<n:=by simp at bQ;omega
   have Ju:=Jr (zs:=zs) (p:=p) (k:=k) (i:=k) (by omega)
   rw [if_neg (by omega)]at Ju
   have sA:=Js zs k
   have j3:=Js zs (k+1)
   have vf:azQ .i64 (((fw zs k:Nat):Int)+(p:Int))=((p+fw zs k:Nat):Int):=by rw [cj (by omega) (by omega)];omega
   have vg:azQ .i64 (((fw zs (k+1):Nat):Int)+(p:Int))=((p+fw zs (k+1):Nat):Int):=by rw [cj (by omega) (by omega)];omega
   refine ar.idx rfl Ju (bh (by omega)) λaC b4 av=>⟨_,apw av,?_⟩
   have apx:(ed zs k).2.1=((fw zs k:Nat):Int):=rfl
   rw [apx,vf]
   refine ar.idx rfl Ju (bh (by omega)) λad2 ea2 mc=> ?_
   refine Fc ar ea2 rfl Ju (j:=1) (x':=((ed zs k).1,((p+fw zs k:Nat):Int),(ed zs k).2.2)) (by kernel_rfl) (by kernel_rfl) (λx aa=>by simp [azI]at aa;subst aa;rfl) (by show 1+1<=3;omega) rfl λa8 a7 f4=> ?_
   have Jv:((ny zs p k).set k ((ed zs k).1,((p+fw zs k:Nat):Int),(ed zs k).2.2))[k]?=some ((ed zs k).1,((p+fw zs k:Nat):Int),(ed zs k).2.2):=by rw [List.getElem?_set_self (by rw [zg];omega)]
   refine a7.idx rfl Jv (bh (by omega)) λad3 Dl tI=>⟨_,apy tI,?_⟩
   have Xd:(ed zs k).2.2=((fw zs (k+1):Nat):Int):=rfl
   simp only
   rw [Xd,vg]
   rw [Xd]at Jv a7
   refine a7.idx rfl Jv (bh (by omega)) λad4 ea4 Jo=> ?_
   refine Fc a7 ea4 rfl Jv (j:=2) (x':=((ed zs k).1,((p+fw zs k:Nat):Int),((p+fw zs (k+1):Nat):Int))) (by kernel_rfl) (by kernel_rfl) (λx aa=>by simp [azI]at aa;subst aa;rfl) (by show 2+1<=3;omega) rfl λbA bs f5=> ?_
   rw [List.set_set]at bs
   rw [cE (by omega)]
   have lX:n-((k+1:Nat):Int).toNat<n-((k:Nat):Int).toNat:=by omega
   exact⟨⟨k+1,rfl,by omega,by rw [aph (by omega)];exact bs,(f3.ag f4 λk hk=>(ar.ge k hk).1).ag f5 λk hk=>(a7.ge k hk).1⟩,lX⟩
  ·have eC:k=n:=by simp at Xc;omega
   subst eC
   have ku:azQ .i64 ((s.size:Int)-(p:Int))=((s.size-p:Nat):Int):=by rw [cj (by omega) (by omega)];omega
   rw [ku]
   by_cases fe:hB zs=s.size-p
   ·obtain⟨t1,t2⟩:=d1 fe
    have:(((hB zs:Nat):Int)==((s.size-p:Nat):Int))=true:=by rw [fe];simp
    rw [this]
    refine⟨_,_,_,_,rfl,eV zs _ _ _ _ t1 ?_ f3⟩
    rw [<-t2,<-kq];exact ar
   ·have:(((hB zs:Nat):Int)==((s.size-p:Nat):Int))=false:=by
     have:¬((hB zs:Nat):Int)=((s.size-p:Nat):Int):=by omega
     simpa using this
    rw [this]
    exact⟨_,_,_,_,rfl,cq (λgN aW=>fe (d2 gN aW)) _ _ _ _ f3⟩
theorem R'{zs:List Z}{z:Z}(h:zs[i]?=some z):(ny zs p zs.length)[i]?=some ((z.1:Int),((p+fw zs i:Nat):Int),((p+fw zs (i+1):Nat):Int)):=by
 have az:=(axC.1 h).1
 rw [Jr az,if_pos az,h];rfl
theorem adE{l b1:Nat}{zs:List Z}{I:Nat->List Nat->U->Prop}{Stop K:U->Prop}(dA:a6 H ⟨b1,0,none⟩ [.slice a n c])(al:a6 H ⟨b,0,none⟩ [.string s])(aa:bt dP H a n c (ny zs (mL zs) zs.length))(cd:mK s zs)(hs:s.size<=1000000000)
  (dT:In H S) (aR:b∉S/\b1∉S/\∀k∈an a,k∉S) (aF:I 0 S H) (uR:∀i S H1 ao,I i S H1->Fr [] H1 ao->I i S ao)
  (step:∀i S H1 z,zs[i]?=some z->In H1 S->I i S H1->oR azB l [.int .i64 (z.1:Int),.string (yD s zs i)] H1 λv ao=>(v=.bool true/\∃S2,I (i+1) S2 ao/\Fr S H1 ao/\Grow H1 S S2/\In ao S2)\/(v=.bool false/\Stop ao))
  (fin:∀e0 H1,I zs.length e0 H1->In H1 e0->Fr S H H1->K H1) (stop:∀H1,Stop H1->K H1):
  dY azB (.func (.func 331) ⟨[]⟩ ⟨[.pointer (some ⟨b1,0,none⟩),.pointer (some ⟨b,0,none⟩)]⟩) [.func (.yield l) ⟨[]⟩ ⟨[]⟩] H λv H'=>v=.tuple ⟨[]⟩/\K H':=by
 refine⟨331,⟨[]⟩,_,rfl,by kernel_rfl,?_⟩
 apply apz
 have ay:n=zs.length:=by have:=aa.len;rw [zg]at this;exact this
 have vT:=cd.len
 refine⟨_,_,_,dA.bY rfl,?_⟩
 refine⟨λae H'=>match ae with|[.int _ i]=>∃(j:Nat) (S2:List Nat),i=j/\j<=n/\I j S2 H'/\Fr S H H'/\Grow H S S2/\In H' S2|_=>False,λae _=>match ae with|[.int _ i]=>n-i.toNat|_=>0,
  ⟨0,S,rfl,by omega,aF,Fr.refl _ _,Grow.refl _ _,dT⟩,?_⟩
 rintro br i H1 ⟨j,S2,rfl,bq,dK,ai,ba,pq⟩
 have cB:=aa.af ai (lB aR.2.2)
 refine au (λbQ=> ?_) (λeZ=> ?_)
 ·have bQ:j<n:=by simp at bQ;omega
  obtain⟨z,aE⟩:=fM (l:=zs) (i:=j) (by omega)
  have he:=R' (p:=mL zs) aE
  refine cB.get rfl he (bh (by omega)) λaC b4 av=>⟨_,_,_,vU (by kernel_rfl) (by kernel_rfl) av,?_⟩
  refine iS (by kernel_rfl) (by kernel_rfl) Gt (by rfl) λv ao jV aI hU=>⟨_,aI.bY rfl,_,((al.af ai aR.1).ag hU).bY rfl,_,aI.cF 1 rfl,_,aI.cF 2 rfl,?_⟩
  have sA:=OG aE
  have j3:=Js zs (j+1)
  have dF:=cd.size
  refine cM (bh (show 0<=((mL zs+fw zs j:Nat):Int)/\((mL zs+fw zs j:Nat):Int)<=((mL zs+fw zs (j+1):Nat):Int)/\((mL zs+fw zs (j+1):Nat):Int)<=(s.size:Int)from⟨by omega,by omega,by omega⟩)) ?_
  simp only
  rw [ayS,ayS]
  refine .inr ⟨l,rfl,(step j S2 ao z aE (pq.le hU.size) (uR _ _ _ _ dK hU)).mono λv aP=> ?_⟩
  rintro(⟨rfl,jC,wq,bP,pt,wu⟩|⟨rfl,dW⟩)
  ·rw [cE (by omega)]
   have lX:n-((j+1:Nat):Int).toNat<n-((j:Nat):Int).toNat:=by omega
   refine⟨true,rfl,au (λh=>by simp at h) λ_=>⟨⟨j+1,jC,rfl,by omega,wq,?_,?_,wu⟩,lX⟩⟩
   ·have N7:Fr S H ao:=ai.trans' hU (λk hk _=>hk) (by simp)
    exact N7.trans' bP (λk hk _=>hk) λk hk aG=>(ba k hk).elim id λh=>by omega
   ·exact ba.trans ai.size λk hk=>(pt k hk).imp id λh=>by have:=hU.size;omega
  ·exact⟨false,rfl,au (λ_=>⟨trivial,stop _ dW⟩) λh=>by simp at h⟩
 ·have:j=n:=by simp at eZ;omega
  subst this
  exact⟨rfl,fin S2 H1 (by rw [<-ay];exact dK) pq ai⟩
theorem adH{K:Option Addr->Nat->Nat->Int->U->Prop}(hs:s.size<=100000000000)
  (cq:(∀L,eJ L->bd s=ft L->L=[])->∀H',Fr [] H H'->K none 0 0 11 H')
  (eV:∀L a n c H',eJ L->L≠[]->bd s=ft L->Own encS 111 H.size H' a n c L->Fr [] H H'->K a n c 0 H'):
  aK apA [aj s] H λv H'=>∃a n c e,v=.tuple ⟨[.slice a n c,.int .i64 e]⟩/\K a n c e H':=by
 apply apB
 refine aoT hs (λay H' ai=>au (λ_=>⟨_,_,_,_,rfl,cq (λL b9 bZ=>absurd bZ (ay L b9)) _ ai⟩) λh=>by cases h) λL a n c H' b9 bZ aw ai=>au (λh=>by cases h) λ_=> ?_
 have aG:=aw.1
 refine au (λh=>⟨_,_,_,_,rfl,cq (λL' Aq LJ=> ?_) _ ai⟩) λh=>⟨_,_,_,_,rfl,eV L _ _ _ _ b9 (by intro e;rw [e]at aG;simp at aG;simp at h;omega) bZ aw ai⟩
 have:L=[]:=ayT (by simp at h;omega)
 subst this
 exact Si Aq b9 (x:=[]) (y:=[]) (by rw [<-LJ,bZ])
theorem adG{zs:List Z}:(yD s zs i).size<=s.size:=by
 have h1:=dR s
 have:=dR (yD s zs i)
 unfold yD at this
 rw [tE,ayY,ayj,h1]at this
 unfold yD
 omega
theorem R6{ss:List bF}(h:hN ss):(fs ss).length<=300000000:=by
 have h1:=R7 (ss:=ss) λs hs=>(h.dH s hs).2
 have ab:=R8 (ss:=ss) h.dH
 have ar:=h.len
 have a7:=hD (n:=ss.length) (by omega)
 unfold fs
 simp only [ax6]
 have:1000000*ss.length<=1000000*200:=Nat.mul_le_mul_left _ ar
 omega
theorem aai{ss:List bF}{K:Option Addr->Nat->Nat->Int->U->Prop}(cV:hN ss)(hs:bd s=fs ss)(hk:∀a n c H',Own cH 3 H.size H' a n c (ss.map (·.1))->Fr [] H H'->K a n c 0 H'):
  aK adx [aj s] H λv H'=>∃a n c e,v=.tuple ⟨[.slice a n c,.int .i64 e]⟩/\K a n c e H':=by
 apply ady
 have dF:s.size<=300000000:=by rw [<-dR,hs];exact R6 cV
 refine R9 (by omega) (λay a n c H1 f1=>absurd (cV.uy hs) (ay _)) λzs a n c H1 cd aw f1=>au (λc=>by cases c) λ_=> ?_
 obtain rfl:=cd.uniq (cV.uy hs)
 have ay:=aw.1
 rw [zg]at ay
 have vT:(hS ss).length=ss.length:=by unfold hS;simp
 have sV:=cV.len
 refine⟨λae H'=>match ae with|[.slice aV bn bg,.int _ i]=>∃k:Nat,i=k/\k<=n/\Own cH 3 H1.size H' aV bn bg ((ss.map (·.1)).take k)/\Fr [] H1 H'|_=>False,λae _=>match ae with|[_,.int _ i]=>n-i.toNat|_=>0,⟨0,rfl,by omega,Own.nil _ _ _ _,Fr.refl _ _⟩,?_⟩
 rintro br aV bn bg i ao ⟨k,rfl,eC,dk,f2⟩
 have ol:=dk.1
 refine au (λc=> ?_) λc=> ?_
 ·have bg:k<n:=by simpa using c
  obtain⟨x,aa⟩:=fM (l:=ss) (i:=k) (by omega)
  have aE:(hS ss)[k]?=some (x.1.toNat,(ft x.2).length):=by unfold hS;rw [ayp,aa];rfl
  have oy:=(cV.dH x (azR aa)).1
  refine(aw.bT.ag f2).get rfl (R' aE) (bh (by omega)) λaC b4 av=>⟨_,_,_,vU (by kernel_rfl) (by kernel_rfl) av,?_⟩
  refine iS (by kernel_rfl) (by kernel_rfl) Gt rfl λdz aP fm pK f3=> ?_
  refine⟨_,pK.bY rfl,λjy a8 cS=> ?_⟩
  have z4:=cS.size
  have z3:=f3.size
  have z2:=f2.size
  refine ic (t:=3) (E:=cH) (bytes:=8) (by kernel_rfl) (by kernel_rfl) ((dk.ag f3).ag cS.af) (fy cH x.1 cS (by simp [cH];omega)) (by omega) (by simp at ol;omega) λa5 n5 c5 bA fZ f5 g5=> ?_
  rw [cE (by omega)]
  refine⟨⟨k+1,rfl,by omega,?_,((f2.aT f3).aT cS.af).ag f5 λq aO=>(dk.ge q aO).1⟩,dU bg⟩
  rw [azP,ayp,aa]
  exact fZ
 ·have e:k=n:=by simp at c;omega
  rw [ayB (by simp;omega)]at dk
  exact⟨_,_,_,_,rfl,hk _ _ _ ao (dk.base f1.size) (f1.aT f2)⟩
structure K8(zs:List Z)(id:Int)(l D b b1 bI:Nat)(bc:Loop)(cw:U)(i:Nat)(S:List Nat)(H:U):Prop where
 ai:Fr [] cw H
 Dv:dO H l bc .ready none
 zh:hT H D
 al:a6 H ⟨b,0,none⟩ [.int .i64 id]
 dA:a6 H ⟨b1,0,none⟩ [.slice none 0 0]
 cO:a6 H ⟨bI,0,none⟩ [.int .i64 0]
 hs:S=[l,D,b1,bI]
 no:∀(j:Nat) z,j<i->zs[j]?=some z->(z.1:Int)≠id
structure K9(L:List bl)(l D b1 bI:Nat)(bc:Loop)(cw H:U):Prop where
 ai:Fr [] cw H
 Dv:dO H l bc .done (some .ret)
 zh:hT H D
 dA:∃a n c,a6 H ⟨b1,0,none⟩ [.slice a n c]/\Own encS 111 cw.size H a n c L/\l∉an a/\D∉an a
 cO:a6 H ⟨bI,0,none⟩ [.int .i64 0]
theorem tW{ss:List bF}{x:bF}{K:Option Addr->Nat->Nat->Int->U->Prop}(cV:hN ss)(hs:bd s=fs ss)(aa:x∈ss)(hk:∀a n c H',Own encS 111 H.size H' a n c x.2->Fr [] H H'->K a n c 0 H'):
  aK adz [aj s,o x.1] H λv H'=>∃a n c e,v=.tuple ⟨[.slice a n c,.int .i64 e]⟩/\K a n c e H':=by
 apply adA
 have dF:s.size<=300000000:=by rw [<-dR,hs];exact R6 cV
 intro b H1 bb b1 ao bK bI aP bw
 have aL:=bb.eq
 have a':=bK.eq
 have cX:=bw.eq
 have ht:=bb.size
 have z2:=bK.size
 have z3:=bw.size
 have kD:=(bb.af.aT bK.af).aT bw.af
 refine R9 (by omega) (λay a n c a8 f4=>absurd (cV.uy hs) (ay _)) λzs a n c a8 cd aw f4=>au (λc=>by cases c) λ_=> ?_
 obtain rfl:=cd.uniq (cV.uy hs)
 have z4:=f4.size
 apply adB
 intro c1 bA gH c2 ct j7
 refine⟨_,rfl,λD l bc dx kq lU=> ?_⟩
 obtain⟨f67,adC,adD,Sa,el,xf⟩:=kq.out
 have kg:=gH.eq
 have sW:=j7.eq
 have z5:=gH.size
 have vz:=j7.size
 have f47:Fr [] a8 dx:=(gH.af.aT j7.af).aT f67
 have f37:=f4.aT f47
 have xE:=kD.aT f37
 have nV:∀k∈an a,aP.size<=k/\k<a8.size:=λk hk=>aw.ge k hk
 have bM:=((bb.bz.ag bK.af).ag bw.af).ag f37
 have rn:=(bK.bz.ag bw.af).ag f37
 have k8:=bw.bz.ag f37
 have sX:∀k∈[l,D,b1,bI],H.size<=k/\k<dx.size/\k≠c1/\k≠c2/\k∉an a/\k≠b:=λk hk=>by
  simp only [axA,azS,or_false]at hk
  refine⟨by omega,by omega,by omega,by omega,λfA=> ?_,by omega⟩
  have:=nV k fA
  omega
 obtain⟨q,aO⟩:=aAK.1 aa
 have Sb:(hS ss)[q]?=some (x.1.toNat,(ft x.2).length):=by unfold hS;rw [ayp,aO];rfl
 have oy:=(cV.dH x aa).1
 refine dY.mono (adE (b1:=c2) (b:=c1) (K:=λcN=>(∃e0,K8 (hS ss) x.1 l D b b1 bI bc H (hS ss).length e0 cN)\/K9 x.2 l D b1 bI bc H cN) (j7.bz.ag f67) ((gH.bz.ag j7.af).ag f67) (aw.bT.ag f47) cd (by omega) (S:=[l,D,b1,bI]) (λk hk=>(sX k hk).2.1) ⟨λhk=>(sX c1 hk).2.2.1 rfl,λhk=>(sX c2 hk).2.2.2.1 rfl,λk hk fA=>(sX k fA).2.2.2.2.1 hk⟩ (I:=K8 (hS ss) x.1 l D b b1 bI bc H) (Stop:=K9 x.2 l D b1 bI bc H) ?_ ?_ ?_ (λe0 cN cd _ _=>.inl ⟨e0,cd⟩) (λcN aa=>.inr aa)) λv cN=> ?_
 ·exact⟨xE,adC,adD,bM,rn,k8,rfl,λj z h=>by omega⟩
 ·rintro i S Dw Dx ⟨h1,ab,ar,a7,bs,b5,cT,fi⟩ ai
  exact⟨h1.aT ai,ab.af ai (by simp),ar.af ai (by simp),a7.ag ai,bs.ag ai,b5.ag ai,cT,fi⟩
 ·rintro i S cN z aE dT ⟨h1,ab,ar,a7,bs,b5,rfl,fi⟩
  have iW:=mW cN l bc .busy none
  have Bo:=sY cN l bc .busy none
  have adF:l∈[l,D,b1,bI]:=by simp
  have jP:l≠b/\l≠b1/\l≠bI/\l≠D:=⟨by omega,by omega,by omega,by omega⟩
  refine lU _ _ cN (λv ao=>(v=.bool true/\∃S2,K8 (hS ss) x.1 l D b b1 bI bc H (i+1) S2 ao/\Fr [l,D,b1,bI] cN ao/\Grow cN [l,D,b1,bI] S2/\In ao S2)\/(v=.bool false/\K9 x.2 l D b1 bI bc H ao)) ab ⟨ab,?_⟩
  have G6:=a7.af iW (by simpa using λe=>jP.1 e.symm)
  have G7:=bs.af iW (by simpa using λe=>jP.2.1 e.symm)
  have Sc:=b5.af iW (by simpa using λe=>jP.2.2.1 e.symm)
  have Se:=ar.af iW (by simpa using λe=>jP.2.2.2 e.symm)
  have K':dO (cC cN l bc .busy none) l bc .busy none:=vV ab.lt
  have La:Fr [] H (cC cN l bc .busy none):=h1.ag iW λk hk=>by simp at hk;subst hk;exact(sX _ adF).1
  refine⟨_,G6.bY rfl,au (λav=> ?_) λav=> ?_⟩
  ·
   have hid:(z.1:Int)=x.1:=by simpa using av
   have az:i=q:=by
    obtain⟨y,aA⟩:=fM (l:=ss) (i:=i) (by have:=(axC.1 aE).1;unfold hS at this;simpa using this)
    have Sf:(hS ss)[i]?=some (y.1.toNat,(ft y.2).length):=by unfold hS;rw [ayp,aA];rfl
    rw [aE]at Sf
    cases Sf
    have G8:=(cV.dH y (azR aA)).1
    simp only at hid
    obtain⟨g1,g2⟩:=axC.1 aA
    obtain⟨g3,g4⟩:=axC.1 aO
    rcases Nat.lt_trichotomy i q with h|h|h
    ·have:=aAD.1 cV.right.1 i q g1 g3 h
     rw [g2,g4]at this;omega
    ·exact h
    ·have:=aAD.1 cV.right.1 q i g3 g1 h
     rw [g2,g4]at this;omega
   subst az
   have j2:=adG (s:=s) (zs:=hS ss) (i:=i)
   have Sg:=cV.piece hs aO
   have Sh:=(cV.dH x aa).2
   have cP:=(cV.right.2 x aa).1
   refine adH (by omega) (λo' hj f10=>absurd (o' _ Sh Sg) cP) λL a5 n5 c5 hj b9 hne' bZ o10 f10=> ?_
   have adI:L=x.2:=Si b9 Sh (x:=[]) (y:=[]) (by rw [<-bZ,<-Sg])
   subst adI
   have adJ:∀k∈an a5,(cC cN l bc .busy none).size<=k/\k<hj.size:=λk hk=>o10.ge k hk
   have Dy:∀k∈[l,D,b1,bI],k∉an a5:=λk hk hk5=>by have:=dT k hk;have:=adJ k hk5;omega
   refine(G7.ag f10).iQ (v:=.slice a5 n5 c5) (by kernel_rfl) (by kernel_rfl) Lb (by simp [azI]) λjO hb11 f11=> ?_
   refine((Sc.ag f10).af f11 (by simp;omega)).iQ (v:=.int .i64 0) (by kernel_rfl) (by kernel_rfl) (λx aa=>by simp [azI]at aa;subst aa;rfl) (by simp [azI]) λmj xF f12=> ?_
   have Sj:dO mj l bc .busy none:=((K'.af f10 (by simp)).af f11 (by simpa using jP.2.1)).af f12 (by simpa using jP.2.2.1)
   have e1:=mW mj l bc .done (some .ret)
   have Sk:D≠b1/\D≠bI:=⟨by omega,by omega⟩
   refine⟨Sj,.inr ⟨rfl,?_,vV Sj.lt,(((Se.af f10 (by simp)).af f11 (by simpa using Sk.1)).af f12 (by simpa using Sk.2)).af e1 (by simpa using λe=>jP.2.2.2 e.symm),⟨a5,n5,c5,?_,?_,Dy l (by simp),Dy D (by simp)⟩,xF.af e1 (by simpa using λe=>jP.2.2.1 e.symm)⟩⟩
   ·exact(((La.aT f10).ag f11 λk hk=>by simp at hk;omega).ag f12 λk hk=>by simp at hk;omega).ag e1 λk hk=>by simp at hk;omega
   ·simpa [azI]using(hb11.af f12 (by simp;omega)).af e1 (by simpa using λe=>jP.2.1 e.symm)
   ·exact(((o10.base (base':=H.size) La.size).af f11 (lB λk e7 hm=>Dy b1 (by simp) (by simp at hm;subst hm;exact e7))).af f12 (lB λk e7 hm=>Dy bI (by simp) (by simp at hm;subst hm;exact e7))).af e1 (lB λk e7 hm=>Dy l (by simp) (by simp at hm;subst hm;exact e7))
  ·have hid:(z.1:Int)≠x.1:=by simpa using av
   have e1:=mW (cC cN l bc .busy none) l bc .ready none
   have Dz:=sY (cC cN l bc .busy none) l bc .ready none
   refine⟨K',.inl ⟨rfl,[l,D,b1,bI],⟨La.ag e1 λk hk=>by simp at hk;omega,vV K'.lt,Se.af e1 (by simpa using λe=>jP.2.2.2 e.symm),G6.af e1 (by simpa using λe=>jP.1 e.symm),G7.af e1 (by simpa using λe=>jP.2.1 e.symm),Sc.af e1 (by simpa using λe=>jP.2.2.1 e.symm),rfl,λj adK bq vW=> ?_⟩,(iW.trans' e1 (λk hk _=>by simp at hk;subst hk;simp) λk hk _=>by simp at hk;subst hk;simp),Grow.refl _ _,λk hk=> ?_⟩⟩
   ·rcases azH j i with h|h
    ·exact fi j adK h vW
    ·have:j=i:=by omega
     subst this
     rw [aE]at vW;cases vW;exact hid
   ·have:=dT k hk;omega
 ·rintro⟨rfl,⟨S,h1,ab,ar,a7,bs,b5,rfl,fi⟩|⟨h1,ab,ar,⟨a5,n5,c5,a7,bs,b5,cT⟩,fi⟩⟩
  ·exact absurd (show((x.1.toNat:Nat):Int)=x.1 by omega) (fi q _ (axC.1 Sb).1 Sb)
  ·have e1:=mW cN l bc .exhausted (some .ret)
   have sZ:=G9 (cC cN l bc .exhausted (some .ret)) D
   have jP:l≠b1/\l≠bI/\l≠D/\D≠b1/\D≠bI:=⟨by omega,by omega,by omega,by omega,by omega⟩
   refine .inr ⟨ab,ar.af e1 (by simpa using λe=>jP.2.2.1 e.symm),_,_,_,((a7.af e1 (by simpa using λe=>jP.1 e.symm)).af sZ (by simpa using λe=>jP.2.2.2.1 e.symm)).bY rfl,_,((fi.af e1 (by simpa using λe=>jP.2.1 e.symm)).af sZ (by simpa using λe=>jP.2.2.2.2 e.symm)).bY rfl,_,_,_,_,rfl,hk _ _ _ _ ((bs.af e1 (lB λk e7 hm=>b5 (by simp at hm;subst hm;exact e7))).af sZ (lB λk e7 hm=>cT (by simp at hm;subst hm;exact e7))) ?_⟩
   exact(h1.ag e1 λk hk=>by simp at hk;omega).ag sZ λk hk=>by simp at hk;omega
end Go.Proofs.aS
namespace Go.Proofs.Bt
open aS (bF eG kC dM encS dP cy gP cL h9 iP dr ia hN fs)
theorem aaf{xs ys:List Int}(aa:jJ xs)(aA:jJ ys)(h:∀x∈xs,x∈ys):iy AH xs ys=xs:=
 jJ.ext (AI aa aA) aa λz=>by
  rw [sn aa aA]
  constructor
  ·rintro⟨_,ab⟩
   unfold AH at ab
   simp at ab
   exact ab.1
  ·intro aE
   exact⟨.inl aE,by unfold AH;simp [aE,h z aE]⟩
theorem aag{s:ByteArray}{ss:List bF}{os:List Int}{a:Option Addr}{n c:Nat}{f t:Int}{H:U}{K:Option Addr->Nat->Nat->U->Prop}(cV:hN ss)(hs:bd s=fs ss)(aw:bt cH H a n c os)(aB:jJ os)(ay:n<=1000000)(dT:∀x∈ss,x.1∈os)
  (Ka:∀x∈ss,∀y∈x.2,lP f t y=true) (aG:∀x∈ss,x.2.length<=10000) (hk:∀aV bn bg H' rows,Own dP 103 H.size H' aV bn bg rows->gP ss rows->bn<=10000*ss.length->Fr [] H H'->K aV bn bg H'):
  dY azB (.func (Fn.func 224) ⟨[]⟩ ⟨[]⟩) [.string s,.slice a n c,.agg ⟨[.int .i64 f,.int .i64 t]⟩] H λv H'=>∃a n c,v=.slice a n c/\K a n c H':=by
 refine⟨224, #[],_,rfl,by kernel_rfl,?_⟩
 apply aah
 intro b H1 bb
 have ht:=bb.size
 refine aS.aai cV hs λcW cD c1 ao fF f2=> ?_
 have j0:=bb.af.aT f2
 have Kb:=cV.len
 have kd:=fF.1
 rw [azU]at kd
 have aaj:jJ (ss.map (·.1)):=az5.2 cV.right.1
 refine dh.aak fF.bT (aw.ag j0) (by omega) λa2 cz c2 aP dk f3=> ?_
 rw [aaf aaj aB (λx aa=>by obtain⟨y,aA,rfl⟩:=ayf.1 aa;exact dT y aA)]at dk
 have gA:=dk.1
 rw [azU]at gA
 have kD:=j0.aT f3
 have z2:=f2.size
 have z3:=f3.size
 have pK:a6 aP ⟨b,0,none⟩ [.int .i64 f,.int .i64 t]:=(bb.bz.ag f2).ag f3
 refine⟨λae H'=>match ae with|[.slice aV bn bg,.int _ i]=>∃(k:Nat) (hs:List aS.aS),i=k/\k<=cz/\so 57 aP.size H' aV bn bg hs (ss.take k)/\Fr [] aP H'|_=>False,λae _=>match ae with|[_,.int _ i]=>cz-i.toNat|_=>0,⟨0,[],rfl,by omega,so.nil _ _,Fr.refl _ _⟩,?_⟩
 rintro br aV bn bg i a8 ⟨k,PW,rfl,eC,aO,f4⟩
 have PX:=aO.own.1.trans (aO.kE.len.trans (ayj))
 refine au (λc0=> ?_) λc0=> ?_
 ·have k4:k<cz:=by simpa using c0
  obtain⟨x,aa⟩:=fM (l:=ss) (i:=k) (by omega)
  have sq:=azR aa
  refine(dk.bT.ag f4).get (k:=k) (x:=x.1) rfl (by rw [ayp,aa];rfl) (bh (by omega)) λaC b4 av=>⟨_,jb av,?_⟩
  refine aS.tW cV hs sq λa5 n5 c5 bA fZ f5=> ?_
  refine⟨_,_,((pK.ag f4).ag f5).f' rfl,?_⟩
  have aal:=fZ.1
  have k5:=aG x sq
  refine aS.PY fZ.bT (by omega) λj1 n6 lx ct hf f6=> ?_
  rw [List.filter_eq_self.2 (Ka x sq)]at hf
  have f56:=f5.aT f6
  have z5:=f5.size
  refine so.push (ts:=52) (t:=57) (x.1,j1,n6,lx) x (by kernel_rfl) (by kernel_rfl) (aO.ag f56) (f4.aT f56) ⟨rfl,hf.bT⟩ (cV.right.2 x sq).1 (λq Kc Gh=> ?_) rfl (by omega) λl' fG d' eQ hq8 f8 hl8=> ?_
  ·have h1:=(aO.own.ge q Kc).2
   have ab:=(hf.ge q Gh).1
   omega
  ·rw [cE (by omega)]
   refine⟨⟨k+1,PW++[(x.1,j1,n6,lx)],rfl,by omega,?_,f8⟩,dU k4⟩
   rw [azP,aa];exact hq8
 ·have e:k=cz:=by simp at c0;omega
  have mO:ss.take k=ss:=ayB (by omega)
  rw [mO]at aO
  refine aS.Gi aO.own.bT aO.kE cV.right.w (by have:=aO.kE.len;omega) aG λke n7 qz dx rows k6 mP ga f7=>⟨_,_,_,rfl,?_⟩
  exact hk ke n7 qz dx rows (k6.base (by have:=f4.size;omega)) mP (by have:=aO.kE.len;have:=aO.own.1;rw [this]at ga;omega) ((kD.aT f4).aT f7)
theorem aam{v w:Value}:oZ azB 274 [v,w] (azw 0*1) (.agg ⟨[v]⟩):=by unfold oZ;kernel_rfl
theorem PZ{H:U}{x cA N M:Nat}{m:aZ.eX}{st:aZ.gB}{A:en}{p:cK}{s:ByteArray}{ss:List bF}{os:List Int}{a:Option Addr}{n c:Nat}{f t:Int}{K:Option Addr->Nat->Nat->U->Prop}(al:a6 H ⟨x,0,none⟩ (o0 A))(bB:aZ.ib H A.s A.d cA A.cu none 0 0 [] A.Sd st m N M)(vx:p.2.1=0)(AJ:st.now p.2.2=some s)(vy:0<=f)
  (cV:hN ss) (eo:ss.length<=100) (hs:bd s=fs ss) (aw:bt cH H a n c os) (aB:jJ os) (ay:n<=1000000) (dT:∀x∈ss,x.1∈os)
  (Ka:∀x∈ss,∀y∈x.2,lP f t y=true) (aG:∀x∈ss,x.2.length<=10000) (hk:∀aV bn bg H' rows,Own dP 103 H.size H' aV bn bg rows->gP ss rows->bn<=10000*ss.length->Fr [] H H'->K aV bn bg H'):
  dy aan [ax (some (ak x)),.agg ⟨[o p.1,o p.2.1,aj p.2.2]⟩,J a n c,.agg ⟨[o f,o t]⟩] H K:=by
 apply aao
 intro b H1 bb b1 ao bK bI aP bw
 have ht:=bb.size
 have z2:=bK.size
 have z3:=bw.size
 have aL:=bb.eq
 have a':=bK.eq
 have cX:=bw.eq
 have f3:=(bb.af.aT bK.af).aT bw.af
 have w7:=al.ag f3
 have qA:=bB.ag f3
 have pL:=(bb.bz.ag bK.af).ag bw.af
 have P0:a6 aP ⟨b1,0,none⟩ [.int .i64 p.1,.int .i64 p.2.1,.string p.2.2]:=bK.bz.ag bw.af
 have P1:a6 aP ⟨bI,0,none⟩ [.int .i64 f,.int .i64 t]:=bw.bz
 have ed:(if(0:Int)>f then(0:Int)else f)=f:=if_neg (by omega)
 refine⟨_,pL.bY rfl,w8 rfl ⟨_,w7.fk 1 rfl,p.2.2,P0.cF 2 rfl,aZ.w9 qA ?_⟩⟩
 rw [AJ]
 refine⟨f,P1.bY rfl,_,pL.bY rfl,w8 rfl ⟨0,w7.fk 12 rfl,?_⟩⟩
 rw [ed]
 refine P1.iQ (v:=.int .i64 f) (by kernel_rfl) (by kernel_rfl) (pM rfl) (by simp [azI]) λa8 Gj f4=> ?_
 have Gj:a6 a8 ⟨bI,0,none⟩ [.int .i64 f,.int .i64 t]:=by simpa [azI]using Gj
 have P2:=P0.af f4 (by simp;omega)
 have aap:=pL.af f4 (by simp;omega)
 have g4:Fr [] H a8:=f3.ag f4 λk hk=>by simp at hk;omega
 refine⟨0,(by have q:ah 3 a8 ⟨b1,1,none⟩ (.int .i64 p.2.1):=P2.cF 1 rfl;rwa [vx]at q),_,_,Gj.f' rfl,?_⟩
 apply aaq
 intro k7 bA gH
 have z5:=gH.size
 have yN:a6 bA ⟨k7,0,none⟩ [.nilFunc,.nilFunc]:=gH.bz
 refine yN.iQ (v:=.agg ⟨[.func (Fn.func 224) ⟨[]⟩ ⟨[]⟩,.func (Fn.func 227) ⟨[]⟩ ⟨[]⟩]⟩) (by kernel_rfl) (by kernel_rfl) (λv aI=>by simp [azI]at aI;rcases aI with rfl|rfl<;>rfl) (by simp [azI]) λct Kd f6=> ?_
 have Kd:a6 ct ⟨k7,0,none⟩ [.func (Fn.func 224) ⟨[]⟩ ⟨[]⟩,.func (Fn.func 227) ⟨[]⟩ ⟨[]⟩]:=by simpa [azI]using Kd
 have kg:=gH.eq
 have f46:Fr [] a8 ct:=gH.af.ag f6 λk hk=>by simp at hk;omega
 have g6:=g4.aT f46
 refine⟨_,_,Kd.f' rfl,_,_,rfl,(Gj.ag f46).f' rfl,(by have q:ah 3 ct ⟨b1,1,none⟩ (.int .i64 p.2.1):=(P2.ag f46).cF 1 rfl;rwa [vx]at q),cM (by kernel_rfl) ⟨_,aam,?_⟩⟩
 refine aag cV hs (aw.ag g6) aB ay dT Ka aG λke n7 qz dx rows k6 mP ga f7=> ?_
 have Kb:=cV.len
 have vz:=g6.size
 have CO:=al.ag (g6.aT f7)
 refine aar k6.bT (by omega) (λy eQ R f8 cp=>aas ((aap.ag f46).ag f7) CO rfl y f8 cp) λeQ f8=> ?_
 exact⟨_,_,_,rfl,hk ke n7 qz eQ rows ((k6.base vz).ag f8) mP ga ((g6.aT f7).aT f8)⟩
end Go.Proofs.Bt
namespace Go.Proofs
open aS (bF cy gP hP cL eK fV fI dr sP GN vN A4 um y0 C' jg Rp)
theorem abG(p:bl->Bool){l:List bl}(h:gJ l)(t:Int):fI (l.filter p) t=(fI l t).filter λv=>p (t,v):=by
 cases aI:fI l t with
 |none=>
  rw [sP]at aI
  exact sP.2 λx aa=>aI x (ax2.1 aa).1
 |some v=>
  have hm:=GN aI
  by_cases aH:p (t,v)=true
  ·have h1:=vN (abH p h) (ax2.2 ⟨hm,aH⟩)
   simp only at h1
   rw [h1];simp [aBu,aH]
  ·have:fI (l.filter p) t=none:=sP.2 λx aa e=>by
    obtain⟨h1,ab⟩:=ax2.1 aa
    have ar:=vN h h1
    rw [e,aI]at ar
    have:x=(t,v):=Prod.ext e (by simpa using ar.symm)
    rw [this]at ab;exact aH ab
   rw [this];simp [aBu,aH]
theorem Ke(p:Int->bl->Bool)(s:bF)(ss:List bF):o1 p (s::ss)=(if s.2.filter (p s.1)=[]then []else [(s.1,s.2.filter (p s.1))])++o1 p ss:=by
 unfold o1
 rw [axE,List.filter_cons]
 by_cases h:s.2.filter (p s.1)=[]
 ·rw [if_neg (by simpa using h),if_pos h,ayn]
 ·rw [if_pos (by simpa using h),if_neg h,azt]
theorem abI{p:Int->bl->Bool}{ss:List bF}{x:bF}(h:x∈o1 p ss):∃s∈ss,s.1=x.1:=by
 unfold o1 at h
 obtain⟨s,hs,rfl⟩:=ayf.1 (ax2.1 h).1
 exact⟨s,hs,rfl⟩
theorem Rq{p:Int->bl->Bool}:∀{ss:List bF},cy ss->∀id t,fV (o1 p ss) id t=(fV ss id t).filter λv=>p id (t,v)
 |[],_,id,t=>rfl
 |s::ss,h,id,t=>by
  obtain⟨h1,ab,ar⟩:=cy.cons.1 h
  have ih:=Rq (p:=p) ar id t
  rw [Ke,aS.jh]
  have aO:=abG (p s.1) ab.2 t
  by_cases az:s.1=id
  ·subst az
   rw [if_pos rfl,<-aO]
   split
   ·rename_i e
    rw [e,ayn]
    exact aS.y1 λx aa=>by
     obtain⟨y,aA,e⟩:=abI aa
     have:=h1 y aA;omega
   ·rw [azt,aS.jh,if_pos rfl]
  ·rw [if_neg az,<-ih]
   split
   ·rfl
   ·rw [azt,aS.jh,if_neg az]
def xb(d:Int):Int->bl->Bool:=λ_ x=>decide (azE x.1 100=d)
def ep(M:List bF)(d:Int):List bF:=o1 (xb d) M
theorem rm{M:List bF}(h:cy M)(d:Int):cy (ep M d):=abJ h
theorem vO{M:List bF}(h:cy M)(d id t:Int):fV (ep M d) id t=if azE t 100=d then fV M id t else none:=by
 unfold ep
 rw [Rq h]
 unfold xb
 split<;>cases fV M id t<;>simp_all [aBu]
theorem Rr{M:List bF}(h:cy M)(r:dr)(d:Int):ep (eK M r) d=if azE r.1 100=d then eK (ep M d) r else ep M d:=by
 obtain⟨h1,ab⟩:=um (x:=r) h
 obtain⟨g1,g2⟩:=um (x:=r) (rm h d)
 have g0:cy (if azE r.1 100=d then eK (ep M d) r else ep M d):=by
  split
  ·exact g1
  ·exact rm h d
 refine A4 (rm h1 d) g0 λid t=> ?_
 rw [vO h1,ab]
 split
 ·rename_i aW
  split
  ·rename_i he
   rw [if_pos (by rw [he.2];exact aW),g2,if_pos he]
  ·rename_i he
   split
   ·rw [g2,if_neg he,vO h,if_pos aW]
   ·rw [vO h,if_pos aW]
 ·rename_i aW
  split
  ·rename_i aR
   rw [g2,if_neg (by rintro⟨_,rfl⟩;exact aW aR),vO h,if_neg aW]
  ·rw [vO h,if_neg aW]
theorem KK{M:List bF}(h:cy M){rows:List dr}(aB:∀x,x∈rows↔fV M x.2.1 x.1=some x.2.2):cL [] rows=M:=by
 obtain⟨fB,gj⟩:=y0 (rows:=rows) cy.nil
 refine A4 fB h λid t=> ?_
 rw [gj]
 have e:fV [] id t=none:=rfl
 rw [e,Option.or_none]
 have hm:∀v,(t,v)∈jg rows id↔fV M id t=some v:=λv=>by
  have:=Rp (rows:=rows) (x:=(t,id,v))
  rw [this,aB]
 cases aI:fI (jg rows id).reverse t with
 |none=>
  cases cV:fV M id t with
  |none=>rfl
  |some v=>exact absurd rfl (sP.1 aI (t,v) (aBE.2 ((hm v).2 cV)))
 |some v=>
  have:=GN aI
  rw [aBE,hm]at this
  exact this.symm
theorem KL{M:List bF}(h:cy M){rows:List dr}(aB:gP M rows)(x:dr):x∈rows↔fV M x.2.1 x.1=some x.2.2:=by
 rw [aB.2,C' h]
theorem Qd{M:List bF}(h:cy M){rows:List dr}(aB:gP M rows):cL [] rows=M:=KK h (KL h aB)
theorem aaN{M:List bF}(h:cy M){cg:List (Int×List dr)}(aR:∀p∈cg,gP (ep M p.1) p.2)(bW:∀id t v,fV M id t=some v->∃p∈cg,p.1=azE t 100):cL [] (cg.flatMap (·.2))=M:=
 KK h λx=>by
  rw [azi]
  constructor
  ·rintro⟨p,aH,aa⟩
   have:=(KL (rm h p.1) (aR p aH) x).1 aa
   rw [vO h]at this
   split at this
   ·exact this
   ·cases this
  ·intro aa
   obtain⟨p,aH,e⟩:=bW _ _ _ aa
   refine⟨p,aH,(KL (rm h p.1) (aR p aH) x).2 ?_⟩
   rw [vO h,if_pos e.symm];exact aa
end Go.Proofs
namespace Go.Proofs.Bt
open aS (bF eG kC dM encS dP cy gP cL h9 iP dr ia hN fs hP)
theorem aat{ss:List bF}{rows:List dr}(h:gP ss rows):rows.length<=eD ss:=by
 have fL:rows.Nodup:=h.1.imp λ{a b} oj e=>by subst e;unfold aS.ma at oj;omega
 have hs:=aZ.AG (λ_:dr=>1) (a:=rows) (b:=ss.flatMap hP) fL λx aa=>azi.2 ((h.2 x).1 aa)
 have e:∀l:List dr,(l.map λ_=>1).sum=l.length:=λl=>by
  induction l with
  |nil=>rfl
  |cons x l ih=>simp [ih];omega
 rw [e,e,aBD]at hs
 have a':(ss.map λs=>(hP s).length)=ss.map λs=>s.2.length:=aBi λs _=>by unfold hP;simp
 unfold eD
 rw [a']at hs;exact hs
theorem AK{p:Int->bl->Bool}:∀ss:List bF,eD (o1 p ss)<=eD ss
 |[]=>axx _
 |s::ss=>by
  have ih:=AK (p:=p) ss
  have aG:=aAm (p s.1) s.2
  rw [Ke]
  unfold eD at ih⊢
  split
  ·rw [ayn,axE,azT];omega
  ·rw [azt,axE,axE,azT,azT];simp only;omega
structure Gk(M:List bF)(N:Nat)(db:ey)(A:en):Prop where
 right:cy M
 rl:eD M<=N
 len:M.length<=100
 dH:∀s∈M,0<=s.1/\s.1<200
 xa:∀s∈M,aS.eJ s.2
 tim:∀s∈M,∀y∈s.2,0<=y.1/\y.1<1099511627776
 ps:iz A.ps A.nx
 day:∀p∈A.ps,p.1*100<1099511627776
 dat:∀p∈A.ps,∃s,db.st.now p.2.2=some s/\bd s=fs (ep M p.1)
 all:∀id t v,aS.fV M id t=some v->∃p∈A.ps,p.1=azE t 100
structure P3(M:List bF)(N:Nat)(A:en)(H1:U)(k:Nat)(a:Option Addr)(n c:Nat)(H:U):Prop where
 ex:∃cg:List (Int×List dr),Own dP 103 H1.size H a n c (cg.flatMap (·.2))/\(∀d∈cg,gP (ep M d.1) d.2)/\∀p∈A.ps.take k,∃d∈cg,d.1=p.1
 n:n<=N*k
 pm:∃ck L,dN aS.du H A.ds ck L/\sr L
 af:Fr [A.ds] H1 H
theorem P4{M:List bF}{N:Nat}{db:ey}{A:en}(h:Gk M N db A){p:cK}(aH:p∈A.ps):hN (ep M p.1)/\(ep M p.1).length<=100/\(∀x∈ep M p.1,x.2.length<=10000)/\∀x∈ep M p.1,(∃s∈M,s.1=x.1)/\∀y∈x.2,p.1=azE y.1 100/\0<=y.1/\y.1<1099511627776:=by
 have mem:∀x∈ep M p.1,∃s∈M,x=(s.1,s.2.filter (xb p.1 s.1)):=λx aa=>by
  unfold ep o1 at aa
  obtain⟨s,hs,e⟩:=ayf.1 (ax2.1 aa).1
  exact⟨s,hs,e.symm⟩
 refine⟨⟨rm h.right _,λx aa=> ?_⟩,?_,λx aa=> ?_,λx aa=> ?_⟩
 ·obtain⟨s,hs,rfl⟩:=mem x aa
  have q:=h.xa s hs
  exact⟨h.dH s hs,⟨ax4 (aAm _ _) q.len,q.AL.filter _,λy aA=>q.dH y (ax2.1 aA).1,λy aA=>q.v y (ax2.1 aA).1⟩⟩
 ·unfold ep o1
  refine ax4 (aAm _ _) ?_
  rw [azU];exact h.len
 ·obtain⟨s,hs,rfl⟩:=mem x aa
  have:=(h.xa s hs).len
  exact ax4 (aAm _ _) (by omega)
 ·obtain⟨s,hs,rfl⟩:=mem x aa
  refine⟨⟨s,hs,rfl⟩,λy aA=> ?_⟩
  obtain⟨h1,ab⟩:=ax2.1 aA
  have:=(h.xa s hs).dH y h1
  exact⟨(of_decide_eq_true ab).symm,this⟩
theorem look_ok{H:U}{X:Nat->Prop}{x N n c:Nat}{A:en}{db:ey}{M:List bF}{os:List Int}{a:Option Addr}{K:Option Addr->Nat->Nat->U->Prop}(h:fN H X x A db)(bV:Gk M N db A)(fl:N<=10000)(vA:db.ss=[])(aa:bt cH H a n c os)(aB:jJ os)(ay:n<=1000000)(dT:∀s∈M,s.1∈os)(aau:A.ds∉an a)
  (hk:∀aV bn bg H' cQ,Own dM 57 H.size H' aV bn bg cQ->eG H' cQ M->(∀m∈cQ,∀q∈an m.2.1,H.size<=q)->Fr [A.ds] H H'->K aV bn bg H'):
  dy Kf [ax (some (ak x)),J a n c,ia 0 1099511627776,aD true] H K:=by
 apply P5
 intro b H1 bb
 have ht:=bb.size
 have aL:=bb.eq
 have eY:=h.ag bb.af
 have rn:a6 H1 ⟨b,0,none⟩ [.int .i64 0,.int .i64 1099511627776]:=bb.bz
 have j2:=eY.om.len
 have hlen:=bV.ps.len
 have auU:A.ds<H.size:=(h.sep.2 _ (azR (i:=5) rfl) _ (by simp)).2
 have nx:x∉[A.ds]:=λaq=>h.sep.ne (i:=0) (j:=5) (by decide) rfl rfl (k:=x) (by simp) (by simp at aq;simp [aq])
 have P6:∀k∈A.s.block::A.cA::A.cu::A.Sd,k∉[A.ds]:=λk hk aq=>h.sep.ne (i:=1) (j:=5) (by decide) rfl rfl hk (by simp at aq;simp [aq])
 have aav:∀k∈an A.gb.1,k∉[A.ds]:=λk hk aq=>h.sep.ne (i:=3) (j:=5) (by decide) rfl rfl hk (by simp at aq;simp [aq])
 have Gl:A.p∉[A.ds]:=λaq=>by
  have e:A.p=A.ds:=by simpa using aq
  obtain⟨iR,dJ,a',ba⟩:=h.nH
  cases a'
  rw [e,h.pm]at ba;cases ba
 have k5:x<H.size:=(h.sep.2 _ (azR (i:=0) rfl) _ (by simp)).2
 have auV:A.p<H.size:=(h.sep.2 _ (azR (i:=5) rfl) _ (by simp)).2
 have P7:=eY.aR.len.trans eY.kE.len
 rw [vA]at P7
 refine⟨λae H'=>∃k:Int,(k=0\/k=1)/\ae=[.int .i64 k]/\H'=H1,au (λ_=>⟨0,.inl rfl,rfl,rfl⟩) (λ_=>⟨1,.inr rfl,rfl,rfl⟩),?_⟩
 rintro br aaw ao ⟨auW,Kg,e,rfl⟩
 simp only [List.cons.injEq,Value.int.injEq,true_and,and_true]at e
 subst e
 refine⟨_,_,_,eY.bz.fk 3 rfl,λae H'=>match ae with|[.slice aV bn bg,.int _ i]=>∃k:Nat,i=k/\k<=A.gb.2.1/\P3 M N A ao k aV bn bg H'|_=>False,λae _=>match ae with|[_,.int _ i]=>A.gb.2.1-i.toNat|_=>0,⟨0,rfl,by omega,⟨[],Own.nil _ _ _ _,by simp,by simp⟩,by omega,⟨0,[],⟨eY.pm,by simp,by simp,by simp⟩,by intro e he;cases he⟩,Fr.refl _ _⟩,?_⟩
 rintro br aV bn bg i aP ⟨k,rfl,eC,dK⟩
 have f3:=dK.af
 have z3:=f3.size
 have pK:=rn.af f3 (by simp;omega)
 have Kh:=eY.bz.af f3 nx
 have aax:=eY.bT.af f3 (λq aO=>P6 q (by simp at aO⊢;rcases aO with r|r|r<;>simp [r])) (λq aO=>P6 q (by simp [aO]))
 have aay:=eY.om.af f3 (fO aav)
 have aaz:=eY.nH.af f3 Gl
 have yO:bt cH aP a n c os:=(aa.ag bb.af).af f3 (fO λq aO aq=>by simp at aq;subst aq;exact aau aO)
 refine au (λc0=> ?_) λc0=> ?_
 ·have k4:k<A.gb.2.1:=by simpa using c0
  obtain⟨p,aH⟩:=fM (l:=A.ps) (i:=k) (by omega)
  have pN:=azR aH
  obtain⟨⟨nI,rp⟩,vx,P8,Ki,o2⟩:=bV.ps.ok p pN
  have auX:=bV.day p pN
  obtain⟨Kj,Gm,Gn⟩:=bV.dat p pN
  obtain⟨cV,CP,xc,CQ⟩:=P4 bV pN
  refine⟨λae H'=>match ae with|[.slice aV bn bg]=>P3 M N A ao (k+1) aV bn bg H'|_=>False,aay.get (k:=k) rfl aH (bh (by omega)) λaC b4 av=>⟨_,_,_,vB av,?_⟩,?_⟩
  ·refine su (x:=p) rfl λk7 bA dI mb f5=>⟨_,mb.bY rfl,P9 nI rp λct f6=> ?_⟩
   refine iS (v:=.agg ⟨[.int .i64 (p.1*100),.int .i64 ((p.1+1)*100)]⟩) (by kernel_rfl) (by kernel_rfl) (λv h=>by simp [azI]at h;rcases h with rfl|rfl<;>rfl) rfl λrq dx mQ rr f7=> ?_
   have rr:a6 dx ⟨rq,0,none⟩ [.int .i64 (p.1*100),.int .i64 ((p.1+1)*100)]:=rr
   have f57:=f6.aT f7
   have f37:=f5.aT f57
   have tX:=pK.ag f37
   have P':=mb.ag f57
   refine⟨λ_ H'=>H'=dx,⟨_,rr.bY rfl,_,tX.cF 1 rfl,au (λc=>by simp at c;omega) λ_=>⟨_,rr.cF 1 rfl,_,tX.bY rfl,au (λc=>by simp at c;omega) λ_=>rfl⟩⟩,?_⟩
   rintro br _ rfl
   refine⟨p.1,p.2.1,p.2.2,P'.f' rfl,_,_,tX.f' rfl,?_⟩
   refine PZ (Kh.ag f37) (aax.ag f37) vx Gm (by omega) cV CP Gn (yO.ag f37) aB ay (λy aA=>by obtain⟨⟨s,hs,e⟩,_⟩:=CQ y aA;rw [<-e];exact dT s hs) (λy aA w hw=>by have:=((CQ y aA).2 w hw).2;unfold lP;simp;omega) xc λnJ n8 pO eQ rows jt mP _ f8=> ?_
   have mR:=aat mP
   have xd:=AK (p:=xb p.1) M
   have auY:=bV.rl
   have aaA:=jt.1
   have auZ:n8<=N:=by unfold ep at mR;omega
   obtain⟨cg,AM,nK,Gp⟩:=dK.ex
   have f38:=f37.aT f8
   have au0:=f38.size
   have aaB:=dK.n
   have aaC:N*k<=10000*60:=aBh fl (by omega)
   refine ic (t:=103) (E:=dP) (bytes:=24) aS.tY aS.tZ (AM.ag f38) jt.bT (by omega) (by omega) λa9 n9 c9 cN sv f9 g9=> ?_
   have aaD:=sv.1
   have z9:=f9.size
   have Gq:∀q∈an aV,ao.size<=q:=λq aO=>(AM.ge q aO).1
   have f29:Fr [A.ds] ao cN:=(f3.trans' f38 (λq aO _=>aO) (by simp)).trans' f9 (λq aO _=>aO) λq aO bQ=>by have:=Gq q aO;omega
   have f39:Fr (an aV) aP cN:=f38.trans' f9 (by simp) λq aO _=>aO
   have aaE:A.ds∉an aV:=λaq=>by have:=Gq _ aq;omega
   obtain⟨ck,L,Kk,Kl⟩:=dK.pm
   have aaF:=(Kk.ag aS.du f38).af aS.du f9 aaE
   refine au (λ_=> ?_) λc=>by cases c
   have aaG:=(Kh.ag f38).af f9 fun(aq:x∈an aV)=>by have:=Gq _ aq;omega
   have aaH:=(aaz.ag f38).af f9 fun(aq:A.p∈an aV)=>by have:=Gq _ aq;omega
   have aaI:=(P'.ag f8).af f9 fun(aq:k7∈an aV)=>by have:=(AM.ge _ aq).2;omega
   refine⟨_,aaG.fk 13 rfl,_,aaI.bY rfl,aaJ aaH aaF Kl Kg λau1 vC L' aaK aaL Qa=> ?_⟩
   refine⟨⟨cg++[(p.1,rows)],?_,?_,?_⟩,?_,⟨vC,L',aaK,aaL⟩,f29.trans' Qa (λq aO _=>aO) λq aO _=>aO⟩
   ·have:=sv.af Qa (fO λq aO aq=>by simp at aq;subst aq;have:=(sv.ge _ aO).1;omega)
    simpa using this
   ·intro d aR
    rcases azb.1 aR with aR|aR
    ·exact nK d aR
    ·simp at aR;subst aR;exact mP
   ·intro q aO
    rw [azP,aH]at aO
    rcases azb.1 aO with aO|aO
    ·obtain⟨d,h1,ab⟩:=Gp q aO
     exact⟨d,by simp [h1],ab⟩
    ·simp at aO;subst aO;exact⟨(q.1,rows),by simp,rfl⟩
   ·rw [aaD,ax6,<-aaA,Nat.mul_add,Nat.mul_one];have:=AM.1;omega
  ·rintro br a9 n9 c9 cN aaM
   rw [cE (by omega)]
   exact⟨⟨k+1,rfl,by omega,aaM⟩,dU k4⟩
 ·have e:k=A.gb.2.1:=by simp at c0;omega
  have mO:A.ps.take k=A.ps:=ayB (by omega)
  obtain⟨cg,AM,nK,Gp⟩:=dK.ex
  rw [mO]at Gp
  have aaB:=dK.n
  have aaC:N*k<=10000*60:=aBh fl (by omega)
  refine⟨_,_,_,Kh.fk 10 rfl,λae H'=>ae=[.slice none 0 0,.int .i64 0]/\H'=aP,λ_ _=>0,⟨rfl,rfl⟩,?_⟩
  rintro br a4 nL c4 i4 a8 ⟨gQ,rfl⟩
  cases gQ
  refine au (λc=>by simp at c;simp at P7;omega) λ_=> ?_
  have vD:∀{α:Type} {E:di α} {H:U},bt E H none 0 0 []:=⟨rfl,axx _,.inl rfl⟩
  have au2:=bV.rl
  refine aS.xe (hs:=[]) (ss:=[]) vD .nil aS.cy.nil AM.bT (by omega) (by omega) (by simp) λa5 n5 c5 bA hs5 fZ jK hq5 f5=> ?_
  rw [aaN bV.right nK λid t v aI=>by
   obtain⟨p,aH,e⟩:=bV.all id t v aI
   obtain⟨d,h1,ab⟩:=Gp p aH
   exact⟨d,h1,ab.trans e⟩]at jK
  have Qb:=fZ.1.trans jK.len
  refine aS.xe (rows:=[]) fZ.bT jK bV.right vD (by have:=bV.len;omega) (by omega) (λs hs=>by have:=(bV.xa s hs).len;omega) λj1 n6 lx ct Gr hf nM Gs f6=> ?_
  refine⟨_,_,_,rfl,hk j1 n6 lx ct Gr (hf.base (base':=H.size) (by have:=f5.size;omega)) nM (λm hm q aO=>by have:=Gs m hm q aO;have:=f5.size;omega) ?_⟩
  exact(((bb.af.trans' f3 (T:=[A.ds]) (by simp) λq aO _=>aO).trans' f5 (λq aO _=>aO) (by simp))).trans' f6 (λq aO _=>aO) (by simp)
open aS (bF eG kC dM encS dP cy gP cL h9 iP dr ia hN fs hP kh ma sw)
theorem aaO{H:U}{a:Option Addr}{n c:Nat}{rows:List dr}{K:Bool->U->Prop}(aa:bt dP H a n c rows)(bS:kh rows)(ay:n<=1000000)(hk:∀H',Fr [] H H'->K true H'):
  eu aaP [J a n c] H K:=by
 apply aaQ
 have aG:=aa.len
 refine⟨λae H'=>match ae with|[.int _ i]=>∃k:Nat,i=k/\k<=n/\Fr [] H H'|_=>False,λae _=>match ae with|[.int _ i]=>n-i.toNat|_=>0,⟨0,rfl,by omega,Fr.refl _ _⟩,?_⟩
 rintro br i H1 ⟨k,rfl,eC,f1⟩
 refine au (λc0=> ?_) λc0=>⟨_,rfl,hk H1 f1⟩
 have k4:k<n:=by simpa using c0
 obtain⟨x,pP⟩:=fM (l:=rows) (i:=k) (by omega)
 refine(aa.ag f1).get (k:=k) rfl pP (bh (by omega)) λaC b4 av=>⟨_,_,_,sw av,?_⟩
 refine iS (v:=.agg ⟨dP.cells x⟩) (by kernel_rfl) (by kernel_rfl) aS.Gt rfl λbI ao cO k8 f2=> ?_
 have j0:=f1.aT f2
 have k8:a6 ao ⟨bI,0,none⟩ [.int .i64 x.1,.int .i64 x.2.1,.int .i64 x.2.2]:=k8
 rw [cE (by omega)]
 refine au (λc1=> ?_) λc1=>⟨⟨k+1,rfl,by omega,j0⟩,dU k4⟩
 have sx:0<k:=by simpa using c1
 rw [show IntKind.i64.wrap ((k:Int)-1)=((k-1:Nat):Int) by rw [cj (by omega) (by omega)];omega]
 obtain⟨y,Qc⟩:=fM (l:=rows) (i:=k-1) (by omega)
 have bQ:ma y x:=by
  obtain⟨h1,rfl⟩:=axC.1 pP
  obtain⟨ab,rfl⟩:=axC.1 Qc
  exact aAD.1 bS (k-1) k ab h1 (by omega)
 unfold ma at bQ
 refine(aa.ag j0).get (k:=k-1) rfl Qc (bh (by omega)) λad2 ea2 mc=>⟨_,_,_,sw mc,?_⟩
 refine iS (v:=.agg ⟨dP.cells y⟩) (by kernel_rfl) (by kernel_rfl) aS.Gt rfl λdz aP fm pK f3=> ?_
 have pK:a6 aP ⟨dz,0,none⟩ [.int .i64 y.1,.int .i64 y.2.1,.int .i64 y.2.2]:=pK
 have k8:=k8.ag f3
 have kD:=j0.aT f3
 have fin:(∃eg:Nat,((k+1:Nat):Int)=eg/\eg<=n/\Fr [] H aP)/\n-(k+1)<n-k:=⟨⟨k+1,rfl,by omega,kD⟩,by omega⟩
 refine⟨_,k8.bY rfl,_,pK.bY rfl,au (λc2=>by simp at c2;omega) λc2=>⟨_,k8.bY rfl,_,pK.bY rfl,au (λc3=>⟨_,k8.cF 1 rfl,_,pK.cF 1 rfl,au (λc4=>by simp at c3 c4;omega) λ_=>⟨⟨k+1,rfl,by omega,kD⟩,dU k4⟩⟩) λ_=>⟨⟨k+1,rfl,by omega,kD⟩,dU k4⟩⟩⟩
theorem aaR{H:U}{a:Option Addr}{n c:Nat}{rows:List dr}{ss:List bF}{K:ByteArray->Int->U->Prop}(aa:bt dP H a n c rows)(cV:hN ss)(mP:gP ss rows)(ay:n<=1000000)(hk:∀H',Fr [] H H'->K ⟨(fs ss).toArray⟩ 0 H'):
  aK aaS [o 0,J a n c] H λv H'=>∃s e,v=.tuple ⟨[.string s,.int .i64 e]⟩/\K s e H':=by
 apply aaT
 refine⟨λae H'=>ae=[.bool false]/\Fr [] H H',au (λ_=>aaO aa mP.1 ay λH1 f1=>⟨rfl,f1⟩) λc=>by simp at c,?_⟩
 rintro br b H1 ⟨e,f1⟩
 simp only [List.cons.injEq,Value.bool.injEq,and_true]at e
 subst e
 refine au (λc=>by cases c) λ_=>au (λ_=> ?_) λc=>by simp at c
 apply aaU
 have vD:∀{α:Type} {E:di α} {H:U},bt E H none 0 0 []:=⟨rfl,axx _,.inl rfl⟩
 refine aS.xe (hs:=[]) (ss:=[]) vD .nil aS.cy.nil (aa.ag f1) (by omega) (by omega) (by simp) λa5 n5 c5 bA hs5 fZ jK hq5 f5=>⟨_,_,_,rfl,?_⟩
 rw [Qd cV.right mP]at jK
 have Qb:=fZ.1.trans jK.len
 have Kb:=cV.len
 refine aS.aaV fZ.bT jK cV.right (by omega) (λs hs=>by have:=(cV.dH s hs).2.len;omega) (λs hs y aA=>(cV.dH s hs).2.v y aA) (λcq=>absurd cV cq) λ_ ct f6=>⟨_,_,rfl,hk ct ((f1.aT f5).aT f6)⟩
end Go.Proofs.Bt
