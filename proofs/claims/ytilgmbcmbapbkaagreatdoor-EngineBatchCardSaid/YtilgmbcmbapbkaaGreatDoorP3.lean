/- Part of a proof. -/
import Derived.Test.YtilgmbcmbapbkaaGreatDoorP2
import Derived.Test.YtilgmbcmbapbkaaGreatDoorRows
open _root_.Int renaming toNat→azw,fdiv→azy,tmod→azA,tdiv→azE,toNat_natCast→ayS
open _root_.BitVec renaming ofInt→azx,toNat→azz,ofNat→azJ
open _root_.Go.Proofs.Tryz renaming prog→azB
open _root_.ByteArray renaming size→azC,extract→azG,toList→azL,empty→ayV
open _root_.Go.Value renaming int→ayZ,bool→azD,cells→azI
open _root_.Go.IntKind renaming bits→azF,i64→azK,signed→azO,wrap→azQ
open _root_.UInt8 renaming ofNat→axX,toNat_ofNat'→axY
open _root_.Nat renaming lt_or_ge→azH,pow_le_pow_right→azN,zero_add→axJ,pow_succ→aym,div_lt_iff_lt_mul→azq
open _root_.List renaming toArray→azM,take_add_one→azP,mem_append→azb,take_length→ayX,length_append→ax6,eq_nil_of_length_eq_zero→ayT,take_of_length_le→ayB,getElem?_eq_some_iff→axC,mem_of_getElem?→azR,length_cons→ayi
set_option linter.unusedVariables false
set_option linter.unusedSimpArgs false
set_option maxRecDepth 100000
open Go Go.bk
namespace Go.Proofs
theorem pI:Tryz.prog.follows .mixedOrders=true:=by kernel_rfl
abbrev bx:=List Value->U->Prop
abbrev cr:=List Value->U->Nat
abbrev ah:=jS azB
abbrev bp:=oz azB
abbrev YF:=fo azB
abbrev eu(k:FuncId)(l:List Value)(H:U)(K:Bool->U->Prop):Prop:=fo azB k ⟨l⟩ H λv H'=>∃b,v=.bool b/\K b H'
abbrev cG(k:FuncId)(l:List Value)(H:U)(K:Int->U->Prop):Prop:=fo azB k ⟨l⟩ H λv H'=>∃n,v=.int .i64 n/\K n H'
abbrev dv(k:FuncId)(l:List Value)(H:U)(K:ByteArray->U->Prop):Prop:=fo azB k ⟨l⟩ H λv H'=>∃s,v=.string s/\K s H'
abbrev qW(k:FuncId)(l:List Value)(H:U)(K:Option Addr->U->Prop):Prop:=fo azB k ⟨l⟩ H λv H'=>∃a,v=.pointer a/\K a H'
abbrev dy(k:FuncId)(l:List Value)(H:U)(K:Option Addr->Nat->Nat->U->Prop):Prop:=fo azB k ⟨l⟩ H λv H'=>∃a n c,v=.slice a n c/\K a n c H'
abbrev ZS(k:FuncId)(l:List Value)(H:U)(K:Option Nat->U->Prop):Prop:=fo azB k ⟨l⟩ H λv H'=>∃r,v=.map r/\K r H'
abbrev kY(k:FuncId)(l:List Value)(H:U)(K:Value->U->Prop):Prop:=fo azB k ⟨l⟩ H λv H'=>∃x,v=x/\K x H'
abbrev dQ(k:FuncId)(l:List Value)(H:U)(K:U->Prop):Prop:=fo azB k ⟨l⟩ H λv H'=>v=.tuple ⟨[]⟩/\K H'
abbrev bH(a:Option Addr)(i:Int)(n:Nat)(K:Addr->Prop):Prop:=fp a λaC=>dB (decide (0<=i/\i<(n:Int))) (K aC)
open Go.IntKind (wrap)
open Go.Addr renaming add → aX
open Tryz
abbrev bm(H:U)(b:Nat)(l:List Value)(t:TypeId)(H':U):Prop:=dV H b (.cells ⟨l⟩ t) H'
abbrev bO:=gD azB
abbrev aK(k:FuncId)(l:List Value)(H:U)(R:Value->U->Prop):Prop:=fo azB k ⟨l⟩ H R
abbrev dw(t:TypeId)(x y:Value):Sem Value:=Builtin.append_ ⟨[t,t]⟩ t ⟨[x,y]⟩
abbrev ak(b:Nat):Addr:=⟨b,0,none⟩
abbrev bN(b n:Nat):Addr:=⟨b,n,none⟩
abbrev o(n:Int):Value:=.int .i64 n
abbrev b3(n:Int):Value:=.int .u64 n
abbrev aj(s:ByteArray):Value:=.string s
abbrev aD(b:Bool):Value:=.bool b
abbrev J(a:Option Addr)(n c:Nat):Value:=.slice a n c
abbrev b2:Value:=.slice none 0 0
abbrev ax(a:Option Addr):Value:=.pointer a
abbrev aJ(l:List Value):Value:=.agg ⟨l⟩
abbrev a1(l:List Value):Value:=.tuple ⟨l⟩
abbrev eh:ByteArray:=⟨#[]⟩
abbrev aY(p:Prop)[Decidable p](X Y:Prop):Prop:=aU (decide p) X Y
abbrev bU(p:Prop)[Decidable p](X:Prop):Prop:=dB (decide p) X
def eS:List Nat->e9->e9
 |[],s=>s
 |i::l,s=>cond (Nat.ble i 99) (.quiet i (eS l s)) (.pick (.alt (i-100) (eS l s) .stop))
def ZT:List Nat->Nat
 |[]=>1
 |b::l=>2*ZT l+b
def ri:List (Nat×hE)->List Nat->hE
 |[],_=>.none
 |x::l,p=>cond (Nat.beq x.1 (ZT p)) x.2 (ri l p)
variable{H:U}{s:ByteArray}{n b:Nat}
theorem bJ{k:FuncId}{fn:Func}{c:Code}{args:List Value}{rs:List ResultVar}{R:Value->U->Prop}{C:Prop}(l:List (Nat×hE))(ai:Tryz.prog.funcs[k]?=some fn)(ay:fn.ntmps=n)(h:C)(al:fn.body=some c:=by rfl)(aB:fn.results.toList=rs:=by rfl)(hle:Nat.ble args.length n=true:=by rfl)(e:hn azB n (ri l) c [] (Hs azB n rs R) (s6 args) H=C:=by kernel_rfl):fo azB k args.toArray H R:=
 LG (ri l) pI ai al ay aB hle (Eq.mpr e h)
variable{bj e5 hz:Option Addr}{aN bE c' i' J7 J8:Nat}{aM b7 ek lp q9 CM ZU ZV ZW:Int}{bu e0:ByteArray}{k3 l1:Bool}{aQ oe ZX:Addr}{iK:Option Nat}{c8:Value}{ZY:Array Value}{H:U}{R:Value->U->Prop}
abbrev atD:Nat:=4
theorem atE(h:aY ((aN:Int)>aM) (R (aD true) H) (∃(j:bx) (l:cr),j [o 0,o 0] H/\∀(_:F) c b a,j [o c,o b] a->aY (b<(aN:Int)) (∃(p:bx),(∃(q:bx),(bH bj b aN λf=>(∃d c e,ah 22 a (aX (aX f (b.toNat *8)) 1) (J d c e)/\aY ((c:Int)>100) (R (aD true) a) (bH bj b aN λf=>(∃n,ah 9 a (aX (aX f (b.toNat *8)) 7) (aj n)/\aY ((↑(n.size):Int)>4096) (R (aD true) a) (bH bj b aN λf=>(∃d c e,ah 23 a (aX (aX f (b.toNat *8)) 2) (J d c e)/\eu 13 [b2,J d c e] a λm a=>aU m (R (aD true) a) (q [] a)))))))/\∀(_:F) a,q [] a->bH bj b aN λf=>(∃d k e,ah 22 a (aX (aX f (b.toNat *8)) 1) (J d k e)/\∃(j:bx) (l:cr),j [o 0] a/\∀(_:F) i a,j [o i] a->bH bj b aN λf=>(∃d ad e,ah 22 a (aX (aX f (b.toNat *8)) 1) (J d ad e)/\aY (i<(ad:Int)) (bH bj b aN λf=>(∃d c e,ah 22 a (aX (aX f (b.toNat *8)) 1) (J d c e)/\bH d i c λf=>(∃d c e,ah 45 a (aX f (i.toNat *3)) (J d c e)/\eu 13 [J d c e,b2] a λm g=>aU m (R (aD true) g) (j [o (wrap .i64 (i+1))] g/\l [o (wrap .i64 (i+1))] g<l [o i] a)))) (p [o (wrap .i64 (c+(k:Int)))] a))))/\∀(_:F) k g,p [o k] g->j [o k,o (wrap .i64 (b+1))] g/\l [o k,o (wrap .i64 (b+1))] g<l [o c,o b] a) (R (aD (decide (c>150))) a))):aK 4 [J bj aN bE,o aM] H R:=bJ [(122,.cut [(5,.one (.int .i64)),(6,.one (.int .i64))]),(489,.cut [(5,.one (.int .i64))]),(1956,.cut []),(31310,.cut [(7,.one (.int .i64))])] func4 ntmps4 h
abbrev Y1:Nat:=6
theorem att(h:qW 8 [o 64] H λc a=>aK 7 [ax c] a λf a=>∃c b,f=a1 [ax c,o b]/\∃(e:bx),aU (b !=0) (R (aD false) a) (aU (c.isNone) (R (aD false) a) (e [] a))/\∀(_:F) a,e [] a->∀d j,bm a d [aj ⟨#[97]⟩,aj ⟨#[98]⟩] 51 j->∀k a,bm j k [J (some (ak d)) 1 1,o 5,o 7] 47 a->∃(e:bx),(cG 9 [ax c,J (some (ak k)) 1 1] a λb a=>aU (b !=0) (R (aD false) a) (eu 15 [ax c] a λd a=>aU d (R (aD false) a) (e [] a)))/\∀(_:F) a,e [] a->aK 16 [ax c,b2,aJ [o 0,o 10]] a λf a=>∃l b g m,f=a1 [J l b g,o m]/\aK 10 [ax c] a λf a=>∃d i,f=a1 [aD d,o i]/\aU (m==0) (aU ((b:Int)==1) (bH l (0) b λn=>(∃ad b g,ah 55 a (aX n 1) (J ad b g)/\aU ((b:Int)==1) (aU d (aU (i==0) (cG 17 [ax c,o 0] a λb a=>aU (b==0) (eu 15 [ax c] a λd a=>R (aD d) a) (R (aD false) a)) (R (aD false) a)) (R (aD false) a)) (R (aD false) a))) (R (aD false) a)) (R (aD false) a)):aK 6 [] H R:=bJ [(7,.cut []),(63,.cut [])] func6 ntmps6 h
abbrev ZH:Nat:=7
theorem auC(h:aK 18 [ax (some aQ)] H λe a=>∃d c,e=a1 [ax d,o c]/\aU (c !=0) False (qW 19 [] a λq a=>qW 20 [] a λad a=>∀b l,bm a b [ax (some aQ),ax d,ax q,b2,o 0,o 0,aD false,o 0,o 0,o 0,b2,b2,o 0,ax ad,ax none] 72 l->∃(f:bx),(aK 21 [ax d,aj ⟨#[109,97,110,105,102,101,115,116]⟩] l λe a=>∃g b,e=a1 [aj g,aD b]/\aU b False (f [] a))/\∀(_:F) a,f [] a->∃(f:bx),(aK 21 [ax d,aj ⟨#[105,110,100,101,120]⟩] a λe a=>∃g b,e=a1 [aj g,aD b]/\aU b False (f [] a))/\∀(_:F) a,f [] a->∃c,ah 3 a (bN b 5) (o c)/\∃i,bp 3 a (bN b 12) (o c) i/\aK 24 [ax d] i λe a=>∃d c p m,e=a1 [J d c p,o m]/\aU (m !=0) False (∃(k:bx) (r:cr),k [o 0] a/\∀(_:F) j a,k [o j] a->aY (j<(c:Int)) False (∃n,ah 4 a (bN b 6) (aD n)/\aU n False (R (a1 [ax (some (ak b)),o 0]) a))))):aK 7 [ax (some aQ)] H R:=bJ [(29,.dead true),(31,.cut []),(251,.dead true),(63,.cut []),(507,.dead true),(2045,.dead true),(8186,.cut [(81,.one (.int .i64))]),(32745,.dead true),(65490,.dead true),(8189,.dead true)] func7 ntmps7 h
abbrev Uc:Nat:=8
theorem agW(h:∀(a:Nat) (c:U),dV H a (.map ⟨[]⟩ 0) c->∀d b,bm c d (o (if(if 512<aM then 512 else aM)>8 then if 512<aM then 512 else aM else 8)::(List.replicate 512 (aj eh)++[.map (some a),aD false,o 0,b3 0,o 0])) 91 b->R (ax (some (ak d))) b):aK 8 [o aM] H R:=bJ [] func8 ntmps8 h
abbrev JY:Nat:=11
theorem aur(h:aK 16 [ax (some aQ),b2,aJ [o 0,o 1099511627776]] H λl a=>∃j g f u,l=a1 [J j g f,o u]/\aU (u !=0) (R (aj ⟨#[63]⟩) a) (∃(m:bx) (B:cr),m [aj eh,o 0] a/\∀(_:F) e b a,m [aj e,o b] a->aY (b<(g:Int)) (bH j b g λd=>(∃w,ah 3 a (aX d (b.toNat *2)) (o w)/\dy 39 [ax (some aQ),o w] a λG K f I=>aK 14 [J G K f] I λl C=>∃ad E,l=a1 [aj ad,o E]/\bU (e.size+ad.size<=9223372036854775807) (∃(n:bx) (t:cr),n [aj (e++ad),o 0] C/\∀(_:F) k c i,n [aj k,o c] i->bH j b g λd=>(∃D A f,ah 55 i (aX (aX d (b.toNat *2)) 1) (J D A f)/\aY (c<(A:Int)) (bH j b g λd=>(∃v r f,ah 55 i (aX (aX d (b.toNat *2)) 1) (J v r f)/\bH v c r λd=>(∃s,ah 3 i (aX d (c.toNat *2)) (o s)/\bH j b g λd=>(∃j g f,ah 55 i (aX (aX d (b.toNat *2)) 1) (J j g f)/\fp j λx=>bU (0<=c/\c<(g:Int)) (∃q,ah 3 i (aX (aX x (c.toNat *2)) 1) (o q)/\dv 40 [o s] i λe a=>ah 3 a (aX (aX x (c.toNat *2)) 1) (o q)/\ah 55 a (aX (aX d (b.toNat *2)) 1) (J j g f)/\bU (k.size+e.size<=9223372036854775807) (dv 40 [o q] a λp a=>bU (azC (k++e)+p.size<=9223372036854775807) (n [aj (k++e++p),o (wrap .i64 (c+1))] a/\t [aj (k++e++p),o (wrap .i64 (c+1))] a<t [aj k,o c] i))))))) (bU (k.size+1<=9223372036854775807) (m [aj (k++⟨#[10]⟩),o (wrap .i64 (b+1))] i/\B [aj (k++⟨#[10]⟩),o (wrap .i64 (b+1))] i<B [aj e,o b] a)))))) (R (aj e) a))):aK 11 [ax (some aQ)] H R:=bJ [(250,.cut [(5,.one .str),(6,.one (.int .i64))]),(128154,.cut [(5,.one .str),(9,.one (.int .i64))]),(2050468,.et [0,0,0,6,14,30,0,126,254,510,1022,2047,0,0,12288,28672,61440,0,258048,520192,1044480,2095102,4194303,8388607] (eS [0,1,2,3,4,5,6,7,8,9,12,13,14,15,16,17,18,19,20,110,11,121,22,23] .done))] func11 ntmps11 h
abbrev Zb:Nat:=12
theorem auq(h:∃a,ah 62 H (aX aQ 2) (ax a)/\cG 31 [ax a] H λc b=>R (o c) b):aK 12 [ax (some aQ)] H R:=bJ [] func12 ntmps12 h
abbrev atA:Nat:=13
theorem atB(h:∃(k:bx),aY ((aN:Int)>20) (R (aD true) H) (aY ((c':Int)>12) (R (aD true) H) (k [] H))/\∀(_:F) a,k [] a->∃(e:bx) (g:cr),e [o 0] a/\∀(_:F) b a,e [o b] a->aY (b<(aN:Int)) (bH bj b aN λc=>(∃d,ah 9 a (aX c (b.toNat *2)) (aj d)/\aY ((↑(d.size):Int)>100) (R (aD true) a) (bH bj b aN λc=>(∃d,ah 9 a (aX (aX c (b.toNat *2)) 1) (aj d)/\aY ((↑(d.size):Int)>100) (R (aD true) a) (e [o (wrap .i64 (b+1))] a/\g [o (wrap .i64 (b+1))] a<g [o b] a))))) (∃(e:bx) (g:cr),e [o 0] a/\∀(_:F) b a,e [o b] a->aY (b<(c':Int)) (∃(k:bx),(∃(ad:bx),(bH e5 b c' λc=>(∃d,ah 9 a (aX (aX c (b.toNat *4)) 1) (aj d)/\aY ((↑(d.size):Int)>100) (R (aD true) a) (bH e5 b c' λc=>(∃d,ah 9 a (aX (aX c (b.toNat *4)) 2) (aj d)/\aY ((↑(d.size):Int)>100) (R (aD true) a) (bH e5 b c' λc=>(∃i f j,ah 112 a (aX (aX c (b.toNat *4)) 3) (J i f j)/\aY ((f:Int)>12) (R (aD true) a) (ad [] a)))))))/\∀(_:F) a,ad [] a->∃(e:bx) (g:cr),e [o 0] a/\∀(_:F) f a,e [o f] a->bH e5 b c' λc=>(∃i m j,ah 112 a (aX (aX c (b.toNat *4)) 3) (J i m j)/\aY (f<(m:Int)) (bH e5 b c' λc=>(∃i n j,ah 112 a (aX (aX c (b.toNat *4)) 3) (J i n j)/\bH i f n λc=>(∃d,ah 9 a (aX c (f.toNat *1)) (aj d)/\aY ((↑(d.size):Int)>100) (R (aD true) a) (e [o (wrap .i64 (f+1))] a/\g [o (wrap .i64 (f+1))] a<g [o f] a)))) (k [] a)))/\∀(_:F) l,k [] l->e [o (wrap .i64 (b+1))] l/\g [o (wrap .i64 (b+1))] l<g [o b] a) (R (aD false) a))):aK 13 [J bj aN bE,J e5 c' i'] H R:=bJ [(3,.cut []),(58,.cut [(5,.one (.int .i64))]),(122,.cut [(6,.one (.int .i64))]),(489,.cut []),(1956,.cut []),(15654,.cut [(7,.one (.int .i64))])] func13 ntmps13 h
abbrev JN:Nat:=9
theorem arT(h:∃(bI:bx),aY ((aN:Int)<1) (R (o 210) H) (aY ((aN:Int)>50) (R (o 210) H) (bI [] H))/\∀(_:F) a,bI [] a->∃(m:bx) (ad:cr),m [o 0] a/\∀(_:F) b a,m [o b] a->aY (b<(aN:Int)) (bH bj b aN fun j1=>(∃e f d B s,ah 47 a (aX j1 (b.toNat *3)) (aJ [J e f d,o B,o s])/\∀c V,bm a c [b2,o 0,o 0] 47 V->∃E,bp 47 V (ak c) (aJ [J e f d,o B,o s]) E/\∃e r d t x,ah 47 E (ak c) (aJ [J e r d,o t,o x])/\kY 28 [ax (some aQ),aJ [J e r d,o t,o x]] E fun a0 k=>∃jy,kM prog (jk BinOp.neq 93 (Operand.tmp 36) (Operand.const .nilIface) a0 .nilIface) (aD jy)/\aU jy (∃b c,Rd prog (Instr.typeAssert a0 93 96 true) k (a1 [aJ [o b],aD c])/\∀i a,bm k i [o 0] 96 a->∃n,bp 96 a (ak i) (aJ [o b]) n/\aU c (∃b,ah 33 n (ak i) (o b)/\R (o b) n) (Li prog a0 "strandline/engine.errno" [] n fun g a=>∃b,g=o b/\R (o b) a)) (m [o (wrap .i64 (b+1))] k/\ad [o (wrap .i64 (b+1))] k<ad [o b] a))) (∀(c:Nat) (V:U),dV a c (.map ⟨[]⟩ 0) V->∀i a,bm V i [o 0,b2,b2,b2,o 0] 84 a->∃E,bp 84 a (ak i) (aJ [o 1,b2,b2,b2,o 0]) E/\∃(m:bx) (ad:cr),m [b2,o 0] E/\∀(_:F) e b d f a,m [J e b d,o f] a->aY (f<(aN:Int)) (bH bj f aN fun j1=>(∃bC B L s r,ah 47 a (aX j1 (f.toNat *3)) (aJ [J bC B L,o s,o r])/\∀j k,bm a j [b2,o 0,o 0] 47 k->∃n,bp 47 k (ak j) (aJ [J bC B L,o s,o r]) n/\∃Q,ah 62 n (aX aQ 2) (ax Q)/\∃K t T,ah 45 n (ak j) (J K t T)/\aK 29 [ax Q,J K t T] n fun g G=>∃x rE,g=a1 [o x,aD rE]/\aU (!rE) (∃N p v,ah 45 G (ak j) (J N p v)/\aK 30 [J N p v] G fun g l=>∃a3 A,g=a1 [aj a3,o A]/\∃S rB,Rd prog (Instr.lookup 98 (.map (some c)) (aj a3) true) l (a1 [o S,aD rB])/\aU (!rB) (∃P,ah 62 l (aX aQ 2) (ax P)/\cG 31 [ax P] l fun u C=>∃D,Rd prog (Builtin.len_ ⟨[98]⟩ 3 ⟨[.map (some c)]⟩) C (o D)/\jc prog (Instr.mapUpdate 98 (.map (some c)) (aj a3) (o (wrap .i64 (u+D)))) C fun w=>∃I M q,ah 45 w (ak j) (J I M q)/\dy 32 [J I M q] w fun W X Z O=>∀c k7,bm O c [o 0,J W X Z,b2,b2,o 0] 84 k7->bO (dw 79 (J e b d) (J (some (ak c)) 1 1)) k7 fun g Y=>∃cW a4 a5,g=J cW a4 a5/\∃b1 dz c0,ah 82 Y (bN i 2) (J b1 dz c0)/\∃nJ,ah 3 Y (bN j 1) (o nJ)/\∃ke,ah 3 Y (bN j 2) (o ke)/\∀c rq,bm Y c [o nJ,o (wrap .i64 (u+D)),o ke] 103 rq->bO (dw 82 (J b1 dz c0) (J (some (ak c)) 1 1)) rq fun g c2=>∃im a9 sO,g=J im a9 sO/\∃a2,bp 82 c2 (bN i 2) (J im a9 sO) a2/\m [J cW a4 a5,o (wrap .i64 (f+1))] a2/\ad [J cW a4 a5,o (wrap .i64 (f+1))] a2<ad [J e b d,o f] a) (∃P u q,ah 82 l (bN i 2) (J P u q)/\∃D,ah 3 l (bN j 1) (o D)/\∃M,ah 3 l (bN j 2) (o M)/\∀c C,bm l c [o D,o S,o M] 103 C->bO (dw 82 (J P u q) (J (some (ak c)) 1 1)) C fun g w=>∃W X Z,g=J W X Z/\∃O,bp 82 w (bN i 2) (J W X Z) O/\m [J e b d,o (wrap .i64 (f+1))] O/\ad [J e b d,o (wrap .i64 (f+1))] O<ad [J e b d,o f] a)) (∃N p v,ah 82 G (bN i 2) (J N p v)/\∃A,ah 3 G (bN j 1) (o A)/\∃S,ah 3 G (bN j 2) (o S)/\∀c l,bm G c [o A,o x,o S] 103 l->bO (dw 82 (J N p v) (J (some (ak c)) 1 1)) l fun g C=>∃I u q,g=J I u q/\∃w,bp 82 C (bN i 2) (J I u q) w/\m [J e b d,o (wrap .i64 (f+1))] w/\ad [J e b d,o (wrap .i64 (f+1))] w<ad [J e b d,o f] a))) (∃bC,ah 62 a (aX aQ 2) (ax bC)/\cG 31 [ax bC] a fun B a=>∃s,Rd prog (Builtin.len_ ⟨[98]⟩ 3 ⟨[.map (some c)]⟩) a (o s)/\aY (wrap .i64 (B+s)>200) (R (o 2) a) (∃r c1 t L Q x T K p v A,ah 84 a (ak i) (aJ [o r,J c1 t L,J Q x T,J K p v,o A])/\∀c k,bm a c [o r,J c1 t L,J Q x T,J K p v,o A] 84 k->bO (dw 79 (J e b d) (J (some (ak c)) 1 1)) k fun g a=>∃e b d,g=J e b d/\cG 33 [ax (some aQ),J e b d] a fun b a=>R (o b) a)))):aK 9 [ax (some aQ),J bj aN bE] H R:=bJ [(3,.cut []),(58,.cut [(29,.one (.int .i64))]),(1018,.cut [(10,.one .slice),(53,.one (.int .i64))]),(130354,.et [0,1,3,7,0,16,63,127,255,255,511,2047] (eS [0,1,2,3,4,5,106,7,8,9,10,11] .done))] func9 ntmps9 h
abbrev auF:Nat:=15
theorem auG(h:aK 34 [ax (some aQ)] H λg a=>∃f d b,g=a1 [o f,o d,aD b]/\eu 35 [ax (some aQ)] a λe a=>aU (!e) (∃c,ah 4 a (aX (aX aQ 3) 3) (aD c)/\aU (!c) (R (aD !b) a) (R (aD false) a)) (R (aD false) a)):aK 15 [ax (some aQ)] H R:=bJ [] func15 ntmps15 h
abbrev aul:Nat:=16
theorem aum(h:∀e a,bm H e [o aM,o b7] 25 a->∃b g,ah 25 a (ak e) (aJ [o b,o g])/\aK 43 [ax (some aQ),J bj aN bE,aJ [o b,o g]] a λk a=>∃d b c f,k=a1 [J d b c,o f]/\aU (f !=0) (R (a1 [b2,o f]) a) (∃j i,ah 25 a (ak e) (aJ [o j,o i])/\dy 44 [ax (some aQ),J d b c,aJ [o j,o i],aD true] a λd b c a=>R (a1 [J d b c,o 0]) a)):aK 16 [ax (some aQ),J bj aN bE,aJ [o aM,o b7]] H R:=bJ [] func16 ntmps16 h
abbrev auH:Nat:=17
theorem auI(h:∃g a i j e b n k m,ah 68 H (aX aQ 3) (aJ [J g a i,o j,o e,aD b,o n,o k,o m])/\aK 45 [aJ [J g a i,o j,o e,aD b,o n,o k,o m],o aM] H λp c=>∃a ad f b,p=a1 [aJ [o a,o ad,aj f],aD b]/\∀d l,bm c d [o 0,o 0,aj eh] 122 l->∃c,bp 122 l (ak d) (aJ [o a,o ad,aj f]) c/\aU b (∃a,ah 3 c (bN d 1) (o a)/\R (o a) c) False):aK 17 [ax (some aQ),o aM] H R:=bJ [(3,.dead true),(27,.dead false)] func17 ntmps17 h
abbrev ahf:Nat:=18
theorem ahg(h:eu 46 [ax (some aQ)] H λd a=>aU d False (∀(d:Nat) (t:U),dV a d (.map ⟨[]⟩ 0) t->∀(w:Nat) (a:U),dV t w (.map ⟨[]⟩ 0) a->∀j p,bm a j [ax (some aQ),.map (some d),.map (some w),b2,o 0,aD false] 128 p->∃(g:bx) (k:cr),g [o 0] p/\∀(_:F) b a,g [o b] a->aY (b<2) (aK 47 [ax (some aQ),o b] a λe i=>∃u f c B ad,e=a1 [o u,.map f,J c B ad]/\∃x,ah 3 i (bN j 4) (o x)/\aY (u>x) False (g [o (wrap .i64 (b+1))] i/\k [o (wrap .i64 (b+1))] i<k [o b] a)) (∃f,ah 126 a (bN j 2) (.map f)/\bO (Instr.range 126 (.map f)) a λe a=>∃c,e=ax c/\∃(g:bx) (k:cr),g [] a/\∀(_:F) a,g [] a->bO (Instr.next (ax c) false 0) a λe i=>e=a1 [aD false]/\R (a1 [ax (some (ak j)),o 0]) i\/∃m n,e=a1 [aD true,m,n]/\bO (Instr.entry (ax c)) i λe C=>∃m n,e=a1 [m,n]/\∃s,m=aj s/\∃A c b ad,n=aJ [aj A,J c b ad]/\∀d q,bm C d [aj eh,b2] 132 q->∃l,bp 132 q (ak d) (aJ [aj A,J c b ad]) l/\∃f,ah 125 l (bN j 1) (.map f)/\∃r,ah 9 l (ak d) (aj r)/\jc prog (Instr.mapUpdate 125 (.map f) (aj s) (aj r)) l λv=>g [] v/\k [] v<k [] a))):aK 18 [ax (some aQ)] H R:=bJ [(13,.dead true),(122,.cut [(18,.one (.int .i64))]),(31335,.dead true),(250,.cut []),(8012,.ext),(8013,.tail 7)] func18 ntmps18 h
abbrev aeQ:Nat:=19
theorem aeR(h:∀(b:Nat) (a:U),dV H b (.map ⟨[]⟩ 0) a->∀(e:Nat) (d:U),dV a e (.map ⟨[]⟩ 0) d->∀c a,bm d c [b2,.map (some b),.map (some e)] 136 a->R (ax (some (ak c))) a):aK 19 [] H R:=bJ [] func19 ntmps19 h
abbrev aqP:Nat:=20
theorem aqQ(h:∀(a:Nat) (c:U),dV H a (.map ⟨[]⟩ 0) c->∀d b,bm c d [.map (some a)] 139 b->R (ax (some (ak d))) b):aK 20 [] H R:=bJ [] func20 ntmps20 h
abbrev Mq:Nat:=21
theorem ag2(h:∃a,ah 125 H (aX aQ 1) (.map a)/\∃aQ b,Rd prog (Instr.lookup 125 (.map a) (aj bu) true) H (a1 [aj aQ,aD b])/\R (a1 [aj aQ,aD b]) H):aK 21 [ax (some aQ),aj bu] H R:=bJ [] func21 ntmps21 h
abbrev auz:Nat:=24
theorem auA(h:aK 21 [ax (some aQ),aj ⟨#[119,97,108]⟩] H λe a=>∃d l,e=a1 [aj d,aD l]/\aK 55 [aj d] a λe a=>∃b j c g,e=a1 [J b j c,o g]/\aY (g<(↑(d.size):Int)) False (∃(k:bx) (m:cr),k [b2,o 0] a/\∀(_:F) b f c i a,k [J b f c,o i] a->aY (i<(j:Int)) False (R (a1 [J b f c,o 0]) a))):aK 24 [ax (some aQ)] H R:=bJ [(61,.dead true),(506,.cut [(8,.one .slice),(29,.one (.int .i64))]),(2025,.dead true),(4050,.dead true)] func24 ntmps24 h
abbrev arB:Nat:=25
theorem arC(h:∀f d,bm H f [ax (some aQ)] 32 d->∀j c,bm d j [o aM,J bj aN bE,J e5 c' i',J hz J7 J8,o b7] 84 c->∃b,ah 3 c (ak j) (o b)/\aU (b==0) (∃a,ah 32 c (ak f) (ax a)/\fp a λa=>∃i,ah 62 c (aX a 2) (ax i)/\∃a b e,ah 45 c (bN j 1) (J a b e)/\aK 54 [ax i,J a b e] c λq d=>∃b g,q=a1 [o b,o g]/\R (a1 []) d) (aU (b==1) (∃a,ah 32 c (ak f) (ax a)/\∃i,ah 32 c (ak f) (ax i)/\fp i λl=>∃ad b e,ah 52 c (aX l 10) (J ad b e)/\∃m g n,ah 82 c (bN j 2) (J m g n)/\dy 57 [J ad b e,J m g n] c λp b e d=>ah 32 d (ak f) (ax a)/\fp a λa=>∃k,bp 52 d (aX a 10) (J p b e) k/\R (a1 []) k) (aU (b==2) (∃a,ah 32 c (ak f) (ax a)/\∃i,ah 32 c (ak f) (ax i)/\fp i λl=>∃ad b e,ah 69 c (aX l 11) (J ad b e)/\∃m g n,ah 69 c (bN j 3) (J m g n)/\bO (dw 69 (J ad b e) (J m g n)) c λq d=>∃p b e,q=J p b e/\ah 32 d (ak f) (ax a)/\dy 58 [J p b e] d λr b e d=>ah 32 d (ak f) (ax a)/\fp a λa=>∃k,bp 69 d (aX a 11) (J r b e) k/\∃a,ah 32 k (ak f) (ax a)/\dQ 59 [ax a,.func (Fn.func 60) ⟨[]⟩ ⟨[ax (some (ak j))]⟩] k λd=>R (a1 []) d) (aU (b==3) (∃a,ah 32 c (ak f) (ax a)/\∃i,ah 32 c (ak f) (ax i)/\fp i λl=>∃b,ah 3 c (aX l 12) (o b)/\∃g,ah 3 c (bN j 4) (o g)/\fp a λa=>∃d,bp 3 c (aX a 12) (o (if g>b then g else b)) d/\∃a,ah 32 d (ak f) (ax a)/\dQ 59 [ax a,.func (Fn.func 62) ⟨[]⟩ ⟨[ax (some (ak f))]⟩] d λd=>R (a1 []) d) (R (a1 []) c))))):aK 25 [ax (some aQ),aJ [o aM,J bj aN bE,J e5 c' i',J hz J7 J8,o b7]] H R:=bJ [(58,.tail 6),(238,.et [0,0,2,6,14,0,32,126,255,511,1023] (eS [0,1,2,3,4,5,6,107,8,9,110] .done)),(1916,.et [0,0,2,6,14,0,32,126,254,511,1023,2047] (eS [0,1,2,3,4,5,6,107,108,9,10,111] .done)),(7676,.tail 8)] func25 ntmps25 h
abbrev aks:Nat:=40
theorem akt(h:aK 87 [o aM] H λb a=>∃aM,b=b3 aM/\dv 86 [b3 aM] a λc a=>R (aj c) a):aK 40 [o aM] H R:=bJ [] func40 ntmps40 h
abbrev Vr:Nat:=14
theorem aj9(h:cG 41 [J bj aN bE] H λa d=>aU (a !=0) (R (a1 [aj eh,o a]) d) (∃(k:bx) (j:cr),k [aj ⟨#[123]⟩,o 0] d/\∀(_:F) b a d,k [aj b,o a] d->aY (a<(aN:Int)) (aY (a>0) (bU (b.size+1<=9223372036854775807) (bH bj a aN λi=>(∃c,ah 9 d (aX i (a.toNat *2)) (aj c)/\bU (azC (b++⟨#[44]⟩)+c.size<=9223372036854775807) (bU (azC (b++⟨#[44]⟩++c)+1<=9223372036854775807) (fp bj λl=>bU (0<=a/\a<(aN:Int)) (∃g,ah 9 d (aX (aX l (a.toNat *2)) 1) (aj g)/\dv 42 [aj g] d λe f=>ah 9 f (aX i (a.toNat *2)) (aj c)/\bU (azC (b++⟨#[44]⟩++c++⟨#[61]⟩)+e.size<=9223372036854775807) (k [aj (b++⟨#[44]⟩++c++⟨#[61]⟩++e),o (wrap .i64 (a+1))] f/\j [aj (b++⟨#[44]⟩++c++⟨#[61]⟩++e),o (wrap .i64 (a+1))] f<j [aj b,o a] d))))))) (bH bj a aN λi=>(∃c,ah 9 d (aX i (a.toNat *2)) (aj c)/\bU (b.size+c.size<=9223372036854775807) (bU (azC (b++c)+1<=9223372036854775807) (fp bj λl=>bU (0<=a/\a<(aN:Int)) (∃g,ah 9 d (aX (aX l (a.toNat *2)) 1) (aj g)/\dv 42 [aj g] d λe f=>ah 9 f (aX i (a.toNat *2)) (aj c)/\bU (azC (b++c++⟨#[61]⟩)+e.size<=9223372036854775807) (k [aj (b++c++⟨#[61]⟩++e),o (wrap .i64 (a+1))] f/\j [aj (b++c++⟨#[61]⟩++e),o (wrap .i64 (a+1))] f<j [aj b,o a] d))))))) (bU (b.size+1<=9223372036854775807) (R (a1 [aj (b++⟨#[125]⟩),o 0]) d)))):aK 14 [J bj aN bE] H R:=bJ [(250,.cut [(5,.one .str),(6,.one (.int .i64))]),(8009,.et [0,0,0,6,14,30,63,127,0,0,768,1792,3840,7936,16383,32767] (eS [0,1,2,3,4,5,6,7,8,9,10,11,12,113,14,15] .done))] func14 ntmps14 h
abbrev auo:Nat:=39
theorem aup(h:∃a,ah 62 H (aX aQ 2) (ax a)/\dy 85 [ax a,o aM] H λa d c b=>R (J a d c) b):aK 39 [ax (some aQ),o aM] H R:=bJ [] func39 ntmps39 h
abbrev aeZ:Nat:=31
theorem ae0(h:∃b a c,ah 134 H aQ (J b a c)/\R (o (a:Int)) H):aK 31 [ax (some aQ)] H R:=bJ [] func31 ntmps31 h
abbrev arR:Nat:=28
theorem arS(h:∀c a,bm H c [J bj aN bE,o aM,o b7] 47 a->∃f b e,ah 45 a (ak c) (J f b e)/\cG 65 [J f b e] a λb a=>aU (b !=0) (R (.iface 96 (aJ [o b])) a) (∃(d:bx),(∃b,ah 3 a (bN c 1) (o b)/\aY (b<0) (d [aD true] a) (∃b,ah 3 a (bN c 1) (o b)/\d [aD (decide (b>=1099511627776))] a))/\∀(_:F) i a,d [aD i] a->aU i (R (.iface 165 (aJ [])) a) (∃b,ah 3 a (bN c 1) (o b)/\∃g,ah 3 a (aX aQ 12) (o g)/\aY (b<g) (R (.iface 166 (aJ [])) a) (R .nilIface a)))):aK 28 [ax (some aQ),aJ [J bj aN bE,o aM,o b7]] H R:=bJ [(28,.cut [(14,.one .bool)])] func28 ntmps28 h
abbrev aeX:Nat:=29
theorem aeY(h:aK 30 [J bj aN bE] H λg a=>∃c f,g=a1 [aj c,o f]/\∃e,ah 98 a (aX aQ 1) (.map e)/\∃d b,Rd prog (Instr.lookup 98 (.map e) (aj c) true) a (a1 [o d,aD b])/\aU (f !=0) (R (a1 [o (-1:Int),aD false]) a) (aU (!b) (R (a1 [o (-1:Int),aD false]) a) (R (a1 [o d,aD true]) a))):aK 29 [ax (some aQ),J bj aN bE] H R:=bJ [] func29 ntmps29 h
abbrev aeJ:Nat:=30
theorem aeK(h:cG 65 [J bj aN bE] H λa b=>aU (a !=0) (R (a1 [aj eh,o a]) b) (∀g n,bm b g [ax none,b2] 170 n->∃(f:bx) (p:cr),f [o 0] n/\∀(_:F) a b,f [o a] b->aY (a<(aN:Int)) (bH bj a aN λs=>(∃c ad,ah 51 b (aX s (a.toNat *2)) (aJ [aj c,aj ad])/\∀d j,bm b d [aj eh,aj eh] 51 j->∃e,bp 51 j (ak d) (aJ [aj c,aj ad]) e/\∃c,ah 9 e (ak d) (aj c)/\∃i,ah 9 e (bN d 1) (aj i)/\dv 67 [aj c] e λc l=>ah 9 l (bN d 1) (aj i)/\dv 67 [aj i] l λm r=>bU (c.size+m.size<=9223372036854775807) (aK 66 [ax (some (ak g)),aj (c++m)] r λu k=>∃t q,u=a1 [o t,q]/\f [o (wrap .i64 (a+1))] k/\p [o (wrap .i64 (a+1))] k<p [o a] b))) (dv 68 [ax (some (ak g))] b λc b=>R (a1 [aj c,o 0]) b))):aK 30 [J bj aN bE] H R:=bJ [(122,.cut [(15,.one (.int .i64))]),(7833,.et [0,1,3,0,8,31,63,127] (eS [0,1,3,4,102,105,6,107] .done))] func30 ntmps30 h
abbrev aeT:Nat:=32
theorem aeU(h:aU (bj.isNone) (R (b2) H) (∀b a,bm H b [] 51 a->bO (dw 45 (J (some (ak b)) 0 0) (J bj aN bE)) a λf a=>∃c e d,f=J c e d/\R (J c e d) a)):aK 32 [J bj aN bE] H R:=bJ [] func32 ntmps32 h
abbrev X6:Nat:=33
theorem arF(h:∃b,ah 59 H (aX aQ 1) (ax b)/\cG 69 [ax b,J bj aN bE] H λa c=>aU (a !=0) (R (o a) c) (∃(f:bx) (C:cr),f [o 0] c/\∀(_:F) a c,f [o a] c->aY (a<(aN:Int)) (bH bj a aN λG=>(∃t b j d D A x r u n ad,ah 84 c (aX G (a.toNat *5)) (aJ [o t,J b j d,J D A x,J r u n,o ad])/\∀g s,bm c g [o 0,b2,b2,b2,o 0] 84 s->∃e,bp 84 s (ak g) (aJ [o t,J b j d,J D A x,J r u n,o ad]) e/\∃q b B d k i l v m p w,ah 84 e (ak g) (aJ [o q,J b B d,J k i l,J v m p,o w])/\dQ 25 [ax (some aQ),aJ [o q,J b B d,J k i l,J v m p,o w]] e λE=>f [o (wrap .i64 (a+1))] E/\C [o (wrap .i64 (a+1))] E<C [o a] c)) (R (o 0) c))):aK 33 [ax (some aQ),J bj aN bE] H R:=bJ [(58,.cut [(19,.one (.int .i64))])] func33 ntmps33 h
abbrev Qj:Nat:=34
theorem aaY(h:∃c a k,ah 66 H (aX aQ 3) (J c a k)/\∃(B:bx) (x:cr),B [b2,b2,o 0] H/\∀(_:F) r p k ad m q d j,B [J r p k,J ad m q,o d] j->aY (d<(a:Int)) (bH c d a λI=>(∃a C E,ah 122 j (aX I (d.toNat *3)) (aJ [o a,o C,aj E])/\∀b G,bm j b [o 0,o 0,aj eh] 122 G->∃A,bp 122 G (ak b) (aJ [o a,o C,aj E]) A/\∃a,ah 3 A (ak b) (o a)/\∃u,ah 3 A (bN b 1) (o u)/\(∀w s,bm A w [o a] 3 s->ah 3 s (bN b 1) (o u)/\(bO (dw 117 (J r p k) (J (some (ak w)) 1 1)) s λe n=>∃c a g,e=J c a g/\ah 3 n (bN b 1) (o u)/\∀b v,bm n b [o u] 3 v->bO (dw 117 (J ad m q) (J (some (ak b)) 1 1)) v λe l=>∃D i f,e=J D i f/\B [J c a g,J D i f,o (wrap .i64 (d+1))] l/\x [J c a g,J D i f,o (wrap .i64 (d+1))] l<x [J r p k,J ad m q,o d] j)/\∀b n,bm s b [o u] 3 n->bO (dw 117 (J r p k) (J (some (ak w)) 1 1)) n λe v=>∃c a g,e=J c a g/\bO (dw 117 (J ad m q) (J (some (ak b)) 1 1)) v λe l=>∃t i f,e=J t i f/\B [J c a g,J t i f,o (wrap .i64 (d+1))] l/\x [J c a g,J t i f,o (wrap .i64 (d+1))] l<x [J r p k,J ad m q,o d] j)/\∀w s,bm A w [o u] 3 s->ah 3 s (ak b) (o a)/\∀b n,bm s b [o a] 3 n->bO (dw 117 (J r p k) (J (some (ak b)) 1 1)) n λe v=>∃c a g,e=J c a g/\bO (dw 117 (J ad m q) (J (some (ak w)) 1 1)) v λe l=>∃t i f,e=J t i f/\B [J c a g,J t i f,o (wrap .i64 (d+1))] l/\x [J c a g,J t i f,o (wrap .i64 (d+1))] l<x [J r p k,J ad m q,o d] j)) (∃c,ah 64 j (aX aQ 13) (ax c)/\aK 70 [ax c,J r p k,J ad m q] j λe j=>∃a C b,e=a1 [o a,o C,aD b]/\R (a1 [o a,o C,aD b]) j)):aK 34 [ax (some aQ)] H R:=bJ [(58,.cut [(5,.one .slice),(6,.one .slice),(15,.one (.int .i64))]),(3737,.et [0,0,2,6,15,0,0,64,192,511,1023,2047] (.quiet 0 (.quiet 1 (.quiet 2 (.quiet 5 (.quiet 6 (.quiet 7 (.pick (.alt 3 (.pick (.alt 4 (.pick (.alt 8 (.pick (.alt 9 (.quiet 10 (.quiet 11 .done)) .stop)) .stop)) (.alt 8 (.pick (.alt 4 (.pick (.alt 9 (.quiet 10 (.quiet 11 .done)) .stop)) .stop)) .stop))) (.alt 8 (.pick (.alt 3 (.pick (.alt 4 (.pick (.alt 9 (.quiet 10 (.quiet 11 .done)) .stop)) .stop)) .stop)) .stop))))))))))] func34 ntmps34 h
abbrev ara:Nat:=35
theorem arb(h:∃b,ah 59 H (aX aQ 1) (ax b)/\aK 21 [ax b,aj ⟨#[119,97,108]⟩] H λd e=>∃c a,d=a1 [aj c,aD a]/\R (aD a) e):aK 35 [ax (some aQ)] H R:=bJ [] func35 ntmps35 h
theorem aun(h:∀c a,bm H c [o aM,o b7] 25 a->∃b,ah 62 a (aX aQ 2) (ax b)/\aK 90 [ax b,J bj aN bE] a λj a=>∃b i f d,j=a1 [J b i f,o d]/\aU (d !=0) (R (a1 [b2,o d]) a) (∃e g,ah 25 a (ak c) (aJ [o e,o g])/\eu 91 [aJ [o e,o g]] a λc a=>aU (!c) (R (a1 [b2,o 1]) a) (R (a1 [J b i f,o 0]) a))):aK 43 [ax (some aQ),J bj aN bE,aJ [o aM,o b7]] H R:=bJ [] func43 ntmps43 h
abbrev aqX:Nat:=45
theorem aqY(h:∀j b,bm H j [J bj aN bE,o aM,o b7,aD k3,o ek,o lp,o q9] 68 b->∀m l,bm b m [o CM] 3 l->∀e b,bm l e [o 0,o 0,aj eh] 122 b->∃f a i,ah 66 b (ak j) (J f a i)/\cG 95 [J f a i,.func (Fn.func 96) ⟨[]⟩ ⟨[ax (some (ak m))]⟩] b λa b=>aY (a<0) (∃d,bp 122 b (ak e) (aJ [o 0,o 0,aj eh]) d/\∃a g c,ah 122 d (ak e) (aJ [o a,o g,aj c])/\R (a1 [aJ [o a,o g,aj c],aD false]) d) (∃f g i,ah 66 b (ak j) (J f g i)/\bH f a g λp=>(∃k ad c,ah 122 b (aX p (a.toNat *3)) (aJ [o k,o ad,aj c])/\∃d,bp 122 b (ak e) (aJ [o k,o ad,aj c]) d/\∃a n c,ah 122 d (ak e) (aJ [o a,o n,aj c])/\R (a1 [aJ [o a,o n,aj c],aD true]) d))):aK 45 [aJ [J bj aN bE,o aM,o b7,aD k3,o ek,o lp,o q9],o CM] H R:=bJ [] func45 ntmps45 h
abbrev afX:Nat:=46
theorem afY(h:∃a,ah 4 H (aX aQ 514) (aD a)/\R (aD a) H):aK 46 [ax (some aQ)] H R:=bJ [] func46 ntmps46 h
abbrev ahc:Nat:=47
theorem ahd(h:aK 97 [ax (some aQ),o aM] H λj a=>∃f e,j=a1 [aj f,o e]/\∀(b:Nat) (g:U),dV a b (.map ⟨[]⟩ 0) g->∀d a,bm g d [ax (some aQ),aj f,o 0,aD true,.map (some b)] 211 a->cG 98 [ax (some (ak d))] a λe a=>cG 98 [ax (some (ak d))] a λi a=>∃(c:bx),(∃b,ah 4 a (bN d 3) (aD b)/\aU (!b) (c [aD true] a) (aY (e<1) (c [aD true] a) (aU (azA e 2 !=aM) (c [aD true] a) (aY (i<1) (c [aD true] a) (c [aD (decide (i>1280))] a)))))/\∀(_:F) b a,c [aD b] a->aU b (R (a1 [o 0,.map none,b2]) a) False):aK 47 [ax (some aQ),o aM] H R:=bJ [(31,.dead true),(62,.cut [(56,.one .bool)]),(125,.dead false)] func47 ntmps47 h
abbrev akh:Nat:=49
theorem Vv(h:∃(d:bx),aY (aM<0) (R (a1 [b3 0,o 0,o 1]) H) (aY (aM>(↑(bu.size):Int)) (R (a1 [b3 0,o 0,o 1]) H) (d [b3 0] H))/\∀(_:F) c b,d [b3 c] b->∃(g:bx) (i:cr),g [b3 c,o 0] b/\∀(_:F) c a b,g [b3 c,o a] b->aY (a<10) (aU (wrap .i64 (aM+a)==(↑(bu.size):Int)) (R (a1 [b3 0,o 0,o 10]) b) (bU (0<=wrap .i64 (aM+a)/\wrap .i64 (aM+a)<(↑(bu.size):Int)) (∃(d:bx),aU (a==9) (aY ((↑(bo bu (azw (wrap .i64 (aM+a)))):Int)>1) (R (a1 [b3 0,o 0,o 11]) b) (aU ((↑(bo bu (azw (wrap .i64 (aM+a)))):Int)==0) (aY (a>0) (R (a1 [b3 0,o 0,o 11]) b) (d [b3 c] b)) (d [b3 c] b))) (aU ((↑(bo bu (azw (wrap .i64 (aM+a)))):Int)==0) (aY (a>0) (R (a1 [b3 0,o 0,o 11]) b) (d [b3 c] b)) (d [b3 c] b))/\∀(_:F) e f,d [b3 e] f->bU (0<=wrap .u64 (wrap .i64 (7*a))) (aY ((↑(bo bu (azw (wrap .i64 (aM+a)))):Int)<128) (R (a1 [b3 (wrap .u64 (↑(azz (azx 64 e|||azx 64 (wrap .u64 (wrap .u64 (wrap .u8 (↑(azz (azx 8 (↑(bo bu (azw (wrap .i64 (aM+a)))):Int)&&&azx 8 127)):Int))*2^min (azw (wrap .u64 (wrap .i64 (7*a)))) 64)))):Int)),o (wrap .i64 (wrap .i64 (aM+a)+1)),o 0]) f) (g [b3 (wrap .u64 (↑(azz (azx 64 e|||azx 64 (wrap .u64 (wrap .u64 (wrap .u8 (↑(azz (azx 8 (↑(bo bu (azw (wrap .i64 (aM+a)))):Int)&&&azx 8 127)):Int))*2^min (azw (wrap .u64 (wrap .i64 (7*a)))) 64)))):Int)),o (wrap .i64 (a+1))] f/\i [b3 (wrap .u64 (↑(azz (azx 64 e|||azx 64 (wrap .u64 (wrap .u64 (wrap .u8 (↑(azz (azx 8 (↑(bo bu (azw (wrap .i64 (aM+a)))):Int)&&&azx 8 127)):Int))*2^min (azw (wrap .u64 (wrap .i64 (7*a)))) 64)))):Int)),o (wrap .i64 (a+1))] f<i [b3 c,o a] b))))) (R (a1 [b3 0,o 0,o 11]) b)):aK 49 [aj bu,o aM] H R:=bJ [(3,.cut [(4,.one (.int .u64))]),(58,.cut [(4,.one (.int .u64)),(17,.one (.int .i64))]),(14951,.cut [(4,.one (.int .u64))])] func49 ntmps49 h
abbrev acJ:Nat:=50
theorem acK(h:dv 101 [o (if 0>aM then 0 else aM)] H λa b=>bU (1+a.size<=9223372036854775807) (R (aj (⟨#[102]⟩++a)) b)):aK 50 [o aM] H R:=bJ [] func50 ntmps50 h
abbrev acU:Nat:=51
theorem acV(h:∀c a,bm H c [J bj aN bE,o aM,o b7,aD k3,o ek,o lp,o q9] 68 a->∀(v:Nat) (u:U),dV a v (.map ⟨[]⟩ 0) u->∃m b q,ah 66 u (ak c) (J m b q)/\∃(r:bx) (D:cr),r [o (-1:Int),o 0] u/\∀(_:F) s i a,r [o s,o i] a->aY (i<(b:Int)) (∃(f:bx),(bH m i b λG=>(∃b p d,ah 122 a (aX G (i.toNat *3)) (aJ [o b,o p,aj d])/\∀e g,bm a e [o 0,o 0,aj eh] 122 g->∃a,bp 122 g (ak e) (aJ [o b,o p,aj d]) a/\∃d,ah 9 a (bN e 2) (aj d)/\cG 102 [aj d] a λb a=>∃(B:bx),(∃ad,ah 3 a (ak e) (o ad)/\aY (ad<=s) False (∃k,ah 3 a (ak e) (o k)/\aY (k>=17179869184) False (∃n,ah 3 a (bN e 1) (o n)/\eu 103 [o n,o 1] a λt a=>aU (!t) False (aY (b<0) False (∃l,ah 3 a (bN c 1) (o l)/\aY (b>=l) False (∃d,ah 9 a (bN e 2) (aj d)/\∃c,Rd prog (Instr.lookup 214 (.map (some v)) (aj d) false) a (aD c)/\aU c False (B [] a)))))))/\∀(_:F) a,B [] a->∃d,ah 9 a (bN e 2) (aj d)/\∃b,ah 3 a (ak e) (o b)/\jc prog (Instr.mapUpdate 214 (.map (some v)) (aj d) (aD true)) a λa=>f [o b] a))/\∀(_:F) b g,f [o b] g->r [o b,o (wrap .i64 (i+1))] g/\D [o b,o (wrap .i64 (i+1))] g<D [o s,o i] a) (∃m b q p ad e k n l,ah 68 a (ak c) (aJ [J m b q,o p,o ad,aD e,o k,o n,o l])/\∃w,ah 3 a (bN c 4) (o w)/\aK 45 [aJ [J m b q,o p,o ad,aD e,o k,o n,o l],o w] a λE a=>∃b C d t,E=a1 [aJ [o b,o C,aj d],aD t]/\∀A g,bm a A [o 0,o 0,aj eh] 122 g->∃a,bp 122 g (ak A) (aJ [o b,o C,aj d]) a/\∃(f:bx),(∃b,ah 3 a (bN c 4) (o b)/\aU (b==0) (∃b,ah 3 a (bN c 5) (o b)/\aU (b==0) (∃b,ah 3 a (bN c 6) (o b)/\f [aD (b==0)] a) (f [aD false] a)) (f [aD false] a))/\∀(_:F) x a,f [aD x] a->∃(f:bx),(∃j,ah 4 a (bN c 3) (aD j)/\aU j False (f [aD x] a))/\∀(_:F) j a,f [aD j] a->aU j (∃b,ah 3 a (bN c 1) (o b)/\eu 103 [o b,o 1099511627776] a λI a=>aU I (∃b,ah 3 a (bN c 2) (o b)/\eu 103 [o b,o 1099511627776] a λc a=>R (aD c) a) (R (aD false) a)) (R (aD false) a))):aK 51 [aJ [J bj aN bE,o aM,o b7,aD k3,o ek,o lp,o q9]] H R:=bJ [(122,.cut [(4,.one (.int .i64)),(15,.one (.int .i64))]),(979,.cut [(4,.one (.int .i64))]),(15667,.cut []),(62669,.dead true),(31335,.tail 6),(63,.cut [(10,.one .bool)]),(127,.cut [(10,.one .bool)]),(509,.dead true)] func51 ntmps51 h
theorem auw(h:aK 49 [aj bu,o aM] H λe d=>∃b a c,e=a1 [b3 b,o a,o c]/\aU (c !=0) (R (a1 [aj eh,o 0,o c]) d) (aY (b>wrap .u64 (wrap .i64 ((↑(bu.size):Int)-a))) (R (a1 [aj eh,o 0,o 10]) d) (bU (0<=a/\a<=wrap .i64 (a+wrap .i64 b)/\wrap .i64 (a+wrap .i64 b)<=(↑(bu.size):Int)) (R (a1 [aj (azG bu (a.toNat) (azw (wrap .i64 (a+wrap .i64 b)))),o (wrap .i64 (a+wrap .i64 b)),o 0]) d)))):aK 52 [aj bu,o aM] H R:=bJ [] func52 ntmps52 h
abbrev ae':Nat:=54
theorem afa(h:aK 30 [J bj aN bE] H λad a=>∃c g,ad=a1 [aj c,o g]/\aU (g !=0) (R (a1 [o 0,o g]) a) (∃d,ah 98 a (aX aQ 1) (.map d)/\∃g b,Rd prog (Instr.lookup 98 (.map d) (aj c) true) a (a1 [o g,aD b])/\aU b (R (a1 [o g,o 0]) a) (∃f g e,ah 134 a aQ (J f g e)/\aY ((g:Int)>=200) (R (a1 [o 0,o 2]) a) (∃f t e,ah 134 a aQ (J f t e)/\dy 32 [J bj aN bE] a λO L M a=>ah 134 a aQ (J f t e)/\∀b B,bm a b [J O L M] 45 B->ah 134 B aQ (J f t e)/\bO (dw 134 (J f t e) (J (some (ak b)) 1 1)) B λad a=>∃f G e,ad=J f G e/\∃w,bp 134 a aQ (J f G e) w/\∃d,ah 98 w (aX aQ 1) (.map d)/\jc prog (Instr.mapUpdate 98 (.map d) (aj c) (o (g:Int))) w λa=>∃(A:bx) (I:cr),A [o 0] a/\∀(_:F) m a,A [o m] a->aY (m<(aN:Int)) (bH bj m aN λN=>(∃c D,ah 51 a (aX N (m.toNat *2)) (aJ [aj c,aj D])/\∀b K,bm a b [aj eh,aj eh] 51 K->∃k,bp 51 K (ak b) (aJ [aj c,aj D]) k/\∃(C:bx),(∃d,ah 133 k (aX aQ 2) (.map d)/\∃c,ah 9 k (ak b) (aj c)/\∃l,Rd prog (Instr.lookup 133 (.map d) (aj c) false) k (.map l)/\aU (l.isNone) (∃d,ah 133 k (aX aQ 2) (.map d)/\∃c,ah 9 k (ak b) (aj c)/\∀(p:Nat) (a:U),dV k p (.map ⟨[]⟩ 0) a->ah 9 a (ak b) (aj c)/\ah 133 a (aX aQ 2) (.map d)/\jc prog (Instr.mapUpdate 133 (.map d) (aj c) (.map (some p))) a λa=>C [] a) (C [] k))/\∀(_:F) j,C [] j->∃d,ah 133 j (aX aQ 2) (.map d)/\∃c,ah 9 j (ak b) (aj c)/\∃l,Rd prog (Instr.lookup 133 (.map d) (aj c) false) j (.map l)/\∃s,ah 9 j (bN b 1) (aj s)/\∃v,ah 133 j (aX aQ 2) (.map v)/\∃u,ah 9 j (ak b) (aj u)/\∃q,Rd prog (Instr.lookup 133 (.map v) (aj u) false) j (.map q)/\∃r,ah 9 j (bN b 1) (aj r)/\∃f x e,Rd prog (Instr.lookup 223 (.map q) (aj r) false) j (J f x e)/\∀p i,bm j p [o (g:Int)] 3 i->Rd prog (Instr.lookup 223 (.map q) (aj r) false) i (J f x e)/\ah 9 i (bN b 1) (aj r)/\Rd prog (Instr.lookup 133 (.map v) (aj u) false) i (.map q)/\ah 9 i (ak b) (aj u)/\ah 133 i (aX aQ 2) (.map v)/\ah 9 i (bN b 1) (aj s)/\Rd prog (Instr.lookup 133 (.map d) (aj c) false) i (.map l)/\ah 9 i (ak b) (aj c)/\ah 133 i (aX aQ 2) (.map d)/\bO (dw 117 (J f x e) (J (some (ak p)) 1 1)) i λad n=>∃f g e,ad=J f g e/\ah 9 n (bN b 1) (aj s)/\Rd prog (Instr.lookup 133 (.map d) (aj c) false) n (.map l)/\ah 9 n (ak b) (aj c)/\ah 133 n (aX aQ 2) (.map d)/\jc prog (Instr.mapUpdate 223 (.map l) (aj s) (J f g e)) n λE=>A [o (wrap .i64 (m+1))] E/\I [o (wrap .i64 (m+1))] E<I [o m] a)) (R (a1 [o (g:Int),o 0]) a))))):aK 54 [ax (some aQ),J bj aN bE] H R:=bJ [(254,.et [0,0,2,6,14,0,32,96,254,511,1023,2047] (eS [0,1,2,3,4,5,106,107,108,9,10,111] .done)),(4090,.cut [(58,.one (.int .i64))]),(261785,.cut []),(2094282,.et [0,1,3,7,0,16,0,127] (eS [0,1,2,3,4,5,106,107] .done)),(523571,.et [0,1,3,7,0,16,63,0,128,0,512,1536,3584,0,8192,32256,0,65536,261632,0,524288,2096640,4194303] (eS [0,1,2,3,4,5,6,7,8,9,10,11,12,13,14,15,16,17,18,19,120,121,122] .done))] func54 ntmps54 h
abbrev auu:Nat:=55
theorem auv(h:∃(k:bx) (u:cr),k [b2,o 0] H/\∀(_:F) e c f g b,k [J e c f,o g] b->aK 52 [aj bu,o g] b λp l=>∃ad a s,p=a1 [aj ad,o a,o s]/\∃(t:bx),(∃(i:bx),aU (s !=0) (i [aD true] l) (aY (wrap .i64 ((↑(bu.size):Int)-a)<2) (i [aD true] l) (bU (0<=a/\a<(↑(bu.size):Int)) (bU (0<=wrap .i64 (a+1)/\wrap .i64 (a+1)<(↑(bu.size):Int)) (cG 107 [aj ad] l λc b=>i [aD (wrap .i64 (↑(azz (azx 64 (wrap .i64 (wrap .i64 (↑(bo bu (a.toNat)):Int)*2^8))|||azx 64 (wrap .i64 (↑(bo bu (azw (wrap .i64 (a+1)))):Int)))):Int) !=c)] b))))/\∀(_:F) d b,i [aD d] b->aU d (R (a1 [J e c f,o g]) b) (t [] b))/\∀(_:F) q,t [] q->∀d v,bm q d [aj ad] 9 v->bO (dw 112 (J e c f) (J (some (ak d)) 1 1)) v λp r=>∃j m n,p=J j m n/\k [J j m n,o (wrap .i64 (a+2))] r/\u [J j m n,o (wrap .i64 (a+2))] r<u [J e c f,o g] b):aK 55 [aj bu] H R:=bJ [(30,.cut [(4,.one .slice),(5,.one (.int .i64))]),(241,.cut []),(482,.cut [(40,.one .bool)]),(964,.et [0,1,3,7,15,7,63,127,255,511,1023,1023,4095,8191,16383,1023,1023,66559,230399,492543,1048575,1023,2098175,8388607,16777215] (eS [0,1,2,3,4,5,6,7,8,9,10,11,12,13,14,15,16,17,18,19,20,21,122,23,24] .done))] func55 ntmps55 h
abbrev amr:Nat:=57
theorem ams(h:∀(ad:Nat) (b:U),dV H ad (.map ⟨[]⟩ 0) b->∃(i:bx) (l:cr),i [o 0] b/\∀(_:F) d b,i [o d] b->aY (d<(c':Int)) (bH e5 d c' λk=>(∃f e p,ah 103 b (aX k (d.toNat *3)) (aJ [o f,o e,o p])/\∀q w,bm b q [o 0,o 0,o 0] 103 w->∃g,bp 103 w (ak q) (aJ [o f,o e,o p]) g/\∃j,ah 3 g (bN q 1) (o j)/\∃t,ah 3 g (bN q 1) (o t)/\∃a v c,Rd prog (Instr.lookup 235 (.map (some ad)) (o t) false) g (J a v c)/\∃B,ah 3 g (ak q) (o B)/\∃E,ah 3 g (bN q 2) (o E)/\∀I m,bm g I [o B,o E] 111 m->Rd prog (Instr.lookup 235 (.map (some ad)) (o t) false) m (J a v c)/\ah 3 m (bN q 1) (o t)/\ah 3 m (bN q 1) (o j)/\bO (dw 55 (J a v c) (J (some (ak I)) 1 1)) m λn r=>∃a M c,n=J a M c/\ah 3 r (bN q 1) (o j)/\jc prog (Instr.mapUpdate 235 (.map (some ad)) (o j) (J a M c)) r λx=>i [o (wrap .i64 (d+1))] x/\l [o (wrap .i64 (d+1))] x<l [o d] b)) (bO (Instr.range 235 (.map (some ad))) b λn b=>∃a,n=ax a/\∃(i:bx) (l:cr),i [b2] b/\∀(_:F) s d c b,i [J s d c] b->bO (Instr.next (ax a) false 0) b λn w=>(n=a1 [aD false]/\dQ 118 [J s d c,.func (Fn.func 116) ⟨[]⟩ ⟨[]⟩] w λb=>∃(i:bx) (l:cr),i [o 0] b/\∀(_:F) f b,i [o f] b->aY (f<(d:Int)) (bH s f d λk=>(∃e a p c,ah 57 b (aX k (f.toNat *2)) (aJ [o e,J a p c])/\aK 119 [J bj aN bE,aJ [o e,J a p c],.func (Fn.func 116) ⟨[]⟩ ⟨[]⟩] b λn g=>∃j ad,n=a1 [o j,aD ad]/\aU ad (bH bj j aN λk=>(∃a t c,ah 55 g (aX (aX k (j.toNat *2)) 1) (J a t c)/\bH s f d λk=>(∃N v u,ah 55 g (aX (aX k (f.toNat *2)) 1) (J N v u)/\dy 120 [J a t c,J N v u] g λa B c m=>bH s f d λk=>(∃r,bp 55 m (aX (aX k (f.toNat *2)) 1) (J a B c) r/\i [o (wrap .i64 (f+1))] r/\l [o (wrap .i64 (f+1))] r<l [o f] b)))) (i [o (wrap .i64 (f+1))] g/\l [o (wrap .i64 (f+1))] g<l [o f] b))) (dy 121 [J bj aN bE,J s d c,.func (Fn.func 116) ⟨[]⟩ ⟨[]⟩] b λa d c b=>∃(i:bx) (l:cr),i [o 0] b/\∀(_:F) e b,i [o e] b->aY (e<(d:Int)) (bH a e d λk=>(∃L p c,ah 55 b (aX (aX k (e.toNat *2)) 1) (J L p c)/\dy 122 [J L p c] b λO j c g=>bH a e d λk=>(∃m,bp 55 g (aX (aX k (e.toNat *2)) 1) (J O j c) m/\i [o (wrap .i64 (e+1))] m/\l [o (wrap .i64 (e+1))] m<l [o e] b))) (R (J a d c) b)))\/∃A C,n=a1 [aD true,A,C]/\bO (Instr.entry (ax a)) w λn g=>∃A C,n=a1 [A,C]/\∃f,A=o f/\∃a e u,C=J a e u/\dQ 111 [J a e u] g λm=>dQ 112 [J a e u,.func (Fn.func 113) ⟨[]⟩ ⟨[]⟩] m λr=>dy 114 [J a e u,.func (Fn.func 115) ⟨[]⟩ ⟨[]⟩] r λa p P x=>∀ad G,bm x ad [o f,J a p P] 57 G->bO (dw 52 (J s d c) (J (some (ak ad)) 1 1)) G λn K=>∃a j D,n=J a j D/\i [J a j D] K/\l [J a j D] K<l [J s d c] b)):aK 57 [J bj aN bE,J e5 c' i'] H R:=bJ [(58,.cut [(20,.one (.int .i64))]),(3737,.et [0,0,2,0,0,16,56,0,128,0,512,1920,3968,8184,16383] (eS [0,1,2,3,4,5,6,7,8,9,10,11,112,113,114] .done)),(250,.cut [(8,.one .slice)]),(8012,.ext),(2042,.cut [(63,.one (.int .i64))]),(1045710,.et [0,0,0,0,12,28,60,0,0,384,896,1920,4092,8191,16383,32767] (eS [0,1,2,3,4,5,6,7,8,9,10,11,112,13,14,115] .done)),(8186,.cut [(99,.one (.int .i64))])] func57 ntmps57 h
abbrev aiZ:Nat:=86
theorem ai0(h:∃(g:bx) (j:cr),g [b3 aM,aj eh] H/\∀(_:F) aM b c,g [b3 aM,aj b] c->aY (aM>127) (∀d e,bm c d [.int .u8 (wrap .u8 (wrap .u64 (azA aM 128+128)))] 5 e->bO (convert 168 9 (J (some (ak d)) 1 1)) e λf i=>∃a,f=aj a/\bU (b.size+a.size<=9223372036854775807) (g [b3 (wrap .u64 (azE aM 128)),aj (b++a)] i/\j [b3 (wrap .u64 (azE aM 128)),aj (b++a)] i<j [b3 aM,aj b] c)) (∀d e,bm c d [.int .u8 (wrap .u8 aM)] 5 e->bO (convert 168 9 (J (some (ak d)) 1 1)) e λf c=>∃a,f=aj a/\bU (b.size+a.size<=9223372036854775807) (R (aj (b++a)) c))):aK 86 [b3 aM] H R:=bJ [(28,.cut [(0,.one (.int .u64)),(3,.one .str)])] func86 ntmps86 h
abbrev akn:Nat:=87
theorem ako(h:aY (aM>=0) (R (b3 (wrap .u64 (2*wrap .u64 aM))) H) (R (b3 (wrap .u64 (wrap .u64 (2*wrap .u64 (wrap .i64 (0-wrap .i64 (aM+1))))+1))) H)):aK 87 [o aM] H R:=bJ [] func87 ntmps87 h
abbrev akv:Nat:=117
theorem akw(h:eu 198 [o aM] H λc a=>eu 198 [o b7] a λb a=>aU c (aU b (R (o 0) a) (R (o (-1:Int)) a)) (aU b (R (o 1) a) (aY (aM<b7) (R (o (-1:Int)) a) (aY (aM>b7) (R (o 1) a) (R (o 0) a))))):aK 117 [o aM,o b7] H R:=bJ [] func117 ntmps117 h
abbrev amH:Nat:=71
theorem amI(h:∃(q:bx) (I:cr),q [b2,o 0] H/\∀(_:F) e b d f a,q [J e b d,o f] a->aY (f<(aN:Int)) (bH bj f aN λr=>(∃v D G w,ah 57 a (aX r (f.toNat *2)) (aJ [o v,J D G w])/\∀i E,bm a i [o 0,b2] 57 E->∃p,bp 57 E (ak i) (aJ [o v,J D G w]) p/\∃x t M,ah 55 p (bN i 1) (J x t M)/\∃(s:bx) (B:cr),s [b2,o 0] p/\∀(_:F) m l n g k,s [J m l n,o g] k->aY (g<(t:Int)) (bH x g t λr=>(∃b j,ah 111 k (aX r (g.toNat *2)) (aJ [o b,o j])/\∀ad a,bm k ad [o 0,o 0] 111 a->∃c,bp 111 a (ak ad) (aJ [o b,o j]) c/\∃b,ah 3 c (ak ad) (o b)/\∃u,ah 3 c (ak i) (o u)/\∃A,ah 3 c (bN ad 1) (o A)/\∀i a,bm c i [o b,o u,o A] 103 a->bO (dw 82 (J m l n) (J (some (ak i)) 1 1)) a λL a=>∃e b d,L=J e b d/\s [J e b d,o (wrap .i64 (g+1))] a/\B [J e b d,o (wrap .i64 (g+1))] a<B [J m l n,o g] k)) (dy 145 [J e b d,J m l n,.func (Fn.func 146) ⟨[]⟩ ⟨[]⟩] k λK j C c=>q [J K j C,o (wrap .i64 (f+1))] c/\I [J K j C,o (wrap .i64 (f+1))] c<I [J e b d,o f] a))) (R (J e b d) a)):aK 71 [J bj aN bE] H R:=bJ [(58,.cut [(3,.one .slice),(11,.one (.int .i64))]),(59802,.cut [(6,.one .slice),(18,.one (.int .i64))])] func71 ntmps71 h
abbrev ajy:Nat:=41
theorem ajz(h:aY ((aN:Int)>8) (R (o 40) H) (∃(j:bx) (k:cr),j [o 0] H/\∀(_:F) b a,j [o b] a->aY (b<(aN:Int)) (∃(g:bx),(bH bj b aN λd=>(∃c,ah 9 a (aX d (b.toNat *2)) (aj c)/\eu 88 [aj c] a λe a=>aU (!e) (R (o 40) a) (bH bj b aN λd=>(∃c,ah 9 a (aX (aX d (b.toNat *2)) 1) (aj c)/\eu 89 [aj c] a λe a=>aU (!e) (R (o 40) a) (bH bj b aN λd=>(∃c,ah 9 a (aX (aX d (b.toNat *2)) 1) (aj c)/\aU (c.toList==azL eh) (R (o 40) a) (aY (b>0) (bH bj b aN λd=>(∃c,ah 9 a (aX d (b.toNat *2)) (aj c)/\bH bj (wrap .i64 (b-1)) aN λd=>(∃i,ah 9 a (aX d (azw (wrap .i64 (b-1))*2)) (aj i)/\aU (Op.bytesLess (c.toList) (i.toList)||c.toList==i.toList) (R (o 40) a) (g [] a)))) (g [] a))))))))/\∀(_:F) f,g [] f->j [o (wrap .i64 (b+1))] f/\k [o (wrap .i64 (b+1))] f<k [o b] a) (R (o 0) a))):aK 41 [J bj aN bE] H R:=bJ [(58,.cut [(3,.one (.int .i64))]),(233,.cut []),(1864,.et [0,0,3,7,15,31,63,127,255,255,1023,2047,4095,8191,16383,32767,65535,131071,131071,524287,1048575,2097151,4194303,8388607,16777215,33554431,67108863,134217727,268435455,268435455,1073741823,2147483647,4294967295,268435455,268435455,17448304639,60397977599,129117454335,266556407807,549755813887,1099511627775,2199023255551] (eS [0,1,2,3,4,105,6,7,8,9,10,11,12,113,14,15,16,17,18,19,20,21,22,23,24,25,26,27,28,29,30,31,32,33,34,35,36,37,38,39,40,41] .done))] func41 ntmps41 h
abbrev ajX:Nat:=42
theorem ajY(h:∃(e:bx) (d:cr),e [aj eh,o 0] H/\∀(_:F) b a c,e [aj b,o a] c->aY (a<(↑(bu.size):Int)) (bU (0<=a/\a<(↑(bu.size):Int)) (aU ((↑(bo bu (a.toNat)):Int)==34) (bU (b.size+2<=9223372036854775807) (e [aj (b++⟨#[92,34]⟩),o (wrap .i64 (a+1))] c/\d [aj (b++⟨#[92,34]⟩),o (wrap .i64 (a+1))] c<d [aj b,o a] c)) (aU ((↑(bo bu (a.toNat)):Int)==92) (bU (b.size+2<=9223372036854775807) (e [aj (b++⟨#[92,92]⟩),o (wrap .i64 (a+1))] c/\d [aj (b++⟨#[92,92]⟩),o (wrap .i64 (a+1))] c<d [aj b,o a] c)) (aU ((↑(bo bu (a.toNat)):Int)==10) (bU (b.size+2<=9223372036854775807) (e [aj (b++⟨#[92,110]⟩),o (wrap .i64 (a+1))] c/\d [aj (b++⟨#[92,110]⟩),o (wrap .i64 (a+1))] c<d [aj b,o a] c)) (bU (0<=a/\a<=wrap .i64 (a+1)/\wrap .i64 (a+1)<=(↑(bu.size):Int)) (bU (b.size+azC (azG bu (a.toNat) (azw (wrap .i64 (a+1))))<=9223372036854775807) (e [aj (b++azG bu (a.toNat) (azw (wrap .i64 (a+1)))),o (wrap .i64 (a+1))] c/\d [aj (b++azG bu (a.toNat) (azw (wrap .i64 (a+1)))),o (wrap .i64 (a+1))] c<d [aj b,o a] c))))))) (bU (1+b.size<=9223372036854775807) (bU (azC (⟨#[34]⟩++b)+1<=9223372036854775807) (R (aj (⟨#[34]⟩++b++⟨#[34]⟩)) c)))):aK 42 [aj bu] H R:=bJ [(58,.cut [(3,.one .str),(4,.one (.int .i64))])] func42 ntmps42 h
abbrev ae1:Nat:=85
theorem ae2(h:∃(e:bx),aY (aM<0) (R (b2) H) (∃b a c,ah 134 H aQ (J b a c)/\aY (aM>=(a:Int)) (R (b2) H) (e [] H))/\∀(_:F) d,e [] d->∃b a c,ah 134 d aQ (J b a c)/\bH b aM a λf=>(∃b a c,ah 45 d (aX f (aM.toNat *1)) (J b a c)/\dy 32 [J b a c] d λb a c d=>R (J b a c) d)):aK 85 [ax (some aQ),o aM] H R:=bJ [(3,.cut [])] func85 ntmps85 h
abbrev ajs:Nat:=65
theorem ajt(h:∃(i:bx) (ad:cr),i [aj eh,o 0] H/\∀(_:F) b d a,i [aj b,o d] a->aY (d<(aN:Int)) (bH bj d aN λp=>(∃l k,ah 51 a (aX p (d.toNat *2)) (aJ [aj l,aj k])/\∀c m,bm a c [aj eh,aj eh] 51 m->∃g,bp 51 m (ak c) (aJ [aj l,aj k]) g/\∃(n:bx),(∃e,ah 9 g (ak c) (aj e)/\eu 137 [aj e] g λq a=>aU (!q) (R (o 40) a) (∃j,ah 9 a (ak c) (aj j)/\aU (Op.bytesLess (j.toList) (b.toList)||j.toList==b.toList) (R (o 40) a) (∃b,ah 9 a (bN c 1) (aj b)/\aU (b.toList==azL eh) (R (o 40) a) (∃b,ah 9 a (bN c 1) (aj b)/\eu 138 [aj b] a λc a=>aU (!c) (R (o 40) a) (n [] a)))))/\∀(_:F) f,n [] f->∃e,ah 9 f (ak c) (aj e)/\i [aj e,o (wrap .i64 (d+1))] f/\ad [aj e,o (wrap .i64 (d+1))] f<ad [aj b,o d] a)) (aY ((aN:Int)>8) (R (o 40) a) (R (o 0) a))):aK 65 [J bj aN bE] H R:=bJ [(58,.cut [(3,.one .str),(8,.one (.int .i64))]),(3737,.cut [])] func65 ntmps65 h
abbrev aiP:Nat:=66
theorem aiQ(h:dQ 139 [ax (some aQ)] H λd=>∃a c b,ah 168 d (aX aQ 1) (J a c b)/\bO (Builtin.append_ ⟨[168,9]⟩ 168 ⟨[J a c b,aj bu]⟩) d λf d=>∃a c b,f=J a c b/\∃e,bp 168 d (aX aQ 1) (J a c b) e/\R (a1 [o (↑(bu.size):Int),.nilIface]) e):aK 66 [ax (some aQ),aj bu] H R:=bJ [] func66 ntmps66 h
abbrev aiW:Nat:=67
theorem aiX(h:dv 140 [b3 (wrap .u64 (↑(bu.size):Int))] H λa b=>bU (a.size+bu.size<=9223372036854775807) (R (aj (a++bu)) b)):aK 67 [aj bu] H R:=bJ [] func67 ntmps67 h
abbrev U3:Nat:=68
theorem U4(h:∃a i f,ah 168 H (aX aQ 1) (J a i f)/\∃j c g,ah 168 H (aX aQ 1) (J j c g)/\bO (Builtin.unsafeSliceData_ ⟨[168]⟩ 264 ⟨[J a i f]⟩) H λd b=>∃a,d=ax a/\ah 168 b (aX aQ 1) (J j c g)/\bO (Builtin.unsafeString_ ⟨[264,3]⟩ 9 ⟨[ax a,o (c:Int)]⟩) b λd b=>∃e,d=aj e/\R (aj e) b):aK 68 [ax (some aQ)] H R:=bJ [(6,.et [0,1,3,7,15,0,32,96,224,480,1023,2047] (eS [0,1,2,3,5,6,7,8,9,104,110,11] .done))] func68 ntmps68 h
abbrev aiI:Nat:=69
theorem aiJ(h:∀k a,bm H k [ax none,b2] 170 a->∃(i:bx) (K:cr),i [o 0] a/\∀(_:F) b a,i [o b] a->aY (b<(aN:Int)) (bH bj b aN λQ=>(∃q e n d L I t D G A ad,ah 84 a (aX Q (b.toNat *5)) (aJ [o q,J e n d,J L I t,J D G A,o ad])/\∀l E,bm a l [o 0,b2,b2,b2,o 0] 84 E->∃f,bp 84 E (ak l) (aJ [o q,J e n d,J L I t,J D G A,o ad]) f/\∃C e u d v m w r x B s,ah 84 f (ak l) (aJ [o C,J e u d,J v m w,J r x B,o s])/\aK 141 [aJ [o C,J e u d,J v m w,J r x B,o s]] f λj M=>∃c g,j=a1 [aj c,o g]/\aU (g !=0) (R (o g) M) (dv 142 [aj c] M λc O=>aK 66 [ax (some (ak k)),aj c] O λj p=>∃P N,j=a1 [o P,N]/\i [o (wrap .i64 (b+1))] p/\K [o (wrap .i64 (b+1))] p<K [o b] a))) (dv 68 [ax (some (ak k))] a λc a=>cG 143 [ax (some aQ),aj ⟨#[119,97,108]⟩,aj c] a λb a=>R (o b) a)):aK 69 [ax (some aQ),J bj aN bE] H R:=bJ [(58,.cut [(12,.one (.int .i64))])] func69 ntmps69 h
abbrev aq9:Nat:=70
theorem aq'(h:bU ((0:Int)<=(0:Int)/\(0<=if(c':Int)<(aN:Int)then(c':Int)else(aN:Int))/\(if(c':Int)<(aN:Int)then(c':Int)else(aN:Int))<=(bE:Int)) (∃(e:bx) (j:cr),e [o 0] H/\∀(_:F) a b,e [o a] b->aY (a<(↑(azw (if(c':Int)<(aN:Int)then(c':Int)else(aN:Int))-azw 0):Int)) (fp bj λc=>bU (0<=a/\a<(↑(azw (if(c':Int)<(aN:Int)then(c':Int)else(aN:Int))-0):Int)) (∃i,ah 3 b (aX c (a.toNat *1)) (o i)/\bH e5 a c' λc=>(∃f,ah 3 b (aX c (a.toNat *1)) (o f)/\cG 144 [ax (some aQ),o i,o f] b λk d=>bH e5 a c' λc=>(∃g,ah 3 d (aX c (a.toNat *1)) (o g)/\aU (k !=g) False (e [o (wrap .i64 (a+1))] d/\j [o (wrap .i64 (a+1))] d<j [o a] b))))) (R (a1 [o 0,o 0,aD false]) b))):aK 70 [ax (some aQ),J bj aN bE,J e5 c' i'] H R:=bJ [(26,.cut [(20,.one (.int .i64))]),(6759,.dead true)] func70 ntmps70 h
abbrev aui:Nat:=90
theorem auj(h:dy 171 [ax (some aQ)] H λf e d b=>∃(j:bx) (K:cr),j [J f e d,o 0] b/\∀(_:F) f e d c b,j [J f e d,o c] b->aY (c<(aN:Int)) (bH bj c aN λO=>(∃m a v C I t,ah 114 b (aX O (c.toNat *4)) (aJ [o m,aj a,aj v,J C I t])/\∀g E,bm b g [o 0,aj eh,aj eh,b2] 114 E->∃i,bp 114 E (ak g) (aJ [o m,aj a,aj v,J C I t]) i/\∃G a p w n A,ah 114 i (ak g) (aJ [o G,aj a,aj p,J w n A])/\cG 172 [aJ [o G,aj a,aj p,J w n A]] i λB k=>aU (B !=0) (R (a1 [b2,o B]) k) (∃u a D s l x,ah 114 k (ak g) (aJ [o u,aj a,aj D,J s l x])/\dy 174 [ax (some aQ),aJ [o u,aj a,aj D,J s l x]] k λP N Q M=>dy 173 [J f e d,J P N Q] M λL r q ad=>j [J L r q,o (wrap .i64 (c+1))] ad/\K [J L r q,o (wrap .i64 (c+1))] ad<K [J f e d,o c] b))) (R (a1 [J f e d,o 0]) b)):aK 90 [ax (some aQ),J bj aN bE] H R:=bJ [(58,.cut [(6,.one .slice),(14,.one (.int .i64))])] func90 ntmps90 h
abbrev aqI:Nat:=91
theorem aqJ(h:∀c a,bm H c [o aM,o b7] 25 a->∃b,ah 3 a (ak c) (o b)/\aY (b>=0) (∃b,ah 3 a (ak c) (o b)/\∃d,ah 3 a (bN c 1) (o d)/\aY (b<d) (∃b,ah 3 a (bN c 1) (o b)/\R (aD (decide (b<=1099511627776))) a) (R (aD false) a)) (R (aD false) a)):aK 91 [aJ [o aM,o b7]] H R:=bJ [] func91 ntmps91 h
abbrev adn:Nat:=75
theorem ado(h:∀a e,bm H a [o 0,o 0] 25 e->∃b,bp 25 e (ak a) (aJ [o (wrap .i64 (aM*100)),o (wrap .i64 (wrap .i64 (aM+1)*100))]) b/\∃d c,ah 25 b (ak a) (aJ [o d,o c])/\R (aJ [o d,o c]) b):aK 75 [o aM] H R:=bJ [] func75 ntmps75 h
abbrev aqF:Nat:=93
theorem aqG(h:aK 176 [J bj aN bE,o aM] H λb c=>∃aM a,b=a1 [o aM,aD a]/\R (aD a) c):aK 93 [J bj aN bE,o aM] H R:=bJ [] func93 ntmps93 h
abbrev akW:Nat:=94
theorem akX(h:∀b a,bm H b [o aM,o b7] 25 a->∃c f,ah 25 a (ak b) (aJ [o c,o f])/\kY 134 [aJ [o c,o f]] a λi a=>∀b g,bm a b [.nilFunc] 258 g->∃a,bp 258 g (ak b) i a/\dy 122 [J bj aN bE] a λe c d a=>dy 130 [J e c d,.func (Fn.func 177) ⟨[]⟩ ⟨[ax (some (ak b))]⟩] a λe c d a=>R (J e c d) a):aK 94 [J bj aN bE,aJ [o aM,o b7]] H R:=bJ [] func94 ntmps94 h
abbrev Ql:Nat:=72
theorem aa3(h:R (o (wrap .i64 (azE aM 100))) H):aK 72 [o aM] H R:=bJ [] func72 ntmps72 h
abbrev arc:Nat:=78
theorem ard(h:∃c,bp 33 H (aX aQ 1) (o aM) c/\aU (aM==0) (∃a b d,ah 183 c (aX aQ 2) (J a b d)/\∀f g,bm c f [.func (Fn.func aN) ⟨[]⟩ ZY] 1 g->bO (dw 183 (J a b d) (J (some (ak f)) 1 1)) g λj c=>∃a b i,j=J a b i/\∃e,bp 183 c (aX aQ 2) (J a b i) e/\R (a1 []) e) (∃a b d,ah 183 c (aX aQ 2) (J a b d)/\kY 163 [J a b d] c λk c=>False)):aK 78 [ax (some aQ),o aM,.func (Fn.func aN) #[] ZY] H R:=bJ [(14,.cut [(29,.one .any),(30,.one .any)])] func78 ntmps78 h
abbrev arf:Nat:=79
theorem arh(h:∀c a,bm H c [ax (some aQ)] 182 a->∀m k,bm a m [aj bu] 9 k->∃i,ah 182 k (ak c) (ax i)/\fp i λi=>∃p,ah 33 k (aX i 1) (o p)/\aU (p !=0) False (∃(ad:bx),(∃i,ah 182 k (ak c) (ax i)/\fp i λn=>∃j,ah 59 k n (ax j)/\∃b,ah 9 k (ak m) (aj b)/\(aK 21 [ax j,aj b] k λl a=>∃b c,l=a1 [aj b,aD c]/\(∀f d,bm a f [aj eh] 9 d->∀e a,bm d e [aD false] 4 a->∃g,bp 9 a (ak f) (aj b) g/\∃a,bp 4 g (ak e) (aD c) a/\ad [ax (some (ak f)),ax (some (ak e))] a)/\∀f d,bm a f [aD false] 4 d->∀e a,bm d e [aj eh] 9 a->∃g,bp 9 a (ak e) (aj b) g/\∃a,bp 4 g (ak f) (aD c) a/\ad [ax (some (ak e)),ax (some (ak f))] a)/\(∀f a,bm k f [aj eh] 9 a->ah 9 a (ak m) (aj b)/\ah 59 a n (ax j)/\ah 182 a (ak c) (ax i)/\(aK 21 [ax j,aj b] a λl a=>∃b c,l=a1 [aj b,aD c]/\∀e d,bm a e [aD false] 4 d->∃a,bp 9 d (ak f) (aj b) a/\∃g,bp 4 a (ak e) (aD c) g/\ad [ax (some (ak f)),ax (some (ak e))] g)/\∀e d,bm a e [aD false] 4 d->ah 9 d (ak m) (aj b)/\ah 59 d n (ax j)/\ah 182 d (ak c) (ax i)/\aK 21 [ax j,aj b] d λl a=>∃b c,l=a1 [aj b,aD c]/\∃g,bp 9 a (ak f) (aj b) g/\∃a,bp 4 g (ak e) (aD c) a/\ad [ax (some (ak f)),ax (some (ak e))] a)/\∀f a,bm k f [aD false] 4 a->ah 9 a (ak m) (aj b)/\ah 59 a n (ax j)/\ah 182 a (ak c) (ax i)/\(aK 21 [ax j,aj b] a λl a=>∃b c,l=a1 [aj b,aD c]/\∀e d,bm a e [aj eh] 9 d->∃a,bp 9 d (ak e) (aj b) a/\∃g,bp 4 a (ak f) (aD c) g/\ad [ax (some (ak e)),ax (some (ak f))] g)/\∀e d,bm a e [aj eh] 9 d->ah 9 d (ak m) (aj b)/\ah 59 d n (ax j)/\ah 182 d (ak c) (ax i)/\aK 21 [ax j,aj b] d λl a=>∃b c,l=a1 [aj b,aD c]/\∃g,bp 9 a (ak e) (aj b) g/\∃a,bp 4 g (ak f) (aD c) a/\ad [ax (some (ak e)),ax (some (ak f))] a)/\∀(_:F) i n a,ad [ax (some i),ax (some n)] a->∃q,ah 182 a (ak c) (ax q)/\∃r,ah 182 a (ak c) (ax r)/\fp r λt=>∃s,ah 59 a t (ax s)/\∃b,ah 9 a (ak m) (aj b)/\cG 164 [ax s,aj b,aj e0] a λp a=>ah 182 a (ak c) (ax q)/\dQ 78 [ax q,o p,.func (Fn.func 165) ⟨[]⟩ ⟨[ax (some n),ax (some (ak c)),ax (some (ak m)),ax (some i)]⟩] a λa=>R (a1 []) a)):aK 79 [ax (some aQ),aj bu,aj e0] H R:=bJ [(13,.dead true),(7,.cut [(6,.one .zk),(7,.one .zk)]),(14,.et [0,1,3,7,0,31,63,127,127,0,0,1791,4095] (.quiet 0 (.quiet 1 (.quiet 2 (.quiet 3 (.quiet 4 (.pick (.alt 5 (.quiet 6 (.quiet 7 (.quiet 8 (.pick (.alt 9 (.pick (.alt 10 (.pick (.alt 11 (.pick (.alt 12 (.done) .stop)) .stop)) .stop)) (.alt 10 (.pick (.alt 9 (.pick (.alt 11 (.pick (.alt 12 (.done) .stop)) .stop)) .stop)) .stop)))))) (.alt 9 (.pick (.alt 5 (.quiet 6 (.quiet 7 (.quiet 8 (.pick (.alt 10 (.pick (.alt 11 (.pick (.alt 12 (.done) .stop)) .stop)) .stop))))) (.alt 10 (.pick (.alt 5 (.quiet 6 (.quiet 7 (.quiet 8 (.pick (.alt 11 (.pick (.alt 12 (.done) .stop)) .stop))))) .stop)) .stop))) (.alt 10 (.pick (.alt 5 (.quiet 6 (.quiet 7 (.quiet 8 (.pick (.alt 9 (.pick (.alt 11 (.pick (.alt 12 (.done) .stop)) .stop)) .stop))))) (.alt 9 (.pick (.alt 5 (.quiet 6 (.quiet 7 (.quiet 8 (.pick (.alt 11 (.pick (.alt 12 (.done) .stop)) .stop))))) .stop)) .stop))) .stop)))))))))),(15,.et [0,0,2,6,14,0,0,126,0,511] (eS [0,1,2,3,4,5,6,8,107,109] .done))] func79 ntmps79 h
abbrev ari:Nat:=80
theorem arj(h:∀d a,bm H d [ax (some aQ)] 182 a->∀g k,bm a g [aj bu] 9 k->∃b,ah 182 k (ak d) (ax b)/\fp b λr=>∃m,ah 59 k r (ax m)/\∃c,ah 9 k (ak g) (aj c)/\(aK 21 [ax m,aj c] k λad a=>∃c j,ad=a1 [aj c,aD j]/\∀i e,bm a i [aj eh] 9 e->∃a,bp 9 e (ak i) (aj c) a/\∃b,ah 182 a (ak d) (ax b)/\fp b λb=>∃f,ah 33 a (aX b 1) (o f)/\aU (f !=0) False (aU (!j) False (∃b,ah 182 a (ak d) (ax b)/\∃q,ah 182 a (ak d) (ax q)/\fp q λl=>∃n,ah 59 a l (ax n)/\∃c,ah 9 a (ak g) (aj c)/\cG 166 [ax n,aj c] a λf a=>ah 182 a (ak d) (ax b)/\dQ 78 [ax b,o f,.func (Fn.func 167) ⟨[]⟩ ⟨[ax (some (ak d)),ax (some (ak g)),ax (some (ak i))]⟩] a λa=>R (a1 []) a)))/\∀j a,bm k j [aj eh] 9 a->ah 9 a (ak g) (aj c)/\ah 59 a r (ax m)/\ah 182 a (ak d) (ax b)/\aK 21 [ax m,aj c] a λad a=>∃c i,ad=a1 [aj c,aD i]/\∃e,bp 9 a (ak j) (aj c) e/\∃b,ah 182 e (ak d) (ax b)/\fp b λb=>∃f,ah 33 e (aX b 1) (o f)/\aU (f !=0) False (aU (!i) False (∃b,ah 182 e (ak d) (ax b)/\∃l,ah 182 e (ak d) (ax l)/\fp l λn=>∃p,ah 59 e n (ax p)/\∃c,ah 9 e (ak g) (aj c)/\cG 166 [ax p,aj c] e λf a=>ah 182 a (ak d) (ax b)/\dQ 78 [ax b,o f,.func (Fn.func 167) ⟨[]⟩ ⟨[ax (some (ak d)),ax (some (ak g)),ax (some (ak j))]⟩] a λa=>R (a1 []) a))):aK 80 [ax (some aQ),aj bu] H R:=bJ [(6,.et [0,1,3,7,0,31,63,127,127,0,767,2047] (.quiet 0 (.quiet 1 (.quiet 2 (.quiet 3 (.quiet 4 (.pick (.alt 5 (.quiet 6 (.quiet 7 (.quiet 8 (.pick (.alt 9 (.pick (.alt 10 (.quiet 11 .done) .stop)) .stop))))) (.alt 9 (.pick (.alt 5 (.quiet 6 (.quiet 7 (.quiet 8 (.pick (.alt 10 (.quiet 11 .done) .stop))))) .stop)) .stop))))))))),(29,.dead true),(15,.et [0,0,2,6,14,0,62,0,255] (eS [0,1,2,3,4,5,7,106,108] .done))] func80 ntmps80 h
abbrev aa9:Nat:=81
theorem aa'(h:∀d a,bm H d [J bj aN bE,o aM,o b7,aD k3,o ek,o lp,o q9] 68 a->∃f b k g e i m j l,ah 68 a (ak d) (aJ [J f b k,o g,o e,aD i,o m,o j,o l])/\aK 168 [aJ [J f b k,o g,o e,aD i,o m,o j,o l]] a λad a=>∃c b,ad=a1 [aj c,o b]/\∃n,ah 33 a (aX aQ 1) (o n)/\aU (n==0) (aU (b !=0) False (dQ 79 [ax (some aQ),aj ⟨#[109,97,110,105,102,101,115,116]⟩,aj c] a λa=>R (a1 []) a)) (dQ 79 [ax (some aQ),aj ⟨#[109,97,110,105,102,101,115,116]⟩,aj c] a λa=>R (a1 []) a)):aK 81 [ax (some aQ),aJ [J bj aN bE,o aM,o b7,aD k3,o ek,o lp,o q9]] H R:=bJ [(29,.dead true)] func81 ntmps81 h
abbrev afF:Nat:=82
theorem afG(h:∃d a f,ah 134 H aQ (J d a f)/\dv 140 [b3 (wrap .u64 (a:Int))] H λb c=>∃d a f,ah 134 c aQ (J d a f)/\∃(i:bx) (l:cr),i [aj b,o 0] c/\∀(_:F) b e c,i [aj b,o e] c->aY (e<(a:Int)) (bH d e a λad=>(∃d a f,ah 45 c (aX ad (e.toNat *1)) (J d a f)/\aK 169 [J d a f] c λn m=>∃k a,n=a1 [aj k,o a]/\dv 67 [aj k] m λg j=>bU (b.size+g.size<=9223372036854775807) (i [aj (b++g),o (wrap .i64 (e+1))] j/\l [aj (b++g),o (wrap .i64 (e+1))] j<l [aj b,o e] c))) (R (aj b) c)):aK 82 [ax (some aQ)] H R:=bJ [(58,.cut [(3,.one .str),(20,.one (.int .i64))])] func82 ntmps82 h
abbrev aqT:Nat:=95
theorem aqU(h:∃(d:bx) (j:cr),d [o 0] H/\∀(_:F) a b,d [o a] b->aY (a<(aN:Int)) (bH bj a aN λl=>(∃i f g,ah 122 b (aX l (a.toNat *3)) (aJ [o i,o f,aj g])/\dY prog c8 [aJ [o i,o f,aj g]] b λk c=>∃e,k=aD e/\aU e (R (o a) c) (d [o (wrap .i64 (a+1))] c/\j [o (wrap .i64 (a+1))] c<j [o a] b))) (R (o (-1:Int)) b)):aK 95 [J bj aN bE,c8] H R:=bJ [(26,.cut [(8,.one (.int .i64))])] func95 ntmps95 h
theorem aqV(h:∀b a,bm H b [o aM,o b7,aj bu] 122 a->∃d,ah 3 a (ak b) (o d)/\∃c,ah 3 a aQ (o c)/\R (aD (d==c)) a):aK 96 [aJ [o aM,o b7,aj bu],ax (some aQ)] H R:=bJ [] func96 ntmps96 h
abbrev af2:Nat:=97
theorem af3(h:∃(g:bx),(∃d,ah 4 H (aX aQ 514) (aD d)/\aU d (R (a1 [aj eh,o 90]) H) (aY (aM<0) (R (a1 [aj eh,o 91]) H) (∃a,ah 3 H aQ (o a)/\aY (aM>=a) (R (a1 [aj eh,o 91]) H) (g [] H))))/\∀(_:F) b,g [] b->∃f,ah 87 b (aX aQ 513) (.map f)/\∃e a i,Rd prog (Instr.lookup 87 (.map f) (o aM) false) b (J e a i)/\aY ((a:Int)>0) (bH e (wrap .i64 ((a:Int)-1)) a λj=>(∃c,ah 9 b (aX j (azw (wrap .i64 ((a:Int)-1))*1)) (aj c)/\R (a1 [aj c,o 0]) b)) (bU (0<=aM/\aM<(↑512:Int)) (∃c,ah 9 b (aX (aX aQ 1) (aM.toNat *1)) (aj c)/\R (a1 [aj c,o 0]) b))):aK 97 [ax (some aQ),o aM] H R:=bJ [(3,.cut [])] func97 ntmps97 h
abbrev ag':Nat:=98
theorem aha(h:∃g,ah 9 H (aX aQ 1) (aj g)/\∃b,ah 3 H (aX aQ 2) (o b)/\aK 49 [aj g,o b] H λk a=>∃b i f,k=a1 [b3 b,o i,o f]/\∃(j:bx),(∃(e:bx),aU (f !=0) (e [aD true] a) (aY (b>1152921504606846976) (e [aD true] a) (∃c,ah 4 a (aX aQ 3) (aD c)/\e [aD !c] a))/\∀(_:F) c a,e [aD c] a->aU c (∃d,bp 4 a (aX aQ 3) (aD false) d/\R (o 0) d) (j [] a))/\∀(_:F) a,j [] a->∃d,bp 3 a (aX aQ 2) (o i) d/\R (o (wrap .i64 b)) d):aK 98 [ax (some aQ)] H R:=bJ [(6,.et [0,1,3,7,0,16,48,112,255,511,1023,1023,1023,2047,12287,32767] (eS [0,1,2,3,4,5,6,7,108,9,10,11,12,13,14,15] .done)),(7,.cut []),(14,.cut [(31,.one .bool)])] func98 ntmps98 h
abbrev acN:Nat:=102
theorem acO(h:aK 181 [aj bu,aj ⟨#[102]⟩] H λc a=>∃g d,c=a1 [aj g,aD d]/\aK 182 [aj g] a λc a=>∃b e,c=a1 [o b,e]/\aU (!d) False (∃f,kM prog (jk BinOp.neq 172 (Operand.tmp 20) (Operand.const .nilIface) e .nilIface) (aD f)/\aU f False (dv 50 [o b] a λi a=>aU (!i.toList==bu.toList) False (aY (b>=100000000000000) False (R (o b) a))))):aK 102 [aj bu] H R:=bJ [(61,.dead true)] func102 ntmps102 h
abbrev aqZ:Nat:=103
theorem aq0(h:aY (aM>=0) (R (aD (decide (aM<=b7))) H) (R (aD false) H)):aK 103 [o aM,o b7] H R:=bJ [] func103 ntmps103 h
abbrev afJ:Nat:=107
theorem afK(h:bO (convert 9 168 (aj bu)) H λl c=>∃i b k,l=J i b k/\∃(g:bx) (j:cr),g [.int .u16 65535,o 0] c/\∀(_:F) a d c,g [.int .u16 a,o d] c->aY (d<(b:Int)) (bH i d b λm=>(∃b,ah 5 c (aX m (d.toNat *1)) (.int .u8 b)/\bU (0<=wrap .u16 (↑(azz (azx 16 (azy a (2^12))^^^azx 16 (wrap .u16 (azy b (2^4))))):Int)/\wrap .u16 (↑(azz (azx 16 (azy a (2^12))^^^azx 16 (wrap .u16 (azy b (2^4))))):Int)<(↑16:Int)) (∃e,ah 302 c (aX ⟨0,0,none⟩ (azw (wrap .u16 (↑(azz (azx 16 (azy a (2^12))^^^azx 16 (wrap .u16 (azy b (2^4))))):Int))*1)) (.int .u16 e)/\bU (0<=wrap .u16 (↑(azz (azx 16 (azy (wrap .u16 (↑(azz (azx 16 (wrap .u16 (a*2^4))^^^azx 16 e)):Int)) (2^12))^^^azx 16 (wrap .u16 (wrap .u8 (↑(azz (azx 8 b&&&azx 8 15)):Int))))):Int)/\wrap .u16 (↑(azz (azx 16 (azy (wrap .u16 (↑(azz (azx 16 (wrap .u16 (a*2^4))^^^azx 16 e)):Int)) (2^12))^^^azx 16 (wrap .u16 (wrap .u8 (↑(azz (azx 8 b&&&azx 8 15)):Int))))):Int)<(↑16:Int)) (∃f,ah 302 c (aX ⟨0,0,none⟩ (azw (wrap .u16 (↑(azz (azx 16 (azy (wrap .u16 (↑(azz (azx 16 (wrap .u16 (a*2^4))^^^azx 16 e)):Int)) (2^12))^^^azx 16 (wrap .u16 (wrap .u8 (↑(azz (azx 8 b&&&azx 8 15)):Int))))):Int))*1)) (.int .u16 f)/\g [.int .u16 (wrap .u16 (↑(azz (azx 16 (wrap .u16 (wrap .u16 (↑(azz (azx 16 (wrap .u16 (a*2^4))^^^azx 16 e)):Int)*2^4))^^^azx 16 f)):Int)),o (wrap .i64 (d+1))] c/\j [.int .u16 (wrap .u16 (↑(azz (azx 16 (wrap .u16 (wrap .u16 (↑(azz (azx 16 (wrap .u16 (a*2^4))^^^azx 16 e)):Int)*2^4))^^^azx 16 f)):Int)),o (wrap .i64 (d+1))] c<j [.int .u16 a,o d] c)))) (R (o (wrap .i64 a)) c)):aK 107 [aj bu] H R:=bJ [(58,.cut [(3,.one (.int .u16)),(9,.one (.int .i64))])] func107 ntmps107 h
abbrev aiy:Nat:=109
theorem aiz(h:∀a l,bm H a [.nilFunc,.nilFunc,.nilFunc,.nilFunc,.nilFunc,.nilFunc,.nilFunc,.nilFunc] 231 l->∃b,bp 231 l (ak a) (aJ [.func (Fn.func 185) ⟨[]⟩ ⟨[]⟩,.func (Fn.func 186) ⟨[]⟩ ⟨[]⟩,.func (Fn.func 187) ⟨[]⟩ ⟨[]⟩,.func (Fn.func 190) ⟨[]⟩ ⟨[]⟩,.func (Fn.func 192) ⟨[]⟩ ⟨[]⟩,.func (Fn.func 193) ⟨[]⟩ ⟨[]⟩,.func (Fn.func 194) ⟨[]⟩ ⟨[]⟩,.func (Fn.func 195) ⟨[]⟩ ⟨[]⟩]) b/\∃i c e k g j d f,ah 231 b (ak a) (aJ [i,c,e,k,g,j,d,f])/\R (aJ [i,c,e,k,g,j,d,f]) b):aK 109 [] H R:=bJ [] func109 ntmps109 h
abbrev aid:Nat:=110
theorem aie(h:∀c a,bm H c [o aM,J bj aN bE,J e5 c' i',J hz J7 J8,o b7] 84 a->∃d b e,ah 45 a (bN c 1) (J d b e)/\∃d x e,ah 82 a (bN c 2) (J d x e)/\∃d t e,ah 69 a (bN c 3) (J d t e)/\∃D,ah 3 a (bN c 4) (o D)/\∀q C,bm a q [aD false,aD false,aD false,aD false] 305 C->∃a,bp 305 C (ak q) (aJ [aD (decide ((b:Int)>0)),aD (decide ((x:Int)>0)),aD (decide ((t:Int)>0)),aD (D !=0)]) a/\∃w B v u,ah 305 a (ak q) (aJ [aD w,aD B,aD v,aD u])/\∃(f:bx) (j:cr),f [o 0] a/\∀(_:F) b a,f [o b] a->aY (b<4) (bU (0<=b/\b<(↑4:Int)) (∃l,oZ prog 4 [aD w,aD B,aD v,aD u] (b.toNat *1) (aD l)/\aU l (∃i,ah 3 a (ak c) (o i)/\aU (b !=i) (R (aD false) a) (f [o (wrap .i64 (b+1))] a/\j [o (wrap .i64 (b+1))] a<j [o b] a)) (f [o (wrap .i64 (b+1))] a/\j [o (wrap .i64 (b+1))] a<j [o b] a))) (∃d b e,ah 82 a (bN c 2) (J d b e)/\∃(f:bx) (j:cr),f [o 0] a/\∀(_:F) i a,f [o i] a->aY (i<(b:Int)) (bH d i b λp=>(∃b g m,ah 103 a (aX p (i.toNat *3)) (aJ [o b,o g,o m])/\∀c k,bm a c [o 0,o 0,o 0] 103 k->∃r,bp 103 k (ak c) (aJ [o b,o g,o m]) r/\∃b,ah 3 r (ak c) (o b)/\eu 196 [o b,o 1099511627776] r λl ad=>aU (!l) (R (aD false) ad) (∃b,ah 3 ad (bN c 1) (o b)/\eu 196 [o b,o 199] ad λc n=>aU (!c) (R (aD false) n) (f [o (wrap .i64 (i+1))] n/\j [o (wrap .i64 (i+1))] n<j [o i] a)))) (∃d b e,ah 69 a (bN c 3) (J d b e)/\∃(f:bx) (j:cr),f [o 0] a/\∀(_:F) g a,f [o g] a->aY (g<(b:Int)) (∃(E:bx),(bH d g b λp=>(∃b m A,ah 250 a (aX p (g.toNat *3)) (aJ [o b,o m,o A])/\∀c k,bm a c [o 0,o 0,o 0] 250 k->∃a,bp 250 k (ak c) (aJ [o b,o m,o A]) a/\∃b,ah 3 a (ak c) (o b)/\eu 196 [o b,o 199] a λl a=>aU (!l) (R (aD false) a) (∃b,ah 3 a (bN c 1) (o b)/\aY (b<0) (R (aD false) a) (∃b,ah 3 a (bN c 2) (o b)/\∃s,ah 3 a (bN c 1) (o s)/\aY (b<=s) (R (aD false) a) (∃b,ah 3 a (bN c 2) (o b)/\aY (b>1099511627776) (R (aD false) a) (E [] a))))))/\∀(_:F) k,E [] k->f [o (wrap .i64 (g+1))] k/\j [o (wrap .i64 (g+1))] k<j [o g] a) (∃b,ah 3 a (ak c) (o b)/\eu 196 [o b,o 3] a λl a=>aU l (∃b,ah 3 a (bN c 4) (o b)/\eu 196 [o b,o 1099511627776] a λG a=>aU G (∃d b e,ah 82 a (bN c 2) (J d b e)/\aY ((b:Int)<=5000) (∃d b e,ah 69 a (bN c 3) (J d b e)/\R (aD (decide ((b:Int)<=5000))) a) (R (aD false) a)) (R (aD false) a)) (R (aD false) a))))):aK 110 [aJ [o aM,J bj aN bE,J e5 c' i',J hz J7 J8,o b7]] H R:=bJ [(58,.cut [(27,.one (.int .i64))]),(122,.cut [(42,.one (.int .i64))]),(250,.cut [(60,.one (.int .i64))]),(2003,.cut [])] func110 ntmps110 h
abbrev alX:Nat:=111
theorem alY(h:∃(f:bx) (m:cr),f [o 0,o (wrap .i64 ((aN:Int)-1))] H/\∀(_:F) b a d,f [o b,o a] d->aY (b<a) (bH bj a aN λc=>(∃g l,ah 111 d (aX c (a.toNat *2)) (aJ [o g,o l])/\bH bj b aN λc=>(∃j k,ah 111 d (aX c (b.toNat *2)) (aJ [o j,o k])/\bH bj b aN λc=>(∃i,bp 111 d (aX c (b.toNat *2)) (aJ [o g,o l]) i/\bH bj a aN λc=>(∃e,bp 111 i (aX c (a.toNat *2)) (aJ [o j,o k]) e/\f [o (wrap .i64 (b+1)),o (wrap .i64 (a-1))] e/\m [o (wrap .i64 (b+1)),o (wrap .i64 (a-1))] e<m [o b,o a] d))))) (R (a1 []) d)):aK 111 [J bj aN bE] H R:=bJ [(6,.cut [(2,.one (.int .i64)),(3,.one (.int .i64))]),(100,.et [0,0,0,0,0,0,48,112,0,0,768,1792,4083,8179,16383,32767] (eS [0,1,2,3,4,5,6,7,8,9,10,11,12,113,14,115] .done))] func111 ntmps111 h
abbrev alF:Nat:=112
theorem alG(h:dQ 197 [J bj aN bE,o (aN:Int),c8] H λa=>R (a1 []) a):aK 112 [J bj aN bE,c8] H R:=bJ [] func112 ntmps112 h
abbrev aky:Nat:=113
theorem akz(h:∀d c,bm H d [o aM,o b7] 111 c->∀f a,bm c f [o ek,o lp] 111 a->∃b,ah 3 a (ak d) (o b)/\∃e,ah 3 a (ak f) (o e)/\cG 117 [o b,o e] a λb c=>R (o b) c):aK 113 [aJ [o aM,o b7],aJ [o ek,o lp]] H R:=bJ [] func113 ntmps113 h
abbrev al3:Nat:=114
theorem al4(h:aY ((aN:Int)<2) (R (J bj aN bE) H) (∃(f:bx) (g:cr),f [o 1] H/\∀(_:F) a d,f [o a] d->aY (a<(aN:Int)) (bH bj a aN λe=>(∃s ad,ah 111 d (aX e (a.toNat *2)) (aJ [o s,o ad])/\bH bj (wrap .i64 (a-1)) aN λe=>(∃v t,ah 111 d (aX e (azw (wrap .i64 (a-1))*2)) (aJ [o v,o t])/\dY prog c8 [aJ [o s,o ad],aJ [o v,o t]] d λj l=>∃i,j=aD i/\aU i (bU (0<=a/\a<=(aN:Int)/\(aN:Int)<=(bE:Int)) (∃(f:bx) (g:cr),f [o a,o 1] l/\∀(_:F) b c d,f [o b,o c] d->aY (c<(↑(azw (aN:Int)-a.toNat):Int)) (fp (df bE (a.toNat) 2 bj) λe=>bU (0<=c/\c<(↑(azw (aN:Int)-a.toNat):Int)) (∃r n,ah 111 d (aX e (c.toNat *2)) (aJ [o r,o n])/\fp (df bE (a.toNat) 2 bj) λe=>bU (0<=wrap .i64 (c-1)/\wrap .i64 (c-1)<(↑(azw (aN:Int)-a.toNat):Int)) (∃q u,ah 111 d (aX e (azw (wrap .i64 (c-1))*2)) (aJ [o q,o u])/\dY prog c8 [aJ [o r,o n],aJ [o q,o u]] d λj k=>∃i,j=aD i/\aU (!i) (fp (df bE (a.toNat) 2 bj) λe=>bU (0<=c/\c<(↑(azw (aN:Int)-a.toNat):Int)) (∃a p,ah 111 k (aX e (c.toNat *2)) (aJ [o a,o p])/\bH bj b aN λe=>(∃m,bp 111 k (aX e (b.toNat *2)) (aJ [o a,o p]) m/\f [o (wrap .i64 (b+1)),o (wrap .i64 (c+1))] m/\g [o (wrap .i64 (b+1)),o (wrap .i64 (c+1))] m<g [o b,o c] d))) (f [o b,o (wrap .i64 (c+1))] k/\g [o b,o (wrap .i64 (c+1))] k<g [o b,o c] d)))) (bU (0<=b/\b<=(aN:Int)/\(aN:Int)<=(bE:Int)) (bO (Builtin.clear_ ⟨[55]⟩ 0 ⟨[J (df bE (b.toNat) 2 bj) (azw (aN:Int)-b.toNat) (bE-b.toNat)]⟩) d λj d=>j=a1 []/\bU ((0:Int)<=(0:Int)/\0<=b/\b<=(bE:Int)) (R (J bj (b.toNat-0) (bE-0)) d))))) (f [o (wrap .i64 (a+1))] l/\g [o (wrap .i64 (a+1))] l<g [o a] d)))) (R (J bj aN bE) d))):aK 114 [J bj aN bE,c8] H R:=bJ [(58,.cut [(5,.one (.int .i64))]),(1864,.tail 10),(59690,.cut [(5,.one (.int .i64)),(7,.one (.int .i64))]),(1910088,.tail 10)] func114 ntmps114 h
theorem al1(h:∀b f,bm H b [o aM,o b7] 111 f->∀d a,bm f d [o ek,o lp] 111 a->∃e,ah 3 a (ak b) (o e)/\∃c,ah 3 a (ak d) (o c)/\R (aD (e==c)) a):aK 115 [aJ [o aM,o b7],aJ [o ek,o lp]] H R:=bJ [] func115 ntmps115 h
abbrev alH:Nat:=116
theorem alI(h:∀d c,bm H d [o aM,J bj aN bE] 57 c->∀f a,bm c f [o b7,J e5 c' i'] 57 a->∃b,ah 3 a (ak d) (o b)/\∃e,ah 3 a (ak f) (o e)/\cG 117 [o b,o e] a λb c=>R (o b) c):aK 116 [aJ [o aM,J bj aN bE],aJ [o b7,J e5 c' i']] H R:=bJ [] func116 ntmps116 h
abbrev al8:Nat:=119
theorem al9(h:∀q b,bm H q [o aM,J e5 c' i'] 57 b->∃(p:bx) (ad:cr),p [o 0,o (aN:Int)] b/\∀(_:F) a c b,p [o a,o c] b->aY (a<c) (bH bj (wrap .i64 (azy (wrap .u64 (wrap .i64 (a+c))) (2^1))) aN λs=>(∃e g l f,ah 57 b (aX s (azw (wrap .i64 (azy (wrap .u64 (wrap .i64 (a+c))) (2^1)))*2)) (aJ [o e,J g l f])/\∃i d k j,ah 57 b (ak q) (aJ [o i,J d k j])/\dY prog c8 [aJ [o e,J g l f],aJ [o i,J d k j]] b λr n=>∃m,r=o m/\aY (m<0) (p [o (wrap .i64 (wrap .i64 (azy (wrap .u64 (wrap .i64 (a+c))) (2^1))+1)),o c] n/\ad [o (wrap .i64 (wrap .i64 (azy (wrap .u64 (wrap .i64 (a+c))) (2^1))+1)),o c] n<ad [o a,o c] b) (p [o a,o (wrap .i64 (azy (wrap .u64 (wrap .i64 (a+c))) (2^1)))] n/\ad [o a,o (wrap .i64 (azy (wrap .u64 (wrap .i64 (a+c))) (2^1)))] n<ad [o a,o c] b))) (aY (a<(aN:Int)) (bH bj a aN λs=>(∃e g l f,ah 57 b (aX s (a.toNat *2)) (aJ [o e,J g l f])/\∃i d k j,ah 57 b (ak q) (aJ [o i,J d k j])/\dY prog c8 [aJ [o e,J g l f],aJ [o i,J d k j]] b λr b=>∃m,r=o m/\R (a1 [o a,aD (m==0)]) b)) (R (a1 [o a,aD false]) b))):aK 119 [J bj aN bE,aJ [o aM,J e5 c' i'],c8] H R:=bJ [(60,.cut [(9,.one (.int .i64)),(10,.one (.int .i64))]),(1930,.tail 6),(62,.et [0,0,0,6,14,30,30,30,222,478,30,2046,4094,8190,4095,32767] (eS [0,1,2,3,4,5,6,7,8,9,10,111,12,13,14,15] .done))] func119 ntmps119 h
abbrev akD:Nat:=120
theorem akE(h:dy 200 [J bj aN bE,J e5 c' i',.func (Fn.func 113) ⟨[]⟩ ⟨[]⟩] H λb d a c=>R (J b d a) c):aK 120 [J bj aN bE,J e5 c' i'] H R:=bJ [] func120 ntmps120 h
abbrev alK:Nat:=121
theorem alL(h:bO (Instr.makeSlice 52 (o 0) (o (wrap .i64 ((aN:Int)+(c':Int))))) H λg f=>∃c a b,g=J c a b/\∃(B:bx) (A:cr),B [J bj aN bE,J e5 c' i',J c a b] f/\∀(_:F) c a b i d e p m n f,B [J c a b,J i d e,J p m n] f->∃(P:bx),aY ((a:Int)>0) (aY ((d:Int)>0) (P [] f) (bO (dw 52 (J p m n) (J c a b)) f λg f=>∃c a b,g=J c a b/\bO (dw 52 (J c a b) (J i d e)) f λg f=>∃c a b,g=J c a b/\R (J c a b) f)) (bO (dw 52 (J p m n) (J c a b)) f λg f=>∃c a b,g=J c a b/\bO (dw 52 (J c a b) (J i d e)) f λg f=>∃c a b,g=J c a b/\R (J c a b) f)/\∀(_:F) C,P [] C->bH c (0) a λad=>(∃O G N I,ah 57 C ad (aJ [o O,J G N I])/\bH i (0) d λad=>(∃E L M K,ah 57 C ad (aJ [o E,J L M K])/\dY prog c8 [aJ [o O,J G N I],aJ [o E,J L M K]] C λg x=>∃D,g=o D/\aY (D<0) (bH c (0) a λad=>(∃q w t s,ah 57 x ad (aJ [o q,J w t s])/\bU ((0:Int)<=(1:Int)/\1<=(a:Int)/\(a:Int)<=(b:Int)) (∀u v,bm x u [o q,J w t s] 57 v->bO (dw 52 (J p m n) (J (some (ak u)) 1 1)) v λg r=>∃j k l,g=J j k l/\B [J (df b 1 2 c) (azw (a:Int)-1) (b-1),J i d e,J j k l] r/\A [J (df b 1 2 c) (azw (a:Int)-1) (b-1),J i d e,J j k l] r<A [J c a b,J i d e,J p m n] f))) (aU (D==0) (bU ((0:Int)<=(1:Int)/\1<=(a:Int)/\(a:Int)<=(b:Int)) (bH i (0) d λad=>(∃q w t s,ah 57 x ad (aJ [o q,J w t s])/\bU ((0:Int)<=(1:Int)/\1<=(d:Int)/\(d:Int)<=(e:Int)) (∀u v,bm x u [o q,J w t s] 57 v->bO (dw 52 (J p m n) (J (some (ak u)) 1 1)) v λg r=>∃j k l,g=J j k l/\B [J (df b 1 2 c) (azw (a:Int)-1) (b-1),J (df e 1 2 i) (azw (d:Int)-1) (e-1),J j k l] r/\A [J (df b 1 2 c) (azw (a:Int)-1) (b-1),J (df e 1 2 i) (azw (d:Int)-1) (e-1),J j k l] r<A [J c a b,J i d e,J p m n] f)))) (bH i (0) d λad=>(∃q w t s,ah 57 x ad (aJ [o q,J w t s])/\bU ((0:Int)<=(1:Int)/\1<=(d:Int)/\(d:Int)<=(e:Int)) (∀u v,bm x u [o q,J w t s] 57 v->bO (dw 52 (J p m n) (J (some (ak u)) 1 1)) v λg r=>∃j k l,g=J j k l/\B [J c a b,J (df e 1 2 i) (azw (d:Int)-1) (e-1),J j k l] r/\A [J c a b,J (df e 1 2 i) (azw (d:Int)-1) (e-1),J j k l] r<A [J c a b,J i d e,J p m n] f))))))):aK 121 [J bj aN bE,J e5 c' i',c8] H R:=bJ [(28,.cut [(0,.one .slice),(1,.one .slice),(7,.one .slice)]),(56,.cut []),(452,.tail 7),(7252,.et [0,0,2,6,14,31,0,64,63,511] (eS [0,1,2,3,6,7,104,105,8,9] .done)),(1815,.et [0,0,2,6,14,31,0,64,63,511] (eS [0,1,2,3,6,7,104,105,8,9] .done))] func121 ntmps121 h
abbrev akU:Nat:=122
theorem akV(h:aU (bj.isNone) (R (b2) H) (∀b a,bm H b [] 111 a->bO (dw 55 (J (some (ak b)) 0 0) (J bj aN bE)) a λf a=>∃c e d,f=J c e d/\R (J c e d) a)):aK 122 [J bj aN bE] H R:=bJ [] func122 ntmps122 h
abbrev alQ:Nat:=128
theorem alR(h:∃(d:bx) (e:cr),d [o 0] H/\∀(_:F) a b,d [o a] b->aY (a<(aN:Int)) (bH bj a aN λf=>(∃c,ah 3 b (aX f (a.toNat *1)) (o c)/\aU (c !=0) (R (o c) b) (d [o (wrap .i64 (a+1))] b/\e [o (wrap .i64 (a+1))] b<e [o a] b))) (R (o 0) b)):aK 128 [J bj aN bE] H R:=bJ [(58,.cut [(8,.one (.int .i64))])] func128 ntmps128 h
abbrev akP:Nat:=130
theorem akQ(h:cG 203 [J bj aN bE,c8] H λa b=>aU (a==(-1:Int)) (R (J bj aN bE) b) (∃(d:bx) (f:cr),d [o a,o (wrap .i64 (a+1))] b/\∀(_:F) a c b,d [o a,o c] b->aY (c<(aN:Int)) (bH bj c aN λk=>(∃m s,ah 111 b (aX k (c.toNat *2)) (aJ [o m,o s])/\∀e p,bm b e [o 0,o 0] 111 p->∃i,bp 111 p (ak e) (aJ [o m,o s]) i/\∃q n,ah 111 i (ak e) (aJ [o q,o n])/\dY prog c8 [aJ [o q,o n]] i λj g=>∃r,j=aD r/\aU (!r) (∃ad t,ah 111 g (ak e) (aJ [o ad,o t])/\bH bj a aN λk=>(∃l,bp 111 g (aX k (a.toNat *2)) (aJ [o ad,o t]) l/\d [o (wrap .i64 (a+1)),o (wrap .i64 (c+1))] l/\f [o (wrap .i64 (a+1)),o (wrap .i64 (c+1))] l<f [o a,o c] b)) (d [o a,o (wrap .i64 (c+1))] g/\f [o a,o (wrap .i64 (c+1))] g<f [o a,o c] b))) (bU (0<=a/\a<=(aN:Int)/\(aN:Int)<=(bE:Int)) (bO (Builtin.clear_ ⟨[55]⟩ 0 ⟨[J (df bE (a.toNat) 2 bj) (azw (aN:Int)-a.toNat) (bE-a.toNat)]⟩) b λj b=>j=a1 []/\bU ((0:Int)<=(0:Int)/\0<=a/\a<=(bE:Int)) (R (J bj (a.toNat-0) (bE-0)) b))))):aK 130 [J bj aN bE,c8] H R:=bJ [(122,.cut [(5,.one (.int .i64)),(6,.one (.int .i64))])] func130 ntmps130 h
abbrev akF:Nat:=134
theorem akG(h:∀a b,bm H a [o aM,o b7] 25 b->R (.func (Fn.func 204) ⟨[]⟩ ⟨[ax (some (ak a))]⟩) b):aK 134 [aJ [o aM,o b7]] H R:=bJ [] func134 ntmps134 h
theorem Nh(h:R (aD (aM !=aM)) H):aK 198 [o aM] H R:=bJ [] func198 ntmps198 h
abbrev afN:Nat:=142
theorem afO(h:cG 107 [aj bu] H λf a=>(dv 67 [aj bu] a λbu a=>∀c d,bm a c [.int .u8 (wrap .u8 (azy f (2^8))),.int .u8 (wrap .u8 f)] 5 d->bO (convert 168 9 (J (some (ak c)) 2 2)) d λe a=>∃b,e=aj b/\bU (bu.size+b.size<=9223372036854775807) (R (aj (bu++b)) a))/\∀c d,bm a c [.int .u8 (wrap .u8 (azy f (2^8))),.int .u8 (wrap .u8 f)] 5 d->(dv 67 [aj bu] d λbu a=>bO (convert 168 9 (J (some (ak c)) 2 2)) a λe a=>∃b,e=aj b/\bU (bu.size+b.size<=9223372036854775807) (R (aj (bu++b)) a))/\bO (convert 168 9 (J (some (ak c)) 2 2)) d λe a=>∃b,e=aj b/\dv 67 [aj bu] a λbu a=>bU (bu.size+b.size<=9223372036854775807) (R (aj (bu++b)) a)):aK 142 [aj bu] H R:=bJ [(14,.et [0,1,0,4,12,0,32,124,252,511,1023] (.quiet 0 (.quiet 2 (.quiet 3 (.quiet 4 (.quiet 5 (.quiet 6 (.pick (.alt 1 (.pick (.alt 7 (.pick (.alt 8 (.quiet 9 (.quiet 10 .done)) .stop)) .stop)) (.alt 7 (.pick (.alt 1 (.pick (.alt 8 (.quiet 9 (.quiet 10 .done)) .stop)) (.alt 8 (.pick (.alt 1 (.quiet 9 (.quiet 10 .done)) .stop)) .stop))) .stop))))))))))] func142 ntmps142 h
abbrev aiT:Nat:=140
theorem aiU(h:bO (Instr.makeSlice 168 (o 0) (o 10)) H λd b=>∃a ad c,d=J a ad c/\∃(i:bx) (p:cr),i [b3 aM,J a ad c] b/\∀(_:F) aM a g c b,i [b3 aM,J a g c] b->aY (aM>=128) (∀e f,bm b e [.int .u8 (wrap .u8 (↑(azz (azx 8 (wrap .u8 aM)|||azx 8 128)):Int))] 5 f->bO (dw 168 (J a g c) (J (some (ak e)) 1 1)) f λd m=>∃l k j,d=J l k j/\i [b3 (azy aM (2^7)),J l k j] m/\p [b3 (azy aM (2^7)),J l k j] m<p [b3 aM,J a g c] b) (∀e f,bm b e [.int .u8 (wrap .u8 aM)] 5 f->bO (dw 168 (J a g c) (J (some (ak e)) 1 1)) f λd b=>∃a aM c,d=J a aM c/\bO (convert 168 9 (J a aM c)) b λd b=>∃n,d=aj n/\R (aj n) b)):aK 140 [b3 aM] H R:=bJ [(28,.cut [(0,.one (.int .u64)),(3,.one .slice)])] func140 ntmps140 h
abbrev U1:Nat:=184
theorem U2(h:dQ 139 [ax (some aQ)] H λc=>∃a b g,ah 168 c (aX aQ 1) (J a b g)/\∀f e,bm c f [.int .u8 aM] 5 e->bO (dw 168 (J a b g) (J (some (ak f)) 1 1)) e λi c=>∃a b aM,i=J a b aM/\∃d,bp 168 c (aX aQ 1) (J a b aM) d/\R .nilIface d):aK 184 [ax (some aQ),.int .u8 aM] H R:=bJ [] func184 ntmps184 h
abbrev alN:Nat:=145
theorem alO(h:bO (Instr.makeSlice 82 (o 0) (o (wrap .i64 ((aN:Int)+(c':Int))))) H λg f=>∃c a b,g=J c a b/\∃(A:bx) (x:cr),A [J bj aN bE,J e5 c' i',J c a b] f/\∀(_:F) c a b i d e p m n f,A [J c a b,J i d e,J p m n] f->∃(M:bx),aY ((a:Int)>0) (aY ((d:Int)>0) (M [] f) (bO (dw 82 (J p m n) (J c a b)) f λg f=>∃c a b,g=J c a b/\bO (dw 82 (J c a b) (J i d e)) f λg f=>∃c a b,g=J c a b/\R (J c a b) f)) (bO (dw 82 (J p m n) (J c a b)) f λg f=>∃c a b,g=J c a b/\bO (dw 82 (J c a b) (J i d e)) f λg f=>∃c a b,g=J c a b/\R (J c a b) f)/\∀(_:F) B,M [] B->bH c (0) a λad=>(∃L K E,ah 103 B ad (aJ [o L,o K,o E])/\bH i (0) d λad=>(∃I G D,ah 103 B ad (aJ [o I,o G,o D])/\dY prog c8 [aJ [o L,o K,o E],aJ [o I,o G,o D]] B λg w=>∃C,g=o C/\aY (C<0) (bH c (0) a λad=>(∃s q t,ah 103 w ad (aJ [o s,o q,o t])/\bU ((0:Int)<=(1:Int)/\1<=(a:Int)/\(a:Int)<=(b:Int)) (∀u v,bm w u [o s,o q,o t] 103 v->bO (dw 82 (J p m n) (J (some (ak u)) 1 1)) v λg r=>∃k l j,g=J k l j/\A [J (df b 1 3 c) (azw (a:Int)-1) (b-1),J i d e,J k l j] r/\x [J (df b 1 3 c) (azw (a:Int)-1) (b-1),J i d e,J k l j] r<x [J c a b,J i d e,J p m n] f))) (aU (C==0) (bU ((0:Int)<=(1:Int)/\1<=(a:Int)/\(a:Int)<=(b:Int)) (bH i (0) d λad=>(∃s q t,ah 103 w ad (aJ [o s,o q,o t])/\bU ((0:Int)<=(1:Int)/\1<=(d:Int)/\(d:Int)<=(e:Int)) (∀u v,bm w u [o s,o q,o t] 103 v->bO (dw 82 (J p m n) (J (some (ak u)) 1 1)) v λg r=>∃k l j,g=J k l j/\A [J (df b 1 3 c) (azw (a:Int)-1) (b-1),J (df e 1 3 i) (azw (d:Int)-1) (e-1),J k l j] r/\x [J (df b 1 3 c) (azw (a:Int)-1) (b-1),J (df e 1 3 i) (azw (d:Int)-1) (e-1),J k l j] r<x [J c a b,J i d e,J p m n] f)))) (bH i (0) d λad=>(∃s q t,ah 103 w ad (aJ [o s,o q,o t])/\bU ((0:Int)<=(1:Int)/\1<=(d:Int)/\(d:Int)<=(e:Int)) (∀u v,bm w u [o s,o q,o t] 103 v->bO (dw 82 (J p m n) (J (some (ak u)) 1 1)) v λg r=>∃k l j,g=J k l j/\A [J c a b,J (df e 1 3 i) (azw (d:Int)-1) (e-1),J k l j] r/\x [J c a b,J (df e 1 3 i) (azw (d:Int)-1) (e-1),J k l j] r<x [J c a b,J i d e,J p m n] f))))))):aK 145 [J bj aN bE,J e5 c' i',c8] H R:=bJ [(28,.cut [(0,.one .slice),(1,.one .slice),(7,.one .slice)]),(56,.cut []),(452,.tail 7),(7252,.et [0,0,2,6,14,31,0,64,63,511] (eS [0,1,2,3,6,7,104,105,8,9] .done)),(1815,.et [0,0,2,6,14,31,0,64,63,511] (eS [0,1,2,3,6,7,104,105,8,9] .done))] func145 ntmps145 h
abbrev alT:Nat:=146
theorem alU(h:∀b a,bm H b [o aM,o b7,o ek] 103 a->∀e c,bm a e [o lp,o q9,o CM] 103 c->∃d,ah 3 c (ak b) (o d)/\∃j,ah 3 c (ak e) (o j)/\∃f,ah 3 c (bN b 1) (o f)/\∃g,ah 3 c (bN e 1) (o g)/\cG 117 [o d,o j] c λd a=>ah 3 a (bN e 1) (o g)/\ah 3 a (bN b 1) (o f)/\cG 117 [o f,o g] a λk a=>∀b i,bm a b [o d,o k] 3 i->cG 128 [J (some (ak b)) 2 2] i λd a=>R (o d) a):aK 146 [aJ [o aM,o b7,o ek],aJ [o lp,o q9,o CM]] H R:=bJ [(6,.et [0,1,0,4,15,0,32,0,128,511,1023,2047,4095] (eS [0,1,2,3,5,6,7,8,104,109,110,111,12] .done))] func146 ntmps146 h
abbrev ajc:Nat:=88
theorem ajd(h:∃(c:bx),aY ((↑(bu.size):Int)<1) (R (aD false) H) (aY ((↑(bu.size):Int)>16) (R (aD false) H) (bU ((0:Int)<=(0:Int)/\0<(↑(bu.size):Int)) (aY ((↑(bo bu (azw 0)):Int)<97) (R (aD false) H) (bU ((0:Int)<=(0:Int)/\0<(↑(bu.size):Int)) (aY ((↑(bo bu (azw 0)):Int)>122) (R (aD false) H) (c [] H))))))/\∀(_:F) b,c [] b->∃(e:bx) (f:cr),e [o 0] b/\∀(_:F) a b,e [o a] b->aY (a<(↑(bu.size):Int)) (∃(c:bx),bU (0<=a/\a<(↑(bu.size):Int)) (aY ((↑(bo bu (a.toNat)):Int)<97) (aY ((↑(bo bu (a.toNat)):Int)<48) (aU ((↑(bo bu (a.toNat)):Int) !=95) (R (aD false) b) (c [] b)) (aY ((↑(bo bu (a.toNat)):Int)>57) (aU ((↑(bo bu (a.toNat)):Int) !=95) (R (aD false) b) (c [] b)) (c [] b))) (aY ((↑(bo bu (a.toNat)):Int)>122) (aY ((↑(bo bu (a.toNat)):Int)<48) (aU ((↑(bo bu (a.toNat)):Int) !=95) (R (aD false) b) (c [] b)) (aY ((↑(bo bu (a.toNat)):Int)>57) (aU ((↑(bo bu (a.toNat)):Int) !=95) (R (aD false) b) (c [] b)) (c [] b))) (c [] b)))/\∀(_:F) d,c [] d->e [o (wrap .i64 (a+1))] d/\f [o (wrap .i64 (a+1))] d<f [o a] b) (R (aD true) b)):aK 88 [aj bu] H R:=bJ [(3,.cut []),(58,.cut [(3,.one (.int .i64))]),(233,.cut [])] func88 ntmps88 h
abbrev ajl:Nat:=89
theorem ajm(h:aY ((↑(bu.size):Int)>32) (R (aD false) H) (∃(d:bx) (e:cr),d [aj bu] H/\∀(_:F) bu b,d [aj bu] b->aY ((↑(bu.size):Int)>0) (cG 170 [aj bu] b λa c=>aU (a==0) (R (aD false) c) (bU (0<=a/\a<=(↑(bu.size):Int)/\(↑(bu.size):Int)<=(↑(bu.size):Int)) (d [aj (azG bu (a.toNat) (azw (↑(bu.size):Int)))] c/\e [aj (azG bu (a.toNat) (azw (↑(bu.size):Int)))] c<e [aj bu] b))) (R (aD true) b))):aK 89 [aj bu] H R:=bJ [(28,.cut [(0,.one .str)])] func89 ntmps89 h
abbrev ai6:Nat:=137
theorem ai7(h:∃(d:bx),aU (bu.toList==azL eh) (R (aD false) H) (aY ((↑(bu.size):Int)>16) (R (aD false) H) (d [] H))/\∀(_:F) b,d [] b->bO (Instr.range 9 (aj bu)) b λg b=>∃l,g=ax l/\∃(f:bx) (e:cr),f [] b/\∀(_:F) b,f [] b->bO (Instr.next (ax l) true 0) b λg i=>g=a1 [aD false]/\R (aD true) i\/∃n k,g=a1 [aD true,n,k]/\∃m,n=o m/\∃c,k=.int .i32 c/\∃(d:bx),aY (97<=c) (d [aD (decide (c<=122))] i) (d [aD false] i)/\∀(_:F) j a,d [aD j] a->aU (!j) (aU (m==0) (R (aD false) a) (aU (c !=95) (aY (c<48) (R (aD false) a) (aY (57<c) (R (aD false) a) (f [] a/\e [] a<e [] b))) (f [] a/\e [] a<e [] b))) (f [] a/\e [] a<e [] b)):aK 137 [aj bu] H R:=bJ [(3,.cut []),(58,.cut []),(1868,.ext),(1869,.cut [(5,.one .bool)])] func137 ntmps137 h
abbrev ai9:Nat:=138
theorem ai'(h:aY ((↑(bu.size):Int)>32) (R (aD false) H) (bO (Instr.range 9 (aj bu)) H λc b=>∃i,c=ax i/\∃(d:bx) (l:cr),d [o 0] b/\∀(_:F) a b,d [o a] b->bO (Instr.next (ax i) true 0) b λc j=>c=a1 [aD false]/\R (aD (a==(↑(bu.size):Int))) j\/∃m g,c=a1 [aD true,m,g]/\∃k,g=.int .i32 k/\cG 209 [.int .i32 k] j λf e=>d [o (wrap .i64 (a+f))] e/\l [o (wrap .i64 (a+f))] e<l [o a] b)):aK 138 [aj bu] H R:=bJ [(122,.cut [(3,.one (.int .i64))]),(3916,.ext)] func138 ntmps138 h
abbrev UY:Nat:=139
theorem UZ(h:∃a,ah 167 H aQ (ax a)/\aU (a.isNone) (bO (convert 167 316 (ax (some aQ))) H λb c=>∃d,b=d/\pX prog 210 ⟨[d]⟩ c λb c=>∃g,b=g/\bO (convert 316 167 g) c λb c=>∃a,b=ax a/\∃e,bp 167 c aQ (ax a) e/\R (a1 []) e) (∃a,ah 167 H aQ (ax a)/\∃f,kM prog (jk BinOp.neq 167 (Operand.tmp 17) (Operand.tmp 18) (ax a) (ax (some aQ))) (aD f)/\aU f False (R (a1 []) H))):aK 139 [ax (some aQ)] H R:=bJ [] func139 ntmps139 h
abbrev UR:Nat:=141
theorem aiD(ZZ:Int)(Z0:Option Addr)(Z1:Nat)(Z3:Nat)(Z4:Option Addr)(Z5:Nat)(Z6:Nat)(Z7:Option Addr)(Z8:Nat)(Z9:Nat)(Z':Int)(H:U)(R:Value->U->Prop)(h:∀(b:Nat) (H':U),dV H b (.cells ⟨[o ZZ,J Z0 Z1 Z3,J Z4 Z5 Z6,J Z7 Z8 Z9,o Z']⟩ 84) H'->∀(pv:Nat) (hv:U),dV H' pv (.cells ⟨[aj {data:= #[]}]⟩ 9) hv->∀(kF:Nat) (H':U),dV hv kF (.cells ⟨[o 0]⟩ 33) H'->∃n a iT c ie sB hg sE sF xj pQ,ah 84 H' ⟨b,0,none⟩ (aJ [o n,J a iT c,J ie sB hg,J sE sF xj,o pQ])/\eu 110 [aJ [o n,J a iT c,J ie sB hg,J sE sF xj,o pQ]] H' λvJ H'=>aU (!vJ) (∃je,bp 9 H' ⟨pv,0,none⟩ (aj {data:= #[]}) je/\∃H',bp 33 je ⟨kF,0,none⟩ (o 1) H'/\xV azB 211 ⟨[ax (some ⟨kF,0,none⟩),ax (some ⟨pv,0,none⟩)]⟩ H' λx dn=>∃s,ah 9 dn ⟨pv,0,none⟩ (aj s)/\∃n,ah 33 dn ⟨kF,0,none⟩ (o n)/\R (a1 [aj s,o n]) dn) (∃n,ah 3 H' ⟨b,0,none⟩ (o n)/\YF 109 ⟨[]⟩ H' λv H'=>∃lD wz z1 EG EH EI EJ EK,v=aJ [lD,wz,z1,EG,EH,EI,EJ,EK]/\ah 3 H' ⟨b,0,none⟩ (o n)/\bU (0<=n/\n<(↑4:Int)) (∃v auT,oZ azB 230 [lD,wz,z1,EG,EH,EI,EJ,EK] (azw n*2) (aJ [v,auT])/\dY azB v [ax (some ⟨b,0,none⟩)] H' λv H'=>∃s n,v=a1 [aj s,o n]/\∃je,bp 33 H' ⟨kF,0,none⟩ (o n) je/\∃n,ah 3 je ⟨b,0,none⟩ (o n)/\∃qh,ah 33 je ⟨kF,0,none⟩ (o qh)/\∀(b:Nat) (H':U),dV je b (.cells ⟨[o n]⟩ 3) H'->ah 33 H' ⟨kF,0,none⟩ (o qh)/\dv 188 [J (some ⟨b,0,none⟩) 1 1] H' λnQ H'=>ah 33 H' ⟨kF,0,none⟩ (o qh)/\bU (azC nQ+azC s<=9223372036854775807) (∃ua,bp 9 H' ⟨pv,0,none⟩ (aj (nQ++s)) ua/\ah 33 ua ⟨kF,0,none⟩ (o qh)/\∃H',bp 33 ua ⟨kF,0,none⟩ (o qh) H'/\xV azB 211 ⟨[ax (some ⟨kF,0,none⟩),ax (some ⟨pv,0,none⟩)]⟩ H' λx dn=>∃s,ah 9 dn ⟨pv,0,none⟩ (aj s)/\∃n,ah 33 dn ⟨kF,0,none⟩ (o n)/\R (a1 [aj s,o n]) dn)))):fo azB 141 (azM [.agg #[.int .i64 ZZ,.slice Z0 Z1 Z3,.slice Z4 Z5 Z6,.slice Z7 Z8 Z9,.int .i64 Z']]) H R:=aeC (DO [([0,1,1,1],.et [0,0,2,7,15,31,63,127,127,255,1023] (eS [1,2,100,3,4,105,6,7,8,9,110] .done)),([0,1,1,1,1],.et [0,1,3,7,0,31,0,63,255] (eS [0,1,4,6,102,103,5,107,108] .done))]) pI Tryz.func141 rfl Tryz.ntmps141 rfl rfl (Eq.mpr (by kernel_rfl) h)
abbrev aiH:Nat:=143
theorem ah8(h:∃b,ah 125 H (aX aQ 1) (.map b)/\∃a,Rd prog (Instr.lookup 125 (.map b) (aj bu) false) H (aj a)/\bU (a.size+e0.size<=9223372036854775807) (cG 164 [ax (some aQ),aj bu,aj (a++e0)] H λd c=>R (o d) c)):aK 143 [ax (some aQ),aj bu,aj e0] H R:=bJ [] func143 ntmps143 h
abbrev aq6:Nat:=144
theorem aq7(h:∃(i:bx),aY (b7<0) False (aY (b7>1) False (i [] H))/\∀(_:F) a,i [] a->∃g,ah 137 a aQ (.map g)/\∃b f,Rd prog (Instr.lookup 137 (.map g) (o aM) false) a (aJ [o b,o f])/\∀c e,bm a c [o 0,o 0] 297 e->∃a,bp 297 e (ak c) (aJ [o b,o f]) a/\bU (0<=wrap .i64 (1-b7)/\wrap .i64 (1-b7)<(↑2:Int)) (∃b,ah 3 a (aX (ak c) (azw (wrap .i64 (1-b7))*1)) (o b)/\bU (0<=b7/\b7<(↑2:Int)) (∃d,ah 3 a (aX (ak c) (b7.toNat *1)) (o d)/\aY (b>wrap .i64 (wrap .i64 (2*d)+8)) False (R (o b7) a)))):aK 144 [ax (some aQ),o aM,o b7] H R:=bJ [(3,.cut []),(13,.dead true),(59,.dead true)] func144 ntmps144 h
abbrev afy:Nat:=171
theorem afz(h:∃b d c,ah 134 H aQ (J b d c)/\∃(j:bx) (n:cr),j [b2,o 0] H/\∀(_:F) b e c a f,j [J b e c,o a] f->aY (a<(d:Int)) (∀l m,bm f l [o a] 3 m->bO (dw 117 (J b e c) (J (some (ak l)) 1 1)) m λad k=>∃i d g,ad=J i d g/\j [J i d g,o (wrap .i64 (a+1))] k/\n [J i d g,o (wrap .i64 (a+1))] k<n [J b e c,o a] f) (R (J b e c) f)):aK 171 [ax (some aQ)] H R:=bJ [(58,.cut [(3,.one .slice),(10,.one (.int .i64))])] func171 ntmps171 h
abbrev afv:Nat:=173
theorem afw(h:dy 248 [J bj aN bE,J e5 c' i',.func (Fn.func 249) ⟨[]⟩ ⟨[]⟩] H λb d a c=>R (J b d a) c):aK 173 [J bj aN bE,J e5 c' i'] H R:=bJ [] func173 ntmps173 h
abbrev aqB:Nat:=176
theorem aqC(h:∃(j:bx) (i:cr),j [o 0,o (aN:Int)] H/\∀(_:F) a c b,j [o a,o c] b->aY (a<c) (bH bj (wrap .i64 (azy (wrap .u64 (wrap .i64 (a+c))) (2^1))) aN λf=>(∃e,ah 3 b (aX f (azw (wrap .i64 (azy (wrap .u64 (wrap .i64 (a+c))) (2^1)))*1)) (o e)/\eu 218 [o e,o aM] b λd g=>aU d (j [o (wrap .i64 (wrap .i64 (azy (wrap .u64 (wrap .i64 (a+c))) (2^1))+1)),o c] g/\i [o (wrap .i64 (wrap .i64 (azy (wrap .u64 (wrap .i64 (a+c))) (2^1))+1)),o c] g<i [o a,o c] b) (j [o a,o (wrap .i64 (azy (wrap .u64 (wrap .i64 (a+c))) (2^1)))] g/\i [o a,o (wrap .i64 (azy (wrap .u64 (wrap .i64 (a+c))) (2^1)))] g<i [o a,o c] b))) (aY (a<(aN:Int)) (bH bj a aN λf=>(∃e,ah 3 b (aX f (a.toNat *1)) (o e)/\aU (e==aM) (R (a1 [o a,aD true]) b) (bH bj a aN λf=>(∃k,ah 3 b (aX f (a.toNat *1)) (o k)/\eu 256 [o k] b λd b=>aU d (eu 256 [o aM] b λd b=>R (a1 [o a,aD d]) b) (R (a1 [o a,aD false]) b))))) (R (a1 [o a,aD false]) b))):aK 176 [J bj aN bE,o aM] H R:=bJ [(60,.cut [(7,.one (.int .i64)),(8,.one (.int .i64))])] func176 ntmps176 h
theorem akK(h:∀b a,bm H b [o aM,o b7] 111 a->∃c,ah 258 a aQ c/\∃e d,ah 111 a (ak b) (aJ [o e,o d])/\dY prog c [aJ [o e,o d]] a λc a=>∃b,c=aD b/\R (aD !b) a):aK 177 [aJ [o aM,o b7],ax (some aQ)] H R:=bJ [] func177 ntmps177 h
abbrev ark:Nat:=157
theorem arl(h:aU (bj.isNone) (R (b2) H) (∀b a,bm H b [] 122 a->bO (dw 66 (J (some (ak b)) 0 0) (J bj aN bE)) a λf a=>∃c e d,f=J c e d/\R (J c e d) a)):aK 157 [J bj aN bE] H R:=bJ [] func157 ntmps157 h
abbrev acE:Nat:=158
theorem acF(h:aK 236 [J bj aN bE,o aM,.func (Fn.func 237) ⟨[]⟩ ⟨[]⟩] H λc d=>∃b a,c=a1 [o b,aD a]/\R (a1 [o b,aD a]) d):aK 158 [J bj aN bE,o aM] H R:=bJ [] func158 ntmps158 h
theorem ah6(h:∀b a,bm H b [aj bu] 9 a->∀d c,bm a d [aj e0] 9 c->∃e,ah 9 c (ak b) (aj e)/\eu 179 [aj e] c λg a=>aU (!g) (R (o 100) a) (cG 241 [ax (some aQ),.func (Fn.func 242) ⟨[]⟩ ⟨[ax (some (ak d)),ax (some (ak b))]⟩] a λf a=>R (o f) a)):aK 164 [ax (some aQ),aj bu,aj e0] H R:=bJ [] func164 ntmps164 h
theorem ah'(h:∀b a,bm H b [aj bu] 9 a->∃f,ah 9 a (ak b) (aj f)/\eu 179 [aj f] a λj a=>aU (!j) (R (o 100) a) (∃e,ah 125 a (aX aQ 1) (.map e)/\∃c,ah 9 a (ak b) (aj c)/\∃i d,Rd prog (Instr.lookup 125 (.map e) (aj c) true) a (a1 [aj i,aD d])/\aU (!d) (R (o 3) a) (cG 241 [ax (some aQ),.func (Fn.func 243) ⟨[]⟩ ⟨[ax (some (ak b))]⟩] a λg a=>R (o g) a))):aK 166 [ax (some aQ),aj bu] H R:=bJ [] func166 ntmps166 h
abbrev acZ:Nat:=168
theorem ac0(h:∀b a,bm H b [J bj aN bE,o aM,o b7,aD k3,o ek,o lp,o q9] 68 a->∃f c j A s C D B v,ah 68 a (ak b) (aJ [J f c j,o A,o s,aD C,o D,o B,o v])/\eu 51 [aJ [J f c j,o A,o s,aD C,o D,o B,o v]] a λG a=>aU (!G) False (∀k q,bm a k [ax none,b2] 170 q->∃f c j,ah 66 q (ak b) (J f c j)/\∀x a,bm q x [o (c:Int)] 3 a->dY prog (.func (Fn.func 244) ⟨[]⟩ ⟨[ax (some (ak k))]⟩) [J (some (ak x)) 1 1] a λe a=>e=a1 []/\∃f c j,ah 66 a (ak b) (J f c j)/\∃(ad:bx) (E:cr),ad [o 0] a/\∀(_:F) g a,ad [o g] a->aY (g<(c:Int)) (bH f g c λK=>(∃c m i,ah 122 a (aX K (g.toNat *3)) (aJ [o c,o m,aj i])/\∀b l,bm a b [o 0,o 0,aj eh] 122 l->∃d,bp 122 l (ak b) (aJ [o c,o m,aj i]) d/\∃c,ah 3 d (ak b) (o c)/\∃n,ah 3 d (bN b 1) (o n)/\∃i,ah 9 d (bN b 2) (aj i)/\cG 102 [aj i] d λI p=>ah 3 p (bN b 1) (o n)/\ah 3 p (ak b) (o c)/\∀b w,bm p b [o c,o n,o I] 3 w->dY prog (.func (Fn.func 244) ⟨[]⟩ ⟨[ax (some (ak k))]⟩) [J (some (ak b)) 3 3] w λe r=>e=a1 []/\ad [o (wrap .i64 (g+1))] r/\E [o (wrap .i64 (g+1))] r<E [o g] a)) (∃c,ah 3 a (bN b 1) (o c)/\∃m,ah 3 a (bN b 2) (o m)/\∀u l,bm a u [o c,o m] 3 l->dY prog (.func (Fn.func 244) ⟨[]⟩ ⟨[ax (some (ak k))]⟩) [J (some (ak u)) 2 2] l λe a=>e=a1 []/\∃t,ah 4 a (bN b 3) (aD t)/\aU t False (∀b d,bm a b [o 0] 3 d->dY prog (.func (Fn.func 244) ⟨[]⟩ ⟨[ax (some (ak k))]⟩) [J (some (ak b)) 1 1] d λe a=>e=a1 []/\dv 68 [ax (some (ak k))] a λi a=>R (a1 [aj i,o 0]) a)))):aK 168 [aJ [J bj aN bE,o aM,o b7,aD k3,o ek,o lp,o q9]] H R:=bJ [(13,.dead true),(506,.cut [(21,.one (.int .i64))]),(32409,.et [0,0,2,0,8,0,32,96,254,511] (eS [0,1,2,3,4,5,6,107,108,109] .done)),(1021,.dead true)] func168 ntmps168 h
abbrev aj3:Nat:=169
theorem aj4(h:cG 65 [J bj aN bE] H λe b=>aU (e !=0) (R (a1 [aj eh,o e]) b) (∃(l:bx) (t:cr),l [b2,o 0] b/\∀(_:F) g e i d b,l [J g e i,o d] b->aY (d<(aN:Int)) (bH bj d aN λv=>(∃a p,ah 51 b (aX v (d.toNat *2)) (aJ [aj a,aj p])/\∀c s,bm b c [aj eh,aj eh] 51 s->∃f,bp 51 s (ak c) (aJ [aj a,aj p]) f/\∃a,ah 9 f (ak c) (aj a)/\bU (a.size+1<=9223372036854775807) (∃q,ah 9 f (bN c 1) (aj q)/\dv 245 [aj q] f λr u=>ah 9 u (ak c) (aj a)/\bU (azC (a++⟨#[61]⟩)+r.size<=9223372036854775807) (∀c ad,bm u c [aj (a++⟨#[61]⟩++r)] 9 ad->bO (dw 112 (J g e i) (J (some (ak c)) 1 1)) ad λw n=>∃k j m,w=J k j m/\l [J k j m,o (wrap .i64 (d+1))] n/\t [J k j m,o (wrap .i64 (d+1))] n<t [J g e i,o d] b)))) (dv 246 [J g e i,aj ⟨#[44]⟩] b λa b=>bU (1+a.size<=9223372036854775807) (bU (azC (⟨#[123]⟩++a)+1<=9223372036854775807) (R (a1 [aj (⟨#[123]⟩++a++⟨#[125]⟩),o 0]) b))))):aK 169 [J bj aN bE] H R:=bJ [(122,.cut [(5,.one .slice),(15,.one (.int .i64))]),(7833,.et [0,0,2,6,0,16,48,126,254,511,1023] (eS [0,1,2,3,4,5,106,7,108,109,10] .done))] func169 ntmps169 h
abbrev afZ:Nat:=178
theorem af0(h:∃a,ah 3 H aQ (o a)/\R (o a) H):aK 178 [ax (some aQ)] H R:=bJ [] func178 ntmps178 h
abbrev agU:Nat:=179
theorem agV(h:bO (convert 9 168 (aj bu)) H λi a=>∃f d g,i=J f d g/\∃(e:bx) (c:cr),e [o 0] a/\∀(_:F) b a,e [o b] a->aY (b<(d:Int)) (bH f b d λj=>(∃d,ah 5 a (aX j (b.toNat *1)) (.int .u8 d)/\aY (d<97) (aY (d<48) (aU (d !=46) (aU (d !=45) (R (aD false) a) (e [o (wrap .i64 (b+1))] a/\c [o (wrap .i64 (b+1))] a<c [o b] a)) (e [o (wrap .i64 (b+1))] a/\c [o (wrap .i64 (b+1))] a<c [o b] a)) (aY (d>57) (aU (d !=46) (aU (d !=45) (R (aD false) a) (e [o (wrap .i64 (b+1))] a/\c [o (wrap .i64 (b+1))] a<c [o b] a)) (e [o (wrap .i64 (b+1))] a/\c [o (wrap .i64 (b+1))] a<c [o b] a)) (e [o (wrap .i64 (b+1))] a/\c [o (wrap .i64 (b+1))] a<c [o b] a))) (aY (d>122) (aY (d<48) (aU (d !=46) (aU (d !=45) (R (aD false) a) (e [o (wrap .i64 (b+1))] a/\c [o (wrap .i64 (b+1))] a<c [o b] a)) (e [o (wrap .i64 (b+1))] a/\c [o (wrap .i64 (b+1))] a<c [o b] a)) (aY (d>57) (aU (d !=46) (aU (d !=45) (R (aD false) a) (e [o (wrap .i64 (b+1))] a/\c [o (wrap .i64 (b+1))] a<c [o b] a)) (e [o (wrap .i64 (b+1))] a/\c [o (wrap .i64 (b+1))] a<c [o b] a)) (e [o (wrap .i64 (b+1))] a/\c [o (wrap .i64 (b+1))] a<c [o b] a))) (e [o (wrap .i64 (b+1))] a/\c [o (wrap .i64 (b+1))] a<c [o b] a)))) (aU (!bu.toList==azL eh) (R (aD (decide ((↑(bu.size):Int)<=16))) a) (R (aD false) a))):aK 179 [aj bu] H R:=bJ [(26,.cut [(8,.one (.int .i64))])] func179 ntmps179 h
abbrev aim:Nat:=185
theorem ain(h:∃d a e,ah 45 H (aX aQ 1) (J d a e)/\aK 169 [J d a e] H λf c=>∃b a,f=a1 [aj b,o a]/\dv 67 [aj b] c λb c=>R (a1 [aj b,o a]) c):aK 185 [ax (some aQ)] H R:=bJ [] func185 ntmps185 h
abbrev aiv:Nat:=187
theorem aiw(h:∃g a m,ah 82 H (aX aQ 2) (J g a m)/\∀c b,bm H c [o (a:Int)] 3 b->dv 188 [J (some (ak c)) 1 1] b λd b=>∃g a m,ah 82 b (aX aQ 2) (J g a m)/\∃(l:bx) (v:cr),l [aj d,o 0] b/\∀(_:F) d e b,l [aj d,o e] b->aY (e<(a:Int)) (bH g e a λw=>(∃a ad u,ah 103 b (aX w (e.toNat *3)) (aJ [o a,o ad,o u])/\∀c r,bm b c [o 0,o 0,o 0] 103 r->∃f,bp 103 r (ak c) (aJ [o a,o ad,o u]) f/\∃a,ah 3 f (ak c) (o a)/\∃s,ah 3 f (bN c 1) (o s)/\∃i,ah 3 f (bN c 2) (o i)/\∀t n,bm f t [o a,o s] 3 n->ah 3 n (bN c 2) (o i)/\dv 188 [J (some (ak t)) 2 2] n λk q=>ah 3 q (bN c 2) (o i)/\dv 189 [o i] q λj p=>bU (k.size+j.size<=9223372036854775807) (bU (d.size+azC (k++j)<=9223372036854775807) (l [aj (d++(k++j)),o (wrap .i64 (e+1))] p/\v [aj (d++(k++j)),o (wrap .i64 (e+1))] p<v [aj d,o e] b)))) (R (a1 [aj d,o 0]) b)):aK 187 [ax (some aQ)] H R:=bJ [(58,.cut [(4,.one .str),(19,.one (.int .i64))]),(3737,.et [0,0,2,0,8,30,62,0,128,510,1022,2047,4095] (eS [0,1,2,3,4,7,8,105,106,109,10,11,12] .done))] func187 ntmps187 h
abbrev aij:Nat:=188
theorem aik(h:∀c a,bm H c [ax none,b2] 170 a->∃(e:bx) (i:cr),e [o 0] a/\∀(_:F) b a,e [o b] a->aY (b<(aN:Int)) (bH bj b aN λn=>(∃g,ah 3 a (aX n (b.toNat *1)) (o g)/\dv 140 [b3 (wrap .u64 g)] a λd l=>aK 66 [ax (some (ak c)),aj d] l λm f=>∃j k,m=a1 [o j,k]/\e [o (wrap .i64 (b+1))] f/\i [o (wrap .i64 (b+1))] f<i [o b] a)) (dv 68 [ax (some (ak c))] a λd a=>R (aj d) a)):aK 188 [J bj aN bE] H R:=bJ [(58,.cut [(8,.one (.int .i64))])] func188 ntmps188 h
abbrev akp:Nat:=189
theorem akq(h:aK 262 [o aM] H λb a=>∃aM,b=b3 aM/\dv 140 [b3 aM] a λc a=>R (aj c) a):aK 189 [o aM] H R:=bJ [] func189 ntmps189 h
abbrev ais:Nat:=192
theorem ait(h:∃g a j,ah 69 H (aX aQ 3) (J g a j)/\∀c b,bm H c [o (a:Int)] 3 b->dv 188 [J (some (ak c)) 1 1] b λd b=>∃g a j,ah 69 b (aX aQ 3) (J g a j)/\∃(i:bx) (r:cr),i [aj d,o 0] b/\∀(_:F) d e b,i [aj d,o e] b->aY (e<(a:Int)) (bH g e a λt=>(∃a l q,ah 250 b (aX t (e.toNat *3)) (aJ [o a,o l,o q])/\∀c ad,bm b c [o 0,o 0,o 0] 250 ad->∃f,bp 250 ad (ak c) (aJ [o a,o l,o q]) f/\∃a,ah 3 f (ak c) (o a)/\∃p,ah 3 f (bN c 1) (o p)/\∃m,ah 3 f (bN c 2) (o m)/\∀c s,bm f c [o a,o p,o m] 3 s->dv 188 [J (some (ak c)) 3 3] s λk n=>bU (d.size+k.size<=9223372036854775807) (i [aj (d++k),o (wrap .i64 (e+1))] n/\r [aj (d++k),o (wrap .i64 (e+1))] n<r [aj d,o e] b))) (R (a1 [aj d,o 0]) b)):aK 192 [ax (some aQ)] H R:=bJ [(58,.cut [(4,.one .str),(19,.one (.int .i64))])] func192 ntmps192 h
abbrev aip:Nat:=194
theorem aiq(h:∃c,ah 3 H (aX aQ 4) (o c)/\∀b a,bm H b [o c] 3 a->dv 188 [J (some (ak b)) 1 1] a λd a=>R (a1 [aj d,o 0]) a):aK 194 [ax (some aQ)] H R:=bJ [] func194 ntmps194 h
abbrev aia:Nat:=196
theorem aib(h:aY (aM>=0) (R (aD (decide (aM<=b7))) H) (R (aD false) H)):aK 196 [o aM,o b7] H R:=bJ [] func196 ntmps196 h
abbrev alz:Nat:=197
theorem alA(h:∃(f:bx) (i:cr),f [o 0,o 20] H/\∀(_:F) j d a,f [o j,o d] a->aY (d<=aM) (dQ 264 [J bj aN bE,o j,o d,c8] a λc=>f [o d,o (wrap .i64 (d+20))] c/\i [o d,o (wrap .i64 (d+20))] c<i [o j,o d] a) (dQ 264 [J bj aN bE,o j,o aM,c8] a λa=>∃(f:bx) (i:cr),f [o 20] a/\∀(_:F) b a,f [o b] a->aY (b<aM) (∃(k:bx) (m:cr),k [o 0,o (wrap .i64 (2*b))] a/\∀(_:F) g e c,k [o g,o e] c->aY (e<=aM) (dQ 265 [J bj aN bE,o g,o (wrap .i64 (g+b)),o e,c8] c λa=>k [o e,o (wrap .i64 (e+wrap .i64 (2*b)))] a/\m [o e,o (wrap .i64 (e+wrap .i64 (2*b)))] a<m [o g,o e] c) (aY (wrap .i64 (g+b)<aM) (dQ 265 [J bj aN bE,o g,o (wrap .i64 (g+b)),o aM,c8] c λl=>f [o (wrap .i64 (b*2))] l/\i [o (wrap .i64 (b*2))] l<i [o b] a) (f [o (wrap .i64 (b*2))] c/\i [o (wrap .i64 (b*2))] c<i [o b] a))) (R (a1 []) a))):aK 197 [J bj aN bE,o aM,c8] H R:=bJ [(28,.cut [(7,.one (.int .i64)),(8,.one (.int .i64))]),(62,.cut [(6,.one (.int .i64))]),(3988,.cut [(7,.one (.int .i64)),(8,.one (.int .i64))])] func197 ntmps197 h
abbrev akA:Nat:=200
theorem akB(h:bO (Instr.makeSlice 55 (o 0) (o (wrap .i64 ((aN:Int)+(c':Int))))) H λg e=>∃c a b,g=J c a b/\∃(x:bx) (w:cr),x [J bj aN bE,J e5 c' i',J c a b] e/\∀(_:F) c a b i d f p m n e,x [J c a b,J i d f,J p m n] e->aY ((a:Int)>0) (aY ((d:Int)>0) (bH c (0) a λad=>(∃E D,ah 111 e ad (aJ [o E,o D])/\bH i (0) d λad=>(∃B C,ah 111 e ad (aJ [o B,o C])/\dY prog c8 [aJ [o E,o D],aJ [o B,o C]] e λg v=>∃A,g=o A/\aY (A<0) (bH c (0) a λad=>(∃r s,ah 111 v ad (aJ [o r,o s])/\bU ((0:Int)<=(1:Int)/\1<=(a:Int)/\(a:Int)<=(b:Int)) (∀t q,bm v t [o r,o s] 111 q->bO (dw 55 (J p m n) (J (some (ak t)) 1 1)) q λg u=>∃j k l,g=J j k l/\x [J (df b 1 2 c) (azw (a:Int)-1) (b-1),J i d f,J j k l] u/\w [J (df b 1 2 c) (azw (a:Int)-1) (b-1),J i d f,J j k l] u<w [J c a b,J i d f,J p m n] e))) (aU (A==0) (bU ((0:Int)<=(1:Int)/\1<=(a:Int)/\(a:Int)<=(b:Int)) (bH i (0) d λad=>(∃r s,ah 111 v ad (aJ [o r,o s])/\bU ((0:Int)<=(1:Int)/\1<=(d:Int)/\(d:Int)<=(f:Int)) (∀t q,bm v t [o r,o s] 111 q->bO (dw 55 (J p m n) (J (some (ak t)) 1 1)) q λg u=>∃j k l,g=J j k l/\x [J (df b 1 2 c) (azw (a:Int)-1) (b-1),J (df f 1 2 i) (azw (d:Int)-1) (f-1),J j k l] u/\w [J (df b 1 2 c) (azw (a:Int)-1) (b-1),J (df f 1 2 i) (azw (d:Int)-1) (f-1),J j k l] u<w [J c a b,J i d f,J p m n] e)))) (bH i (0) d λad=>(∃r s,ah 111 v ad (aJ [o r,o s])/\bU ((0:Int)<=(1:Int)/\1<=(d:Int)/\(d:Int)<=(f:Int)) (∀t q,bm v t [o r,o s] 111 q->bO (dw 55 (J p m n) (J (some (ak t)) 1 1)) q λg u=>∃j k l,g=J j k l/\x [J c a b,J (df f 1 2 i) (azw (d:Int)-1) (f-1),J j k l] u/\w [J c a b,J (df f 1 2 i) (azw (d:Int)-1) (f-1),J j k l] u<w [J c a b,J i d f,J p m n] e))))))) (bO (dw 55 (J p m n) (J c a b)) e λg e=>∃c a b,g=J c a b/\bO (dw 55 (J c a b) (J i d f)) e λg e=>∃c a b,g=J c a b/\R (J c a b) e)) (bO (dw 55 (J p m n) (J c a b)) e λg e=>∃c a b,g=J c a b/\bO (dw 55 (J c a b) (J i d f)) e λg e=>∃c a b,g=J c a b/\R (J c a b) e)):aK 200 [J bj aN bE,J e5 c' i',c8] H R:=bJ [(28,.cut [(0,.one .slice),(1,.one .slice),(7,.one .slice)]),(452,.tail 7),(7252,.et [0,0,2,6,14,31,0,64,63,511] (eS [0,1,2,3,6,7,104,105,8,9] .done)),(1815,.et [0,0,2,6,14,31,0,64,63,511] (eS [0,1,2,3,6,7,104,105,8,9] .done))] func200 ntmps200 h
theorem adg(h:∃(d:bx) (j:cr),d [o 0] H/\∀(_:F) a b,d [o a] b->aY (a<(aN:Int)) (bH bj a aN λl=>(∃g f i,ah 250 b (aX l (a.toNat *3)) (aJ [o g,o f,o i])/\dY prog c8 [aJ [o g,o f,o i]] b λk c=>∃e,k=aD e/\aU e (R (o a) c) (d [o (wrap .i64 (a+1))] c/\j [o (wrap .i64 (a+1))] c<j [o a] b))) (R (o (-1:Int)) b)):aK 201 [J bj aN bE,c8] H R:=bJ [(26,.cut [(8,.one (.int .i64))])] func201 ntmps201 h
abbrev akM:Nat:=203
theorem akN(h:∃(d:bx) (i:cr),d [o 0] H/\∀(_:F) a b,d [o a] b->aY (a<(aN:Int)) (bH bj a aN λk=>(∃g f,ah 111 b (aX k (a.toNat *2)) (aJ [o g,o f])/\dY prog c8 [aJ [o g,o f]] b λj c=>∃e,j=aD e/\aU e (R (o a) c) (d [o (wrap .i64 (a+1))] c/\i [o (wrap .i64 (a+1))] c<i [o a] b))) (R (o (-1:Int)) b)):aK 203 [J bj aN bE,c8] H R:=bJ [(26,.cut [(8,.one (.int .i64))])] func203 ntmps203 h
theorem akI(h:∀c a,bm H c [o aM,o b7] 111 a->∃b,ah 3 a (ak c) (o b)/\∃e,ah 3 a aQ (o e)/\aY (b>=e) (∃b,ah 3 a (ak c) (o b)/\∃d,ah 3 a (aX aQ 1) (o d)/\R (aD (decide (b<d))) a) (R (aD false) a)):aK 204 [aJ [o aM,o b7],ax (some aQ)] H R:=bJ [] func204 ntmps204 h
abbrev ajS:Nat:=245
theorem ajT(h:∀e a,bm H e [ax none,b2] 170 a->kY 184 [ax (some (ak e)),.int .u8 34] a λp a=>bO (convert 9 168 (aj bu)) a λk a=>∃l c n,k=J l c n/\∃(g:bx) (f:cr),g [o 0] a/\∀(_:F) b a,g [o b] a->aY (b<(c:Int)) (bH l b c λm=>(∃c,ah 5 a (aX m (b.toNat *1)) (.int .u8 c)/\aU (c==10) (aK 66 [ax (some (ak e)),aj ⟨#[92,110]⟩] a λk d=>∃c i,k=a1 [o c,i]/\g [o (wrap .i64 (b+1))] d/\f [o (wrap .i64 (b+1))] d<f [o b] a) (aU (c==34) (aU (c==34) (kY 184 [ax (some (ak e)),.int .u8 92] a λi d=>kY 184 [ax (some (ak e)),.int .u8 c] d λad j=>g [o (wrap .i64 (b+1))] j/\f [o (wrap .i64 (b+1))] j<f [o b] a) (kY 184 [ax (some (ak e)),.int .u8 c] a λi d=>g [o (wrap .i64 (b+1))] d/\f [o (wrap .i64 (b+1))] d<f [o b] a)) (aU (c==92) (kY 184 [ax (some (ak e)),.int .u8 92] a λi d=>kY 184 [ax (some (ak e)),.int .u8 c] d λad j=>g [o (wrap .i64 (b+1))] j/\f [o (wrap .i64 (b+1))] j<f [o b] a) (kY 184 [ax (some (ak e)),.int .u8 c] a λi d=>g [o (wrap .i64 (b+1))] d/\f [o (wrap .i64 (b+1))] d<f [o b] a))))) (kY 184 [ax (some (ak e)),.int .u8 34] a λi a=>dv 68 [ax (some (ak e))] a λbu a=>R (aj bu) a)):aK 245 [aj bu] H R:=bJ [(122,.cut [(10,.one (.int .i64))])] func245 ntmps245 h
abbrev ajH:Nat:=246
theorem ajI(h:aU ((aN:Int)==0) (R (aj eh) H) (aU ((aN:Int)==1) (bH bj (0) aN λd=>(∃c,ah 9 H d (aj c)/\R (aj c) H)) (∃(k:bx),aY ((↑(bu.size):Int)>0) (bU (wrap .i64 ((aN:Int)-1)≠0) (aY ((↑(bu.size):Int)>=wrap .i64 (azE 9223372036854775807 (wrap .i64 ((aN:Int)-1)))) False (k [o (wrap .i64 (0+wrap .i64 ((↑(bu.size):Int)*wrap .i64 ((aN:Int)-1))))] H))) (k [o 0] H)/\∀(_:F) b a,k [o b] a->∃(e:bx) (j:cr),e [o b,o 0] a/\∀(_:F) b f a,e [o b,o f] a->aY (f<(aN:Int)) (bH bj f aN λd=>(∃c,ah 9 a (aX d (f.toNat *1)) (aj c)/\aY ((↑(c.size):Int)>wrap .i64 (9223372036854775807-b)) False (e [o (wrap .i64 (b+(↑(c.size):Int))),o (wrap .i64 (f+1))] a/\j [o (wrap .i64 (b+(↑(c.size):Int))),o (wrap .i64 (f+1))] a<j [o b,o f] a))) (∀g l,bm a g [ax none,b2] 170 l->dQ 303 [ax (some (ak g)),o b] l λa=>bH bj (0) aN λd=>(∃c,ah 9 a d (aj c)/\aK 66 [ax (some (ak g)),aj c] a λi a=>∃b p,i=a1 [o b,p]/\bU ((0:Int)<=(1:Int)/\1<=(aN:Int)/\(aN:Int)<=(bE:Int)) (∃(e:bx) (j:cr),e [o 0] a/\∀(_:F) b a,e [o b] a->aY (b<(↑(azw (aN:Int)-azw 1):Int)) (fp (df bE 1 1 bj) λd=>bU (0<=b/\b<(↑(azw (aN:Int)-1):Int)) (∃c,ah 9 a (aX d (b.toNat *1)) (aj c)/\aK 66 [ax (some (ak g)),aj bu] a λi n=>∃ad q,i=a1 [o ad,q]/\aK 66 [ax (some (ak g)),aj c] n λi m=>∃r s,i=a1 [o r,s]/\e [o (wrap .i64 (b+1))] m/\j [o (wrap .i64 (b+1))] m<j [o b] a)) (dv 68 [ax (some (ak g))] a λc a=>R (aj c) a))))))):aK 246 [J bj aN bE,aj bu] H R:=bJ [(15,.cut [(5,.one (.int .i64))]),(250,.cut [(5,.one (.int .i64)),(41,.one (.int .i64))]),(4090,.cut [(65,.one (.int .i64))])] func246 ntmps246 h
abbrev ajg:Nat:=170
theorem ajh(h:bU ((0:Int)<=(0:Int)/\0<(↑(bu.size):Int)) (∃(c:bx),aY (wrap .i64 (↑(bo bu (azw 0)):Int)<128) (R (o 1) H) (∃(k:bx),aY (wrap .i64 (↑(bo bu (azw 0)):Int)>=192) (k [aD (decide (wrap .i64 (↑(bo bu 0):Int)<224))] H) (k [aD false] H)/\∀(_:F) f a,k [aD f] a->aU f (c [o 2,o (wrap .i64 (wrap .i64 (↑(bo bu 0):Int)-192))] a) (∃(i:bx),aY (wrap .i64 (↑(bo bu (azw 0)):Int)>=224) (i [aD (decide (wrap .i64 (↑(bo bu 0):Int)<240))] a) (i [aD false] a)/\∀(_:F) f a,i [aD f] a->aU f (c [o 3,o (wrap .i64 (wrap .i64 (↑(bo bu 0):Int)-224))] a) (aY (wrap .i64 (↑(bo bu (azw 0)):Int)>=240) (aY (wrap .i64 (↑(bo bu (azw 0)):Int)<248) (c [o 4,o (wrap .i64 (wrap .i64 (↑(bo bu 0):Int)-240))] a) (c [o 0,o 0] a)) (c [o 0,o 0] a))))/\∀(_:F) e l a,c [o e,o l] a->∃(c:bx),aU (e==0) (R (o 0) a) (aY ((↑(bu.size):Int)<e) (R (o 0) a) (c [] a))/\∀(_:F) a,c [] a->∃(j:bx) (m:cr),j [o l,o 1] a/\∀(_:F) b d a,j [o b,o d] a->aY (d<e) (∃(c:bx),bU (0<=d/\d<(↑(bu.size):Int)) (aY ((↑(bo bu (d.toNat)):Int)<128) (R (o 0) a) (bU (0<=d/\d<(↑(bu.size):Int)) (aY ((↑(bo bu (d.toNat)):Int)>=192) (R (o 0) a) (c [] a))))/\∀(_:F) g,c [] g->bU (0<=d/\d<(↑(bu.size):Int)) (j [o (wrap .i64 (wrap .i64 (wrap .i64 (b*64)+wrap .i64 (↑(bo bu (d.toNat)):Int))-128)),o (wrap .i64 (d+1))] g/\m [o (wrap .i64 (wrap .i64 (wrap .i64 (b*64)+wrap .i64 (↑(bo bu (d.toNat)):Int))-128)),o (wrap .i64 (d+1))] g<m [o b,o d] a)) (∃(c:bx),aU (e==2) (aY (b<128) (R (o 0) a) (aU (e==3) (aY (b<2048) (R (o 0) a) (aU (e==4) (aY (b<65536) (R (o 0) a) (aY (b>1114111) (R (o 0) a) (aY (b>=55296) (aY (b<57344) (R (o 0) a) (c [] a)) (c [] a)))) (aY (b>1114111) (R (o 0) a) (aY (b>=55296) (aY (b<57344) (R (o 0) a) (c [] a)) (c [] a))))) (aU (e==4) (aY (b<65536) (R (o 0) a) (aY (b>1114111) (R (o 0) a) (aY (b>=55296) (aY (b<57344) (R (o 0) a) (c [] a)) (c [] a)))) (aY (b>1114111) (R (o 0) a) (aY (b>=55296) (aY (b<57344) (R (o 0) a) (c [] a)) (c [] a)))))) (aU (e==3) (aY (b<2048) (R (o 0) a) (aU (e==4) (aY (b<65536) (R (o 0) a) (aY (b>1114111) (R (o 0) a) (aY (b>=55296) (aY (b<57344) (R (o 0) a) (c [] a)) (c [] a)))) (aY (b>1114111) (R (o 0) a) (aY (b>=55296) (aY (b<57344) (R (o 0) a) (c [] a)) (c [] a))))) (aU (e==4) (aY (b<65536) (R (o 0) a) (aY (b>1114111) (R (o 0) a) (aY (b>=55296) (aY (b<57344) (R (o 0) a) (c [] a)) (c [] a)))) (aY (b>1114111) (R (o 0) a) (aY (b>=55296) (aY (b<57344) (R (o 0) a) (c [] a)) (c [] a)))))/\∀(_:F) a,c [] a->R (o e) a))):aK 170 [aj bu] H R:=bJ [(31,.cut [(4,.one (.int .i64)),(5,.one (.int .i64))]),(499,.cut [(13,.one .bool)]),(1999,.cut [(22,.one .bool)]),(63,.cut []),(1018,.cut [(5,.one (.int .i64)),(6,.one (.int .i64))]),(16292,.cut []),(255,.cut [])] func170 ntmps170 h
abbrev ai2:Nat:=209
theorem ai3(h:aY (aM<0) (R (o (-1:Int)) H) (aY (aM<=127) (R (o 1) H) (aY (aM<=2047) (R (o 2) H) (aY (55296<=aM) (aY (aM<=57343) (R (o (-1:Int)) H) (aY (aM<=65535) (R (o 3) H) (aY (aM<=1114111) (R (o 4) H) (R (o (-1:Int)) H)))) (aY (aM<=65535) (R (o 3) H) (aY (aM<=1114111) (R (o 4) H) (R (o (-1:Int)) H))))))):aK 209 [.int .i32 aM] H R:=bJ [] func209 ntmps209 h
theorem aiB(a0:Addr)(cW:Addr)(H:U)(R:Value->U->Prop)(h:∃n,ah 33 H a0 (.int .i64 n)/\aU (n !=0) (∃H',bp 9 H cW (.string {data:= #[]}) H'/\R (.tuple ⟨[]⟩) H') (R (.tuple ⟨[]⟩) H)):xV azB 211 (azM [.pointer (some a0),.pointer (some cW)]) H R:=aeB (DO []) pI Tryz.func211 rfl Tryz.ntmps211 rfl rfl (Eq.mpr (by kernel_rfl) h)
abbrev afs:Nat:=248
theorem aft(h:∃(w:bx) (l:cr),w [J bj aN bE,J e5 c' i',b2] H/\∀(_:F) g a d f b c k i j t,w [J g a d,J f b c,J k i j] t->∃(s:bx),aY ((a:Int)>0) (s [] t) (aY ((b:Int)>0) (s [] t) (R (J k i j) t))/\∀(_:F) D,s [] D->∃(s:bx),aU ((b:Int)==0) (s [aD true] D) (aY ((a:Int)>0) (bH g (0) a λr=>(∃a,ah 3 D r (o a)/\bH f (0) b λr=>(∃q,ah 3 D r (o q)/\s [aD (decide (a<=q))] D))) (s [aD false] D))/\∀(_:F) e C,s [aD e] C->∃(s:bx),aU ((a:Int)==0) (s [aD true] C) (aY ((b:Int)>0) (bH f (0) b λr=>(∃q,ah 3 C r (o q)/\bH g (0) a λr=>(∃a,ah 3 C r (o a)/\s [aD (decide (q<=a))] C))) (s [aD false] C))/\∀(_:F) B A,s [aD B] A->aU e (bH g (0) a λr=>(∃q,ah 3 A r (o q)/\bU ((0:Int)<=(1:Int)/\1<=(a:Int)/\(a:Int)<=(d:Int)) (aU B (bH f (0) b λr=>(∃x,ah 3 A r (o x)/\bU ((0:Int)<=(1:Int)/\1<=(b:Int)/\(b:Int)<=(c:Int)) (dY prog c8 [aD e,aD B] A λad n=>∃e,ad=aD e/\aU e (∀e v,bm n e [o x] 3 v->bO (dw 117 (J k i j) (J (some (ak e)) 1 1)) v λad u=>∃m E p,ad=J m E p/\w [J (df d 1 1 g) (azw (a:Int)-1) (d-1),J (df c 1 1 f) (azw (b:Int)-1) (c-1),J m E p] u/\l [J (df d 1 1 g) (azw (a:Int)-1) (d-1),J (df c 1 1 f) (azw (b:Int)-1) (c-1),J m E p] u<l [J g a d,J f b c,J k i j] t) (w [J (df d 1 1 g) (azw (a:Int)-1) (d-1),J (df c 1 1 f) (azw (b:Int)-1) (c-1),J k i j] n/\l [J (df d 1 1 g) (azw (a:Int)-1) (d-1),J (df c 1 1 f) (azw (b:Int)-1) (c-1),J k i j] n<l [J g a d,J f b c,J k i j] t)))) (dY prog c8 [aD e,aD B] A λad n=>∃e,ad=aD e/\aU e (∀e v,bm n e [o q] 3 v->bO (dw 117 (J k i j) (J (some (ak e)) 1 1)) v λad u=>∃m x p,ad=J m x p/\w [J (df d 1 1 g) (azw (a:Int)-1) (d-1),J f b c,J m x p] u/\l [J (df d 1 1 g) (azw (a:Int)-1) (d-1),J f b c,J m x p] u<l [J g a d,J f b c,J k i j] t) (w [J (df d 1 1 g) (azw (a:Int)-1) (d-1),J f b c,J k i j] n/\l [J (df d 1 1 g) (azw (a:Int)-1) (d-1),J f b c,J k i j] n<l [J g a d,J f b c,J k i j] t))))) (aU B (bH f (0) b λr=>(∃q,ah 3 A r (o q)/\bU ((0:Int)<=(1:Int)/\1<=(b:Int)/\(b:Int)<=(c:Int)) (dY prog c8 [aD e,aD B] A λad n=>∃e,ad=aD e/\aU e (∀e v,bm n e [o q] 3 v->bO (dw 117 (J k i j) (J (some (ak e)) 1 1)) v λad u=>∃m x p,ad=J m x p/\w [J g a d,J (df c 1 1 f) (azw (b:Int)-1) (c-1),J m x p] u/\l [J g a d,J (df c 1 1 f) (azw (b:Int)-1) (c-1),J m x p] u<l [J g a d,J f b c,J k i j] t) (w [J g a d,J (df c 1 1 f) (azw (b:Int)-1) (c-1),J k i j] n/\l [J g a d,J (df c 1 1 f) (azw (b:Int)-1) (c-1),J k i j] n<l [J g a d,J f b c,J k i j] t)))) (dY prog c8 [aD e,aD B] A λad n=>∃e,ad=aD e/\aU e (∀e v,bm n e [o 0] 3 v->bO (dw 117 (J k i j) (J (some (ak e)) 1 1)) v λad u=>∃m q p,ad=J m q p/\w [J g a d,J f b c,J m q p] u/\l [J g a d,J f b c,J m q p] u<l [J g a d,J f b c,J k i j] t) (w [J g a d,J f b c,J k i j] n/\l [J g a d,J f b c,J k i j] n<l [J g a d,J f b c,J k i j] t)))):aK 248 [J bj aN bE,J e5 c' i',c8] H R:=bJ [(28,.cut [(0,.one .slice),(1,.one .slice),(7,.one .slice)]),(56,.cut []),(226,.cut [(8,.one .bool)]),(453,.cut [(9,.one .bool)])] func248 ntmps248 h
theorem afr(h:aU k3 (R (aD l1) H) (R (aD false) H)):aK 249 [aD k3,aD l1] H R:=bJ [] func249 ntmps249 h
theorem acG(h:∃(k:bx) (j:cr),k [o 0,o (aN:Int)] H/\∀(_:F) a b c,k [o a,o b] c->aY (a<b) (bH bj (wrap .i64 (azy (wrap .u64 (wrap .i64 (a+b))) (2^1))) aN λm=>(∃d g e,ah 122 c (aX m (azw (wrap .i64 (azy (wrap .u64 (wrap .i64 (a+b))) (2^1)))*3)) (aJ [o d,o g,aj e])/\dY prog c8 [aJ [o d,o g,aj e],o aM] c λl i=>∃f,l=o f/\aY (f<0) (k [o (wrap .i64 (wrap .i64 (azy (wrap .u64 (wrap .i64 (a+b))) (2^1))+1)),o b] i/\j [o (wrap .i64 (wrap .i64 (azy (wrap .u64 (wrap .i64 (a+b))) (2^1))+1)),o b] i<j [o a,o b] c) (k [o a,o (wrap .i64 (azy (wrap .u64 (wrap .i64 (a+b))) (2^1)))] i/\j [o a,o (wrap .i64 (azy (wrap .u64 (wrap .i64 (a+b))) (2^1)))] i<j [o a,o b] c))) (aY (a<(aN:Int)) (bH bj a aN λm=>(∃d g e,ah 122 c (aX m (a.toNat *3)) (aJ [o d,o g,aj e])/\dY prog c8 [aJ [o d,o g,aj e],o aM] c λl c=>∃f,l=o f/\R (a1 [o a,aD (f==0)]) c)) (R (a1 [o a,aD false]) c))):aK 236 [J bj aN bE,o aM,c8] H R:=bJ [(60,.cut [(9,.one (.int .i64)),(10,.one (.int .i64))])] func236 ntmps236 h
theorem acH(h:∀c a,bm H c [o aM,o b7,aj bu] 122 a->∃b,ah 3 a (ak c) (o b)/\cG 117 [o b,o ek] a λb a=>R (o b) a):aK 237 [aJ [o aM,o b7,aj bu],o ek] H R:=bJ [] func237 ntmps237 h
theorem ah5(h:∃a,ah 125 H (aX aQ 1) (.map a)/\ZS 301 [.map a] H λa b=>dY prog c8 [.map a] b λc b=>c=a1 []/\aK 302 [ax (some aQ),.map a] b λc b=>∃i f j ad n p k l g m d,c=aJ [J i f j,.map ad,aj n,J p k l,o g,o m,aD d]/\aU (!d) (R (o 2) b) (∃e,bp 125 b (aX aQ 1) (.map a) e/\R (o 0) e)):aK 241 [ax (some aQ),c8] H R:=bJ [] func241 ntmps241 h
theorem ahi(h:∃a,ah 9 H oe (aj a)/\∃b,ah 9 H aQ (aj b)/\jc prog (Instr.mapUpdate 125 (.map iK) (aj a) (aj b)) H λc=>R (a1 []) c):aK 242 [.map iK,ax (some aQ),ax (some oe)] H R:=bJ [] func242 ntmps242 h
theorem ahk(h:∃a,ah 9 H aQ (aj a)/\bO (Builtin.delete_ ⟨[125,9]⟩ 0 ⟨[.map iK,aj a]⟩) H λb c=>b=a1 []/\R (a1 []) c):aK 243 [.map iK,ax (some aQ)] H R:=bJ [] func243 ntmps243 h
theorem acX(h:∃(c:bx) (f:cr),c [o 0] H/\∀(_:F) a b,c [o a] b->aY (a<(aN:Int)) (bH bj a aN λm=>(∃e,ah 3 b (aX m (a.toNat *1)) (o e)/\dv 140 [b3 (wrap .u64 e)] b λi k=>aK 66 [ax (some aQ),aj i] k λl d=>∃g j,l=a1 [o g,j]/\c [o (wrap .i64 (a+1))] d/\f [o (wrap .i64 (a+1))] d<f [o a] b)) (R (a1 []) b)):aK 244 [J bj aN bE,ax (some aQ)] H R:=bJ [(6,.cut [(7,.one (.int .i64))])] func244 ntmps244 h
abbrev akk:Nat:=262
theorem akl(h:R (b3 (wrap .u64 (↑(azz (azx 64 (wrap .u64 (wrap .i64 (aM*2^1)))^^^azx 64 (wrap .u64 (azy aM (2^63))))):Int))) H):aK 262 [o aM] H R:=bJ [] func262 ntmps262 h
abbrev akY:Nat:=264
theorem akZ(h:∃(l:bx) (k:cr),l [o (wrap .i64 (aM+1))] H/\∀(_:F) c b,l [o c] b->aY (c<b7) (∃(m:bx) (n:cr),m [o c] b/\∀(_:F) a e,m [o a] e->∃(p:bx),aY (a>aM) (bH bj a aN λd=>(∃g j,ah 111 e (aX d (a.toNat *2)) (aJ [o g,o j])/\bH bj (wrap .i64 (a-1)) aN λd=>(∃i ad,ah 111 e (aX d (azw (wrap .i64 (a-1))*2)) (aJ [o i,o ad])/\dY prog c8 [aJ [o g,o j],aJ [o i,o ad]] e λr f=>∃q,r=o q/\aY (q<0) (p [] f) (l [o (wrap .i64 (c+1))] f/\k [o (wrap .i64 (c+1))] f<k [o c] b)))) (l [o (wrap .i64 (c+1))] e/\k [o (wrap .i64 (c+1))] e<k [o c] b)/\∀(_:F) b,p [] b->bH bj (wrap .i64 (a-1)) aN λd=>(∃c g,ah 111 b (aX d (azw (wrap .i64 (a-1))*2)) (aJ [o c,o g])/\bH bj a aN λd=>(∃j i,ah 111 b (aX d (a.toNat *2)) (aJ [o j,o i])/\bH bj a aN λd=>(∃f,bp 111 b (aX d (a.toNat *2)) (aJ [o c,o g]) f/\bH bj (wrap .i64 (a-1)) aN λd=>(∃b,bp 111 f (aX d (azw (wrap .i64 (a-1))*2)) (aJ [o j,o i]) b/\m [o (wrap .i64 (a-1))] b/\n [o (wrap .i64 (a-1))] b<n [o a] e))))) (R (a1 []) b)):aK 264 [J bj aN bE,o aM,o b7,c8] H R:=bJ [(6,.cut [(8,.one (.int .i64))]),(402,.cut [(9,.one (.int .i64))]),(804,.cut []),(3216,.tail 14),(6436,.et [0,0,0,0,8,0,0,64,224,480,0,0,3072,7168,16355,32739,65535,131071] (eS [0,1,2,3,4,5,6,7,8,9,10,11,12,13,14,115,16,117] .done))] func264 ntmps264 h
abbrev Nn:Nat:=265
theorem No(h:aU (wrap .i64 (b7-aM)==1) (∃(f:bx) (i:cr),f [o b7,o ek] H/\∀(_:F) a d b,f [o a,o d] b->aY (a<d) (bH bj (wrap .i64 (azy (wrap .u64 (wrap .i64 (a+d))) (2^1))) aN λe=>(∃c l,ah 111 b (aX e (azw (wrap .i64 (azy (wrap .u64 (wrap .i64 (a+d))) (2^1)))*2)) (aJ [o c,o l])/\bH bj aM aN λe=>(∃j k,ah 111 b (aX e (aM.toNat *2)) (aJ [o j,o k])/\dY prog c8 [aJ [o c,o l],aJ [o j,o k]] b λp g=>∃n,p=o n/\aY (n<0) (f [o (wrap .i64 (wrap .i64 (azy (wrap .u64 (wrap .i64 (a+d))) (2^1))+1)),o d] g/\i [o (wrap .i64 (wrap .i64 (azy (wrap .u64 (wrap .i64 (a+d))) (2^1))+1)),o d] g<i [o a,o d] b) (f [o a,o (wrap .i64 (azy (wrap .u64 (wrap .i64 (a+d))) (2^1)))] g/\i [o a,o (wrap .i64 (azy (wrap .u64 (wrap .i64 (a+d))) (2^1)))] g<i [o a,o d] b)))) (∃(f:bx) (i:cr),f [o aM] b/\∀(_:F) c b,f [o c] b->aY (c<wrap .i64 (a-1)) (bH bj (wrap .i64 (c+1)) aN λe=>(∃a l,ah 111 b (aX e (azw (wrap .i64 (c+1))*2)) (aJ [o a,o l])/\bH bj c aN λe=>(∃j k,ah 111 b (aX e (c.toNat *2)) (aJ [o j,o k])/\bH bj c aN λe=>(∃g,bp 111 b (aX e (c.toNat *2)) (aJ [o a,o l]) g/\bH bj (wrap .i64 (c+1)) aN λe=>(∃ad,bp 111 g (aX e (azw (wrap .i64 (c+1))*2)) (aJ [o j,o k]) ad/\f [o (wrap .i64 (c+1))] ad/\i [o (wrap .i64 (c+1))] ad<i [o c] b))))) (R (a1 []) b))) (aU (wrap .i64 (ek-b7)==1) (∃(f:bx) (i:cr),f [o aM,o b7] H/\∀(_:F) a d b,f [o a,o d] b->aY (a<d) (bH bj b7 aN λe=>(∃c l,ah 111 b (aX e (b7.toNat *2)) (aJ [o c,o l])/\bH bj (wrap .i64 (azy (wrap .u64 (wrap .i64 (a+d))) (2^1))) aN λe=>(∃j k,ah 111 b (aX e (azw (wrap .i64 (azy (wrap .u64 (wrap .i64 (a+d))) (2^1)))*2)) (aJ [o j,o k])/\dY prog c8 [aJ [o c,o l],aJ [o j,o k]] b λp g=>∃n,p=o n/\aU (!decide (n<0)) (f [o (wrap .i64 (wrap .i64 (azy (wrap .u64 (wrap .i64 (a+d))) (2^1))+1)),o d] g/\i [o (wrap .i64 (wrap .i64 (azy (wrap .u64 (wrap .i64 (a+d))) (2^1))+1)),o d] g<i [o a,o d] b) (f [o a,o (wrap .i64 (azy (wrap .u64 (wrap .i64 (a+d))) (2^1)))] g/\i [o a,o (wrap .i64 (azy (wrap .u64 (wrap .i64 (a+d))) (2^1)))] g<i [o a,o d] b)))) (∃(f:bx) (i:cr),f [o b7] b/\∀(_:F) c b,f [o c] b->aY (c>a) (bH bj (wrap .i64 (c-1)) aN λe=>(∃a l,ah 111 b (aX e (azw (wrap .i64 (c-1))*2)) (aJ [o a,o l])/\bH bj c aN λe=>(∃j k,ah 111 b (aX e (c.toNat *2)) (aJ [o j,o k])/\bH bj c aN λe=>(∃g,bp 111 b (aX e (c.toNat *2)) (aJ [o a,o l]) g/\bH bj (wrap .i64 (c-1)) aN λe=>(∃ad,bp 111 g (aX e (azw (wrap .i64 (c-1))*2)) (aJ [o j,o k]) ad/\f [o (wrap .i64 (c-1))] ad/\i [o (wrap .i64 (c-1))] ad<i [o c] b))))) (R (a1 []) b))) (∃(m:bx),aY (b7>wrap .i64 (azy (wrap .u64 (wrap .i64 (aM+ek))) (2^min (azw 1) (azF .u64)))) (m [o (wrap .i64 (wrap .i64 (wrap .i64 (azy (wrap .u64 (wrap .i64 (aM+ek))) (2^1))+b7)-ek)),o (wrap .i64 (azy (wrap .u64 (wrap .i64 (aM+ek))) (2^1)))] H) (m [o aM,o b7] H)/\∀(_:F) a d b,m [o a,o d] b->∃(f:bx) (i:cr),f [o a,o d] b/\∀(_:F) a c b,f [o a,o c] b->aY (a<c) (bH bj (wrap .i64 (wrap .i64 (wrap .i64 (wrap .i64 (azy (wrap .u64 (wrap .i64 (aM+ek))) (2^1))+b7)-1)-wrap .i64 (azy (wrap .u64 (wrap .i64 (a+c))) (2^1)))) aN λe=>(∃l j,ah 111 b (aX e (azw (wrap .i64 (wrap .i64 (wrap .i64 (wrap .i64 (azy (wrap .u64 (wrap .i64 (aM+ek))) (2^1))+b7)-1)-wrap .i64 (azy (wrap .u64 (wrap .i64 (a+c))) (2^1))))*2)) (aJ [o l,o j])/\bH bj (wrap .i64 (azy (wrap .u64 (wrap .i64 (a+c))) (2^1))) aN λe=>(∃k n,ah 111 b (aX e (azw (wrap .i64 (azy (wrap .u64 (wrap .i64 (a+c))) (2^1)))*2)) (aJ [o k,o n])/\dY prog c8 [aJ [o l,o j],aJ [o k,o n]] b λp g=>∃q,p=o q/\aU (!decide (q<0)) (f [o (wrap .i64 (wrap .i64 (azy (wrap .u64 (wrap .i64 (a+c))) (2^1))+1)),o c] g/\i [o (wrap .i64 (wrap .i64 (azy (wrap .u64 (wrap .i64 (a+c))) (2^1))+1)),o c] g<i [o a,o c] b) (f [o a,o (wrap .i64 (azy (wrap .u64 (wrap .i64 (a+c))) (2^1)))] g/\i [o a,o (wrap .i64 (azy (wrap .u64 (wrap .i64 (a+c))) (2^1)))] g<i [o a,o c] b)))) (∃(m:bx),aY (a<b7) (aY (b7<wrap .i64 (wrap .i64 (wrap .i64 (azy (wrap .u64 (wrap .i64 (aM+ek))) (2^min (azw 1) (azF .u64)))+b7)-a)) (dQ 324 [J bj aN bE,o a,o b7,o (wrap .i64 (wrap .i64 (wrap .i64 (azy (wrap .u64 (wrap .i64 (aM+ek))) (2^1))+b7)-a)),c8] b λb=>m [] b) (m [] b)) (m [] b)/\∀(_:F) b,m [] b->∃(m:bx),aY (aM<a) (aY (a<wrap .i64 (azy (wrap .u64 (wrap .i64 (aM+ek))) (2^min (azw 1) (azF .u64)))) (dQ 265 [J bj aN bE,o aM,o a,o (wrap .i64 (azy (wrap .u64 (wrap .i64 (aM+ek))) (2^1))),c8] b λb=>m [] b) (m [] b)) (m [] b)/\∀(_:F) b,m [] b->aY (wrap .i64 (azy (wrap .u64 (wrap .i64 (aM+ek))) (2^min (azw 1) (azF .u64)))<wrap .i64 (wrap .i64 (wrap .i64 (azy (wrap .u64 (wrap .i64 (aM+ek))) (2^min (azw 1) (azF .u64)))+b7)-a)) (aY (wrap .i64 (wrap .i64 (wrap .i64 (azy (wrap .u64 (wrap .i64 (aM+ek))) (2^min (azw 1) (azF .u64)))+b7)-a)<ek) (dQ 265 [J bj aN bE,o (wrap .i64 (azy (wrap .u64 (wrap .i64 (aM+ek))) (2^1))),o (wrap .i64 (wrap .i64 (wrap .i64 (azy (wrap .u64 (wrap .i64 (aM+ek))) (2^1))+b7)-a)),o ek,c8] b λb=>R (a1 []) b) (R (a1 []) b)) (R (a1 []) b))))):aK 265 [J bj aN bE,o aM,o b7,o ek,c8] H R:=bJ [(172,.cut [(10,.one (.int .i64)),(11,.one (.int .i64))]),(5514,.tail 9),(698,.cut [(13,.one (.int .i64))]),(11172,.et [0,0,0,0,8,0,0,64,224,480,0,0,3072,7168,16355,32739,65535,131071] (eS [0,1,2,3,4,5,6,7,8,9,10,11,12,13,14,115,16,117] .done)),(428,.cut [(14,.one (.int .i64)),(15,.one (.int .i64))]),(13706,.tail 9),(1722,.cut [(17,.one (.int .i64))]),(27556,.et [0,0,0,0,8,0,0,64,224,480,0,0,3072,7168,16355,32739,65535,131071] (eS [0,1,2,3,4,5,6,7,8,9,10,11,12,13,14,115,16,117] .done)),(63,.cut [(20,.one (.int .i64)),(21,.one (.int .i64))]),(1020,.cut [(20,.one (.int .i64)),(21,.one (.int .i64))]),(32650,.tail 11),(1023,.cut []),(2047,.cut [])] func265 ntmps265 h
abbrev ajD:Nat:=303
theorem ajE(h:dQ 139 [ax (some aQ)] H λa=>aY (aM<0) False (∃b e d,ah 168 a (aX aQ 1) (J b e d)/\∃b c f,ah 168 a (aX aQ 1) (J b c f)/\aY (wrap .i64 ((d:Int)-(c:Int))<aM) (dQ 347 [ax (some aQ),o aM] a λa=>R (a1 []) a) (R (a1 []) a))):aK 303 [ax (some aQ),o aM] H R:=bJ [] func303 ntmps303 h
theorem agZ(h:aU (iK.isNone) (R (.map none) H) (pX prog 340 ⟨[.iface 125 (.map iK)]⟩ H λd c=>∃a,d=a/\∃b,Rd prog (Instr.typeAssert a 20 125 false) c (.map b)/\R (.map b) c)):aK 301 [.map iK] H R:=bJ [] func301 ntmps301 h
theorem ahz(h:∀g a,bm H g [b2,.map none,aj eh,b2,o 0,o 0,aD false] 401 a->kY 342 [ax (some aQ)] a λim a=>dy 341 [im] a λc b d a=>∀S ke,bm a S [b2] 117 ke->∃a,bp 117 ke (ak S) (J c b d) a/\∀(cW:Nat) (Z:U),dV a cW (.map ⟨[]⟩ 0) Z->∀i a,bm Z i [b2,.map none,aj eh,b2,o 0,o 0,aD false] 401 a->∃Y,bp 401 a (ak i) (aJ [b2,.map (some cW),aj eh,b2,o 0,o 0,aD true]) Y/\∃b,Rd prog (Builtin.len_ ⟨[125]⟩ 3 ⟨[.map iK]⟩) Y (o b)/\dv 140 [b3 (wrap .u64 b)] Y λb1 a=>kY 345 [.map iK] a λbI a=>dy 344 [bI] a λc b d a=>∃(B:bx) (Q:cr),B [aj b1,o 0] a/\∀(_:F) G C a,B [aj G,o C] a->aY (C<(b:Int)) (bH c C b λq=>(∃P,ah 9 a (aX q (C.toNat *1)) (aj P)/\∃nJ,Rd prog (Instr.lookup 125 (.map iK) (aj P) false) a (aj nJ)/\∀g N,bm a g [aj eh,b2] 132 N->∃j,bp 132 N (ak g) (aJ [aj nJ,b2]) j/\∃f,ah 126 j (aX aQ 2) (.map f)/\∃aQ c b d,Rd prog (Instr.lookup 126 (.map f) (aj P) false) j (aJ [aj aQ,J c b d])/\∀A E,bm j A [aj eh,b2] 132 E->∃O,bp 132 E (ak A) (aJ [aj aQ,J c b d]) O/\∃aQ,ah 9 O (ak A) (aj aQ)/\dy 346 [aj aQ] O λc b d K=>∃aQ,ah 9 K (ak g) (aj aQ)/\dv 67 [aj P] K λT j1=>ah 9 j1 (ak g) (aj aQ)/\dv 140 [b3 (wrap .u64 (↑(aQ.size):Int))] j1 λaQ a0=>bU (T.size+aQ.size<=9223372036854775807) (bU (G.size+azC (T++aQ)<=9223372036854775807) (∃a5,ah 9 a0 (ak g) (aj a5)/\dy 346 [aj a5] a0 λad n d a9=>∃(V:bx) (a4:cr),V [aj (G++(T++aQ)),o 0] a9/\∀(_:F) aQ e p,V [aj aQ,o e] p->aY (e<(n:Int)) (bH ad e n λq=>(∃I,ah 9 p (aX q (e.toNat *1)) (aj I)/\∃(X:bx),(∃(bC:bx),aY (e<(b:Int)) (bH c e b λq=>(∃aQ,ah 9 p (aX q (e.toNat *1)) (aj aQ)/\bC [aD (aQ.toList==I.toList)] p)) (bC [aD false] p)/\∀(_:F) g a,bC [aD g] a->aU g (∃c b d,ah 117 a (bN A 1) (J c b d)/\bH c e b λq=>(∃b,ah 3 a (aX q (e.toNat *1)) (o b)/\X [o b] a)) (dY prog (.func (Fn.func 343) ⟨[]⟩ ⟨[ax (some (ak i)),ax (some (ak S))]⟩) [aj I] a λD a=>∃b,D=o b/\X [o b] a))/\∀(_:F) b a,X [o b] a->∃c k d,ah 117 a (bN g 1) (J c k d)/\∀l M,bm a l [o b] 3 M->bO (dw 117 (J c k d) (J (some (ak l)) 1 1)) M λD a=>∃c m d,D=J c m d/\∃L,bp 117 a (bN g 1) (J c m d) L/\dv 140 [b3 (wrap .u64 b)] L λW a=>bU (aQ.size+W.size<=9223372036854775807) (V [aj (aQ++W),o (wrap .i64 (e+1))] a/\a4 [aj (aQ++W),o (wrap .i64 (e+1))] a<a4 [aj aQ,o e] p))) (∃f,ah 126 p (bN i 1) (.map f)/\∃I c b d,ah 132 p (ak g) (aJ [aj I,J c b d])/\jc prog (Instr.mapUpdate 126 (.map f) (aj P) (aJ [aj I,J c b d])) p λM=>∃b,ah 3 M (bN i 4) (o b)/\∃c k d,ah 117 M (bN g 1) (J c k d)/\∃L,bp 3 M (bN i 4) (o (wrap .i64 (b+(k:Int)))) L/\B [aj aQ,o (wrap .i64 (C+1))] L/\Q [aj aQ,o (wrap .i64 (C+1))] L<Q [aj G,o C] a))))) (∃N,bp 9 a (bN i 2) (aj G) N/\dy 346 [aj G] N λc b d a=>∃(B:bx) (Q:cr),B [o 0] a/\∀(_:F) n a,B [o n] a->aY (n<(b:Int)) (bH c n b λq=>(∃aQ,ah 9 a (aX q (n.toNat *1)) (aj aQ)/\∃c b d,ah 117 a (bN i 3) (J c b d)/\dY prog (.func (Fn.func 343) ⟨[]⟩ ⟨[ax (some (ak i)),ax (some (ak S))]⟩) [aj aQ] a λD j=>∃e,D=o e/\ah 117 j (bN i 3) (J c b d)/\∀g E,bm j g [o e] 3 E->ah 117 E (bN i 3) (J c b d)/\bO (dw 117 (J c b d) (J (some (ak g)) 1 1)) E λD O=>∃c b d,D=J c b d/\∃K,bp 117 O (bN i 3) (J c b d) K/\B [o (wrap .i64 (n+1))] K/\Q [o (wrap .i64 (n+1))] K<Q [o n] a)) (∃c b d,ah 117 a (bN i 3) (J c b d)/\∃A,ah 4 a (bN i 6) (aD A)/\aU A (aY ((b:Int)<=20) (∃e,ah 3 a (bN i 4) (o e)/\∃c,ah 36 a aQ (ax c)/\cG 178 [ax c] a λk a=>ah 3 a (bN i 4) (o e)/\∃j,bp 4 a (bN i 6) (aD (decide (wrap .i64 (e+wrap .i64 (2*(b:Int)))<=wrap .i64 (k-2)))) j/\∃c b d f aQ ad m u x v l,ah 401 j (ak i) (aJ [J c b d,.map f,aj aQ,J ad m u,o x,o v,aD l])/\∃a,bp 401 j (ak g) (aJ [J c b d,.map f,aj aQ,J ad m u,o x,o v,aD l]) a/\∃c b d f aQ t r w a3 a2 s,ah 401 a (ak g) (aJ [J c b d,.map f,aj aQ,J t r w,o a3,o a2,aD s])/\R (aJ [J c b d,.map f,aj aQ,J t r w,o a3,o a2,aD s]) a) (∃j,bp 4 a (bN i 6) (aD false) j/\∃c b d f aQ ad e u k m l,ah 401 j (ak i) (aJ [J c b d,.map f,aj aQ,J ad e u,o k,o m,aD l])/\∃a,bp 401 j (ak g) (aJ [J c b d,.map f,aj aQ,J ad e u,o k,o m,aD l]) a/\∃c b d f aQ t x w v r s,ah 401 a (ak g) (aJ [J c b d,.map f,aj aQ,J t x w,o v,o r,aD s])/\R (aJ [J c b d,.map f,aj aQ,J t x w,o v,o r,aD s]) a)) (∃j,bp 4 a (bN i 6) (aD false) j/\∃c b d f aQ ad e u k m l,ah 401 j (ak i) (aJ [J c b d,.map f,aj aQ,J ad e u,o k,o m,aD l])/\∃a,bp 401 j (ak g) (aJ [J c b d,.map f,aj aQ,J ad e u,o k,o m,aD l]) a/\∃c b d f aQ t x w v r s,ah 401 a (ak g) (aJ [J c b d,.map f,aj aQ,J t x w,o v,o r,aD s])/\R (aJ [J c b d,.map f,aj aQ,J t x w,o v,o r,aD s]) a)))):aK 302 [ax (some aQ),.map iK] H R:=bJ [(506,.cut [(8,.one .str),(34,.one (.int .i64))]),(518558,.et [0,0,2,0,8,24,56,126,254,511,1023] (eS [0,1,3,4,5,6,102,107,8,9,10] .done)),(4148474,.cut [(8,.one .str),(65,.one (.int .i64))]),(531004723,.cut [(16,.one (.int .i64))]),(1062009446,.cut [(81,.one .bool)]),(2042,.cut [(120,.one (.int .i64))]),(130713,.et [0,1,3,0,0,24,56,127,255,511,1023] (eS [0,1,2,3,4,105,106,107,8,9,110] .done)),(2046,.et [0,1,3,7,15,31,63,127,255,127,639,2047,127,4223,12415,28799,61567,127103,262143,524287,1048575,2097151] (eS [0,1,2,3,4,5,6,7,8,9,10,11,12,13,14,15,116,17,18,19,20,121] .done))] func302 ntmps302 h
abbrev ak5:Nat:=324
theorem ak6(h:∃(f:bx) (e:cr),f [o (wrap .i64 (b7-aM)),o (wrap .i64 (ek-b7))] H/\∀(_:F) a b c,f [o a,o b] c->aU (a !=b) (aY (a>b) (dQ 364 [J bj aN bE,o (wrap .i64 (b7-a)),o b7,o b,c8] c λd=>f [o (wrap .i64 (a-b)),o b] d/\e [o (wrap .i64 (a-b)),o b] d<e [o a,o b] c) (dQ 364 [J bj aN bE,o (wrap .i64 (b7-a)),o (wrap .i64 (wrap .i64 (b7+b)-a)),o a,c8] c λd=>f [o a,o (wrap .i64 (b-a))] d/\e [o a,o (wrap .i64 (b-a))] d<e [o a,o b] c)) (dQ 364 [J bj aN bE,o (wrap .i64 (b7-a)),o b7,o a,c8] c λc=>R (a1 []) c)):aK 324 [J bj aN bE,o aM,o b7,o ek,c8] H R:=bJ [(28,.cut [(10,.one (.int .i64)),(11,.one (.int .i64))])] func324 ntmps324 h
theorem ajF(h:∃b k a,ah 168 H (aX aQ 1) (J b k a)/\∃b c j,ah 168 H (aX aQ 1) (J b c j)/\pX prog 376 ⟨[o (wrap .i64 (wrap .i64 (2*(a:Int))+aM))]⟩ H λe d=>∃f aM a,e=J f aM a/\ah 168 d (aX aQ 1) (J b c j)/\bU ((0:Int)<=(0:Int)/\0<=(c:Int)/\(c:Int)<=(a:Int)) (∃b aM i,ah 168 d (aX aQ 1) (J b aM i)/\bO (Builtin.copy_ ⟨[168,168]⟩ 3 ⟨[J f (azw (c:Int)-0) (a-0),J b aM i]⟩) d λe d=>∃aM,e=o aM/\∃g,bp 168 d (aX aQ 1) (J f (azw (c:Int)-0) (a-0)) g/\R (a1 []) g)):aK 347 [ax (some aQ),o aM] H R:=bJ [(2,.et [0,1,3,7,15,31,0,127,255,0,512,1536,3584,7680,16383,32767] (eS [0,1,2,3,4,5,6,7,9,10,11,12,13,108,14,15] .done))] func347 ntmps347 h
theorem agC(h:dy 369 [b2,c8] H λb d a c=>R (J b d a) c):aK 341 [c8] H R:=bJ [] func341 ntmps341 h
theorem agF(h:∀b a,bm H b [ax (some aQ)] 59 a->∃d,ah 59 a (ak b) (ax d)/\ZS 370 [ax d] a λf a=>∀c e,bm a c [.map none] 209 e->∃a,bp 209 e (ak c) (.map f) a/\R (.func (Fn.func 371) ⟨[]⟩ ⟨[ax (some (ak b)),ax (some (ak c))]⟩) a):aK 342 [ax (some aQ)] H R:=bJ [] func342 ntmps342 h
theorem ag6(h:∃c,ah 3 H (aX aQ 5) (o c)/\∃b,bp 3 H (aX aQ 5) (o (wrap .i64 (c+1))) b/\∃a c ad,ah 117 b oe (J a c ad)/\aU ((c:Int)==0) (∃d,bp 4 b (aX aQ 6) (aD false) d/\R (o 500) d) (∃a c m,ah 117 b oe (J a c m)/\bH a (0) c λn=>(∃c,ah 3 b n (o c)/\∃a f e,ah 117 b oe (J a f e)/\bU ((0:Int)<=(1:Int)/\1<=(f:Int)/\(f:Int)<=(e:Int)) (∃d,bp 117 b oe (J (df e 1 1 a) (azw (f:Int)-1) (e-1)) d/\∃a i j,ah 399 d aQ (J a i j)/\∀k b,bm d k [o c,aj bu] 446 b->bO (dw 399 (J a i j) (J (some (ak k)) 1 1)) b λp b=>∃a l bu,p=J a l bu/\∃g,bp 399 b aQ (J a l bu) g/\R (o c) g)))):aK 343 [aj bu,ax (some aQ),ax (some oe)] H R:=bJ [] func343 ntmps343 h
theorem age(h:dy 372 [c8] H λb d c a=>dQ 373 [J b d c] a λa=>R (J b d c) a):aK 344 [c8] H R:=bJ [] func344 ntmps344 h
theorem agj(h:∀a b,bm H a [.map iK] 125 b->R (.func (Fn.func 374) ⟨[]⟩ ⟨[ax (some (ak a))]⟩) b):aK 345 [.map iK] H R:=bJ [] func345 ntmps345 h
abbrev agM:Nat:=346
theorem agN(h:∀k e,bm H k [b2] 112 e->bO (convert 9 168 (aj bu)) e λj e=>∃b d c,j=J b d c/\kY 375 [J b d c,o 64] e λs e=>∀(g a:Nat) (bc:Loop) (m:U),tS e g a bc m->(∀(b:Option Addr) (d c:Nat) (i:U) (fY:Value->U->Prop),dO i a bc LoopState.ready none->(dO i a bc LoopState.ready none/\∃n p r,ah 112 (cC i a bc LoopState.busy none) (ak k) (J n p r)/\bO (convert 168 9 (J b d c)) (cC i a bc LoopState.busy none) λj e=>∃bu,j=aj bu/\∀q ad,bm e q [aj bu] 9 ad->bO (dw 112 (J n p r) (J (some (ak q)) 1 1)) ad λj e=>∃b d c,j=J b d c/\∃l,bp 112 e (ak k) (J b d c) l/\dO l a bc LoopState.busy none/\fY (aD true) (cC l a bc LoopState.ready none))->oR prog a [J b d c] i λb t=>fY b t)->dY prog s [.func (Fn.yield a) ⟨[]⟩ ⟨[]⟩] m λu f=>(dO f a bc LoopState.ready none/\∃b d c,ah 112 (cC f a bc LoopState.exhausted none) (ak k) (J b d c)/\hT (cC f a bc LoopState.exhausted none) g/\R (J b d c) (ir (cC f a bc LoopState.exhausted none) g))\/dO f a bc LoopState.done (some Code.ret)/\hT (cC f a bc LoopState.exhausted (some Code.ret)) g/\R (b2) (ir (cC f a bc LoopState.exhausted (some Code.ret)) g)):aK 346 [aj bu] H R:=F4 (ri [(58,.cut [(8,.one .slice)])]) pI func346 rfl ntmps346 rfl rfl (Eq.mpr (by kernel_rfl) h)
abbrev ak1:Nat:=364
theorem ak2(h:∃(e:bx) (k:cr),e [o 0] H/\∀(_:F) a c,e [o a] c->aY (a<ek) (bH bj (wrap .i64 (b7+a)) aN λb=>(∃ek f,ah 111 c (aX b (azw (wrap .i64 (b7+a))*2)) (aJ [o ek,o f])/\bH bj (wrap .i64 (aM+a)) aN λb=>(∃j i,ah 111 c (aX b (azw (wrap .i64 (aM+a))*2)) (aJ [o j,o i])/\bH bj (wrap .i64 (aM+a)) aN λb=>(∃g,bp 111 c (aX b (azw (wrap .i64 (aM+a))*2)) (aJ [o ek,o f]) g/\bH bj (wrap .i64 (b7+a)) aN λb=>(∃d,bp 111 g (aX b (azw (wrap .i64 (b7+a))*2)) (aJ [o j,o i]) d/\e [o (wrap .i64 (a+1))] d/\k [o (wrap .i64 (a+1))] d<k [o a] c))))) (R (a1 []) c)):aK 364 [J bj aN bE,o aM,o b7,o ek,c8] H R:=bJ [(6,.cut [(10,.one (.int .i64))]),(100,.et [0,0,0,6,0,0,0,96,0,0,0,1536,3840,7936,0,0,0,98304,245760,507904,1048335,2096911,4194303,8388607] (eS [0,1,2,3,4,5,6,7,8,9,10,11,12,13,14,15,16,17,18,19,20,121,22,123] .done))] func364 ntmps364 h
theorem agD(h:∀j f,bm H j [J bj aN bE] 117 f->∀(g a:Nat) (bc:Loop) (l:U),tS f g a bc l->(∀(d:Int) (i:U) (fY:Value->U->Prop),dO i a bc LoopState.ready none->(dO i a bc LoopState.ready none/\∃b m c,ah 117 (cC i a bc LoopState.busy none) (ak j) (J b m c)/\∀n f,bm (cC i a bc LoopState.busy none) n [o d] 3 f->bO (dw 117 (J b m c) (J (some (ak n)) 1 1)) f λad f=>∃b d c,ad=J b d c/\∃k,bp 117 f (ak j) (J b d c) k/\dO k a bc LoopState.busy none/\fY (aD true) (cC k a bc LoopState.ready none))->oR prog a [o d] i λb p=>fY b p)->dY prog c8 [.func (Fn.yield a) ⟨[]⟩ ⟨[]⟩] l λq e=>(dO e a bc LoopState.ready none/\∃b d c,ah 117 (cC e a bc LoopState.exhausted none) (ak j) (J b d c)/\hT (cC e a bc LoopState.exhausted none) g/\R (J b d c) (ir (cC e a bc LoopState.exhausted none) g))\/dO e a bc LoopState.done (some Code.ret)/\hT (cC e a bc LoopState.exhausted (some Code.ret)) g/\R (b2) (ir (cC e a bc LoopState.exhausted (some Code.ret)) g)):aK 369 [J bj aN bE,c8] H R:=F4 (ri [(26,.cut [(7,.one (.int .i64))])]) pI func369 rfl ntmps369 rfl rfl (Eq.mpr (by kernel_rfl) h)
abbrev agm:Nat:=370
theorem agn(h:∀(m:Nat) (a:U),dV H m (.map ⟨[]⟩ 0) a->∃c b i,ah 117 a (aX aQ 3) (J c b i)/\∃(e:bx) (l:cr),e [o 0] a/\∀(_:F) f a,e [o f] a->aY (f<(b:Int)) (bH c f b λad=>(∃b,ah 3 a (aX ad (f.toNat *1)) (o b)/\jc prog (Instr.mapUpdate 209 (.map (some m)) (o b) (aD true)) a λk=>e [o (wrap .i64 (f+1))] k/\l [o (wrap .i64 (f+1))] k<l [o f] a)) (∃t,ah 126 a (aX aQ 2) (.map t)/\bO (Instr.range 126 (.map t)) a λj a=>∃c,j=ax c/\∃(e:bx) (l:cr),e [] a/\∀(_:F) a,e [] a->bO (Instr.next (ax c) false 0) a λj k=>j=a1 [aD false]/\R (.map (some m)) k\/∃q n,j=a1 [aD true,q,n]/\bO (Instr.entry (ax c)) k λj w=>∃q n,j=a1 [q,n]/\∃aQ c b i,n=aJ [aj aQ,J c b i]/\∀s v,bm w s [aj eh,b2] 132 v->∃r,bp 132 v (ak s) (aJ [aj aQ,J c b i]) r/\∃c b i,ah 117 r (bN s 1) (J c b i)/\∃(p:bx) (u:cr),p [o 0] r/\∀(_:F) d g,p [o d] g->aY (d<(b:Int)) (bH c d b λad=>(∃b,ah 3 g (aX ad (d.toNat *1)) (o b)/\jc prog (Instr.mapUpdate 209 (.map (some m)) (o b) (aD true)) g λa=>p [o (wrap .i64 (d+1))] a/\u [o (wrap .i64 (d+1))] a<u [o d] g)) (e [] g/\l [] g<l [] a))):aK 370 [ax (some aQ)] H R:=bJ [(58,.cut [(16,.one (.int .i64))]),(122,.cut []),(3916,.ext),(15670,.cut [(35,.one (.int .i64))])] func370 ntmps370 h
theorem agw(h:∃(g:bx) (f:cr),g [o 2] H/\∀(_:F) a c,g [o a] c->∃e,ah 59 c aQ (ax e)/\fp e λe=>∃k,ah 36 c e (ax k)/\cG 178 [ax k] c λl b=>aY (a<l) (∃j,ah 209 b oe (.map j)/\∃d,Rd prog (Instr.lookup 209 (.map j) (o a) false) b (aD d)/\aU (!d) (wZ prog c8 [o a] b λm i=>∃d,m=aD d/\aU (!d) (R (a1 []) i) (g [o (wrap .i64 (a+1))] i/\f [o (wrap .i64 (a+1))] i<f [o a] c)) (g [o (wrap .i64 (a+1))] b/\f [o (wrap .i64 (a+1))] b<f [o a] c)) (R (a1 []) b)):aK 371 [c8,ax (some aQ),ax (some oe)] H R:=F3 (ri [(6,.cut [(4,.one (.int .i64))])]) pI func371 rfl ntmps371 rfl rfl (Eq.mpr (by kernel_rfl) h)
theorem agb(h:dy 385 [b2,c8] H λb d a c=>R (J b d a) c):aK 372 [c8] H R:=bJ [] func372 ntmps372 h
theorem af6(h:∃l,ah 125 H aQ (.map l)/\bO (Instr.range 125 (.map l)) H λa b=>∃f,a=ax f/\∃(g:bx) (m:cr),g [] b/\∀(_:F) b,g [] b->bO (Instr.next (ax f) false 0) b λa k=>a=a1 [aD false]/\R (a1 []) k\/∃c e,a=a1 [aD true,c,e]/\bO (Instr.entry (ax f)) k λa n=>∃c e,a=a1 [c,e]/\∃j,c=aj j/\wZ prog c8 [aj j] n λa d=>∃i,a=aD i/\aU (!i) (R (a1 []) d) (g [] d/\m [] d<m [] b)):aK 374 [c8,ax (some aQ)] H R:=F3 (ri [(6,.cut []),(204,.ext)]) pI func374 rfl ntmps374 rfl rfl (Eq.mpr (by kernel_rfl) h)
theorem agO(h:∀c d,bm H c [J bj aN bE] 168 d->∀b a,bm d b [o aM] 3 a->∃aM,ah 3 a (ak b) (o aM)/\aY (aM<1) False (R (.func (Fn.func 387) ⟨[]⟩ ⟨[ax (some (ak c)),ax (some (ak b))]⟩) a)):aK 375 [J bj aN bE,o aM] H R:=bJ [] func375 ntmps375 h
theorem agc(h:∀j f,bm H j [J bj aN bE] 112 f->∀(g a:Nat) (bc:Loop) (l:U),tS f g a bc l->(∀(m:ByteArray) (i:U) (fY:Value->U->Prop),dO i a bc LoopState.ready none->(dO i a bc LoopState.ready none/\∃b d c,ah 112 (cC i a bc LoopState.busy none) (ak j) (J b d c)/\∀n f,bm (cC i a bc LoopState.busy none) n [aj m] 9 f->bO (dw 112 (J b d c) (J (some (ak n)) 1 1)) f λad f=>∃b d c,ad=J b d c/\∃k,bp 112 f (ak j) (J b d c) k/\dO k a bc LoopState.busy none/\fY (aD true) (cC k a bc LoopState.ready none))->oR prog a [aj m] i λb p=>fY b p)->dY prog c8 [.func (Fn.yield a) ⟨[]⟩ ⟨[]⟩] l λq e=>(dO e a bc LoopState.ready none/\∃b d c,ah 112 (cC e a bc LoopState.exhausted none) (ak j) (J b d c)/\hT (cC e a bc LoopState.exhausted none) g/\R (J b d c) (ir (cC e a bc LoopState.exhausted none) g))\/dO e a bc LoopState.done (some Code.ret)/\hT (cC e a bc LoopState.exhausted (some Code.ret)) g/\R (b2) (ir (cC e a bc LoopState.exhausted (some Code.ret)) g)):aK 385 [J bj aN bE,c8] H R:=F4 (ri [(26,.cut [(7,.one .str)])]) pI func385 rfl ntmps385 rfl rfl (Eq.mpr (by kernel_rfl) h)
theorem agL(h:∃(j:bx) (m:cr),j [o 0] H/\∀(_:F) a d,j [o a] d->∃f l e,ah 168 d aQ (J f l e)/\aY (a<(l:Int)) (∃c,ah 3 d oe (o c)/\∃f b e,ah 168 d aQ (J f b e)/\bU (0<=a/\a<=(b:Int)/\(b:Int)<=(e:Int)) (∃f n e,ah 168 d aQ (J f n e)/\bU (0<=a/\a<=wrap .i64 (a+if(↑(azw (b:Int)-a.toNat):Int)<c then(↑(azw (b:Int)-a.toNat):Int)else c)/\wrap .i64 (a+if(↑(azw (b:Int)-a.toNat):Int)<c then(↑(azw (b:Int)-a.toNat):Int)else c)<=wrap .i64 (a+if(↑(azw (b:Int)-a.toNat):Int)<c then(↑(azw (b:Int)-a.toNat):Int)else c)/\wrap .i64 (a+if(↑(azw (b:Int)-a.toNat):Int)<c then(↑(azw (b:Int)-a.toNat):Int)else c)<=(e:Int)) (wZ prog c8 [J (df (azw (wrap .i64 (a+if(↑(azw (b:Int)-a.toNat):Int)<c then(↑(azw (b:Int)-a.toNat):Int)else c))) (a.toNat) 1 f) (azw (wrap .i64 (a+if(↑(azw (b:Int)-a.toNat):Int)<c then(↑(azw (b:Int)-a.toNat):Int)else c))-a.toNat) (azw (wrap .i64 (a+if(↑(azw (b:Int)-a.toNat):Int)<c then(↑(azw (b:Int)-a.toNat):Int)else c))-a.toNat)] d λad g=>∃k,ad=aD k/\aU (!k) (R (a1 []) g) (∃i,ah 3 g oe (o i)/\j [o (wrap .i64 (a+i))] g/\m [o (wrap .i64 (a+i))] g<m [o a] d)))) (R (a1 []) d)):aK 387 [c8,ax (some aQ),ax (some oe)] H R:=F3 (ri [(6,.cut [(4,.one (.int .i64))]),(200,.et [0,0,0,6,14,31,63] (eS [0,1,2,3,4,5,6] .done))]) pI func387 rfl ntmps387 rfl rfl (Eq.mpr (by kernel_rfl) h)
theorem aqt(h:∀b a,bm H b [] 165 a->R (o 1) a):aK 426 [aJ []] H R:=bJ [] func426 ntmps426 h
theorem aqu(h:∀b a,bm H b [] 166 a->R (o 211) a):aK 427 [aJ []] H R:=bJ [] func427 ntmps427 h
theorem aqz(x:Int)(y:Int)(H:U)(R:Value->U->Prop)(h:fo azB (198:Nat) {toList:=[ayZ azK x]} H λv H'=>∃b,v=azD b/\aU b (fo azB (198:Nat) {toList:=[ayZ azK y]} H' λv H'=>∃b,v=azD b/\aU (!b) (R (azD true) H') (R (azD (decide (x<y))) H')) (R (azD (decide (x<y))) H')):fo azB 218 (azM [ayZ azK x,ayZ azK y]) H R:=LG (DO []) pI Go.Proofs.Tryz.func218 rfl Go.Proofs.Tryz.ntmps218 rfl rfl (Eq.mpr (by kernel_rfl) h)
theorem aqD(x:Int)(H:U)(R:Value->U->Prop)(h:R (azD (x !=x)) H):fo azB 256 (azM [ayZ azK x]) H R:=LG (DO []) pI Go.Proofs.Tryz.func256 rfl Go.Proofs.Tryz.ntmps256 rfl rfl (Eq.mpr (by kernel_rfl) h)
theorem acR(h:aK 259 [aj bu] H λf a=>∃c b,f=a1 [o c,b]/\∃d,kM prog (jk BinOp.neq 172 (Operand.tmp 11) (Operand.const .nilIface) b .nilIface) (aD d)/\aU d (kY 260 [aj ⟨#[65,116,111,105]⟩,aj bu,o 0,o 0,b] a λe a=>R (a1 [o c,e]) a) (R (a1 [o c,.nilIface]) a)):aK 182 [aj bu] H R:=bJ [] func182 ntmps182 h
abbrev GV:Nat:=10
theorem RO(h:aK 34 [ax (some aQ)] H λg a=>∃b e c,g=a1 [o b,o e,aD c]/\eu 35 [ax (some aQ)] a λf a=>aU f (cG 36 [ax (some aQ)] a λb a=>R (a1 [aD (b==0),o b]) a) (∃d,ah 4 a (aX (aX aQ 3) 3) (aD d)/\aU d False (aU c False (R (a1 [aD false,o 0]) a)))):aK 10 [ax (some aQ)] H R:=bJ [(487,.dead true),(1951,.dead true)] func10 ntmps10 h
abbrev Kf:Nat:=44
theorem P5(h:∀n a,bm H n [o aM,o b7] 25 a->∃(k:bx),aY ((aN:Int)<=2) (k [o 0] a) (k [o 1] a)/\∀(_:F) b a,k [o b] a->∃c I d,ah 66 a (aX aQ 3) (J c I d)/\∃(l:bx) (s:cr),l [b2,o 0] a/\∀(_:F) w u d r a,l [J w u d,o r] a->aY (r<(I:Int)) (∃(k:bx),(bH c r I λK=>(∃g e E,ah 122 a (aX K (r.toNat *3)) (aJ [o g,o e,aj E])/\∀f j,bm a f [o 0,o 0,aj eh] 122 j->∃a,bp 122 j (ak f) (aJ [o g,o e,aj E]) a/\∃D,ah 3 a (ak f) (o D)/\aK 75 [o D] a λC a=>∃B A,C=aJ [o B,o A]/\∀v t,bm a v [o 0,o 0] 25 t->∃a,bp 25 t (ak v) (aJ [o B,o A]) a/\∃(P:bx),(∃b,ah 3 a (ak v) (o b)/\∃m,ah 3 a (bN n 1) (o m)/\aY (b>=m) (k [J w u d] a) (∃b,ah 3 a (bN v 1) (o b)/\∃ad,ah 3 a (ak n) (o ad)/\aY (b<=ad) (k [J w u d] a) (P [] a)))/\∀(_:F) a,P [] a->∃m ad E,ah 122 a (ak f) (aJ [o m,o ad,aj E])/\∃L Q,ah 25 a (ak n) (aJ [o L,o Q])/\dy 74 [ax (some aQ),aJ [o m,o ad,aj E],J bj aN bE,aJ [o L,o Q]] a λc bC p a=>bO (dw 82 (J w u d) (J c bC p)) a λC a=>∃c G d,C=J c G d/\aU k3 (∃i,ah 64 a (aX aQ 13) (ax i)/\∃S,ah 3 a (ak f) (o S)/\dQ 92 [ax i,o S,o b,o 1] a λa=>k [J c G d] a) (k [J c G d] a)))/\∀(_:F) c b p j,k [J c b p] j->l [J c b p,o (wrap .i64 (r+1))] j/\s [J c b p,o (wrap .i64 (r+1))] j<s [J w u d,o r] a) (∃c b p,ah 52 a (aX aQ 10) (J c b p)/\∃(l:bx) (s:cr),l [b2,o 0] a/\∀(_:F) i g q e a,l [J i g q,o e] a->aY (e<(b:Int)) (bH c e b λK=>(∃b c D d,ah 57 a (aX K (e.toNat *2)) (aJ [o b,J c D d])/\∀f j,bm a f [o 0,b2] 57 j->∃t,bp 57 j (ak f) (aJ [o b,J c D d]) t/\∃b,ah 3 t (ak f) (o b)/\eu 93 [J bj aN bE,o b] t λv x=>aU v (∃b,ah 3 x (ak f) (o b)/\∃c B d,ah 55 x (bN f 1) (J c B d)/\∃A m,ah 25 x (ak n) (aJ [o A,o m])/\dy 94 [J c B d,aJ [o A,o m]] x λc ad d N=>ah 3 N (ak f) (o b)/\∀n M,bm N n [o b,J c ad d] 57 M->dy 71 [J (some (ak n)) 1 1] M λc b d T=>bO (dw 82 (J i g q) (J c b d)) T λC O=>∃c b d,C=J c b d/\l [J c b d,o (wrap .i64 (e+1))] O/\s [J c b d,o (wrap .i64 (e+1))] O<s [J i g q,o e] a) (l [J i g q,o (wrap .i64 (e+1))] x/\s [J i g q,o (wrap .i64 (e+1))] x<s [J i g q,o e] a))) (dy 57 [b2,J w u d] a λc b d a=>dy 57 [J c b d,J i g q] a λc b d a=>R (J c b d) a))):aK 44 [ax (some aQ),J bj aN bE,aJ [o aM,o b7],aD k3] H R:=bJ [(15,.cut [(10,.one (.int .i64))]),(250,.cut [(9,.one .slice),(26,.one (.int .i64))]),(2003,.cut [(9,.one .slice)]),(32051,.cut []),(512830,.tail 7),(1018,.cut [(14,.one .slice),(67,.one (.int .i64))]),(260710,.et [0,0,2,0,8,0,56,126,254,510,1023,2047] (eS [0,1,2,3,4,5,106,7,108,109,110,11] .done))] func44 ntmps44 h
abbrev Rt:Nat:=36
theorem abR(h:∀(e:Nat) (a:U),dV H e (.map ⟨[]⟩ 0) a->∃b c d,ah 52 a (aX aQ 10) (J b c d)/\dy 71 [J b c d] a λb c d a=>∃(j:bx) (ad:cr),j [o 0] a/\∀(_:F) v a,j [o v] a->aY (v<(c:Int)) (bH b v c λim=>(∃c t L,ah 103 a (aX im (v.toNat *3)) (aJ [o c,o t,o L])/\∀n X,bm a n [o 0,o 0,o 0] 103 X->∃k,bp 103 X (ak n) (aJ [o c,o t,o L]) k/\∃c,ah 3 k (ak n) (o c)/\∃p,ah 3 k (ak n) (o p)/\∃u T P,ah 103 k (ak n) (aJ [o u,o T,o P])/\(cG 72 [o c] k λc m=>ah 103 m (ak n) (aJ [o u,o T,o P])/\ah 3 m (ak n) (o p)/\(cG 72 [o p] m λS g=>ah 103 g (ak n) (aJ [o u,o T,o P])/\∃b w d,Rd prog (Instr.lookup 178 (.map (some e)) (o S) false) g (J b w d)/\∀i q,bm g i [o u,o T,o P] 103 q->Rd prog (Instr.lookup 178 (.map (some e)) (o S) false) q (J b w d)/\bO (dw 82 (J b w d) (J (some (ak i)) 1 1)) q λf bC=>∃b B d,f=J b B d/\jc prog (Instr.mapUpdate 178 (.map (some e)) (o c) (J b B d)) bC λA=>j [o (wrap .i64 (v+1))] A/\ad [o (wrap .i64 (v+1))] A<ad [o v] a)/\∀i g,bm m i [o u,o T,o P] 103 g->ah 3 g (ak n) (o p)/\cG 72 [o p] g λS q=>∃b w d,Rd prog (Instr.lookup 178 (.map (some e)) (o S) false) q (J b w d)/\bO (dw 82 (J b w d) (J (some (ak i)) 1 1)) q λf bC=>∃b B d,f=J b B d/\jc prog (Instr.mapUpdate 178 (.map (some e)) (o c) (J b B d)) bC λA=>j [o (wrap .i64 (v+1))] A/\ad [o (wrap .i64 (v+1))] A<ad [o v] a)/\∀i m,bm k i [o u,o T,o P] 103 m->ah 3 m (ak n) (o p)/\ah 3 m (ak n) (o c)/\cG 72 [o c] m λc g=>ah 3 g (ak n) (o p)/\cG 72 [o p] g λS q=>∃b w d,Rd prog (Instr.lookup 178 (.map (some e)) (o S) false) q (J b w d)/\bO (dw 82 (J b w d) (J (some (ak i)) 1 1)) q λf bC=>∃b B d,f=J b B d/\jc prog (Instr.mapUpdate 178 (.map (some e)) (o c) (J b B d)) bC λA=>j [o (wrap .i64 (v+1))] A/\ad [o (wrap .i64 (v+1))] A<ad [o v] a)) (∃b c d,ah 66 a (aX aQ 3) (J b c d)/\∃(j:bx) (ad:cr),j [o 0] a/\∀(_:F) t a,j [o t] a->aY (t<(c:Int)) (bH b t c λim=>(∃c L l,ah 122 a (aX im (t.toNat *3)) (aJ [o c,o L,aj l])/\∀n X,bm a n [o 0,o 0,aj eh] 122 X->∃k,bp 122 X (ak n) (aJ [o c,o L,aj l]) k/\∃c,ah 3 k (ak n) (o c)/\∃b p d i,Rd prog (Instr.lookup 178 (.map (some e)) (o c) true) k (a1 [J b p d,aD i])/\aU (!i) (∃c,ah 3 k (ak n) (o c)/\jc prog (Instr.mapUpdate 178 (.map (some e)) (o c) (b2)) k λm=>j [o (wrap .i64 (t+1))] m/\ad [o (wrap .i64 (t+1))] m<ad [o t] a) (j [o (wrap .i64 (t+1))] k/\ad [o (wrap .i64 (t+1))] k<ad [o t] a))) (bO (Instr.range 178 (.map (some e))) a λf a=>∃b,f=ax b/\∃(j:bx) (ad:cr),j [b2] a/\∀(_:F) b1 c d a,j [J b1 c d] a->bO (Instr.next (ax b) false 0) a λf X=>(f=a1 [aD false]/\dQ 73 [J b1 c d] X λa=>∃b,ah 62 a (aX aQ 2) (ax b)/\cG 31 [ax b] a λL a=>∃(j:bx) (ad:cr),j [b2,o 0] a/\∀(_:F) b p d u a,j [J b p d,o u] a->aY (u<L) (∀e k,bm a e [o u] 3 k->bO (dw 117 (J b p d) (J (some (ak e)) 1 1)) k λf m=>∃rB c D,f=J rB c D/\j [J rB c D,o (wrap .i64 (u+1))] m/\ad [J rB c D,o (wrap .i64 (u+1))] m<ad [J b p d,o u] a) (∃d3 T D P S n w B c3,ah 68 a (aX aQ 3) (aJ [J d3 T D,o P,o S,aD n,o w,o B,o c3])/\∀i k,bm a i [b2,o 0,o 0,aD false,o 0,o 0,o 0] 68 k->∃a,bp 68 k (ak i) (aJ [J d3 T D,o P,o S,aD n,o w,o B,o c3]) a/\∃c4,ah 59 a (aX aQ 1) (ax c4)/\∀a0 m,bm a a0 [ax c4,o 0,b2] 185 m->∃(j:bx) (ad:cr),j [o 0] m/\∀(_:F) Z a,j [o Z] a->aY (Z<(c:Int)) (∃(Q:bx),(bH b1 Z c λim=>(∃c,ah 3 a (aX im (Z.toNat *1)) (o c)/\∃c5 K f0 N M W G E I,ah 68 a (ak i) (aJ [J c5 K f0,o N,o M,aD W,o G,o E,o I])/\aK 45 [aJ [J c5 K f0,o N,o M,aD W,o G,o E,o I],o c] a λf a=>∃x C l a4,f=a1 [aJ [o x,o C,aj l],aD a4]/\∀V g,bm a V [o 0,o 0,aj eh] 122 g->∃a,bp 122 g (ak V) (aJ [o x,o C,aj l]) a/\∃(rE:bx),aU a4 (∃s r l,ah 122 a (ak V) (aJ [o s,o r,aj l])/\aK 75 [o c] a λf a=>∃c O,f=aJ [o c,o O]/\ah 122 a (ak V) (aJ [o s,o r,aj l])/\dy 74 [ax (some aQ),aJ [o s,o r,aj l],J b p d,aJ [o c,o O]] a λb c d a=>rE [J b c d] a) (rE [b2] a)/\∀(_:F) b s d a,rE [J b s d] a->∃jy r c0,Rd prog (Instr.lookup 178 (.map (some e)) (o c) false) a (J jy r c0)/\dy 57 [b2,J b s d] a λb O d a=>Rd prog (Instr.lookup 178 (.map (some e)) (o c) false) a (J jy r c0)/\dy 57 [J b O d,J jy r c0] a λb Y d a=>dy 71 [J b Y d] a λb bI d a=>∃lx,ah 3 a (bN V 1) (o lx)/\aK 76 [o lx,J b bI d] a λf a=>∃l sO,f=a1 [aj l,o sO]/\∃(d2:bx),aU (sO !=0) False (d2 [aj l,o sO] a)/\∀(_:F) l sW a,d2 [aj l,o sW] a->∃b,ah 59 a (aX aQ 1) (ax b)/\∃Ai,ah 9 a (bN V 2) (aj Ai)/\aK 21 [ax b,aj Ai] a λf a=>∃a' e,f=a1 [aj a',aD e]/\∃pO,ah 3 a (bN V 1) (o pO)/\∀e q,bm a e [o 0,o 0,o 0,o 0] 190 q->∃a,bp 190 q (ak e) (aJ [o 0,o c,o pO,o 0]) a/\∃(rq:bx),(∃(cW:bx),aU a4 (cW [aD (a'.toList==l.toList)] a) (cW [aD false] a)/\∀(_:F) e a,cW [aD e] a->aU e (Q [] a) (aU ((bI:Int)==0) (aU (!a4) (Q [] a) (aU ((bI:Int)==0) False (rq [] a))) (aU ((bI:Int)==0) False (rq [] a))))/\∀(_:F) a,rq [] a->∃b f5 d d1 d6 d5 f6 d0 d8,ah 68 a (ak i) (aJ [J b f5 d,o d1,o d6,aD d5,o f6,o d0,o d8])/\∃cX f4 ze ed,ah 190 a (ak e) (aJ [o cX,o f4,o ze,o ed])/\aK 77 [aJ [J b f5 d,o d1,o d6,aD d5,o f6,o d0,o d8],aJ [o cX,o f4,o ze,o ed]] a λf a=>∃b c2 d kg f1 e c1 c9 d9 gQ,f=a1 [aJ [J b c2 d,o kg,o f1,aD e,o c1,o c9,o d9],o gQ]/\∀a3 bC,bm a a3 [b2,o 0,o 0,aD false,o 0,o 0,o 0] 68 bC->∃a,bp 68 bC (ak a3) (aJ [J b c2 d,o kg,o f1,aD e,o c1,o c9,o d9]) a/\∃(cW:bx),aU (sW !=0) False (aU (gQ !=0) False (cW [] a))/\∀(_:F) a,cW [] a->∃b qz d f8 d4 e f3 Bl aL,ah 68 a (ak a3) (aJ [J b qz d,o f8,o d4,aD e,o f3,o Bl,o aL])/\aK 45 [aJ [J b qz d,o f8,o d4,aD e,o f3,o Bl,o aL],o c] a λf a=>∃c f2 f7 e,f=a1 [aJ [o c,o f2,aj f7],aD e]/\∀k7 A,bm a k7 [o 0,o 0,aj eh] 122 A->∃a,bp 122 A (ak k7) (aJ [o c,o f2,aj f7]) a/\aU e (∃d7,ah 9 a (bN k7 2) (aj d7)/\dQ 79 [ax (some (ak a0)),aj d7,aj l] a λa=>aU a4 (∃l,ah 9 a (bN V 2) (aj l)/\dQ 80 [ax (some (ak a0)),aj l] a λa=>∃b c d j1 a2 e nJ ke a5,ah 68 a (ak a3) (aJ [J b c d,o j1,o a2,aD e,o nJ,o ke,o a5])/\∃a9,bp 68 a (ak i) (aJ [J b c d,o j1,o a2,aD e,o nJ,o ke,o a5]) a9/\Q [] a9) (∃b c d j1 a2 e nJ ke a5,ah 68 a (ak a3) (aJ [J b c d,o j1,o a2,aD e,o nJ,o ke,o a5])/\∃a9,bp 68 a (ak i) (aJ [J b c d,o j1,o a2,aD e,o nJ,o ke,o a5]) a9/\Q [] a9)) False))/\∀(_:F) g,Q [] g->j [o (wrap .i64 (Z+1))] g/\ad [o (wrap .i64 (Z+1))] g<ad [o Z] a) (∃(Q:bx),(∃b c d K N e M G E,ah 68 a (ak i) (aJ [J b c d,o K,o N,aD e,o M,o G,o E])/\∃I,ah 3 a (aX aQ 12) (o I)/\(aK 77 [aJ [J b c d,o K,o N,aD e,o M,o G,o E],aJ [o 2,o 0,o 0,o I]] a λf a=>∃b c d x C e s r O Y,f=a1 [aJ [J b c d,o x,o C,aD e,o s,o r,o O],o Y]/\∀W g,bm a W [b2,o 0,o 0,aD false,o 0,o 0,o 0] 68 g->∃a,bp 68 g (ak W) (aJ [J b c d,o x,o C,aD e,o s,o r,o O]) a/\aU (Y==0) False (Q [] a))/\∀W g,bm a W [b2,o 0,o 0,aD false,o 0,o 0,o 0] 68 g->ah 3 g (aX aQ 12) (o I)/\ah 68 g (ak i) (aJ [J b c d,o K,o N,aD e,o M,o G,o E])/\aK 77 [aJ [J b c d,o K,o N,aD e,o M,o G,o E],aJ [o 2,o 0,o 0,o I]] g λf a=>∃b c d x C e s r O Y,f=a1 [aJ [J b c d,o x,o C,aD e,o s,o r,o O],o Y]/\∃q,bp 68 a (ak W) (aJ [J b c d,o x,o C,aD e,o s,o r,o O]) q/\aU (Y==0) False (Q [] q))/\∀(_:F) a,Q [] a->∃b c d K N e M G E,ah 68 a (ak i) (aJ [J b c d,o K,o N,aD e,o M,o G,o E])/\dQ 81 [ax (some (ak a0)),aJ [J b c d,o K,o N,aD e,o M,o G,o E]] a λa=>∃b,ah 62 a (aX aQ 2) (ax b)/\dv 82 [ax b] a λl a=>dQ 79 [ax (some (ak a0)),aj ⟨#[105,110,100,101,120]⟩,aj l] a λa=>dQ 80 [ax (some (ak a0)),aj ⟨#[119,97,108]⟩] a λa=>∃c,ah 33 a (bN a0 1) (o c)/\aU (c !=0) False (∃b c d I x e C s r,ah 68 a (ak i) (aJ [J b c d,o I,o x,aD e,o C,o s,o r])/\∃g,bp 68 a (aX aQ 3) (aJ [J b c d,o I,o x,aD e,o C,o s,o r]) g/\∃a,bp 52 g (aX aQ 10) (b2) a/\∃q,bp 69 a (aX aQ 11) (b2) q/\∃e,ah 4 q (bN i 3) (aD e)/\aU (!e) (∃a,bp 70 q (aX aQ 14) (ax none) a/\R (o 0) a) False))))\/∃dz aQ,f=a1 [aD true,dz,aQ]/\bO (Instr.entry (ax b)) X λf k=>∃dz aQ,f=a1 [dz,aQ]/\∃L,dz=o L/\∀e m,bm k e [o L] 3 m->bO (dw 117 (J b1 c d) (J (some (ak e)) 1 1)) m λf g=>∃b p D,f=J b p D/\j [J b p D] g/\ad [J b p D] g<ad [J b1 c d] a))):aK 36 [ax (some aQ)] H R:=bJ [(58,.cut [(40,.one (.int .i64))]),(3737,.et [0,0,2,6,0,0,32,110,254,0,512,2046,4095] (.quiet 0 (.quiet 1 (.quiet 2 (.quiet 4 (.quiet 5 (.quiet 6 (.quiet 9 (.pick (.alt 3 (.pick (.alt 7 (.quiet 8 (.pick (.alt 10 (.pick (.alt 11 (.pick (.alt 12 (.done) .stop)) .stop)) .stop))) (.alt 10 (.pick (.alt 7 (.quiet 8 (.pick (.alt 11 (.pick (.alt 12 (.done) .stop)) .stop))) .stop)) .stop))) (.alt 10 (.pick (.alt 3 (.pick (.alt 7 (.quiet 8 (.pick (.alt 11 (.pick (.alt 12 (.done) .stop)) .stop))) .stop)) .stop)) .stop))))))))))),(122,.cut [(63,.one (.int .i64))]),(506,.cut [(10,.one .slice)]),(16204,.ext),(4090,.cut [(12,.one .slice),(97,.one (.int .i64))]),(32762,.cut [(117,.one (.int .i64))]),(262099,.cut []),(8387175,.cut [(20,.one .slice)]),(67097402,.et [0,0,0,0,8,31,63] (eS [0,1,2,3,104,105,6] .done)),(33548702,.et [0,1,0,0,12,31,63,127] (eS [0,2,3,4,101,105,106,7] .done)),(67097407,.cut [(22,.one .str),(23,.one (.int .i64))]),(268389629,.dead true),(268389630,.et [0,1,3,7,0,16,63,127,255,255,511,2047] (eS [0,1,2,3,4,5,106,7,8,9,10,11] .done)),(536779263,.cut []),(2147117052,.cut [(170,.one .bool)]),(68707745695,.dead true),(2147117055,.cut []),(8588468221,.dead true),(34353872891,.dead false),(8191,.cut []),(32764,.et [0,0,2,6,14,30,63,127,255,255,0,1535,4095] (.quiet 0 (.quiet 1 (.quiet 2 (.quiet 3 (.quiet 4 (.quiet 5 (.pick (.alt 6 (.quiet 7 (.quiet 8 (.quiet 9 (.pick (.alt 10 (.pick (.alt 11 (.quiet 12 .done) .stop)) .stop))))) (.alt 10 (.pick (.alt 6 (.quiet 7 (.quiet 8 (.quiet 9 (.pick (.alt 11 (.quiet 12 .done) .stop))))) .stop)) .stop)))))))))),(65531,.dead true),(524285,.dead true),(2097149,.dead false)] func36 ntmps36 h
abbrev aan:Nat:=74
theorem aao(h:∀i a,bm H i [ax (some aQ)] 32 a->∀k p,bm a k [o aM,o b7,aj bu] 122 p->∀e a,bm p e [o ek,o lp] 25 a->∃b,ah 32 a (ak i) (ax b)/\fp b λb=>∃r,ah 59 a (aX b 1) (ax r)/\∃f,ah 9 a (bN k 2) (aj f)/\aK 21 [ax r,aj f] a λd a=>∃f s,d=a1 [aj f,aD s]/\∃c,ah 3 a (ak e) (o c)/\∃b,ah 32 a (ak i) (ax b)/\fp b λb=>∃m,ah 3 a (aX b 12) (o m)/\∃g,bp 3 a (ak e) (o (if m>c then m else c)) g/\∃c,ah 3 g (bN k 1) (o c)/\∃l n,ah 25 g (ak e) (aJ [o l,o n])/\aK 150 [] g λd a=>∃ad q,d=aJ [ad,q]/\ah 25 a (ak e) (aJ [o l,o n])/\ah 3 a (bN k 1) (o c)/\bU (0<=c/\c<(↑2:Int)) (∃d,oZ prog 274 [ad,q] (c.toNat *1) (aJ [d])/\dY prog d [aj f,J bj aN bE,aJ [o l,o n]] a λd a=>∃b c j,d=J b c j/\dy 149 [J b c j,.func (Fn.func 151) ⟨[]⟩ ⟨[ax (some (ak i))]⟩] a λb c j a=>R (J b c j) a)):aK 74 [ax (some aQ),aJ [o aM,o b7,aj bu],J bj aN bE,aJ [o ek,o lp]] H R:=bJ [(6,.et [0,1,3,7,0,16,63,127,255,255,511,2047] (eS [0,1,2,3,4,5,106,7,8,9,10,11] .done)),(14,.tail 6),(30,.et [0,0,2,7,15,0,0,0,255,0,1023,2047] (eS [1,2,5,6,7,9,100,3,4,108,110,11] .done))] func74 ntmps74 h
abbrev adu:Nat:=92
theorem adv(h:∃(k:bx),aY (b7<0) (R (a1 []) H) (aY (b7>1) (R (a1 []) H) (aY (ek<1) (R (a1 []) H) (k [] H)))/\∀(_:F) a,k [] a->∃j,ah 137 a aQ (.map j)/\∃g e,Rd prog (Instr.lookup 137 (.map j) (o aM) false) a (aJ [o g,o e])/\∀b f,bm a b [o 0,o 0] 297 f->∃a,bp 297 f (ak b) (aJ [o g,o e]) a/\bU (0<=b7/\b7<(↑2:Int)) (∃d,ah 3 a (aX (ak b) (b7.toNat *1)) (o d)/\bU (0<=b7/\b7<(↑2:Int)) (∃c,bp 3 a (aX (ak b) (b7.toNat *1)) (o (if 1073741824<wrap .i64 (d+if 1073741824<ek then 1073741824 else ek)then 1073741824 else wrap .i64 (d+if 1073741824<ek then 1073741824 else ek))) c/\∃ek i,ah 297 c (ak b) (aJ [o ek,o i])/\dQ 175 [ax (some aQ),o aM,aJ [o ek,o i]] c λa=>R (a1 []) a))):aK 92 [ax (some aQ),o aM,o b7,o ek] H R:=bJ [(1,.cut [])] func92 ntmps92 h
abbrev aaS:Nat:=76
theorem aaT(h:∃(e:bx),aU (aM==0) (eu 153 [J bj aN bE] H λd a=>e [aD !d] a) (e [aD false] H)/\∀(_:F) d a,e [aD d] a->aU d (R (a1 [aj eh,o 30]) a) (aU (aM==0) (dy 155 [J bj aN bE] a λi b g a=>aK 154 [J i b g] a λf a=>∃c b,f=a1 [aj c,o b]/\R (a1 [aj c,o b]) a) (aU (aM==1) (aK 156 [J bj aN bE] a λf a=>∃c b,f=a1 [aj c,o b]/\R (a1 [aj c,o b]) a) (R (a1 [aj eh,o 1]) a)))):aK 76 [o aM,J bj aN bE] H R:=bJ [(12,.cut [(6,.one .bool)])] func76 ntmps76 h
abbrev Qt:Nat:=77
theorem Qu(h:∀c a,bm H c [J bj aN bE,o aM,o b7,aD k3,o ek,o lp,o q9] 68 a->∀f S,bm a f [o CM,o ZU,o ZV,o ZW] 190 S->∀v a,bm S v [b2,o 0,o 0,aD false,o 0,o 0,o 0] 68 a->∃d b e,ah 66 a (ak c) (J d b e)/\dy 157 [J d b e] a λd b e a=>∃x,bp 66 a (ak c) (J d b e) x/\∃d b e I D Q bC T G,ah 68 x (ak c) (aJ [J d b e,o I,o D,aD Q,o bC,o T,o G])/\∃P,ah 3 x (bN f 1) (o P)/\aK 45 [aJ [J d b e,o I,o D,aD Q,o bC,o T,o G],o P] x λB a=>∃b K t W,B=a1 [aJ [o b,o K,aj t],aD W]/\∀E V,bm a E [o 0,o 0,aj eh] 122 V->∃a,bp 122 V (ak E) (aJ [o b,o K,aj t]) a/\∃(p:bx),(∃b,ah 3 a (ak f) (o b)/\∃(ad:bx),aU (b==5) False (aU (b==0) (ad [] a) (aU (b==1) False (aU (b==2) (∃b,ah 3 a (bN f 3) (o b)/\∃j,ah 3 a (bN c 2) (o j)/\aY (b>j) (∃b,ah 3 a (bN f 3) (o b)/\∃i,ah 3 a (bN f 3) (o i)/\∃g,bp 3 a (bN c 2) (o i) g/\p [aD (decide (b<=1099511627776))] g) (∃b,ah 3 a (bN f 3) (o b)/\∃g,bp 3 a (bN c 2) (o b) g/\p [aD false] g)) (aU (b==3) False (aU (b==4) False (aU (b==6) False (p [aD false] a)))))))/\∀(_:F) a,ad [] a->∃(N:bx),(∃b,ah 3 a (bN f 1) (o b)/\eu 103 [o b,o 17179869183] a λq a=>aU q (∃b,ah 3 a (bN f 2) (o b)/\eu 103 [o b,o 1] a λn a=>aU n (∃b,ah 3 a (bN c 1) (o b)/\aU (!decide (b<1099511627776)) False (N [aD (decide (b<1099511627776))] a)) False) False)/\∀(_:F) q a,N [aD q] a->∃d b e,ah 66 a (ak c) (J d b e)/\∃j,ah 3 a (bN f 1) (o j)/\aK 158 [J d b e,o j] a λB a=>∃b n,B=a1 [o b,aD n]/\aU (!n) (∃d i e,ah 66 a (ak c) (J d i e)/\∃Y k X,ah 66 a (ak c) (J Y k X)/\∀M g,bm a M [o 0,o 0,aj eh] 122 g->dy 159 [J d i e,o (if(k:Int)<b then(k:Int)else b),J (some (ak M)) 1 1] g λd m e a=>∃s,bp 66 a (ak c) (J d m e) s/\∃d l e,ah 66 s (ak c) (J d l e)/\∃u,ah 3 s (bN f 1) (o u)/\∃r,ah 3 s (bN f 2) (o r)/\∃w,ah 3 s (bN c 1) (o w)/\dv 50 [o w] s λt a=>ah 3 a (bN f 2) (o r)/\ah 3 a (bN f 1) (o u)/\ah 66 a (ak c) (J d l e)/\bH d b l λC=>(∃A,bp 122 a (aX C (b.toNat *3)) (aJ [o u,o r,aj t]) A/\∃b,ah 3 A (bN c 1) (o b)/\∃a,bp 3 A (bN c 1) (o (wrap .i64 (b+1))) a/\p [aD q] a)) (∃d i e,ah 66 a (ak c) (J d i e)/\∃k,ah 3 a (bN f 1) (o k)/\∃m,ah 3 a (bN f 2) (o m)/\∃l,ah 3 a (bN c 1) (o l)/\dv 50 [o l] a λt a=>ah 3 a (bN f 2) (o m)/\ah 3 a (bN f 1) (o k)/\ah 66 a (ak c) (J d i e)/\bH d b i λC=>(∃g,bp 122 a (aX C (b.toNat *3)) (aJ [o k,o m,aj t]) g/\∃b,ah 3 g (bN c 1) (o b)/\∃a,bp 3 g (bN c 1) (o (wrap .i64 (b+1))) a/\p [aD q] a)))/\∀(_:F) q a,p [aD q] a->aU (!q) (∃g,bp 68 a (ak v) (aJ [b2,o 0,o 0,aD false,o 0,o 0,o 0]) g/\∃d b e j i c k m l,ah 68 g (ak v) (aJ [J d b e,o j,o i,aD c,o k,o m,o l])/\R (a1 [aJ [J d b e,o j,o i,aD c,o k,o m,o l],o 170]) g) (∃(p:bx),(∃(ad:bx),(∃n,ah 4 a (bN c 3) (aD n)/\aU n (∃b,ah 3 a (bN c 4) (o b)/\∃j,ah 3 a (bN f 1) (o j)/\aU (b==j) (∃b,ah 3 a (ak f) (o b)/\aU (b==0) (ad [aD true] a) (∃b,ah 3 a (ak f) (o b)/\aU (b==1) (ad [aD true] a) (∃b,ah 3 a (ak f) (o b)/\ad [aD (b==5)] a))) (ad [aD false] a)) (ad [aD false] a))/\∀(_:F) c a,ad [aD c] a->aU c False (p [] a))/\∀(_:F) a,p [] a->∃d b e j i n k m l,ah 68 a (ak c) (aJ [J d b e,o j,o i,aD n,o k,o m,o l])/\∃g,bp 68 a (ak v) (aJ [J d b e,o j,o i,aD n,o k,o m,o l]) g/\∃d b e u r c w O L,ah 68 g (ak v) (aJ [J d b e,o u,o r,aD c,o w,o O,o L])/\R (a1 [aJ [J d b e,o u,o r,aD c,o w,o O,o L],o 0]) g)):aK 77 [aJ [J bj aN bE,o aM,o b7,aD k3,o ek,o lp,o q9],aJ [o CM,o ZU,o ZV,o ZW]] H R:=bJ [(31,.cut [(8,.one .bool)]),(250,.dead true),(1000,.dead true),(4000,.dead true),(64000,.dead true),(256000,.cut []),(1024000,.dead true),(32768001,.dead true),(131072013,.dead true),(524288061,.dead true),(1048576125,.dead true),(1048576127,.dead true),(1024002,.cut [(8,.one .bool)]),(8192019,.dead true),(16384046,.et [0,1,0,0,8,0,32,0,128,384,1016,2047,4095] (eS [0,1,2,3,4,5,6,7,8,109,10,11,112] .done)),(127,.cut []),(254,.cut [(184,.one .bool)]),(509,.dead true)] func77 ntmps77 h
abbrev adk:Nat:=149
theorem adl(h:cG 223 [J bj aN bE,c8] H λa b=>aU (a==(-1:Int)) (R (J bj aN bE) b) (∃(d:bx) (f:cr),d [o a,o (wrap .i64 (a+1))] b/\∀(_:F) a c b,d [o a,o c] b->aY (c<(aN:Int)) (bH bj c aN λj=>(∃n w t,ah 103 b (aX j (c.toNat *3)) (aJ [o n,o w,o t])/\∀e s,bm b e [o 0,o 0,o 0] 103 s->∃i,bp 103 s (ak e) (aJ [o n,o w,o t]) i/\∃q r p,ah 103 i (ak e) (aJ [o q,o r,o p])/\dY prog c8 [aJ [o q,o r,o p]] i λl g=>∃v,l=aD v/\aU (!v) (∃m ad u,ah 103 g (ak e) (aJ [o m,o ad,o u])/\bH bj a aN λj=>(∃k,bp 103 g (aX j (a.toNat *3)) (aJ [o m,o ad,o u]) k/\d [o (wrap .i64 (a+1)),o (wrap .i64 (c+1))] k/\f [o (wrap .i64 (a+1)),o (wrap .i64 (c+1))] k<f [o a,o c] b)) (d [o a,o (wrap .i64 (c+1))] g/\f [o a,o (wrap .i64 (c+1))] g<f [o a,o c] b))) (bU (0<=a/\a<=(aN:Int)/\(aN:Int)<=(bE:Int)) (bO (Builtin.clear_ ⟨[82]⟩ 0 ⟨[J (df bE (a.toNat) 3 bj) (azw (aN:Int)-a.toNat) (bE-a.toNat)]⟩) b λl b=>l=a1 []/\bU ((0:Int)<=(0:Int)/\0<=a/\a<=(bE:Int)) (R (J bj (a.toNat-0) (bE-0)) b))))):aK 149 [J bj aN bE,c8] H R:=bJ [(122,.cut [(5,.one (.int .i64)),(6,.one (.int .i64))])] func149 ntmps149 h
theorem aaq(h:∀a e,bm H a [.nilFunc,.nilFunc] 275 e->∃b,bp 275 e (ak a) (aJ [.func (Fn.func 224) ⟨[]⟩ ⟨[]⟩,.func (Fn.func 227) ⟨[]⟩ ⟨[]⟩]) b/\∃c d,ah 275 b (ak a) (aJ [c,d])/\R (aJ [c,d]) b):aK 150 [] H R:=bJ [] func150 ntmps150 h
theorem adm(h:∀b a,bm H b [o aM,o b7,o ek] 103 a->∃c,ah 32 a aQ (ax c)/\fp c λc=>∃i g e,ah 69 a (aX c 11) (J i g e)/\∃f,ah 3 a (bN b 1) (o f)/\∃d,ah 3 a (ak b) (o d)/\eu 152 [J i g e,o f,o d] a λb a=>R (aD b) a):aK 151 [aJ [o aM,o b7,o ek],ax (some aQ)] H R:=bJ [(6,.tail 8)] func151 ntmps151 h
abbrev adb:Nat:=152
theorem ade(h:∀a b,bm H a [o aM] 3 b->∀d c,bm b d [o b7] 3 c->eu 230 [J bj aN bE,.func (Fn.func 231) ⟨[]⟩ ⟨[ax (some (ak a)),ax (some (ak d))]⟩] c λa b=>R (aD a) b):aK 152 [J bj aN bE,o aM,o b7] H R:=bJ [] func152 ntmps152 h
abbrev ads:Nat:=175
theorem adt(h:∀d a,bm H d [o b7,o ek] 297 a->∃c f,ah 297 a (ak d) (aJ [o c,o f])/\aU (c==0&&(f==0&&true)) (∃b,ah 137 a aQ (.map b)/\bO (Builtin.delete_ ⟨[137,3]⟩ 0 ⟨[.map b,o aM]⟩) a λg a=>g=a1 []/\R (a1 []) a) (∃b,ah 137 a aQ (.map b)/\∃c e,ah 297 a (ak d) (aJ [o c,o e])/\jc prog (Instr.mapUpdate 137 (.map b) (o aM) (aJ [o c,o e])) a λa=>R (a1 []) a)):aK 175 [ax (some aQ),o aM,aJ [o b7,o ek]] H R:=bJ [(7,.tail 6)] func175 ntmps175 h
abbrev aaP:Nat:=153
theorem aaQ(h:∃(f:bx) (d:cr),f [o 0] H/\∀(_:F) a c,f [o a] c->aY (a<(aN:Int)) (bH bj a aN λj=>(∃s l v,ah 103 c (aX j (a.toNat *3)) (aJ [o s,o l,o v])/\∀g r,bm c g [o 0,o 0,o 0] 103 r->∃e,bp 103 r (ak g) (aJ [o s,o l,o v]) e/\aY (a>0) (bH bj (wrap .i64 (a-1)) aN λj=>(∃t p q,ah 103 e (aX j (azw (wrap .i64 (a-1))*3)) (aJ [o t,o p,o q])/\∀i x,bm e i [o 0,o 0,o 0] 103 x->∃b,bp 103 x (ak i) (aJ [o t,o p,o q]) b/\∃w,ah 3 b (ak g) (o w)/\∃k,ah 3 b (ak i) (o k)/\aY (w<k) (R (aD false) b) (∃ad,ah 3 b (ak g) (o ad)/\∃u,ah 3 b (ak i) (o u)/\aU (ad==u) (∃m,ah 3 b (bN g 1) (o m)/\∃n,ah 3 b (bN i 1) (o n)/\aY (m<=n) (R (aD false) b) (f [o (wrap .i64 (a+1))] b/\d [o (wrap .i64 (a+1))] b<d [o a] c)) (f [o (wrap .i64 (a+1))] b/\d [o (wrap .i64 (a+1))] b<d [o a] c)))) (f [o (wrap .i64 (a+1))] e/\d [o (wrap .i64 (a+1))] e<d [o a] c))) (R (aD true) c)):aK 153 [J bj aN bE] H R:=bJ [(26,.cut [(8,.one (.int .i64))])] func153 ntmps153 h
abbrev apa:Nat:=154
theorem apb(h:∀ad a,bm H ad [ax none,b2] 170 a->∀q x,bm a q [ax none,b2] 170 x->dv 140 [b3 (wrap .u64 (aN:Int))] x λe a=>aK 66 [ax (some (ak ad)),aj e] a λi a=>∃d I,i=a1 [o d,I]/\∃(p:bx) (D:cr),p [o (-1:Int),o 0] a/\∀(_:F) d g a,p [o d,o g] a->aY (g<(aN:Int)) (bH bj g aN λP=>(∃t j B f,ah 57 a (aX P (g.toNat *2)) (aJ [o t,J j B f])/\∀c s,bm a c [o 0,b2] 57 s->∃r,bp 57 s (ak c) (aJ [o t,J j B f]) r/\∃j A f,ah 55 r (bN c 1) (J j A f)/\aK 232 [J j A f] r λi b=>∃e u,i=a1 [aj e,o u]/\∃(C:bx),aU (u !=0) (R (a1 [aj eh,o 30]) b) (∃j k f,ah 55 b (bN c 1) (J j k f)/\aU ((k:Int)==0) (R (a1 [aj eh,o 30]) b) (∃l,ah 3 b (ak c) (o l)/\aY (l<=d) (R (a1 [aj eh,o 30]) b) (∃d,ah 3 b (ak c) (o d)/\aY (d>=200) (R (a1 [aj eh,o 30]) b) (C [] b))))/\∀(_:F) n,C [] n->∃k,ah 3 n (ak c) (o k)/\∃l,ah 3 n (ak c) (o l)/\dv 140 [b3 (wrap .u64 l)] n λm G=>dv 140 [b3 (wrap .u64 (↑(e.size):Int))] G λv K=>bU (m.size+v.size<=9223372036854775807) (aK 66 [ax (some (ak ad)),aj (m++v)] K λi O=>∃E M,i=a1 [o E,M]/\aK 66 [ax (some (ak q)),aj e] O λi w=>∃N L,i=a1 [o N,L]/\p [o k,o (wrap .i64 (g+1))] w/\D [o k,o (wrap .i64 (g+1))] w<D [o d,o g] a))) (dv 68 [ax (some (ak ad))] a λe a=>dv 68 [ax (some (ak q))] a λm a=>bU (e.size+m.size<=9223372036854775807) (R (a1 [aj (e++m),o 0]) a))):aK 154 [J bj aN bE] H R:=bJ [(250,.cut [(6,.one (.int .i64)),(18,.one (.int .i64))]),(32051,.cut [])] func154 ntmps154 h
theorem aaU(h:dy 57 [b2,J bj aN bE] H λb d a c=>R (J b d a) c):aK 155 [J bj aN bE] H R:=bJ [] func155 ntmps155 h
abbrev acz:Nat:=159
theorem acA(h:bU (0<=aM/\aM<=(aN:Int)/\(aN:Int)<=(bE:Int)) (aU ((c':Int)==0) (R (J bj aN bE) H) (aU (aM==(aN:Int)) (bO (dw 66 (J bj aN bE) (J e5 c' i')) H λc a=>∃e b d,c=J e b d/\R (J e b d) a) (aY (wrap .i64 ((aN:Int)+(c':Int))>(bE:Int)) (bU ((0:Int)<=(0:Int)/\0<=aM/\aM<=(bE:Int)) (bO (Builtin.append_ ⟨[66,3]⟩ 66 ⟨[J bj (aM.toNat-0) (bE-0),o (wrap .i64 (wrap .i64 ((aN:Int)+(c':Int))-aM))]⟩) H λc a=>∃e b d,c=J e b d/\bU (0<=aM/\aM<=(b:Int)/\(b:Int)<=(d:Int)) (bO (Builtin.copy_ ⟨[66,66]⟩ 3 ⟨[J (df d (aM.toNat) 3 e) (azw (b:Int)-aM.toNat) (d-aM.toNat),J e5 c' i']⟩) a λc a=>∃i,c=o i/\bU (0<=wrap .i64 (aM+(c':Int))/\wrap .i64 (aM+(c':Int))<=(b:Int)/\(b:Int)<=(d:Int)) (bU (0<=aM/\aM<=(aN:Int)/\(aN:Int)<=(bE:Int)) (bO (Builtin.copy_ ⟨[66,66]⟩ 3 ⟨[J (df d (azw (wrap .i64 (aM+(c':Int)))) 3 e) (azw (b:Int)-azw (wrap .i64 (aM+(c':Int)))) (d-azw (wrap .i64 (aM+(c':Int)))),J (df bE (aM.toNat) 3 bj) (azw (aN:Int)-aM.toNat) (bE-aM.toNat)]⟩) a λc a=>∃g,c=o g/\R (J e b d) a))))) (bU ((0:Int)<=(0:Int)/\0<=wrap .i64 ((aN:Int)+(c':Int))/\wrap .i64 ((aN:Int)+(c':Int))<=(bE:Int)) (bU (0<=wrap .i64 (aM+(c':Int))/\wrap .i64 (aM+(c':Int))<=(↑(azw (wrap .i64 ((aN:Int)+(c':Int)))-0):Int)/\(↑(azw (wrap .i64 ((aN:Int)+(c':Int)))-0):Int)<=(↑(bE-0):Int)) (pX prog 238 ⟨[J e5 c' i',J (df (bE-0) (azw (wrap .i64 (aM+(c':Int)))) 3 bj) (azw (↑(azw (wrap .i64 ((aN:Int)+(c':Int)))-0):Int)-azw (wrap .i64 (aM+(c':Int)))) (bE-0-azw (wrap .i64 (aM+(c':Int))))]⟩ H λc a=>∃f,c=aD f/\aU (!f) (bU (0<=wrap .i64 (aM+(c':Int))/\wrap .i64 (aM+(c':Int))<=(↑(azw (wrap .i64 ((aN:Int)+(c':Int)))-0):Int)/\(↑(azw (wrap .i64 ((aN:Int)+(c':Int)))-0):Int)<=(↑(bE-0):Int)) (bU (0<=aM/\aM<=(↑(azw (wrap .i64 ((aN:Int)+(c':Int)))-0):Int)/\(↑(azw (wrap .i64 ((aN:Int)+(c':Int)))-0):Int)<=(↑(bE-0):Int)) (bO (Builtin.copy_ ⟨[66,66]⟩ 3 ⟨[J (df (bE-0) (azw (wrap .i64 (aM+(c':Int)))) 3 bj) (azw (↑(azw (wrap .i64 ((aN:Int)+(c':Int)))-0):Int)-azw (wrap .i64 (aM+(c':Int)))) (bE-0-azw (wrap .i64 (aM+(c':Int)))),J (df (bE-0) (aM.toNat) 3 bj) (azw (↑(azw (wrap .i64 ((aN:Int)+(c':Int)))-0):Int)-aM.toNat) (bE-0-aM.toNat)]⟩) a λc a=>∃b,c=o b/\bU (0<=aM/\aM<=(↑(azw (wrap .i64 ((aN:Int)+(c':Int)))-0):Int)/\(↑(azw (wrap .i64 ((aN:Int)+(c':Int)))-0):Int)<=(↑(bE-0):Int)) (bO (Builtin.copy_ ⟨[66,66]⟩ 3 ⟨[J (df (bE-0) (aM.toNat) 3 bj) (azw (↑(azw (wrap .i64 ((aN:Int)+(c':Int)))-0):Int)-aM.toNat) (bE-0-aM.toNat),J e5 c' i']⟩) a λc a=>∃b,c=o b/\R (J bj (azw (wrap .i64 ((aN:Int)+(c':Int)))-0) (bE-0)) a)))) (bU (0<=(aN:Int)/\(aN:Int)<=(↑(azw (wrap .i64 ((aN:Int)+(c':Int)))-0):Int)/\(↑(azw (wrap .i64 ((aN:Int)+(c':Int)))-0):Int)<=(↑(bE-0):Int)) (bO (Builtin.copy_ ⟨[66,66]⟩ 3 ⟨[J (df (bE-0) (azw (aN:Int)) 3 bj) (azw (↑(azw (wrap .i64 ((aN:Int)+(c':Int)))-0):Int)-azw (aN:Int)) (bE-0-azw (aN:Int)),J e5 c' i']⟩) a λc a=>∃b,c=o b/\bU (0<=aM/\aM<=(↑(azw (wrap .i64 ((aN:Int)+(c':Int)))-0):Int)/\(↑(azw (wrap .i64 ((aN:Int)+(c':Int)))-0):Int)<=(↑(bE-0):Int)) (dQ 239 [J (df (bE-0) (aM.toNat) 3 bj) (azw (↑(azw (wrap .i64 ((aN:Int)+(c':Int)))-0):Int)-aM.toNat) (bE-0-aM.toNat),o (c':Int)] a λa=>R (J bj (azw (wrap .i64 ((aN:Int)+(c':Int)))-0) (bE-0)) a)))))))))):aK 159 [J bj aN bE,o aM,J e5 c' i'] H R:=bJ [(8150,.tail 8),(8180,.tail 8)] func159 ntmps159 h
abbrev adi:Nat:=223
theorem adj(h:∃(d:bx) (j:cr),d [o 0] H/\∀(_:F) a b,d [o a] b->aY (a<(aN:Int)) (bH bj a aN λl=>(∃g f i,ah 103 b (aX l (a.toNat *3)) (aJ [o g,o f,o i])/\dY prog c8 [aJ [o g,o f,o i]] b λk c=>∃e,k=aD e/\aU e (R (o a) c) (d [o (wrap .i64 (a+1))] c/\j [o (wrap .i64 (a+1))] c<j [o a] b))) (R (o (-1:Int)) b)):aK 223 [J bj aN bE,c8] H R:=bJ [(26,.cut [(8,.one (.int .i64))])] func223 ntmps223 h
theorem aah(h:∀g c,bm H g [o aM,o b7] 25 c->aK 225 [aj bu] c λf c=>∃b a d x,f=a1 [J b a d,o x]/\dy 173 [J b a d,J bj aN bE] c λb a d c=>∃(k:bx) (s:cr),k [b2,o 0] c/\∀(_:F) j i d e c,k [J j i d,o e] c->aY (e<(a:Int)) (bH b e a λB=>(∃a,ah 3 c (aX B (e.toNat *1)) (o a)/\aK 226 [aj bu,o a] c λf q=>∃b r n w,f=a1 [J b r n,o w]/\∃p ad,ah 25 q (ak g) (aJ [o p,o ad])/\dy 94 [J b r n,aJ [o p,o ad]] q λb v A u=>∀g t,bm u g [o a,J b v A] 57 t->bO (dw 52 (J j i d) (J (some (ak g)) 1 1)) t λf m=>∃b a l,f=J b a l/\k [J b a l,o (wrap .i64 (e+1))] m/\s [J b a l,o (wrap .i64 (e+1))] m<s [J j i d,o e] c)) (dy 71 [J j i d] c λb a d c=>R (J b a d) c)):aK 224 [aj bu,J bj aN bE,aJ [o aM,o b7]] H R:=bJ [(122,.cut [(7,.one .slice),(23,.one (.int .i64))])] func224 ntmps224 h
abbrev adx:Nat:=225
theorem ady(h:aK 282 [aj bu] H λm c=>∃e a f b,m=a1 [J e a f,aD b]/\aU (!b) (R (a1 [b2,o 11]) c) (∃(k:bx) (r:cr),k [b2,o 0] c/\∀(_:F) i g f d c,k [J i g f,o d] c->aY (d<(a:Int)) (bH e d a λt=>(∃a q p,ah 383 c (aX t (d.toNat *3)) (aJ [o a,o q,o p])/\∀b ad,bm c b [o 0,o 0,o 0] 383 ad->∃j,bp 383 ad (ak b) (aJ [o a,o q,o p]) j/\∃a,ah 3 j (ak b) (o a)/\∀b s,bm j b [o a] 3 s->bO (dw 117 (J i g f) (J (some (ak b)) 1 1)) s λm n=>∃e a l,m=J e a l/\k [J e a l,o (wrap .i64 (d+1))] n/\r [J e a l,o (wrap .i64 (d+1))] n<r [J i g f,o d] c)) (R (a1 [J i g f,o 0]) c))):aK 225 [aj bu] H R:=bJ [(250,.cut [(6,.one .slice),(18,.one (.int .i64))])] func225 ntmps225 h
abbrev adz:Nat:=226
theorem adA(h:∀p a,bm H p [o aM] 3 a->∀m s,bm a m [b2] 55 s->∀l a,bm s l [o 0] 33 a->aK 282 [aj bu] a λn a=>∃d c e q,n=a1 [J d c e,aD q]/\aU (!q) (∃f,bp 55 a (ak m) (b2) f/\∃a,bp 33 f (ak l) (o 11) a/\∃d c e,ah 55 a (ak m) (J d c e)/\∃g,ah 33 a (ak l) (o g)/\R (a1 [J d c e,o g]) a) (kY 283 [aj bu,J d c e] a λt a=>∀(i b:Nat) (bc:Loop) (r:U),tS a i b bc r->(∀(c:Int) (bu:ByteArray) (k:U) (fY:Value->U->Prop),dO k b bc LoopState.ready none->(dO k b bc LoopState.ready none/\∃g,ah 3 (cC k b bc LoopState.busy none) (ak p) (o g)/\aU (c==g) (fo prog 284 ⟨[aj bu]⟩ (cC k b bc LoopState.busy none) λn a=>∃d c e ad,n=a1 [J d c e,o ad]/\∃f,bp 55 a (ak m) (J d c e) f/\∃a,bp 33 f (ak l) (o ad) a/\dO a b bc LoopState.busy none/\fY (aD false) (cC a b bc LoopState.done (some Code.ret))) (dO (cC k b bc LoopState.busy none) b bc LoopState.busy none/\fY (aD true) (cC (cC k b bc LoopState.busy none) b bc LoopState.ready none)))->oR prog b [o c,aj bu] k λd u=>fY d u)->dY prog t [.func (Fn.yield b) ⟨[]⟩ ⟨[]⟩] r λv j=>(dO j b bc LoopState.ready none/\∃a,bp 55 (cC j b bc LoopState.exhausted none) (ak m) (b2) a/\∃f,bp 33 a (ak l) (o 3) f/\hT f i/\∃d c e,ah 55 (ir f i) (ak m) (J d c e)/\∃g,ah 33 (ir f i) (ak l) (o g)/\R (a1 [J d c e,o g]) (ir f i))\/dO j b bc LoopState.done (some Code.ret)/\hT (cC j b bc LoopState.exhausted (some Code.ret)) i/\∃d c e,ah 55 (ir (cC j b bc LoopState.exhausted (some Code.ret)) i) (ak m) (J d c e)/\∃g,ah 33 (ir (cC j b bc LoopState.exhausted (some Code.ret)) i) (ak l) (o g)/\R (a1 [J d c e,o g]) (ir (cC j b bc LoopState.exhausted (some Code.ret)) i))):aK 226 [aj bu,o aM] H R:=F4 (ri [(122,.cut [(20,.one (.int .i64)),(21,.one .str)])]) pI func226 rfl ntmps226 rfl rfl (Eq.mpr (by kernel_rfl) h)
theorem adf(h:cG 201 [J bj aN bE,c8] H λb a=>R (aD (decide (b>=0))) a):aK 230 [J bj aN bE,c8] H R:=bJ [] func230 ntmps230 h
abbrev aoc:Nat:=232
theorem aod(h:aY ((aN:Int)>5000) (R (a1 [aj eh,o 1]) H) (∃(I:bx) (M:cr),I [o (-1:Int),o 0] H/\∀(O:F) b N a,I [o b,o N] a->aY (N<(aN:Int)) (bH bj N aN λD=>(∃A q,ah 111 a (aX D (N.toNat *2)) (aJ [o A,o q])/\∀g L,bm a g [o 0,o 0] 111 L->∃c,bp 111 L (ak g) (aJ [o A,o q]) c/\∃n,ah 3 c (ak g) (o n)/\aY (n<=b) (R (a1 [aj eh,o 30]) c) (∃j,ah 3 c (ak g) (o j)/\aY (j>=1099511627776) (R (a1 [aj eh,o 30]) c) (∃p,ah 3 c (ak g) (o p)/\I [o p,o (wrap .i64 (N+1))] c/\M [o p,o (wrap .i64 (N+1))] c<M [o b,o N] a)))) (dv 140 [b3 (wrap .u64 (aN:Int))] a λu a=>aY ((aN:Int)>0) (bH bj (0) aN λD=>(∃b,ah 3 a D (o b)/\bH bj (0) aN λD=>(∃A,ah 3 a (aX D 1) (o A)/\dv 140 [b3 (wrap .u64 b)] a λr a=>ah 3 a (aX D 1) (o A)/\dv 189 [o A] a λad a=>bU (r.size+ad.size<=9223372036854775807) (bU (u.size+azC (r++ad)<=9223372036854775807) (aY ((aN:Int)<2) (R (a1 [aj (u++(r++ad)),o 0]) a) (∀g L,bm a g [b2] 390 L->∀m a,bm L m [b2] 390 a->kY 294 [J bj aN bE] a λS a=>∀(v f:Nat) (bc:Loop) (P:U),tS a v f bc P->(∀(b q:Int) (C:U) (fY:Value->U->Prop),dO C f bc LoopState.ready none->(dO C f bc LoopState.ready none/\∃d n e,ah 390 (cC C f bc LoopState.busy none) (ak g) (J d n e)/\∃k j l,ah 390 (cC C f bc LoopState.busy none) (ak m) (J k j l)/\(∀E a,bm (cC C f bc LoopState.busy none) E [b3 b] 89 a->ah 390 a (ak m) (J k j l)/\ah 390 a (ak g) (J d n e)/\(bO (dw 390 (J d n e) (J (some (ak E)) 1 1)) a λi a=>∃d b e,i=J d b e/\ah 390 a (ak m) (J k j l)/\∀x c,bm a x [b3 q] 89 c->ah 390 c (ak m) (J k j l)/\bO (dw 390 (J k j l) (J (some (ak x)) 1 1)) c λi a=>∃s p w,i=J s p w/\∃t,bp 390 a (ak g) (J d b e) t/\∃a,bp 390 t (ak m) (J s p w) a/\dO a f bc LoopState.busy none/\fY (aD true) (cC a f bc LoopState.ready none))/\∀x c,bm a x [b3 q] 89 c->ah 390 c (ak m) (J k j l)/\ah 390 c (ak g) (J d n e)/\bO (dw 390 (J d n e) (J (some (ak E)) 1 1)) c λi a=>∃d b e,i=J d b e/\ah 390 a (ak m) (J k j l)/\bO (dw 390 (J k j l) (J (some (ak x)) 1 1)) a λi a=>∃s p w,i=J s p w/\∃t,bp 390 a (ak g) (J d b e) t/\∃a,bp 390 t (ak m) (J s p w) a/\dO a f bc LoopState.busy none/\fY (aD true) (cC a f bc LoopState.ready none))/\∀E a,bm (cC C f bc LoopState.busy none) E [b3 q] 89 a->ah 390 a (ak m) (J k j l)/\ah 390 a (ak g) (J d n e)/\∀x c,bm a x [b3 b] 89 c->ah 390 c (ak m) (J k j l)/\ah 390 c (ak g) (J d n e)/\bO (dw 390 (J d n e) (J (some (ak x)) 1 1)) c λi a=>∃d b e,i=J d b e/\ah 390 a (ak m) (J k j l)/\bO (dw 390 (J k j l) (J (some (ak E)) 1 1)) a λi a=>∃s p w,i=J s p w/\∃t,bp 390 a (ak g) (J d b e) t/\∃a,bp 390 t (ak m) (J s p w) a/\dO a f bc LoopState.busy none/\fY (aD true) (cC a f bc LoopState.ready none))->oR prog f [b3 b,b3 q] C λd k=>fY d k)->dY prog S [.func (Fn.yield f) ⟨[]⟩ ⟨[]⟩] P λbC B=>(dO B f bc LoopState.ready none/\∃d b e,ah 390 (cC B f bc LoopState.exhausted none) (ak g) (J d b e)/\∃k q l,ah 390 (cC B f bc LoopState.exhausted none) (ak m) (J k q l)/\fo prog 295 ⟨[J d b e]⟩ (cC B f bc LoopState.exhausted none) λi a=>∃b,i=o b/\ah 390 a (ak m) (J k q l)/\cG 295 [J k q l] a λn a=>qW 296 [] a λd a=>∃Q j e,ah 390 a (ak g) (J Q j e)/\∃(I:bx) (M:cr),I [o 0] a/\∀(O:F) p a,I [o p] a->aY (p<(j:Int)) (bH Q p j λD=>(∃T,ah 89 a (aX D (p.toNat *1)) (b3 T)/\cG 297 [ax d,b3 T,o b] a λb c=>∃s b e,ah 390 c (ak m) (J s b e)/\bH s p b λD=>(∃b,ah 89 c (aX D (p.toNat *1)) (b3 b)/\cG 297 [ax d,b3 b,o n] c λb t=>I [o (wrap .i64 (p+1))] t/\M [o (wrap .i64 (p+1))] t<M [o p] a))) ((∀g c,bm a g [.int .u8 (wrap .u8 b),.int .u8 (wrap .u8 n)] 5 c->(bO (convert 168 9 (J (some (ak g)) 2 2)) c λi a=>∃K,i=aj K/\bU (azC (u++(r++ad))+K.size<=9223372036854775807) (dv 298 [ax d] a λG a=>bU (azC (u++(r++ad)++K)+G.size<=9223372036854775807) (hT a v/\R (a1 [aj (u++(r++ad)++K++G),o 0]) (ir a v))))/\dv 298 [ax d] c λK a=>bO (convert 168 9 (J (some (ak g)) 2 2)) a λi a=>∃G,i=aj G/\bU (azC (u++(r++ad))+G.size<=9223372036854775807) (bU (azC (u++(r++ad)++G)+K.size<=9223372036854775807) (hT a v/\R (a1 [aj (u++(r++ad)++G++K),o 0]) (ir a v))))/\dv 298 [ax d] a λK a=>∀g c,bm a g [.int .u8 (wrap .u8 b),.int .u8 (wrap .u8 n)] 5 c->bO (convert 168 9 (J (some (ak g)) 2 2)) c λi a=>∃G,i=aj G/\bU (azC (u++(r++ad))+G.size<=9223372036854775807) (bU (azC (u++(r++ad)++G)+K.size<=9223372036854775807) (hT a v/\R (a1 [aj (u++(r++ad)++G++K),o 0]) (ir a v)))))\/dO B f bc LoopState.done (some Code.ret)/\hT (cC B f bc LoopState.exhausted (some Code.ret)) v/\R (a1 [O 2,O 3]) (ir (cC B f bc LoopState.exhausted (some Code.ret)) v))))))) (aY ((aN:Int)<2) (R (a1 [aj u,o 0]) a) (∀g L,bm a g [b2] 390 L->∀m a,bm L m [b2] 390 a->kY 294 [J bj aN bE] a λS a=>∀(v f:Nat) (bc:Loop) (P:U),tS a v f bc P->(∀(b A:Int) (C:U) (fY:Value->U->Prop),dO C f bc LoopState.ready none->(dO C f bc LoopState.ready none/\∃d q e,ah 390 (cC C f bc LoopState.busy none) (ak g) (J d q e)/\∃k n l,ah 390 (cC C f bc LoopState.busy none) (ak m) (J k n l)/\(∀E a,bm (cC C f bc LoopState.busy none) E [b3 b] 89 a->ah 390 a (ak m) (J k n l)/\ah 390 a (ak g) (J d q e)/\(bO (dw 390 (J d q e) (J (some (ak E)) 1 1)) a λi a=>∃d b e,i=J d b e/\ah 390 a (ak m) (J k n l)/\∀x c,bm a x [b3 A] 89 c->ah 390 c (ak m) (J k n l)/\bO (dw 390 (J k n l) (J (some (ak x)) 1 1)) c λi a=>∃s j w,i=J s j w/\∃t,bp 390 a (ak g) (J d b e) t/\∃a,bp 390 t (ak m) (J s j w) a/\dO a f bc LoopState.busy none/\fY (aD true) (cC a f bc LoopState.ready none))/\∀x c,bm a x [b3 A] 89 c->ah 390 c (ak m) (J k n l)/\ah 390 c (ak g) (J d q e)/\bO (dw 390 (J d q e) (J (some (ak E)) 1 1)) c λi a=>∃d b e,i=J d b e/\ah 390 a (ak m) (J k n l)/\bO (dw 390 (J k n l) (J (some (ak x)) 1 1)) a λi a=>∃s j w,i=J s j w/\∃t,bp 390 a (ak g) (J d b e) t/\∃a,bp 390 t (ak m) (J s j w) a/\dO a f bc LoopState.busy none/\fY (aD true) (cC a f bc LoopState.ready none))/\∀E a,bm (cC C f bc LoopState.busy none) E [b3 A] 89 a->ah 390 a (ak m) (J k n l)/\ah 390 a (ak g) (J d q e)/\∀x c,bm a x [b3 b] 89 c->ah 390 c (ak m) (J k n l)/\ah 390 c (ak g) (J d q e)/\bO (dw 390 (J d q e) (J (some (ak x)) 1 1)) c λi a=>∃d b e,i=J d b e/\ah 390 a (ak m) (J k n l)/\bO (dw 390 (J k n l) (J (some (ak E)) 1 1)) a λi a=>∃s j w,i=J s j w/\∃t,bp 390 a (ak g) (J d b e) t/\∃a,bp 390 t (ak m) (J s j w) a/\dO a f bc LoopState.busy none/\fY (aD true) (cC a f bc LoopState.ready none))->oR prog f [b3 b,b3 A] C λd k=>fY d k)->dY prog S [.func (Fn.yield f) ⟨[]⟩ ⟨[]⟩] P λbC B=>(dO B f bc LoopState.ready none/\∃d b e,ah 390 (cC B f bc LoopState.exhausted none) (ak g) (J d b e)/\∃k A l,ah 390 (cC B f bc LoopState.exhausted none) (ak m) (J k A l)/\fo prog 295 ⟨[J d b e]⟩ (cC B f bc LoopState.exhausted none) λi a=>∃b,i=o b/\ah 390 a (ak m) (J k A l)/\cG 295 [J k A l] a λq a=>qW 296 [] a λd a=>∃Q n e,ah 390 a (ak g) (J Q n e)/\∃(I:bx) (M:cr),I [o 0] a/\∀(O:F) j a,I [o j] a->aY (j<(n:Int)) (bH Q j n λD=>(∃p,ah 89 a (aX D (j.toNat *1)) (b3 p)/\cG 297 [ax d,b3 p,o b] a λb c=>∃s b e,ah 390 c (ak m) (J s b e)/\bH s j b λD=>(∃b,ah 89 c (aX D (j.toNat *1)) (b3 b)/\cG 297 [ax d,b3 b,o q] c λb t=>I [o (wrap .i64 (j+1))] t/\M [o (wrap .i64 (j+1))] t<M [o j] a))) ((∀g c,bm a g [.int .u8 (wrap .u8 b),.int .u8 (wrap .u8 q)] 5 c->(bO (convert 168 9 (J (some (ak g)) 2 2)) c λi a=>∃r,i=aj r/\bU (u.size+r.size<=9223372036854775807) (dv 298 [ax d] a λad a=>bU (azC (u++r)+ad.size<=9223372036854775807) (hT a v/\R (a1 [aj (u++r++ad),o 0]) (ir a v))))/\dv 298 [ax d] c λr a=>bO (convert 168 9 (J (some (ak g)) 2 2)) a λi a=>∃ad,i=aj ad/\bU (u.size+ad.size<=9223372036854775807) (bU (azC (u++ad)+r.size<=9223372036854775807) (hT a v/\R (a1 [aj (u++ad++r),o 0]) (ir a v))))/\dv 298 [ax d] a λr a=>∀g c,bm a g [.int .u8 (wrap .u8 b),.int .u8 (wrap .u8 q)] 5 c->bO (convert 168 9 (J (some (ak g)) 2 2)) c λi a=>∃ad,i=aj ad/\bU (u.size+ad.size<=9223372036854775807) (bU (azC (u++ad)+r.size<=9223372036854775807) (hT a v/\R (a1 [aj (u++ad++r),o 0]) (ir a v)))))\/dO B f bc LoopState.done (some Code.ret)/\hT (cC B f bc LoopState.exhausted (some Code.ret)) v/\R (a1 [O 2,O 3]) (ir (cC B f bc LoopState.exhausted (some Code.ret)) v)))))):aK 232 [J bj aN bE] H R:=F4 (ri [(122,.cut [(4,.one (.int .i64)),(22,.one (.int .i64))]),(63,.cut [(7,.one .str)]),(506,.et [0,0,2,6,14,30,62,0,128,384,896,2046,4094,8191,16383] (eS [0,1,2,3,4,5,7,8,9,10,106,111,12,13,14] .done)),(4090,.cut [(65,.one (.int .u64)),(66,.one (.int .u64))]),(16362,.et [0,0,2,7,0,0,32,127,255,511] (.quiet 0 (.quiet 1 (.quiet 4 (.quiet 5 (.pick (.alt 2 (.pick (.alt 3 (.pick (.alt 6 (.pick (.alt 7 (.pick (.alt 8 (.pick (.alt 9 (.done) .stop)) .stop)) .stop)) .stop)) (.alt 6 (.pick (.alt 3 (.pick (.alt 7 (.pick (.alt 8 (.pick (.alt 9 (.done) .stop)) .stop)) .stop)) .stop)) .stop))) (.alt 6 (.pick (.alt 2 (.pick (.alt 3 (.pick (.alt 7 (.pick (.alt 8 (.pick (.alt 9 (.done) .stop)) .stop)) .stop)) .stop)) .stop)) .stop)))))))),(2046,.et [0,1,0,7,15,31] (eS [0,2,101,103,4,5] .done)),(32762,.cut [(82,.one (.int .i64))]),(16382,.et [0,0,2,0,8,30,62,127,0,256,1023,2047,4095] (.quiet 0 (.quiet 1 (.quiet 2 (.quiet 3 (.quiet 4 (.quiet 8 (.pick (.alt 5 (.pick (.alt 6 (.quiet 7 (.pick (.alt 9 (.quiet 10 (.quiet 11 (.quiet 12 .done))) .stop))) (.alt 9 (.pick (.alt 6 (.quiet 7 (.quiet 10 (.quiet 11 (.quiet 12 .done)))) .stop)) .stop))) (.alt 9 (.pick (.alt 5 (.pick (.alt 6 (.quiet 7 (.quiet 10 (.quiet 11 (.quiet 12 .done)))) .stop)) .stop)) .stop))))))))))]) pI func232 rfl ntmps232 rfl rfl (Eq.mpr (by kernel_rfl) h)
abbrev ao7:Nat:=263
theorem ao8(h:aK 49 [aj bu,o aM] H λe b=>∃a d c,e=a1 [b3 a,o d,o c]/\cG 323 [b3 a] b λa b=>R (a1 [o a,o d,o c]) b):aK 263 [aj bu,o aM] H R:=bJ [] func263 ntmps263 h
abbrev apo:Nat:=282
theorem apq(h:aK 49 [aj bu,o 0] H λf b=>∃a G A,f=a1 [b3 a,o G,o A]/\∃(p:bx),aU (A !=0) (R (a1 [b2,aD false]) b) (aY (a>200) (R (a1 [b2,aD false]) b) (p [] b))/\∀(_:F) b,p [] b->∃(i:bx) (r:cr),i [o G,b2,o (-1:Int),o 0,b3 0] b/\∀(_:F) k e d s v j q b,i [o k,J e d s,o v,o j,b3 q] b->aY (q<a) (aK 49 [aj bu,o k] b λf n=>∃a l m,f=a1 [b3 a,o l,o m]/\aK 49 [aj bu,o l] n λf c=>∃ad t B,f=a1 [b3 ad,o t,o B]/\∃(p:bx),aU (m !=0) (R (a1 [b2,aD false]) c) (aU (B !=0) (R (a1 [b2,aD false]) c) (aY (a>=200) (R (a1 [b2,aD false]) c) (aY (wrap .i64 a<=v) (R (a1 [b2,aD false]) c) (aY (ad>wrap .u64 (↑(bu.size):Int)) (R (a1 [b2,aD false]) c) (p [] c)))))/\∀(_:F) I,p [] I->∀E D,bm I E [o (wrap .i64 a),o j,o (wrap .i64 (j+wrap .i64 ad))] 383 D->bO (dw 369 (J e d s) (J (some (ak E)) 1 1)) D λf C=>∃u w x,f=J u w x/\i [o t,J u w x,o (wrap .i64 a),o (wrap .i64 (j+wrap .i64 ad)),b3 (wrap .u64 (q+1))] C/\r [o t,J u w x,o (wrap .i64 a),o (wrap .i64 (j+wrap .i64 ad)),b3 (wrap .u64 (q+1))] C<r [o k,J e d s,o v,o j,b3 q] b) (∃(i:bx) (r:cr),i [o 0] b/\∀(_:F) a b,i [o a] b->aY (a<(d:Int)) (bH e a d λg=>(∃l,ah 3 b (aX (aX g (a.toNat *3)) 1) (o l)/\bH e a d λg=>(∃n,bp 3 b (aX (aX g (a.toNat *3)) 1) (o (wrap .i64 (l+k))) n/\bH e a d λg=>(∃m,ah 3 n (aX (aX g (a.toNat *3)) 2) (o m)/\bH e a d λg=>(∃c,bp 3 n (aX (aX g (a.toNat *3)) 2) (o (wrap .i64 (m+k))) c/\i [o (wrap .i64 (a+1))] c/\r [o (wrap .i64 (a+1))] c<r [o a] b))))) (R (a1 [J e d s,aD (j==wrap .i64 ((↑(bu.size):Int)-k))]) b))):aK 282 [aj bu] H R:=bJ [(7,.cut []),(506,.cut [(5,.one (.int .i64)),(7,.one .slice),(8,.one (.int .i64)),(9,.one (.int .i64)),(29,.one (.int .u64))]),(64819,.cut []),(1018,.cut [(89,.one (.int .i64))])] func282 ntmps282 h
theorem adB(h:∀a c,bm H a [aj bu] 9 c->∀d b,bm c d [J bj aN bE] 369 b->R (.func (Fn.func 331) ⟨[]⟩ ⟨[ax (some (ak d)),ax (some (ak a))]⟩) b):aK 283 [aj bu,J bj aN bE] H R:=bJ [] func283 ntmps283 h
abbrev apA:Nat:=284
theorem apB(h:aK 332 [aj bu] H λe b=>∃c a bu d,e=a1 [J c a bu,o d]/\aU (d !=0) (R (a1 [b2,o 11]) b) (aU ((a:Int)==0) (R (a1 [b2,o 11]) b) (R (a1 [J c a bu,o 0]) b))):aK 284 [aj bu] H R:=bJ [] func284 ntmps284 h
theorem aoj(h:∀a b,bm H a [J bj aN bE] 55 b->R (.func (Fn.func 335) ⟨[]⟩ ⟨[ax (some (ak a))]⟩) b):aK 294 [J bj aN bE] H R:=bJ [] func294 ntmps294 h
abbrev anF:Nat:=295
theorem anG(h:∀d a,bm H d [J bj aN bE] 390 a->∃j b k,ah 390 a (ak d) (J j b k)/\cG 336 [J j b k,o 0] a λb a=>∀c l,bm a c [o 0] 3 l->∀e a,bm l e [o 0] 3 a->∃g,bp 3 a (ak c) (o 0) g/\∃a,bp 3 g (ak e) (o b) a/\∃(f:bx) (m:cr),f [o 1] a/\∀(_:F) b a,f [o b] a->aY (b<=40) (dY prog (.func (Fn.func 337) ⟨[]⟩ ⟨[ax (some (ak d)),ax (some (ak e)),ax (some (ak c))]⟩) [o b] a λn i=>n=a1 []/\f [o (wrap .i64 (b+1))] i/\m [o (wrap .i64 (b+1))] i<m [o b] a) (∃b,ah 3 a (ak c) (o b)/\R (o b) a)):aK 295 [J bj aN bE] H R:=bJ [(122,.cut [(6,.one (.int .i64))])] func295 ntmps295 h
abbrev anu:Nat:=296
theorem anv(h:∀a b,bm H a [ax none,b2,b3 0,o 0] 437 b->R (ax (some (ak a))) b):aK 296 [] H R:=bJ [] func296 ntmps296 h
abbrev anr:Nat:=297
theorem ans(h:∃(b:bx),aY (b7<0) (R (o 1) H) (aY (b7>40) (R (o 1) H) (b [] H))/\∀(_:F) a,b [] a->bU (0<=wrap .u64 b7) (aY (azy aM (2^min (azw (wrap .u64 b7)) (azF .u64))>=24) (dQ 338 [ax (some aQ),b3 16777215,o 24] a λa=>dQ 338 [ax (some aQ),b3 aM,o 64] a λa=>R (o 0) a) (bU (0<=azy aM (2^min (azw (wrap .u64 b7)) 64)) (dQ 338 [ax (some aQ),b3 (wrap .u64 (wrap .u64 (wrap .u64 (1*2^min (azw (azy aM (2^min (azw (wrap .u64 b7)) 64))) 64)-1)*2^1)),o (wrap .i64 (wrap .i64 (azy aM (2^min (azw (wrap .u64 b7)) 64))+1))] a λa=>bU (0<=wrap .u64 b7) (dQ 338 [ax (some aQ),b3 (wrap .u64 (↑(azz (azx 64 aM&&&azx 64 (wrap .u64 (wrap .u64 (1*2^min (azw (wrap .u64 b7)) 64)-1)))):Int)),o b7] a λa=>R (o 0) a))))):aK 297 [ax (some aQ),b3 aM,o b7] H R:=bJ [(3,.cut [])] func297 ntmps297 h
abbrev anw:Nat:=298
theorem anx(h:∃d,ah 3 H (aX aQ 3) (o d)/\aU (d==0) (dv 68 [ax (some aQ)] H λb a=>R (aj b) a) (∃d,ah 89 H (aX aQ 2) (b3 d)/\∃f,ah 3 H (aX aQ 3) (o f)/\bU (0<=wrap .u64 (wrap .i64 (8-f))) ((dv 68 [ax (some aQ)] H λb a=>ah 3 a (aX aQ 3) (o f)/\ah 89 a (aX aQ 2) (b3 d)/\∀e i,bm a e [.int .u8 (wrap .u8 (wrap .u64 (d*2^min (azw (wrap .u64 (wrap .i64 (8-f)))) 64)))] 5 i->bO (convert 168 9 (J (some (ak e)) 1 1)) i λg a=>∃c,g=aj c/\bU (b.size+c.size<=9223372036854775807) (R (aj (b++c)) a))/\∀e a,bm H e [.int .u8 (wrap .u8 (wrap .u64 (d*2^min (azw (wrap .u64 (wrap .i64 (8-f)))) 64)))] 5 a->(dv 68 [ax (some aQ)] a λb a=>bO (convert 168 9 (J (some (ak e)) 1 1)) a λg a=>∃c,g=aj c/\bU (b.size+c.size<=9223372036854775807) (R (aj (b++c)) a))/\bO (convert 168 9 (J (some (ak e)) 1 1)) a λg a=>∃b,g=aj b/\dv 68 [ax (some aQ)] a λc a=>bU (c.size+b.size<=9223372036854775807) (R (aj (c++b)) a)))):aK 298 [ax (some aQ)] H R:=bJ [(14,.et [0,1,3,7,0,16,48,112,0,256,768,1792,3840,7936,16368,32752,65520,131056,262143,524287] (.quiet 0 (.quiet 1 (.quiet 2 (.quiet 4 (.quiet 5 (.quiet 6 (.quiet 7 (.quiet 8 (.quiet 9 (.quiet 10 (.quiet 11 (.quiet 12 (.quiet 13 (.quiet 14 (.quiet 15 (.pick (.alt 3 (.pick (.alt 16 (.pick (.alt 17 (.quiet 18 (.quiet 19 .done)) .stop)) .stop)) (.alt 16 (.pick (.alt 3 (.pick (.alt 17 (.quiet 18 (.quiet 19 .done)) .stop)) (.alt 17 (.pick (.alt 3 (.quiet 18 (.quiet 19 .done)) .stop)) .stop))) .stop)))))))))))))))))))] func298 ntmps298 h
abbrev ao5:Nat:=323
theorem ao6(h:R (o (wrap .i64 (↑(azz (azx 64 (wrap .i64 (azy aM (2^1)))^^^azx 64 (wrap .i64 (0-wrap .i64 (wrap .u64 (↑(azz (azx 64 aM&&&azx 64 1)):Int)))))):Int))) H):aK 323 [b3 aM] H R:=bJ [] func323 ntmps323 h
theorem apz(h:∃m a r,ah 369 H aQ (J m a r)/\∃(i:bx) (p:cr),i [o 0] H/\∀(_:F) c e,i [o c] e->aY (c<(a:Int)) (bH m c a λq=>(∃a l ad,ah 383 e (aX q (c.toNat *3)) (aJ [o a,o l,o ad])/\∀b n,bm e b [o 0,o 0,o 0] 383 n->∃d,bp 383 n (ak b) (aJ [o a,o l,o ad]) d/\∃a,ah 3 d (ak b) (o a)/\∃j,ah 9 d oe (aj j)/\∃g,ah 3 d (bN b 1) (o g)/\∃f,ah 3 d (bN b 2) (o f)/\bU (0<=g/\g<=f/\f<=(↑(j.size):Int)) (wZ prog c8 [o a,aj (azG j (g.toNat) (f.toNat))] d λs k=>∃b,s=aD b/\aU (!b) (R (a1 []) k) (i [o (wrap .i64 (c+1))] k/\p [o (wrap .i64 (c+1))] k<p [o c] e)))) (R (a1 []) e)):aK 331 [c8,ax (some aQ),ax (some oe)] H R:=F3 (ri [(6,.cut [(8,.one (.int .i64))]),(818,.et [0,0,2,0,0,16,0,64,248,511,1023] (eS [0,1,2,3,4,5,6,7,8,109,10] .done))]) pI func331 rfl ntmps331 rfl rfl (Eq.mpr (by kernel_rfl) h)
abbrev aoU:Nat:=332
theorem aoV(h:aK 49 [aj bu,o 0] H λc a=>∃b m p,c=a1 [b3 b,o m,o p]/\∃(e:bx),(∃(i:bx),aU (p !=0) (i [aD true] a) (aY (b>5000) (i [aD true] a) (aU (b==0) (i [aD (decide (m<(↑(bu.size):Int)))] a) (i [aD false] a)))/\∀(_:F) d a,i [aD d] a->aU d (R (a1 [b2,o 11]) a) (aU (b==0) (R (a1 [b2,o 0]) a) (e [] a)))/\∀(_:F) a,e [] a->aK 49 [aj bu,o m] a λc a=>∃n s q,c=a1 [b3 n,o s,o q]/\∃(e:bx),aU (q !=0) (R (a1 [b2,o 11]) a) (aY (n>=1099511627776) (R (a1 [b2,o 11]) a) (e [] a))/\∀(_:F) a,e [] a->aK 263 [aj bu,o s] a λc a=>∃r g ad,c=a1 [o r,o g,o ad]/\aU (ad !=0) (R (a1 [b2,o 11]) a) (∀d j,bm a d [o (wrap .i64 n),o r] 111 j->aY (b>1) (bU (0<=g/\g<=(↑(bu.size):Int)/\(↑(bu.size):Int)<=(↑(bu.size):Int)) (aK 367 [J (some (ak d)) 1 1,o (wrap .i64 b),aj (azG bu (g.toNat) (azw (↑(bu.size):Int)))] j λc a=>∃k b l d,c=a1 [J k b l,aD d]/\aU (!d) (R (a1 [b2,o 11]) a) (aK 232 [J k b l] a λc a=>∃f t,c=a1 [aj f,o t]/\aU (!f.toList==bu.toList) (R (a1 [b2,o 11]) a) (R (a1 [J k b l,o 0]) a)))) (aU (!g==(↑(bu.size):Int)) (R (a1 [b2,o 11]) j) (aK 232 [J (some (ak d)) 1 1] j λc a=>∃f b,c=a1 [aj f,o b]/\aU (!f.toList==bu.toList) (R (a1 [b2,o 11]) a) (R (a1 [J (some (ak d)) 1 1,o 0]) a))))):aK 332 [aj bu] H R:=bJ [(7,.cut []),(28,.cut [(19,.one .bool)]),(31,.cut [])] func332 ntmps332 h
theorem anO(h:∃c b f,ah 55 H aQ (J c b f)/\bU ((0:Int)<=(1:Int)/\1<=(b:Int)/\(b:Int)<=(f:Int)) (∃(ad:bx) (x:cr),ad [o 0,o 0] H/\∀(_:F) q a j,ad [o q,o a] j->aY (a<(↑(azw (b:Int)-azw 1):Int)) (fp (df f 1 2 c) λg=>bU (0<=a/\a<(↑(azw (b:Int)-1):Int)) (∃b w,ah 111 j (aX g (a.toNat *2)) (aJ [o b,o w])/\∀e t,bm j e [o 0,o 0] 111 t->∃d,bp 111 t (ak e) (aJ [o b,o w]) d/\∃b,ah 3 d (ak e) (o b)/\∃c u f,ah 55 d aQ (J c u f)/\bH c a u λg=>(∃k,ah 3 d (aX g (a.toNat *2)) (o k)/\∃p,ah 3 d (bN e 1) (o p)/\∃c r f,ah 55 d aQ (J c r f)/\bH c a r λg=>(∃m,ah 3 d (aX (aX g (a.toNat *2)) 1) (o m)/\aK 262 [o (wrap .i64 (wrap .i64 (b-k)-q))] d λi l=>∃s,i=b3 s/\ah 3 l (aX (aX g (a.toNat *2)) 1) (o m)/\ah 55 l aQ (J c r f)/\ah 3 l (bN e 1) (o p)/\aK 262 [o (wrap .i64 (p-m))] l λi A=>∃v,i=b3 v/\wZ prog c8 [b3 s,b3 v] A λi n=>∃e,i=aD e/\aU (!e) (R (a1 []) n) (ad [o (wrap .i64 (b-k)),o (wrap .i64 (a+1))] n/\x [o (wrap .i64 (b-k)),o (wrap .i64 (a+1))] n<x [o q,o a] j))))) (R (a1 []) j))):aK 335 [c8,ax (some aQ)] H R:=F3 (ri [(14,.cut [(3,.one (.int .i64)),(10,.one (.int .i64))]),(1842,.et [0,1,0,0,12,28,60,127,255] (eS [0,1,2,3,4,5,6,7,8] .done)),(7372,.et [0,0,0,6,14,0,32,0,0,384,896,1920,4064,8190,16383,32767] (eS [0,1,2,3,5,6,7,8,9,10,11,12,104,113,114,15] .done))]) pI func335 rfl ntmps335 rfl rfl (Eq.mpr (by kernel_rfl) h)
abbrev anB:Nat:=336
theorem anC(h:∃(g:bx),aY (aM<0) (R (o 0) H) (aY (aM>40) (R (o 0) H) (g [] H))/\∀(_:F) a,g [] a->∃(f:bx) (e:cr),f [o 0,o 0] a/\∀(_:F) c b a,f [o c,o b] a->aY (b<(aN:Int)) (bH bj b aN λi=>(∃d,ah 89 a (aX i (b.toNat *1)) (b3 d)/\bU (0<=wrap .u64 aM) (aY (azy d (2^min (azw (wrap .u64 aM)) (azF .u64))<24) (f [o (wrap .i64 (c+wrap .i64 (wrap .i64 (wrap .i64 (azy d (2^min (azw (wrap .u64 aM)) 64))+1)+aM))),o (wrap .i64 (b+1))] a/\e [o (wrap .i64 (c+wrap .i64 (wrap .i64 (wrap .i64 (azy d (2^min (azw (wrap .u64 aM)) 64))+1)+aM))),o (wrap .i64 (b+1))] a<e [o c,o b] a) (f [o (wrap .i64 (c+88)),o (wrap .i64 (b+1))] a/\e [o (wrap .i64 (c+88)),o (wrap .i64 (b+1))] a<e [o c,o b] a)))) (R (o c) a)):aK 336 [J bj aN bE,o aM] H R:=bJ [(3,.cut []),(122,.cut [(5,.one (.int .i64)),(17,.one (.int .i64))])] func336 ntmps336 h
theorem anM(h:∃c b f,ah 390 H aQ (J c b f)/\cG 336 [J c b f,o aM] H λb a=>∃e,ah 3 a oe (o e)/\aY (b<e) (∃d,bp 3 a ZX (o aM) d/\∃a,bp 3 d oe (o b) a/\R (a1 []) a) (R (a1 []) a)):aK 337 [o aM,ax (some aQ),ax (some oe),ax (some ZX)] H R:=bJ [] func337 ntmps337 h
abbrev ano:Nat:=338
theorem anp(h:∃(c:bx) (e:cr),c [o b7] H/\∀(_:F) a b,c [o a] b->aY (a>8) (bU (0<=wrap .u64 (wrap .i64 (a-8))) (dQ 368 [ax (some aQ),b3 (wrap .u64 (↑(azz (azx 64 (azy aM (2^min (azw (wrap .u64 (wrap .i64 (a-8)))) 64))&&&azx 64 255)):Int)),o 8] b λd=>c [o (wrap .i64 (a-8))] d/\e [o (wrap .i64 (a-8))] d<e [o a] b)) (bU (0<=wrap .u64 a) (dQ 368 [ax (some aQ),b3 (wrap .u64 (↑(azz (azx 64 aM&&&azx 64 (wrap .u64 (wrap .u64 (1*2^min (azw (wrap .u64 a)) 64)-1)))):Int)),o a] b λb=>R (a1 []) b))):aK 338 [ax (some aQ),b3 aM,o b7] H R:=bJ [(4,.cut [(2,.one (.int .i64))])] func338 ntmps338 h
abbrev aoI:Nat:=367
theorem aoJ(h:aY ((↑(bu.size):Int)<2) (R (a1 [b2,aD false]) H) (bU ((0:Int)<=(0:Int)/\0<(↑(bu.size):Int)) (bU ((0:Int)<=(1:Int)/\1<(↑(bu.size):Int)) (bU ((0:Int)<=(2:Int)/\2<=(↑(bu.size):Int)/\(↑(bu.size):Int)<=(↑(bu.size):Int)) (qW 382 [aj (azG bu 2 (azw (↑(bu.size):Int)))] H λd b=>∃(p:bx) (E:cr),p [J bj aN bE,o 0] b/\∀(_:F) l c m f b,p [J l c m,o f] b->aY ((c:Int)<aM) (aK 383 [ax d,o (wrap .i64 (↑(bo bu 0):Int))] b λj L=>∃aM D,j=a1 [b3 aM,o D]/\aK 383 [ax d,o (wrap .i64 (↑(bo bu 1):Int))] L λj t=>∃C u,j=a1 [b3 C,o u]/\bH l (wrap .i64 ((c:Int)-1)) c λK=>(∃A x,ah 111 t (aX K (azw (wrap .i64 ((c:Int)-1))*2)) (aJ [o A,o x])/\∀a G,bm t a [o 0,o 0] 111 G->∃w,bp 111 G (ak a) (aJ [o A,o x]) w/\cG 323 [b3 aM] w λaM i=>∃(k:bx),aU (D !=0) (R (a1 [b2,aD false]) i) (aU (u !=0) (R (a1 [b2,aD false]) i) (aY (aM>1099511627776) (R (a1 [b2,aD false]) i) (aY (aM<(-1099511627776:Int)) (R (a1 [b2,aD false]) i) (k [] i))))/\∀(_:F) g,k [] g->∃(k:bx),aY (wrap .i64 (f+aM)<1) (R (a1 [b2,aD false]) g) (aY (wrap .i64 (f+aM)>1099511627776) (R (a1 [b2,aD false]) g) (∃e,ah 3 g (ak a) (o e)/\aY (wrap .i64 (e+wrap .i64 (f+aM))>=1099511627776) (R (a1 [b2,aD false]) g) (k [o (wrap .i64 (f+aM))] g)))/\∀(_:F) aM n,k [o aM] n->∃e,ah 3 n (ak a) (o e)/\∃r,ah 3 n (bN a 1) (o r)/\cG 323 [b3 C] n λI s=>ah 3 s (bN a 1) (o r)/\ah 3 s (ak a) (o e)/\∀a B,bm s a [o (wrap .i64 (e+aM)),o (wrap .i64 (r+I))] 111 B->bO (dw 55 (J l c m) (J (some (ak a)) 1 1)) B λj v=>∃d ad q,j=J d ad q/\p [J d ad q,o aM] v/\E [J d ad q,o aM] v<E [J l c m,o f] b)) (cG 384 [ax d] b λaM b=>R (a1 [J l c m,aD (aM==0)]) b)))))):aK 367 [J bj aN bE,o aM,aj bu] H R:=bJ [(252,.cut [(0,.one .slice),(11,.one (.int .i64))]),(32303,.cut []),(64607,.cut [(11,.one (.int .i64))]),(129215,.et [0,0,2,0,14,0,32,0,128,480,1022,2046,4095,8191] (eS [0,1,2,3,4,5,6,7,108,9,10,111,112,13] .done))] func367 ntmps367 h
abbrev ani:Nat:=368
theorem anj(h:∃g,ah 89 H (aX aQ 2) (b3 g)/\bU (0<=wrap .u64 b7) (∃f,ah 3 H (aX aQ 3) (o f)/\∃a,bp 89 H (aX aQ 2) (b3 (wrap .u64 (↑(azz (azx 64 (wrap .u64 (g*2^min (azw (wrap .u64 b7)) 64))|||azx 64 aM)):Int))) a/\∃b,bp 3 a (aX aQ 3) (o (wrap .i64 (f+b7))) b/\∃aM,ah 3 b (aX aQ 3) (o aM)/\aY (aM>=8) (∃aM,ah 3 b (aX aQ 3) (o aM)/\∃a,bp 3 b (aX aQ 3) (o (wrap .i64 (aM-8))) a/\∃aM,ah 89 a (aX aQ 2) (b3 aM)/\∃d,ah 3 a (aX aQ 3) (o d)/\bU (0<=wrap .u64 d) (kY 184 [ax (some aQ),.int .u8 (wrap .u8 (azy aM (2^min (azw (wrap .u64 d)) 64)))] a λi a=>∃aM,ah 89 a (aX aQ 2) (b3 aM)/\∃c,ah 3 a (aX aQ 3) (o c)/\bU (0<=wrap .u64 c) (∃e,bp 89 a (aX aQ 2) (b3 (wrap .u64 (↑(azz (azx 64 aM&&&azx 64 (wrap .u64 (wrap .u64 (1*2^min (azw (wrap .u64 c)) 64)-1)))):Int))) e/\R (a1 []) e))) (R (a1 []) b))):aK 368 [ax (some aQ),b3 aM,o b7] H R:=bJ [(2,.et [0,0,0,4,12,28,0,64,252,0,1020,0,2048,6144,14336,0,63488,32765,163837,425981,1048575,2097151,4194303] (eS [0,1,2,3,4,5,6,7,8,9,10,11,12,13,14,15,16,17,18,119,20,21,122] .done)),(58,.tail 14),(59,.tail 11)] func368 ntmps368 h
abbrev am8:Nat:=382
theorem am9(h:∀a b,bm H a [aj bu,o 0] 490 b->R (ax (some (ak a))) b):aK 382 [aj bu] H R:=bJ [] func382 ntmps382 h
abbrev Wq:Nat:=383
theorem am1(h:∃(c:bx),aY (aM<0) (R (a1 [b3 0,o 1]) H) (aY (aM>40) (R (a1 [b3 0,o 1]) H) (c [] H))/\∀(_:F) a,c [] a->cG 388 [ax (some aQ)] a λb a=>∃p,ah 3 a (aX aQ 1) (o p)/\aK 390 [ax (some aQ),o p,o (if b<24 then b else 24)] a λi a=>∃k,i=b3 k/\bU (0<=wrap .u64 (wrap .i64 (64-if b<24 then b else 24))) (cG 389 [b3 (wrap .u64 (↑(azz (azx 64 (if azO .u64=true then(-1:Int)else IntKind.max .u64)^^^azx 64 (wrap .u64 (k*2^min (azw (wrap .u64 (wrap .i64 (64-if b<24 then b else 24)))) 64)))):Int))] a λq a=>∃(c:bx),aU ((if b<24 then b else 24)==0) (c [o 0] a) (c [o q] a)/\∀(_:F) d a,c [o d] a->∃l,ah 3 a (aX aQ 1) (o l)/\∃(c:bx),aU ((if(if b<24 then b else 24)<d then if b<24 then b else 24 else d)==24) (∃e,ah 3 a (aX aQ 1) (o e)/\c [o (if(if b<24 then b else 24)<d then if b<24 then b else 24 else d),o (wrap .i64 (e+24)),o 64] a) (c [o (if(if b<24 then b else 24)<d then if b<24 then b else 24 else d),o (wrap .i64 (wrap .i64 (l+d)+1)),o aM] a)/\∀(_:F) b e g a,c [o b,o e,o g] a->∃n,ah 9 a aQ (aj n)/\aY (wrap .i64 (wrap .i64 (8*(↑(n.size):Int))-e)<g) (R (a1 [b3 0,o 10]) a) (aK 390 [ax (some aQ),o e,o g] a λi a=>∃f,i=b3 f/\∃(c:bx),(∃(j:bx),aU (b==24) (bU (0<=wrap .u64 aM) (j [aD (decide (azy f (2^min (azw (wrap .u64 aM)) 64)<24))] a)) (j [aD false] a)/\∀(_:F) m a,j [aD m] a->aU m (R (a1 [b3 0,o 11]) a) (aY (b<24) (bU (0<=wrap .u64 aM) (c [b3 (wrap .u64 (↑(azz (azx 64 f|||azx 64 (wrap .u64 (wrap .u64 b*2^min (azw (wrap .u64 aM)) 64)))):Int))] a)) (c [b3 f] a)))/\∀(_:F) b a,c [b3 b] a->∃ad,bp 3 a (aX aQ 1) (o (wrap .i64 (e+g))) ad/\R (a1 [b3 b,o 0]) ad))):aK 383 [ax (some aQ),o aM] H R:=bJ [(3,.cut []),(31,.cut [(7,.one (.int .i64))]),(127,.cut [(7,.one (.int .i64)),(8,.one (.int .i64)),(9,.one (.int .i64))]),(1023,.cut [(10,.one (.int .u64))]),(4092,.cut [(67,.one .bool)])] func383 ntmps383 h
abbrev ana:Nat:=384
theorem anb(h:cG 388 [ax (some aQ)] H λb a=>aY (b>=8) (R (o 11) a) (∃c,ah 3 a (aX aQ 1) (o c)/\aK 390 [ax (some aQ),o c,o b] a λd a=>∃b,d=b3 b/\aU (b !=0) (R (o 11) a) (R (o 0) a))):aK 384 [ax (some aQ)] H R:=bJ [] func384 ntmps384 h
theorem Wr(h:∃a,ah 9 H aQ (aj a)/\∃b,ah 3 H (aX aQ 1) (o b)/\R (o (wrap .i64 (wrap .i64 (8*(↑(a.size):Int))-b))) H):aK 388 [ax (some aQ)] H R:=bJ [] func388 ntmps388 h
abbrev amT:Nat:=389
theorem amU(h:cG 222 [b3 aM] H λb a=>R (o (wrap .i64 (64-b))) a):aK 389 [b3 aM] H R:=bJ [] func389 ntmps389 h
abbrev amY:Nat:=390
theorem amZ(h:∃(f:bx) (g:cr),f [o aM,o b7,b3 0] H/\∀(_:F) a b d c,f [o a,o b,b3 d] c->aY (b>0) (∃e,ah 9 c aQ (aj e)/\bU (0<=wrap .i64 (azE a 8)/\wrap .i64 (azE a 8)<(↑(e.size):Int)) (bU (0<=wrap .u64 (wrap .i64 (wrap .i64 (8-azA a 8)-if b<wrap .i64 (8-azA a 8)then b else wrap .i64 (8-azA a 8)))) (bU (0<=wrap .u64 (if b<wrap .i64 (8-azA a 8)then b else wrap .i64 (8-azA a 8))) (bU (0<=wrap .u64 (if b<wrap .i64 (8-azA a 8)then b else wrap .i64 (8-azA a 8))) (f [o (wrap .i64 (a+if b<wrap .i64 (8-azA a 8)then b else wrap .i64 (8-azA a 8))),o (wrap .i64 (b-if b<wrap .i64 (8-azA a 8)then b else wrap .i64 (8-azA a 8))),b3 (wrap .u64 (↑(azz (azx 64 (wrap .u64 (d*2^min (azw (wrap .u64 (if b<wrap .i64 (8-azA a 8)then b else wrap .i64 (8-azA a 8)))) 64))|||azx 64 (wrap .u64 (↑(azz (azx 64 (azy (wrap .u64 (↑(bo e (azw (wrap .i64 (azE a 8)))):Int)) (2^min (azw (wrap .u64 (wrap .i64 (wrap .i64 (8-azA a 8)-if b<wrap .i64 (8-azA a 8)then b else wrap .i64 (8-azA a 8))))) 64))&&&azx 64 (wrap .u64 (wrap .u64 (1*2^min (azw (wrap .u64 (if b<wrap .i64 (8-azA a 8)then b else wrap .i64 (8-azA a 8)))) 64)-1)))):Int)))):Int))] c/\g [o (wrap .i64 (a+if b<wrap .i64 (8-azA a 8)then b else wrap .i64 (8-azA a 8))),o (wrap .i64 (b-if b<wrap .i64 (8-azA a 8)then b else wrap .i64 (8-azA a 8))),b3 (wrap .u64 (↑(azz (azx 64 (wrap .u64 (d*2^min (azw (wrap .u64 (if b<wrap .i64 (8-azA a 8)then b else wrap .i64 (8-azA a 8)))) 64))|||azx 64 (wrap .u64 (↑(azz (azx 64 (azy (wrap .u64 (↑(bo e (azw (wrap .i64 (azE a 8)))):Int)) (2^min (azw (wrap .u64 (wrap .i64 (wrap .i64 (8-azA a 8)-if b<wrap .i64 (8-azA a 8)then b else wrap .i64 (8-azA a 8))))) 64))&&&azx 64 (wrap .u64 (wrap .u64 (1*2^min (azw (wrap .u64 (if b<wrap .i64 (8-azA a 8)then b else wrap .i64 (8-azA a 8)))) 64)-1)))):Int)))):Int))] c<g [o a,o b,b3 d] c))))) (R (b3 d) c)):aK 390 [ax (some aQ),o aM,o b7] H R:=bJ [(28,.cut [(1,.one (.int .i64)),(2,.one (.int .i64)),(7,.one (.int .u64))])] func390 ntmps390 h
abbrev atK:Nat:=3
theorem atL(h:∀c a,bm H c [o 0,J bj aN bE,b2,o 0,o 0,o 0,o 0,aj eh] 27 a->∃(n:bx),(eu 4 [J (some (ak c)) 1 1,o 1] a λr a=>aU r (eu 6 [] a λc a=>R (aD c) a) (eu 5 [J (some (ak c)) 1 1] a λc a=>aU (!c) (eu 6 [] a λc a=>R (aD c) a) (aY ((aN:Int)<1) (eu 6 [] a λc a=>R (aD c) a) (aY ((aN:Int)>50) (eu 6 [] a λc a=>R (aD c) a) (eu 6 [] a λc a=>aU (!c) (eu 6 [] a λc a=>R (aD c) a) (n [] a))))))/\∀(_:F) a,n [] a->qW 8 [o 512] a λg a=>aK 7 [ax g] a λj a=>∃g d,j=a1 [ax g,o d]/\qW 8 [o 512] a λt a=>aK 7 [ax t] a λj a=>∃i p,j=a1 [ax i,o p]/\∃(n:bx),aU (d !=0) (R (aD false) a) (aU (p !=0) (R (aD false) a) (aU (g.isNone) (R (aD false) a) (aU (i.isNone) (R (aD false) a) (n [] a))))/\∀(_:F) a,n [] a->cG 9 [ax g,J bj aN bE] a λd a=>∃(k:bx) (f:cr),k [o 0,o 0] a/\∀(_:F) e b a,k [o e,o b] a->aY (b<(aN:Int)) (bU (0<=b/\b<=wrap .i64 (b+1)/\wrap .i64 (b+1)<=(bE:Int)) (cG 9 [ax i,J (df bE (b.toNat) 3 bj) (azw (wrap .i64 (b+1))-b.toNat) (bE-b.toNat)] a λd l=>aU (e==0) (aU k3 (aK 10 [ax i] l λj m=>∃c ad,j=a1 [aD c,o ad]/\k [o d,o (wrap .i64 (b+1))] m/\f [o d,o (wrap .i64 (b+1))] m<f [o e,o b] a) (k [o d,o (wrap .i64 (b+1))] l/\f [o d,o (wrap .i64 (b+1))] l<f [o e,o b] a)) (aU k3 (aK 10 [ax i] l λj m=>∃c d,j=a1 [aD c,o d]/\k [o e,o (wrap .i64 (b+1))] m/\f [o e,o (wrap .i64 (b+1))] m<f [o e,o b] a) (k [o e,o (wrap .i64 (b+1))] l/\f [o e,o (wrap .i64 (b+1))] l<f [o e,o b] a)))) (aU (d !=e) (R (aD false) a) (aU (d !=0) (R (aD true) a) (dv 11 [ax g] a λq a=>dv 11 [ax i] a λs a=>aU (q.toList==s.toList) (cG 12 [ax g] a λd a=>cG 12 [ax i] a λad a=>R (aD (d==ad)) a) (R (aD false) a))))):aK 3 [J bj aN bE,aD k3] H R:=bJ [(7,.cut []),(63,.cut []),(4090,.cut [(11,.one (.int .i64)),(12,.one (.int .i64))])] func3 ntmps3 h
abbrev aty:Nat:=5
theorem atz(h:∃(m:bx) (g:cr),m [o 0,o 0,o 0,o 0] H/\∀(_:F) a e d c b,m [o a,o e,o d,o c] b->aY (c<(aN:Int)) (bH bj c aN λj=>(∃ad,ah 3 b (aX j (c.toNat *8)) (o ad)/\aU (ad==0) (∃(p:bx) (q:cr),p [o a,o 0] b/\∀(_:F) l k f,p [o l,o k] f->bH bj c aN λj=>(∃i s n,ah 22 f (aX (aX j (c.toNat *8)) 1) (J i s n)/\aY (k<(s:Int)) (bH bj c aN λj=>(∃i a n,ah 22 f (aX (aX j (c.toNat *8)) 1) (J i a n)/\bH i k a λj=>(∃i a n,ah 45 f (aX j (k.toNat *3)) (J i a n)/\aK 14 [J i a n] f λt b=>∃r a,t=a1 [aj r,o a]/\aY ((↑(r.size):Int)>40) (R (aD false) b) (p [o (wrap .i64 (l+1)),o (wrap .i64 (k+1))] b/\q [o (wrap .i64 (l+1)),o (wrap .i64 (k+1))] b<q [o l,o k] f)))) (m [o l,o e,o d,o (wrap .i64 (c+1))] f/\g [o l,o e,o d,o (wrap .i64 (c+1))] f<g [o a,o e,o d,o c] b))) (aU (ad==1) (m [o a,o (wrap .i64 (e+1)),o d,o (wrap .i64 (c+1))] b/\g [o a,o (wrap .i64 (e+1)),o d,o (wrap .i64 (c+1))] b<g [o a,o e,o d,o c] b) (aU (ad==2) (m [o a,o e,o (wrap .i64 (d+1)),o (wrap .i64 (c+1))] b/\g [o a,o e,o (wrap .i64 (d+1)),o (wrap .i64 (c+1))] b<g [o a,o e,o d,o c] b) (m [o a,o e,o d,o (wrap .i64 (c+1))] b/\g [o a,o e,o d,o (wrap .i64 (c+1))] b<g [o a,o e,o d,o c] b))))) (aY (a<=60) (aY (e<=5) (R (aD (decide (d<=20))) b) (R (aD false) b)) (R (aD false) b))):aK 5 [J bj aN bE] H R:=bJ [(250,.cut [(3,.one (.int .i64)),(4,.one (.int .i64)),(5,.one (.int .i64)),(6,.one (.int .i64))]),(256298,.cut [(3,.one (.int .i64)),(7,.one (.int .i64))])] func5 ntmps5 h
theorem dt:EM azB 170 167 316 168 9 264:=⟨by kernel_rfl,by kernel_rfl,by kernel_rfl,by kernel_rfl,by kernel_rfl,by kernel_rfl,by kernel_rfl,by kernel_rfl,by kernel_rfl,by kernel_rfl,by kernel_rfl,by kernel_rfl,by kernel_rfl,by kernel_rfl,by kernel_rfl,by kernel_rfl⟩
abbrev jR(H:U)(b:Nat)(S:List Nat)(xs:List UInt8):Prop:=mo 170 H b S xs
theorem UX{v:Value}{K:Value->U->Prop}(hk:K v H):pX azB 210 ⟨[v]⟩ H λw H'=>∃u,w=u/\K u H':=
 aiM (fn:=Tryz.f210) Tryz.func210 (by kernel_rfl) (by kernel_rfl) (by kernel_rfl) (e:=Extern.AbiNoEscape.same) (by kernel_rfl) (λw=>Lib.run_noEscape w v) ⟨_,rfl,hk⟩
theorem MY{S:List Nat}{xs:List UInt8}{K:U->Prop}(h:jR H b S xs)
  (hk:∀H' ad n c dJ,H'[b]?=some (.cells ⟨[.pointer (some ⟨b,0,none⟩),.slice ad n c]⟩ dJ (0,0))->Own fb 5 0 H' ad n c xs->S=b::an ad->b∉an ad->Fr [b] H H'->K H'):
  dQ UY [ax (some (ak b))] H K:=by
 apply UZ
 obtain⟨p,ad,n,c,dJ,h1,ar,a7,rfl,b5⟩:=h
 have al:a6 H ⟨b,0,none⟩ [.pointer p,.slice ad n c]:=⟨b,_,rfl,h1⟩
 refine⟨_,al.tu dt.ap rfl,?_⟩
 rcases ar with⟨rfl,rfl⟩|rfl
 ·refine aiN dt h1 rfl ⟨_,rfl,UX ?_⟩
  refine aiO dt h1 rfl ?_
  refine al.iQ (v:=.pointer (some ⟨b,0,none⟩)) dt.eY dt.pi (λx aa=>by simp [azI]at aa;subst aa;rfl) (by simp [azI]) λH' h' ai=>⟨rfl,?_⟩
  obtain⟨iR,tC,e,ba⟩:=h'
  cases e
  exact hk H' ad n c tC ba (a7.af ai (λaC e aq=>by
   have:aC.block=b:=by simpa using aq
   exact b5 (by simp [e,an,this]))) rfl b5 ai
 ·exact⟨_,al.tu dt.ap rfl,false,U0 dt _ _ _,rfl,hk H ad n c dJ h1 a7 rfl b5 (Fr.refl _ _)⟩
theorem sT{S:List Nat}{xs:List UInt8}{K:Int->Value->U->Prop}(h:jR H b S xs)(hlen:xs.length+s.size<=140737488355328)
  (hk:∀H' S',jR H' b S' (xs++bd s)->Fr S H H'->Grow H S S'->K s.size .nilIface H'):
  aK aiP [ax (some (ak b)),aj s] H λv H'=>∃n w,v=.tuple ⟨[.int .i64 n,w]⟩/\K n w H':=by
 apply aiQ
 refine MY h λH1 ad n c dJ h1 ab bB ar cv=> ?_
 have al:a6 H1 ⟨b,0,none⟩ [.pointer (some ⟨b,0,none⟩),.slice ad n c]:=⟨b,_,rfl,h1⟩
 refine⟨ad,n,c,al.ld dt.pB (j:=1) rfl,aiR dt.bT dt.str dt.byte ab (Nat.zero_le _) (by rw [ab.1];exact hlen) λaV bn bg ao a7 bG ln=> ?_⟩
 have cO:=al.af bG ar
 refine cO.st (j:=1) (v:=.slice aV bn bg) dt.s1 dt.si (λx aa=>by simp [azI]at aa;subst aa;rfl) (by simp [azI]) λaP fm bP=>⟨_,_,rfl,?_⟩
 obtain⟨iR,tC,e,ba⟩:=fm
 cases e
 have bQ:b<H1.size:=km h1
 have s5:b∉an aV:=λhk=>by
  rcases ln b hk with bs|bs
  ·exact ar bs
  ·omega
 refine hk aP (b::an aV) ⟨_,aV,bn,bg,tC,ba,.inr rfl,a7.af bP (λaC e aq=>s5 (by
   have:aC.block=b:=by simpa using aq
   simp [e,an,this])),rfl,s5⟩ ?_ ?_
 ·rw [bB]
  exact(cv.trans' bG (T:=b::an ad) (by simp) (λk hk _=>by simp [hk])).trans' bP (λk hk _=>hk) (by simp)
 ·rw [bB]
  intro k hk
  rcases List.mem_cons.1 hk with rfl|hk
  ·exact .inl (by simp)
  ·rcases ln k hk with bs|bs
   ·exact .inl (by simp [bs])
   ·exact .inr (Nat.le_trans cv.size bs)
theorem EN{S:List Nat}{xs:List UInt8}{x:UInt8}{n:Int}{K:Value->U->Prop}(h:jR H b S xs)(aa:n=x.toNat)(hlen:xs.length+1<=140737488355328)
  (hk:∀H' S',jR H' b S' (xs++[x])->Fr S H H'->Grow H S S'->K .nilIface H'):
  kY U1 [ax (some (ak b)),.int .u8 n] H K:=by
 subst aa
 apply U2
 refine MY h λH1 ad n c dJ h1 ab bB ar cv=> ?_
 have al:a6 H1 ⟨b,0,none⟩ [.pointer (some ⟨b,0,none⟩),.slice ad n c]:=⟨b,_,rfl,h1⟩
 refine⟨ad,n,c,al.ld dt.pB (j:=1) rfl,?_⟩
 intro b1 ao bb
 have gh:bt fb ao (some ⟨b1,0,none⟩) 1 1 [x]:=fy fb x bb rfl
 have gF:=ab.ag bb.af
 refine ic (E:=fb) (bytes:=1) dt.bT (by kernel_rfl) gF gh (Nat.zero_le _) (by rw [ab.1];omega) λaV bn bg aP a7 bG ln=> ?_
 have cO:=(al.ag bb.af).af bG ar
 refine cO.st (j:=1) (v:=.slice aV bn bg) dt.s1 dt.si (λx aa=>by simp [azI]at aa;subst aa;rfl) (by simp [azI]) λa8 fm bP=>⟨_,rfl,?_⟩
 obtain⟨iR,tC,e,ba⟩:=fm
 cases e
 have bQ:b<H1.size:=km h1
 have dF:=bb.size
 have s5:b∉an aV:=λhk=>by
  rcases ln b hk with bs|bs
  ·exact ar bs
  ·omega
 refine hk a8 (b::an aV) ⟨_,aV,bn,bg,tC,ba,.inr rfl,a7.af bP (λaC e aq=>s5 (by
   have:aC.block=b:=by simpa using aq
   simp [e,an,this])),rfl,s5⟩ ?_ ?_
 ·rw [bB]
  exact((cv.trans' bb.af (T:=b::an ad) (by simp) (by simp)).trans' bG (T:=b::an ad) (λk hk _=>hk) (λk hk _=>by simp [hk])).trans' bP (λk hk _=>hk) (by simp)
 ·rw [bB]
  intro k hk
  rcases List.mem_cons.1 hk with rfl|hk
  ·exact .inl (by simp)
  ·rcases ln k hk with bs|bs
   ·exact .inl (by simp [bs])
   ·exact .inr (by have:=cv.size;omega)
theorem xD{S:List Nat}{xs:List UInt8}{K:ByteArray->U->Prop}(h:jR H b S xs)(hlen:xs.length<=140737488355328)
  (hk:∀H',Fr S H H'->K ⟨xs.toArray⟩ H'):
  dv U3 [ax (some (ak b))] H K:=by
 apply U4
 obtain⟨p,ad,n,c,dJ,h1,ar,a7,rfl,b5⟩:=h
 have al:a6 H ⟨b,0,none⟩ [.pointer p,.slice ad n c]:=⟨b,_,rfl,h1⟩
 refine⟨ad,n,c,al.ld dt.pB (j:=1) rfl,ad,n,c,al.ld dt.pB (j:=1) rfl,?_⟩
 have hs:=U5 dt (it:=3) (sty:=9) (ts:=⟨[168]⟩) (K:=λH'=>K ⟨xs.toArray⟩ H') (L:=λH'=>ah 168 H' (Addr.add ⟨b,0,none⟩ 1) (.slice ad n c)) a7 (by rw [a7.1];exact hlen) (λH' ai=>(al.ag ai).ld dt.pB (j:=1) rfl)
  (λH' ai=>hk H' (ai.mono (λk hk=>by simp [hk])))
 refine hs.mono λv H' h=> ?_
 obtain⟨a,rfl,bs,cT⟩:=h
 refine⟨a,rfl,bs,cT.mono λv H' h=> ?_⟩
 obtain⟨s,rfl,rfl,h⟩:=h
 exact⟨_,rfl,_,rfl,h⟩
theorem cE{i:Nat}(h:i<=1000000000000):IntKind.i64.wrap ((i:Int)+1)=((i+1:Nat):Int):=by
 rw [cj (by omega) (by omega)];omega
theorem uQ{i:Nat}(h:i<=1000000000000)(aF:0<i):IntKind.i64.wrap ((i:Int)-1)=((i-1:Nat):Int):=by
 rw [cj (by omega) (by omega)];omega
theorem dU{i:Nat}(h:i<n):n-((i+1:Nat):Int).toNat<n-((i:Nat):Int).toNat:=by omega
theorem rW{n:Int}(h:0<=n):IntKind.u8.wrap n=n % 256:=by
 unfold azQ
 simp [azF,azO]
theorem ix{n:Int}(h:0<=n)(ab:n<18446744073709551616):IntKind.u64.wrap n=n:=by
 unfold azQ
 simp [azF,azO]
 omega
theorem aiS:∀m:Nat,m<256->(azJ 8 m|||azJ 8 128).toNat=m % 128+128:=by decide+kernel
theorem MZ(n:Nat)(h:n<256):(n:Int)=((axX n).toNat:Int):=by
 rw [axY]
 omega
theorem qK{K:ByteArray->U->Prop}(ay:n<18446744073709551616)(hk:∀H',Fr [] H H'->K ⟨(cn n).toArray⟩ H'):
  dv aiT [b3 n] H K:=by
 apply aiU
 have kg:j8 azB 5 1 1=true:=by kernel_rfl
 refine IB (E:=fb) dt.bT kg (by omega) (by decide) λim H1 fF cv=> ?_
 refine⟨λae H'=>match ae with
   |[.int _ m,.slice ad p q]=>∃(k:Nat) (xs:List UInt8) (j:Nat),m=k/\Own fb 5 H.size H' ad p q xs/\xs.length=j/\k<128^(10-j)/\j<10/\xs++cn k=cn n/\Fr [] H H'
   |_=>False,
  λae _=>match ae with|[.int _ m,_]=>m.toNat|_=>0,⟨n,[],0,rfl,fF,rfl,by omega,by omega,rfl,cv⟩,?_⟩
 rintro br m ad p q ao ⟨k,xs,j,rfl,aw,bq,fA,aiV,he,ai⟩
 have aH:=aw.1
 refine au (λaF=> ?_) (λaF=> ?_)
 ·have b':¬k<128:=by simp at aF;omega
  have al:IntKind.u8.wrap ((azz (azx 8 (IntKind.u8.wrap (k:Int))|||azx 8 128):Nat):Int)=((axX (k % 128+128)).toNat:Int):=by
   rw [rW (n:=(k:Int)) (by omega)]
   have aL:azx 8 ((k:Int) % 256)=azJ 8 (k % 256):=by
    rw [show(k:Int) % 256=((k % 256:Nat):Int) by omega];rfl
   have a':azx 8 128=azJ 8 128:=rfl
   rw [aL,a',aiS _ (Nat.mod_lt _ (by omega)),rW (by omega),axY]
   omega
  rw [al]
  have IC:j<9:=by
   rcases azH j 9 with h|h
   ·exact h
   ·have:j=9:=by omega
    subst this
    simp at fA
    omega
  refine pj (E:=fb) (bytes:=1) (axX (k % 128+128)) dt.bT kg aw ai rfl (by omega) λ_ j3 fR b0 a8 e8 bG _=> ?_
  have hdiv:azy (k:Int) (2^7)=((k/128:Nat):Int):=by
   rw [Int.fdiv_eq_ediv_of_nonneg _ (by decide)]
   omega
  rw [hdiv]
  refine⟨⟨k/128,_,j+1,rfl,e8,by simp [bq],?_,by omega,?_,bG⟩,?_⟩
  ·rw [azq (by omega),<-aym]
   rw [show(10-(j+1)).succ=10-j by omega]
   exact fA
  ·rw [B8 b']at he
   rw [<-he];simp
  ·show((k/128:Nat):Int).toNat<((k:Nat):Int).toNat
   omega
 ·have b':k<128:=by simp at aF;omega
  have al:IntKind.u8.wrap (k:Int)=((axX k).toNat:Int):=by
   rw [rW (by omega),axY]
   omega
  rw [al]
  refine pj (E:=fb) (bytes:=1) (axX k) dt.bT kg aw ai rfl (by omega) λ_ j3 fR b0 a8 e8 bG _=> ?_
  rw [qS b']at he
  rw [he]at e8
  exact wo (e:=5) dt.bT dt.str (by kernel_rfl) e8.bT ⟨_,rfl,hk a8 bG⟩
theorem hD(ay:n<18446744073709551616):(cn n).length<=10:=oX 9 n (by omega)
theorem wj{K:ByteArray->U->Prop}(hs:s.size<=140737488355328)(hk:∀H',Fr [] H H'->K ⟨(e6 s).toArray⟩ H'):
  dv aiW [aj s] H K:=by
 apply aiX
 rw [ix (by omega) (by omega)]
 refine qK (n:=s.size) (by omega) λH' ai=> ?_
 have:=hD (n:=s.size) (by omega)
 refine cM (bh (by show(cn s.size).length+s.size<=_;omega)) ⟨_,rfl,?_⟩
 have e:(⟨(cn s.size).toArray⟩++s:ByteArray)=⟨(e6 s).toArray⟩:=by apply iV;simp [bd,e6]
 rw [e]
 exact hk H' ai
theorem aiY{K:ByteArray->U->Prop}(ay:n<18446744073709551616)(hk:∀H',Fr [] H H'->K ⟨(cn n).toArray⟩ H'):
  dv aiZ [b3 n] H K:=by
 apply ai0
 refine⟨λae H'=>match ae with
   |[.int _ m,.string s]=>∃(k:Nat),m=k/\k<18446744073709551616/\k<128^(10-s.size)/\s.size<10/\bd s++cn k=cn n/\Fr [] H H'
   |_=>False,
  λae _=>match ae with|[.int _ m,_]=>m.toNat|_=>0,⟨n,rfl,ay,by show n<128^(10-0);omega,by show 0<10;omega,rfl,Fr.refl _ _⟩,?_⟩
 rintro br m s ao ⟨k,rfl,av1,fA,aiV,he,ai⟩
 have one:∀(x:Nat) (b:Nat) (aP:U) (cc:ByteArray->U->Prop),x<256->dV ao b (.cells ⟨[.int .u8 x]⟩ 5) aP->cc ⟨#[axX x]⟩ aP->bO (convert 168 9 (.slice (some ⟨b,0,none⟩) 1 1)) aP λv H'=>∃s,v=.string s/\cc s H':=by
  intro x b aP cc aa bb eL
  have gh:bt fb aP (some ⟨b,0,none⟩) 1 1 [axX x]:=fy fb _ bb (by rw [MZ x aa];rfl)
  exact wo (e:=5) dt.bT dt.str (by kernel_rfl) gh eL
 have dF:∀x:Nat,(s++⟨#[axX x]⟩:ByteArray).size=s.size+1:=λx=>by rw [<-dR,kQ,ax6,dR];rfl
 refine au (λaF=> ?_) (λaF=> ?_)
 ·have b':¬k<128:=by simp at aF;omega
  intro b aP bb
  have aL:IntKind.u8.wrap (IntKind.u64.wrap (azA (k:Int) 128+128))=((k % 128+128:Nat):Int):=by
   have:azA (k:Int) 128=((k % 128:Nat):Int):=by rw [Int.tmod_eq_emod_of_nonneg (by omega)];omega
   rw [this,ix (by omega) (by omega),rW (by omega)]
   omega
  rw [aL]at bb
  have a':IntKind.u64.wrap (azE (k:Int) 128)=((k/128:Nat):Int):=by
   have:azE (k:Int) 128=((k/128:Nat):Int):=by rw [Int.tdiv_eq_ediv_of_nonneg (by omega)];omega
   rw [this,ix (by omega) (by omega)]
  rw [a']
  have IC:s.size<9:=by
   rcases azH s.size 9 with h|h
   ·exact h
   ·have:s.size=9:=by omega
    rw [this]at fA
    simp at fA
    omega
  refine one _ b aP _ (by omega) bb (cM (bh (by show s.size+1<=_;omega)) ⟨⟨k/128,rfl,by omega,?_,by rw [dF];omega,?_,ai.aT bb.af⟩,?_⟩)
  ·rw [dF,azq (by omega),<-aym,show(10-(s.size+1)).succ=10-s.size by omega]
   exact fA
  ·rw [B8 b']at he
   rw [<-he,kQ];simp [bd]
  ·show((k/128:Nat):Int).toNat<((k:Nat):Int).toNat
   omega
 ·have b':k<128:=by simp at aF;omega
  intro b aP bb
  rw [rW (by omega),show(k:Int) % 256=k by omega]at bb
  refine one _ b aP _ (by omega) bb (cM (bh (by show s.size+1<=_;omega)) ⟨_,rfl,?_⟩)
  rw [qS b']at he
  have e:(s++⟨#[axX k]⟩:ByteArray)=⟨(cn n).toArray⟩:=by apply iV;rw [kQ];simpa [bd]using he
  rw [e]
  exact hk aP (ai.aT bb.af)
def EO(c:Int):Int:=if c<0 then -1 else if c<=127 then 1 else if c<=2047 then 2 else if 55296<=c/\c<=57343 then -1 else if c<=65535 then 3 else if c<=1114111 then 4 else -1
theorem ai1{c:Int}{K:Int->U->Prop}(hk:K (EO c) H):cG ai2 [.int .i32 c] H K:=by
 apply ai3
 unfold EO at hk
 refine au (λh=>⟨_,rfl,?_⟩) (λh=> ?_)
 ·rwa [if_pos (by simpa using h)]at hk
 rw [if_neg (by simpa using h)]at hk
 refine au (λh=>⟨_,rfl,?_⟩) (λh=> ?_)
 ·rwa [if_pos (by simpa using h)]at hk
 rw [if_neg (by simpa using h)]at hk
 refine au (λh=>⟨_,rfl,?_⟩) (λh=> ?_)
 ·rwa [if_pos (by simpa using h)]at hk
 rw [if_neg (by simpa using h)]at hk
 have rest:¬(55296<=c/\c<=57343)->aU (decide (c<=65535)) (∃n,ayZ .i64 3=.int .i64 n/\K n H) (aU (decide (c<=1114111)) (∃n,ayZ .i64 4=.int .i64 n/\K n H) (∃n,ayZ .i64 (-1)=.int .i64 n/\K n H)):=λbs=>by
  rw [if_neg bs]at hk
  refine au (λh=>⟨_,rfl,?_⟩) (λh=> ?_)
  ·rwa [if_pos (by simpa using h)]at hk
  rw [if_neg (by simpa using h)]at hk
  refine au (λh=>⟨_,rfl,?_⟩) (λh=>⟨_,rfl,?_⟩)
  ·rwa [if_pos (by simpa using h)]at hk
  ·rwa [if_neg (by simpa using h)]at hk
 refine au (λar=>au (λa7=>⟨_,rfl,?_⟩) (λa7=>rest ?_)) (λar=>rest ?_)
 ·rwa [if_pos ⟨by simpa using ar,by simpa using a7⟩]at hk
 ·simp at a7;omega
 ·simp at ar;omega
theorem ai4(c:Nat)(h:¬(55296<=c/\c<=57343))(ab:c<=1114111):EO c=tD c:=by
 unfold EO tD
 repeat' split
 all_goals omega
def B9(r:Nat)(s:ByteArray)(H:U):Nat:=match H[r]? with|some (.stringIter _ p)=>s.size-p|_=>0
theorem ID{r p:Nat}{t:ByteArray}(h:H[r]?=some (.stringIter t p)):B9 r s H=s.size-p:=by unfold B9;rw [h]
theorem ai5{K:Bool->U->Prop}(hk:∀H',Fr [] H H'->K (decide (p4 s)) H'):
  eu ai6 [aj s] H K:=by
 apply ai7
 have no:∀H',Fr [] H H'->¬p4 s->∃b,azD false=.bool b/\K b H':=λH' ai h=>⟨_,rfl,by have:=hk H' ai;rwa [decide_eq_false h]at this⟩
 refine⟨λae H'=>H'=H/\1<=s.size/\s.size<=16,?_,?_⟩
 ·rw [yV]
  refine au (λh=>no H (Fr.refl _ _) λh'=> ?_) (λh=>au (λab=>no H (Fr.refl _ _) λh'=> ?_) (λab=>⟨rfl,?_,?_⟩))
  ·have:=of_decide_eq_true h;subst this;have:=h'.1;simp [azC]at this
  ·have:=h'.2.1;simp at ab;omega
  ·have:s.size≠0:=λe=>by
    have ar:s=⟨#[]⟩:=by apply iV;show bd s=[];exact ayT (by rw [dR];exact e)
    rw [bh ar]at h;cases h
   omega
  ·simp at ab;omega
 rintro br H1 ⟨rfl,g1,g2⟩
 refine U6 dt.str λr ao aB ab bG=> ?_
 refine⟨λ_ H'=>∃p,H'[r]?=some (.stringIter s p)/\p<=s.size/\(∀i,i<p->n4 (bo s i))/\(0<p->nq (bo s 0))/\Fr [] H1 H',λ_ H'=>B9 r s H',⟨0,ab,by omega,λi h=>by omega,λh=>by omega,bG⟩,?_⟩
 rintro br aP ⟨p,ar,aH,fe,U7,bP⟩
 refine U8 ar (λM0=>.inl ⟨rfl,_,rfl,?_⟩) (λbQ a8 a7 cm=>.inr ⟨_,_,rfl,_,rfl,_,rfl,?_⟩)
 ·have:p4 s:=⟨g1,g2,U7 (by omega),λi az=>fe i (by omega)⟩
  have:=hk aP bP
  rwa [bh ‹p4 s›]at this
 have wC:Fr [] H1 a8:=bP.ag cm (λk hk=>by simp at hk;omega)
 have aR:=U9 s p bQ
 have av2:=u5 s p
 generalize Utf8.decode s p=d at aR a7⊢
 obtain⟨c,w⟩:=d
 obtain⟨_,_,wk,IE,xy⟩:=aR
 simp only at wk IE xy a7⊢
 have Ex:(c<128/\c=bo s p/\w=1)\/(128<=c/\128<=bo s p):=by
  rcases azH c 128 with h|h
  ·exact .inl ⟨h,wk h⟩
  ·refine .inr ⟨h,?_⟩
   rcases azH (bo s p) 128 with h'|h'
   ·have:=IE h';omega
   ·exact h'
 refine⟨λae H'=>ae=[.bool (decide (nq c))]/\H'=a8,?_,?_⟩
 ·refine au (λh=>⟨?_,rfl⟩) (λh=>⟨?_,rfl⟩)
  ·simp at h;congr 2;exact decide_eq_decide.2 (by unfold nq;omega)
  ·simp at h;congr 2;exact(decide_eq_false (by unfold nq;omega)).symm
 rintro br b bA ⟨al,rfl⟩
 simp only [List.cons.injEq,Value.bool.injEq,and_true]at al
 subst al
 have go:n4 c->(p=0->nq c)->(∃p,bA[r]?=some (.stringIter s p)/\p<=s.size/\(∀i,i<p->n4 (bo s i))/\(0<p->nq (bo s 0))/\Fr [] H1 bA)/\B9 r s bA<B9 r s aP:=by
  intro ay aG
  have av:c<128:=by unfold n4 at ay;omega
  rcases Ex with⟨_,aL,a'⟩|⟨h,_⟩
  ·subst a'
   refine⟨⟨p+1,a7,by omega,λi az=> ?_,λ_=> ?_,wC⟩,by rw [ID a7,ID ar];omega⟩
   ·rcases azH i p with h|h
    ·exact fe i h
    ·have:i=p:=by omega
     subst this;rw [<-aL];exact ay
   ·rcases Nat.eq_zero_or_pos p with h|h
    ·subst h;rw [<-aL];exact aG rfl
    ·exact U7 h
  ·omega
 have bad:¬n4 c->∃b,azD false=.bool b/\K b bA:=λh=>no bA wC λfl=>h (by
  have:=fl.2.2.2 p bQ
  rcases Ex with⟨_,aL,_⟩|⟨_,h'⟩
  ·rwa [aL]
  ·unfold n4 at this;omega)
 refine au (λh=> ?_) (λh=>go ?_ ?_)
 ·have aG:¬nq c:=by simpa using h
  refine au (λab=>no bA wC λfl=> ?_) (λab=> ?_)
  ·have lS:p=0:=by
    have ab:(p:Int)=0:=by simpa using ab
    omega
   subst lS
   have:=fl.2.2.1
   rcases Ex with⟨_,aL,_⟩|⟨_,h'⟩
   ·exact aG (by rwa [aL])
   ·unfold nq at this;omega
  have lS:p≠0:=λe=>by subst e;simp at ab
  refine au (λar=> ?_) (λar=>go ?_ (λe=>absurd e lS))
  ·have ar:(c:Int)≠95:=by simpa using ar
   refine au (λa7=>bad ?_) (λa7=>au (λbs=>bad ?_) (λbs=>go ?_ (λe=>absurd e lS)))
   ·simp at a7;unfold n4;unfold nq at aG;omega
   ·simp at bs;unfold n4;unfold nq at aG;omega
   ·simp at a7 bs;unfold n4;omega
  ·have ar:(c:Int)=95:=by simpa using ar
   unfold n4;omega
 ·have:nq c:=by simpa using h
  unfold n4;unfold nq at this;omega
 ·intro _;simpa using h
theorem ai8{K:Bool->U->Prop}(hk:∀H',Fr [] H H'->K (decide (jD s)) H'):
  eu ai9 [aj s] H K:=by
 apply ai'
 refine au (λh=>⟨_,rfl,?_⟩) (λh=> ?_)
 ·have:¬jD s:=λh'=>by have:=h'.1;simp at h;omega
  have ab:=hk H (Fr.refl _ _)
  rwa [decide_eq_false this]at ab
 have dF:s.size<=32:=by simp at h;omega
 refine U6 dt.str λr ao aB ab bG=> ?_
 refine⟨λae H'=>match ae with
   |[.int _ n]=>∃(p m:Nat),n=m/\H'[r]?=some (.stringIter s p)/\p<=s.size/\m<=4*p/\((m=p/\mI s 0=mI s p)\/(p<m/\mI s 0=false))/\Fr [] H H'
   |_=>False,λ_ H'=>B9 r s H',⟨0,0,rfl,ab,by omega,by omega,.inl ⟨rfl,rfl⟩,bG⟩,?_⟩
 rintro br n aP ⟨p,m,rfl,ar,aH,ub,hm,bP⟩
 refine U8 ar (λM0=>.inl ⟨rfl,_,rfl,?_⟩) (λbQ a8 a7 cm=>.inr ⟨_,_,rfl,_,rfl,?_⟩)
 ·have aja:p=s.size:=by omega
  have e:((m:Int)==(s.size:Int))=decide (jD s):=by
   rcases hm with⟨h1,ab⟩|⟨h1,ab⟩
   ·have:jD s:=⟨dF,by rw [ab];exact M1 (by omega)⟩
    rw [bh this];simp;omega
   ·have:¬jD s:=λh=>by rw [h.2]at ab;cases ab
    rw [decide_eq_false this];simp;omega
  rw [e];exact hk aP bP
 have wC:Fr [] H a8:=bP.ag cm (λk hk=>by simp at hk;omega)
 have aR:=U9 s p bQ
 generalize Utf8.decode s p=d at aR a7⊢
 obtain⟨c,w⟩:=d
 obtain⟨rp,rS,wk,IE,xy⟩:=aR
 simp only at rp rS wk IE xy a7⊢
 refine ai1 ?_
 have key:∃q:Nat,EO c=q/\q<=4/\p+w<=s.size/\((q=w/\mI s p=mI s (p+w))\/(w<q/\mI s p=false)):=by
  by_cases hw:ho s p=0
  ·obtain⟨rfl,rfl⟩:=rS hw
   exact⟨3,by decide,by omega,by omega,.inr ⟨by omega,U' bQ hw⟩⟩
  ·obtain⟨bs,b5⟩:=rp hw
   refine⟨w,?_,?_,by rw [bs];exact Va bQ,.inl ⟨rfl,by rw [bs];exact Vb bQ hw⟩⟩
   ·have av:¬(55296<=c/\c<=57343)/\c<=1114111:=by
     unfold tD at b5
     refine⟨λh=> ?_,?_⟩
     ·rw [if_neg (by omega),if_neg (by omega),if_pos (by omega)]at b5;omega
     ·by_cases al:c<=1114111
      ·exact al
      ·rw [if_neg (by omega),if_neg (by omega),if_neg (by omega),if_neg (by omega),if_neg (by omega)]at b5;omega
    rw [ai4 c av.1 av.2,b5]
   ·rw [<-b5];unfold tD;repeat' split
    all_goals omega
 obtain⟨q,aO,av3,EP,Vc⟩:=key
 rw [aO,cj (by omega) (by omega)]
 refine⟨⟨p+w,m+q,by omega,a7,EP,by omega,?_,wC⟩,?_⟩
 ·rcases hm with⟨h1,ab⟩|⟨h1,ab⟩
  ·rcases Vc with⟨ar,bs⟩|⟨ar,bs⟩
   ·exact .inl ⟨by omega,by rw [ab,bs]⟩
   ·exact .inr ⟨by omega,by rw [ab,bs]⟩
  ·refine .inr ⟨?_,ab⟩
   rcases Vc with⟨ar,bs⟩|⟨ar,bs⟩<;>omega
 ·rw [ID a7,ID ar];omega
theorem aka:∀m:Nat,m<256->(azJ 8 m&&&azJ 8 127).toNat=m % 128:=by decide+kernel
theorem u'{m:Nat}(h:m<18446744073709551616):(azx 64 (m:Int)).toNat=m:=by
 rw [BitVec.toNat_ofInt];omega
theorem Na(k:Nat):2^(7*k)=128^k:=by rw [Nat.pow_mul]
theorem Vs{k c:Nat}(hk:k<=9)(av:c<256)(kn:k=9->c<=1):128^k*(c % 128)<9223372036854775808+1:=by
 by_cases h:k=9
 ·subst h
  have:=kn rfl
  omega
 ·have h1:128^k<=128^8:=azN (by omega) (by omega)
  have ab:128^k*(c % 128)<=128^8*127:=Nat.mul_le_mul h1 (by omega)
  omega
theorem akb{k c:Nat}(hk:k<=9)(av:c<256)(kn:k=9->c<=1)(ay:n<128^k):
  IntKind.u64.wrap ((azz (azx 64 (n:Int)|||azx 64 (IntKind.u64.wrap (IntKind.u64.wrap (IntKind.u8.wrap ((azz (azx 8 (c:Int)&&&azx 8 127):Nat):Int))*2^min (azw (IntKind.u64.wrap (IntKind.i64.wrap (7*(k:Int))))) 64))):Nat):Int)=((n+128^k*(c % 128):Nat):Int):=by
 have aL:(azx 8 (c:Int)&&&azx 8 127).toNat=c % 128:=aka c av
 have a':azw (IntKind.u64.wrap (IntKind.i64.wrap (7*(k:Int))))=7*k:=by
  rw [cj (by omega) (by omega),ix (by omega) (by omega)];omega
 have ai:=Vs hk av kn
 have akc:128^k<=128^9:=azN (by omega) hk
 rw [aL,a',rW (by omega),show((c % 128:Nat):Int) % 256=((c % 128:Nat):Int) by omega,ix (n:=((c % 128:Nat):Int)) (by omega) (by omega),Nat.min_eq_left (by omega)]
 have cX:((c % 128:Nat):Int)*2^(7*k)=((128^k*(c % 128):Nat):Int):=by
  rw [<-Na]
  push_cast
  rw [Int.mul_comm]
 rw [cX,ix (n:=((128^k*(c % 128):Nat):Int)) (by omega) (by omega),BitVec.toNat_or,u' (by omega),u' (by omega)]
 have gQ:n|||128^k*(c % 128)=n+128^k*(c % 128):=by
  rw [Nat.or_comm,Nat.add_comm,<-Na]
  rw [<-Na]at ay
  exact(Nat.two_pow_add_eq_or_of_lt ay _).symm
 rw [gQ,ix (by omega) (by omega)]
theorem akd{cg t:List UInt8}{c:UInt8}(aR:va cg)(aG:cg.length=9)(av:1<c.toNat):¬Cc (cg++c::t)/\IL (cg++c::t):=by
 refine⟨λh=>by have:=h.1;simp at this;omega,λn ay gk e=> ?_⟩
 by_cases h:c.toNat<128
 ·obtain⟨_,_,ar,_⟩:=Nb aR h e
  rw [IM,aG]at ar
  simp only [hp]at ar
  omega
 ·refine Vt ay (λd hd'=> ?_) e
  rw [show cg++c::t=(cg++[c])++t by simp,List.take_append,ayB (by simp;omega)]at hd'
  rw [show 10-(cg++[c]).length=0 by simp;omega]at hd'
  simp at hd'
  rcases hd' with h|h
  ·exact aR d h
  ·subst h;omega
theorem ake{cg t:List UInt8}{c:UInt8}(aR:va cg)(aG:cg≠[])(av:c.toNat=0):¬Cc (cg++c::t)/\IL (cg++c::t):=by
 refine⟨λh=> ?_,λn ay gk e=> ?_⟩
 ·have:=h.2 c (by simp);omega
 ·obtain⟨_,_,_,a7⟩:=Nb aR (by omega) e
  exact a7 aG av
theorem akf{cg t:List UInt8}{c:UInt8}{a:Nat}(aR:va cg)(av:c.toNat<128)(aE:cg≠[]->c.toNat≠0)(aI:hp (cg++[c])<18446744073709551616):nu (cg++c::t) a (hp (cg++[c]):Nat) ((a+cg.length+1:Nat):Int) 0:=by
 have e:=Vu cg c aR av aE
 refine .inl ⟨hp (cg++[c]),rfl,aI,?_,?_,?_,rfl⟩
 ·rw [e];simp
 ·rw [e];simp
 ·rw [e];simp;omega
theorem akg{a k:Nat}(h:a+k<s.size):∃c:UInt8,(bd s).drop a=((bd s).drop a).take k++c::((bd s).drop a).drop (k+1)/\c.toNat=bo s (a+k)/\((bd s).drop a)[k]?=some c:=by
 obtain⟨c,h1,ab⟩:=SK h
 rw [yl]at h1
 have ar:((bd s).drop a)[k]?=some c:=by rw [List.getElem?_drop];exact h1
 refine⟨c,?_,ab,ar⟩
 obtain⟨hk,e⟩:=axC.1 ar
 rw [<-e,List.getElem_cons_drop,List.take_append_drop]
theorem zR{at':Int}{K:Int->Int->Int->U->Prop}(hs:s.size<=100000000000)(o':¬(0<=at'/\at'<=s.size)->K 0 0 1 H)
  (hk:∀a:Nat,at'=a->a<=s.size->∀v n e,nu ((bd s).drop a) a v n e->K v n e H):
  aK akh [aj s,o at'] H λv H'=>∃n m e,v=.tuple ⟨[.int .u64 n,.int .i64 m,.int .i64 e]⟩/\K n m e H':=by
 apply Vv
 refine⟨λae H'=>ae=[.int .u64 0]/\H'=H/\0<=at'/\at'<=s.size,?_,?_⟩
 ·refine au (λh=>⟨_,_,_,rfl,o' ?_⟩) (λh=>au (λab=>⟨_,_,_,rfl,o' ?_⟩) (λab=>⟨rfl,rfl,?_,?_⟩))
  ·simp at h;omega
  ·simp at ab;omega
  ·simp at h;omega
  ·simp at ab;omega
 rintro br m0 H1 ⟨ed,rfl,aF,R5⟩
 simp only [List.cons.injEq,Value.int.injEq,true_and,and_true]at ed
 subst ed
 obtain⟨a,rfl⟩:∃a:Nat,at'=a:=⟨at'.toNat,by omega⟩
 have hk:=hk a rfl (by omega)
 have mR:((bd s).drop a).length=s.size-a:=by rw [List.length_drop,dR]
 generalize aB:(bd s).drop a=r at hk mR
 refine⟨λae H'=>match ae with
   |[.int _ m,.int _ i]=>∃k:Nat,i=k/\k<=9/\k<=r.length/\m=((hp (r.take k):Nat):Int)/\va (r.take k)/\H'=H1
   |_=>False,
  λae _=>match ae with|[_,.int _ i]=>10-i.toNat|_=>0,⟨0,rfl,by omega,by omega,by simp [hp],λd aR=>by simp at aR,rfl⟩,?_⟩
 rintro br m i ao ⟨k,rfl,Nc,uc,rfl,aq,rfl⟩
 have ku:IntKind.i64.wrap ((a:Int)+k)=((a+k:Nat):Int):=by rw [cj (by omega) (by omega)];omega
 rw [ku]
 refine au (λ_=> ?_) (λh=>by simp at h;omega)
 refine au (λh1=>⟨_,_,_,rfl,hk _ _ _ (.inr (.inl ⟨rfl,rfl,rfl,?_,?_⟩))⟩) (λh1=> ?_)
 ·have:a+k=s.size:=by simp at h1;omega
  omega
 ·have:a+k=s.size:=by simp at h1;omega
  rwa [ayB (by omega)]at aq
 have bQ:a+k<s.size:=by simp at h1;omega
 obtain⟨c,zb,mc,tI⟩:=akg bQ
 rw [aB]at zb tI
 refine cM (bh (by omega)) ?_
 rw [ayS,<-mc]
 have xd:(r.take k).length=k:=by rw [List.length_take];omega
 have cP:0<k->r.take k≠[]:=λh e=>by rw [e]at xd;simp at xd;omega
 have iD:=c.toNat_lt
 refine⟨λae H'=>ae=[.int .u64 ((hp (r.take k):Nat):Int)]/\H'=ao/\(k=9->c.toNat<=1)/\(0<k->c.toNat≠0),?_,?_⟩
 ·have zero:¬(k=9/\1<c.toNat)->aU (((c.toNat:Int))==0) (aU (decide ((k:Int)>0)) (∃n m e,Value.tuple ⟨[.int .u64 0,.int .i64 0,.int .i64 11]⟩=.tuple ⟨[.int .u64 n,.int .i64 m,.int .i64 e]⟩/\K n m e ao)
    ([ayZ .u64 ((hp (r.take k):Nat):Int)]=[.int .u64 ((hp (r.take k):Nat):Int)]/\ao=ao/\(k=9->c.toNat<=1)/\(0<k->c.toNat≠0)))
    ([ayZ .u64 ((hp (r.take k):Nat):Int)]=[.int .u64 ((hp (r.take k):Nat):Int)]/\ao=ao/\(k=9->c.toNat<=1)/\(0<k->c.toNat≠0)):=λcq=>by
   refine au (λab=>au (λar=>⟨_,_,_,rfl,hk _ _ _ ?_⟩) (λar=>⟨rfl,rfl,λ_=>by simp at ab;omega,λh=>by simp at ar;omega⟩)) (λab=>⟨rfl,rfl,λ_=>by omega,λ_=>by simp at ab;omega⟩)
   rw [zb]
   have:=ake (t:=r.drop (k+1)) aq (cP (by simp at ar;omega)) (c:=c) (by simp at ab;omega)
   exact .inr (.inr ⟨rfl,rfl,rfl,this⟩)
  refine au (λab=>au (λar=>⟨_,_,_,rfl,hk _ _ _ ?_⟩) (λar=>zero (by simp at ar;omega))) (λab=>zero (by simp at ab;omega))
  rw [zb]
  have:=akd (t:=r.drop (k+1)) aq (by simp at ab;omega) (c:=c) (by simp at ar;omega)
  exact .inr (.inr ⟨rfl,rfl,rfl,this⟩)
 rintro br m aP ⟨cX,rfl,kn,aE⟩
 simp only [List.cons.injEq,Value.int.injEq,true_and,and_true]at cX
 subst cX
 have jV:=Vw (r.take k)
 rw [xd]at jV
 rw [akb Nc iD kn jV]
 have s4:=Vs Nc iD kn
 have akc:128^k<=128^9:=azN (by omega) Nc
 have gQ:hp (r.take k)+128^k*(c.toNat % 128)=hp (r.take k++[c]):=by
  rw [IM,xd]
  simp [hp]
 rw [gQ]
 refine cM (bh ?_) ?_
 ·rw [cj (n:=7*(k:Int)) (by omega) (by omega),ix (by omega) (by omega)];omega
 refine au (λbs=> ?_) (λbs=> ?_)
 ·have EY:c.toNat<128:=by simp at bs;omega
  have:=akf (t:=r.drop (k+1)) (a:=a) aq EY (λh=>aE (by cases k with|zero=>simp at h|succ k=>omega)) (by rw [<-gQ];omega)
  rw [<-zb,xd]at this
  rw [cE (by omega)]
  exact⟨_,_,_,rfl,hk _ _ _ this⟩
 ·have EY:128<=c.toNat:=by simp at bs;omega
  rw [cE (by omega)]
  have kg:r.take (k+1)=r.take k++[c]:=by rw [azP,tI];rfl
  refine⟨⟨k+1,rfl,by omega,by omega,by rw [kg],?_,rfl⟩,dU (by omega)⟩
  rw [kg]
  intro d aR
  rcases azb.1 aR with h|h
  ·exact aq d h
  ·simp at h;subst h;exact EY
theorem ajb{K:Bool->U->Prop}(hk:K (decide (p4 s)) H):
  eu ajc [aj s] H K:=by
 apply ajd
 have no:¬p4 s->∃b,azD false=.bool b/\K b H:=λh=>⟨_,rfl,by rwa [decide_eq_false h]at hk⟩
 refine⟨λae H'=>H'=H/\1<=s.size/\s.size<=16/\nq (bo s 0),?_,?_⟩
 ·refine au (λh=>no λh'=> ?_) (λh=>au (λab=>no λh'=> ?_) (λab=> ?_))
  ·have:=h'.1;simp at h;omega
  ·have:=h'.2.1;simp at ab;omega
  have g1:1<=s.size:=by simp at h;omega
  refine cM (bh (by omega)) (au (λar=>no λh'=> ?_) (λar=>cM (bh (by omega)) (au (λa7=>no λh'=> ?_) (λa7=>⟨rfl,g1,by simp at ab;omega,?_⟩))))
  ·have:=h'.2.2.1;unfold nq at this;simp at ar;omega
  ·have:=h'.2.2.1;unfold nq at this;simp at a7;omega
  ·simp at ar a7;unfold nq;omega
 rintro br H1 ⟨rfl,g1,g2,g3⟩
 refine⟨λae H'=>match ae with|[.int _ i]=>∃k:Nat,i=k/\k<=s.size/\(∀j,j<k->n4 (bo s j))/\H'=H1|_=>False,
  λae _=>match ae with|[.int _ i]=>s.size-i.toNat|_=>0,⟨0,rfl,by omega,λj h=>by omega,rfl⟩,?_⟩
 rintro br i ao ⟨k,rfl,hle,fe,rfl⟩
 refine au (λaF=> ?_) (λaF=>⟨_,rfl,?_⟩)
 ·have b':k<s.size:=by simpa using aF
  rw [cE (by omega),ayS]
  refine⟨λ_ H'=>H'=ao/\n4 (bo s k),?_,?_⟩
  ·refine cM (bh (by omega)) ?_
   have bad:¬n4 (bo s k)->∃b,azD false=.bool b/\K b ao:=λh=>no λh'=>h (h'.2.2.2 k b')
   refine au (λh1=>au (λab=>au (λar=>bad ?_) (λar=>⟨rfl,?_⟩)) (λab=>au (λar=>au (λa7=>bad ?_) (λa7=>⟨rfl,?_⟩)) (λar=>⟨rfl,?_⟩)))
    (λh1=>au (λbs=>au (λab=>au (λar=>bad ?_) (λar=>⟨rfl,?_⟩)) (λab=>au (λar=>au (λa7=>bad ?_) (λa7=>⟨rfl,?_⟩)) (λar=>⟨rfl,?_⟩))) (λbs=>⟨rfl,?_⟩))
   all_goals(simp at *;unfold n4;omega)
  ·rintro br aP ⟨rfl,ay⟩
   refine⟨⟨k+1,rfl,by omega,λj bq=> ?_,rfl⟩,dU b'⟩
   rcases azH j k with h|h
   ·exact fe j h
   ·have:j=k:=by omega
    subst this;exact ay
 ·have:p4 s:=⟨g1,g2,g3,λi az=>fe i (by simp at aF;omega)⟩
  rwa [bh this]at hk
theorem aje{c:Bool}{X Y:Prop}:aU c X Y↔((c=true->X)/\(c=false->Y)):=by cases c<;>simp [aU]
theorem ajf{K:Int->U->Prop}(hs:0<s.size)(dF:s.size<=1000000000)(hk:K (ho s 0) H):
  cG ajg [aj s] H K:=by
 apply ajh
 have al:=u5 s 0
 have ku:IntKind.i64.wrap ((bo s 0:Nat):Int)=((bo s 0:Nat):Int):=cj (by omega) (by omega)
 refine cM (bh (by omega)) ?_
 simp only [Int.toNat_zero,ku]
 have zero:ho s 0=0->∃n,ayZ .i64 0=.int .i64 n/\K n H:=λh=>⟨_,rfl,by rw [h]at hk;exact hk⟩
 refine⟨λae H'=>H'=H/\¬bo s 0<128/\ae=[.int .i64 (hK (bo s 0)),.int .i64 (q1 (bo s 0))],?_,?_⟩
 ·refine au (λh=>⟨_,rfl,?_⟩) (λh=> ?_)
  ·have:ho s 0=1:=by unfold ho;rw [if_pos (by simp at h;omega)]
   rw [this]at hk;exact hk
  have c0:¬bo s 0<128:=by simp at h;omega
  refine⟨λae H'=>H'=H/\ae=[.bool (decide (192<=bo s 0/\bo s 0<224))],?_,?_⟩
  ·refine au (λh1=>⟨rfl,?_⟩) (λh1=>⟨rfl,?_⟩)
   ·simp at h1;congr 2;exact decide_eq_decide.2 (by omega)
   ·simp at h1;congr 2;exact(decide_eq_false (by omega)).symm
  rintro br b H' ⟨rfl,dA⟩
  simp only [List.cons.injEq,Value.bool.injEq,and_true]at dA
  subst dA
  refine au (λh1=>⟨rfl,c0,?_⟩) (λh1=> ?_)
  ·have h1:=of_decide_eq_true h1
   unfold hK q1
   rw [if_pos h1,if_pos h1,cj (by omega) (by omega)]
   congr 3;omega
  have cD:=of_decide_eq_false h1
  refine⟨λae dn=>dn=H'/\ae=[.bool (decide (224<=bo s 0/\bo s 0<240))],?_,?_⟩
  ·refine au (λh1=>⟨rfl,?_⟩) (λh1=>⟨rfl,?_⟩)
   ·simp at h1;congr 2;exact decide_eq_decide.2 (by omega)
   ·simp at h1;congr 2;exact(decide_eq_false (by omega)).symm
  rintro br b H' ⟨rfl,dA⟩
  simp only [List.cons.injEq,Value.bool.injEq,and_true]at dA
  subst dA
  refine au (λh1=>⟨rfl,c0,?_⟩) (λh1=> ?_)
  ·have h1:=of_decide_eq_true h1
   unfold hK q1
   rw [if_neg cD,if_pos h1,if_neg cD,if_pos h1,cj (by omega) (by omega)]
   congr 3;omega
  have cz:=of_decide_eq_false h1
  have none:¬(240<=bo s 0/\bo s 0<248)->H'=H'/\¬bo s 0<128/\[ayZ .i64 0,ayZ .i64 0]=[.int .i64 (hK (bo s 0)),.int .i64 (q1 (bo s 0))]:=λh=>by
   refine⟨rfl,c0,?_⟩
   unfold hK q1
   rw [if_neg cD,if_neg cz,if_neg h,if_neg cD,if_neg cz,if_neg h];rfl
  refine au (λh1=>au (λab=>⟨rfl,c0,?_⟩) (λab=>none ?_)) (λh1=>none ?_)
  ·have ar:240<=bo s 0/\bo s 0<248:=by simp at h1 ab;omega
   unfold hK q1
   rw [if_neg cD,if_neg cz,if_pos ar,if_neg cD,if_neg cz,if_pos ar,cj (by omega) (by omega)]
   congr 3;omega
  ·simp at ab;omega
  ·simp at h1;omega
 rintro br fg nT H1 ⟨rfl,c0,aI⟩
 simp only [List.cons.injEq,Value.int.injEq,true_and,and_true]at aI
 obtain⟨rfl,rfl⟩:=aI
 have cS:hK (bo s 0)<=4:=by
   unfold hK;repeat' split
   all_goals omega
 have av4:q1 (bo s 0)<64:=by
   unfold q1;repeat' split
   all_goals omega
 have tq:ho s 0=if hK (bo s 0)=0\/s.size<0+hK (bo s 0)then 0 else if∀k,k<hK (bo s 0)-1->gG s 0 (k+1)then(if ns (hK (bo s 0)) (kv s 0 (hK (bo s 0)-1))then 0 else hK (bo s 0))else 0:=by
  unfold ho;rw [if_neg c0]
 generalize hK (bo s 0)=n at *
 refine⟨λ_ H'=>H'=H1/\n≠0/\n<=s.size,?_,?_⟩
 ·refine au (λh=>zero ?_) (λh=>au (λab=>zero ?_) (λab=>⟨rfl,?_,?_⟩))
  ·rw [tq,if_pos (.inl (by
    have h:(n:Int)=0:=by simpa using h
    omega))]
  ·rw [tq,if_pos (.inr (by simp at ab;omega))]
  ·intro e;subst e;simp at h
  ·simp at ab;omega
 rintro br ao ⟨rfl,ou,gY⟩
 rw [if_neg (by omega)]at tq
 refine⟨λae H'=>match ae with|[.int _ r,.int _ i]=>∃k:Nat,i=((k+1:Nat):Int)/\k+1<=n/\r=(kv s 0 k:Nat)/\kv s 0 k<64^(k+1)/\(∀j,j<k->gG s 0 (j+1))/\H'=ao|_=>False,
  λae _=>match ae with|[_,.int _ i]=>n-i.toNat|_=>0,⟨0,rfl,by omega,rfl,by show q1 (bo s 0)<64^1;omega,λj h=>by omega,rfl⟩,?_⟩
 rintro br r i aP ⟨k,rfl,eC,rfl,IF,av,rfl⟩
 have Im:k<=3:=by omega
 have aji:kv s 0 k<16777216:=Nat.lt_of_lt_of_le IF (by
  have:64^(k+1)<=64^4:=azN (by omega) (by omega)
  omega)
 refine au (λaF=> ?_) (λaF=> ?_)
 ·have b':k+1<n:=by simp at aF;omega
  have dA:=u5 s (k+1)
  rw [cE (by omega),ayS]
  refine⟨λ_ H'=>H'=aP/\gG s 0 (k+1),?_,?_⟩
  ·have bad:¬gG s 0 (k+1)->∃n,ayZ .i64 0=.int .i64 n/\K n aP:=λh=>zero (by rw [tq,if_neg λh'=>h (h' k (by omega))])
   have mg:gG s 0 (k+1)↔(128<=bo s (k+1)/\bo s (k+1)<192):=by unfold gG;rw [axJ]
   refine cM (bh (by omega)) (au (λh1=>bad ?_) (λh1=>cM (bh (by omega)) (au (λab=>bad ?_) (λab=>⟨rfl,?_⟩))))
   ·rw [mg];simp at h1;omega
   ·rw [mg];simp at ab;omega
   ·rw [mg];simp at h1 ab;omega
  ·rintro br a8 ⟨rfl,r3⟩
   have mg:128<=bo s (k+1)/\bo s (k+1)<192:=by unfold gG at r3;rwa [axJ]at r3
   refine cM (bh (by omega)) ?_
   have aL:IntKind.i64.wrap (IntKind.i64.wrap (IntKind.i64.wrap ((kv s 0 k:Nat)*64)+IntKind.i64.wrap ((bo s (k+1):Nat):Int))-128)=((kv s 0 (k+1):Nat):Int):=by
    rw [cj (n:=(kv s 0 k:Nat)*64) (by omega) (by omega),cj (n:=(bo s (k+1):Nat)) (by omega) (by omega),cj (n:=(kv s 0 k:Nat)*64+(bo s (k+1):Nat)) (by omega) (by omega),cj (by omega) (by omega)]
    show _=((kv s 0 k*64+bo s (0+(k+1))-128:Nat):Int)
    rw [axJ]
    omega
   rw [aL]
   refine⟨⟨k+1,rfl,by omega,rfl,?_,λj bq=> ?_,rfl⟩,by show n-((k+1+1:Nat):Int).toNat<n-((k+1:Nat):Int).toNat;omega⟩
   ·show kv s 0 k*64+bo s (0+(k+1))-128<_
    rw [axJ,aym]
    omega
   ·rcases azH j k with h|h
    ·exact av j h
    ·have:j=k:=by omega
     subst this;exact r3
 ·have z8:k=n-1:=by simp at aF;omega
  subst z8
  rw [if_pos av]at tq
  generalize kv s 0 (n-1)=r at *
  have bad:ns n r->∃n,ayZ .i64 0=.int .i64 n/\K n aP:=λh=>zero (by rw [tq,if_pos h])
  refine⟨λ_ H'=>H'=aP/\¬ns n r,?_,?_⟩
  ·have jM:∀m:Nat,((n:Int)==(m:Int))=decide (n=m):=λm=>by
    by_cases e:n=m
    ·subst e;simp
    ·rw [decide_eq_false e];simp;omega
   have a':=jM 2
   have cX:=jM 3
   have gQ:=jM 4
   simp only [Int.cast_ofNat_Int]at a' cX gQ
   rw [a',cX,gQ]
   clear a' cX gQ jM hk zero tq av IF aji ku
   generalize(∃n,ayZ .i64 0=.int .i64 n/\K n aP)=Z at *
   have ajj:(aP=aP/\¬ns n r)↔¬ns n r:=⟨λh=>h.2,λh=>⟨rfl,h⟩⟩
   simp only [aje,decide_eq_true_eq,decide_eq_false_iff_not,ajj]
   by_cases al:ns n r
   ·have aE:=bad al
    simp only [aE,al,not_true,imp_false,implies_true,true_and,and_true]
    unfold ns at al
    omega
   ·simp only [al,not_false_iff,implies_true,true_and,and_true]
    unfold ns at al
    clear bad
    refine⟨?_,?_⟩
    all_goals(intros;repeat' (first|apply And.intro|intro _))
    all_goals(exfalso;omega)
  ·rintro br a8 ⟨rfl,s5⟩
   rw [if_neg s5]at tq
   refine⟨_,rfl,?_⟩
   rw [tq]at hk;exact hk
theorem ajk{K:Bool->U->Prop}(hk:K (decide (jD s)) H):
  eu ajl [aj s] H K:=by
 apply ajm
 have no:¬jD s->∃b,azD false=.bool b/\K b H:=λh=>⟨_,rfl,by rwa [decide_eq_false h]at hk⟩
 refine au (λh=>no λh'=>by have:=h'.1;simp at h;omega) (λh=> ?_)
 have dF:s.size<=32:=by simp at h;omega
 refine⟨λae H'=>match ae with|[.string t]=>∃p,t=s.extract p s.size/\p<=s.size/\mI s 0=mI s p/\H'=H|_=>False,
  λae _=>match ae with|[.string t]=>t.size|_=>0,⟨0,by apply iV;rw [tE,<-dR,ayX];rfl,by omega,rfl,rfl⟩,?_⟩
 rintro br t H1 ⟨p,rfl,aH,aw,rfl⟩
 refine au (λaF=> ?_) (λaF=>⟨_,rfl,?_⟩)
 ·have b':p<s.size:=by rw [tF]at aF;simp at aF;omega
  have hw:=ajn s p 0 (by omega)
  rw [Nat.add_zero]at hw
  refine ajf (by rw [tF];omega) (by rw [tF];omega) ?_
  rw [hw]
  have hle:=Va b'
  refine au (λh1=>no λh'=> ?_) (λh1=> ?_)
  ·have h1:((ho s p:Nat):Int)=0:=by simpa using h1
   have:=U' b' (by omega)
   rw [<-aw,h'.2]at this;cases this
  ·have h1:ho s p≠0:=λe=>by rw [e]at h1;simp at h1
   refine cM (bh ?_) ?_
   ·rw [tF];omega
   rw [ayS,ayS,ajo s p _ hle]
   refine⟨⟨_,rfl,hle,?_,rfl⟩,?_⟩
   ·rw [aw,Vb b' h1]
   ·show(s.extract (p+ho s p) s.size).size<(s.extract p s.size).size
    rw [tF,tF];omega
 ·have aja:p=s.size:=by rw [tF]at aF;simp at aF;omega
  have:jD s:=⟨dF,by rw [aw];exact M1 (by omega)⟩
  rwa [bh this]at hk
def g':di hV:=⟨λx=>[.string x.1,.string x.2],2,λ_=>rfl,by decide,λ_ v h=>by simp at h;rcases h with rfl|rfl<;>rfl⟩
theorem aeW:j8 azB 51 2 32=true:=by kernel_rfl
theorem aeV:sliceB azB 45 51=true:=by kernel_rfl
abbrev Vd(x:hV):Value:=.agg ⟨[.string x.1,.string x.2]⟩
theorem HM{aC:Addr}{x:hV}(h:gu H aC (g'.cells x)):ah 51 H aC (Vd x):=vU (by kernel_rfl) (by kernel_rfl) h
theorem z'{aC:Addr}{x:hV}(h:gu H aC (g'.cells x)):ah 9 H aC (.string x.1):=x7 (by kernel_rfl) (by have:=h 0 _ rfl;simpa [Addr.add]using this)
theorem IG{aC:Addr}{x:hV}(h:gu H aC (g'.cells x)):ah 9 H (aC.add 1) (.string x.2):=pC (by kernel_rfl) h (j:=1) rfl
theorem HN{x:hV}{zs:List Value}{K:Nat->U->Prop}(aE:zs.length=2)
  (k:∀b H',H.size<=b->a6 H' ⟨b,0,none⟩ [.string x.1,.string x.2]->Fr [] H H'->K b H'):
  ∀b H',dV H b (.cells ⟨zs⟩ 51) H'->∃hv,bp 51 H' ⟨b,0,none⟩ (Vd x) hv/\K b hv:=
 iS (by kernel_rfl) (by kernel_rfl) (λv h=>by simp [azI]at h;rcases h with rfl|rfl<;>rfl) aE k
theorem _root_.Go.bk.a6.hh{x y:ByteArray}(h:a6 H ⟨b,0,none⟩ [.string x,.string y]):ah 9 H ⟨b,0,none⟩ (.string x):=h.bY rfl
theorem _root_.Go.bk.a6.s1{x y:ByteArray}(h:a6 H ⟨b,0,none⟩ [.string x,.string y]):ah 9 H ⟨b,1,none⟩ (.string y):=h.cF 1 rfl
theorem IH(s:ByteArray):(s=⟨#[]⟩)↔s.size=0:=⟨λh=>by subst h;rfl,λe=>by apply iV;show bd s=[];exact ayT (by rw [dR];exact e)⟩
theorem Ve(s t:ByteArray):(Op.bytesLess s.toList t.toList||s.toList==t.toList)= !kx t s:=by
 rw [ajp,yV]
 cases h:kx t s with
 |true=>
  rw [ajq h]
  have:¬s=t:=λe=>by subst e;rw [M4]at h;cases h
  simp [this]
 |false=>
  cases ab:kx s t with
  |true=>rfl
  |false=>simp [ajr ab h]
noncomputable def u6(l:List hV):Int:=open Classical in if fa l then 0 else 40
theorem zB{l:List hV}(h:¬fa l):u6 l=40:=if_neg h
theorem BE{l:List hV}(h:fa l):u6 l=0:=if_pos h
theorem Vf{l:List hV}{k:Nat}(hk:k=l.length)(h:∀i x y,i+1<k->l[i]?=some x->l[i+1]?=some y->kx x.1 y.1=true):D' l:=λi x y aa aA=>h i x y (by
 have:=(axC.1 aA).1;omega) aa aA
theorem LI{a:Option Addr}{c:Nat}{xs:List hV}{K:Int->U->Prop}(aa:bt g' H a n c xs)(ay:n<=1000000000)(hk:∀H',Fr [] H H'->K (u6 xs) H'):
  cG ajs [J a n c] H K:=by
 apply ajt
 have j6:=aa.len
 have no:∀H',Fr [] H H'->¬fa xs->∃e,ayZ .i64 40=.int .i64 e/\K e H':=λH' ai h=>⟨_,rfl,by have:=hk H' ai;rwa [zB h]at this⟩
 refine⟨λae H'=>match ae with
   |[.string last,.int _ i]=>∃k:Nat,i=k/\k<=n/\(∀x∈xs.take k,p3 x)/\(∀i x y,i+1<k->xs[i]?=some x->xs[i+1]?=some y->kx x.1 y.1=true)/\((k=0/\last=⟨#[]⟩)\/∃x,0<k/\xs[k-1]?=some x/\last=x.1)/\Fr [] H H'
   |_=>False,
  λae _=>match ae with|[_,.int _ i]=>n-i.toNat|_=>0,⟨0,rfl,by omega,by simp,λ_ _ _ h=>by omega,.inl ⟨rfl,rfl⟩,Fr.refl _ _⟩,?_⟩
 rintro br last i H1 ⟨k,rfl,hle,fe,aB,tr,ai⟩
 refine au (λaF=> ?_) (λaF=> ?_)
 ·have b':k<n:=by simpa using aF
  have cB:xs[k]?=some (xs[k]'(by omega)):=by simp
  generalize xs[k]'(by omega)=x at cB
  have dT:x∈xs:=azR cB
  refine(aa.ag ai).get rfl cB (bh (by omega)) λaC b4 av=>⟨_,_,HM av,?_⟩
  refine HN rfl λb ao al aI bG=> ?_
  have aju:=ai.aT bG
  refine⟨λ_ H'=>Fr [] H H'/\a6 H' ⟨b,0,none⟩ [.string x.1,.string x.2]/\p3 x/\kx last x.1=true,?_,?_⟩
  ·refine⟨_,aI.hh,ai5 λaP bP=> ?_⟩
   have ER:=aju.aT bP
   refine au (λh=>no aP ER λh'=> ?_) (λh=>⟨_,(aI.ag bP).hh,?_⟩)
   ·have:=(h'.2.1 x dT).1;simp [this]at h
   have fl:p4 x.1:=by simpa using h
   rw [Ve]
   refine au (λh=>no aP ER λh'=> ?_) (λh=>⟨_,(aI.ag bP).s1,?_⟩)
   ·rcases tr with⟨_,rfl⟩|⟨y,h1,ab,rfl⟩
    ·have ar:kx ayV x.1=decide (x.1.size≠0):=ajv
     have a7:x.1.size≠0:=by have:=fl.1;omega
     rw [bh a7]at ar
     have bs:(⟨#[]⟩:ByteArray)=ayV:=rfl
     rw [bs,ar]at h;cases h
    ·have:=h'.2.2 (k-1) y x ab (by rw [show k-1+1=k by omega];exact cB)
     rw [this]at h;cases h
   have bQ:kx last x.1=true:=by simpa using h
   rw [yV]
   refine au (λh=>no aP ER λh'=> ?_) (λh=>⟨_,(aI.ag bP).s1,ai8 λa8 cm=> ?_⟩)
   ·have:=(h'.2.1 x dT).2.2;have h:=of_decide_eq_true h;rw [IH]at h;omega
   have cP:1<=x.2.size:=by have h:=of_decide_eq_false h;rw [IH]at h;omega
   refine au (λh=>no a8 (ER.aT cm) λh'=> ?_) (λh=>⟨ER.aT cm,(aI.ag bP).ag cm,⟨fl,by simpa using h,cP⟩,bQ⟩)
   have:=(h'.2.1 x dT).2.1;simp [this]at h
  ·rintro br aP ⟨bP,ajw,bZ,bQ⟩
   rw [cE (by omega)]
   refine⟨_,ajw.hh,⟨k+1,rfl,by omega,?_,?_,.inr ⟨x,by omega,by rw [show k+1-1=k by omega];exact cB,rfl⟩,bP⟩,dU b'⟩
   ·intro y aA
    rw [azP,cB]at aA
    rcases azb.1 aA with h|h
    ·exact fe y h
    ·simp at h;subst h;exact bZ
   ·intro i u w az hu hw
    rcases azH (i+1) k with h|h
    ·exact aB i u w h hu hw
    ·have:i+1=k:=by omega
     subst this
     rw [cB]at hw;cases hw
     rcases tr with⟨h1,_⟩|⟨y,h1,ab,rfl⟩
     ·omega
     ·rw [show i+1-1=i by omega,hu]at ab;cases ab;exact bQ
 ·have eC:k=n:=by simp at aF;omega
  subst eC
  rw [j6,ayX]at fe
  refine au (λh=>no H1 ai λh'=> ?_) (λh=>⟨_,rfl,?_⟩)
  ·have:=h'.1;simp at h;omega
  ·have dj:fa xs:=⟨by simp at h;omega,fe,Vf j6 aB⟩
   have:=hk H1 ai
   rwa [BE dj]at this
theorem ajx{a:Option Addr}{c:Nat}{xs:List hV}{K:Int->U->Prop}(aa:bt g' H a n c xs)(hk:K (u6 xs) H):
  cG ajy [J a n c] H K:=by
 apply ajz
 have j6:=aa.len
 have no:¬fa xs->∃e,ayZ .i64 40=.int .i64 e/\K e H:=λh=>⟨_,rfl,by rwa [zB h]at hk⟩
 refine au (λh=>no λh'=>by have:=h'.1;simp at h;omega) (λh=> ?_)
 have xW:n<=8:=by simp at h;omega
 refine⟨λae H'=>match ae with
   |[.int _ i]=>∃k:Nat,i=k/\k<=n/\(∀x∈xs.take k,p3 x)/\(∀i x y,i+1<k->xs[i]?=some x->xs[i+1]?=some y->kx x.1 y.1=true)/\H'=H
   |_=>False,
  λae _=>match ae with|[.int _ i]=>n-i.toNat|_=>0,⟨0,rfl,by omega,by simp,λ_ _ _ h=>by omega,rfl⟩,?_⟩
 rintro br i H1 ⟨k,rfl,hle,fe,aB,rfl⟩
 refine au (λaF=> ?_) (λaF=>⟨_,rfl,?_⟩)
 ·have b':k<n:=by simpa using aF
  have cB:xs[k]?=some (xs[k]'(by omega)):=by simp
  generalize xs[k]'(by omega)=x at cB
  have dT:x∈xs:=azR cB
  refine⟨λ_ H'=>H'=H1/\p3 x/\(0<k->∀y,xs[k-1]?=some y->kx y.1 x.1=true),?_,?_⟩
  ·refine aa.get rfl cB (bh (by omega)) λaC b4 av=>⟨_,z' av,ajb ?_⟩
   refine au (λh=>no λh'=> ?_) (λh=> ?_)
   ·have:=(h'.2.1 x dT).1;simp [this]at h
   have fl:p4 x.1:=by simpa using h
   refine aa.get rfl cB (bh (by omega)) λaC b4 av=>⟨_,IG av,ajk ?_⟩
   refine au (λh=>no λh'=> ?_) (λh=> ?_)
   ·have:=(h'.2.1 x dT).2.1;simp [this]at h
   have yj:jD x.2:=by simpa using h
   refine aa.get rfl cB (bh (by omega)) λaC b4 av=>⟨_,IG av,?_⟩
   rw [yV]
   refine au (λh=>no λh'=> ?_) (λh=> ?_)
   ·have:=(h'.2.1 x dT).2.2;have h:=of_decide_eq_true h;rw [IH]at h;omega
   have bZ:p3 x:=⟨fl,yj,by have h:=of_decide_eq_false h;rw [IH]at h;omega⟩
   refine au (λh=> ?_) (λh=>⟨rfl,bZ,λh'=>by simp at h;omega⟩)
   have zf:0<k:=by simpa using h
   have oO:xs[k-1]?=some (xs[k-1]'(by omega)):=by simp
   generalize xs[k-1]'(by omega)=y at oO
   rw [uQ (by omega) zf]
   refine aa.get rfl cB (bh (by omega)) λaC b4 av=>⟨_,z' av,?_⟩
   refine aa.get rfl oO (bh (by omega)) λwm hi aR=>⟨_,z' aR,?_⟩
   rw [Ve]
   refine au (λh=>no λh'=> ?_) (λh=>⟨rfl,bZ,λ_ z aE=> ?_⟩)
   ·have:=h'.2.2 (k-1) y x oO (by rw [show k-1+1=k by omega];exact cB)
    rw [this]at h;cases h
   ·rw [oO]at aE;cases aE;simpa using h
  ·rintro br aP ⟨rfl,bZ,bQ⟩
   rw [cE (by omega)]
   refine⟨⟨k+1,rfl,by omega,?_,?_,rfl⟩,dU b'⟩
   ·intro y aA
    rw [azP,cB]at aA
    rcases azb.1 aA with h|h
    ·exact fe y h
    ·simp at h;subst h;exact bZ
   ·intro i u w az hu hw
    rcases azH (i+1) k with h|h
    ·exact aB i u w h hu hw
    ·have:i+1=k:=by omega
     subst this
     rw [cB]at hw;cases hw
     exact bQ (by omega) u hu
 ·have eC:k=n:=by simp at aF;omega
  subst eC
  rw [j6,ayX]at fe
  have dj:fa xs:=⟨by omega,fe,Vf j6 aB⟩
  rwa [BE dj]at hk
theorem aeL{l:List hV}(h:∀x∈l,p3 x):(hW l).length<=50*l.length:=by
 induction l with
 |nil=>simp [hW]
 |cons x l ih=>
  have aa:=h x (by simp)
  have:=ih λy aA=>h y (by simp [aA])
  unfold p3 p4 jD at aa
  simp only [hW,List.flatMap_cons,ax6,ayi,e6,dR]at this⊢
  rw [qS (by omega),qS (by omega)]
  simp only [ayi,List.length_nil]
  omega
end Go.Proofs
