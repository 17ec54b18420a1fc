/- EngineRefuses (law 21): for every input the law returns true, and its arguments read as before. The laid tables and errors are tied to the program's text by the card. -/
import Derived.Test.YtlafckjfkaldaaaGreatDoorP7
import Derived.Test.YtlafckjfkaldaaaGreatDoorS21c
import Derived.Test.YtlafckjfkaldaaaGreatDoorCards
import Derived.Test.YtlafckjfkaldaaaGreatDoorChecked
import Derived.SevenTiedAt
open _root_.Go.Proofs.Tryz renaming prog→atf,f3→awn,checked→awo
set_option linter.unusedVariables false
set_option maxRecDepth 100000
open Go Go.bs
namespace Go.Proofs.YtlafckjfkaldaaaGreatDoor
open Go.ChangeShapes Go.WideShapes Go.ChangeAt Go.RowKit
theorem own:ownKnob Tryz.prog.godebug=none:=by kernel_rfl
theorem aou:laidOutB atf=true:=by kernel_rfl
theorem aov(os:Os)(args:Array Value):laidMetH atf s3 ((World.doorLaid atf 400 os).forCall (λ_ _=>0) ⟨#[],args,[]⟩).memory:=
 laidMetH_of_parts3 (fuel:=8) (laidMet_of_run' 8 (by kernel_rfl) (by kernel_rfl)) (by kernel_rfl) (by kernel_rfl)
abbrev aow:Value:=.agg #[.int .i64 0,.slice none 0 0,.slice none 0 0,.int .i64 0,.int .i64 0,.int .i64 0,.int .i64 0,.string ⟨#[]⟩]
set_option maxRecDepth 100000 in
theorem aox(os:Os)(X:Type)(enc:TypeId×Value->X):∃(w:World) (tape:Tape) (i:Input),w.os=os/\(w.forCall tape i).Shaped Tryz.checked.prog/\i.vars=[]/\Input.okWide Tryz.checked.prog (w.forCall tape i) .any w.heap.size 3 i∧
   (((Rows.engineRefusesSpec.pre enc Tryz.checked.prog awn [] false (w.forCall tape i).memory i.args/\laidMetH atf s3 (w.forCall tape i).memory)/\sizedMet enc Tryz.checked.prog awn (OpenSpec.ofChange Rows.engineRefusesSpec) false (w.forCall tape i).memory i.args)/\Assume.holds {} Tryz.checked.prog (lone (Frame.enter Tryz.checked.prog 3 i.args .normal) [] (w.forCall tape i))):=
 ChangeSpec.witness_shaped (enc:=enc) (C:=awo) (os:=os) (X:=λw _=>laidMetH atf s3 w) false (World.doorLaid atf 400 os) #[.slice none 0 0,aow] 8 rfl (World.shaped_of_RefB (by kernel_rfl) (by kernel_rfl)) (by kernel_rfl) (by kernel_rfl) (by kernel_rfl) (aov os _)
theorem fn(X:Type):∀cT:List (DataW X),cT.length=([22,28]:List TypeId).length->Rows.engineRefusesSpec.fn X cT={results:=[.lit (.bool true)],args:=cT}:=λcT h=>by
 match cT,h with
 |[d1,d2],_=>rfl
theorem lifted(os:Os)(started:os.Started)(X:Type)(enc:TypeId×Value->X):
  ReturnsInHanded {} awo os 3 .any (λw args=>(Rows.engineRefusesSpec.pre enc atf awn [] false w args/\laidMetH atf s3 w)/\sizedMet enc atf awn (OpenSpec.ofChange Rows.engineRefusesSpec) false w args)
   (Rows.engineRefusesSpec.post enc atf awn false true false false):=by
 refine returnsInHanded_of_calls (C:=awo) own started (by kernel_rfl) (aox os X enc) ?_
 intro w tape i _ aoy _ iT FZ _
 obtain⟨_,_,_,PJ,aoz,_,_,_,_,vt⟩:=iT
 have e:PJ=awn:=Option.some.inj (aoz.symm.trans Tryz.func3)
 subst e
 obtain⟨⟨⟨cT,gs,before,hw,ak⟩,aa⟩,aC⟩:=FZ
 have nq:=DataW.Whole.of_heap (w':=w.forCall tape i) (by rfl) hw
 have gF:laidMetH atf s3 (w.forCall tape i):=laidMetH.of_heap (by rfl) aa
 obtain⟨g1,g2⟩:=aoA aoy gF
 refine(aoB (tb:=4) Tryz.params3 rfl (fn X) (by kernel_rfl) Tryz.underlying4 (by kernel_rfl) aou (w.forCall tape i) w.heap.size i.args cT gs before (λh=>aoC h g1 g2) vt nq).mono λe W'=> ?_
 rintro⟨v,rfl,bh⟩
 exact ChangeSpec.post_blind bh
theorem aoD(P:Program)(c:OpenClaim)(k:FuncId)(s:String)(hs:c.start=.entering)(ay:c.func=s)(af:P.funcNamed s=some k)(aZ:P.goes k=false):false=c.goesBy P:=by
 unfold OpenClaim.goesBy Program.goesAt Program.goesFrom
 rw [hs,ay,af]
 simp [aZ]
theorem aZ:false=Rows.engineRefusesRow.goesBy atf:=
 aoD atf Rows.engineRefusesRow 3 "strandline/strandlinelaw21.EngineRefuses" rfl rfl (by kernel_rfl) aoE
theorem over:Rows.EngineRefusesSaid:=
 OpenClaim.holds_of_wide 3 awn rfl rfl rfl rfl rfl rfl rfl ⟨rfl,rfl,rfl,rfl,rfl⟩ rfl rfl rfl rfl rfl (by kernel_rfl) Tryz.func3 closed
  (of_decide_eq_true (by kernel_rfl)) (by unfold Func.isWrapper;first|(rw [if_pos (by decide+kernel)];kernel_rfl)|(rw [if_neg (by decide+kernel)];exact⟨rfl,rfl⟩))
  (λos started X enc _=>lifted os started X enc)
theorem engineRefusesProved:Rows.EngineRefusesCardSaid:=
 Claim7.holds_tied_plain_at .later [] [.data,.data,.data,.data,.sentinel,.sentinel] true (true, "02aa1560f81004a2edffad43ace013bd66dba9eae39370d7843386a624589140") true
  over (λ_ h=>by cases h) (by kernel_rfl) (λ_ h=>by cases h) engineRefuses_row_tie rfl ⟨rfl,rfl⟩ (by kernel_rfl) rfl
  (λf fn af Ek=>by
   obtain rfl:f=3:=Option.some.inj ((show Tryz.prog.funcNamed "strandline/strandlinelaw21.EngineRefuses" =some 3 by kernel_rfl).symm.trans af)|>.symm
   obtain rfl:fn=awn:=(Option.some.inj (Tryz.func3.symm.trans Ek)).symm
   exact⟨by kernel_rfl,λj t bf=>by
    rw [Tryz.params3]at bf
    have hm:t∈[22,28]:=by simpa using Array.mem_of_getElem? bf
    have dG:([22,28].all λu=> !Tryz.prog.wantsStandIn u)=true:=by kernel_rfl
    exact(show Tryz.prog.wantsStandIn t=false by simpa using List.all_eq_true.1 dG t hm)⟩)
  aZ
end Go.Proofs.YtlafckjfkaldaaaGreatDoor
