/- EngineBatch (law 21): for every batch of points the law returns true, and its arguments read as before. The laid tables and errors are tied to the program's text by the card. -/
import Derived.Test.YtilgmbcmbapbkaaGreatDoorP7
import Derived.Test.YtilgmbcmbapbkaaGreatDoorSBc
import Derived.Test.YtilgmbcmbapbkaaGreatDoorCards
import Derived.Test.YtilgmbcmbapbkaaGreatDoorChecked
import Derived.SevenTiedAt
open _root_.Go.Proofs.Tryz renaming prog→azB,f3→aBN,checked→aBO
set_option linter.unusedVariables false
set_option maxRecDepth 100000
open Go Go.bk
namespace Go.Proofs.YtilgmbcmbapbkaaGreatDoor
open Go.ChangeShapes Go.WideShapes Go.ChangeAt Go.RowKit
theorem own:ownKnob Tryz.prog.godebug=none:=by kernel_rfl
theorem asj:laidOutB azB=true:=by kernel_rfl
theorem asl(os:Os)(args:Array Value):laidMetH azB tT ((World.doorLaid azB 400 os).forCall (λ_ _=>0) ⟨#[],args,[]⟩).memory:=
 laidMetH_of_parts3 (fuel:=8) (laidMet_of_run' 8 (by kernel_rfl) (by kernel_rfl)) (by kernel_rfl) (by kernel_rfl)
set_option maxRecDepth 100000 in
theorem asm(os:Os)(X:Type)(enc:TypeId×Value->X):∃(w:World) (tape:Tape) (i:Input),w.os=os/\(w.forCall tape i).Shaped Tryz.checked.prog/\i.vars=[]/\Input.okWide Tryz.checked.prog (w.forCall tape i) .any w.heap.size 3 i∧
   (((Rows.engineBatchSpec.pre enc Tryz.checked.prog aBN [] false (w.forCall tape i).memory i.args/\laidMetH azB tT (w.forCall tape i).memory)/\sizedMet enc Tryz.checked.prog aBN (OpenSpec.ofChange Rows.engineBatchSpec) false (w.forCall tape i).memory i.args)/\Assume.holds {} Tryz.checked.prog (lone (Frame.enter Tryz.checked.prog 3 i.args .normal) [] (w.forCall tape i))):=
 ChangeSpec.witness_shaped (enc:=enc) (C:=aBO) (os:=os) (X:=λw _=>laidMetH azB tT w) false (World.doorLaid azB 400 os) #[.slice none 0 0,.bool false] 8 rfl (World.shaped_of_RefB (by kernel_rfl) (by kernel_rfl)) (by kernel_rfl) (by kernel_rfl) (by kernel_rfl) (asl os _)
theorem fn(X:Type):∀cg:List (DataW X),cg.length=([22,4]:List TypeId).length->Rows.engineBatchSpec.fn X cg={results:=[.lit (.bool true)],args:=cg}:=λcg h=>by
 match cg,h with
 |[d1,d2],_=>rfl
theorem lifted(os:Os)(started:os.Started)(X:Type)(enc:TypeId×Value->X):
  ReturnsInHanded {} aBO os 3 .any (λw args=>(Rows.engineBatchSpec.pre enc azB aBN [] false w args/\laidMetH azB tT w)/\sizedMet enc azB aBN (OpenSpec.ofChange Rows.engineBatchSpec) false w args)
   (Rows.engineBatchSpec.post enc azB aBN false true false false):=by
 refine returnsInHanded_of_calls (C:=aBO) own started (by kernel_rfl) (asm os X enc) ?_
 intro w tape i _ KY _ e' Il _
 obtain⟨_,_,_,Uy,asn,_,_,_,_,oa⟩:=e'
 have e:Uy=aBN:=Option.some.inj (asn.symm.trans Tryz.func3)
 subst e
 obtain⟨⟨⟨cg,gs,before,hw,av⟩,aa⟩,aE⟩:=Il
 have mE:=DataW.Whole.of_heap (w':=w.forCall tape i) (by rfl) hw
 have bZ:laidMetH azB tT (w.forCall tape i):=laidMetH.of_heap (by rfl) aa
 obtain⟨g1,g2⟩:=aso KY bZ
 refine(asp (tb:=4) Tryz.params3 rfl (fn X) (by kernel_rfl) Tryz.underlying4 (by kernel_rfl) asj (w.forCall tape i) w.heap.size i.args cg gs before (λh=>asq h g1 g2) oa mE).mono λe W'=> ?_
 rintro⟨v,rfl,aH⟩
 exact ChangeSpec.post_blind aH
theorem asr(P:Program)(c:OpenClaim)(k:FuncId)(s:String)(hs:c.start=.entering)(ay:c.func=s)(ai:P.funcNamed s=some k)(ba:P.goes k=false):false=c.goesBy P:=by
 unfold OpenClaim.goesBy Program.goesAt Program.goesFrom
 rw [hs,ay,ai]
 simp [ba]
theorem ba:false=Rows.engineBatchRow.goesBy azB:=
 asr azB Rows.engineBatchRow 3 "strandline/strandlinelaw21.EngineBatch" rfl rfl (by kernel_rfl) ass
theorem over:Rows.EngineBatchSaid:=
 OpenClaim.holds_of_wide 3 aBN rfl rfl rfl rfl rfl rfl rfl ⟨rfl,rfl,rfl,rfl,rfl⟩ rfl rfl rfl rfl rfl (by kernel_rfl) Tryz.func3 closed
  (of_decide_eq_true (by kernel_rfl)) (by unfold Func.isWrapper;first|(rw [if_pos (by decide+kernel)];kernel_rfl)|(rw [if_neg (by decide+kernel)];exact⟨rfl,rfl⟩))
  (λos started X enc _=>lifted os started X enc)
theorem engineBatchProved:Rows.EngineBatchCardSaid:=
 Claim7.holds_tied_plain_at .later [] [.data,.data,.data,.data,.sentinel,.sentinel] true (true, "33c8082ce18eeb1112a64608d50690ef2035ea743ecee0b75da6e26a9517791b") true
  over (λ_ h=>by cases h) (by kernel_rfl) (λ_ h=>by cases h) engineBatch_row_tie rfl ⟨rfl,rfl⟩ (by kernel_rfl) rfl
  (λf fn ai o2=>by
   obtain rfl:f=3:=Option.some.inj ((show Tryz.prog.funcNamed "strandline/strandlinelaw21.EngineBatch" =some 3 by kernel_rfl).symm.trans ai)|>.symm
   obtain rfl:fn=aBN:=(Option.some.inj (Tryz.func3.symm.trans o2)).symm
   exact⟨by kernel_rfl,λj t aW=>by
    rw [Tryz.params3]at aW
    have hm:t∈[22,4]:=by simpa using Array.mem_of_getElem? aW
    have fe:([22,4].all λu=> !Tryz.prog.wantsStandIn u)=true:=by kernel_rfl
    exact(show Tryz.prog.wantsStandIn t=false by simpa using List.all_eq_true.1 fe t hm)⟩)
  ba
end Go.Proofs.YtilgmbcmbapbkaaGreatDoor
