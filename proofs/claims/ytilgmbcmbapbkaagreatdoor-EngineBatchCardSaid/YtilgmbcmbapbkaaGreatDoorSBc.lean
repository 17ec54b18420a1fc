/- Part of a proof. -/
import Derived.Test.YtilgmbcmbapbkaaGreatDoorP1
import Derived.Test.YtilgmbcmbapbkaaGreatDoorRows
import Derived.KernelRfl
import Derived.JoinedOf
import GoSem.ClaimGoes
open _root_.Go.Proofs.Tryz renaming prog→azB
open _root_.List renaming any_eq_false→aBP
set_option linter.unusedVariables false
set_option maxRecDepth 100000
open Go Go.bk
namespace Go.Proofs.YtilgmbcmbapbkaaGreatDoor
open Go.ChangeShapes Go.WideShapes Go.ChangeAt Go.RowKit
theorem Pk:Tryz.prog.closure 3=[3,4,13,5,14,41,88,89,170,42,6,8,7,18,46,47,97,98,49,99,178,100,52,179,19,20,21,22,48,50,101,180,257,309,310,222,355,356,311,312,357,358,378,379,51,102,181,258,313,182,259,314,359,380,381,260,315,360,316,317,361,318,103,45,96,95,23,31,53,104,105,183,261,319,362,320,321,322,363,106,184,139,210,68,65,137,138,209,54,30,67,140,66,32,24,55,107,56,108,109,185,169,245,246,303,347,376,186,187,188,189,262,190,191,263,323,192,193,194,195,110,196,25,57,111,112,197,264,265,324,364,113,117,198,114,115,116,118,148,221,199,266,267,325,268,286,287,269,326,327,365,270,271,272,273,119,120,200,121,122,58,124,123,201,125,126,202,274,275,328,276,277,329,330,366,278,279,280,281,127,128,60,61,129,131,133,132,130,203,59,62,63,134,204,26,64,135,205,282,283,331,284,332,367,382,383,388,390,389,384,232,294,335,295,336,337,296,297,338,368,298,206,71,145,146,207,228,290,334,291,292,233,293,149,223,156,234,299,235,208,136,27,9,28,29,33,69,141,211,142,143,164,242,241,301,340,302,342,370,371,341,369,343,345,374,344,372,385,373,386,391,397,403,392,400,393,394,401,402,404,395,396,398,399,346,375,387,15,34,70,144,35,16,43,90,171,172,247,174,250,251,304,348,349,350,351,352,353,377,305,252,306,354,253,248,307,255,254,308,173,249,91,44,75,74,150,224,225,226,94,177,227,229,93,176,218,256,151,152,231,230,92,175,10,36,72,73,147,212,213,285,214,215,288,289,333,216,217,219,220,76,153,155,154,77,157,158,236,237,159,238,239,300,339,161,160,162,78,163,240,79,165,166,243,80,167,81,168,244,82,37,83,84,38,17,11,39,85,40,87,86,12]:=by kernel_rfl
theorem YK:Tryz.prog.unfollowed 3=true:=by unfold Program.unfollowed;rw [Pk];kernel_rfl
theorem asF:(Tryz.prog.funcs.toList.all λfn=> !fn.goes)=true:=by kernel_rfl
theorem ass:Tryz.prog.goes 3=false:=by
 have h:∀fn:Func,fn∈Tryz.prog.funcs->fn.goes=false:=λfn ai=>by
  have:=List.all_eq_true.1 asF fn (by simpa using ai)
  simpa using this
 have h1:Tryz.prog.funcs.any Func.goes=false:=by
  rw [<-Array.any_toList,aBP]
  intro fn ai
  simp [h fn (by simpa using ai)]
 unfold Program.goes
 rw [h1,Bool.and_false,Bool.or_false,aBP]
 intro g _
 cases e:Tryz.prog.funcs[g]? with
 |none=>simp
 |some fn=>simp [h fn (Array.mem_of_getElem? e)]
theorem iv{a b:Bool}(bW:a=true)(al:b=true):(a&&b)=true:=by rw [bW,al];rfl
theorem fq:(Rows.engineBatchRow.wf (OpenSpec.ofChange Rows.engineBatchSpec))=true:=by kernel_rfl
theorem gT:(laidOutB azB)=true:=by kernel_rfl
theorem lb:(mapsRowed azB)=true:=by kernel_rfl
theorem asG:(Tryz.f3.params.all (Tryz.prog.readableRec ·))=true:=by kernel_rfl
theorem Al:(namedTie azB Rows.engineBatchRow.named Rows.engineBatchSpec.vars)=true:=by kernel_rfl
theorem wQ:((Rows.engineBatchRow.stops==[]))=true:=by kernel_rfl
theorem Ob:((Tryz.prog.stops==[]))=true:=by kernel_rfl
theorem asH:((Rows.engineBatchRow.knobs==[]))=true:=by kernel_rfl
theorem asI:((Tryz.prog.stopKnobs==[]))=true:=by kernel_rfl
theorem uq:((Rows.engineBatchRow.inPlace==Tryz.prog.inPlace 3))=true:=by unfold Program.inPlace;rw [Pk];kernel_rfl
theorem A2:((Rows.engineBatchRow.unfollowed==Tryz.prog.unfollowed 3))=true:=by rw [YK];kernel_rfl
theorem asJ:((Rows.engineBatchRow.recurses==Tryz.prog.recurses 3))=true:=by unfold Program.recurses;rw [YK];kernel_rfl
theorem asK:((Rows.engineBatchRow.named==Tryz.prog.varsNamed 3))=true:=by unfold Program.varsNamed;rw [Pk];kernel_rfl
theorem asL:((Rows.engineBatchRow.maps==(Tryz.f3.params.toList++Rows.engineBatchSpec.plain.varTypes azB).any (Tryz.prog.mapsRec ·)))=true:=by kernel_rfl
theorem A1:((Rows.engineBatchRow.ifaces==(Tryz.f3.params.toList++Rows.engineBatchSpec.plain.varTypes azB).any (Tryz.prog.ifacesRec ·)))=true:=by kernel_rfl
theorem asM:((Rows.engineBatchRow.mapsOut==Tryz.prog.mapsAmong Tryz.f3.resultTypes.toList))=true:=by kernel_rfl
theorem asN:((Rows.engineBatchRow.loops==(Tryz.f3.params.toList++Rows.engineBatchSpec.plain.varTypes azB).any (Tryz.prog.loopsFrom ·)))=true:=by kernel_rfl
theorem asO:((Rows.engineBatchRow.wideKeys==(Tryz.f3.params.toList++Rows.engineBatchSpec.plain.varTypes azB++Tryz.f3.resultTypes.toList).any (Tryz.prog.wideKeysFrom ·)))=true:=by kernel_rfl
theorem asP:(Rows.engineBatchSpec.vars.all (Tryz.prog.varReadable ·))=true:=by kernel_rfl
theorem asQ:(Tryz.f3.resultTypes.all (λt=>Tryz.prog.readableRec t&&decide (t<Tryz.prog.types.size)))=true:=by kernel_rfl
theorem asR:((Rows.engineBatchRow.ifacesOut==Tryz.f3.resultTypes.toList.any (Tryz.prog.ifacesRec ·)))=true:=by kernel_rfl
theorem asS:((Rows.engineBatchRow.loopsOut==Tryz.f3.resultTypes.toList.any (Tryz.prog.loopsFrom ·)))=true:=by kernel_rfl
theorem asT:((Rows.engineBatchRow.plainKeys==Tryz.prog.plainKeys))=true:=by kernel_rfl
theorem asU:(Rows.engineBatchRow.shortTexts.isNone)=true:=by kernel_rfl
theorem asV:(Tryz.prog.stopsHeard)=true:=by kernel_rfl
theorem asW:(Tryz.prog.mayEnter)=true:=by kernel_rfl
theorem asX:((Rows.engineBatchRow.lifted==Tryz.prog.liftsFinal))=true:=by kernel_rfl
theorem asY:((Tryz.prog.make==some Rows.engineBatchRow.make))=true:=by kernel_rfl
theorem asZ:((Rows.engineBatchRow.kinds==(if Rows.engineBatchRow.domain.isEmpty then []else Tryz.f3.params.toList.map λt=>match Tryz.prog.underlying t with|some (.int k)=>some k|_=>none)))=true:=by kernel_rfl
theorem as0:((Rows.engineBatchRow.pinned==Rows.engineBatchRow.pinnedBy))=true:=by kernel_rfl
theorem as1:((Rows.engineBatchRow.veiled==(Tryz.f3.params.toList++Rows.engineBatchSpec.plain.varTypes azB++Tryz.f3.resultTypes.toList).any (Tryz.prog.veiledRec ·)))=true:=by kernel_rfl
theorem as2:(Rows.engineBatchRow.veiledFits azB Tryz.f3.params.toList (Tryz.f3.params.toList++Rows.engineBatchSpec.plain.varTypes azB++Tryz.f3.resultTypes.toList))=true:=by kernel_rfl
theorem closed:joinedFacts azB 3 Tryz.f3 Rows.engineBatchSpec Rows.engineBatchRow=true:=(iv (iv (iv (iv (iv (iv (iv (iv (iv (iv (iv (iv (iv (iv (iv (iv (iv (iv (iv (iv (iv (iv (iv (iv (iv (iv (iv (iv (iv (iv (iv fq gT) lb) asG) Al) wQ) Ob) asH) asI) uq) A2) asJ) asK) asL) A1) asM) asN) asO) asP) asQ) asR) asS) asT) asU) asV) asW) asX) asY) asZ) as0) as1) as2)
end Go.Proofs.YtilgmbcmbapbkaaGreatDoor
