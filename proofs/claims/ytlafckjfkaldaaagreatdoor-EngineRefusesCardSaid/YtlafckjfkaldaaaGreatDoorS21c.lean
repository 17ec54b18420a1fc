/- A part of a proof: see the last text of this claim. -/
import Derived.Test.YtlafckjfkaldaaaGreatDoorP1
import Derived.Test.YtlafckjfkaldaaaGreatDoorRows
import Derived.KernelRfl
import Derived.JoinedOf
import GoSem.ClaimGoes
open _root_.Go.Proofs.Tryz renaming prog→atf
open _root_.List renaming any_eq_false→awp
set_option linter.unusedVariables false
set_option maxRecDepth 100000
open Go Go.bs
namespace Go.Proofs.YtlafckjfkaldaaaGreatDoor
open Go.ChangeShapes Go.WideShapes Go.ChangeAt Go.RowKit
theorem MM:Tryz.prog.closure 3=[3,4,12,5,7,6,18,55,56,116,117,58,118,208,119,61,209,19,20,21,22,57,59,120,210,299,363,364,248,406,407,365,366,408,409,429,430,60,121,211,300,367,212,301,368,410,431,432,302,369,411,370,371,412,372,122,54,115,114,23,41,62,123,124,213,303,373,413,374,375,376,414,125,164,175,256,93,90,173,174,255,63,44,92,163,91,45,24,64,126,65,127,128,214,207,249,251,339,389,419,215,216,217,218,304,219,220,305,377,221,222,223,224,129,225,25,66,130,131,226,306,307,378,415,132,80,159,133,134,135,136,158,247,227,308,309,379,310,329,330,311,380,381,416,312,313,314,315,137,138,228,139,140,67,142,141,229,143,144,230,316,317,382,318,319,383,384,417,320,321,322,323,145,146,69,70,147,149,151,150,148,231,68,71,72,152,232,26,73,153,233,324,325,385,326,386,418,433,434,439,441,440,435,286,354,394,355,395,396,356,357,397,421,358,234,86,169,170,235,272,347,392,348,349,287,350,183,267,194,288,359,289,236,154,27,13,42,43,46,94,176,257,162,177,202,296,295,361,399,362,401,423,424,400,422,402,404,427,403,425,436,426,437,442,448,454,443,451,444,445,452,453,455,446,447,449,450,405,428,438,14,47,95,178,48,15,49,96,179,180,258,182,261,262,250,333,334,335,336,337,338,388,343,263,344,391,264,259,345,266,265,346,181,260,97,50,98,99,184,268,269,270,102,189,271,273,101,188,276,277,185,186,275,274,100,187,16,51,103,104,190,278,279,351,280,281,352,353,393,282,283,284,285,105,191,193,192,106,195,196,290,291,197,292,293,360,398,199,198,200,107,201,294,108,203,204,297,109,205,110,206,298,111,52,112,113,53,17,8,11,29,75,74,28,30,32,31,33,76,155,156,237,238,327,77,78,157,239,240,328,241,242,331,332,387,243,244,245,246,79,35,34,36,81,160,82,161,37,83,165,84,166,252,340,167,253,341,390,420,342,85,168,38,9,40,89,39,87,171,172,254,88,10]:=by kernel_rfl
theorem Vp:Tryz.prog.unfollowed 3=true:=by unfold Program.unfollowed;rw [MM];kernel_rfl
theorem aoS:(Tryz.prog.funcs.toList.all λfn=> !fn.goes)=true:=by kernel_rfl
theorem aoE:Tryz.prog.goes 3=false:=by
 have h:∀fn:Func,fn∈Tryz.prog.funcs->fn.goes=false:=λfn af=>by
  have:=List.all_eq_true.1 aoS fn (by simpa using af)
  simpa using this
 have h1:Tryz.prog.funcs.any Func.goes=false:=by
  rw [<-Array.any_toList,awp]
  intro fn af
  simp [h fn (by simpa using af)]
 unfold Program.goes
 rw [h1,Bool.and_false,Bool.or_false,awp]
 intro g _
 cases e:Tryz.prog.funcs[g]? with
 |none=>simp
 |some fn=>simp [h fn (Array.mem_of_getElem? e)]
theorem h5{a b:Bool}(bQ:a=true)(ah:b=true):(a&&b)=true:=by rw [bQ,ah];rfl
theorem fe:(Rows.engineRefusesRow.wf (OpenSpec.ofChange Rows.engineRefusesSpec))=true:=by kernel_rfl
theorem gq:(laidOutB atf)=true:=by kernel_rfl
theorem iG:(mapsRowed atf)=true:=by kernel_rfl
theorem Eg:(Tryz.f3.params.all (Tryz.prog.readableRec ·))=true:=by kernel_rfl
theorem Eh:(namedTie atf Rows.engineRefusesRow.named Rows.engineRefusesSpec.vars)=true:=by kernel_rfl
theorem AV:((Rows.engineRefusesRow.stops==[]))=true:=by kernel_rfl
theorem MB:((Tryz.prog.stops==[]))=true:=by kernel_rfl
theorem aoT:((Rows.engineRefusesRow.knobs==[]))=true:=by kernel_rfl
theorem El:((Tryz.prog.stopKnobs==[]))=true:=by kernel_rfl
theorem HB:((Rows.engineRefusesRow.inPlace==Tryz.prog.inPlace 3))=true:=by unfold Program.inPlace;rw [MM];kernel_rfl
theorem Mw:((Rows.engineRefusesRow.unfollowed==Tryz.prog.unfollowed 3))=true:=by rw [Vp];kernel_rfl
theorem aoU:((Rows.engineRefusesRow.recurses==Tryz.prog.recurses 3))=true:=by unfold Program.recurses;rw [Vp];kernel_rfl
theorem aoV:((Rows.engineRefusesRow.named==Tryz.prog.varsNamed 3))=true:=by unfold Program.varsNamed;rw [MM];kernel_rfl
theorem aoW:((Rows.engineRefusesRow.maps==(Tryz.f3.params.toList++Rows.engineRefusesSpec.plain.varTypes atf).any (Tryz.prog.mapsRec ·)))=true:=by kernel_rfl
theorem Mz:((Rows.engineRefusesRow.ifaces==(Tryz.f3.params.toList++Rows.engineRefusesSpec.plain.varTypes atf).any (Tryz.prog.ifacesRec ·)))=true:=by kernel_rfl
theorem aoX:((Rows.engineRefusesRow.mapsOut==Tryz.prog.mapsAmong Tryz.f3.resultTypes.toList))=true:=by kernel_rfl
theorem aoY:((Rows.engineRefusesRow.loops==(Tryz.f3.params.toList++Rows.engineRefusesSpec.plain.varTypes atf).any (Tryz.prog.loopsFrom ·)))=true:=by kernel_rfl
theorem aoZ:((Rows.engineRefusesRow.wideKeys==(Tryz.f3.params.toList++Rows.engineRefusesSpec.plain.varTypes atf++Tryz.f3.resultTypes.toList).any (Tryz.prog.wideKeysFrom ·)))=true:=by kernel_rfl
theorem ao0:(Rows.engineRefusesSpec.vars.all (Tryz.prog.varReadable ·))=true:=by kernel_rfl
theorem ao1:(Tryz.f3.resultTypes.all (λt=>Tryz.prog.readableRec t&&decide (t<Tryz.prog.types.size)))=true:=by kernel_rfl
theorem ao2:((Rows.engineRefusesRow.ifacesOut==Tryz.f3.resultTypes.toList.any (Tryz.prog.ifacesRec ·)))=true:=by kernel_rfl
theorem ao3:((Rows.engineRefusesRow.loopsOut==Tryz.f3.resultTypes.toList.any (Tryz.prog.loopsFrom ·)))=true:=by kernel_rfl
theorem MJ:((Rows.engineRefusesRow.plainKeys==Tryz.prog.plainKeys))=true:=by kernel_rfl
theorem MK:(Rows.engineRefusesRow.shortTexts.isNone)=true:=by kernel_rfl
theorem ao4:(Tryz.prog.stopsHeard)=true:=by kernel_rfl
theorem ML:(Tryz.prog.mayEnter)=true:=by kernel_rfl
theorem ao5:((Rows.engineRefusesRow.lifted==Tryz.prog.liftsFinal))=true:=by kernel_rfl
theorem ao6:((Tryz.prog.make==some Rows.engineRefusesRow.make))=true:=by kernel_rfl
theorem ao7:((Rows.engineRefusesRow.kinds==(if Rows.engineRefusesRow.domain.isEmpty then []else Tryz.f3.params.toList.map λt=>match Tryz.prog.underlying t with|some (.int k)=>some k|_=>none)))=true:=by kernel_rfl
theorem ao8:((Rows.engineRefusesRow.pinned==Rows.engineRefusesRow.pinnedBy))=true:=by kernel_rfl
theorem ao9:((Rows.engineRefusesRow.veiled==(Tryz.f3.params.toList++Rows.engineRefusesSpec.plain.varTypes atf++Tryz.f3.resultTypes.toList).any (Tryz.prog.veiledRec ·)))=true:=by kernel_rfl
theorem ao':(Rows.engineRefusesRow.veiledFits atf Tryz.f3.params.toList (Tryz.f3.params.toList++Rows.engineRefusesSpec.plain.varTypes atf++Tryz.f3.resultTypes.toList))=true:=by kernel_rfl
theorem closed:joinedFacts atf 3 Tryz.f3 Rows.engineRefusesSpec Rows.engineRefusesRow=true:=(h5 (h5 (h5 (h5 (h5 (h5 (h5 (h5 (h5 (h5 (h5 (h5 (h5 (h5 (h5 (h5 (h5 (h5 (h5 (h5 (h5 (h5 (h5 (h5 (h5 (h5 (h5 (h5 (h5 (h5 (h5 fe gq) iG) Eg) Eh) AV) MB) aoT) El) HB) Mw) aoU) aoV) aoW) Mz) aoX) aoY) aoZ) ao0) ao1) ao2) ao3) MJ) MK) ao4) ML) ao5) ao6) ao7) ao8) ao9) ao')
end Go.Proofs.YtlafckjfkaldaaaGreatDoor
