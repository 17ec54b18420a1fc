/- Part of a proof. -/
import Derived.Test.YtgalnkecefpaoaaGreatDoorP1
import Derived.Test.YtgalnkecefpaoaaGreatDoorRows
import Derived.KernelRfl
import Derived.JoinedOf
import GoSem.ClaimGoes
set_option linter.unusedVariables false
set_option linter.unusedSimpArgs false
set_option maxRecDepth 100000
open Go Go.GV
namespace Go.Proofs.YtgalnkecefpaoaaGreatDoor
open Go.ChangeShapes Go.WideShapes Go.ChangeAt Go.RowKit
theorem clo : Tryz.prog.closure 3 = [3, 4, 5, 6, 7, 11, 30, 31, 85, 86, 33, 87, 163, 88, 37, 164, 12, 13, 14, 15, 32, 34, 89, 165, 247, 337, 338, 264, 419, 420, 339, 340, 421, 422, 448, 449, 35, 90, 166, 248, 162, 82, 160, 242, 334, 417, 418, 161, 243, 335, 244, 245, 336, 246, 91, 49, 126, 125, 16, 36, 38, 92, 23, 52, 130, 51, 129, 197, 198, 199, 278, 93, 167, 240, 332, 159, 94, 168, 169, 249, 39, 95, 170, 215, 158, 96, 17, 40, 97, 41, 98, 99, 171, 172, 250, 80, 157, 241, 333, 173, 174, 175, 176, 251, 177, 178, 252, 341, 179, 180, 181, 182, 100, 183, 18, 42, 101, 102, 184, 253, 254, 342, 423, 103, 107, 185, 104, 105, 106, 108, 187, 263, 186, 255, 256, 343, 257, 344, 345, 258, 346, 347, 424, 259, 260, 261, 262, 109, 110, 188, 111, 112, 43, 114, 113, 189, 115, 116, 190, 265, 266, 348, 267, 268, 349, 350, 425, 269, 270, 271, 272, 117, 118, 45, 46, 119, 121, 123, 122, 120, 191, 44, 47, 48, 124, 192, 19, 50, 127, 193, 273, 274, 351, 275, 352, 426, 450, 451, 470, 472, 471, 452, 407, 441, 464, 442, 465, 466, 443, 444, 467, 477, 445, 194, 148, 219, 220, 195, 276, 353, 427, 354, 355, 357, 356, 289, 376, 277, 358, 428, 359, 196, 128, 20, 8, 21, 22, 10, 29, 84, 9, 24, 53, 25, 58, 54, 131, 132, 133, 200, 279, 360, 214, 280, 327, 414, 413, 447, 469, 224, 310, 394, 395, 309, 393, 311, 308, 392, 307, 390, 435, 391, 436, 454, 460, 476, 455, 473, 456, 457, 474, 475, 478, 458, 459, 461, 462, 312, 396, 437, 56, 57, 136, 203, 286, 285, 367, 288, 370, 371, 281, 361, 362, 363, 284, 364, 365, 429, 430, 372, 431, 453, 373, 368, 432, 375, 374, 433, 287, 369, 204, 137, 205, 206, 290, 377, 378, 379, 209, 295, 380, 381, 208, 294, 384, 385, 291, 292, 383, 382, 207, 293, 55, 134, 135, 201, 282, 366, 283, 202, 59, 60, 61, 62, 138, 210, 211, 296, 297, 386, 139, 140, 212, 298, 299, 387, 300, 301, 388, 389, 434, 302, 303, 304, 305, 141, 63, 64, 142, 143, 213, 66, 67, 145, 216, 146, 217, 26, 81, 147, 218, 65, 144, 68, 69, 70, 71, 149, 222, 223, 221, 306, 225, 313, 397, 155, 239, 238, 228, 316, 399, 400, 438, 401, 402, 439, 440, 463, 403, 404, 405, 406, 314, 398, 72, 73, 150, 226, 315, 151, 152, 227, 229, 317, 319, 318, 230, 320, 321, 408, 409, 322, 410, 411, 446, 468, 324, 323, 325, 231, 326, 412, 232, 328, 329, 415, 233, 330, 234, 331, 416, 235, 153, 236, 237, 154, 74, 75, 76, 77, 78, 79, 156, 27, 28, 83] := by kernel_rfl
theorem unf : Tryz.prog.unfollowed 3 = true := by unfold Program.unfollowed; rw [clo]; kernel_rfl
theorem noGo : (Tryz.prog.funcs.toList.all fun fn => !fn.goes) = true := by kernel_rfl
theorem goes3 : Tryz.prog.goes 3 = false := by
  have h : ∀ fn : Func, fn ∈ Tryz.prog.funcs → fn.goes = false := fun fn hf => by
    have := List.all_eq_true.1 noGo fn (by simpa using hf)
    simpa using this
  have h1 : Tryz.prog.funcs.any Func.goes = false := by
    rw [← Array.any_toList, List.any_eq_false]
    intro fn hf
    simp [h fn (by simpa using hf)]
  unfold Program.goes
  rw [h1, Bool.and_false, Bool.or_false, List.any_eq_false]
  intro g _
  cases e : Tryz.prog.funcs[g]? with
  | none => simp
  | some fn => simp [h fn (Array.mem_of_getElem? e)]
theorem andT {a b : Bool} (ha : a = true) (hb : b = true) : (a && b) = true := by rw [ha, hb]; rfl
theorem k1 : (Rows.topSaysRow.wf (OpenSpec.ofChange Rows.topSaysSpec)) = true := by kernel_rfl
theorem k2 : (laidOutB Tryz.prog) = true := by kernel_rfl
theorem k3 : (mapsRowed Tryz.prog) = true := by kernel_rfl
theorem k4 : (Tryz.f3.params.all (Tryz.prog.readableRec ·)) = true := by kernel_rfl
theorem k5 : (namedTie Tryz.prog Rows.topSaysRow.named Rows.topSaysSpec.vars) = true := by kernel_rfl
theorem k6 : ((Rows.topSaysRow.stops == [])) = true := by kernel_rfl
theorem k7 : ((Tryz.prog.stops == [])) = true := by kernel_rfl
theorem k8 : ((Rows.topSaysRow.knobs == [])) = true := by kernel_rfl
theorem k9 : ((Tryz.prog.stopKnobs == [])) = true := by kernel_rfl
theorem k10 : ((Rows.topSaysRow.inPlace == Tryz.prog.inPlace 3)) = true := by unfold Program.inPlace; rw [clo]; kernel_rfl
theorem k11 : ((Rows.topSaysRow.unfollowed == Tryz.prog.unfollowed 3)) = true := by rw [unf]; kernel_rfl
theorem k12 : ((Rows.topSaysRow.recurses == Tryz.prog.recurses 3)) = true := by unfold Program.recurses; rw [unf]; kernel_rfl
theorem k13 : ((Rows.topSaysRow.named == Tryz.prog.varsNamed 3)) = true := by unfold Program.varsNamed; rw [clo]; kernel_rfl
theorem k14 : ((Rows.topSaysRow.maps == (Tryz.f3.params.toList ++ Rows.topSaysSpec.plain.varTypes Tryz.prog).any (Tryz.prog.mapsRec ·))) = true := by kernel_rfl
theorem k15 : ((Rows.topSaysRow.ifaces == (Tryz.f3.params.toList ++ Rows.topSaysSpec.plain.varTypes Tryz.prog).any (Tryz.prog.ifacesRec ·))) = true := by kernel_rfl
theorem k16 : ((Rows.topSaysRow.mapsOut == Tryz.prog.mapsAmong Tryz.f3.resultTypes.toList)) = true := by kernel_rfl
theorem k17 : ((Rows.topSaysRow.loops == (Tryz.f3.params.toList ++ Rows.topSaysSpec.plain.varTypes Tryz.prog).any (Tryz.prog.loopsFrom ·))) = true := by kernel_rfl
theorem k18 : ((Rows.topSaysRow.wideKeys == (Tryz.f3.params.toList ++ Rows.topSaysSpec.plain.varTypes Tryz.prog ++ Tryz.f3.resultTypes.toList).any (Tryz.prog.wideKeysFrom ·))) = true := by kernel_rfl
theorem k19 : (Rows.topSaysSpec.vars.all (Tryz.prog.varReadable ·)) = true := by kernel_rfl
theorem k20 : (Tryz.f3.resultTypes.all (fun t => Tryz.prog.readableRec t && decide (t < Tryz.prog.types.size))) = true := by kernel_rfl
theorem k21 : ((Rows.topSaysRow.ifacesOut == Tryz.f3.resultTypes.toList.any (Tryz.prog.ifacesRec ·))) = true := by kernel_rfl
theorem k22 : ((Rows.topSaysRow.loopsOut == Tryz.f3.resultTypes.toList.any (Tryz.prog.loopsFrom ·))) = true := by kernel_rfl
theorem k23 : ((Rows.topSaysRow.plainKeys == Tryz.prog.plainKeys)) = true := by kernel_rfl
theorem k24 : (Rows.topSaysRow.shortTexts.isNone) = true := by kernel_rfl
theorem k25 : (Tryz.prog.stopsHeard) = true := by kernel_rfl
theorem k26 : (Tryz.prog.mayEnter) = true := by kernel_rfl
theorem k27 : ((Rows.topSaysRow.lifted == Tryz.prog.liftsFinal)) = true := by kernel_rfl
theorem k28 : ((Tryz.prog.make == some Rows.topSaysRow.make)) = true := by kernel_rfl
theorem k29 : ((Rows.topSaysRow.kinds == (if Rows.topSaysRow.domain.isEmpty then [] else Tryz.f3.params.toList.map fun t => match Tryz.prog.underlying t with | some (.int k) => some k | _ => none))) = true := by kernel_rfl
theorem k30 : ((Rows.topSaysRow.pinned == Rows.topSaysRow.pinnedBy)) = true := by kernel_rfl
theorem k31 : ((Rows.topSaysRow.veiled == (Tryz.f3.params.toList ++ Rows.topSaysSpec.plain.varTypes Tryz.prog ++ Tryz.f3.resultTypes.toList).any (Tryz.prog.veiledRec ·))) = true := by kernel_rfl
theorem k32 : (Rows.topSaysRow.veiledFits Tryz.prog Tryz.f3.params.toList (Tryz.f3.params.toList ++ Rows.topSaysSpec.plain.varTypes Tryz.prog ++ Tryz.f3.resultTypes.toList)) = true := by kernel_rfl
theorem closed : joinedFacts Tryz.prog 3 Tryz.f3 Rows.topSaysSpec Rows.topSaysRow = true := (andT (andT (andT (andT (andT (andT (andT (andT (andT (andT (andT (andT (andT (andT (andT (andT (andT (andT (andT (andT (andT (andT (andT (andT (andT (andT (andT (andT (andT (andT (andT k1 k2) k3) k4) k5) k6) k7) k8) k9) k10) k11) k12) k13) k14) k15) k16) k17) k18) k19) k20) k21) k22) k23) k24) k25) k26) k27) k28) k29) k30) k31) k32)
end Go.Proofs.YtgalnkecefpaoaaGreatDoor
