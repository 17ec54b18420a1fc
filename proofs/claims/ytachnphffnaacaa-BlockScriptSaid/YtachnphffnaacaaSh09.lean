/-
  DERIVED: THE SHELF's CONTRACTS AT THIS DUMP, IN PLAIN WORDS (tools/lay-plain.mjs out of 'YtachnphffnaacaaShelf.lean', which tools/lay-shelf.mjs wrote): THE SAME DECLARATIONS UNDER THE SAME NAMES: 'import', 'namespace', 'open', 'def', 'theorem' AND NOTHING ELSE: no command of the shelf's: FOR A HAND-IN. Each laying: the table of numbers ('.._ren') and one theorem, a field a fact of the dump's own or the kernel's comparison; each contract: ONE APPLICATION.
-/
import Derived.Shelf.SortM.Plain
import Derived.Ground.SlgmProg
import Derived.Test.YtachnphffnaacaaProg
namespace Go.Proofs
open Go.Shelf
def Try.sortI_ren : Go.Shelf.Ren := ⟨fun | 5 => 31 | 8 => 34 | 7 => 33 | 19 => 44 | 20 => 45 | 10 => 35 | 11 => 36 | 12 => 37 | 13 => 38 | 14 => 39 | 15 => 40 | 16 => 41 | 17 => 42 | 18 => 43 | 30 => 46 | 31 => 47 | 32 => 48 | 33 => 49 | 34 => 50 | 35 => 51 | 40 => 52 | n => n, fun | 23 => 58 | 25 => 3 | 3 => 3 | 32 => 57 | 22 => 58 | 0 => 0 | 44 => 72 | 46 => 22 | 4 => 4 | 36 => 64 | 35 => 63 | 41 => 69 | 5 => 5 | 9 => 9 | 53 => 74 | 57 => 78 | 63 => 81 | 64 => 82 | n => n, fun | n => n⟩
theorem Try.sortI : Go.Proofs.SlLaysM.n5 Try.prog Try.sortI_ren := {
  mixed := by kernel_rfl
  f5 := ⟨Try.f31.name, by decide, Try.func31.trans (congrArg some (by kernel_rfl))⟩
  f7 := ⟨Try.f33.name, by decide, Try.func33.trans (congrArg some (by kernel_rfl))⟩
  f8 := Try.func34.trans (congrArg some (by kernel_rfl))
  f10 := ⟨Try.f35.name, by decide, Try.func35.trans (congrArg some (by kernel_rfl))⟩
  f11 := ⟨Try.f36.name, by decide, Try.func36.trans (congrArg some (by kernel_rfl))⟩
  f12 := ⟨Try.f37.name, by decide, Try.func37.trans (congrArg some (by kernel_rfl))⟩
  f13 := ⟨Try.f38.name, by decide, Try.func38.trans (congrArg some (by kernel_rfl))⟩
  f14 := ⟨Try.f39.name, by decide, Try.func39.trans (congrArg some (by kernel_rfl))⟩
  f15 := ⟨Try.f40.name, by decide, Try.func40.trans (congrArg some (by kernel_rfl))⟩
  f16 := ⟨Try.f41.name, by decide, Try.func41.trans (congrArg some (by kernel_rfl))⟩
  f17 := ⟨Try.f42.name, by decide, Try.func42.trans (congrArg some (by kernel_rfl))⟩
  f18 := ⟨Try.f43.name, by decide, Try.func43.trans (congrArg some (by kernel_rfl))⟩
  f19 := Try.func44.trans (congrArg some (by kernel_rfl))
  f20 := Try.func45.trans (congrArg some (by kernel_rfl))
  f30 := ⟨Try.f46.name, by decide, Try.func46.trans (congrArg some (by kernel_rfl))⟩
  f31 := Try.func47.trans (congrArg some (by kernel_rfl))
  f32 := Try.func48.trans (congrArg some (by kernel_rfl))
  f33 := ⟨Try.f49.name, by decide, Try.func49.trans (congrArg some (by kernel_rfl))⟩
  f34 := ⟨Try.f50.name, by decide, Try.func50.trans (congrArg some (by kernel_rfl))⟩
  f35 := ⟨Try.f51.name, by decide, Try.func51.trans (congrArg some (by kernel_rfl))⟩
  f40 := ⟨Try.f52.name, by decide, Try.func52.trans (congrArg some (by kernel_rfl))⟩
  t0 := Try.underlying0
  a0 := Try.isAgg0
  z0 := Try.sizeOf0
  v0 := Try.zeroValue0
  t3 := Try.underlying3
  a3 := Try.isAgg3
  z3 := Try.sizeOf3
  v3 := Try.zeroValue3
  t4 := Try.underlying4
  a4 := Try.isAgg4
  z4 := Try.sizeOf4
  v4 := Try.zeroValue4
  t5 := Try.underlying5
  a5 := Try.isAgg5
  z5 := Try.sizeOf5
  v5 := Try.zeroValue5
  t9 := Try.underlying9
  a9 := Try.isAgg9
  z9 := Try.sizeOf9
  v9 := Try.zeroValue9
  t22 := Try.underlying58
  a22 := Try.isAgg58
  z22 := Try.sizeOf58
  v22 := Try.zeroValue58
  t23 := Try.underlying58
  a23 := Try.isAgg58
  z23 := Try.sizeOf58
  v23 := Try.zeroValue58
  t25 := Try.underlying3
  a25 := Try.isAgg3
  z25 := Try.sizeOf3
  v25 := Try.zeroValue3
  t32 := Try.underlying57
  a32 := Try.isAgg57
  z32 := Try.sizeOf57
  v32 := Try.zeroValue57
  t35 := Try.underlying63
  a35 := Try.isAgg63
  z35 := Try.sizeOf63
  v35 := Try.zeroValue63
  t36 := Try.underlying64
  a36 := Try.isAgg64
  z36 := Try.sizeOf64
  v36 := Try.zeroValue64
  t41 := Try.underlying69
  a41 := Try.isAgg69
  z41 := Try.sizeOf69
  v41 := Try.zeroValue69
  t44 := Try.underlying72
  a44 := Try.isAgg72
  z44 := Try.sizeOf72
  v44 := Try.zeroValue72
  t46 := Try.underlying22
  a46 := Try.isAgg22
  z46 := Try.sizeOf22
  v46 := Try.zeroValue22
  t53 := Try.underlying74
  a53 := Try.isAgg74
  z53 := Try.sizeOf74
  v53 := Try.zeroValue74
  t57 := Try.underlying78
  a57 := Try.isAgg78
  z57 := Try.sizeOf78
  v57 := Try.zeroValue78
  t63 := Try.underlying81
  a63 := Try.isAgg81
  z63 := Try.sizeOf81
  v63 := Try.zeroValue81
  t64 := Try.underlying82
  a64 := Try.isAgg82
  z64 := Try.sizeOf82
  v64 := Try.zeroValue82 }
end Go.Proofs
