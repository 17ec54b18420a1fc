/- Part of a proof. -/
import Derived.Test.YtgalnkecefpaoaaGreatDoorFc0
import Derived.Test.YtgalnkecefpaoaaGreatDoorFc1
import Derived.Test.YtgalnkecefpaoaaGreatDoorFc2
import Derived.Test.YtgalnkecefpaoaaGreatDoorFc3
import Derived.Test.YtgalnkecefpaoaaGreatDoorFc4
import Derived.Test.YtgalnkecefpaoaaGreatDoorFc5
set_option linter.unusedVariables false
set_option maxRecDepth 100000
namespace Go.SX
open Go Go.GV
noncomputable def facts : List Lfact := [fc0, fc1, fc2, fc3, fc4, fc5, fc6, fc7, fc8, fc9, fc10, fc11, fc12, fc13, fc14, fc15, fc16, fc17, fc18, fc19, fc20, fc21, fc22]
theorem top0 : runT facts [.int .u8 ⟨0, [(0, 1)]⟩, .int .i16 ⟨0, [(1, 1)]⟩, .int .u8 ⟨0, [(22, 5)]⟩] = true := by kernel_rfl
theorem top1 : runT facts [.int .u8 ⟨0, [(0, 1)]⟩, .int .i16 ⟨0, [(1, 1)]⟩, .int .u8 ⟨1, [(22, 5)]⟩] = true := by kernel_rfl
theorem top2 : runT facts [.int .u8 ⟨0, [(0, 1)]⟩, .int .i16 ⟨0, [(1, 1)]⟩, .int .u8 ⟨2, [(22, 5)]⟩] = true := by kernel_rfl
theorem top3 : runT facts [.int .u8 ⟨0, [(0, 1)]⟩, .int .i16 ⟨0, [(1, 1)]⟩, .int .u8 ⟨3, [(22, 5)]⟩] = true := by kernel_rfl
theorem top4 : runT facts [.int .u8 ⟨0, [(0, 1)]⟩, .int .i16 ⟨0, [(1, 1)]⟩, .int .u8 ⟨4, [(22, 5)]⟩] = true := by kernel_rfl
end Go.SX
