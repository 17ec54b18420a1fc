/- Part of a proof. -/
import Derived.Test.YtgalnkecefpaoaaGreatDoorP5
set_option linter.unusedVariables false
set_option maxRecDepth 100000
namespace Go.SX
open Go Go.GV
def fc0 : Lfact := ⟨[p 1, .str [.b [119, 114, 105, 116, 101, 32, 123, 97, 61, 34, 120, 34, 125, 32], .a 2, .b [32], .a 4]], stL [d, .cells [p 2, p 4, e], .cells (i 512 :: rp 512 (e) (.mp 3 :: v (.bool false) :: i 0 :: .int .u64
 (kk 0) :: i 0 :: [])), .map true [], .cells [p 2, p 5, p 8, v (.slice none 0 0), i 0, i 0, v (.bool false), i 0, i 0, i 0, v (.slice none 0 0), v (.slice none 0 0), i 0, p 11, v (.pointer none)], .cells [p 2, .mp 6, .mp 7, v
 (.slice none 0 0), i 0, v (.bool false)], .map false [], .map false [], .cells [v (.slice none 0 0), .mp 9, .mp 10], .map false [], .map false [], .cells [.mp 12], .map true []], [(b [111, 107], stL [d, .cells [p 2, p 4, e],
 .cells (i 512 :: rp 512 (e) (.mp 3 :: v (.bool false) :: i 0 :: .int .u64 (kk 0) :: i 0 :: [])), .map true [], .cells [p 2, p 5, p 8, v (.slice none 0 0), i 0, i 0, v (.bool false), i 0, i 0, i 0, .sv 16 0 1 (some 1) 2, v (.slice
 none 0 0), i 0, p 11, v (.pointer none)], .cells [p 2, .mp 13, .mp 7, v (.slice none 0 0), i 0, v (.bool false)], .map false [], .map false [], .cells [l 14 1, .mp 9, .mp 10], .map false [(b [1, 97, 1, 120], i 0)], .map false [(b
 [97], .mp 18)], .cells [.mp 12], .map true [], .map false [(b [119, 97, 108], .str [.b [9, 0, 7, 123, 97, 61, 34, 120, 34, 125, 67, 57], .a 11, .b [1, 1], .a 7, .b [0], .a 9, .a 12])], .cells [.sv 15 0 1 none 2], .cells [b [97],
 b [120]], .cells [i 0, .sv 17 0 1 none 2], .cells [.int .i64 ⟨0, [(0, 1)]⟩, .int .i64 ⟨0, [(1, 1)]⟩], .map false [(b [120], l 19 1)], .cells [i 0]])]⟩
theorem fc0_ok : runF fc0 = true := by kernel_rfl
def fc1 : Lfact := ⟨[p 1, b [113, 117, 101, 114, 121, 32, 91, 93, 32, 48, 32, 49, 48, 48, 48]], stL [d, .cells [p 2, p 4, e], .cells (i 512 :: rp 512 (e) (.mp 3 :: v (.bool false) :: i 0 :: .int .u64 (kk 0) :: i 0 :: [])), .map
 true [], .cells [p 2, p 5, p 8, v (.slice none 0 0), i 0, i 0, v (.bool false), i 0, i 0, i 0, .sv 15 0 1 (some 1) 2, v (.slice none 0 0), i 0, p 17, v (.pointer none)], .cells [p 2, .mp 6, .mp 7, v (.slice none 0 0), i 0, v
 (.bool false)], .map false [(b [119, 97, 108], .str [.b [9, 0, 7, 123, 97, 61, 34, 120, 34, 125, 67, 57], .a 11, .b [1, 1], .a 7, .b [0], .a 9, .a 12])], .map false [], .cells [l 9 1, .mp 11, .mp 12], .cells [.sv 10 0 1 none 2],
 .cells [b [97], b [120]], .map false [(b [1, 97, 1, 120], i 0)], .map false [(b [97], .mp 13)], .map false [(b [120], l 14 1)], .cells [i 0], .cells [i 0, .sv 16 0 1 none 2], .cells [.int .i64 ⟨0, [(0, 1)]⟩, .int .i64 ⟨0, [(1,
 1)]⟩], .cells [.mp 18], .map true []], [(.str [.b [48, 58, 32], .a 2, .b [61], .a 4], stL [d, .cells [p 2, p 4, e], .cells (i 512 :: rp 512 (e) (.mp 3 :: v (.bool false) :: i 0 :: .int .u64 (kk 0) :: i 0 :: [])), .map true [],
 .cells [p 2, p 5, p 8, v (.slice none 0 0), i 0, i 0, v (.bool false), i 0, i 0, i 0, .sv 15 0 1 (some 1) 2, v (.slice none 0 0), i 0, p 17, v (.pointer none)], .cells [p 2, .mp 6, .mp 7, v (.slice none 0 0), i 0, v (.bool
 false)], .map false [(b [119, 97, 108], .str [.b [9, 0, 7, 123, 97, 61, 34, 120, 34, 125, 67, 57], .a 11, .b [1, 1], .a 7, .b [0], .a 9, .a 12])], .map false [], .cells [l 9 1, .mp 11, .mp 12], .cells [.sv 10 0 1 none 2], .cells
 [b [97], b [120]], .map false [(b [1, 97, 1, 120], i 0)], .map false [(b [97], .mp 13)], .map false [(b [120], l 14 1)], .cells [i 0], .cells [i 0, .sv 16 0 1 none 2], .cells [.int .i64 ⟨0, [(0, 1)]⟩, .int .i64 ⟨0, [(1, 1)]⟩],
 .cells [.mp 18], .map true []])]⟩
theorem fc1_ok : runF fc1 = true := by kernel_rfl
def fc2 : Lfact := ⟨[p 1, b [97, 103, 103, 32, 91, 93, 32, 48, 32, 49, 48, 48, 48, 32, 49, 48, 48, 48]], stL [d, .cells [p 2, p 4, e], .cells (i 512 :: rp 512 (e) (.mp 3 :: v (.bool false) :: i 0 :: .int .u64 (kk 0) :: i 0 ::
 [])), .map true [], .cells [p 2, p 5, p 8, v (.slice none 0 0), i 0, i 0, v (.bool false), i 0, i 0, i 0, .sv 15 0 1 (some 1) 2, v (.slice none 0 0), i 0, p 17, v (.pointer none)], .cells [p 2, .mp 6, .mp 7, v (.slice none 0 0),
 i 0, v (.bool false)], .map false [(b [119, 97, 108], .str [.b [9, 0, 7, 123, 97, 61, 34, 120, 34, 125, 67, 57], .a 11, .b [1, 1], .a 7, .b [0], .a 9, .a 12])], .map false [], .cells [l 9 1, .mp 11, .mp 12], .cells [.sv 10 0 1
 none 2], .cells [b [97], b [120]], .map false [(b [1, 97, 1, 120], i 0)], .map false [(b [97], .mp 13)], .map false [(b [120], l 14 1)], .cells [i 0], .cells [i 0, .sv 16 0 1 none 2], .cells [.int .i64 ⟨0, [(0, 1)]⟩, .int .i64
 ⟨0, [(1, 1)]⟩], .cells [.mp 18], .map true []], [(.str [.b [48, 47, 49, 47], .a 4, .b [47], .a 4, .b [47], .a 4], stL [d, .cells [p 2, p 4, e], .cells (i 512 :: rp 512 (e) (.mp 3 :: v (.bool false) :: i 0 :: .int .u64 (kk 0) :: i
 0 :: [])), .map true [], .cells [p 2, p 5, p 8, v (.slice none 0 0), i 0, i 0, v (.bool false), i 0, i 0, i 0, .sv 15 0 1 (some 1) 2, v (.slice none 0 0), i 0, p 17, v (.pointer none)], .cells [p 2, .mp 6, .mp 7, v (.slice none 0
 0), i 0, v (.bool false)], .map false [(b [119, 97, 108], .str [.b [9, 0, 7, 123, 97, 61, 34, 120, 34, 125, 67, 57], .a 11, .b [1, 1], .a 7, .b [0], .a 9, .a 12])], .map false [], .cells [l 9 1, .mp 11, .mp 12], .cells [.sv 10 0
 1 none 2], .cells [b [97], b [120]], .map false [(b [1, 97, 1, 120], i 0)], .map false [(b [97], .mp 13)], .map false [(b [120], l 14 1)], .cells [i 0], .cells [i 0, .sv 16 0 1 none 2], .cells [.int .i64 ⟨0, [(0, 1)]⟩, .int .i64
 ⟨0, [(1, 1)]⟩], .cells [.mp 18], .map true []])]⟩
theorem fc2_ok : runF fc2 = true := by kernel_rfl
def fc3 : Lfact := ⟨[p 1, b [115, 121, 110, 99]], stL [d, .cells [p 2, p 4, e], .cells (i 512 :: rp 512 (e) (.mp 3 :: v (.bool false) :: i 0 :: .int .u64 (kk 0) :: i 0 :: [])), .map true [], .cells [p 2, p 5, p 8, v (.slice none 0
 0), i 0, i 0, v (.bool false), i 0, i 0, i 0, .sv 15 0 1 (some 1) 2, v (.slice none 0 0), i 0, p 17, v (.pointer none)], .cells [p 2, .mp 6, .mp 7, v (.slice none 0 0), i 0, v (.bool false)], .map false [(b [119, 97, 108], .str
 [.b [9, 0, 7, 123, 97, 61, 34, 120, 34, 125, 67, 57], .a 11, .b [1, 1], .a 7, .b [0], .a 9, .a 12])], .map false [], .cells [l 9 1, .mp 11, .mp 12], .cells [.sv 10 0 1 none 2], .cells [b [97], b [120]], .map false [(b [1, 97, 1,
 120], i 0)], .map false [(b [97], .mp 13)], .map false [(b [120], l 14 1)], .cells [i 0], .cells [i 0, .sv 16 0 1 none 2], .cells [.int .i64 ⟨0, [(0, 1)]⟩, .int .i64 ⟨0, [(1, 1)]⟩], .cells [.mp 18], .map true []], [(b [111, 107],
 stL [d, .cells [p 2, p 4, e], .cells (i 512 :: e :: b [1, 7, 3] :: .str [.b [9, 0, 7, 123, 97, 61, 34, 120, 34, 125, 67, 57], .a 11, .b [1, 1], .a 7, .b [0], .a 9, .a 12] :: .str [.b [1, 3, 119, 97, 108], .a 13, .b [2]] :: rp 508
 (e) (.mp 3 :: v (.bool false) :: i 0 :: .int .u64 (kk 0) :: i 5 :: [])), .map true [], .cells [p 2, p 5, p 8, v (.slice none 0 0), i 0, i 0, v (.bool false), i 0, i 0, i 0, .sv 15 0 1 (some 1) 2, v (.slice none 0 0), i 0, p 17, v
 (.pointer none)], .cells [p 2, .mp 6, .mp 19, l 21 1, i 1, v (.bool false)], .map false [(b [119, 97, 108], .str [.b [9, 0, 7, 123, 97, 61, 34, 120, 34, 125, 67, 57], .a 11, .b [1, 1], .a 7, .b [0], .a 9, .a 12])], .map false [],
 .cells [l 9 1, .mp 11, .mp 12], .cells [.sv 10 0 1 none 2], .cells [b [97], b [120]], .map false [(b [1, 97, 1, 120], i 0)], .map false [(b [97], .mp 13)], .map false [(b [120], l 14 1)], .cells [i 0], .cells [i 0, .sv 16 0 1
 none 2], .cells [.int .i64 ⟨0, [(0, 1)]⟩, .int .i64 ⟨0, [(1, 1)]⟩], .cells [.mp 18], .map true [], .map false [(b [119, 97, 108], .agg [.str [.b [9, 0, 7, 123, 97, 61, 34, 120, 34, 125, 67, 57], .a 11, .b [1, 1], .a 7, .b [0], .a
 9, .a 12], l 20 1])], .cells [i 2], .cells [i 3]])]⟩
theorem fc3_ok : runF fc3 = true := by kernel_rfl
end Go.SX
