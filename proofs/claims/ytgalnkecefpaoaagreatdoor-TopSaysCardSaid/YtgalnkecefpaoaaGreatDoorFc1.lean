/- Part of a proof. -/
import Derived.Test.YtgalnkecefpaoaaGreatDoorP5
set_option linter.unusedVariables false
set_option maxRecDepth 100000
namespace Go.SX
open Go Go.GV
def fc4 : Lfact := ⟨[p 1, b [99, 114, 97, 115, 104, 32, 48]], stL [d, .cells [p 2, p 4, e], .cells (i 512 :: e :: b [1, 7, 3] :: .str [.b [9, 0, 7, 123, 97, 61, 34, 120, 34, 125, 67, 57], .a 11, .b [1, 1], .a 7, .b [0], .a 9, .a
 12] :: .str [.b [1, 3, 119, 97, 108], .a 13, .b [2]] :: rp 508 (e) (.mp 3 :: v (.bool false) :: i 0 :: .int .u64 (kk 0) :: i 5 :: [])), .map true [], .cells [p 2, p 5, p 10, v (.slice none 0 0), i 0, i 0, v (.bool false), i 0, i
 0, i 0, .sv 17 0 1 (some 1) 2, v (.slice none 0 0), i 0, p 19, v (.pointer none)], .cells [p 2, .mp 6, .mp 7, l 9 1, i 1, v (.bool false)], .map false [(b [119, 97, 108], .str [.b [9, 0, 7, 123, 97, 61, 34, 120, 34, 125, 67, 57],
 .a 11, .b [1, 1], .a 7, .b [0], .a 9, .a 12])], .map false [(b [119, 97, 108], .agg [.str [.b [9, 0, 7, 123, 97, 61, 34, 120, 34, 125, 67, 57], .a 11, .b [1, 1], .a 7, .b [0], .a 9, .a 12], l 8 1])], .cells [i 2], .cells [i 3],
 .cells [l 11 1, .mp 13, .mp 14], .cells [.sv 12 0 1 none 2], .cells [b [97], b [120]], .map false [(b [1, 97, 1, 120], i 0)], .map false [(b [97], .mp 15)], .map false [(b [120], l 16 1)], .cells [i 0], .cells [i 0, .sv 18 0 1
 none 2], .cells [.int .i64 ⟨0, [(0, 1)]⟩, .int .i64 ⟨0, [(1, 1)]⟩], .cells [.mp 20], .map true []], [(b [111, 107], stL [d, .cells [p 2, p 21, e], .cells (i 512 :: e :: b [1, 7, 3] :: .str [.b [9, 0, 7, 123, 97, 61, 34, 120, 34,
 125, 67, 57], .a 11, .b [1, 1], .a 7, .b [0], .a 9, .a 12] :: .str [.b [1, 3, 119, 97, 108], .a 13, .b [2]] :: rp 508 (e) (.mp 3 :: v (.bool false) :: i 0 :: .int .u64 (kk 0) :: i 5 :: [])), .map true [], .cells [p 2, p 5, p 10,
 v (.slice none 0 0), i 0, i 0, v (.bool false), i 0, i 0, i 0, .sv 17 0 1 (some 1) 2, v (.slice none 0 0), i 0, p 19, v (.pointer none)], .cells [p 2, .mp 6, .mp 7, l 9 1, i 1, v (.bool false)], .map false [(b [119, 97, 108],
 .str [.b [9, 0, 7, 123, 97, 61, 34, 120, 34, 125, 67, 57], .a 11, .b [1, 1], .a 7, .b [0], .a 9, .a 12])], .map false [(b [119, 97, 108], .agg [.str [.b [9, 0, 7, 123, 97, 61, 34, 120, 34, 125, 67, 57], .a 11, .b [1, 1], .a 7, .b
 [0], .a 9, .a 12], l 8 1])], .cells [i 2], .cells [i 3], .cells [l 11 1, .mp 13, .mp 14], .cells [.sv 12 0 1 none 2], .cells [b [97], b [120]], .map false [(b [1, 97, 1, 120], i 0)], .map false [(b [97], .mp 15)], .map false [(b
 [120], l 16 1)], .cells [i 0], .cells [i 0, .sv 18 0 1 none 2], .cells [.int .i64 ⟨0, [(0, 1)]⟩, .int .i64 ⟨0, [(1, 1)]⟩], .cells [.mp 20], .map true [], .cells [p 2, p 22, p 27, v (.slice none 0 0), i 0, i 0, v (.bool false), i
 0, i 0, i 0, .sv 34 0 1 (some 1) 2, v (.slice none 0 0), i 0, p 36, v (.pointer none)], .cells [p 2, .mp 23, .mp 24, l 26 1, i 1, v (.bool false)], .map false [(b [119, 97, 108], .str [.b [9, 0, 7, 123, 97, 61, 34, 120, 34, 125,
 67, 57], .a 11, .b [1, 1], .a 7, .b [0], .a 9, .a 12])], .map false [(b [119, 97, 108], .agg [.str [.b [9, 0, 7, 123, 97, 61, 34, 120, 34, 125, 67, 57], .a 11, .b [1, 1], .a 7, .b [0], .a 9, .a 12], l 25 1])], .cells [i 2],
 .cells [i 3], .cells [l 28 1, .mp 30, .mp 31], .cells [.sv 29 0 1 none 2], .cells [b [97], b [120]], .map false [(b [1, 97, 1, 120], i 0)], .map false [(b [97], .mp 32)], .map false [(b [120], l 33 1)], .cells [i 0], .cells [i 0,
 .sv 35 0 1 none 2], .cells [.int .i64 ⟨0, [(0, 1)]⟩, .int .i64 ⟨0, [(1, 1)]⟩], .cells [.mp 37], .map true []])]⟩
theorem fc4_ok : runF fc4 = true := by kernel_rfl
def fc5 : Lfact := ⟨[p 1, b [113, 117, 101, 114, 121, 32, 91, 97, 61, 34, 120, 34, 93, 32, 48, 32, 49, 48, 48, 48]], stL [d, .cells [p 2, p 4, e], .cells (i 512 :: e :: b [1, 7, 3] :: .str [.b [9, 0, 7, 123, 97, 61, 34, 120, 34,
 125, 67, 57], .a 11, .b [1, 1], .a 7, .b [0], .a 9, .a 12] :: .str [.b [1, 3, 119, 97, 108], .a 13, .b [2]] :: rp 508 (e) (.mp 3 :: v (.bool false) :: i 0 :: .int .u64 (kk 0) :: i 5 :: [])), .map true [], .cells [p 2, p 5, p 10,
 v (.slice none 0 0), i 0, i 0, v (.bool false), i 0, i 0, i 0, .sv 17 0 1 (some 1) 2, v (.slice none 0 0), i 0, p 19, v (.pointer none)], .cells [p 2, .mp 6, .mp 7, l 9 1, i 1, v (.bool false)], .map false [(b [119, 97, 108],
 .str [.b [9, 0, 7, 123, 97, 61, 34, 120, 34, 125, 67, 57], .a 11, .b [1, 1], .a 7, .b [0], .a 9, .a 12])], .map false [(b [119, 97, 108], .agg [.str [.b [9, 0, 7, 123, 97, 61, 34, 120, 34, 125, 67, 57], .a 11, .b [1, 1], .a 7, .b
 [0], .a 9, .a 12], l 8 1])], .cells [i 2], .cells [i 3], .cells [l 11 1, .mp 13, .mp 14], .cells [.sv 12 0 1 none 2], .cells [b [97], b [120]], .map false [(b [1, 97, 1, 120], i 0)], .map false [(b [97], .mp 15)], .map false [(b
 [120], l 16 1)], .cells [i 0], .cells [i 0, .sv 18 0 1 none 2], .cells [.int .i64 ⟨0, [(0, 1)]⟩, .int .i64 ⟨0, [(1, 1)]⟩], .cells [.mp 20], .map true []], [(.str [.b [48, 58, 32], .a 2, .b [61], .a 4], stL [d, .cells [p 2, p 4,
 e], .cells (i 512 :: e :: b [1, 7, 3] :: .str [.b [9, 0, 7, 123, 97, 61, 34, 120, 34, 125, 67, 57], .a 11, .b [1, 1], .a 7, .b [0], .a 9, .a 12] :: .str [.b [1, 3, 119, 97, 108], .a 13, .b [2]] :: rp 508 (e) (.mp 3 :: v (.bool
 false) :: i 0 :: .int .u64 (kk 0) :: i 5 :: [])), .map true [], .cells [p 2, p 5, p 10, v (.slice none 0 0), i 0, i 0, v (.bool false), i 0, i 0, i 0, .sv 17 0 1 (some 1) 2, v (.slice none 0 0), i 0, p 19, v (.pointer none)],
 .cells [p 2, .mp 6, .mp 7, l 9 1, i 1, v (.bool false)], .map false [(b [119, 97, 108], .str [.b [9, 0, 7, 123, 97, 61, 34, 120, 34, 125, 67, 57], .a 11, .b [1, 1], .a 7, .b [0], .a 9, .a 12])], .map false [(b [119, 97, 108],
 .agg [.str [.b [9, 0, 7, 123, 97, 61, 34, 120, 34, 125, 67, 57], .a 11, .b [1, 1], .a 7, .b [0], .a 9, .a 12], l 8 1])], .cells [i 2], .cells [i 3], .cells [l 11 1, .mp 13, .mp 14], .cells [.sv 12 0 1 none 2], .cells [b [97], b
 [120]], .map false [(b [1, 97, 1, 120], i 0)], .map false [(b [97], .mp 15)], .map false [(b [120], l 16 1)], .cells [i 0], .cells [i 0, .sv 18 0 1 none 2], .cells [.int .i64 ⟨0, [(0, 1)]⟩, .int .i64 ⟨0, [(1, 1)]⟩], .cells [.mp
 20], .map true []])]⟩
theorem fc5_ok : runF fc5 = true := by kernel_rfl
def fc6 : Lfact := ⟨[p 1, b [115, 116, 97, 114, 116, 32, 91, 93, 32, 48, 32, 49, 48, 48, 48]], stL [d, .cells [p 2, p 4, e], .cells (i 512 :: e :: b [1, 7, 3] :: .str [.b [9, 0, 7, 123, 97, 61, 34, 120, 34, 125, 67, 57], .a 11, .b
 [1, 1], .a 7, .b [0], .a 9, .a 12] :: .str [.b [1, 3, 119, 97, 108], .a 13, .b [2]] :: rp 508 (e) (.mp 3 :: v (.bool false) :: i 0 :: .int .u64 (kk 0) :: i 5 :: [])), .map true [], .cells [p 2, p 5, p 10, v (.slice none 0 0), i
 0, i 0, v (.bool false), i 0, i 0, i 0, .sv 17 0 1 (some 1) 2, v (.slice none 0 0), i 0, p 19, v (.pointer none)], .cells [p 2, .mp 6, .mp 7, l 9 1, i 1, v (.bool false)], .map false [(b [119, 97, 108], .str [.b [9, 0, 7, 123,
 97, 61, 34, 120, 34, 125, 67, 57], .a 11, .b [1, 1], .a 7, .b [0], .a 9, .a 12])], .map false [(b [119, 97, 108], .agg [.str [.b [9, 0, 7, 123, 97, 61, 34, 120, 34, 125, 67, 57], .a 11, .b [1, 1], .a 7, .b [0], .a 9, .a 12], l 8
 1])], .cells [i 2], .cells [i 3], .cells [l 11 1, .mp 13, .mp 14], .cells [.sv 12 0 1 none 2], .cells [b [97], b [120]], .map false [(b [1, 97, 1, 120], i 0)], .map false [(b [97], .mp 15)], .map false [(b [120], l 16 1)], .cells
 [i 0], .cells [i 0, .sv 18 0 1 none 2], .cells [.int .i64 ⟨0, [(0, 1)]⟩, .int .i64 ⟨0, [(1, 1)]⟩], .cells [.mp 20], .map true []], [(b [48, 99, 48, 57, 53, 98, 53, 100, 50, 48, 51, 48, 50, 48, 51, 49, 51, 48, 51, 48, 51, 48, 48,
 48, 48, 48, 51, 57, 53, 55], stL [d, .cells [p 2, p 4, b [48, 99, 48, 57, 53, 98, 53, 100, 50, 48, 51, 48, 50, 48, 51, 49, 51, 48, 51, 48, 51, 48, 48, 48, 48, 48, 51, 57, 53, 55]], .cells (i 512 :: e :: b [1, 7, 3] :: .str [.b
 [9, 0, 7, 123, 97, 61, 34, 120, 34, 125, 67, 57], .a 11, .b [1, 1], .a 7, .b [0], .a 9, .a 12] :: .str [.b [1, 3, 119, 97, 108], .a 13, .b [2]] :: rp 508 (e) (.mp 3 :: v (.bool false) :: i 0 :: .int .u64 (kk 0) :: i 5 :: [])),
 .map true [], .cells [p 2, p 5, p 10, v (.slice none 0 0), i 0, i 0, v (.bool false), i 0, i 0, i 0, .sv 17 0 1 (some 1) 2, v (.slice none 0 0), i 0, p 19, v (.pointer none)], .cells [p 2, .mp 6, .mp 7, l 9 1, i 1, v (.bool
 false)], .map false [(b [119, 97, 108], .str [.b [9, 0, 7, 123, 97, 61, 34, 120, 34, 125, 67, 57], .a 11, .b [1, 1], .a 7, .b [0], .a 9, .a 12])], .map false [(b [119, 97, 108], .agg [.str [.b [9, 0, 7, 123, 97, 61, 34, 120, 34,
 125, 67, 57], .a 11, .b [1, 1], .a 7, .b [0], .a 9, .a 12], l 8 1])], .cells [i 2], .cells [i 3], .cells [l 11 1, .mp 13, .mp 14], .cells [.sv 12 0 1 none 2], .cells [b [97], b [120]], .map false [(b [1, 97, 1, 120], i 0)], .map
 false [(b [97], .mp 15)], .map false [(b [120], l 16 1)], .cells [i 0], .cells [i 0, .sv 18 0 1 none 2], .cells [.int .i64 ⟨0, [(0, 1)]⟩, .int .i64 ⟨0, [(1, 1)]⟩], .cells [.mp 20], .map true []])]⟩
theorem fc6_ok : runF fc6 = true := by kernel_rfl
def fc7 : Lfact := ⟨[p 1, b [112, 97, 103, 101, 32, 53]], stL [d, .cells [p 2, p 4, b [48, 99, 48, 57, 53, 98, 53, 100, 50, 48, 51, 48, 50, 48, 51, 49, 51, 48, 51, 48, 51, 48, 48, 48, 48, 48, 51, 57, 53, 55]], .cells (i 512 :: e
 :: b [1, 7, 3] :: .str [.b [9, 0, 7, 123, 97, 61, 34, 120, 34, 125, 67, 57], .a 11, .b [1, 1], .a 7, .b [0], .a 9, .a 12] :: .str [.b [1, 3, 119, 97, 108], .a 13, .b [2]] :: rp 508 (e) (.mp 3 :: v (.bool false) :: i 0 :: .int
 .u64 (kk 0) :: i 5 :: [])), .map true [], .cells [p 2, p 5, p 10, v (.slice none 0 0), i 0, i 0, v (.bool false), i 0, i 0, i 0, .sv 17 0 1 (some 1) 2, v (.slice none 0 0), i 0, p 19, v (.pointer none)], .cells [p 2, .mp 6, .mp
 7, l 9 1, i 1, v (.bool false)], .map false [(b [119, 97, 108], .str [.b [9, 0, 7, 123, 97, 61, 34, 120, 34, 125, 67, 57], .a 11, .b [1, 1], .a 7, .b [0], .a 9, .a 12])], .map false [(b [119, 97, 108], .agg [.str [.b [9, 0, 7,
 123, 97, 61, 34, 120, 34, 125, 67, 57], .a 11, .b [1, 1], .a 7, .b [0], .a 9, .a 12], l 8 1])], .cells [i 2], .cells [i 3], .cells [l 11 1, .mp 13, .mp 14], .cells [.sv 12 0 1 none 2], .cells [b [97], b [120]], .map false [(b [1,
 97, 1, 120], i 0)], .map false [(b [97], .mp 15)], .map false [(b [120], l 16 1)], .cells [i 0], .cells [i 0, .sv 18 0 1 none 2], .cells [.int .i64 ⟨0, [(0, 1)]⟩, .int .i64 ⟨0, [(1, 1)]⟩], .cells [.mp 20], .map true []], [(.str
 [.a 2, .b [64, 48, 61], .a 4], stL [d, .cells [p 2, p 4, e], .cells (i 512 :: e :: b [1, 7, 3] :: .str [.b [9, 0, 7, 123, 97, 61, 34, 120, 34, 125, 67, 57], .a 11, .b [1, 1], .a 7, .b [0], .a 9, .a 12] :: .str [.b [1, 3, 119, 97,
 108], .a 13, .b [2]] :: rp 508 (e) (.mp 3 :: v (.bool false) :: i 0 :: .int .u64 (kk 0) :: i 5 :: [])), .map true [], .cells [p 2, p 5, p 10, v (.slice none 0 0), i 0, i 0, v (.bool false), i 0, i 0, i 0, .sv 17 0 1 (some 1) 2, v
 (.slice none 0 0), i 0, p 19, v (.pointer none)], .cells [p 2, .mp 6, .mp 7, l 9 1, i 1, v (.bool false)], .map false [(b [119, 97, 108], .str [.b [9, 0, 7, 123, 97, 61, 34, 120, 34, 125, 67, 57], .a 11, .b [1, 1], .a 7, .b [0],
 .a 9, .a 12])], .map false [(b [119, 97, 108], .agg [.str [.b [9, 0, 7, 123, 97, 61, 34, 120, 34, 125, 67, 57], .a 11, .b [1, 1], .a 7, .b [0], .a 9, .a 12], l 8 1])], .cells [i 2], .cells [i 3], .cells [l 11 1, .mp 13, .mp 14],
 .cells [.sv 12 0 1 none 2], .cells [b [97], b [120]], .map false [(b [1, 97, 1, 120], i 0)], .map false [(b [97], .mp 15)], .map false [(b [120], l 16 1)], .cells [i 0], .cells [i 0, .sv 18 0 1 none 2], .cells [.int .i64 ⟨0, [(0,
 1)]⟩, .int .i64 ⟨0, [(1, 1)]⟩], .cells [.mp 20], .map true []])]⟩
theorem fc7_ok : runF fc7 = true := by kernel_rfl
end Go.SX
