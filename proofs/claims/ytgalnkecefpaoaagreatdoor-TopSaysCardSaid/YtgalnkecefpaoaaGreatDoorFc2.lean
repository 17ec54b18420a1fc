/- Part of a proof. -/
import Derived.Test.YtgalnkecefpaoaaGreatDoorP5
set_option linter.unusedVariables false
set_option maxRecDepth 100000
namespace Go.SX
open Go Go.GV
def fc8 : Lfact := ⟨[p 1, b [112, 97, 103, 101, 32, 53]], stL [d, .cells [p 2, p 4, e], .cells (i 512 :: e :: b [1, 7, 3] :: .str [.b [9, 0, 7, 123, 97, 61, 34, 120, 34, 125, 67, 57], .a 11, .b [1, 1], .a 7, .b [0], .a 9, .a 12]
 :: .str [.b [1, 3, 119, 97, 108], .a 13, .b [2]] :: rp 508 (e) (.mp 3 :: v (.bool false) :: i 0 :: .int .u64 (kk 0) :: i 5 :: [])), .map true [], .cells [p 2, p 5, p 10, v (.slice none 0 0), i 0, i 0, v (.bool false), i 0, i 0, i
 0, .sv 17 0 1 (some 1) 2, v (.slice none 0 0), i 0, p 19, v (.pointer none)], .cells [p 2, .mp 6, .mp 7, l 9 1, i 1, v (.bool false)], .map false [(b [119, 97, 108], .str [.b [9, 0, 7, 123, 97, 61, 34, 120, 34, 125, 67, 57], .a
 11, .b [1, 1], .a 7, .b [0], .a 9, .a 12])], .map false [(b [119, 97, 108], .agg [.str [.b [9, 0, 7, 123, 97, 61, 34, 120, 34, 125, 67, 57], .a 11, .b [1, 1], .a 7, .b [0], .a 9, .a 12], l 8 1])], .cells [i 2], .cells [i 3],
 .cells [l 11 1, .mp 13, .mp 14], .cells [.sv 12 0 1 none 2], .cells [b [97], b [120]], .map false [(b [1, 97, 1, 120], i 0)], .map false [(b [97], .mp 15)], .map false [(b [120], l 16 1)], .cells [i 0], .cells [i 0, .sv 18 0 1
 none 2], .cells [.int .i64 ⟨0, [(0, 1)]⟩, .int .i64 ⟨0, [(1, 1)]⟩], .cells [.mp 20], .map true []], [(b [101, 114, 114, 111, 114, 32, 50, 48, 48], stL [d, .cells [p 2, p 4, e], .cells (i 512 :: e :: b [1, 7, 3] :: .str [.b [9, 0,
 7, 123, 97, 61, 34, 120, 34, 125, 67, 57], .a 11, .b [1, 1], .a 7, .b [0], .a 9, .a 12] :: .str [.b [1, 3, 119, 97, 108], .a 13, .b [2]] :: rp 508 (e) (.mp 3 :: v (.bool false) :: i 0 :: .int .u64 (kk 0) :: i 5 :: [])), .map true
 [], .cells [p 2, p 5, p 10, v (.slice none 0 0), i 0, i 0, v (.bool false), i 0, i 0, i 0, .sv 17 0 1 (some 1) 2, v (.slice none 0 0), i 0, p 19, v (.pointer none)], .cells [p 2, .mp 6, .mp 7, l 9 1, i 1, v (.bool false)], .map
 false [(b [119, 97, 108], .str [.b [9, 0, 7, 123, 97, 61, 34, 120, 34, 125, 67, 57], .a 11, .b [1, 1], .a 7, .b [0], .a 9, .a 12])], .map false [(b [119, 97, 108], .agg [.str [.b [9, 0, 7, 123, 97, 61, 34, 120, 34, 125, 67, 57],
 .a 11, .b [1, 1], .a 7, .b [0], .a 9, .a 12], l 8 1])], .cells [i 2], .cells [i 3], .cells [l 11 1, .mp 13, .mp 14], .cells [.sv 12 0 1 none 2], .cells [b [97], b [120]], .map false [(b [1, 97, 1, 120], i 0)], .map false [(b
 [97], .mp 15)], .map false [(b [120], l 16 1)], .cells [i 0], .cells [i 0, .sv 18 0 1 none 2], .cells [.int .i64 ⟨0, [(0, 1)]⟩, .int .i64 ⟨0, [(1, 1)]⟩], .cells [.mp 20], .map true []])]⟩
theorem fc8_ok : runF fc8 = true := by kernel_rfl
def fc9 : Lfact := ⟨[p 1, b [114, 101, 116, 97, 105, 110, 32, 51, 48, 48]], stL [d, .cells [p 2, p 4, e], .cells (i 512 :: e :: b [1, 7, 3] :: .str [.b [9, 0, 7, 123, 97, 61, 34, 120, 34, 125, 67, 57], .a 11, .b [1, 1], .a 7, .b
 [0], .a 9, .a 12] :: .str [.b [1, 3, 119, 97, 108], .a 13, .b [2]] :: rp 508 (e) (.mp 3 :: v (.bool false) :: i 0 :: .int .u64 (kk 0) :: i 5 :: [])), .map true [], .cells [p 2, p 5, p 10, v (.slice none 0 0), i 0, i 0, v (.bool
 false), i 0, i 0, i 0, .sv 17 0 1 (some 1) 2, v (.slice none 0 0), i 0, p 19, v (.pointer none)], .cells [p 2, .mp 6, .mp 7, l 9 1, i 1, v (.bool false)], .map false [(b [119, 97, 108], .str [.b [9, 0, 7, 123, 97, 61, 34, 120,
 34, 125, 67, 57], .a 11, .b [1, 1], .a 7, .b [0], .a 9, .a 12])], .map false [(b [119, 97, 108], .agg [.str [.b [9, 0, 7, 123, 97, 61, 34, 120, 34, 125, 67, 57], .a 11, .b [1, 1], .a 7, .b [0], .a 9, .a 12], l 8 1])], .cells [i
 2], .cells [i 3], .cells [l 11 1, .mp 13, .mp 14], .cells [.sv 12 0 1 none 2], .cells [b [97], b [120]], .map false [(b [1, 97, 1, 120], i 0)], .map false [(b [97], .mp 15)], .map false [(b [120], l 16 1)], .cells [i 0], .cells
 [i 0, .sv 18 0 1 none 2], .cells [.int .i64 ⟨0, [(0, 1)]⟩, .int .i64 ⟨0, [(1, 1)]⟩], .cells [.mp 20], .map true []], [(b [111, 107], stL [d, .cells [p 2, p 4, e], .cells (i 512 :: e :: b [1, 7, 3] :: .str [.b [9, 0, 7, 123, 97,
 61, 34, 120, 34, 125, 67, 57], .a 11, .b [1, 1], .a 7, .b [0], .a 9, .a 12] :: .str [.b [1, 3, 119, 97, 108], .a 13, .b [2]] :: rp 508 (e) (.mp 3 :: v (.bool false) :: i 0 :: .int .u64 (kk 0) :: i 5 :: [])), .map true [], .cells
 [p 2, p 5, p 10, v (.slice none 0 0), i 0, i 0, v (.bool false), i 0, i 0, i 0, v (.slice none 0 0), v (.slice none 0 0), i 300, p 19, v (.pointer none)], .cells [p 2, .mp 21, .mp 7, l 9 1, i 1, v (.bool false)], .map false [(b
 [119, 97, 108], .str [.b [9, 0, 7, 123, 97, 61, 34, 120, 34, 125, 67, 57], .a 11, .b [1, 1], .a 7, .b [0], .a 9, .a 12])], .map false [(b [119, 97, 108], .agg [.str [.b [9, 0, 7, 123, 97, 61, 34, 120, 34, 125, 67, 57], .a 11, .b
 [1, 1], .a 7, .b [0], .a 9, .a 12], l 8 1])], .cells [i 2], .cells [i 3], .cells [l 11 1, .mp 13, .mp 14], .cells [.sv 12 0 1 none 2], .cells [b [97], b [120]], .map false [(b [1, 97, 1, 120], i 0)], .map false [(b [97], .mp
 15)], .map false [(b [120], l 16 1)], .cells [i 0], .cells [i 0, .sv 18 0 1 none 2], .cells [.int .i64 ⟨0, [(0, 1)]⟩, .int .i64 ⟨0, [(1, 1)]⟩], .cells [.mp 20], .map true [], .map false [(b [119, 97, 108], .str [.b [9, 0, 7, 123,
 97, 61, 34, 120, 34, 125, 67, 57], .a 11, .b [1, 1], .a 7, .b [0], .a 9, .a 12, .b [3, 3, 172, 2, 237, 157]])]])]⟩
theorem fc9_ok : runF fc9 = true := by kernel_rfl
def fc10 : Lfact := ⟨[p 1, b [113, 117, 101, 114, 121, 32, 91, 93, 32, 48, 32, 49, 48, 48, 48]], stL [d, .cells [p 2, p 4, e], .cells (i 512 :: e :: b [1, 7, 3] :: .str [.b [9, 0, 7, 123, 97, 61, 34, 120, 34, 125, 67, 57], .a 11,
 .b [1, 1], .a 7, .b [0], .a 9, .a 12] :: .str [.b [1, 3, 119, 97, 108], .a 13, .b [2]] :: rp 508 (e) (.mp 3 :: v (.bool false) :: i 0 :: .int .u64 (kk 0) :: i 5 :: [])), .map true [], .cells [p 2, p 5, p 10, v (.slice none 0 0),
 i 0, i 0, v (.bool false), i 0, i 0, i 0, v (.slice none 0 0), v (.slice none 0 0), i 300, p 17, v (.pointer none)], .cells [p 2, .mp 6, .mp 7, l 9 1, i 1, v (.bool false)], .map false [(b [119, 97, 108], .str [.b [9, 0, 7, 123,
 97, 61, 34, 120, 34, 125, 67, 57], .a 11, .b [1, 1], .a 7, .b [0], .a 9, .a 12, .b [3, 3, 172, 2, 237, 157]])], .map false [(b [119, 97, 108], .agg [.str [.b [9, 0, 7, 123, 97, 61, 34, 120, 34, 125, 67, 57], .a 11, .b [1, 1], .a
 7, .b [0], .a 9, .a 12], l 8 1])], .cells [i 2], .cells [i 3], .cells [l 11 1, .mp 13, .mp 14], .cells [.sv 12 0 1 none 2], .cells [b [97], b [120]], .map false [(b [1, 97, 1, 120], i 0)], .map false [(b [97], .mp 15)], .map
 false [(b [120], l 16 1)], .cells [i 0], .cells [.mp 18], .map true []], [(b [110, 111, 110, 101], stL [d, .cells [p 2, p 4, e], .cells (i 512 :: e :: b [1, 7, 3] :: .str [.b [9, 0, 7, 123, 97, 61, 34, 120, 34, 125, 67, 57], .a
 11, .b [1, 1], .a 7, .b [0], .a 9, .a 12] :: .str [.b [1, 3, 119, 97, 108], .a 13, .b [2]] :: rp 508 (e) (.mp 3 :: v (.bool false) :: i 0 :: .int .u64 (kk 0) :: i 5 :: [])), .map true [], .cells [p 2, p 5, p 10, v (.slice none 0
 0), i 0, i 0, v (.bool false), i 0, i 0, i 0, v (.slice none 0 0), v (.slice none 0 0), i 300, p 17, v (.pointer none)], .cells [p 2, .mp 6, .mp 7, l 9 1, i 1, v (.bool false)], .map false [(b [119, 97, 108], .str [.b [9, 0, 7,
 123, 97, 61, 34, 120, 34, 125, 67, 57], .a 11, .b [1, 1], .a 7, .b [0], .a 9, .a 12, .b [3, 3, 172, 2, 237, 157]])], .map false [(b [119, 97, 108], .agg [.str [.b [9, 0, 7, 123, 97, 61, 34, 120, 34, 125, 67, 57], .a 11, .b [1,
 1], .a 7, .b [0], .a 9, .a 12], l 8 1])], .cells [i 2], .cells [i 3], .cells [l 11 1, .mp 13, .mp 14], .cells [.sv 12 0 1 none 2], .cells [b [97], b [120]], .map false [(b [1, 97, 1, 120], i 0)], .map false [(b [97], .mp 15)],
 .map false [(b [120], l 16 1)], .cells [i 0], .cells [.mp 18], .map true []])]⟩
theorem fc10_ok : runF fc10 = true := by kernel_rfl
def fc11 : Lfact := ⟨[p 1, b [115, 116, 101, 112]], stL [d, .cells [p 2, p 4, e], .cells (i 512 :: rp 512 (e) (.mp 3 :: v (.bool false) :: i 0 :: .int .u64 (kk 0) :: i 0 :: [])), .map true [], .cells [p 2, p 5, p 8, v (.slice none
 0 0), i 0, i 0, v (.bool false), i 0, i 0, i 0, .sv 15 0 1 (some 1) 2, v (.slice none 0 0), i 0, p 17, v (.pointer none)], .cells [p 2, .mp 6, .mp 7, v (.slice none 0 0), i 0, v (.bool false)], .map false [(b [119, 97, 108], .str
 [.b [9, 0, 7, 123, 97, 61, 34, 120, 34, 125, 67, 57], .a 11, .b [1, 1], .a 7, .b [0], .a 9, .a 12])], .map false [], .cells [l 9 1, .mp 11, .mp 12], .cells [.sv 10 0 1 none 2], .cells [b [97], b [120]], .map false [(b [1, 97, 1,
 120], i 0)], .map false [(b [97], .mp 13)], .map false [(b [120], l 14 1)], .cells [i 0], .cells [i 0, .sv 16 0 1 none 2], .cells [.int .i64 ⟨0, [(0, 1)]⟩, .int .i64 ⟨0, [(1, 1)]⟩], .cells [.mp 18], .map true []], [(b [111, 107,
 32, 49], stL [d, .cells [p 2, p 4, e], .cells (i 512 :: rp 512 (e) (.mp 3 :: v (.bool false) :: i 0 :: .int .u64 (kk 0) :: i 0 :: [])), .map true [], .cells [p 2, p 5, p 8, .sv 20 0 1 none 3, i 1, i 0, v (.bool false), i 0, i 0,
 i 0, v (.slice none 0 0), v (.slice none 0 0), i 0, p 17, v (.pointer none)], .cells [p 2, .mp 19, .mp 7, v (.slice none 0 0), i 0, v (.bool false)], .map false [(b [119, 97, 108], .str [.b [9, 0, 7, 123, 97, 61, 34, 120, 34,
 125, 67, 57], .a 11, .b [1, 1], .a 7, .b [0], .a 9, .a 12])], .map false [], .cells [l 9 1, .mp 11, .mp 12], .cells [.sv 10 0 1 none 2], .cells [b [97], b [120]], .map false [(b [1, 97, 1, 120], i 0)], .map false [(b [97], .mp
 13)], .map false [(b [120], l 14 1)], .cells [i 0], .cells [i 0, .sv 16 0 1 none 2], .cells [.int .i64 ⟨0, [(0, 1)]⟩, .int .i64 ⟨0, [(1, 1)]⟩], .cells [.mp 18], .map true [], .map false [(b [102, 48], .str [.b [1, 0], .a 15, .b
 [1], .a 7, .a 9]), (b [109, 97, 110, 105, 102, 101, 115, 116], .str [.b [1], .a 21, .b [0, 0, 1, 0, 0]]), (b [105, 110, 100, 101, 120], b [1, 7, 123, 97, 61, 34, 120, 34, 125])], .cells [.int .i64 ⟨0, [(20, 1)]⟩, i 0, b [102,
 48]]])]⟩
theorem fc11_ok : runF fc11 = true := by kernel_rfl
end Go.SX
