/- Part of a proof. -/
import Derived.Test.YtgalnkecefpaoaaGreatDoorP5
set_option linter.unusedVariables false
set_option maxRecDepth 100000
namespace Go.SX
open Go Go.GV
def fc12 : Lfact := ⟨[p 1, b [113, 117, 101, 114, 121, 32, 91, 93, 32, 48, 32, 49, 48, 48, 48]], stL [d, .cells [p 2, p 4, e], .cells (i 512 :: rp 512 (e) (.mp 3 :: v (.bool false) :: i 0 :: .int .u64 (kk 0) :: i 0 :: [])), .map
 true [], .cells [p 2, p 5, p 8, .sv 15 0 1 none 3, i 1, i 0, v (.bool false), i 0, i 0, i 0, v (.slice none 0 0), v (.slice none 0 0), i 0, p 16, v (.pointer none)], .cells [p 2, .mp 6, .mp 7, v (.slice none 0 0), i 0, v (.bool
 false)], .map false [(b [102, 48], .str [.b [1, 0], .a 15, .b [1], .a 7, .a 9]), (b [109, 97, 110, 105, 102, 101, 115, 116], .str [.b [1], .a 21, .b [0, 0, 1, 0, 0]]), (b [105, 110, 100, 101, 120], b [1, 7, 123, 97, 61, 34, 120,
 34, 125])], .map false [], .cells [l 9 1, .mp 11, .mp 12], .cells [.sv 10 0 1 none 2], .cells [b [97], b [120]], .map false [(b [1, 97, 1, 120], i 0)], .map false [(b [97], .mp 13)], .map false [(b [120], l 14 1)], .cells [i 0],
 .cells [.int .i64 ⟨0, [(20, 1)]⟩, i 0, b [102, 48]], .cells [.mp 17], .map true []], [(.str [.b [48, 58, 32], .a 2, .b [61], .a 4], stL [d, .cells [p 2, p 4, e], .cells (i 512 :: rp 512 (e) (.mp 3 :: v (.bool false) :: i 0 ::
 .int .u64 (kk 0) :: i 0 :: [])), .map true [], .cells [p 2, p 5, p 8, .sv 15 0 1 none 3, i 1, i 0, v (.bool false), i 0, i 0, i 0, v (.slice none 0 0), v (.slice none 0 0), i 0, p 16, v (.pointer none)], .cells [p 2, .mp 6, .mp
 7, v (.slice none 0 0), i 0, v (.bool false)], .map false [(b [102, 48], .str [.b [1, 0], .a 15, .b [1], .a 7, .a 9]), (b [109, 97, 110, 105, 102, 101, 115, 116], .str [.b [1], .a 21, .b [0, 0, 1, 0, 0]]), (b [105, 110, 100, 101,
 120], b [1, 7, 123, 97, 61, 34, 120, 34, 125])], .map false [], .cells [l 9 1, .mp 11, .mp 12], .cells [.sv 10 0 1 none 2], .cells [b [97], b [120]], .map false [(b [1, 97, 1, 120], i 0)], .map false [(b [97], .mp 13)], .map
 false [(b [120], l 14 1)], .cells [i 0], .cells [.int .i64 ⟨0, [(20, 1)]⟩, i 0, b [102, 48]], .cells [.mp 17], .map true [(.int .i64 ⟨0, [(20, 1)]⟩, .agg [i 1, i 0])]])]⟩
theorem fc12_ok : runF fc12 = true := by kernel_rfl
def fc13 : Lfact := ⟨[p 1, b [97, 103, 103, 32, 91, 93, 32, 48, 32, 49, 48, 48, 48, 32, 49, 48, 48, 48]], stL [d, .cells [p 2, p 4, e], .cells (i 512 :: rp 512 (e) (.mp 3 :: v (.bool false) :: i 0 :: .int .u64 (kk 0) :: i 0 ::
 [])), .map true [], .cells [p 2, p 5, p 8, .sv 15 0 1 none 3, i 1, i 0, v (.bool false), i 0, i 0, i 0, v (.slice none 0 0), v (.slice none 0 0), i 0, p 16, v (.pointer none)], .cells [p 2, .mp 6, .mp 7, v (.slice none 0 0), i 0,
 v (.bool false)], .map false [(b [102, 48], .str [.b [1, 0], .a 15, .b [1], .a 7, .a 9]), (b [109, 97, 110, 105, 102, 101, 115, 116], .str [.b [1], .a 21, .b [0, 0, 1, 0, 0]]), (b [105, 110, 100, 101, 120], b [1, 7, 123, 97, 61,
 34, 120, 34, 125])], .map false [], .cells [l 9 1, .mp 11, .mp 12], .cells [.sv 10 0 1 none 2], .cells [b [97], b [120]], .map false [(b [1, 97, 1, 120], i 0)], .map false [(b [97], .mp 13)], .map false [(b [120], l 14 1)],
 .cells [i 0], .cells [.int .i64 ⟨0, [(20, 1)]⟩, i 0, b [102, 48]], .cells [.mp 17], .map true [(.int .i64 ⟨0, [(20, 1)]⟩, .agg [i 1, i 0])]], [(.str [.b [48, 47, 49, 47], .a 4, .b [47], .a 4, .b [47], .a 4], stL [d, .cells [p 2,
 p 4, e], .cells (i 512 :: rp 512 (e) (.mp 3 :: v (.bool false) :: i 0 :: .int .u64 (kk 0) :: i 0 :: [])), .map true [], .cells [p 2, p 5, p 8, .sv 15 0 1 none 3, i 1, i 0, v (.bool false), i 0, i 0, i 0, v (.slice none 0 0), v
 (.slice none 0 0), i 0, p 16, v (.pointer none)], .cells [p 2, .mp 6, .mp 7, v (.slice none 0 0), i 0, v (.bool false)], .map false [(b [102, 48], .str [.b [1, 0], .a 15, .b [1], .a 7, .a 9]), (b [109, 97, 110, 105, 102, 101,
 115, 116], .str [.b [1], .a 21, .b [0, 0, 1, 0, 0]]), (b [105, 110, 100, 101, 120], b [1, 7, 123, 97, 61, 34, 120, 34, 125])], .map false [], .cells [l 9 1, .mp 11, .mp 12], .cells [.sv 10 0 1 none 2], .cells [b [97], b [120]],
 .map false [(b [1, 97, 1, 120], i 0)], .map false [(b [97], .mp 13)], .map false [(b [120], l 14 1)], .cells [i 0], .cells [.int .i64 ⟨0, [(20, 1)]⟩, i 0, b [102, 48]], .cells [.mp 17], .map true [(.int .i64 ⟨0, [(20, 1)]⟩, .agg
 [i 2, i 0])]])]⟩
theorem fc13_ok : runF fc13 = true := by kernel_rfl
def fc14 : Lfact := ⟨[p 1, b [115, 121, 110, 99]], stL [d, .cells [p 2, p 4, e], .cells (i 512 :: rp 512 (e) (.mp 3 :: v (.bool false) :: i 0 :: .int .u64 (kk 0) :: i 0 :: [])), .map true [], .cells [p 2, p 5, p 8, .sv 15 0 1 none
 3, i 1, i 0, v (.bool false), i 0, i 0, i 0, v (.slice none 0 0), v (.slice none 0 0), i 0, p 16, v (.pointer none)], .cells [p 2, .mp 6, .mp 7, v (.slice none 0 0), i 0, v (.bool false)], .map false [(b [102, 48], .str [.b [1,
 0], .a 15, .b [1], .a 7, .a 9]), (b [109, 97, 110, 105, 102, 101, 115, 116], .str [.b [1], .a 21, .b [0, 0, 1, 0, 0]]), (b [105, 110, 100, 101, 120], b [1, 7, 123, 97, 61, 34, 120, 34, 125])], .map false [], .cells [l 9 1, .mp
 11, .mp 12], .cells [.sv 10 0 1 none 2], .cells [b [97], b [120]], .map false [(b [1, 97, 1, 120], i 0)], .map false [(b [97], .mp 13)], .map false [(b [120], l 14 1)], .cells [i 0], .cells [.int .i64 ⟨0, [(20, 1)]⟩, i 0, b [102,
 48]], .cells [.mp 17], .map true [(.int .i64 ⟨0, [(20, 1)]⟩, .agg [i 2, i 0])]], [(b [111, 107], stL [d, .cells [p 2, p 4, e], .cells (i 512 :: e :: b [1, 25, 5] :: .str [.b [1, 0], .a 15, .b [1], .a 7, .a 9] :: b [1, 7, 123, 97,
 61, 34, 120, 34, 125] :: .str [.b [1], .a 21, .b [0, 0, 1, 0, 0]] :: .str [.b [3, 2, 102, 48], .a 16, .b [2, 5, 105, 110, 100, 101, 120, 9, 3, 8, 109, 97, 110, 105, 102, 101, 115, 116, 7, 4]] :: rp 506 (e) (.mp 3 :: v (.bool
 false) :: i 0 :: .int .u64 (kk 0) :: i 7 :: [])), .map true [], .cells [p 2, p 5, p 8, .sv 15 0 1 none 3, i 1, i 0, v (.bool false), i 0, i 0, i 0, v (.slice none 0 0), v (.slice none 0 0), i 0, p 16, v (.pointer none)], .cells
 [p 2, .mp 6, .mp 18, l 22 1, i 1, v (.bool false)], .map false [(b [102, 48], .str [.b [1, 0], .a 15, .b [1], .a 7, .a 9]), (b [109, 97, 110, 105, 102, 101, 115, 116], .str [.b [1], .a 21, .b [0, 0, 1, 0, 0]]), (b [105, 110, 100,
 101, 120], b [1, 7, 123, 97, 61, 34, 120, 34, 125])], .map false [], .cells [l 9 1, .mp 11, .mp 12], .cells [.sv 10 0 1 none 2], .cells [b [97], b [120]], .map false [(b [1, 97, 1, 120], i 0)], .map false [(b [97], .mp 13)], .map
 false [(b [120], l 14 1)], .cells [i 0], .cells [.int .i64 ⟨0, [(20, 1)]⟩, i 0, b [102, 48]], .cells [.mp 17], .map true [(.int .i64 ⟨0, [(20, 1)]⟩, .agg [i 2, i 0])], .map false [(b [102, 48], .agg [.str [.b [1, 0], .a 15, .b
 [1], .a 7, .a 9], l 19 1]), (b [105, 110, 100, 101, 120], .agg [b [1, 7, 123, 97, 61, 34, 120, 34, 125], l 20 1]), (b [109, 97, 110, 105, 102, 101, 115, 116], .agg [.str [.b [1], .a 21, .b [0, 0, 1, 0, 0]], l 21 1])], .cells [i
 2], .cells [i 3], .cells [i 4], .cells [i 5]])]⟩
theorem fc14_ok : runF fc14 = true := by kernel_rfl
def fc15 : Lfact := ⟨[p 1, b [99, 114, 97, 115, 104, 32, 48]], stL [d, .cells [p 2, p 4, e], .cells (i 512 :: e :: b [1, 25, 5] :: .str [.b [1, 0], .a 15, .b [1], .a 7, .a 9] :: b [1, 7, 123, 97, 61, 34, 120, 34, 125] :: .str [.b
 [1], .a 21, .b [0, 0, 1, 0, 0]] :: .str [.b [3, 2, 102, 48], .a 16, .b [2, 5, 105, 110, 100, 101, 120, 9, 3, 8, 109, 97, 110, 105, 102, 101, 115, 116, 7, 4]] :: rp 506 (e) (.mp 3 :: v (.bool false) :: i 0 :: .int .u64 (kk 0) :: i
 7 :: [])), .map true [], .cells [p 2, p 5, p 12, .sv 19 0 1 none 3, i 1, i 0, v (.bool false), i 0, i 0, i 0, v (.slice none 0 0), v (.slice none 0 0), i 0, p 20, v (.pointer none)], .cells [p 2, .mp 6, .mp 7, l 11 1, i 1, v
 (.bool false)], .map false [(b [102, 48], .str [.b [1, 0], .a 15, .b [1], .a 7, .a 9]), (b [109, 97, 110, 105, 102, 101, 115, 116], .str [.b [1], .a 21, .b [0, 0, 1, 0, 0]]), (b [105, 110, 100, 101, 120], b [1, 7, 123, 97, 61,
 34, 120, 34, 125])], .map false [(b [102, 48], .agg [.str [.b [1, 0], .a 15, .b [1], .a 7, .a 9], l 8 1]), (b [105, 110, 100, 101, 120], .agg [b [1, 7, 123, 97, 61, 34, 120, 34, 125], l 9 1]), (b [109, 97, 110, 105, 102, 101,
 115, 116], .agg [.str [.b [1], .a 21, .b [0, 0, 1, 0, 0]], l 10 1])], .cells [i 2], .cells [i 3], .cells [i 4], .cells [i 5], .cells [l 13 1, .mp 15, .mp 16], .cells [.sv 14 0 1 none 2], .cells [b [97], b [120]], .map false [(b
 [1, 97, 1, 120], i 0)], .map false [(b [97], .mp 17)], .map false [(b [120], l 18 1)], .cells [i 0], .cells [.int .i64 ⟨0, [(20, 1)]⟩, i 0, b [102, 48]], .cells [.mp 21], .map true [(.int .i64 ⟨0, [(20, 1)]⟩, .agg [i 2, i 0])]],
 [(b [111, 107], stL [d, .cells [p 2, p 22, e], .cells (i 512 :: e :: b [1, 25, 5] :: .str [.b [1, 0], .a 15, .b [1], .a 7, .a 9] :: b [1, 7, 123, 97, 61, 34, 120, 34, 125] :: .str [.b [1], .a 21, .b [0, 0, 1, 0, 0]] :: .str [.b
 [3, 2, 102, 48], .a 16, .b [2, 5, 105, 110, 100, 101, 120, 9, 3, 8, 109, 97, 110, 105, 102, 101, 115, 116, 7, 4]] :: rp 506 (e) (.mp 3 :: v (.bool false) :: i 0 :: .int .u64 (kk 0) :: i 7 :: [])), .map true [], .cells [p 2, p 5,
 p 12, .sv 19 0 1 none 3, i 1, i 0, v (.bool false), i 0, i 0, i 0, v (.slice none 0 0), v (.slice none 0 0), i 0, p 20, v (.pointer none)], .cells [p 2, .mp 6, .mp 7, l 11 1, i 1, v (.bool false)], .map false [(b [102, 48], .str
 [.b [1, 0], .a 15, .b [1], .a 7, .a 9]), (b [109, 97, 110, 105, 102, 101, 115, 116], .str [.b [1], .a 21, .b [0, 0, 1, 0, 0]]), (b [105, 110, 100, 101, 120], b [1, 7, 123, 97, 61, 34, 120, 34, 125])], .map false [(b [102, 48],
 .agg [.str [.b [1, 0], .a 15, .b [1], .a 7, .a 9], l 8 1]), (b [105, 110, 100, 101, 120], .agg [b [1, 7, 123, 97, 61, 34, 120, 34, 125], l 9 1]), (b [109, 97, 110, 105, 102, 101, 115, 116], .agg [.str [.b [1], .a 21, .b [0, 0, 1,
 0, 0]], l 10 1])], .cells [i 2], .cells [i 3], .cells [i 4], .cells [i 5], .cells [l 13 1, .mp 15, .mp 16], .cells [.sv 14 0 1 none 2], .cells [b [97], b [120]], .map false [(b [1, 97, 1, 120], i 0)], .map false [(b [97], .mp
 17)], .map false [(b [120], l 18 1)], .cells [i 0], .cells [.int .i64 ⟨0, [(20, 1)]⟩, i 0, b [102, 48]], .cells [.mp 21], .map true [(.int .i64 ⟨0, [(20, 1)]⟩, .agg [i 2, i 0])], .cells [p 2, p 23, p 30, .sv 37 0 1 none 3, i 1, i
 0, v (.bool false), i 0, i 0, i 0, v (.slice none 0 0), v (.slice none 0 0), i 0, p 38, v (.pointer none)], .cells [p 2, .mp 24, .mp 25, l 29 1, i 1, v (.bool false)], .map false [(b [109, 97, 110, 105, 102, 101, 115, 116], .str
 [.b [1], .a 21, .b [0, 0, 1, 0, 0]]), (b [105, 110, 100, 101, 120], b [1, 7, 123, 97, 61, 34, 120, 34, 125]), (b [102, 48], .str [.b [1, 0], .a 15, .b [1], .a 7, .a 9])], .map false [(b [102, 48], .agg [.str [.b [1, 0], .a 15, .b
 [1], .a 7, .a 9], l 26 1]), (b [105, 110, 100, 101, 120], .agg [b [1, 7, 123, 97, 61, 34, 120, 34, 125], l 27 1]), (b [109, 97, 110, 105, 102, 101, 115, 116], .agg [.str [.b [1], .a 21, .b [0, 0, 1, 0, 0]], l 28 1])], .cells [i
 2], .cells [i 3], .cells [i 4], .cells [i 5], .cells [l 31 1, .mp 33, .mp 34], .cells [.sv 32 0 1 none 2], .cells [b [97], b [120]], .map false [(b [1, 97, 1, 120], i 0)], .map false [(b [97], .mp 35)], .map false [(b [120], l 36
 1)], .cells [i 0], .cells [.int .i64 ⟨0, [(20, 1)]⟩, i 0, b [102, 48]], .cells [.mp 39], .map true []])]⟩
theorem fc15_ok : runF fc15 = true := by kernel_rfl
end Go.SX
