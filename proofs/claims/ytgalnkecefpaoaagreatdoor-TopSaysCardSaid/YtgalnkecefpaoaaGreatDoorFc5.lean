/- Part of a proof. -/
import Derived.Test.YtgalnkecefpaoaaGreatDoorP5
set_option linter.unusedVariables false
set_option maxRecDepth 100000
namespace Go.SX
open Go Go.GV
def fc20 : Lfact := ⟨[p 1, b [114, 101, 116, 97, 105, 110, 32, 51, 48, 48]], stL [d, .cells [p 2, p 4, e], .cells (i 512 :: e :: b [1, 25, 5] :: .str [.b [1, 0], .a 15, .b [1], .a 7, .a 9] :: b [1, 7, 123, 97, 61, 34, 120, 34,
 125] :: .str [.b [1], .a 21, .b [0, 0, 1, 0, 0]] :: .str [.b [3, 2, 102, 48], .a 16, .b [2, 5, 105, 110, 100, 101, 120, 9, 3, 8, 109, 97, 110, 105, 102, 101, 115, 116, 7, 4]] :: rp 506 (e) (.mp 3 :: v (.bool false) :: i 0 :: .int
 .u64 (kk 0) :: i 7 :: [])), .map true [], .cells [p 2, p 5, p 12, .sv 19 0 1 none 3, i 1, i 0, v (.bool false), i 0, i 0, i 0, v (.slice none 0 0), v (.slice none 0 0), i 0, p 20, v (.pointer none)], .cells [p 2, .mp 6, .mp 7, l
 11 1, i 1, v (.bool false)], .map false [(b [109, 97, 110, 105, 102, 101, 115, 116], .str [.b [1], .a 21, .b [0, 0, 1, 0, 0]]), (b [105, 110, 100, 101, 120], b [1, 7, 123, 97, 61, 34, 120, 34, 125]), (b [102, 48], .str [.b [1,
 0], .a 15, .b [1], .a 7, .a 9])], .map false [(b [102, 48], .agg [.str [.b [1, 0], .a 15, .b [1], .a 7, .a 9], l 8 1]), (b [105, 110, 100, 101, 120], .agg [b [1, 7, 123, 97, 61, 34, 120, 34, 125], l 9 1]), (b [109, 97, 110, 105,
 102, 101, 115, 116], .agg [.str [.b [1], .a 21, .b [0, 0, 1, 0, 0]], l 10 1])], .cells [i 2], .cells [i 3], .cells [i 4], .cells [i 5], .cells [l 13 1, .mp 15, .mp 16], .cells [.sv 14 0 1 none 2], .cells [b [97], b [120]], .map
 false [(b [1, 97, 1, 120], i 0)], .map false [(b [97], .mp 17)], .map false [(b [120], l 18 1)], .cells [i 0], .cells [.int .i64 ⟨0, [(20, 1)]⟩, i 0, b [102, 48]], .cells [.mp 21], .map true [(.int .i64 ⟨0, [(20, 1)]⟩, .agg [i 2,
 i 0])]], [(b [111, 107], stL [d, .cells [p 2, p 4, e], .cells (i 512 :: e :: b [1, 25, 5] :: .str [.b [1, 0], .a 15, .b [1], .a 7, .a 9] :: b [1, 7, 123, 97, 61, 34, 120, 34, 125] :: .str [.b [1], .a 21, .b [0, 0, 1, 0, 0]] ::
 .str [.b [3, 2, 102, 48], .a 16, .b [2, 5, 105, 110, 100, 101, 120, 9, 3, 8, 109, 97, 110, 105, 102, 101, 115, 116, 7, 4]] :: rp 506 (e) (.mp 3 :: v (.bool false) :: i 0 :: .int .u64 (kk 0) :: i 7 :: [])), .map true [], .cells [p
 2, p 5, p 12, .sv 19 0 1 none 3, i 1, i 0, v (.bool false), i 0, i 0, i 0, v (.slice none 0 0), v (.slice none 0 0), i 300, p 20, v (.pointer none)], .cells [p 2, .mp 22, .mp 7, l 11 1, i 1, v (.bool false)], .map false [(b [109,
 97, 110, 105, 102, 101, 115, 116], .str [.b [1], .a 21, .b [0, 0, 1, 0, 0]]), (b [105, 110, 100, 101, 120], b [1, 7, 123, 97, 61, 34, 120, 34, 125]), (b [102, 48], .str [.b [1, 0], .a 15, .b [1], .a 7, .a 9])], .map false [(b
 [102, 48], .agg [.str [.b [1, 0], .a 15, .b [1], .a 7, .a 9], l 8 1]), (b [105, 110, 100, 101, 120], .agg [b [1, 7, 123, 97, 61, 34, 120, 34, 125], l 9 1]), (b [109, 97, 110, 105, 102, 101, 115, 116], .agg [.str [.b [1], .a 21,
 .b [0, 0, 1, 0, 0]], l 10 1])], .cells [i 2], .cells [i 3], .cells [i 4], .cells [i 5], .cells [l 13 1, .mp 15, .mp 16], .cells [.sv 14 0 1 none 2], .cells [b [97], b [120]], .map false [(b [1, 97, 1, 120], i 0)], .map false [(b
 [97], .mp 17)], .map false [(b [120], l 18 1)], .cells [i 0], .cells [.int .i64 ⟨0, [(20, 1)]⟩, i 0, b [102, 48]], .cells [.mp 21], .map true [(.int .i64 ⟨0, [(20, 1)]⟩, .agg [i 2, i 0])], .map false [(b [109, 97, 110, 105, 102,
 101, 115, 116], .str [.b [1], .a 21, .b [0, 0, 1, 0, 0]]), (b [105, 110, 100, 101, 120], b [1, 7, 123, 97, 61, 34, 120, 34, 125]), (b [102, 48], .str [.b [1, 0], .a 15, .b [1], .a 7, .a 9]), (b [119, 97, 108], b [3, 3, 172, 2,
 237, 157])]])]⟩
theorem fc20_ok : runF fc20 = true := by kernel_rfl
def fc21 : Lfact := ⟨[p 1, b [113, 117, 101, 114, 121, 32, 91, 93, 32, 48, 32, 49, 48, 48, 48]], stL [d, .cells [p 2, p 4, e], .cells (i 512 :: e :: b [1, 25, 5] :: .str [.b [1, 0], .a 15, .b [1], .a 7, .a 9] :: b [1, 7, 123, 97,
 61, 34, 120, 34, 125] :: .str [.b [1], .a 21, .b [0, 0, 1, 0, 0]] :: .str [.b [3, 2, 102, 48], .a 16, .b [2, 5, 105, 110, 100, 101, 120, 9, 3, 8, 109, 97, 110, 105, 102, 101, 115, 116, 7, 4]] :: rp 506 (e) (.mp 3 :: v (.bool
 false) :: i 0 :: .int .u64 (kk 0) :: i 7 :: [])), .map true [], .cells [p 2, p 5, p 12, .sv 19 0 1 none 3, i 1, i 0, v (.bool false), i 0, i 0, i 0, v (.slice none 0 0), v (.slice none 0 0), i 300, p 20, v (.pointer none)],
 .cells [p 2, .mp 6, .mp 7, l 11 1, i 1, v (.bool false)], .map false [(b [109, 97, 110, 105, 102, 101, 115, 116], .str [.b [1], .a 21, .b [0, 0, 1, 0, 0]]), (b [105, 110, 100, 101, 120], b [1, 7, 123, 97, 61, 34, 120, 34, 125]),
 (b [102, 48], .str [.b [1, 0], .a 15, .b [1], .a 7, .a 9]), (b [119, 97, 108], b [3, 3, 172, 2, 237, 157])], .map false [(b [102, 48], .agg [.str [.b [1, 0], .a 15, .b [1], .a 7, .a 9], l 8 1]), (b [105, 110, 100, 101, 120], .agg
 [b [1, 7, 123, 97, 61, 34, 120, 34, 125], l 9 1]), (b [109, 97, 110, 105, 102, 101, 115, 116], .agg [.str [.b [1], .a 21, .b [0, 0, 1, 0, 0]], l 10 1])], .cells [i 2], .cells [i 3], .cells [i 4], .cells [i 5], .cells [l 13 1, .mp
 15, .mp 16], .cells [.sv 14 0 1 none 2], .cells [b [97], b [120]], .map false [(b [1, 97, 1, 120], i 0)], .map false [(b [97], .mp 17)], .map false [(b [120], l 18 1)], .cells [i 0], .cells [.int .i64 ⟨0, [(20, 1)]⟩, i 0, b [102,
 48]], .cells [.mp 21], .map true [(.int .i64 ⟨0, [(20, 1)]⟩, .agg [i 2, i 0])]], [(b [110, 111, 110, 101], stL [d, .cells [p 2, p 4, e], .cells (i 512 :: e :: b [1, 25, 5] :: .str [.b [1, 0], .a 15, .b [1], .a 7, .a 9] :: b [1,
 7, 123, 97, 61, 34, 120, 34, 125] :: .str [.b [1], .a 21, .b [0, 0, 1, 0, 0]] :: .str [.b [3, 2, 102, 48], .a 16, .b [2, 5, 105, 110, 100, 101, 120, 9, 3, 8, 109, 97, 110, 105, 102, 101, 115, 116, 7, 4]] :: rp 506 (e) (.mp 3 :: v
 (.bool false) :: i 0 :: .int .u64 (kk 0) :: i 7 :: [])), .map true [], .cells [p 2, p 5, p 12, .sv 19 0 1 none 3, i 1, i 0, v (.bool false), i 0, i 0, i 0, v (.slice none 0 0), v (.slice none 0 0), i 300, p 20, v (.pointer
 none)], .cells [p 2, .mp 6, .mp 7, l 11 1, i 1, v (.bool false)], .map false [(b [109, 97, 110, 105, 102, 101, 115, 116], .str [.b [1], .a 21, .b [0, 0, 1, 0, 0]]), (b [105, 110, 100, 101, 120], b [1, 7, 123, 97, 61, 34, 120, 34,
 125]), (b [102, 48], .str [.b [1, 0], .a 15, .b [1], .a 7, .a 9]), (b [119, 97, 108], b [3, 3, 172, 2, 237, 157])], .map false [(b [102, 48], .agg [.str [.b [1, 0], .a 15, .b [1], .a 7, .a 9], l 8 1]), (b [105, 110, 100, 101,
 120], .agg [b [1, 7, 123, 97, 61, 34, 120, 34, 125], l 9 1]), (b [109, 97, 110, 105, 102, 101, 115, 116], .agg [.str [.b [1], .a 21, .b [0, 0, 1, 0, 0]], l 10 1])], .cells [i 2], .cells [i 3], .cells [i 4], .cells [i 5], .cells
 [l 13 1, .mp 15, .mp 16], .cells [.sv 14 0 1 none 2], .cells [b [97], b [120]], .map false [(b [1, 97, 1, 120], i 0)], .map false [(b [97], .mp 17)], .map false [(b [120], l 18 1)], .cells [i 0], .cells [.int .i64 ⟨0, [(20, 1)]⟩,
 i 0, b [102, 48]], .cells [.mp 21], .map true [(.int .i64 ⟨0, [(20, 1)]⟩, .agg [i 3, i 0])]])]⟩
theorem fc21_ok : runF fc21 = true := by kernel_rfl
def fc22 : Lfact := ⟨[p 1, b [115, 116, 101, 112]], stL [d, .cells [p 2, p 4, e], .cells (i 512 :: rp 512 (e) (.mp 3 :: v (.bool false) :: i 0 :: .int .u64 (kk 0) :: i 0 :: [])), .map true [], .cells [p 2, p 5, p 8, .sv 15 0 1
 none 3, i 1, i 0, v (.bool false), i 0, i 0, i 0, v (.slice none 0 0), v (.slice none 0 0), i 0, p 16, v (.pointer none)], .cells [p 2, .mp 6, .mp 7, v (.slice none 0 0), i 0, v (.bool false)], .map false [(b [102, 48], .str [.b
 [1, 0], .a 15, .b [1], .a 7, .a 9]), (b [109, 97, 110, 105, 102, 101, 115, 116], .str [.b [1], .a 21, .b [0, 0, 1, 0, 0]]), (b [105, 110, 100, 101, 120], b [1, 7, 123, 97, 61, 34, 120, 34, 125])], .map false [], .cells [l 9 1,
 .mp 11, .mp 12], .cells [.sv 10 0 1 none 2], .cells [b [97], b [120]], .map false [(b [1, 97, 1, 120], i 0)], .map false [(b [97], .mp 13)], .map false [(b [120], l 14 1)], .cells [i 0], .cells [.int .i64 ⟨0, [(20, 1)]⟩, i 0, b
 [102, 48]], .cells [.mp 17], .map true []], [(b [111, 107, 32, 48], stL [d, .cells [p 2, p 4, e], .cells (i 512 :: rp 512 (e) (.mp 3 :: v (.bool false) :: i 0 :: .int .u64 (kk 0) :: i 0 :: [])), .map true [], .cells [p 2, p 5, p
 8, .sv 15 0 1 none 3, i 1, i 0, v (.bool false), i 0, i 0, i 0, v (.slice none 0 0), v (.slice none 0 0), i 0, p 16, v (.pointer none)], .cells [p 2, .mp 6, .mp 7, v (.slice none 0 0), i 0, v (.bool false)], .map false [(b [102,
 48], .str [.b [1, 0], .a 15, .b [1], .a 7, .a 9]), (b [109, 97, 110, 105, 102, 101, 115, 116], .str [.b [1], .a 21, .b [0, 0, 1, 0, 0]]), (b [105, 110, 100, 101, 120], b [1, 7, 123, 97, 61, 34, 120, 34, 125])], .map false [],
 .cells [l 9 1, .mp 11, .mp 12], .cells [.sv 10 0 1 none 2], .cells [b [97], b [120]], .map false [(b [1, 97, 1, 120], i 0)], .map false [(b [97], .mp 13)], .map false [(b [120], l 14 1)], .cells [i 0], .cells [.int .i64 ⟨0, [(20,
 1)]⟩, i 0, b [102, 48]], .cells [.mp 17], .map true []])]⟩
theorem fc22_ok : runF fc22 = true := by kernel_rfl
end Go.SX
