import Derived.Test.YtelkbliggjfdaaaGreatDoorK
set_option linter.unusedVariables false
set_option linter.unusedSimpArgs false

set_option maxRecDepth 100000
set_option linter.unusedVariables false
namespace Go.Proofs.YtelkbliggjfdaaaGreatDoor
open Go Go.V Go.X
noncomputable def m1a : St := ⟨mkT ([]), 3⟩
def m1b_0 : List (Nat × Blk) := [
  lK 5 .i64 [(3, lP 27 0), (2, lP 7 0), (1, lP 6 0), (500, lP 208 0), (501, lP 377 0), (30, lP 559 0), (31, lP 773 0), (32, lP 1014 0), (33, lP 1255 0)] 9,
  lB 6 122 1 [lNP, lNS, lI 0, lNS, lI 0, lI 0, .int .u64 0, .int .u64 0, .int .u64 0, .int .u64 0, .int .u64 0, .int .u64 0, .int .u64 0, .int .u64 0, .int .u64 0, .int .u64 0, .int .u64 0, .int .u64 0, .int .u64 0, .int .u64 0, .int .u64 0, .int .u64 0, .int .u64 0, .int .u64 0, lI 0, lX [], lX []],
  lB 7 122 1 [lNP, lNS, lI 0, lNS, lI 0, lI 0, .int .u64 0, .int .u64 0, .int .u64 0, .int .u64 0, .int .u64 0, .int .u64 0, .int .u64 0, .int .u64 0, .int .u64 0, .int .u64 0, .int .u64 0, .int .u64 0, .int .u64 0, .int .u64 0, .int .u64 0, .int .u64 0, .int .u64 0, .int .u64 0, lI 0, lX [], lX []],
  lK 8 .i64 [(3, .bool true), (2, .bool true), (1, .bool true), (20, .bool true), (21, .bool true), (500, .bool true), (501, .bool true), (30, .bool true), (31, .bool true), (32, .bool true), (33, .bool true)] 11,
  lB 20 159 1 [lI 1, lI 1, lI 1099511627776, lI 1048582, lI 1, lI 2, lNS, lS 1482 0 7 18446744073709551623],
  lK 21 .i64 [(1, lP 20 0), (2, lP 41 0), (3, lP 53 0), (500, lP 357 0), (501, lP 531 0), (30, lP 757 0), (31, lP 998 0), (32, lP 1239 0), (33, lP 1480 0)] 9,
  lB 22 162 1 [lM 21, lI 1],
  lK 23 .i64 [] 0,
  lK 24 .i64 [] 0,
  lB 25 166 1 [lI 0, lM 23, lM 24],
  lB 27 122 1 [lNP, lNS, lI 4, lNS, lI 0, lI 0, .int .u64 0, .int .u64 0, .int .u64 0, .int .u64 0, .int .u64 0, .int .u64 0, .int .u64 0, .int .u64 0, .int .u64 0, .int .u64 0, .int .u64 0, .int .u64 0, .int .u64 0, .int .u64 0, .int .u64 0, .int .u64 0, .int .u64 0, .int .u64 0, lI 0, lX [], lX []],
  lB 28 126 1 [lP 22 0, lP 25 0, lM 5, lM 8, lI 0],
  lB 41 159 1 [lI 2, lI 6, lI 1, lI 0, lI 1, lI 2, lNS, lNS],
  lB 53 159 1 [lI 3, lI 4, lI 1, lI 0, lI 1, lI 2, lS 187 0 2 18446744073709551618, lNS],
  lC 187 true (some 108) true false 2 [lI 20, lI 0, lI 21, lI 0],
  lB 191 54 1 [lP 28 0, lI 500],
  lB 208 122 1 [lNP, lNS, lI 0, lNS, lI 0, lI 0, .int .u64 0, .int .u64 0, .int .u64 0, .int .u64 0, .int .u64 0, .int .u64 0, .int .u64 0, .int .u64 0, .int .u64 0, .int .u64 0, .int .u64 0, .int .u64 0, .int .u64 0, .int .u64 0, .int .u64 0, .int .u64 0, .int .u64 0, .int .u64 0, lI 0, lX [], lX []],
  lB 357 159 1 [lI 500, lI 1, lI 1048576, lI 4096, lI 1, lI 2, lNS, lS 533 0 1 18446744073709551617],
  lB 375 247 1 [lI 0, lNS, lNS],
  lB 377 122 1 [lP 375 0, lNS, lI 0, lNS, lI 0, lI 0, .int .u64 0, .int .u64 0, .int .u64 0, .int .u64 0, .int .u64 0, .int .u64 0, .int .u64 0, .int .u64 0, .int .u64 0, .int .u64 0, .int .u64 0, .int .u64 0, .int .u64 0, .int .u64 0, .int .u64 0, .int .u64 0, .int .u64 0, .int .u64 0, lI 0, lX [], lX []],
  lB 531 159 1 [lI 501, lI 2, lI 4096, lI 0, lI 1, lI 2, lNS, lNS],
  lC 533 true (some 3) true false 1 [lI 501],
  lB 559 122 1 [lNP, lNS, lI 3, lNS, lI 0, lI 0, .int .u64 0, .int .u64 0, .int .u64 0, .int .u64 0, .int .u64 0, .int .u64 0, .int .u64 0, .int .u64 0, .int .u64 0, .int .u64 0, .int .u64 0, .int .u64 0, .int .u64 0, .int .u64 0, .int .u64 0, .int .u64 0, .int .u64 0, .int .u64 0, lI 0, lX [], lX []],
  lB 757 159 1 [lI 30, lI 4, lI 1, lI 0, lI 1, lI 2, lNS, lNS],
  lB 773 122 1 [lNP, lNS, lI 4, lNS, lI 0, lI 0, .int .u64 0, .int .u64 0, .int .u64 0, .int .u64 0, .int .u64 0, .int .u64 0, .int .u64 0, .int .u64 0, .int .u64 0, .int .u64 0, .int .u64 0, .int .u64 0, .int .u64 0, .int .u64 0, .int .u64 0, .int .u64 0, .int .u64 0, .int .u64 0, lI 0, lX [], lX []],
  lC 997 true (some 108) true false 2 [lI 20, lI 0],
  lB 998 159 1 [lI 31, lI 4, lI 1, lI 0, lI 1, lI 2, lS 997 0 1 18446744073709551617, lNS],
  lB 1014 122 1 [lNP, lNS, lI 4, lNS, lI 0, lI 0, .int .u64 0, .int .u64 0, .int .u64 0, .int .u64 0, .int .u64 0, .int .u64 0, .int .u64 0, .int .u64 0, .int .u64 0, .int .u64 0, .int .u64 0, .int .u64 0, .int .u64 0, .int .u64 0, .int .u64 0, .int .u64 0, .int .u64 0, .int .u64 0, lI 0, lX [], lX []],
  lC 1238 true (some 108) true false 2 [lI 20, lI 4],
  lB 1239 159 1 [lI 32, lI 4, lI 1, lI 0, lI 1, lI 2, lS 1238 0 1 18446744073709551617, lNS],
  lB 1255 122 1 [lNP, lNS, lI 4, lNS, lI 0, lI 0, .int .u64 0, .int .u64 0, .int .u64 0, .int .u64 0, .int .u64 0, .int .u64 0, .int .u64 0, .int .u64 0, .int .u64 0, .int .u64 0, .int .u64 0, .int .u64 0, .int .u64 0, .int .u64 0, .int .u64 0, .int .u64 0, .int .u64 0, .int .u64 0, lI 0, lX [], lX []],
  lC 1479 true (some 108) true false 2 [lI 21, lI 0],
  lB 1480 159 1 [lI 33, lI 4, lI 1, lI 0, lI 1, lI 2, lS 1479 0 1 18446744073709551617, lNS],
  lC 1482 true (some 3) true false 1 [lI 2, lI 3, lI 500, lI 30, lI 31, lI 32, lI 33]]
noncomputable def m1b : St := ⟨mkT (m1b_0), 1483⟩
noncomputable def m1 : Mem := ⟨9, [], m1a, lT [lP 28 0, lP 191 0], m1b⟩
theorem m1_ok : MemOK Tryz.prog 3 m1 := mem_ok (F0_ok) (by kernel_rfl)
end Go.Proofs.YtelkbliggjfdaaaGreatDoor
