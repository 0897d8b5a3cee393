import Derived.Test.YtdkklhnleppfcaaGreatSg28
set_option linter.unusedVariables false
set_option linter.unusedSimpArgs false

set_option maxRecDepth 100000
set_option linter.unusedVariables false
namespace Go.Proofs.YtdkklhnleppfcaaGreat
open Go Go.V Go.X
def gra_0 : List (Nat × Blk):=[
  lB 2436 36 1 [lI 30,lI 800]]
noncomputable def gra : St:=⟨insT gra_0 s1b.heap,2437⟩
def grb_0 : List (Nat × Blk):=[
  lB 2625 310 1 [lI 1,lI 1,lI 30,lI 701,.bool false,lI 0,lI 2,lI 0,lI 0,lI 0,.bool false,lI 0,lI 3,lI 0,lI 0,lI 0,.bool false,lI 0,lI 4,lI 0,lI 0,lI 0,.bool false,lI 0,lI 5,lI 0,lI 0,lI 0,.bool false,lI 0,lI 6,lI 0,lI 0,lI 0,.bool false,lI 0,lI 7,lI 0,lI 0,lI 0,.bool false,lI 0,lI 8,lI 0,lI 0,lI 0,.bool false,lI 0,lI 9,lI 0,lI 0,lI 0,.bool false,lI 0,lI 10,lI 0,lI 0,lI 0,.bool false,lI 0,lI 11,lI 0,lI 0,lI 0,.bool false,lI 0,lI 12,lI 0,lI 0,lI 0,.bool false,lI 0,lI 13,lI 0,lI 0,lI 0,.bool false,lI 0,lI 14,lI 0,lI 0,lI 0,.bool false,lI 0,lI 15,lI 0,lI 0,lI 0,.bool false,lI 0,lI 16,lI 0,lI 0,lI 0,.bool false,lI 0,lI 17,lI 0,lI 0,lI 0,.bool false,lI 0,lI 18,lI 0,lI 0,lI 0,.bool false,lI 0,lI 19,lI 0,lI 0,lI 0,.bool false,lI 0,lI 20,lI 0,lI 0,lI 0,.bool false,lI 0,lI 21,lI 0,lI 0,lI 0,.bool false,lI 0,lI 22,lI 0,lI 0,lI 0,.bool false,lI 0,lI 23,lI 0,lI 0,lI 0,.bool false,lI 0,lI 24,lI 0,lI 0,lI 0,.bool false,lI 0,lI 25,lI 0,lI 0,lI 0,.bool false,lI 0,lI 26,lI 0,lI 0,lI 0,.bool false,lI 0,lI 27,lI 0,lI 0,lI 0,.bool false,lI 0,lI 28,lI 0,lI 0,lI 0,.bool false,lI 0,lI 29,lI 0,lI 0,lI 0,.bool false,lI 0,lI 30,lI 0,lI 0,lI 0,.bool false,lI 0,lI 31,lI 0,lI 0,lI 0,.bool false,lI 0,lI 32,lI 0,lI 0,lI 0,.bool false,lI 0]]
noncomputable def grb : St:=⟨insT grb_0 gra.heap,2730⟩
noncomputable def gr : Mem:=⟨46,[lP 1754 0,lA [lI 30,lI 800]],gra,lT [lP 2625 0,lA [lI 1,lI 1,lI 30,lI 701,.bool false,lI 0],lI 0],grb⟩
def gka_0 : List (Nat × Blk):=[
  lB 2436 36 1 [lI 30,lI 800],
  lB 2730 77 1 [lI 1,lI 1,lI 30,lI 701,.bool false,lI 0],
  lB 2731 178 1 [lP 188 0,lP 25 0,lI 700,lI 701,lI 2,lNS]]
noncomputable def gka : St:=⟨insT gka_0 s1b.heap,2732⟩
def gkb_0 : List (Nat × Blk):=[
  lK 2 .i64 [(3,lP 24 0),(2,lP 4 0),(1,lP 3 0),(500,lP 205 0),(501,lP 374 0),(30,lP 556 0),(31,lP 770 0),(32,lP 1011 0),(33,lP 1252 0),(700,lP 1494 0),(701,lP 1633 0),(702,lP 1866 0),(800,lP 2907 0)] 13,
  lK 5 .i64 [(3,.bool true),(2,.bool true),(1,.bool true),(20,.bool true),(21,.bool true),(500,.bool true),(501,.bool true),(30,.bool true),(31,.bool true),(32,.bool true),(33,.bool true),(700,.bool true),(701,.bool true),(702,.bool true),(800,.bool true)] 15,
  lK 18 .i64 [(1,lP 17 0),(2,lP 38 0),(3,lP 50 0),(500,lP 354 0),(501,lP 528 0),(30,lP 754 0),(31,lP 995 0),(32,lP 1236 0),(33,lP 1477 0),(700,lP 1607 0),(701,lP 1751 0),(702,lP 1984 0),(800,lP 3025 0)] 13,
  lB 1607 271 1 [lI 700,lI 1,lI 262144,lI 1536,lI 1,lI 2,lNS,lS 3027 0 3 18446744073709551619],
  (1986,.dead),
  lB 2895 296 1 [lI 128,lS 2905 0 2 18446744073709551618,lS 2906 0 2 18446744073709551618],
  lB 2898 403 1 [.int .u8 0,.int .u8 0,.int .u8 0,.int .u8 0,.int .u8 0,.int .u8 0,.int .u8 0,.int .u8 0,.int .u8 0,.int .u8 0,.int .u8 0,.int .u8 0,.int .u8 0,.int .u8 0,.int .u8 0,.int .u8 0,.int .u8 0,.int .u8 0,.int .u8 0,.int .u8 0,.int .u8 0,.int .u8 0,.int .u8 0,.int .u8 0,.int .u8 0,.int .u8 0,.int .u8 0,.int .u8 0,.int .u8 0,.int .u8 0,.int .u8 0,.int .u8 0,.int .u8 0,.int .u8 0,.int .u8 0,.int .u8 0,.int .u8 0,.int .u8 0,.int .u8 0,.int .u8 0,.int .u8 0,.int .u8 0,.int .u8 0,.int .u8 0,.int .u8 0,.int .u8 0,.int .u8 0,.int .u8 0,.int .u8 0,.int .u8 0,.int .u8 0,.int .u8 0,.int .u8 0,.int .u8 0,.int .u8 0,.int .u8 0,.int .u8 0,.int .u8 0,.int .u8 0,.int .u8 0,.int .u8 0,.int .u8 0,.int .u8 0,.int .u8 0],
  lB 2903 403 1 [.int .u8 0,.int .u8 0,.int .u8 0,.int .u8 0,.int .u8 0,.int .u8 0,.int .u8 0,.int .u8 0,.int .u8 0,.int .u8 0,.int .u8 0,.int .u8 0,.int .u8 0,.int .u8 0,.int .u8 0,.int .u8 0,.int .u8 0,.int .u8 0,.int .u8 0,.int .u8 0,.int .u8 0,.int .u8 0,.int .u8 0,.int .u8 0,.int .u8 0,.int .u8 0,.int .u8 0,.int .u8 0,.int .u8 0,.int .u8 0,.int .u8 0,.int .u8 0,.int .u8 0,.int .u8 0,.int .u8 0,.int .u8 0,.int .u8 0,.int .u8 0,.int .u8 0,.int .u8 0,.int .u8 0,.int .u8 0,.int .u8 0,.int .u8 0,.int .u8 0,.int .u8 0,.int .u8 0,.int .u8 0,.int .u8 0,.int .u8 0,.int .u8 0,.int .u8 0,.int .u8 0,.int .u8 0,.int .u8 0,.int .u8 0,.int .u8 0,.int .u8 0,.int .u8 0,.int .u8 0,.int .u8 0,.int .u8 0,.int .u8 0,.int .u8 0],
  lC 2905 true (some 293) true false 1 [lP 2898 0,lP 2903 0],
  lC 2906 true (some 4) true false 1 [.bool true,.bool true],
  lB 2907 167 1 [lP 2895 0,lNS,lI 0,lNS,lI 0,lI 0,.int .u64 0,.int .u64 0,.int .u64 0,.int .u64 0,.int .u64 0,.int .u64 0,.int .u64 0,.int .u64 0,.int .u64 0,.int .u64 0,.int .u64 0,.int .u64 0,.int .u64 0,.int .u64 0,.int .u64 0,.int .u64 0,.int .u64 0,.int .u64 0,lI 0,lX [],lX []],
  lB 3025 271 1 [lI 800,lI 2,lI 128,lI 0,lI 1,lI 2,lNS,lNS],
  lC 3027 true (some 3) true false 1 [lI 701,lI 702,lI 800],
  lB 3028 178 1 [lP 188 0,lP 25 0,lI 700,lI 800,lI 2,lNS]]
noncomputable def gkb : St:=⟨insT gkb_0 gka.heap,3365⟩
noncomputable def gk : Mem:=⟨48,[lP 2731 0,lA [lI 30,lI 800]],gka,lT [lP 3028 0,lI 0],gkb⟩
noncomputable def gfa : St:=⟨s1b.heap,2436⟩
def gfb_0 : List (Nat × Blk):=[
  lK 2 .i64 [(3,lP 24 0),(2,lP 4 0),(1,lP 3 0),(500,lP 205 0),(501,lP 374 0),(30,lP 556 0),(31,lP 770 0),(32,lP 1011 0),(33,lP 1252 0),(700,lP 1494 0),(701,lP 1633 0),(702,lP 1866 0),(800,lP 2907 0),(801,lP 3403 0)] 14,
  lK 5 .i64 [(3,.bool true),(2,.bool true),(1,.bool true),(20,.bool true),(21,.bool true),(500,.bool true),(501,.bool true),(30,.bool true),(31,.bool true),(32,.bool true),(33,.bool true),(700,.bool true),(701,.bool true),(702,.bool true),(800,.bool true),(801,.bool true)] 16,
  lK 18 .i64 [(1,lP 17 0),(2,lP 38 0),(3,lP 50 0),(500,lP 354 0),(501,lP 528 0),(30,lP 754 0),(31,lP 995 0),(32,lP 1236 0),(33,lP 1477 0),(700,lP 1607 0),(701,lP 1751 0),(702,lP 1984 0),(800,lP 3025 0),(801,lP 3559 0)] 14,
  lB 1607 271 1 [lI 700,lI 1,lI 262144,lI 1537,lI 1,lI 2,lNS,lS 3561 0 4 18446744073709551620],
  lB 1767 403 1 [.int .u8 30,.int .u8 0,.int .u8 0,.int .u8 0,.int .u8 0,.int .u8 0,.int .u8 0,.int .u8 0,.int .u8 1,.int .u8 0,.int .u8 0,.int .u8 0,.int .u8 0,.int .u8 0,.int .u8 0,.int .u8 0,.int .u8 189,.int .u8 2,.int .u8 0,.int .u8 0,.int .u8 0,.int .u8 0,.int .u8 0,.int .u8 0,.int .u8 0,.int .u8 0,.int .u8 0,.int .u8 0,.int .u8 0,.int .u8 0,.int .u8 0,.int .u8 0,.int .u8 0,.int .u8 0,.int .u8 0,.int .u8 0,.int .u8 0,.int .u8 0,.int .u8 0,.int .u8 0,.int .u8 33,.int .u8 3,.int .u8 0,.int .u8 0,.int .u8 0,.int .u8 0,.int .u8 0,.int .u8 0,.int .u8 1,.int .u8 0,.int .u8 0,.int .u8 0,.int .u8 0,.int .u8 0,.int .u8 0,.int .u8 0,.int .u8 32,.int .u8 3,.int .u8 0,.int .u8 0,.int .u8 0,.int .u8 0,.int .u8 0,.int .u8 0],
  (1986,.dead),
  lB 2895 296 1 [lI 128,lS 2905 0 2 18446744073709551618,lS 2906 0 2 18446744073709551618],
  lB 2898 403 1 [.int .u8 0,.int .u8 0,.int .u8 0,.int .u8 0,.int .u8 0,.int .u8 0,.int .u8 0,.int .u8 0,.int .u8 0,.int .u8 0,.int .u8 0,.int .u8 0,.int .u8 0,.int .u8 0,.int .u8 0,.int .u8 0,.int .u8 0,.int .u8 0,.int .u8 0,.int .u8 0,.int .u8 0,.int .u8 0,.int .u8 0,.int .u8 0,.int .u8 0,.int .u8 0,.int .u8 0,.int .u8 0,.int .u8 0,.int .u8 0,.int .u8 0,.int .u8 0,.int .u8 0,.int .u8 0,.int .u8 0,.int .u8 0,.int .u8 0,.int .u8 0,.int .u8 0,.int .u8 0,.int .u8 0,.int .u8 0,.int .u8 0,.int .u8 0,.int .u8 0,.int .u8 0,.int .u8 0,.int .u8 0,.int .u8 0,.int .u8 0,.int .u8 0,.int .u8 0,.int .u8 0,.int .u8 0,.int .u8 0,.int .u8 0,.int .u8 0,.int .u8 0,.int .u8 0,.int .u8 0,.int .u8 0,.int .u8 0,.int .u8 0,.int .u8 0],
  lB 2903 403 1 [.int .u8 0,.int .u8 0,.int .u8 0,.int .u8 0,.int .u8 0,.int .u8 0,.int .u8 0,.int .u8 0,.int .u8 0,.int .u8 0,.int .u8 0,.int .u8 0,.int .u8 0,.int .u8 0,.int .u8 0,.int .u8 0,.int .u8 0,.int .u8 0,.int .u8 0,.int .u8 0,.int .u8 0,.int .u8 0,.int .u8 0,.int .u8 0,.int .u8 0,.int .u8 0,.int .u8 0,.int .u8 0,.int .u8 0,.int .u8 0,.int .u8 0,.int .u8 0,.int .u8 0,.int .u8 0,.int .u8 0,.int .u8 0,.int .u8 0,.int .u8 0,.int .u8 0,.int .u8 0,.int .u8 0,.int .u8 0,.int .u8 0,.int .u8 0,.int .u8 0,.int .u8 0,.int .u8 0,.int .u8 0,.int .u8 0,.int .u8 0,.int .u8 0,.int .u8 0,.int .u8 0,.int .u8 0,.int .u8 0,.int .u8 0,.int .u8 0,.int .u8 0,.int .u8 0,.int .u8 0,.int .u8 0,.int .u8 0,.int .u8 0,.int .u8 0],
  lC 2905 true (some 293) true false 1 [lP 2898 0,lP 2903 0],
  lC 2906 true (some 4) true false 1 [.bool true,.bool true],
  lB 2907 167 1 [lP 2895 0,lNS,lI 0,lNS,lI 0,lI 0,.int .u64 0,.int .u64 0,.int .u64 0,.int .u64 0,.int .u64 0,.int .u64 0,.int .u64 0,.int .u64 0,.int .u64 0,.int .u64 0,.int .u64 0,.int .u64 0,.int .u64 0,.int .u64 0,.int .u64 0,.int .u64 0,.int .u64 0,.int .u64 0,lI 0,lX [],lX []],
  lB 3025 271 1 [lI 800,lI 2,lI 128,lI 0,lI 1,lI 2,lNS,lNS],
  lB 3403 167 1 [lNP,lNS,lI 3,lNS,lI 0,lI 0,.int .u64 0,.int .u64 0,.int .u64 0,.int .u64 0,.int .u64 0,.int .u64 0,.int .u64 0,.int .u64 0,.int .u64 0,.int .u64 0,.int .u64 0,.int .u64 0,.int .u64 0,.int .u64 0,.int .u64 0,.int .u64 0,.int .u64 0,.int .u64 0,lI 0,lX [],lX []],
  lB 3559 271 1 [lI 801,lI 4,lI 1,lI 0,lI 1,lI 2,lNS,lNS],
  lC 3561 true (some 3) true false 1 [lI 701,lI 702,lI 800,lI 801]]
noncomputable def gfb : St:=⟨insT gfb_0 gfa.heap,3728⟩
noncomputable def gf : Mem:=⟨13,[lP 1754 0,lA [lI 30,lI 800]],gfa,lT [lI 2,lI 0],gfb⟩
end Go.Proofs.YtdkklhnleppfcaaGreat
