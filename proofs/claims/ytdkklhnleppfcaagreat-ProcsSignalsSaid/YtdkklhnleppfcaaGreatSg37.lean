import Derived.Test.YtdkklhnleppfcaaGreatSg28
set_option linter.unusedVariables false
set_option linter.unusedSimpArgs false

set_option maxRecDepth 100000
set_option linter.unusedVariables false
namespace Go.Proofs.YtdkklhnleppfcaaGreat
open Go Go.V Go.X
def lr0a_0 : List (Nat × Blk):=[
  lB 2436 36 1 [lI 30,lI 800],
  lB 2437 36 1 [lI 30,lI 800]]
noncomputable def lr0a : St:=⟨insT lr0a_0 s1b.heap,2438⟩
def lr0b_0 : List (Nat × Blk):=[
  lB 2626 310 1 [lI 1,lI 1,lI 30,lI 701,.bool false,lI 0,lI 2,lI 0,lI 0,lI 0,.bool false,lI 0,lI 3,lI 0,lI 0,lI 0,.bool false,lI 0,lI 4,lI 0,lI 0,lI 0,.bool false,lI 0,lI 5,lI 0,lI 0,lI 0,.bool false,lI 0,lI 6,lI 0,lI 0,lI 0,.bool false,lI 0,lI 7,lI 0,lI 0,lI 0,.bool false,lI 0,lI 8,lI 0,lI 0,lI 0,.bool false,lI 0,lI 9,lI 0,lI 0,lI 0,.bool false,lI 0,lI 10,lI 0,lI 0,lI 0,.bool false,lI 0,lI 11,lI 0,lI 0,lI 0,.bool false,lI 0,lI 12,lI 0,lI 0,lI 0,.bool false,lI 0,lI 13,lI 0,lI 0,lI 0,.bool false,lI 0,lI 14,lI 0,lI 0,lI 0,.bool false,lI 0,lI 15,lI 0,lI 0,lI 0,.bool false,lI 0,lI 16,lI 0,lI 0,lI 0,.bool false,lI 0,lI 17,lI 0,lI 0,lI 0,.bool false,lI 0,lI 18,lI 0,lI 0,lI 0,.bool false,lI 0,lI 19,lI 0,lI 0,lI 0,.bool false,lI 0,lI 20,lI 0,lI 0,lI 0,.bool false,lI 0,lI 21,lI 0,lI 0,lI 0,.bool false,lI 0,lI 22,lI 0,lI 0,lI 0,.bool false,lI 0,lI 23,lI 0,lI 0,lI 0,.bool false,lI 0,lI 24,lI 0,lI 0,lI 0,.bool false,lI 0,lI 25,lI 0,lI 0,lI 0,.bool false,lI 0,lI 26,lI 0,lI 0,lI 0,.bool false,lI 0,lI 27,lI 0,lI 0,lI 0,.bool false,lI 0,lI 28,lI 0,lI 0,lI 0,.bool false,lI 0,lI 29,lI 0,lI 0,lI 0,.bool false,lI 0,lI 30,lI 0,lI 0,lI 0,.bool false,lI 0,lI 31,lI 0,lI 0,lI 0,.bool false,lI 0,lI 32,lI 0,lI 0,lI 0,.bool false,lI 0]]
noncomputable def lr0b : St:=⟨insT lr0b_0 lr0a.heap,2731⟩
noncomputable def lr0 : Mem:=⟨46,[lP 1754 0,lA [lI 30,lI 800]],lr0a,lT [lP 2626 0,lA [lI 1,lI 1,lI 30,lI 701,.bool false,lI 0],lI 0],lr0b⟩
def lk0a_0 : List (Nat × Blk):=[
  lB 2436 36 1 [lI 30,lI 800],
  lB 2437 36 1 [lI 30,lI 800],
  lB 2731 77 1 [lI 1,lI 1,lI 30,lI 701,.bool false,lI 0],
  lB 2732 178 1 [lP 188 0,lP 25 0,lI 700,lI 701,lI 2,lNS]]
noncomputable def lk0a : St:=⟨insT lk0a_0 s1b.heap,2733⟩
def lk0b_0 : List (Nat × Blk):=[
  lK 2 .i64 [(3,lP 24 0),(2,lP 4 0),(1,lP 3 0),(500,lP 205 0),(501,lP 374 0),(30,lP 556 0),(31,lP 770 0),(32,lP 1011 0),(33,lP 1252 0),(700,lP 1494 0),(701,lP 1633 0),(702,lP 1866 0),(800,lP 2908 0)] 13,
  lK 5 .i64 [(3,.bool true),(2,.bool true),(1,.bool true),(20,.bool true),(21,.bool true),(500,.bool true),(501,.bool true),(30,.bool true),(31,.bool true),(32,.bool true),(33,.bool true),(700,.bool true),(701,.bool true),(702,.bool true),(800,.bool true)] 15,
  lK 18 .i64 [(1,lP 17 0),(2,lP 38 0),(3,lP 50 0),(500,lP 354 0),(501,lP 528 0),(30,lP 754 0),(31,lP 995 0),(32,lP 1236 0),(33,lP 1477 0),(700,lP 1607 0),(701,lP 1751 0),(702,lP 1984 0),(800,lP 3026 0)] 13,
  lB 1607 271 1 [lI 700,lI 1,lI 262144,lI 1536,lI 1,lI 2,lNS,lS 3028 0 3 18446744073709551619],
  (1986,.dead),
  lB 2896 296 1 [lI 128,lS 2906 0 2 18446744073709551618,lS 2907 0 2 18446744073709551618],
  lB 2899 403 1 [.int .u8 0,.int .u8 0,.int .u8 0,.int .u8 0,.int .u8 0,.int .u8 0,.int .u8 0,.int .u8 0,.int .u8 0,.int .u8 0,.int .u8 0,.int .u8 0,.int .u8 0,.int .u8 0,.int .u8 0,.int .u8 0,.int .u8 0,.int .u8 0,.int .u8 0,.int .u8 0,.int .u8 0,.int .u8 0,.int .u8 0,.int .u8 0,.int .u8 0,.int .u8 0,.int .u8 0,.int .u8 0,.int .u8 0,.int .u8 0,.int .u8 0,.int .u8 0,.int .u8 0,.int .u8 0,.int .u8 0,.int .u8 0,.int .u8 0,.int .u8 0,.int .u8 0,.int .u8 0,.int .u8 0,.int .u8 0,.int .u8 0,.int .u8 0,.int .u8 0,.int .u8 0,.int .u8 0,.int .u8 0,.int .u8 0,.int .u8 0,.int .u8 0,.int .u8 0,.int .u8 0,.int .u8 0,.int .u8 0,.int .u8 0,.int .u8 0,.int .u8 0,.int .u8 0,.int .u8 0,.int .u8 0,.int .u8 0,.int .u8 0,.int .u8 0],
  lB 2904 403 1 [.int .u8 0,.int .u8 0,.int .u8 0,.int .u8 0,.int .u8 0,.int .u8 0,.int .u8 0,.int .u8 0,.int .u8 0,.int .u8 0,.int .u8 0,.int .u8 0,.int .u8 0,.int .u8 0,.int .u8 0,.int .u8 0,.int .u8 0,.int .u8 0,.int .u8 0,.int .u8 0,.int .u8 0,.int .u8 0,.int .u8 0,.int .u8 0,.int .u8 0,.int .u8 0,.int .u8 0,.int .u8 0,.int .u8 0,.int .u8 0,.int .u8 0,.int .u8 0,.int .u8 0,.int .u8 0,.int .u8 0,.int .u8 0,.int .u8 0,.int .u8 0,.int .u8 0,.int .u8 0,.int .u8 0,.int .u8 0,.int .u8 0,.int .u8 0,.int .u8 0,.int .u8 0,.int .u8 0,.int .u8 0,.int .u8 0,.int .u8 0,.int .u8 0,.int .u8 0,.int .u8 0,.int .u8 0,.int .u8 0,.int .u8 0,.int .u8 0,.int .u8 0,.int .u8 0,.int .u8 0,.int .u8 0,.int .u8 0,.int .u8 0,.int .u8 0],
  lC 2906 true (some 293) true false 1 [lP 2899 0,lP 2904 0],
  lC 2907 true (some 4) true false 1 [.bool true,.bool true],
  lB 2908 167 1 [lP 2896 0,lNS,lI 0,lNS,lI 0,lI 0,.int .u64 0,.int .u64 0,.int .u64 0,.int .u64 0,.int .u64 0,.int .u64 0,.int .u64 0,.int .u64 0,.int .u64 0,.int .u64 0,.int .u64 0,.int .u64 0,.int .u64 0,.int .u64 0,.int .u64 0,.int .u64 0,.int .u64 0,.int .u64 0,lI 0,lX [],lX []],
  lB 3026 271 1 [lI 800,lI 2,lI 128,lI 0,lI 1,lI 2,lNS,lNS],
  lC 3028 true (some 3) true false 1 [lI 701,lI 702,lI 800],
  lB 3029 178 1 [lP 188 0,lP 25 0,lI 700,lI 800,lI 2,lNS]]
noncomputable def lk0b : St:=⟨insT lk0b_0 lk0a.heap,3366⟩
noncomputable def lk0 : Mem:=⟨48,[lP 2732 0,lA [lI 30,lI 800]],lk0a,lT [lP 3029 0,lI 0],lk0b⟩
def lf0a_0 : List (Nat × Blk):=[
  lB 2436 36 1 [lI 30,lI 800]]
noncomputable def lf0a : St:=⟨insT lf0a_0 s1b.heap,2437⟩
def lf0b_0 : List (Nat × Blk):=[
  lK 2 .i64 [(3,lP 24 0),(2,lP 4 0),(1,lP 3 0),(500,lP 205 0),(501,lP 374 0),(30,lP 556 0),(31,lP 770 0),(32,lP 1011 0),(33,lP 1252 0),(700,lP 1494 0),(701,lP 1633 0),(702,lP 1866 0),(800,lP 2908 0),(801,lP 3404 0)] 14,
  lK 5 .i64 [(3,.bool true),(2,.bool true),(1,.bool true),(20,.bool true),(21,.bool true),(500,.bool true),(501,.bool true),(30,.bool true),(31,.bool true),(32,.bool true),(33,.bool true),(700,.bool true),(701,.bool true),(702,.bool true),(800,.bool true),(801,.bool true)] 16,
  lK 18 .i64 [(1,lP 17 0),(2,lP 38 0),(3,lP 50 0),(500,lP 354 0),(501,lP 528 0),(30,lP 754 0),(31,lP 995 0),(32,lP 1236 0),(33,lP 1477 0),(700,lP 1607 0),(701,lP 1751 0),(702,lP 1984 0),(800,lP 3026 0),(801,lP 3560 0)] 14,
  lB 1607 271 1 [lI 700,lI 1,lI 262144,lI 1537,lI 1,lI 2,lNS,lS 3562 0 4 18446744073709551620],
  lB 1767 403 1 [.int .u8 30,.int .u8 0,.int .u8 0,.int .u8 0,.int .u8 0,.int .u8 0,.int .u8 0,.int .u8 0,.int .u8 1,.int .u8 0,.int .u8 0,.int .u8 0,.int .u8 0,.int .u8 0,.int .u8 0,.int .u8 0,.int .u8 189,.int .u8 2,.int .u8 0,.int .u8 0,.int .u8 0,.int .u8 0,.int .u8 0,.int .u8 0,.int .u8 0,.int .u8 0,.int .u8 0,.int .u8 0,.int .u8 0,.int .u8 0,.int .u8 0,.int .u8 0,.int .u8 0,.int .u8 0,.int .u8 0,.int .u8 0,.int .u8 0,.int .u8 0,.int .u8 0,.int .u8 0,.int .u8 33,.int .u8 3,.int .u8 0,.int .u8 0,.int .u8 0,.int .u8 0,.int .u8 0,.int .u8 0,.int .u8 1,.int .u8 0,.int .u8 0,.int .u8 0,.int .u8 0,.int .u8 0,.int .u8 0,.int .u8 0,.int .u8 32,.int .u8 3,.int .u8 0,.int .u8 0,.int .u8 0,.int .u8 0,.int .u8 0,.int .u8 0],
  (1986,.dead),
  lB 2896 296 1 [lI 128,lS 2906 0 2 18446744073709551618,lS 2907 0 2 18446744073709551618],
  lB 2899 403 1 [.int .u8 0,.int .u8 0,.int .u8 0,.int .u8 0,.int .u8 0,.int .u8 0,.int .u8 0,.int .u8 0,.int .u8 0,.int .u8 0,.int .u8 0,.int .u8 0,.int .u8 0,.int .u8 0,.int .u8 0,.int .u8 0,.int .u8 0,.int .u8 0,.int .u8 0,.int .u8 0,.int .u8 0,.int .u8 0,.int .u8 0,.int .u8 0,.int .u8 0,.int .u8 0,.int .u8 0,.int .u8 0,.int .u8 0,.int .u8 0,.int .u8 0,.int .u8 0,.int .u8 0,.int .u8 0,.int .u8 0,.int .u8 0,.int .u8 0,.int .u8 0,.int .u8 0,.int .u8 0,.int .u8 0,.int .u8 0,.int .u8 0,.int .u8 0,.int .u8 0,.int .u8 0,.int .u8 0,.int .u8 0,.int .u8 0,.int .u8 0,.int .u8 0,.int .u8 0,.int .u8 0,.int .u8 0,.int .u8 0,.int .u8 0,.int .u8 0,.int .u8 0,.int .u8 0,.int .u8 0,.int .u8 0,.int .u8 0,.int .u8 0,.int .u8 0],
  lB 2904 403 1 [.int .u8 0,.int .u8 0,.int .u8 0,.int .u8 0,.int .u8 0,.int .u8 0,.int .u8 0,.int .u8 0,.int .u8 0,.int .u8 0,.int .u8 0,.int .u8 0,.int .u8 0,.int .u8 0,.int .u8 0,.int .u8 0,.int .u8 0,.int .u8 0,.int .u8 0,.int .u8 0,.int .u8 0,.int .u8 0,.int .u8 0,.int .u8 0,.int .u8 0,.int .u8 0,.int .u8 0,.int .u8 0,.int .u8 0,.int .u8 0,.int .u8 0,.int .u8 0,.int .u8 0,.int .u8 0,.int .u8 0,.int .u8 0,.int .u8 0,.int .u8 0,.int .u8 0,.int .u8 0,.int .u8 0,.int .u8 0,.int .u8 0,.int .u8 0,.int .u8 0,.int .u8 0,.int .u8 0,.int .u8 0,.int .u8 0,.int .u8 0,.int .u8 0,.int .u8 0,.int .u8 0,.int .u8 0,.int .u8 0,.int .u8 0,.int .u8 0,.int .u8 0,.int .u8 0,.int .u8 0,.int .u8 0,.int .u8 0,.int .u8 0,.int .u8 0],
  lC 2906 true (some 293) true false 1 [lP 2899 0,lP 2904 0],
  lC 2907 true (some 4) true false 1 [.bool true,.bool true],
  lB 2908 167 1 [lP 2896 0,lNS,lI 0,lNS,lI 0,lI 0,.int .u64 0,.int .u64 0,.int .u64 0,.int .u64 0,.int .u64 0,.int .u64 0,.int .u64 0,.int .u64 0,.int .u64 0,.int .u64 0,.int .u64 0,.int .u64 0,.int .u64 0,.int .u64 0,.int .u64 0,.int .u64 0,.int .u64 0,.int .u64 0,lI 0,lX [],lX []],
  lB 3026 271 1 [lI 800,lI 2,lI 128,lI 0,lI 1,lI 2,lNS,lNS],
  lB 3404 167 1 [lNP,lNS,lI 3,lNS,lI 0,lI 0,.int .u64 0,.int .u64 0,.int .u64 0,.int .u64 0,.int .u64 0,.int .u64 0,.int .u64 0,.int .u64 0,.int .u64 0,.int .u64 0,.int .u64 0,.int .u64 0,.int .u64 0,.int .u64 0,.int .u64 0,.int .u64 0,.int .u64 0,.int .u64 0,lI 0,lX [],lX []],
  lB 3560 271 1 [lI 801,lI 4,lI 1,lI 0,lI 1,lI 2,lNS,lNS],
  lC 3562 true (some 3) true false 1 [lI 701,lI 702,lI 800,lI 801]]
noncomputable def lf0b : St:=⟨insT lf0b_0 lf0a.heap,3729⟩
noncomputable def lf0 : Mem:=⟨13,[lP 1754 0,lA [lI 30,lI 800]],lf0a,lT [lI 2,lI 0],lf0b⟩
def lr1a_0 : List (Nat × Blk):=[
  lB 3729 36 1 [lI 30,lI 800]]
noncomputable def lr1a : St:=⟨insT lr1a_0 lf0b.heap,3730⟩
def lr1b_0 : List (Nat × Blk):=[
  lB 3918 310 1 [lI 1,lI 1,lI 30,lI 701,.bool false,lI 0,lI 2,lI 1,lI 801,lI 800,.bool false,lI 0,lI 3,lI 0,lI 0,lI 0,.bool false,lI 0,lI 4,lI 0,lI 0,lI 0,.bool false,lI 0,lI 5,lI 0,lI 0,lI 0,.bool false,lI 0,lI 6,lI 0,lI 0,lI 0,.bool false,lI 0,lI 7,lI 0,lI 0,lI 0,.bool false,lI 0,lI 8,lI 0,lI 0,lI 0,.bool false,lI 0,lI 9,lI 0,lI 0,lI 0,.bool false,lI 0,lI 10,lI 0,lI 0,lI 0,.bool false,lI 0,lI 11,lI 0,lI 0,lI 0,.bool false,lI 0,lI 12,lI 0,lI 0,lI 0,.bool false,lI 0,lI 13,lI 0,lI 0,lI 0,.bool false,lI 0,lI 14,lI 0,lI 0,lI 0,.bool false,lI 0,lI 15,lI 0,lI 0,lI 0,.bool false,lI 0,lI 16,lI 0,lI 0,lI 0,.bool false,lI 0,lI 17,lI 0,lI 0,lI 0,.bool false,lI 0,lI 18,lI 0,lI 0,lI 0,.bool false,lI 0,lI 19,lI 0,lI 0,lI 0,.bool false,lI 0,lI 20,lI 0,lI 0,lI 0,.bool false,lI 0,lI 21,lI 0,lI 0,lI 0,.bool false,lI 0,lI 22,lI 0,lI 0,lI 0,.bool false,lI 0,lI 23,lI 0,lI 0,lI 0,.bool false,lI 0,lI 24,lI 0,lI 0,lI 0,.bool false,lI 0,lI 25,lI 0,lI 0,lI 0,.bool false,lI 0,lI 26,lI 0,lI 0,lI 0,.bool false,lI 0,lI 27,lI 0,lI 0,lI 0,.bool false,lI 0,lI 28,lI 0,lI 0,lI 0,.bool false,lI 0,lI 29,lI 0,lI 0,lI 0,.bool false,lI 0,lI 30,lI 0,lI 0,lI 0,.bool false,lI 0,lI 31,lI 0,lI 0,lI 0,.bool false,lI 0,lI 32,lI 0,lI 0,lI 0,.bool false,lI 0]]
noncomputable def lr1b : St:=⟨insT lr1b_0 lr1a.heap,4023⟩
noncomputable def lr1 : Mem:=⟨46,[lP 1754 0,lA [lI 30,lI 800]],lr1a,lT [lP 3918 0,lA [lI 1,lI 1,lI 30,lI 701,.bool false,lI 0],lI 0],lr1b⟩
noncomputable def lw0a : St:=⟨lf0b.heap,3729⟩
noncomputable def lw0b : St:=⟨lw0a.heap,4056⟩
noncomputable def lw0 : Mem:=⟨15,[lP 1754 0,lA [lI 30,lI 800],lI 0],lw0a,lT [lI 0,lI 0,lI 10],lw0b⟩
def lr2a_0 : List (Nat × Blk):=[
  lB 4056 36 1 [lI 801,lI 0]]
noncomputable def lr2a : St:=⟨insT lr2a_0 lw0b.heap,4057⟩
def lr2b_0 : List (Nat × Blk):=[
  lB 4245 310 1 [lI 1,lI 1,lI 30,lI 701,.bool false,lI 0,lI 2,lI 1,lI 801,lI 800,.bool false,lI 0,lI 3,lI 0,lI 0,lI 0,.bool false,lI 0,lI 4,lI 0,lI 0,lI 0,.bool false,lI 0,lI 5,lI 0,lI 0,lI 0,.bool false,lI 0,lI 6,lI 0,lI 0,lI 0,.bool false,lI 0,lI 7,lI 0,lI 0,lI 0,.bool false,lI 0,lI 8,lI 0,lI 0,lI 0,.bool false,lI 0,lI 9,lI 0,lI 0,lI 0,.bool false,lI 0,lI 10,lI 0,lI 0,lI 0,.bool false,lI 0,lI 11,lI 0,lI 0,lI 0,.bool false,lI 0,lI 12,lI 0,lI 0,lI 0,.bool false,lI 0,lI 13,lI 0,lI 0,lI 0,.bool false,lI 0,lI 14,lI 0,lI 0,lI 0,.bool false,lI 0,lI 15,lI 0,lI 0,lI 0,.bool false,lI 0,lI 16,lI 0,lI 0,lI 0,.bool false,lI 0,lI 17,lI 0,lI 0,lI 0,.bool false,lI 0,lI 18,lI 0,lI 0,lI 0,.bool false,lI 0,lI 19,lI 0,lI 0,lI 0,.bool false,lI 0,lI 20,lI 0,lI 0,lI 0,.bool false,lI 0,lI 21,lI 0,lI 0,lI 0,.bool false,lI 0,lI 22,lI 0,lI 0,lI 0,.bool false,lI 0,lI 23,lI 0,lI 0,lI 0,.bool false,lI 0,lI 24,lI 0,lI 0,lI 0,.bool false,lI 0,lI 25,lI 0,lI 0,lI 0,.bool false,lI 0,lI 26,lI 0,lI 0,lI 0,.bool false,lI 0,lI 27,lI 0,lI 0,lI 0,.bool false,lI 0,lI 28,lI 0,lI 0,lI 0,.bool false,lI 0,lI 29,lI 0,lI 0,lI 0,.bool false,lI 0,lI 30,lI 0,lI 0,lI 0,.bool false,lI 0,lI 31,lI 0,lI 0,lI 0,.bool false,lI 0,lI 32,lI 0,lI 0,lI 0,.bool false,lI 0]]
noncomputable def lr2b : St:=⟨insT lr2b_0 lr2a.heap,4350⟩
noncomputable def lr2 : Mem:=⟨46,[lP 1754 0,lA [lI 801,lI 0]],lr2a,lT [lP 4245 0,lA [lI 2,lI 1,lI 801,lI 800,.bool false,lI 0],lI 0],lr2b⟩
def le0a_0 : List (Nat × Blk):=[
  lB 4056 36 1 [lI 801,lI 0],
  lB 4245 310 1 [lI 1,lI 1,lI 30,lI 701,.bool false,lI 0,lI 2,lI 1,lI 801,lI 800,.bool false,lI 0,lI 3,lI 0,lI 0,lI 0,.bool false,lI 0,lI 4,lI 0,lI 0,lI 0,.bool false,lI 0,lI 5,lI 0,lI 0,lI 0,.bool false,lI 0,lI 6,lI 0,lI 0,lI 0,.bool false,lI 0,lI 7,lI 0,lI 0,lI 0,.bool false,lI 0,lI 8,lI 0,lI 0,lI 0,.bool false,lI 0,lI 9,lI 0,lI 0,lI 0,.bool false,lI 0,lI 10,lI 0,lI 0,lI 0,.bool false,lI 0,lI 11,lI 0,lI 0,lI 0,.bool false,lI 0,lI 12,lI 0,lI 0,lI 0,.bool false,lI 0,lI 13,lI 0,lI 0,lI 0,.bool false,lI 0,lI 14,lI 0,lI 0,lI 0,.bool false,lI 0,lI 15,lI 0,lI 0,lI 0,.bool false,lI 0,lI 16,lI 0,lI 0,lI 0,.bool false,lI 0,lI 17,lI 0,lI 0,lI 0,.bool false,lI 0,lI 18,lI 0,lI 0,lI 0,.bool false,lI 0,lI 19,lI 0,lI 0,lI 0,.bool false,lI 0,lI 20,lI 0,lI 0,lI 0,.bool false,lI 0,lI 21,lI 0,lI 0,lI 0,.bool false,lI 0,lI 22,lI 0,lI 0,lI 0,.bool false,lI 0,lI 23,lI 0,lI 0,lI 0,.bool false,lI 0,lI 24,lI 0,lI 0,lI 0,.bool false,lI 0,lI 25,lI 0,lI 0,lI 0,.bool false,lI 0,lI 26,lI 0,lI 0,lI 0,.bool false,lI 0,lI 27,lI 0,lI 0,lI 0,.bool false,lI 0,lI 28,lI 0,lI 0,lI 0,.bool false,lI 0,lI 29,lI 0,lI 0,lI 0,.bool false,lI 0,lI 30,lI 0,lI 0,lI 0,.bool false,lI 0,lI 31,lI 0,lI 0,lI 0,.bool false,lI 0,lI 32,lI 0,lI 0,lI 0,.bool false,lI 0],
  lB 4350 77 1 [lI 2,lI 1,lI 801,lI 800,.bool false,lI 0]]
noncomputable def le0a : St:=⟨insT le0a_0 lw0b.heap,4351⟩
def le0b_0 : List (Nat × Blk):=[
  lK 2 .i64 [(3,lP 24 0),(2,lP 4 0),(1,lP 3 0),(500,lP 205 0),(501,lP 374 0),(30,lP 556 0),(31,lP 770 0),(32,lP 1011 0),(33,lP 1252 0),(700,lP 1494 0),(701,lP 1633 0),(702,lP 1866 0),(801,lP 3404 0)] 14,
  lK 18 .i64 [(1,lP 17 0),(2,lP 38 0),(3,lP 50 0),(500,lP 354 0),(501,lP 528 0),(30,lP 754 0),(31,lP 995 0),(32,lP 1236 0),(33,lP 1477 0),(700,lP 1607 0),(701,lP 1751 0),(702,lP 1984 0),(801,lP 3560 0)] 14,
  lB 1607 271 1 [lI 700,lI 1,lI 262144,lI 1409,lI 1,lI 2,lNS,lS 3562 0 3 18446744073709551620],
  lB 1767 403 1 [.int .u8 30,.int .u8 0,.int .u8 0,.int .u8 0,.int .u8 0,.int .u8 0,.int .u8 0,.int .u8 0,.int .u8 1,.int .u8 0,.int .u8 0,.int .u8 0,.int .u8 0,.int .u8 0,.int .u8 0,.int .u8 0,.int .u8 189,.int .u8 2,.int .u8 0,.int .u8 0,.int .u8 0,.int .u8 0,.int .u8 0,.int .u8 0,.int .u8 0,.int .u8 0,.int .u8 0,.int .u8 0,.int .u8 0,.int .u8 0,.int .u8 0,.int .u8 0,.int .u8 0,.int .u8 0,.int .u8 0,.int .u8 0,.int .u8 0,.int .u8 0,.int .u8 0,.int .u8 0,.int .u8 33,.int .u8 3,.int .u8 0,.int .u8 0,.int .u8 0,.int .u8 0,.int .u8 0,.int .u8 0,.int .u8 1,.int .u8 0,.int .u8 0,.int .u8 0,.int .u8 0,.int .u8 0,.int .u8 0,.int .u8 0,.int .u8 0,.int .u8 0,.int .u8 0,.int .u8 0,.int .u8 0,.int .u8 0,.int .u8 0,.int .u8 0],
  lB 1772 403 1 [.int .u8 1,.int .u8 0,.int .u8 0,.int .u8 0,.int .u8 0,.int .u8 0,.int .u8 0,.int .u8 0,.int .u8 7,.int .u8 0,.int .u8 0,.int .u8 0,.int .u8 0,.int .u8 0,.int .u8 0,.int .u8 0,.int .u8 0,.int .u8 0,.int .u8 0,.int .u8 0,.int .u8 0,.int .u8 0,.int .u8 0,.int .u8 0,.int .u8 0,.int .u8 0,.int .u8 0,.int .u8 0,.int .u8 0,.int .u8 0,.int .u8 0,.int .u8 0,.int .u8 0,.int .u8 0,.int .u8 0,.int .u8 0,.int .u8 0,.int .u8 0,.int .u8 0,.int .u8 0,.int .u8 0,.int .u8 0,.int .u8 0,.int .u8 0,.int .u8 0,.int .u8 0,.int .u8 0,.int .u8 0,.int .u8 0,.int .u8 0,.int .u8 0,.int .u8 0,.int .u8 0,.int .u8 0,.int .u8 0,.int .u8 0,.int .u8 0,.int .u8 0,.int .u8 0,.int .u8 0,.int .u8 0,.int .u8 0,.int .u8 0,.int .u8 0],
  lB 3026 271 1 [lI 800,lI 2,lI 128,lI 0,lI 0,lI 2,lNS,lNS],
  lC 3562 true (some 3) true false 1 [lI 701,lI 702,lI 801,lI 0]]
noncomputable def le0b : St:=⟨insT le0b_0 le0a.heap,4875⟩
noncomputable def le0 : Mem:=⟨54,[lP 1754 0,lA [lI 801,lI 0],lP 4245 0,lA [lI 2,lI 1,lI 801,lI 800,.bool false,lI 0],lI 7],le0a,lT [],le0b⟩
noncomputable def lx0a : St:=⟨lw0b.heap,4056⟩
def lx0b_0 : List (Nat × Blk):=[
  lK 2 .i64 [(3,lP 24 0),(2,lP 4 0),(1,lP 3 0),(500,lP 205 0),(501,lP 374 0),(30,lP 556 0),(31,lP 770 0),(32,lP 1011 0),(33,lP 1252 0),(700,lP 1494 0),(701,lP 1633 0),(702,lP 1866 0),(801,lP 3404 0)] 14,
  lK 18 .i64 [(1,lP 17 0),(2,lP 38 0),(3,lP 50 0),(500,lP 354 0),(501,lP 528 0),(30,lP 754 0),(31,lP 995 0),(32,lP 1236 0),(33,lP 1477 0),(700,lP 1607 0),(701,lP 1751 0),(702,lP 1984 0),(801,lP 3560 0)] 14,
  lB 1607 271 1 [lI 700,lI 1,lI 262144,lI 1409,lI 1,lI 2,lNS,lS 3562 0 3 18446744073709551620],
  lB 1767 403 1 [.int .u8 30,.int .u8 0,.int .u8 0,.int .u8 0,.int .u8 0,.int .u8 0,.int .u8 0,.int .u8 0,.int .u8 1,.int .u8 0,.int .u8 0,.int .u8 0,.int .u8 0,.int .u8 0,.int .u8 0,.int .u8 0,.int .u8 189,.int .u8 2,.int .u8 0,.int .u8 0,.int .u8 0,.int .u8 0,.int .u8 0,.int .u8 0,.int .u8 0,.int .u8 0,.int .u8 0,.int .u8 0,.int .u8 0,.int .u8 0,.int .u8 0,.int .u8 0,.int .u8 0,.int .u8 0,.int .u8 0,.int .u8 0,.int .u8 0,.int .u8 0,.int .u8 0,.int .u8 0,.int .u8 33,.int .u8 3,.int .u8 0,.int .u8 0,.int .u8 0,.int .u8 0,.int .u8 0,.int .u8 0,.int .u8 1,.int .u8 0,.int .u8 0,.int .u8 0,.int .u8 0,.int .u8 0,.int .u8 0,.int .u8 0,.int .u8 0,.int .u8 0,.int .u8 0,.int .u8 0,.int .u8 0,.int .u8 0,.int .u8 0,.int .u8 0],
  lB 1772 403 1 [.int .u8 1,.int .u8 0,.int .u8 0,.int .u8 0,.int .u8 0,.int .u8 0,.int .u8 0,.int .u8 0,.int .u8 7,.int .u8 0,.int .u8 0,.int .u8 0,.int .u8 0,.int .u8 0,.int .u8 0,.int .u8 0,.int .u8 0,.int .u8 0,.int .u8 0,.int .u8 0,.int .u8 0,.int .u8 0,.int .u8 0,.int .u8 0,.int .u8 0,.int .u8 0,.int .u8 0,.int .u8 0,.int .u8 0,.int .u8 0,.int .u8 0,.int .u8 0,.int .u8 0,.int .u8 0,.int .u8 0,.int .u8 0,.int .u8 0,.int .u8 0,.int .u8 0,.int .u8 0,.int .u8 0,.int .u8 0,.int .u8 0,.int .u8 0,.int .u8 0,.int .u8 0,.int .u8 0,.int .u8 0,.int .u8 0,.int .u8 0,.int .u8 0,.int .u8 0,.int .u8 0,.int .u8 0,.int .u8 0,.int .u8 0,.int .u8 0,.int .u8 0,.int .u8 0,.int .u8 0,.int .u8 0,.int .u8 0,.int .u8 0,.int .u8 0],
  lB 3026 271 1 [lI 800,lI 2,lI 128,lI 0,lI 0,lI 2,lNS,lNS],
  lB 3404 167 1 [lNP,lNS,lI 3,lNS,lI 0,lI 0,.int .u64 0,.int .u64 0,.int .u64 0,.int .u64 0,.int .u64 0,.int .u64 0,.int .u64 0,.int .u64 0,.int .u64 0,.int .u64 0,.int .u64 0,.int .u64 0,.int .u64 0,.int .u64 0,.int .u64 0,.int .u64 0,.int .u64 0,.int .u64 0,lI 2,lX [],lX []],
  lC 3562 true (some 3) true false 1 [lI 701,lI 702,lI 801,lI 0]]
noncomputable def lx0b : St:=⟨insT lx0b_0 lx0a.heap,4883⟩
noncomputable def lx0 : Mem:=⟨20,[lP 1754 0,lA [lI 801,lI 0],lI 7],lx0a,lI 0,lx0b⟩
def lr3a_0 : List (Nat × Blk):=[
  lB 4883 36 1 [lI 30,lI 800]]
noncomputable def lr3a : St:=⟨insT lr3a_0 lx0b.heap,4884⟩
def lr3b_0 : List (Nat × Blk):=[
  lB 5072 310 1 [lI 1,lI 1,lI 30,lI 701,.bool false,lI 0,lI 2,lI 1,lI 801,lI 0,.bool true,lI 7,lI 3,lI 0,lI 0,lI 0,.bool false,lI 0,lI 4,lI 0,lI 0,lI 0,.bool false,lI 0,lI 5,lI 0,lI 0,lI 0,.bool false,lI 0,lI 6,lI 0,lI 0,lI 0,.bool false,lI 0,lI 7,lI 0,lI 0,lI 0,.bool false,lI 0,lI 8,lI 0,lI 0,lI 0,.bool false,lI 0,lI 9,lI 0,lI 0,lI 0,.bool false,lI 0,lI 10,lI 0,lI 0,lI 0,.bool false,lI 0,lI 11,lI 0,lI 0,lI 0,.bool false,lI 0,lI 12,lI 0,lI 0,lI 0,.bool false,lI 0,lI 13,lI 0,lI 0,lI 0,.bool false,lI 0,lI 14,lI 0,lI 0,lI 0,.bool false,lI 0,lI 15,lI 0,lI 0,lI 0,.bool false,lI 0,lI 16,lI 0,lI 0,lI 0,.bool false,lI 0,lI 17,lI 0,lI 0,lI 0,.bool false,lI 0,lI 18,lI 0,lI 0,lI 0,.bool false,lI 0,lI 19,lI 0,lI 0,lI 0,.bool false,lI 0,lI 20,lI 0,lI 0,lI 0,.bool false,lI 0,lI 21,lI 0,lI 0,lI 0,.bool false,lI 0,lI 22,lI 0,lI 0,lI 0,.bool false,lI 0,lI 23,lI 0,lI 0,lI 0,.bool false,lI 0,lI 24,lI 0,lI 0,lI 0,.bool false,lI 0,lI 25,lI 0,lI 0,lI 0,.bool false,lI 0,lI 26,lI 0,lI 0,lI 0,.bool false,lI 0,lI 27,lI 0,lI 0,lI 0,.bool false,lI 0,lI 28,lI 0,lI 0,lI 0,.bool false,lI 0,lI 29,lI 0,lI 0,lI 0,.bool false,lI 0,lI 30,lI 0,lI 0,lI 0,.bool false,lI 0,lI 31,lI 0,lI 0,lI 0,.bool false,lI 0,lI 32,lI 0,lI 0,lI 0,.bool false,lI 0]]
noncomputable def lr3b : St:=⟨insT lr3b_0 lr3a.heap,5177⟩
noncomputable def lr3 : Mem:=⟨46,[lP 1754 0,lA [lI 30,lI 800]],lr3a,lT [lP 5072 0,lA [lI 1,lI 1,lI 30,lI 701,.bool false,lI 0],lI 0],lr3b⟩
noncomputable def lw1a : St:=⟨lx0b.heap,4883⟩
def lw1b_0 : List (Nat × Blk):=[
  lK 2 .i64 [(3,lP 24 0),(2,lP 4 0),(1,lP 3 0),(500,lP 205 0),(501,lP 374 0),(30,lP 556 0),(31,lP 770 0),(32,lP 1011 0),(33,lP 1252 0),(700,lP 1494 0),(701,lP 1633 0),(702,lP 1866 0)] 14,
  lK 18 .i64 [(1,lP 17 0),(2,lP 38 0),(3,lP 50 0),(500,lP 354 0),(501,lP 528 0),(30,lP 754 0),(31,lP 995 0),(32,lP 1236 0),(33,lP 1477 0),(700,lP 1607 0),(701,lP 1751 0),(702,lP 1984 0)] 14,
  lB 1607 271 1 [lI 700,lI 1,lI 262144,lI 1408,lI 1,lI 2,lNS,lS 3562 0 2 18446744073709551620],
  lB 1767 403 1 [.int .u8 30,.int .u8 0,.int .u8 0,.int .u8 0,.int .u8 0,.int .u8 0,.int .u8 0,.int .u8 0,.int .u8 1,.int .u8 0,.int .u8 0,.int .u8 0,.int .u8 0,.int .u8 0,.int .u8 0,.int .u8 0,.int .u8 189,.int .u8 2,.int .u8 0,.int .u8 0,.int .u8 0,.int .u8 0,.int .u8 0,.int .u8 0,.int .u8 0,.int .u8 0,.int .u8 0,.int .u8 0,.int .u8 0,.int .u8 0,.int .u8 0,.int .u8 0,.int .u8 0,.int .u8 0,.int .u8 0,.int .u8 0,.int .u8 0,.int .u8 0,.int .u8 0,.int .u8 0,.int .u8 0,.int .u8 0,.int .u8 0,.int .u8 0,.int .u8 0,.int .u8 0,.int .u8 0,.int .u8 0,.int .u8 0,.int .u8 0,.int .u8 0,.int .u8 0,.int .u8 0,.int .u8 0,.int .u8 0,.int .u8 0,.int .u8 0,.int .u8 0,.int .u8 0,.int .u8 0,.int .u8 0,.int .u8 0,.int .u8 0,.int .u8 0],
  lB 1772 403 1 [.int .u8 0,.int .u8 0,.int .u8 0,.int .u8 0,.int .u8 0,.int .u8 0,.int .u8 0,.int .u8 0,.int .u8 0,.int .u8 0,.int .u8 0,.int .u8 0,.int .u8 0,.int .u8 0,.int .u8 0,.int .u8 0,.int .u8 0,.int .u8 0,.int .u8 0,.int .u8 0,.int .u8 0,.int .u8 0,.int .u8 0,.int .u8 0,.int .u8 0,.int .u8 0,.int .u8 0,.int .u8 0,.int .u8 0,.int .u8 0,.int .u8 0,.int .u8 0,.int .u8 0,.int .u8 0,.int .u8 0,.int .u8 0,.int .u8 0,.int .u8 0,.int .u8 0,.int .u8 0,.int .u8 0,.int .u8 0,.int .u8 0,.int .u8 0,.int .u8 0,.int .u8 0,.int .u8 0,.int .u8 0,.int .u8 0,.int .u8 0,.int .u8 0,.int .u8 0,.int .u8 0,.int .u8 0,.int .u8 0,.int .u8 0,.int .u8 0,.int .u8 0,.int .u8 0,.int .u8 0,.int .u8 0,.int .u8 0,.int .u8 0,.int .u8 0],
  lB 3560 271 1 [lI 801,lI 4,lI 1,lI 0,lI 0,lI 2,lNS,lNS],
  lC 3562 true (some 3) true false 1 [lI 701,lI 702,lI 0,lI 0]]
noncomputable def lw1b : St:=⟨insT lw1b_0 lw1a.heap,5434⟩
noncomputable def lw1 : Mem:=⟨15,[lP 1754 0,lA [lI 30,lI 800],lI 0],lw1a,lT [lI 2,lI 7,lI 0],lw1b⟩
def lr4a_0 : List (Nat × Blk):=[
  lB 5434 36 1 [lI 30,lI 800]]
noncomputable def lr4a : St:=⟨insT lr4a_0 lw1b.heap,5435⟩
def lr4b_0 : List (Nat × Blk):=[
  lB 5623 310 1 [lI 1,lI 1,lI 30,lI 701,.bool false,lI 0,lI 2,lI 0,lI 0,lI 0,.bool false,lI 0,lI 3,lI 0,lI 0,lI 0,.bool false,lI 0,lI 4,lI 0,lI 0,lI 0,.bool false,lI 0,lI 5,lI 0,lI 0,lI 0,.bool false,lI 0,lI 6,lI 0,lI 0,lI 0,.bool false,lI 0,lI 7,lI 0,lI 0,lI 0,.bool false,lI 0,lI 8,lI 0,lI 0,lI 0,.bool false,lI 0,lI 9,lI 0,lI 0,lI 0,.bool false,lI 0,lI 10,lI 0,lI 0,lI 0,.bool false,lI 0,lI 11,lI 0,lI 0,lI 0,.bool false,lI 0,lI 12,lI 0,lI 0,lI 0,.bool false,lI 0,lI 13,lI 0,lI 0,lI 0,.bool false,lI 0,lI 14,lI 0,lI 0,lI 0,.bool false,lI 0,lI 15,lI 0,lI 0,lI 0,.bool false,lI 0,lI 16,lI 0,lI 0,lI 0,.bool false,lI 0,lI 17,lI 0,lI 0,lI 0,.bool false,lI 0,lI 18,lI 0,lI 0,lI 0,.bool false,lI 0,lI 19,lI 0,lI 0,lI 0,.bool false,lI 0,lI 20,lI 0,lI 0,lI 0,.bool false,lI 0,lI 21,lI 0,lI 0,lI 0,.bool false,lI 0,lI 22,lI 0,lI 0,lI 0,.bool false,lI 0,lI 23,lI 0,lI 0,lI 0,.bool false,lI 0,lI 24,lI 0,lI 0,lI 0,.bool false,lI 0,lI 25,lI 0,lI 0,lI 0,.bool false,lI 0,lI 26,lI 0,lI 0,lI 0,.bool false,lI 0,lI 27,lI 0,lI 0,lI 0,.bool false,lI 0,lI 28,lI 0,lI 0,lI 0,.bool false,lI 0,lI 29,lI 0,lI 0,lI 0,.bool false,lI 0,lI 30,lI 0,lI 0,lI 0,.bool false,lI 0,lI 31,lI 0,lI 0,lI 0,.bool false,lI 0,lI 32,lI 0,lI 0,lI 0,.bool false,lI 0]]
noncomputable def lr4b : St:=⟨insT lr4b_0 lr4a.heap,5728⟩
noncomputable def lr4 : Mem:=⟨46,[lP 1754 0,lA [lI 30,lI 800]],lr4a,lT [lP 5623 0,lA [lI 1,lI 1,lI 30,lI 701,.bool false,lI 0],lI 0],lr4b⟩
noncomputable def lw2a : St:=⟨lw1b.heap,5434⟩
noncomputable def lw2b : St:=⟨lw2a.heap,5761⟩
noncomputable def lw2 : Mem:=⟨15,[lP 1754 0,lA [lI 30,lI 800],lI 0],lw2a,lT [lI 0,lI 0,lI 30],lw2b⟩
noncomputable def lla : St:=⟨.leaf,0⟩
noncomputable def llb : St:=⟨lla.heap,5761⟩
noncomputable def ll : Mem:=⟨11,[],lla,.bool true,llb⟩
end Go.Proofs.YtdkklhnleppfcaaGreat
