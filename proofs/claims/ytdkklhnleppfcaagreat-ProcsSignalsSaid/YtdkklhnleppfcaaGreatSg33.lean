/-
  The executor's memory gfb, opened into what the kernel is (printed by tool/openk.py). Own work.
-/
import Derived.Test.YtdkklhnleppfcaaGreatSg27
import Derived.Test.YtdkklhnleppfcaaGreatSg32
set_option linter.unusedVariables false
set_option linter.unusedSimpArgs false

set_option linter.unusedVariables false
set_option linter.unusedSimpArgs false
set_option maxRecDepth 100000
namespace Go.Proofs.YtdkklhnleppfcaaGreat
open Go Go.V Go.X Go.RowKit

def gf_rs : List Rec := ⟨30, 1, 701, false, 0⟩ :: ⟨801, 1, 800, false, 0⟩ :: List.replicate 30 Rec.none

def gf_o700 : ObP := ⟨1, 262144, 1537, 1, [701, 702, 800, 801]⟩
def gf_o701 : ObP := ⟨2, 128, 0, 1, []⟩
def gf_o702 : ObP := ⟨2, 1280, 0, 1, []⟩
def gf_o800 : ObP := ⟨2, 128, 0, 1, []⟩
def gf_o30 : ObP := ⟨4, 1, 0, 1, []⟩
def gf_o801 : ObP := ⟨4, 1, 0, 1, []⟩
def gf_h700 : ThP := ⟨none, 0, (0, 0), 0, 0, 0, 0⟩
def gf_b701 : List UInt8 := (List.replicate 128 0)
def gf_h701 : ThP := ⟨some gf_b701, 0, (0, 0), 0, 0, 0, 0⟩
def gf_b702 : List UInt8 := (tabTxt gf_rs)
def gf_h702 : ThP := ⟨some gf_b702, 0, (0, 0), 0, 0, 0, 0⟩
def gf_b800 : List UInt8 := (List.replicate 128 0)
def gf_h800 : ThP := ⟨some gf_b800, 0, (0, 0), 0, 0, 0, 0⟩
def gf_h30 : ThP := ⟨none, 3, (0, 0), 0, 0, 0, 0⟩
def gf_h801 : ThP := ⟨none, 3, (0, 0), 0, 0, 0, 0⟩

def gf_TG (ad ex : Nat → Nat) : Int → ObG := fun n => if n = 700 then ⟨ad 1607, (.slice (some ⟨ad 3561, 0, none⟩) 4 (4 + ex 3561)), some (ad 3561)⟩ else if n = 701 then ⟨ad 1751, nilS, none⟩ else if n = 702 then ⟨ad 1984, nilS, none⟩ else if n = 800 then ⟨ad 3025, nilS, none⟩ else if n = 30 then ⟨ad 754, nilS, none⟩ else if n = 801 then ⟨ad 3559, nilS, none⟩ else ⟨0, nilS, none⟩

def gf_HG (ad : Nat → Nat) : Int → ThG := fun n => if n = 700 then ⟨ad 1494, default⟩ else if n = 701 then ⟨ad 1633, ⟨ad 1621, [1624, 1629].map ad, ([1624, 1629].map ad).map fun _ => true, some (ad 1631), some (ad 1632)⟩⟩ else if n = 702 then ⟨ad 1866, ⟨ad 1764, [1767, 1772, 1777, 1782, 1787, 1792, 1797, 1802, 1807, 1812, 1817, 1822, 1827, 1832, 1837, 1842, 1847, 1852, 1857, 1862].map ad, ([1767, 1772, 1777, 1782, 1787, 1792, 1797, 1802, 1807, 1812, 1817, 1822, 1827, 1832, 1837, 1842, 1847, 1852, 1857, 1862].map ad).map fun _ => true, some (ad 1864), some (ad 1865)⟩⟩ else if n = 800 then ⟨ad 2907, ⟨ad 2895, [2898, 2903].map ad, ([2898, 2903].map ad).map fun _ => true, some (ad 2905), some (ad 2906)⟩⟩ else if n = 30 then ⟨ad 556, default⟩ else if n = 801 then ⟨ad 3403, default⟩ else ⟨0, default⟩

def gf_T : Int → Option ObP := lookF [(700, gf_o700), (701, gf_o701), (702, gf_o702), (800, gf_o800), (30, gf_o30), (801, gf_o801)]

def gf_H : Int → Option ThP := lookF [(700, gf_h700), (701, gf_h701), (702, gf_h702), (800, gf_h800), (30, gf_h30), (801, gf_h801)]

def gf_mb : List (Int × Value) := [(1, lP 17 0), (2, lP 38 0), (3, lP 50 0), (500, lP 354 0), (501, lP 528 0), (30, lP 754 0), (31, lP 995 0), (32, lP 1236 0), (33, lP 1477 0), (700, lP 1607 0), (701, lP 1751 0), (702, lP 1984 0), (800, lP 3025 0), (801, lP 3559 0)]

def gf_hb : List (Int × Value) := [(3, lP 24 0), (2, lP 4 0), (1, lP 3 0), (500, lP 205 0), (501, lP 374 0), (30, lP 556 0), (31, lP 770 0), (32, lP 1011 0), (33, lP 1252 0), (700, lP 1494 0), (701, lP 1633 0), (702, lP 1866 0), (800, lP 2907 0), (801, lP 3403 0)]

def gf_db : List (Int × Value) := [(3, .bool true), (2, .bool true), (1, .bool true), (20, .bool true), (21, .bool true), (500, .bool true), (501, .bool true), (30, .bool true), (31, .bool true), (32, .bool true), (33, .bool true), (700, .bool true), (701, .bool true), (702, .bool true), (800, .bool true), (801, .bool true)]

def gf_D (n : Int) : Bool := (getI n gf_db).isSome

def gf_fx (m : Ren) (n : Int) : Option Value := if n ∈ ([700, 701, 702, 800, 30, 801] : List Int) then none else (getI n gf_mb).map (rv m)

def gf_hx (m : Ren) (n : Int) : Option Value := if n ∈ ([700, 701, 702, 800, 30, 801] : List Int) then none else (getI n gf_hb).map (rv m)

def gf_g (m : Ren) (ad ex : Nat → Nat) : KG := ⟨ad 25, ad 19, ad 18, ad 22, ad 20, ad 21, ad 2, ad 5, gf_TG ad ex, gf_HG ad, gf_fx m, gf_hx m, 1, fun _ => (nilS, none)⟩

def gf_κ : KP := ⟨gf_T, 14, gf_H, gf_D, 0, fun _ => none, fun _ => none, 0⟩

def gf_q (m : Ren) (ad : Nat → Nat) : PG := ⟨ad 1754, ad 1485, rv m (lP 188 0), 700, 702, 701⟩

def gf_ts : List Tell := [
  .blk 25 1 [lP 19 0, lP 22 0, lM 2, lM 5, lI 0] true,
  .blk 19 1 [lM 18, lI 1] true,
  .mp 18 [(1, lP 17 0), (2, lP 38 0), (3, lP 50 0), (500, lP 354 0), (501, lP 528 0), (30, lP 754 0), (31, lP 995 0), (32, lP 1236 0), (33, lP 1477 0), (700, lP 1607 0), (701, lP 1751 0), (702, lP 1984 0), (800, lP 3025 0), (801, lP 3559 0)],
  .blk 1607 1 [lI 700, lI 1, lI 262144, lI 1537, lI 1, lI 2, lNS, lS 3561 0 4 18446744073709551620] true,
  .blk 3561 1 [lI 701, lI 702, lI 800, lI 801] false,
  .blk 1751 1 [lI 701, lI 2, lI 128, lI 0, lI 1, lI 2, lNS, lNS] true,
  .blk 1984 1 [lI 702, lI 2, lI 1280, lI 0, lI 1, lI 2, lNS, lNS] true,
  .blk 3025 1 [lI 800, lI 2, lI 128, lI 0, lI 1, lI 2, lNS, lNS] true,
  .blk 754 1 [lI 30, lI 4, lI 1, lI 0, lI 1, lI 2, lNS, lNS] true,
  .blk 3559 1 [lI 801, lI 4, lI 1, lI 0, lI 1, lI 2, lNS, lNS] true,
  .blk 22 1 [lI 0, lM 20, lM 21] true,
  .mp 20 [],
  .mp 21 [],
  .mp 2 [(3, lP 24 0), (2, lP 4 0), (1, lP 3 0), (500, lP 205 0), (501, lP 374 0), (30, lP 556 0), (31, lP 770 0), (32, lP 1011 0), (33, lP 1252 0), (700, lP 1494 0), (701, lP 1633 0), (702, lP 1866 0), (800, lP 2907 0), (801, lP 3403 0)],
  .blk 1494 1 [lNP, lNS, lI 0, lNS, lI 0, lI 0, .int .u64 0, .int .u64 0, .int .u64 0, .int .u64 0, .int .u64 0, .int .u64 0, .int .u64 0, .int .u64 0, .int .u64 0, .int .u64 0, .int .u64 0, .int .u64 0, .int .u64 0, .int .u64 0, .int .u64 0, .int .u64 0, .int .u64 0, .int .u64 0, lI 0, lX [], lX []] true,
  .blk 1633 1 [lP 1621 0, lNS, lI 0, lNS, lI 0, lI 0, .int .u64 0, .int .u64 0, .int .u64 0, .int .u64 0, .int .u64 0, .int .u64 0, .int .u64 0, .int .u64 0, .int .u64 0, .int .u64 0, .int .u64 0, .int .u64 0, .int .u64 0, .int .u64 0, .int .u64 0, .int .u64 0, .int .u64 0, .int .u64 0, lI 0, lX [], lX []] true,
  .blk 1621 1 [lI 128, lS 1631 0 2 18446744073709551618, lS 1632 0 2 18446744073709551618] true,
  .blk 1631 1 [lP 1624 0, lP 1629 0] false,
  .blk 1632 1 [.bool true, .bool true] false,
  .blk 1624 1 (pgc (cont gf_b701) 0) true,
  .blk 1629 1 (pgc (cont gf_b701) 1) true,
  .blk 1866 1 [lP 1764 0, lNS, lI 0, lNS, lI 0, lI 0, .int .u64 0, .int .u64 0, .int .u64 0, .int .u64 0, .int .u64 0, .int .u64 0, .int .u64 0, .int .u64 0, .int .u64 0, .int .u64 0, .int .u64 0, .int .u64 0, .int .u64 0, .int .u64 0, .int .u64 0, .int .u64 0, .int .u64 0, .int .u64 0, lI 0, lX [], lX []] true,
  .blk 1764 1 [lI 1280, lS 1864 0 20 18446744073709551636, lS 1865 0 20 18446744073709551636] true,
  .blk 1864 1 [lP 1767 0, lP 1772 0, lP 1777 0, lP 1782 0, lP 1787 0, lP 1792 0, lP 1797 0, lP 1802 0, lP 1807 0, lP 1812 0, lP 1817 0, lP 1822 0, lP 1827 0, lP 1832 0, lP 1837 0, lP 1842 0, lP 1847 0, lP 1852 0, lP 1857 0, lP 1862 0] false,
  .blk 1865 1 [.bool true, .bool true, .bool true, .bool true, .bool true, .bool true, .bool true, .bool true, .bool true, .bool true, .bool true, .bool true, .bool true, .bool true, .bool true, .bool true, .bool true, .bool true, .bool true, .bool true] false,
  .blk 1767 1 (pgc (cont gf_b702) 0) true,
  .blk 1772 1 (pgc (cont gf_b702) 1) true,
  .blk 1777 1 (pgc (cont gf_b702) 2) true,
  .blk 1782 1 (pgc (cont gf_b702) 3) true,
  .blk 1787 1 (pgc (cont gf_b702) 4) true,
  .blk 1792 1 (pgc (cont gf_b702) 5) true,
  .blk 1797 1 (pgc (cont gf_b702) 6) true,
  .blk 1802 1 (pgc (cont gf_b702) 7) true,
  .blk 1807 1 (pgc (cont gf_b702) 8) true,
  .blk 1812 1 (pgc (cont gf_b702) 9) true,
  .blk 1817 1 (pgc (cont gf_b702) 10) true,
  .blk 1822 1 (pgc (cont gf_b702) 11) true,
  .blk 1827 1 (pgc (cont gf_b702) 12) true,
  .blk 1832 1 (pgc (cont gf_b702) 13) true,
  .blk 1837 1 (pgc (cont gf_b702) 14) true,
  .blk 1842 1 (pgc (cont gf_b702) 15) true,
  .blk 1847 1 (pgc (cont gf_b702) 16) true,
  .blk 1852 1 (pgc (cont gf_b702) 17) true,
  .blk 1857 1 (pgc (cont gf_b702) 18) true,
  .blk 1862 1 (pgc (cont gf_b702) 19) true,
  .blk 2907 1 [lP 2895 0, lNS, lI 0, lNS, lI 0, lI 0, .int .u64 0, .int .u64 0, .int .u64 0, .int .u64 0, .int .u64 0, .int .u64 0, .int .u64 0, .int .u64 0, .int .u64 0, .int .u64 0, .int .u64 0, .int .u64 0, .int .u64 0, .int .u64 0, .int .u64 0, .int .u64 0, .int .u64 0, .int .u64 0, lI 0, lX [], lX []] true,
  .blk 2895 1 [lI 128, lS 2905 0 2 18446744073709551618, lS 2906 0 2 18446744073709551618] true,
  .blk 2905 1 [lP 2898 0, lP 2903 0] false,
  .blk 2906 1 [.bool true, .bool true] false,
  .blk 2898 1 (pgc (cont gf_b800) 0) true,
  .blk 2903 1 (pgc (cont gf_b800) 1) true,
  .blk 556 1 [lNP, lNS, lI 3, lNS, lI 0, lI 0, .int .u64 0, .int .u64 0, .int .u64 0, .int .u64 0, .int .u64 0, .int .u64 0, .int .u64 0, .int .u64 0, .int .u64 0, .int .u64 0, .int .u64 0, .int .u64 0, .int .u64 0, .int .u64 0, .int .u64 0, .int .u64 0, .int .u64 0, .int .u64 0, lI 0, lX [], lX []] true,
  .blk 3403 1 [lNP, lNS, lI 3, lNS, lI 0, lI 0, .int .u64 0, .int .u64 0, .int .u64 0, .int .u64 0, .int .u64 0, .int .u64 0, .int .u64 0, .int .u64 0, .int .u64 0, .int .u64 0, .int .u64 0, .int .u64 0, .int .u64 0, .int .u64 0, .int .u64 0, .int .u64 0, .int .u64 0, .int .u64 0, lI 0, lX [], lX []] true,
  .mp 5 [(3, .bool true), (2, .bool true), (1, .bool true), (20, .bool true), (21, .bool true), (500, .bool true), (501, .bool true), (30, .bool true), (31, .bool true), (32, .bool true), (33, .bool true), (700, .bool true), (701, .bool true), (702, .bool true), (800, .bool true), (801, .bool true)],
  .blk 1754 1 [lP 25 0, lP 1485 0, lI 702] true,
  .blk 1485 1 [lP 188 0, lP 25 0, lI 700, lI 701, lI 2, lNS] true,
  .blk 2428 1 [lP 25 0, lP 188 0, lP 1754 0] true]

theorem gf_told : gf_ts.all (toldB gfb) = true := by kernel_rfl

theorem gf_names : namesB (gf_ts.map Tell.name) = true := by kernel_rfl

theorem gf_l701 : gf_b701.length = 128 := by kernel_rfl
theorem gf_l702 : gf_b702.length = 1280 := by kernel_rfl
theorem gf_l800 : gf_b800.length = 128 := by kernel_rfl

set_option maxHeartbeats 4000000 in
theorem gf_open {F : Nat → Prop} {w0 w : World} {L : List As} {m : Ren} (h : Lx F w0 w (As.st 0 m gfb :: L)) : ∃ ad ex : Nat → Nat, m 2428 = some ⟨ad 2428, 0, ex 2428⟩ ∧
    Lx F w0 w (procsL (gf_g m ad ex) gf_κ (gf_q m ad) ++ (.blk (ad 2428) [pt (ad 25) 0, rv m (lP 188 0), pt (ad 1754) 0] :: L)) := by
  obtain ⟨ad, ex, rest, hn, hb, h⟩ := Lx.tells gf_ts gf_told gf_names h (i := 0) rfl
  obtain ⟨m25, c25, r25⟩ := hb 25 _ _ _ (List.mem_of_getElem? (l := gf_ts) (i := 0) rfl)
  have r25 : rest 25 = [] := r25 rfl
  obtain ⟨m19, c19, r19⟩ := hb 19 _ _ _ (List.mem_of_getElem? (l := gf_ts) (i := 1) rfl)
  have r19 : rest 19 = [] := r19 rfl
  obtain ⟨o18, x18, n18⟩ := hn _ (List.mem_of_getElem? (l := gf_ts) (i := 2) rfl)
  have n18 : m 18 = some ⟨ad 18, o18, x18⟩ := n18
  obtain ⟨m1607, c1607, r1607⟩ := hb 1607 _ _ _ (List.mem_of_getElem? (l := gf_ts) (i := 3) rfl)
  have r1607 : rest 1607 = [] := r1607 rfl
  obtain ⟨m3561, c3561, r3561⟩ := hb 3561 _ _ _ (List.mem_of_getElem? (l := gf_ts) (i := 4) rfl)
  obtain ⟨m1751, c1751, r1751⟩ := hb 1751 _ _ _ (List.mem_of_getElem? (l := gf_ts) (i := 5) rfl)
  have r1751 : rest 1751 = [] := r1751 rfl
  obtain ⟨m1984, c1984, r1984⟩ := hb 1984 _ _ _ (List.mem_of_getElem? (l := gf_ts) (i := 6) rfl)
  have r1984 : rest 1984 = [] := r1984 rfl
  obtain ⟨m3025, c3025, r3025⟩ := hb 3025 _ _ _ (List.mem_of_getElem? (l := gf_ts) (i := 7) rfl)
  have r3025 : rest 3025 = [] := r3025 rfl
  obtain ⟨m754, c754, r754⟩ := hb 754 _ _ _ (List.mem_of_getElem? (l := gf_ts) (i := 8) rfl)
  have r754 : rest 754 = [] := r754 rfl
  obtain ⟨m3559, c3559, r3559⟩ := hb 3559 _ _ _ (List.mem_of_getElem? (l := gf_ts) (i := 9) rfl)
  have r3559 : rest 3559 = [] := r3559 rfl
  obtain ⟨m22, c22, r22⟩ := hb 22 _ _ _ (List.mem_of_getElem? (l := gf_ts) (i := 10) rfl)
  have r22 : rest 22 = [] := r22 rfl
  obtain ⟨o20, x20, n20⟩ := hn _ (List.mem_of_getElem? (l := gf_ts) (i := 11) rfl)
  have n20 : m 20 = some ⟨ad 20, o20, x20⟩ := n20
  obtain ⟨o21, x21, n21⟩ := hn _ (List.mem_of_getElem? (l := gf_ts) (i := 12) rfl)
  have n21 : m 21 = some ⟨ad 21, o21, x21⟩ := n21
  obtain ⟨o2, x2, n2⟩ := hn _ (List.mem_of_getElem? (l := gf_ts) (i := 13) rfl)
  have n2 : m 2 = some ⟨ad 2, o2, x2⟩ := n2
  obtain ⟨m1494, c1494, r1494⟩ := hb 1494 _ _ _ (List.mem_of_getElem? (l := gf_ts) (i := 14) rfl)
  have r1494 : rest 1494 = [] := r1494 rfl
  obtain ⟨m1633, c1633, r1633⟩ := hb 1633 _ _ _ (List.mem_of_getElem? (l := gf_ts) (i := 15) rfl)
  have r1633 : rest 1633 = [] := r1633 rfl
  obtain ⟨m1621, c1621, r1621⟩ := hb 1621 _ _ _ (List.mem_of_getElem? (l := gf_ts) (i := 16) rfl)
  have r1621 : rest 1621 = [] := r1621 rfl
  obtain ⟨m1631, c1631, r1631⟩ := hb 1631 _ _ _ (List.mem_of_getElem? (l := gf_ts) (i := 17) rfl)
  obtain ⟨m1632, c1632, r1632⟩ := hb 1632 _ _ _ (List.mem_of_getElem? (l := gf_ts) (i := 18) rfl)
  obtain ⟨m1624, c1624, r1624⟩ := hb 1624 _ _ _ (List.mem_of_getElem? (l := gf_ts) (i := 19) rfl)
  have r1624 : rest 1624 = [] := r1624 rfl
  obtain ⟨m1629, c1629, r1629⟩ := hb 1629 _ _ _ (List.mem_of_getElem? (l := gf_ts) (i := 20) rfl)
  have r1629 : rest 1629 = [] := r1629 rfl
  obtain ⟨m1866, c1866, r1866⟩ := hb 1866 _ _ _ (List.mem_of_getElem? (l := gf_ts) (i := 21) rfl)
  have r1866 : rest 1866 = [] := r1866 rfl
  obtain ⟨m1764, c1764, r1764⟩ := hb 1764 _ _ _ (List.mem_of_getElem? (l := gf_ts) (i := 22) rfl)
  have r1764 : rest 1764 = [] := r1764 rfl
  obtain ⟨m1864, c1864, r1864⟩ := hb 1864 _ _ _ (List.mem_of_getElem? (l := gf_ts) (i := 23) rfl)
  obtain ⟨m1865, c1865, r1865⟩ := hb 1865 _ _ _ (List.mem_of_getElem? (l := gf_ts) (i := 24) rfl)
  obtain ⟨m1767, c1767, r1767⟩ := hb 1767 _ _ _ (List.mem_of_getElem? (l := gf_ts) (i := 25) rfl)
  have r1767 : rest 1767 = [] := r1767 rfl
  obtain ⟨m1772, c1772, r1772⟩ := hb 1772 _ _ _ (List.mem_of_getElem? (l := gf_ts) (i := 26) rfl)
  have r1772 : rest 1772 = [] := r1772 rfl
  obtain ⟨m1777, c1777, r1777⟩ := hb 1777 _ _ _ (List.mem_of_getElem? (l := gf_ts) (i := 27) rfl)
  have r1777 : rest 1777 = [] := r1777 rfl
  obtain ⟨m1782, c1782, r1782⟩ := hb 1782 _ _ _ (List.mem_of_getElem? (l := gf_ts) (i := 28) rfl)
  have r1782 : rest 1782 = [] := r1782 rfl
  obtain ⟨m1787, c1787, r1787⟩ := hb 1787 _ _ _ (List.mem_of_getElem? (l := gf_ts) (i := 29) rfl)
  have r1787 : rest 1787 = [] := r1787 rfl
  obtain ⟨m1792, c1792, r1792⟩ := hb 1792 _ _ _ (List.mem_of_getElem? (l := gf_ts) (i := 30) rfl)
  have r1792 : rest 1792 = [] := r1792 rfl
  obtain ⟨m1797, c1797, r1797⟩ := hb 1797 _ _ _ (List.mem_of_getElem? (l := gf_ts) (i := 31) rfl)
  have r1797 : rest 1797 = [] := r1797 rfl
  obtain ⟨m1802, c1802, r1802⟩ := hb 1802 _ _ _ (List.mem_of_getElem? (l := gf_ts) (i := 32) rfl)
  have r1802 : rest 1802 = [] := r1802 rfl
  obtain ⟨m1807, c1807, r1807⟩ := hb 1807 _ _ _ (List.mem_of_getElem? (l := gf_ts) (i := 33) rfl)
  have r1807 : rest 1807 = [] := r1807 rfl
  obtain ⟨m1812, c1812, r1812⟩ := hb 1812 _ _ _ (List.mem_of_getElem? (l := gf_ts) (i := 34) rfl)
  have r1812 : rest 1812 = [] := r1812 rfl
  obtain ⟨m1817, c1817, r1817⟩ := hb 1817 _ _ _ (List.mem_of_getElem? (l := gf_ts) (i := 35) rfl)
  have r1817 : rest 1817 = [] := r1817 rfl
  obtain ⟨m1822, c1822, r1822⟩ := hb 1822 _ _ _ (List.mem_of_getElem? (l := gf_ts) (i := 36) rfl)
  have r1822 : rest 1822 = [] := r1822 rfl
  obtain ⟨m1827, c1827, r1827⟩ := hb 1827 _ _ _ (List.mem_of_getElem? (l := gf_ts) (i := 37) rfl)
  have r1827 : rest 1827 = [] := r1827 rfl
  obtain ⟨m1832, c1832, r1832⟩ := hb 1832 _ _ _ (List.mem_of_getElem? (l := gf_ts) (i := 38) rfl)
  have r1832 : rest 1832 = [] := r1832 rfl
  obtain ⟨m1837, c1837, r1837⟩ := hb 1837 _ _ _ (List.mem_of_getElem? (l := gf_ts) (i := 39) rfl)
  have r1837 : rest 1837 = [] := r1837 rfl
  obtain ⟨m1842, c1842, r1842⟩ := hb 1842 _ _ _ (List.mem_of_getElem? (l := gf_ts) (i := 40) rfl)
  have r1842 : rest 1842 = [] := r1842 rfl
  obtain ⟨m1847, c1847, r1847⟩ := hb 1847 _ _ _ (List.mem_of_getElem? (l := gf_ts) (i := 41) rfl)
  have r1847 : rest 1847 = [] := r1847 rfl
  obtain ⟨m1852, c1852, r1852⟩ := hb 1852 _ _ _ (List.mem_of_getElem? (l := gf_ts) (i := 42) rfl)
  have r1852 : rest 1852 = [] := r1852 rfl
  obtain ⟨m1857, c1857, r1857⟩ := hb 1857 _ _ _ (List.mem_of_getElem? (l := gf_ts) (i := 43) rfl)
  have r1857 : rest 1857 = [] := r1857 rfl
  obtain ⟨m1862, c1862, r1862⟩ := hb 1862 _ _ _ (List.mem_of_getElem? (l := gf_ts) (i := 44) rfl)
  have r1862 : rest 1862 = [] := r1862 rfl
  obtain ⟨m2907, c2907, r2907⟩ := hb 2907 _ _ _ (List.mem_of_getElem? (l := gf_ts) (i := 45) rfl)
  have r2907 : rest 2907 = [] := r2907 rfl
  obtain ⟨m2895, c2895, r2895⟩ := hb 2895 _ _ _ (List.mem_of_getElem? (l := gf_ts) (i := 46) rfl)
  have r2895 : rest 2895 = [] := r2895 rfl
  obtain ⟨m2905, c2905, r2905⟩ := hb 2905 _ _ _ (List.mem_of_getElem? (l := gf_ts) (i := 47) rfl)
  obtain ⟨m2906, c2906, r2906⟩ := hb 2906 _ _ _ (List.mem_of_getElem? (l := gf_ts) (i := 48) rfl)
  obtain ⟨m2898, c2898, r2898⟩ := hb 2898 _ _ _ (List.mem_of_getElem? (l := gf_ts) (i := 49) rfl)
  have r2898 : rest 2898 = [] := r2898 rfl
  obtain ⟨m2903, c2903, r2903⟩ := hb 2903 _ _ _ (List.mem_of_getElem? (l := gf_ts) (i := 50) rfl)
  have r2903 : rest 2903 = [] := r2903 rfl
  obtain ⟨m556, c556, r556⟩ := hb 556 _ _ _ (List.mem_of_getElem? (l := gf_ts) (i := 51) rfl)
  have r556 : rest 556 = [] := r556 rfl
  obtain ⟨m3403, c3403, r3403⟩ := hb 3403 _ _ _ (List.mem_of_getElem? (l := gf_ts) (i := 52) rfl)
  have r3403 : rest 3403 = [] := r3403 rfl
  obtain ⟨o5, x5, n5⟩ := hn _ (List.mem_of_getElem? (l := gf_ts) (i := 53) rfl)
  have n5 : m 5 = some ⟨ad 5, o5, x5⟩ := n5
  obtain ⟨m1754, c1754, r1754⟩ := hb 1754 _ _ _ (List.mem_of_getElem? (l := gf_ts) (i := 54) rfl)
  have r1754 : rest 1754 = [] := r1754 rfl
  obtain ⟨m1485, c1485, r1485⟩ := hb 1485 _ _ _ (List.mem_of_getElem? (l := gf_ts) (i := 55) rfl)
  have r1485 : rest 1485 = [] := r1485 rfl
  obtain ⟨m2428, c2428, r2428⟩ := hb 2428 _ _ _ (List.mem_of_getElem? (l := gf_ts) (i := 56) rfl)
  have r2428 : rest 2428 = [] := r2428 rfl
  refine ⟨ad, ex, m2428, ?_⟩
  have e25 : Tell.as' m ad rest (.blk 25 1 [lP 19 0, lP 22 0, lM 2, lM 5, lI 0] true) = .blk (ad 25) [pt (ad 19) 0, pt (ad 22) 0, .map (some (ad 2)), .map (some (ad 5)), it 0] := by
    simp only [Tell.as', List.map_cons, List.map_nil, rvI, rvK, rvNS, rvNP, rvB, rvX, rvP m19, rvP m22, rvM n2, rvM n5, r25, List.append_nil] <;> rfl
  have e19 : Tell.as' m ad rest (.blk 19 1 [lM 18, lI 1] true) = .blk (ad 19) [.map (some (ad 18)), it 1] := by
    simp only [Tell.as', List.map_cons, List.map_nil, rvI, rvK, rvNS, rvNP, rvB, rvX, rvM n18, r19, List.append_nil] <;> rfl
  have e18 : Tell.as' m ad rest (.mp 18 [(1, lP 17 0), (2, lP 38 0), (3, lP 50 0), (500, lP 354 0), (501, lP 528 0), (30, lP 754 0), (31, lP 995 0), (32, lP 1236 0), (33, lP 1477 0), (700, lP 1607 0), (701, lP 1751 0), (702, lP 1984 0), (800, lP 3025 0), (801, lP 3559 0)]) = .mi (ad 18) 14 fun k => (getI k [(1, lP 17 0), (2, lP 38 0), (3, lP 50 0), (500, lP 354 0), (501, lP 528 0), (30, lP 754 0), (31, lP 995 0), (32, lP 1236 0), (33, lP 1477 0), (700, lP 1607 0), (701, lP 1751 0), (702, lP 1984 0), (800, lP 3025 0), (801, lP 3559 0)]).map (rv m) := rfl
  have e1607 : Tell.as' m ad rest (.blk 1607 1 [lI 700, lI 1, lI 262144, lI 1537, lI 1, lI 2, lNS, lS 3561 0 4 18446744073709551620] true) = .blk (ad 1607) (obC 700 ⟨ad 1607, (.slice (some ⟨ad 3561, 0, none⟩) 4 (4 + ex 3561)), some (ad 3561)⟩ gf_o700) := by
    simp only [Tell.as', List.map_cons, List.map_nil, rvI, rvK, rvNS, rvNP, rvB, rvX, rvS m3561, r1607, List.append_nil] <;> rfl
  have e3561 : Tell.as' m ad rest (.blk 3561 1 [lI 701, lI 702, lI 800, lI 801] false) = .blk (ad 3561) (gf_o700.list.map it ++ rest 3561) := by
    simp only [Tell.as', List.map_cons, List.map_nil, rvI, rvK, rvNS, rvNP, rvB, rvX] <;> rfl
  have e1751 : Tell.as' m ad rest (.blk 1751 1 [lI 701, lI 2, lI 128, lI 0, lI 1, lI 2, lNS, lNS] true) = .blk (ad 1751) (obC 701 ⟨ad 1751, nilS, none⟩ gf_o701) := by
    simp only [Tell.as', List.map_cons, List.map_nil, rvI, rvK, rvNS, rvNP, rvB, rvX, r1751, List.append_nil] <;> rfl
  have e1984 : Tell.as' m ad rest (.blk 1984 1 [lI 702, lI 2, lI 1280, lI 0, lI 1, lI 2, lNS, lNS] true) = .blk (ad 1984) (obC 702 ⟨ad 1984, nilS, none⟩ gf_o702) := by
    simp only [Tell.as', List.map_cons, List.map_nil, rvI, rvK, rvNS, rvNP, rvB, rvX, r1984, List.append_nil] <;> rfl
  have e3025 : Tell.as' m ad rest (.blk 3025 1 [lI 800, lI 2, lI 128, lI 0, lI 1, lI 2, lNS, lNS] true) = .blk (ad 3025) (obC 800 ⟨ad 3025, nilS, none⟩ gf_o800) := by
    simp only [Tell.as', List.map_cons, List.map_nil, rvI, rvK, rvNS, rvNP, rvB, rvX, r3025, List.append_nil] <;> rfl
  have e754 : Tell.as' m ad rest (.blk 754 1 [lI 30, lI 4, lI 1, lI 0, lI 1, lI 2, lNS, lNS] true) = .blk (ad 754) (obC 30 ⟨ad 754, nilS, none⟩ gf_o30) := by
    simp only [Tell.as', List.map_cons, List.map_nil, rvI, rvK, rvNS, rvNP, rvB, rvX, r754, List.append_nil] <;> rfl
  have e3559 : Tell.as' m ad rest (.blk 3559 1 [lI 801, lI 4, lI 1, lI 0, lI 1, lI 2, lNS, lNS] true) = .blk (ad 3559) (obC 801 ⟨ad 3559, nilS, none⟩ gf_o801) := by
    simp only [Tell.as', List.map_cons, List.map_nil, rvI, rvK, rvNS, rvNP, rvB, rvX, r3559, List.append_nil] <;> rfl
  have e22 : Tell.as' m ad rest (.blk 22 1 [lI 0, lM 20, lM 21] true) = .blk (ad 22) [it 0, .map (some (ad 20)), .map (some (ad 21))] := by
    simp only [Tell.as', List.map_cons, List.map_nil, rvI, rvK, rvNS, rvNP, rvB, rvX, rvM n20, rvM n21, r22, List.append_nil] <;> rfl
  have e20 : Tell.as' m ad rest (.mp 20 []) = .mi (ad 20) 0 fun k => (getI k []).map (rv m) := rfl
  have e21 : Tell.as' m ad rest (.mp 21 []) = .mi (ad 21) 0 fun k => (getI k []).map (rv m) := rfl
  have e2 : Tell.as' m ad rest (.mp 2 [(3, lP 24 0), (2, lP 4 0), (1, lP 3 0), (500, lP 205 0), (501, lP 374 0), (30, lP 556 0), (31, lP 770 0), (32, lP 1011 0), (33, lP 1252 0), (700, lP 1494 0), (701, lP 1633 0), (702, lP 1866 0), (800, lP 2907 0), (801, lP 3403 0)]) = .mi (ad 2) 14 fun k => (getI k [(3, lP 24 0), (2, lP 4 0), (1, lP 3 0), (500, lP 205 0), (501, lP 374 0), (30, lP 556 0), (31, lP 770 0), (32, lP 1011 0), (33, lP 1252 0), (700, lP 1494 0), (701, lP 1633 0), (702, lP 1866 0), (800, lP 2907 0), (801, lP 3403 0)]).map (rv m) := rfl
  have e1494 : Tell.as' m ad rest (.blk 1494 1 [lNP, lNS, lI 0, lNS, lI 0, lI 0, .int .u64 0, .int .u64 0, .int .u64 0, .int .u64 0, .int .u64 0, .int .u64 0, .int .u64 0, .int .u64 0, .int .u64 0, .int .u64 0, .int .u64 0, .int .u64 0, .int .u64 0, .int .u64 0, .int .u64 0, .int .u64 0, .int .u64 0, .int .u64 0, lI 0, lX [], lX []] true) = .blk (ad 1494) (thC ⟨ad 1494, default⟩ gf_h700) := by
    simp only [Tell.as', List.map_cons, List.map_nil, rvI, rvK, rvNS, rvNP, rvB, rvX, r1494, List.append_nil] <;> rfl
  have e1633 : Tell.as' m ad rest (.blk 1633 1 [lP 1621 0, lNS, lI 0, lNS, lI 0, lI 0, .int .u64 0, .int .u64 0, .int .u64 0, .int .u64 0, .int .u64 0, .int .u64 0, .int .u64 0, .int .u64 0, .int .u64 0, .int .u64 0, .int .u64 0, .int .u64 0, .int .u64 0, .int .u64 0, .int .u64 0, .int .u64 0, .int .u64 0, .int .u64 0, lI 0, lX [], lX []] true) = .blk (ad 1633) (thC ⟨ad 1633, ⟨ad 1621, [1624, 1629].map ad, ([1624, 1629].map ad).map fun _ => true, some (ad 1631), some (ad 1632)⟩⟩ gf_h701) := by
    simp only [Tell.as', List.map_cons, List.map_nil, rvI, rvK, rvNS, rvNP, rvB, rvX, rvP m1621, r1633, List.append_nil] <;> rfl
  have e1621 : Tell.as' m ad rest (.blk 1621 1 [lI 128, lS 1631 0 2 18446744073709551618, lS 1632 0 2 18446744073709551618] true) = .blk (ad 1621) [it (gf_b701.length : Nat), sv (ad 1631) 2 (2 + ex 1631), sv (ad 1632) 2 (2 + ex 1632)] := by
    simp only [Tell.as', List.map_cons, List.map_nil, rvI, rvK, rvNS, rvNP, rvB, rvX, rvS m1631, rvS m1632, r1621, List.append_nil] <;> rfl
  have e1631 : Tell.as' m ad rest (.blk 1631 1 [lP 1624 0, lP 1629 0] false) = .blk (ad 1631) ((([1624, 1629].map ad).map (pt · 0)) ++ rest 1631) := by
    simp only [Tell.as', List.map_cons, List.map_nil, rvI, rvK, rvNS, rvNP, rvB, rvX, rvP m1624, rvP m1629] <;> rfl
  have e1632 : Tell.as' m ad rest (.blk 1632 1 [.bool true, .bool true] false) = .blk (ad 1632) (((([1624, 1629].map ad).map fun _ => true).map Value.bool) ++ rest 1632) := by
    simp only [Tell.as', List.map_cons, List.map_nil, rvI, rvK, rvNS, rvNP, rvB, rvX] <;> rfl
  have e1624 : Tell.as' m ad rest (.blk 1624 1 (pgc (cont gf_b701) 0) true) = .blk (ad 1624) (pgc (cont gf_b701) 0) := by
    simp only [Tell.as', pg_rv, r1624, List.append_nil]
  have e1629 : Tell.as' m ad rest (.blk 1629 1 (pgc (cont gf_b701) 1) true) = .blk (ad 1629) (pgc (cont gf_b701) 1) := by
    simp only [Tell.as', pg_rv, r1629, List.append_nil]
  have e1866 : Tell.as' m ad rest (.blk 1866 1 [lP 1764 0, lNS, lI 0, lNS, lI 0, lI 0, .int .u64 0, .int .u64 0, .int .u64 0, .int .u64 0, .int .u64 0, .int .u64 0, .int .u64 0, .int .u64 0, .int .u64 0, .int .u64 0, .int .u64 0, .int .u64 0, .int .u64 0, .int .u64 0, .int .u64 0, .int .u64 0, .int .u64 0, .int .u64 0, lI 0, lX [], lX []] true) = .blk (ad 1866) (thC ⟨ad 1866, ⟨ad 1764, [1767, 1772, 1777, 1782, 1787, 1792, 1797, 1802, 1807, 1812, 1817, 1822, 1827, 1832, 1837, 1842, 1847, 1852, 1857, 1862].map ad, ([1767, 1772, 1777, 1782, 1787, 1792, 1797, 1802, 1807, 1812, 1817, 1822, 1827, 1832, 1837, 1842, 1847, 1852, 1857, 1862].map ad).map fun _ => true, some (ad 1864), some (ad 1865)⟩⟩ gf_h702) := by
    simp only [Tell.as', List.map_cons, List.map_nil, rvI, rvK, rvNS, rvNP, rvB, rvX, rvP m1764, r1866, List.append_nil] <;> rfl
  have e1764 : Tell.as' m ad rest (.blk 1764 1 [lI 1280, lS 1864 0 20 18446744073709551636, lS 1865 0 20 18446744073709551636] true) = .blk (ad 1764) [it (gf_b702.length : Nat), sv (ad 1864) 20 (20 + ex 1864), sv (ad 1865) 20 (20 + ex 1865)] := by
    simp only [Tell.as', List.map_cons, List.map_nil, rvI, rvK, rvNS, rvNP, rvB, rvX, rvS m1864, rvS m1865, r1764, List.append_nil] <;> rfl
  have e1864 : Tell.as' m ad rest (.blk 1864 1 [lP 1767 0, lP 1772 0, lP 1777 0, lP 1782 0, lP 1787 0, lP 1792 0, lP 1797 0, lP 1802 0, lP 1807 0, lP 1812 0, lP 1817 0, lP 1822 0, lP 1827 0, lP 1832 0, lP 1837 0, lP 1842 0, lP 1847 0, lP 1852 0, lP 1857 0, lP 1862 0] false) = .blk (ad 1864) ((([1767, 1772, 1777, 1782, 1787, 1792, 1797, 1802, 1807, 1812, 1817, 1822, 1827, 1832, 1837, 1842, 1847, 1852, 1857, 1862].map ad).map (pt · 0)) ++ rest 1864) := by
    simp only [Tell.as', List.map_cons, List.map_nil, rvI, rvK, rvNS, rvNP, rvB, rvX, rvP m1767, rvP m1772, rvP m1777, rvP m1782, rvP m1787, rvP m1792, rvP m1797, rvP m1802, rvP m1807, rvP m1812, rvP m1817, rvP m1822, rvP m1827, rvP m1832, rvP m1837, rvP m1842, rvP m1847, rvP m1852, rvP m1857, rvP m1862] <;> rfl
  have e1865 : Tell.as' m ad rest (.blk 1865 1 [.bool true, .bool true, .bool true, .bool true, .bool true, .bool true, .bool true, .bool true, .bool true, .bool true, .bool true, .bool true, .bool true, .bool true, .bool true, .bool true, .bool true, .bool true, .bool true, .bool true] false) = .blk (ad 1865) (((([1767, 1772, 1777, 1782, 1787, 1792, 1797, 1802, 1807, 1812, 1817, 1822, 1827, 1832, 1837, 1842, 1847, 1852, 1857, 1862].map ad).map fun _ => true).map Value.bool) ++ rest 1865) := by
    simp only [Tell.as', List.map_cons, List.map_nil, rvI, rvK, rvNS, rvNP, rvB, rvX] <;> rfl
  have e1767 : Tell.as' m ad rest (.blk 1767 1 (pgc (cont gf_b702) 0) true) = .blk (ad 1767) (pgc (cont gf_b702) 0) := by
    simp only [Tell.as', pg_rv, r1767, List.append_nil]
  have e1772 : Tell.as' m ad rest (.blk 1772 1 (pgc (cont gf_b702) 1) true) = .blk (ad 1772) (pgc (cont gf_b702) 1) := by
    simp only [Tell.as', pg_rv, r1772, List.append_nil]
  have e1777 : Tell.as' m ad rest (.blk 1777 1 (pgc (cont gf_b702) 2) true) = .blk (ad 1777) (pgc (cont gf_b702) 2) := by
    simp only [Tell.as', pg_rv, r1777, List.append_nil]
  have e1782 : Tell.as' m ad rest (.blk 1782 1 (pgc (cont gf_b702) 3) true) = .blk (ad 1782) (pgc (cont gf_b702) 3) := by
    simp only [Tell.as', pg_rv, r1782, List.append_nil]
  have e1787 : Tell.as' m ad rest (.blk 1787 1 (pgc (cont gf_b702) 4) true) = .blk (ad 1787) (pgc (cont gf_b702) 4) := by
    simp only [Tell.as', pg_rv, r1787, List.append_nil]
  have e1792 : Tell.as' m ad rest (.blk 1792 1 (pgc (cont gf_b702) 5) true) = .blk (ad 1792) (pgc (cont gf_b702) 5) := by
    simp only [Tell.as', pg_rv, r1792, List.append_nil]
  have e1797 : Tell.as' m ad rest (.blk 1797 1 (pgc (cont gf_b702) 6) true) = .blk (ad 1797) (pgc (cont gf_b702) 6) := by
    simp only [Tell.as', pg_rv, r1797, List.append_nil]
  have e1802 : Tell.as' m ad rest (.blk 1802 1 (pgc (cont gf_b702) 7) true) = .blk (ad 1802) (pgc (cont gf_b702) 7) := by
    simp only [Tell.as', pg_rv, r1802, List.append_nil]
  have e1807 : Tell.as' m ad rest (.blk 1807 1 (pgc (cont gf_b702) 8) true) = .blk (ad 1807) (pgc (cont gf_b702) 8) := by
    simp only [Tell.as', pg_rv, r1807, List.append_nil]
  have e1812 : Tell.as' m ad rest (.blk 1812 1 (pgc (cont gf_b702) 9) true) = .blk (ad 1812) (pgc (cont gf_b702) 9) := by
    simp only [Tell.as', pg_rv, r1812, List.append_nil]
  have e1817 : Tell.as' m ad rest (.blk 1817 1 (pgc (cont gf_b702) 10) true) = .blk (ad 1817) (pgc (cont gf_b702) 10) := by
    simp only [Tell.as', pg_rv, r1817, List.append_nil]
  have e1822 : Tell.as' m ad rest (.blk 1822 1 (pgc (cont gf_b702) 11) true) = .blk (ad 1822) (pgc (cont gf_b702) 11) := by
    simp only [Tell.as', pg_rv, r1822, List.append_nil]
  have e1827 : Tell.as' m ad rest (.blk 1827 1 (pgc (cont gf_b702) 12) true) = .blk (ad 1827) (pgc (cont gf_b702) 12) := by
    simp only [Tell.as', pg_rv, r1827, List.append_nil]
  have e1832 : Tell.as' m ad rest (.blk 1832 1 (pgc (cont gf_b702) 13) true) = .blk (ad 1832) (pgc (cont gf_b702) 13) := by
    simp only [Tell.as', pg_rv, r1832, List.append_nil]
  have e1837 : Tell.as' m ad rest (.blk 1837 1 (pgc (cont gf_b702) 14) true) = .blk (ad 1837) (pgc (cont gf_b702) 14) := by
    simp only [Tell.as', pg_rv, r1837, List.append_nil]
  have e1842 : Tell.as' m ad rest (.blk 1842 1 (pgc (cont gf_b702) 15) true) = .blk (ad 1842) (pgc (cont gf_b702) 15) := by
    simp only [Tell.as', pg_rv, r1842, List.append_nil]
  have e1847 : Tell.as' m ad rest (.blk 1847 1 (pgc (cont gf_b702) 16) true) = .blk (ad 1847) (pgc (cont gf_b702) 16) := by
    simp only [Tell.as', pg_rv, r1847, List.append_nil]
  have e1852 : Tell.as' m ad rest (.blk 1852 1 (pgc (cont gf_b702) 17) true) = .blk (ad 1852) (pgc (cont gf_b702) 17) := by
    simp only [Tell.as', pg_rv, r1852, List.append_nil]
  have e1857 : Tell.as' m ad rest (.blk 1857 1 (pgc (cont gf_b702) 18) true) = .blk (ad 1857) (pgc (cont gf_b702) 18) := by
    simp only [Tell.as', pg_rv, r1857, List.append_nil]
  have e1862 : Tell.as' m ad rest (.blk 1862 1 (pgc (cont gf_b702) 19) true) = .blk (ad 1862) (pgc (cont gf_b702) 19) := by
    simp only [Tell.as', pg_rv, r1862, List.append_nil]
  have e2907 : Tell.as' m ad rest (.blk 2907 1 [lP 2895 0, lNS, lI 0, lNS, lI 0, lI 0, .int .u64 0, .int .u64 0, .int .u64 0, .int .u64 0, .int .u64 0, .int .u64 0, .int .u64 0, .int .u64 0, .int .u64 0, .int .u64 0, .int .u64 0, .int .u64 0, .int .u64 0, .int .u64 0, .int .u64 0, .int .u64 0, .int .u64 0, .int .u64 0, lI 0, lX [], lX []] true) = .blk (ad 2907) (thC ⟨ad 2907, ⟨ad 2895, [2898, 2903].map ad, ([2898, 2903].map ad).map fun _ => true, some (ad 2905), some (ad 2906)⟩⟩ gf_h800) := by
    simp only [Tell.as', List.map_cons, List.map_nil, rvI, rvK, rvNS, rvNP, rvB, rvX, rvP m2895, r2907, List.append_nil] <;> rfl
  have e2895 : Tell.as' m ad rest (.blk 2895 1 [lI 128, lS 2905 0 2 18446744073709551618, lS 2906 0 2 18446744073709551618] true) = .blk (ad 2895) [it (gf_b800.length : Nat), sv (ad 2905) 2 (2 + ex 2905), sv (ad 2906) 2 (2 + ex 2906)] := by
    simp only [Tell.as', List.map_cons, List.map_nil, rvI, rvK, rvNS, rvNP, rvB, rvX, rvS m2905, rvS m2906, r2895, List.append_nil] <;> rfl
  have e2905 : Tell.as' m ad rest (.blk 2905 1 [lP 2898 0, lP 2903 0] false) = .blk (ad 2905) ((([2898, 2903].map ad).map (pt · 0)) ++ rest 2905) := by
    simp only [Tell.as', List.map_cons, List.map_nil, rvI, rvK, rvNS, rvNP, rvB, rvX, rvP m2898, rvP m2903] <;> rfl
  have e2906 : Tell.as' m ad rest (.blk 2906 1 [.bool true, .bool true] false) = .blk (ad 2906) (((([2898, 2903].map ad).map fun _ => true).map Value.bool) ++ rest 2906) := by
    simp only [Tell.as', List.map_cons, List.map_nil, rvI, rvK, rvNS, rvNP, rvB, rvX] <;> rfl
  have e2898 : Tell.as' m ad rest (.blk 2898 1 (pgc (cont gf_b800) 0) true) = .blk (ad 2898) (pgc (cont gf_b800) 0) := by
    simp only [Tell.as', pg_rv, r2898, List.append_nil]
  have e2903 : Tell.as' m ad rest (.blk 2903 1 (pgc (cont gf_b800) 1) true) = .blk (ad 2903) (pgc (cont gf_b800) 1) := by
    simp only [Tell.as', pg_rv, r2903, List.append_nil]
  have e556 : Tell.as' m ad rest (.blk 556 1 [lNP, lNS, lI 3, lNS, lI 0, lI 0, .int .u64 0, .int .u64 0, .int .u64 0, .int .u64 0, .int .u64 0, .int .u64 0, .int .u64 0, .int .u64 0, .int .u64 0, .int .u64 0, .int .u64 0, .int .u64 0, .int .u64 0, .int .u64 0, .int .u64 0, .int .u64 0, .int .u64 0, .int .u64 0, lI 0, lX [], lX []] true) = .blk (ad 556) (thC ⟨ad 556, default⟩ gf_h30) := by
    simp only [Tell.as', List.map_cons, List.map_nil, rvI, rvK, rvNS, rvNP, rvB, rvX, r556, List.append_nil] <;> rfl
  have e3403 : Tell.as' m ad rest (.blk 3403 1 [lNP, lNS, lI 3, lNS, lI 0, lI 0, .int .u64 0, .int .u64 0, .int .u64 0, .int .u64 0, .int .u64 0, .int .u64 0, .int .u64 0, .int .u64 0, .int .u64 0, .int .u64 0, .int .u64 0, .int .u64 0, .int .u64 0, .int .u64 0, .int .u64 0, .int .u64 0, .int .u64 0, .int .u64 0, lI 0, lX [], lX []] true) = .blk (ad 3403) (thC ⟨ad 3403, default⟩ gf_h801) := by
    simp only [Tell.as', List.map_cons, List.map_nil, rvI, rvK, rvNS, rvNP, rvB, rvX, r3403, List.append_nil] <;> rfl
  have e5 : Tell.as' m ad rest (.mp 5 [(3, .bool true), (2, .bool true), (1, .bool true), (20, .bool true), (21, .bool true), (500, .bool true), (501, .bool true), (30, .bool true), (31, .bool true), (32, .bool true), (33, .bool true), (700, .bool true), (701, .bool true), (702, .bool true), (800, .bool true), (801, .bool true)]) = .mi (ad 5) 16 fun k => (getI k [(3, .bool true), (2, .bool true), (1, .bool true), (20, .bool true), (21, .bool true), (500, .bool true), (501, .bool true), (30, .bool true), (31, .bool true), (32, .bool true), (33, .bool true), (700, .bool true), (701, .bool true), (702, .bool true), (800, .bool true), (801, .bool true)]).map (rv m) := rfl
  have e1754 : Tell.as' m ad rest (.blk 1754 1 [lP 25 0, lP 1485 0, lI 702] true) = .blk (ad 1754) (procsC (gf_g m ad ex) (gf_q m ad)) := by
    simp only [Tell.as', List.map_cons, List.map_nil, rvI, rvK, rvNS, rvNP, rvB, rvX, rvP m25, rvP m1485, r1754, List.append_nil] <;> rfl
  have e1485 : Tell.as' m ad rest (.blk 1485 1 [lP 188 0, lP 25 0, lI 700, lI 701, lI 2, lNS] true) = .blk (ad 1485) (fdsC (gf_g m ad ex) (gf_q m ad)) := by
    simp only [Tell.as', List.map_cons, List.map_nil, rvI, rvK, rvNS, rvNP, rvB, rvX, rvP m25, r1485, List.append_nil] <;> rfl
  have e2428 : Tell.as' m ad rest (.blk 2428 1 [lP 25 0, lP 188 0, lP 1754 0] true) = .blk (ad 2428) [pt (ad 25) 0, rv m (lP 188 0), pt (ad 1754) 0] := by
    simp only [Tell.as', List.map_cons, List.map_nil, rvI, rvK, rvNS, rvNP, rvB, rvX, rvP m25, rvP m1754, r2428, List.append_nil] <;> rfl
  have e : gf_ts.map (Tell.as' m ad rest) = (([(.blk (ad 25) [pt (ad 19) 0, pt (ad 22) 0, .map (some (ad 2)), .map (some (ad 5)), it 0] : As)] ++ (([(.blk (ad 19) [.map (some (ad 18)), it 1] : As)] ++ ([(.mi (ad 18) 14 fun k => (getI k [(1, lP 17 0), (2, lP 38 0), (3, lP 50 0), (500, lP 354 0), (501, lP 528 0), (30, lP 754 0), (31, lP 995 0), (32, lP 1236 0), (33, lP 1477 0), (700, lP 1607 0), (701, lP 1751 0), (702, lP 1984 0), (800, lP 3025 0), (801, lP 3559 0)]).map (rv m) : As)] ++ ([(.blk (ad 1607) (obC 700 ⟨ad 1607, (.slice (some ⟨ad 3561, 0, none⟩) 4 (4 + ex 3561)), some (ad 3561)⟩ gf_o700) : As), (.blk (ad 3561) (gf_o700.list.map it ++ rest 3561) : As)] ++ ([(.blk (ad 1751) (obC 701 ⟨ad 1751, nilS, none⟩ gf_o701) : As)] ++ ([(.blk (ad 1984) (obC 702 ⟨ad 1984, nilS, none⟩ gf_o702) : As)] ++ ([(.blk (ad 3025) (obC 800 ⟨ad 3025, nilS, none⟩ gf_o800) : As)] ++ ([(.blk (ad 754) (obC 30 ⟨ad 754, nilS, none⟩ gf_o30) : As)] ++ [(.blk (ad 3559) (obC 801 ⟨ad 3559, nilS, none⟩ gf_o801) : As)]))))))) ++ ([(.blk (ad 22) [it 0, .map (some (ad 20)), .map (some (ad 21))] : As), (.mi (ad 20) 0 fun k => (getI k []).map (rv m) : As), (.mi (ad 21) 0 fun k => (getI k []).map (rv m) : As)] ++ ([(.mi (ad 2) 14 fun k => (getI k [(3, lP 24 0), (2, lP 4 0), (1, lP 3 0), (500, lP 205 0), (501, lP 374 0), (30, lP 556 0), (31, lP 770 0), (32, lP 1011 0), (33, lP 1252 0), (700, lP 1494 0), (701, lP 1633 0), (702, lP 1866 0), (800, lP 2907 0), (801, lP 3403 0)]).map (rv m) : As)] ++ (([(.blk (ad 1494) (thC ⟨ad 1494, default⟩ gf_h700) : As)] ++ (([(.blk (ad 1633) (thC ⟨ad 1633, ⟨ad 1621, [1624, 1629].map ad, ([1624, 1629].map ad).map fun _ => true, some (ad 1631), some (ad 1632)⟩⟩ gf_h701) : As), (.blk (ad 1621) [it (gf_b701.length : Nat), sv (ad 1631) 2 (2 + ex 1631), sv (ad 1632) 2 (2 + ex 1632)] : As), (.blk (ad 1631) ((([1624, 1629].map ad).map (pt · 0)) ++ rest 1631) : As), (.blk (ad 1632) (((([1624, 1629].map ad).map fun _ => true).map Value.bool) ++ rest 1632) : As)] ++ [(.blk (ad 1624) (pgc (cont gf_b701) 0) : As), (.blk (ad 1629) (pgc (cont gf_b701) 1) : As)]) ++ (([(.blk (ad 1866) (thC ⟨ad 1866, ⟨ad 1764, [1767, 1772, 1777, 1782, 1787, 1792, 1797, 1802, 1807, 1812, 1817, 1822, 1827, 1832, 1837, 1842, 1847, 1852, 1857, 1862].map ad, ([1767, 1772, 1777, 1782, 1787, 1792, 1797, 1802, 1807, 1812, 1817, 1822, 1827, 1832, 1837, 1842, 1847, 1852, 1857, 1862].map ad).map fun _ => true, some (ad 1864), some (ad 1865)⟩⟩ gf_h702) : As), (.blk (ad 1764) [it (gf_b702.length : Nat), sv (ad 1864) 20 (20 + ex 1864), sv (ad 1865) 20 (20 + ex 1865)] : As), (.blk (ad 1864) ((([1767, 1772, 1777, 1782, 1787, 1792, 1797, 1802, 1807, 1812, 1817, 1822, 1827, 1832, 1837, 1842, 1847, 1852, 1857, 1862].map ad).map (pt · 0)) ++ rest 1864) : As), (.blk (ad 1865) (((([1767, 1772, 1777, 1782, 1787, 1792, 1797, 1802, 1807, 1812, 1817, 1822, 1827, 1832, 1837, 1842, 1847, 1852, 1857, 1862].map ad).map fun _ => true).map Value.bool) ++ rest 1865) : As)] ++ [(.blk (ad 1767) (pgc (cont gf_b702) 0) : As), (.blk (ad 1772) (pgc (cont gf_b702) 1) : As), (.blk (ad 1777) (pgc (cont gf_b702) 2) : As), (.blk (ad 1782) (pgc (cont gf_b702) 3) : As), (.blk (ad 1787) (pgc (cont gf_b702) 4) : As), (.blk (ad 1792) (pgc (cont gf_b702) 5) : As), (.blk (ad 1797) (pgc (cont gf_b702) 6) : As), (.blk (ad 1802) (pgc (cont gf_b702) 7) : As), (.blk (ad 1807) (pgc (cont gf_b702) 8) : As), (.blk (ad 1812) (pgc (cont gf_b702) 9) : As), (.blk (ad 1817) (pgc (cont gf_b702) 10) : As), (.blk (ad 1822) (pgc (cont gf_b702) 11) : As), (.blk (ad 1827) (pgc (cont gf_b702) 12) : As), (.blk (ad 1832) (pgc (cont gf_b702) 13) : As), (.blk (ad 1837) (pgc (cont gf_b702) 14) : As), (.blk (ad 1842) (pgc (cont gf_b702) 15) : As), (.blk (ad 1847) (pgc (cont gf_b702) 16) : As), (.blk (ad 1852) (pgc (cont gf_b702) 17) : As), (.blk (ad 1857) (pgc (cont gf_b702) 18) : As), (.blk (ad 1862) (pgc (cont gf_b702) 19) : As)]) ++ (([(.blk (ad 2907) (thC ⟨ad 2907, ⟨ad 2895, [2898, 2903].map ad, ([2898, 2903].map ad).map fun _ => true, some (ad 2905), some (ad 2906)⟩⟩ gf_h800) : As), (.blk (ad 2895) [it (gf_b800.length : Nat), sv (ad 2905) 2 (2 + ex 2905), sv (ad 2906) 2 (2 + ex 2906)] : As), (.blk (ad 2905) ((([2898, 2903].map ad).map (pt · 0)) ++ rest 2905) : As), (.blk (ad 2906) (((([2898, 2903].map ad).map fun _ => true).map Value.bool) ++ rest 2906) : As)] ++ [(.blk (ad 2898) (pgc (cont gf_b800) 0) : As), (.blk (ad 2903) (pgc (cont gf_b800) 1) : As)]) ++ ([(.blk (ad 556) (thC ⟨ad 556, default⟩ gf_h30) : As)] ++ [(.blk (ad 3403) (thC ⟨ad 3403, default⟩ gf_h801) : As)]))))) ++ [(.mi (ad 5) 16 fun k => (getI k [(3, .bool true), (2, .bool true), (1, .bool true), (20, .bool true), (21, .bool true), (500, .bool true), (501, .bool true), (30, .bool true), (31, .bool true), (32, .bool true), (33, .bool true), (700, .bool true), (701, .bool true), (702, .bool true), (800, .bool true), (801, .bool true)]).map (rv m) : As)]))))) ++ [(.blk (ad 1754) (procsC (gf_g m ad ex) (gf_q m ad)) : As), (.blk (ad 1485) (fdsC (gf_g m ad ex) (gf_q m ad)) : As), (.blk (ad 2428) [pt (ad 25) 0, rv m (lP 188 0), pt (ad 1754) 0] : As)]) := by
    conv => lhs; simp only [gf_ts, List.map_cons, List.map_nil]
    rw [e25, e19, e18, e1607, e3561, e1751, e1984, e3025, e754, e3559, e22, e20, e21, e2, e1494, e1633, e1621, e1631, e1632, e1624, e1629, e1866, e1764, e1864, e1865, e1767, e1772, e1777, e1782, e1787, e1792, e1797, e1802, e1807, e1812, e1817, e1822, e1827, e1832, e1837, e1842, e1847, e1852, e1857, e1862, e2907, e2895, e2905, e2906, e2898, e2903, e556, e3403, e5, e1754, e1485, e2428]
    rfl
  rw [e] at h
  clear e e25 e19 e18 e1607 e3561 e1751 e1984 e3025 e754 e3559 e22 e20 e21 e2 e1494 e1633 e1621 e1631 e1632 e1624 e1629 e1866 e1764 e1864 e1865 e1767 e1772 e1777 e1782 e1787 e1792 e1797 e1802 e1807 e1812 e1817 e1822 e1827 e1832 e1837 e1842 e1847 e1852 e1857 e1862 e2907 e2895 e2905 e2906 e2898 e2903 e556 e3403 e5 e1754 e1485 e2428
  have tm : (fun k => (getI k gf_mb).map (rv m)) = ptrF gf_T (fun k => (gf_TG ad ex k).b) (gf_fx m) := by
    refine ptrF_eq (ids := [700, 701, 702, 800, 30, 801]) rfl rfl ?_
    intro n hn
    simp only [List.mem_cons, List.not_mem_nil, or_false] at hn
    rcases hn with rfl | rfl | rfl | rfl | rfl | rfl
    · exact congrArg some (rvP m1607 0)
    · exact congrArg some (rvP m1751 0)
    · exact congrArg some (rvP m1984 0)
    · exact congrArg some (rvP m3025 0)
    · exact congrArg some (rvP m754 0)
    · exact congrArg some (rvP m3559 0)
  have th : (fun k => (getI k gf_hb).map (rv m)) = ptrF gf_H (fun k => (gf_HG ad k).b) (gf_hx m) := by
    refine ptrF_eq (ids := [700, 701, 702, 800, 30, 801]) rfl rfl ?_
    intro n hn
    simp only [List.mem_cons, List.not_mem_nil, or_false] at hn
    rcases hn with rfl | rfl | rfl | rfl | rfl | rfl
    · exact congrArg some (rvP m1494 0)
    · exact congrArg some (rvP m1633 0)
    · exact congrArg some (rvP m1866 0)
    · exact congrArg some (rvP m2907 0)
    · exact congrArg some (rvP m556 0)
    · exact congrArg some (rvP m3403 0)
  have to700 := trOb (n := 700) (a := ad 1607) (la := ad 3561) (c := 4 + ex 3561) (o := gf_o700) (r := rest 3561) (by show 4 ≤ _; omega) (by show _ ≤ 4 + _; have := c3561; omega)
  have to701 := trOb0 (n := 701) (a := ad 1751) (o := gf_o701) rfl
  have to702 := trOb0 (n := 702) (a := ad 1984) (o := gf_o702) rfl
  have to800 := trOb0 (n := 800) (a := ad 3025) (o := gf_o800) rfl
  have to30 := trOb0 (n := 30) (a := ad 754) (o := gf_o30) rfl
  have to801 := trOb0 (n := 801) (a := ad 3559) (o := gf_o801) rfl
  have tt700 := trTh0 (a := ad 1494) (gh := default) (x := gf_h700) rfl
  have tt701 := trSeg (a := ad 1633) (b := ad 1621) (lb := ad 1631) (ob := ad 1632) (ps := [1624, 1629].map ad) (x := gf_h701) (l := gf_b701) (r1 := rest 1631) (r2 := rest 1632) (c1 := 2 + ex 1631) (c2 := 2 + ex 1632) rfl (by rw [gf_l701]; rfl) (by rw [gf_l701]; omega) (by show 2 ≤ _; omega) (by show _ ≤ 2 + _; have := c1631; omega) (by show 2 ≤ _; omega) (by show _ ≤ 2 + _; have := c1632; omega)
  have tt702 := trSeg (a := ad 1866) (b := ad 1764) (lb := ad 1864) (ob := ad 1865) (ps := [1767, 1772, 1777, 1782, 1787, 1792, 1797, 1802, 1807, 1812, 1817, 1822, 1827, 1832, 1837, 1842, 1847, 1852, 1857, 1862].map ad) (x := gf_h702) (l := gf_b702) (r1 := rest 1864) (r2 := rest 1865) (c1 := 20 + ex 1864) (c2 := 20 + ex 1865) rfl (by rw [gf_l702]; rfl) (by rw [gf_l702]; omega) (by show 20 ≤ _; omega) (by show _ ≤ 20 + _; have := c1864; omega) (by show 20 ≤ _; omega) (by show _ ≤ 20 + _; have := c1865; omega)
  have tt800 := trSeg (a := ad 2907) (b := ad 2895) (lb := ad 2905) (ob := ad 2906) (ps := [2898, 2903].map ad) (x := gf_h800) (l := gf_b800) (r1 := rest 2905) (r2 := rest 2906) (c1 := 2 + ex 2905) (c2 := 2 + ex 2906) rfl (by rw [gf_l800]; rfl) (by rw [gf_l800]; omega) (by show 2 ≤ _; omega) (by show _ ≤ 2 + _; have := c2905; omega) (by show 2 ≤ _; omega) (by show _ ≤ 2 + _; have := c2906; omega)
  have tt30 := trTh0 (a := ad 556) (gh := default) (x := gf_h30) rfl
  have tt801 := trTh0 (a := ad 3403) (gh := default) (x := gf_h801) rfl
  have tob := Tr.trans (Tr.app to700 (Tr.app to701 (Tr.app to702 (Tr.app to800 (Tr.app to30 to801))))) (trFam (A := fun k o => obAs k (gf_TG ad ex k) o) [(700, gf_o700), (701, gf_o701), (702, gf_o702), (800, gf_o800), (30, gf_o30), (801, gf_o801)])
  have tth := Tr.trans (Tr.app tt700 (Tr.app tt701 (Tr.app tt702 (Tr.app tt800 (Tr.app tt30 tt801))))) (trFam (A := fun k x => thAs (gf_HG ad k) x) [(700, gf_h700), (701, gf_h701), (702, gf_h702), (800, gf_h800), (30, gf_h30), (801, gf_h801)])
  have ttab := Tr.trans (Tr.app (Tr.refl [(.blk (ad 19) [.map (some (ad 18)), it 1] : As)]) (Tr.app (trMi (b := ad 18) (n := 14) tm) tob)) (trAll _)
  have td := trMx (b := ad 5) (n := 16) (f := fun k => (getI k gf_db).map (rv m)) (f' := fun k => if gf_D k = true then some (.bool true) else none) (by
    funext k
    exact drawn_eq (ks := gf_db) (by intro p hp; simp only [gf_db, List.mem_cons, List.not_mem_nil, or_false] at hp; rcases hp with rfl | rfl | rfl | rfl | rfl | rfl | rfl | rfl | rfl | rfl | rfl | rfl | rfl | rfl | rfl | rfl <;> rfl) k)
  have tr := trRooms (rb := ad 22) (tkb := ad 20) (alb := ad 21) (n1 := 0) (n2 := 0) (f1 := fun k => (getI k []).map (rv m)) (f2 := fun k => (getI k []).map (rv m)) (last := 0) (g := gf_g m ad ex) (κ := gf_κ) rfl rfl ⟨rfl, rfl, rfl⟩ ⟨rfl, rfl, rfl⟩
  have tk := Tr.trans (Tr.app (Tr.refl [(.blk (ad 25) [pt (ad 19) 0, pt (ad 22) 0, .map (some (ad 2)), .map (some (ad 5)), it 0] : As)]) (Tr.app ttab (Tr.app tr (Tr.app (trMx (b := ad 2) (n := 14) th) (Tr.app tth td))))) (trAll _)
  have h := (Tr.app tk (Tr.refl [(.blk (ad 1754) (procsC (gf_g m ad ex) (gf_q m ad)) : As), (.blk (ad 1485) (fdsC (gf_g m ad ex) (gf_q m ad)) : As), (.blk (ad 2428) [pt (ad 25) 0, rv m (lP 188 0), pt (ad 1754) 0] : As)])) _ _ _ _ h
  exact Go.V.Lx.sub h (.cons_cons _ (.cons_cons _ (.cons_cons _ (.cons_cons _ (.cons _ (List.Sublist.refl _))))))

end Go.Proofs.YtdkklhnleppfcaaGreat

/-
  ProcsSignals: the kernel between its steps. Own work.
-/
set_option linter.unusedVariables false
set_option linter.unusedSimpArgs false
set_option maxRecDepth 100000
namespace Go.Proofs.YtdkklhnleppfcaaGreat
open Go Go.V Go.X Go.RowKit

structure KS (κ : KP) (l : List Int) : Prop where
  T : κ.T = gf_κ.T
  H : κ.H = gf_κ.H
  tk : κ.tk = fun _ => none
  al : (κ.al 801).getD [] = l
  oth : ∀ n, n ≠ 801 → κ.al n = none
  le : l.length ≤ 8

theorem ks0 : KS gf_κ [] := ⟨rfl, rfl, rfl, rfl, fun _ _ => rfl, by simp⟩

theorem gfT_cases {n : Int} {o : ObP} (h : gf_κ.T n = some o) : (n = 700 ∧ o = gf_o700) ∨ (n = 701 ∧ o = gf_o701) ∨ (n = 702 ∧ o = gf_o702) ∨ (n = 800 ∧ o = gf_o800) ∨ (n = 30 ∧ o = gf_o30) ∨ (n = 801 ∧ o = gf_o801) := by
  have := lookF_mem (l := [(700, gf_o700), (701, gf_o701), (702, gf_o702), (800, gf_o800), (30, gf_o30), (801, gf_o801)]) h
  simp only [List.mem_cons, Prod.mk.injEq, List.not_mem_nil, or_false] at this
  exact this

theorem KS.pw {κ : KP} {l : List Int} (h : KS κ l) {m : Ren} {ad : Nat → Nat} : PW κ (gf_q m ad) gf_rs := by
  refine ⟨⟨?_, ?_, ?_, ?_, ?_⟩, ?_, ?_, ?_, rfl, ?_⟩
  · intro n o hn hk
    rw [h.T] at hn
    rw [h.H]
    rcases gfT_cases hn with ⟨rfl, rfl⟩ | ⟨rfl, rfl⟩ | ⟨rfl, rfl⟩ | ⟨rfl, rfl⟩ | ⟨rfl, rfl⟩ | ⟨rfl, rfl⟩ <;> first | exact ⟨_, rfl, rfl⟩ | (exfalso; revert hk; decide)
  · intro n o hn hk
    rw [h.T] at hn
    rw [h.H]
    rcases gfT_cases hn with ⟨rfl, rfl⟩ | ⟨rfl, rfl⟩ | ⟨rfl, rfl⟩ | ⟨rfl, rfl⟩ | ⟨rfl, rfl⟩ | ⟨rfl, rfl⟩ <;> first | exact ⟨_, _, rfl, rfl⟩ | (exfalso; revert hk; decide)
  · intro c o n hc hn
    rw [h.T] at hc ⊢
    rcases gfT_cases hc with ⟨rfl, rfl⟩ | ⟨rfl, rfl⟩ | ⟨rfl, rfl⟩ | ⟨rfl, rfl⟩ | ⟨rfl, rfl⟩ | ⟨rfl, rfl⟩ <;> simp only [gf_o700, gf_o701, gf_o702, gf_o800, gf_o30, gf_o801, List.mem_cons, List.not_mem_nil, or_false] at hn
    rcases hn with rfl | rfl | rfl | rfl <;> exact ⟨_, rfl⟩
  · intro c o hc
    rw [h.T] at hc
    rcases gfT_cases hc with ⟨rfl, rfl⟩ | ⟨rfl, rfl⟩ | ⟨rfl, rfl⟩ | ⟨rfl, rfl⟩ | ⟨rfl, rfl⟩ | ⟨rfl, rfl⟩ <;> decide
  · intro n x hn
    by_cases e : n = 801
    · subst e
      have := h.al
      rw [hn] at this
      simp only [Option.getD_some] at this
      rw [this]; exact h.le
    · rw [h.oth n e] at hn; cases hn
  · exact ⟨gf_o700, by rw [h.T]; rfl, rfl, by show (702 : Int) ∈ [701, 702, 800, 801]; decide⟩
  · exact ⟨gf_o702, by rw [h.T]; rfl, rfl⟩
  · unfold KP.bytes
    rw [h.H]
    rfl
  · intro r hr
    simp only [gf_rs, List.mem_cons] at hr
    rcases hr with rfl | rfl | hr
    · unfold Rec.fine; decide
    · unfold Rec.fine; decide
    · rw [(List.mem_replicate.1 hr).2]; unfold Rec.fine; decide

theorem KS.runs30 {κ : KP} {l : List Int} (h : KS κ l) : κ.runs 30 = true := by unfold KP.runs; rw [h.T, h.H]; rfl
theorem KS.runs801 {κ : KP} {l : List Int} (h : KS κ l) : κ.runs 801 = true := by unfold KP.runs; rw [h.T, h.H]; rfl
theorem KS.mine {κ : KP} {l : List Int} (h : KS κ l) (g : KG) {n : Int} (hn : (gf_κ.T n).isSome = true) : g.mine κ n := by
  intro e
  rw [h.T] at e
  rw [e] at hn; cases hn
theorem KS.get {κ : KP} {l : List Int} (h : KS κ l) : κ.get (700, 801) 4 = 0 := by
  unfold KP.get KP.ref
  rw [h.T]
  rfl
theorem me30 : meO gf_rs 30 32 = some (0, ⟨30, 1, 701, false, 0⟩) := by decide
theorem me801 : meO gf_rs 801 32 = some (1, ⟨801, 1, 800, false, 0⟩) := by decide

theorem KS.post8 {κ : KP} {l : List Int} (h : KS κ l) {s : Int} (h8 : l.length = 8) : κ.post (700, 801) s = (7, κ) := by
  unfold KP.post
  rw [if_neg (by simp [h.get]), if_pos (by simp only; rw [h.al]; omega)]
theorem KS.post {κ : KP} {l : List Int} (h : KS κ l) {s : Int} (h8 : l.length < 8) : (κ.post (700, 801) s).1 = 0 ∧ KS (κ.post (700, 801) s).2 (l ++ [s]) := by
  have e : κ.post (700, 801) s = (0, { κ with al := upF κ.al 801 (some (l ++ [s])), tk := upF κ.tk 801 none }) := by
    unfold KP.post
    rw [if_neg (by simp [h.get]), if_neg (by simp only; rw [h.al]; omega)]
    simp only
    rw [h.al]
  rw [e]
  refine ⟨rfl, h.T, h.H, ?_, ?_, ?_, by simp; omega⟩
  · show upF κ.tk 801 none = _
    rw [h.tk]
    funext k; unfold upF; split <;> rfl
  · show (upF κ.al 801 (some (l ++ [s])) 801).getD [] = _
    rw [upF_same]; rfl
  · intro n hn
    show upF κ.al 801 _ n = none
    rw [upF_ne _ _ hn]; exact h.oth n hn
theorem KS.take {κ : KP} {n : Int} {r : List Int} (h : KS κ (n :: r)) : (κ.take 801).1 = 0 ∧ (κ.take 801).2.1 = n ∧ KS (κ.take 801).2.2 r := by
  have e : κ.take 801 = (0, n, { κ with al := upF κ.al 801 (if r = [] then none else some r) }) := by
    unfold KP.take
    rw [h.al]
  have hle := h.le
  rw [e]
  refine ⟨rfl, rfl, h.T, h.H, h.tk, ?_, ?_, by simp at hle; omega⟩
  · show (upF κ.al 801 _ 801).getD [] = _
    rw [upF_same]
    split
    · rename_i e; rw [e]; rfl
    · rfl
  · intro k hk
    show upF κ.al 801 _ k = none
    rw [upF_ne _ _ hk]; exact h.oth k hk
theorem KS.take0 {κ : KP} (h : KS κ []) : (κ.take 801).1 = 10 := by
  unfold KP.take
  rw [h.al]

section
variable {F : Nat → Prop} {w0 w : World} {R : List As} {m : Ren} {ad : Nat → Nat} {g : KG} {κ : KP} {l : List Int}

theorem sigKill {s : Int} {K : Value → World → Prop} (h : Lx F w0 w (procsL g κ (gf_q m ad) ++ R)) (ks : KS κ l) (hs1 : 1 ≤ s) (hs2 : s ≤ 31) (hs9 : s ≠ 9)
    (k8 : l.length = 8 → ∀ w' HG AG, Lx F w0 w' (procsL { g with HG := HG, AG := AG } κ (gf_q m ad) ++ R) → K (it 10) w')
    (k : l.length < 8 → ∀ w' HG AG κ', KS κ' (l ++ [s]) → Lx F w0 w' (procsL { g with HG := HG, AG := AG } κ' (gf_q m ad) ++ R) → K (it 0) w') :
    CallK Tryz.prog 14 #[pt (ad 1754) 0, .agg #[it 30, it 800], it 2, it s] w K := by
  have hle := ks.le
  refine kill_spec (g := g) (κ := κ) (q := gf_q m ad) (rs := gf_rs) (i := 1) (x := ⟨801, 1, 800, false, 0⟩) h ks.pw (ks.mine g rfl) ks.runs30 me30 rfl (by decide) rfl hs1 hs2 hs9 (by decide) (by rw [ks.tk]) (fun w' HG AG h => ?_)
  show K (it (killE (κ.post (700, 801) s).1)) w'
  have h : Lx F w0 w' (procsL { g with HG := HG, AG := AG } (κ.post (700, 801) s).2 (gf_q m ad) ++ R) := h
  by_cases h8 : l.length = 8
  · rw [ks.post8 h8] at h ⊢
    exact k8 h8 w' HG AG h
  · obtain ⟨e1, e2⟩ := ks.post (s := s) (by omega)
    rw [e1]
    exact k (by omega) w' HG AG _ e2 h

theorem sigTake {K : Value → World → Prop} (h : Lx F w0 w (procsL g κ (gf_q m ad) ++ R)) (ks : KS κ l)
    (k0 : l = [] → ∀ w' v, Fr F w0 w' → K (.tuple #[it v, it 10]) w')
    (k : ∀ n r, l = n :: r → ∀ w' HG AG κ', KS κ' r → Lx F w0 w' (procsL { g with HG := HG, AG := AG } κ' (gf_q m ad) ++ R) → K (.tuple #[it n, it 0]) w') :
    CallK Tryz.prog 16 #[pt (ad 1754) 0, .agg #[it 801, it 0]] w K := by
  refine signal_spec (g := g) (κ := κ) (q := gf_q m ad) (rs := gf_rs) h ks.pw (ks.mine g rfl) ks.runs801 me801 (fun w' HG AG h => ?_)
  cases l with
  | nil =>
    rw [ks.take0]
    exact k0 rfl w' _ h.fr
  | cons n r =>
    obtain ⟨e1, e2, e3⟩ := ks.take
    rw [e1, e2]
    rw [if_pos rfl]
    exact k n r rfl w' HG AG _ e3 h
end

end Go.Proofs.YtdkklhnleppfcaaGreat
