/-
  Pages, part 16: the law PagesWrites: it returns true. Own work.
-/
import Derived.Test.YtmaecpbkbkncgaaDoorP15
set_option linter.unusedVariables false
set_option linter.unusedSimpArgs false
set_option maxRecDepth 100000
namespace Go.Proofs.YtmaecpbkbkncgaaDoor
open Go Go.V Go.RowKit

theorem rMod {n : Int} {K : Value → Prop} (hK : ∀ N : Nat, N ≤ 4096 → K (it N)) :
    vConv (.int .u64) (it n) fun v17 => vBin (.int .u64) .rem v17 (.int .u64 4097) fun v18 => vConv (.int .i64) v18 K := by
  show vBin (.int .u64) .rem (.int .u64 (IntKind.u64.wrap n)) (.int .u64 4097) (fun v18 => vConv (.int .i64) v18 K)
  refine ⟨rfl, by decide, ?_⟩
  have h0 : 0 ≤ IntKind.u64.wrap n := by
    simp only [IntKind.wrap, IntKind.signed, IntKind.bits, Bool.false_and]
    have : (0 : Int) ≤ n % 2 ^ 64 := Int.emod_nonneg _ (by decide)
    simpa using this
  have h1 : (IntKind.u64.wrap n).tmod 4097 = ((IntKind.u64.wrap n).toNat % 4097 : Nat) := by
    rw [Int.tmod_eq_emod_of_nonneg h0]
    omega
  show K (.int .i64 (IntKind.i64.wrap ((IntKind.u64.wrap n).tmod 4097)))
  rw [h1, wrap_id (by omega) (by omega)]
  exact hK _ (by omega)

theorem seg_take {c : Nat → UInt8} {a n k : Nat} (h : k ≤ n) : (seg c a n).take k = seg c a k := by
  have : n = k + (n - k) := by omega
  rw [this, seg_app, List.take_left' (seg_len _ _ _)]
theorem seg_drop {c : Nat → UInt8} {a n k : Nat} (h : k ≤ n) : (seg c a n).drop k = seg c (a + k) (n - k) := by
  have : n = k + (n - k) := by omega
  rw [this, seg_app, List.drop_left' (seg_len _ _ _)]
  congr 1
  omega
theorem seg_congr {c d : Nat → UInt8} {a n : Nat} (h : ∀ i, a ≤ i → i < a + n → c i = d i) : seg c a n = seg d a n := by
  unfold seg
  exact List.map_congr_left fun i hi => h _ (by omega) (by have : i < n := by simpa using hi
                                                           omega)
theorem seg_wrc {c : Nat → UInt8} {a : Nat} {s : List UInt8} : seg (wrc c a s) a s.length = s := by
  apply List.ext_getElem?
  intro i
  rw [seg_get]
  unfold wrc
  split
  · rename_i h
    rw [if_pos (by omega), Nat.add_sub_cancel_left, List.getElem?_eq_getElem h]
    rfl
  · rw [List.getElem?_eq_none (by omega)]

theorem fits_true {N : Nat} {k : Nat} (h : k ≤ N) : fitsE N 0 k = 0 := by
  unfold fitsE
  rw [if_neg (by omega)]

theorem beq_self_list (l : List UInt8) : (l == l) = true := by simp

end Go.Proofs.YtmaecpbkbkncgaaDoor
