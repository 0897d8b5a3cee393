/-
  Pages, part 16: the law PagesWrites: it returns true. Own work.
-/
import Derived.Test.YtdaopbkggmlopaaP15
set_option linter.unusedVariables false
set_option linter.unusedSimpArgs false
namespace Go.Proofs.Ytdaopbkggmlopaa
open Go Go.V Go.RowKit

theorem rMod {n : Int} {K : Value → Prop} (hK : ∀ N : Nat, N ≤ 4096 → K (it N)) :
    vConv (.int .u64) (it n) fun v17 => vBin (.int .u64) .rem v17 (.int .u64 4097) fun v18 => vConv (.int .i64) v18 K := by
  show vBin (.int .u64) .rem (.int .u64 (IntKind.u64.wrap n)) (.int .u64 4097) (fun v18 => vConv (.int .i64) v18 K)
  refine ⟨rfl, by decide, ?_⟩
  have h0 : 0 ≤ IntKind.u64.wrap n := by
    simp only [IntKind.wrap, IntKind.signed, IntKind.bits, Bool.false_and]
    have : (0 : Int) ≤ n % 2 ^ 64 := Int.emod_nonneg _ (by decide)
    simpa using this
  have h1 : (IntKind.u64.wrap n).tmod 4097 = ((IntKind.u64.wrap n).toNat % 4097 : Nat) := by
    rw [Int.tmod_eq_emod_of_nonneg h0]
    omega
  show K (.int .i64 (IntKind.i64.wrap ((IntKind.u64.wrap n).tmod 4097)))
  rw [h1, wrap_id (by omega) (by omega)]
  exact hK _ (by omega)

theorem seg_take {c : Nat → UInt8} {a n k : Nat} (h : k ≤ n) : (seg c a n).take k = seg c a k := by
  have : n = k + (n - k) := by omega
  rw [this, seg_app, List.take_left' (seg_len _ _ _)]
theorem seg_drop {c : Nat → UInt8} {a n k : Nat} (h : k ≤ n) : (seg c a n).drop k = seg c (a + k) (n - k) := by
  have : n = k + (n - k) := by omega
  rw [this, seg_app, List.drop_left' (seg_len _ _ _)]
  congr 1
  omega
theorem seg_congr {c d : Nat → UInt8} {a n : Nat} (h : ∀ i, a ≤ i → i < a + n → c i = d i) : seg c a n = seg d a n := by
  unfold seg
  exact List.map_congr_left fun i hi => h _ (by omega) (by have : i < n := by simpa using hi
                                                           omega)
theorem seg_wrc {c : Nat → UInt8} {a : Nat} {s : List UInt8} : seg (wrc c a s) a s.length = s := by
  apply List.ext_getElem?
  intro i
  rw [seg_get]
  unfold wrc
  split
  · rename_i h
    rw [if_pos (by omega), Nat.add_sub_cancel_left, List.getElem?_eq_getElem h]
    rfl
  · rw [List.getElem?_eq_none (by omega)]

theorem fits_true {N : Nat} {k : Nat} (h : k ≤ N) : fitsE N 0 k = 0 := by
  unfold fitsE
  rw [if_neg (by omega)]

theorem beq_self_list (l : List UInt8) : (l == l) = true := by simp

def J3at (w : World) (N : Nat) (a : Int) (s old now : List UInt8) (vs : List Value) (ds : List Nat) (W : World) : Prop :=
  vs = [it a, str s, str old, it (fitsE N a s.length), str now] ∧ ds = [] ∧ Fr (fun _ => False) w W ∧ fitsE N a s.length = 0

theorem law3_end {w : World} {N : Nat} {a : Int} {c : Nat → UInt8} {s : List UInt8} {K : Value → World → Prop} (ha2 : a < 9223372036854775808) (hN : N ≤ 4096) (hK : ∀ w', Fr (fun _ => False) w w' → K (.bool true) w') :
    ∀ (ρ : Env) (ds : List Nat) (W : World), J3at w N a s (seg c 0 N) (seg (wrc c a.toNat s) 0 N) ([1, 3, 11, 12, 13].map ρ) ds W → F3J3 K ρ ds W := by
  rintro ρ ds W ⟨hρ, rfl, fr, hf⟩
  simp only [List.map_cons, List.map_nil, List.cons.injEq, and_true] at hρ
  obtain ⟨e1, e3, e11, e12, e13⟩ := hρ
  obtain ⟨h0, h1⟩ := fitsE_zero hf
  obtain ⟨A, rfl⟩ := Int.eq_ofNat_of_zero_le h0
  have h1 : A + s.length ≤ N := by simpa using h1
  unfold F3J3
  rw [e1, e3, e11, e12, e13, hf]
  refine ⟨fun _ => True, trivial, ?_⟩
  have hA : ((A : Nat) : Int).toNat = A := by simp
  rw [hA]
  have el : ((A : Int) + (s.length : Int)) = ((A + s.length : Nat) : Int) := by omega
  refine rEq <| rIfT <| rSlStrHi (j := A) (by rw [seg_len]; omega) <| rSlStrHi (j := A) (by rw [seg_len]; omega) <| rSEq <| rBool ?_
  have c1 : (seg (wrc c A s) 0 N).take A = (seg c 0 N).take A := by
    rw [seg_take (by omega), seg_take (by omega)]
    exact seg_congr fun i _ hi => by unfold wrc; rw [if_neg (by omega)]
  rw [c1, beq_self_list]
  refine rIfT <| rLenB <| rAdd (by omega) (by omega) ?_
  rw [el]
  refine rSlStr (by omega) (by rw [seg_len]; omega) <| rSEq <| rBool ?_
  have c2 : ((seg (wrc c A s) 0 N).drop A).take (A + s.length - A) = s := by
    rw [seg_drop (by omega), seg_take (by omega), Nat.zero_add, Nat.add_sub_cancel_left, seg_wrc]
  rw [c2, beq_self_list]
  refine rIfT <| rLenB <| rAdd (by omega) (by omega) ?_
  rw [el]
  refine rSlStrLo (by rw [seg_len]; omega) <| rLenB <| rAdd (by omega) (by omega) ?_
  rw [el]
  refine rSlStrLo (by rw [seg_len]; omega) <| rSEq <| rBool ?_
  have c3 : (seg (wrc c A s) 0 N).drop (A + s.length) = (seg c 0 N).drop (A + s.length) := by
    rw [seg_drop h1, seg_drop h1]
    exact seg_congr fun i hi _ => by
      unfold wrc
      rw [if_pos (by omega), List.getElem?_eq_none (by omega)]; rfl
  rw [c3, beq_self_list]
  exact hK W.drew fr.drew

end Go.Proofs.Ytdaopbkggmlopaa
