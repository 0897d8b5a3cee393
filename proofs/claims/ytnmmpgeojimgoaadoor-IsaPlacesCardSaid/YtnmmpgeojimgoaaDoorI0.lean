/-
  Isa, part 0: the kinds of rows. Own work.
-/
import Derived.Test.YtnmmpgeojimgoaaDoorVi
import Derived.Test.YtnmmpgeojimgoaaDoorFs2
import Derived.Test.YtnmmpgeojimgoaaDoorShelf
set_option linter.unusedVariables false
set_option linter.unusedSimpArgs false
set_option maxRecDepth 100000
namespace Go.Proofs.YtnmmpgeojimgoaaDoor
open Go Go.V Go.RowKit

theorem t38 : Tryd.prog.underlying 54 = some (.slice 5) := by kernel_rfl
theorem k38 : srcK Tryd.prog 54 = true := by kernel_rfl
theorem k9 : srcK Tryd.prog 9 = true := by kernel_rfl
theorem i5 : ∃ i, Tryd.prog.info? 5 = some i ∧ i.size = 1 ∧ i.bytes = 1 := by
  have h : (Tryd.prog.info? 5).map (fun i => (i.size, i.bytes)) = some (1, 1) := by kernel_rfl
  obtain ⟨i, h1, h2⟩ := Option.map_eq_some_iff.1 h
  simp only [Prod.mk.injEq] at h2
  exact ⟨i, h1, h2.1, h2.2⟩
theorem z5 : zc Tryd.prog 5 = some #[.int .u8 0] := by kernel_rfl
theorem eS : E1 Tryd.prog 43 9 (str []) := ⟨by kernel_rfl, infoOf (by kernel_rfl), by kernel_rfl, by kernel_rfl⟩
theorem eB : E1 Tryd.prog 54 5 (.int .u8 0) := ⟨by kernel_rfl, infoOf (by kernel_rfl), by kernel_rfl, by kernel_rfl⟩
theorem eI : E1 Tryd.prog 55 3 (it 0) := ⟨by kernel_rfl, infoOf (by kernel_rfl), by kernel_rfl, by kernel_rfl⟩
theorem eC : EN Tryd.prog 40 23 5 [it 0, it 0, it 0, it 0, it 0] := ⟨by kernel_rfl, infoOf64 (by kernel_rfl), by kernel_rfl, rfl, by kernel_rfl⟩
theorem eLn : EN Tryd.prog 67 72 7 [it 0, it 0, it 0, it 0, it 0, it 0, str []] := ⟨by kernel_rfl, infoOf64 (by kernel_rfl), by kernel_rfl, rfl, by kernel_rfl⟩

theorem Bs.app {w : World} {s x : Value} {xs ys : List UInt8} {bl : Option Nat} {u : TypeId} {K : Value → World → Prop} (hu : srcK Tryd.prog u = true) (hs : Bs w s xs bl) (hx : Src w x (bts ys)) (hb : xs.length + ys.length ≤ 4194304)
    (hK : ∀ w' v' bl', Bs w' v' (xs ++ ys) bl' → Fr (fun k => bl = some k) w w' → (∀ k, bl' = some k → bl = some k ∨ w.heap.size ≤ k) → (bl ≠ none → bl' ≠ none) → K v' w') : vAppend Tryd.prog 54 u s x w K := by
  obtain ⟨i, hi, his, hib⟩ := i5
  obtain ⟨T, rest, hrow⟩ := Row.rowT hs
  refine rApp t38 hi z5 his hu hrow hx (bts_one ys) (by rw [bts_len, bts_len, hib]; omega) (by rw [bts_len, bts_len]; omega) ?_
  intro w' v' rest' bl' T' h' _ fr hbl _ hne
  refine hK w' v' bl' ?_ fr hbl hne
  have := h'.row
  rw [← bts_app] at this
  exact this

theorem mk38 {w : World} {n : Nat} {kd1 kd2 : IntKind} {K : Value → World → Prop} (hn : n ≤ 4194304) (hK : ∀ w' v, Bs w' v (List.replicate n 0) (some w.heap.size) → Fr (fun _ => False) w w' → w'.heap.size = w.heap.size + 1 → K v w') :
    vMakeSlice Tryd.prog 54 (.int kd1 n) (.int kd2 n) w K := by
  obtain ⟨i, hi1, hi2, hi3⟩ := i5
  unfold vMakeSlice
  simp only [t38, z5, hi1, hi3]
  refine ⟨by omega, by omega, by omega, by omega, hi2.symm, ?_⟩
  rw [Int.toNat_natCast, bts_rep]
  refine hK _ _ ⟨[], ?_, ?_⟩ ((Fr.refl _ w).alloc _) (by simp)
  · simp [bts]
  · rw [List.append_nil]
    exact Cs.new _ _ 5

theorem bs38_1 {w : World} {b : UInt8} {K : Value → World → Prop} (hK : ∀ w' v, Bs w' v [b] (some w.heap.size) → Fr (fun _ => False) w w' → w'.heap.size = w.heap.size + 1 → K v w') : vBuildSlice Tryd.prog 54 1 [(0, .int .u8 b.toNat)] w K := by
  obtain ⟨i, hi1, hi2, hi3⟩ := i5
  unfold vBuildSlice
  simp only [t38, z5, hi1, hi2]
  refine ⟨by decide, by decide, ?_⟩
  simp only [fillV, slPlace, Nat.blt, Nat.ble, cond_true]
  refine ⟨rfl, ?_⟩
  exact hK _ _ ⟨[], rfl, Cs.new _ [.int .u8 b.toNat] 5⟩ ((Fr.refl _ w).alloc _) (by simp)


theorem bs42_4 {w : World} {a b c d : UInt8} {K : Value → World → Prop} (hK : ∀ w' v, Bs w' v [a, b, c, d] (some w.heap.size) → Fr (fun _ => False) w w' → w'.heap.size = w.heap.size + 1 → K v w') :
    vBuildSlice Tryd.prog 54 4 [(0, .int .u8 a.toNat), (1, .int .u8 b.toNat), (2, .int .u8 c.toNat), (3, .int .u8 d.toNat)] w K := by
  obtain ⟨i, hi1, hi2, hi3⟩ := i5
  unfold vBuildSlice
  simp only [t38, z5, hi1, hi2]
  refine ⟨by decide, by decide, ?_⟩
  simp only [fillV, slPlace, Nat.blt, Nat.ble, cond_true]
  refine ⟨rfl, rfl, rfl, rfl, ?_⟩
  exact hK _ _ ⟨[], rfl, Cs.new _ [.int .u8 a.toNat, .int .u8 b.toNat, .int .u8 c.toNat, .int .u8 d.toNat] 5⟩ ((Fr.refl _ w).alloc _) (by simp)

theorem zc23 : zc Tryd.prog 23 = some #[it 0, it 0, it 0, it 0, it 0] := by kernel_rfl
theorem zc52 : zc Tryd.prog 52 = some #[str [], it 0, it 0] := by kernel_rfl
theorem zc58 : zc Tryd.prog 58 = some #[it 0, it 0, it 0] := by kernel_rfl
theorem zc72 : zc Tryd.prog 72 = some #[it 0, it 0, it 0, it 0, it 0, it 0, str []] := by kernel_rfl

end Go.Proofs.YtnmmpgeojimgoaaDoor
