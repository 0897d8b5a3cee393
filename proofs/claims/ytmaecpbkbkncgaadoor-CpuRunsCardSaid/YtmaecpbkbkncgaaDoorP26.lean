/-
  Pages, part 26: slices whose elements are one cell; Copy. Own work.
-/
import Derived.Test.YtmaecpbkbkncgaaDoorP25
set_option linter.unusedVariables false
set_option linter.unusedSimpArgs false
set_option maxRecDepth 100000
namespace Go.Proofs.YtmaecpbkbkncgaaDoor
open Go Go.V Go.RowKit

/-- t: slices of e, one cell an element -/
structure E1 (t e : TypeId) (z : Value) : Prop where
  ht : Tryd.prog.underlying t = some (.slice e)
  hi : ∃ i, Tryd.prog.info? e = some i ∧ i.size = 1 ∧ i.bytes ≤ 32
  hz : zc Tryd.prog e = some #[z]
  hu : srcK Tryd.prog t = true

theorem infoOf {e n : Nat} (h : (Tryd.prog.info? e).map (fun i => (i.size, Nat.ble i.bytes 32)) = some (n, true)) : ∃ i, Tryd.prog.info? e = some i ∧ i.size = n ∧ i.bytes ≤ 32 := by
  obtain ⟨i, h1, h2⟩ := Option.map_eq_some_iff.1 h
  simp only [Prod.mk.injEq] at h2
  exact ⟨i, h1, h2.1, Nat.le_of_ble_eq_true h2.2⟩

theorem e41 : E1 63 9 (.string ⟨#[]⟩) := ⟨by kernel_rfl, infoOf (by kernel_rfl), by kernel_rfl, by kernel_rfl⟩
section
variable {t e : TypeId} {z : Value} (E : E1 t e z) {w : World} {K : Value → World → Prop}

include E

theorem E1.build0 (hK : ∀ w', Row w' (sv w.heap.size 0 0) [] (some w.heap.size) → Fr (fun _ => False) w w' → w'.heap.size = w.heap.size + 1 → K (sv w.heap.size 0 0) w') : vBuildSlice Tryd.prog t 0 [] w K := by
  obtain ⟨i, hi1, hi2, hi3⟩ := E.hi
  unfold vBuildSlice
  simp only [E.ht, E.hz, hi1, hi2]
  refine ⟨by decide, rfl, ?_⟩
  exact hK _ ⟨[], rfl, Cs.new _ [] e⟩ ((Fr.refl _ w).alloc _) (by simp)

theorem E1.build1 {x : Value} (hx : x.cells = #[x]) (hK : ∀ w', Row w' (sv w.heap.size 1 1) [x] (some w.heap.size) → Fr (fun _ => False) w w' → w'.heap.size = w.heap.size + 1 → K (sv w.heap.size 1 1) w') : vBuildSlice Tryd.prog t 1 [(0, x)] w K := by
  obtain ⟨i, hi1, hi2, hi3⟩ := E.hi
  unfold vBuildSlice
  simp only [E.ht, E.hz, hi1, hi2]
  refine ⟨by decide, rfl, ?_⟩
  simp only [fillV, slPlace, Nat.blt, Nat.ble, cond_true]
  refine ⟨by rw [hx]; rfl, ?_⟩
  simp only [hx, spl, repZ]
  exact hK _ ⟨[], rfl, Cs.new _ [x] e⟩ ((Fr.refl _ w).alloc _) (by simp)

theorem E1.mks {n : Nat} {kd1 kd2 : IntKind} (hn : n ≤ 4194304) (hK : ∀ w', Row w' (sv w.heap.size n n) (List.replicate n z) (some w.heap.size) → Fr (fun _ => False) w w' → w'.heap.size = w.heap.size + 1 → K (sv w.heap.size n n) w') :
    vMakeSlice Tryd.prog t (.int kd1 n) (.int kd2 n) w K := by
  obtain ⟨i, hi1, hi2, hi3⟩ := E.hi
  unfold vMakeSlice
  simp only [E.ht, E.hz, hi1]
  have hb : n * i.bytes ≤ 4194304 * 32 := Nat.mul_le_mul hn hi3
  refine ⟨by omega, by omega, by omega, by rw [← Int.natCast_mul]; omega, hi2.symm, ?_⟩
  rw [Int.toNat_natCast, repZ_one]
  refine hK _ ⟨[], by simp, ?_⟩ ((Fr.refl _ w).alloc _) (by simp)
  rw [List.append_nil]
  exact Cs.new _ _ e

theorem E1.app {s x : Value} {xs ys : List Value} {bl : Option Nat} (hs : Row w s xs bl) (hx : Src w x ys) (hys : ∀ y ∈ ys, y.oneCell' = true) (hb : xs.length + ys.length ≤ 4194304)
    (hK : ∀ w' v' bl', Row w' v' (xs ++ ys) bl' → Fr (fun k => bl = some k) w w' → (∀ k, bl' = some k → bl = some k ∨ w.heap.size ≤ k) → (bl ≠ none → bl' ≠ none) → K v' w') : vAppend Tryd.prog t t s x w K := by
  obtain ⟨i, hi, his, hib⟩ := E.hi
  obtain ⟨T, rest, hrow⟩ := Row.rowT hs
  have hbb : (xs.length + ys.length) * i.bytes ≤ 4194304 * 32 := Nat.mul_le_mul hb hib
  refine rApp E.ht hi E.hz his E.hu hrow hx hys (by omega) (by omega) ?_
  intro w' v' rest' bl' T' h' _ fr hbl _ hne
  exact hK w' v' bl' h'.row fr hbl hne

theorem E1.clear {s : Value} {xs : List Value} {bl : Option Nat} (hz : z.oneCell' = true) (hs : Row w s xs bl) (hK : ∀ w', Row w' s (List.replicate xs.length z) bl → Fr (fun k => bl = some k) w w' → w'.heap.size = w.heap.size → K (.tuple #[]) w') : vClear Tryd.prog t s w K := by
  unfold vClear
  simp only [E.ht, E.hz]
  cases bl with
  | none =>
    obtain ⟨rfl, rfl⟩ := hs
    exact hK w ⟨rfl, rfl⟩ (Fr.refl _ _) rfl
  | some l =>
    obtain ⟨r, rfl, hc⟩ := hs
    refine ⟨fun e0 => ?_, fun _ => ?_⟩
    · have e0 : xs = [] := List.length_eq_zero_iff.1 e0
      subst e0
      exact hK w ⟨r, rfl, hc⟩ (Fr.refl _ _) rfl
    · obtain ⟨T, h⟩ := hc
      unfold stN
      simp only [h]
      refine ⟨trivial, by simp [repZ_one], by simp, ?_, ?_⟩
      · intro x hx
        simp [repZ_one] at hx
        rw [hx.2]; exact hz
      · have u : Up w l (spl (xs ++ r) 0 (repZ [z] xs.length)) (w.putObj l (.cells (spl (xs ++ r) 0 (repZ [z] xs.length)).toArray T (0, 0))) := Up.of_put h
        refine hK _ ⟨r, by simp, ?_⟩ (u.fr.mono fun k _ e => by rw [e]) u.size
        have : spl (xs ++ r) 0 (repZ [z] xs.length) = List.replicate xs.length z ++ r := by simp [spl, repZ_one]
        rw [← this]; exact u.cs

end

theorem rowLt {w : World} {v : Value} {xs : List Value} {q : Nat} (h : Row w v xs (some q)) : q < w.heap.size := let ⟨_, _, h⟩ := h; h.lt

theorem Row.src {w : World} {v : Value} {xs : List Value} {bl : Option Nat} (h : Row w v xs bl) : Src w v xs := by
  cases bl with
  | none => obtain ⟨rfl, rfl⟩ := h; exact src_nil
  | some q =>
    obtain ⟨r, rfl, h2⟩ := h
    have := src_slice (off := 0) (len := xs.length) (c := xs.length + r.length) h2 (by simp)
    simpa using this

theorem rBoxA {e : TypeId} {cs : Array Value} {w : World} {K : Value → World → Prop} (k : ∀ w', Cs w' w.heap.size cs.toList → Fr (fun _ => False) w w' → w'.heap.size = w.heap.size + 1 → K (pt w.heap.size 0) w') : vBox e (.agg cs) w K :=
  k _ (Cs.new' w cs e) ((Fr.refl _ w).alloc _) (by simp)

end Go.Proofs.YtmaecpbkbkncgaaDoor
