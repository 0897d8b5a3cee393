/-
  Pages, part 8: Resize: its loop. Own work.
-/
import Derived.Test.YtmaecpbkbkncgaaDoorP7
set_option linter.unusedVariables false
set_option linter.unusedSimpArgs false
set_option maxRecDepth 100000
namespace Go.Proofs.YtmaecpbkbkncgaaDoor
open Go Go.V Go.RowKit

theorem b85 : (fun (K : Value → Prop) => vBuild Tryd.prog 98 [] K) = fun K => K (.agg (pgc (fun _ => 0) 0).toArray) := by kernel_rfl

theorem zero_spec {w : World} {K : Value → World → Prop} (hK : ∀ w', Cs w' w.heap.size (pgc (fun _ => 0) 0) → Fr (fun _ => False) w w' → w'.heap.size = w.heap.size + 1 → K (pt w.heap.size 0) w') : Ret Tryd.prog 39 #[] w K := by
  apply F39_ok
  unfold F39
  have := congrFun b85 (fun v1 => vBox 98 v1 w fun v2 w => K v2 w)
  simp only at this
  rw [this]
  exact hK _ (Cs.new w _ 98) ((Fr.refl _ w).alloc _) (by simp)

theorem bs57 (v : Value) (hv : v.cells = #[v]) {w : World} {K : Value → World → Prop} (hK : ∀ w', Cs w' w.heap.size [v] → Fr (fun _ => False) w w' → w'.heap.size = w.heap.size + 1 → K (sv w.heap.size 1 1) w') :
    vBuildSlice Tryd.prog 58 1 [(0, v)] w K := by
  have ht : Tryd.prog.underlying 58 = some (.slice 69) := by kernel_rfl
  have hz : zc Tryd.prog 69 = some #[.pointer none] := by kernel_rfl
  have hi : (Tryd.prog.info? 69).map (·.size) = some 1 := by kernel_rfl
  obtain ⟨i, hi1, hi2⟩ := Option.map_eq_some_iff.1 hi
  unfold vBuildSlice
  simp only [ht, hz, hi1, hi2]
  refine ⟨by decide, by decide, ?_⟩
  simp only [fillV, slPlace, Nat.blt, Nat.ble, cond_true]
  refine ⟨by rw [hv]; rfl, ?_⟩
  simp only [hv, spl, repZ]
  exact hK _ (Cs.new _ [v] 69) ((Fr.refl _ w).alloc _) (by simp)

theorem bs58 {w : World} {K : Value → World → Prop} (hK : ∀ w', Cs w' w.heap.size [.bool true] → Fr (fun _ => False) w w' → w'.heap.size = w.heap.size + 1 → K (sv w.heap.size 1 1) w') :
    vBuildSlice Tryd.prog 59 1 [(0, .bool true)] w K := by
  have ht : Tryd.prog.underlying 59 = some (.slice 4) := by kernel_rfl
  have hz : zc Tryd.prog 4 = some #[.bool false] := by kernel_rfl
  have hi : (Tryd.prog.info? 4).map (·.size) = some 1 := by kernel_rfl
  obtain ⟨i, hi1, hi2⟩ := Option.map_eq_some_iff.1 hi
  unfold vBuildSlice
  simp only [ht, hz, hi1, hi2]
  refine ⟨by decide, by decide, ?_⟩
  simp only [fillV, slPlace, Nat.blt, Nat.ble, cond_true]
  refine ⟨by rfl, ?_⟩
  exact hK _ (Cs.new _ [.bool true] 4) ((Fr.refl _ w).alloc _) (by simp)

/-- append one page's pointer -/
theorem app57 {w : World} {v : Value} {xs : List Value} {bl : Option Nat} {l : Nat} {y : Value} {K : Value → World → Prop} (h : Row w v xs bl) (hl : Cs w l [y]) (hy : y.oneCell' = true) (hn : xs.length < 1000000)
    (hK : ∀ w' v' bl', Row w' v' (xs ++ [y]) bl' → Fr (fun k => bl = some k) w w' → (∀ k, bl' = some k → bl = some k ∨ w.heap.size ≤ k) → K v' w') : vAppend Tryd.prog 58 58 v (sv l 1 1) w K := by
  obtain ⟨T, rest, h⟩ := h.rowT
  have ht : Tryd.prog.underlying 58 = some (.slice 69) := by kernel_rfl
  have hz : zc Tryd.prog 69 = some #[.pointer none] := by kernel_rfl
  have hi : (Tryd.prog.info? 69).map (fun i => (i.size, i.bytes)) = some (1, 8) := by kernel_rfl
  obtain ⟨i, hi1, hi2⟩ := Option.map_eq_some_iff.1 hi
  simp only [Prod.mk.injEq] at hi2
  refine rApp ht hi1 hz hi2.1 (by kernel_rfl) h (src_slice (off := 0) (len := 1) hl (by simp)) (by simpa using hy) (by rw [hi2.2]; simp; omega) (by simp; omega) ?_
  intro w' v' rest' bl' T' h1 _ h2 h3 _ _
  exact hK w' v' bl' h1.row h2 h3

theorem app58 {w : World} {v : Value} {xs : List Value} {bl : Option Nat} {l : Nat} {y : Value} {K : Value → World → Prop} (h : Row w v xs bl) (hl : Cs w l [y]) (hy : y.oneCell' = true) (hn : xs.length < 1000000)
    (hK : ∀ w' v' bl', Row w' v' (xs ++ [y]) bl' → Fr (fun k => bl = some k) w w' → (∀ k, bl' = some k → bl = some k ∨ w.heap.size ≤ k) → K v' w') : vAppend Tryd.prog 59 59 v (sv l 1 1) w K := by
  obtain ⟨T, rest, h⟩ := h.rowT
  have ht : Tryd.prog.underlying 59 = some (.slice 4) := by kernel_rfl
  have hz : zc Tryd.prog 4 = some #[.bool false] := by kernel_rfl
  have hi : (Tryd.prog.info? 4).map (fun i => (i.size, i.bytes)) = some (1, 1) := by kernel_rfl
  obtain ⟨i, hi1, hi2⟩ := Option.map_eq_some_iff.1 hi
  simp only [Prod.mk.injEq] at hi2
  refine rApp ht hi1 hz hi2.1 (by kernel_rfl) h (src_slice (off := 0) (len := 1) hl (by simp)) (by simpa using hy) (by rw [hi2.2]; simp; omega) (by simp; omega) ?_
  intro w' v' rest' bl' T' h1 _ h2 h3 _ _
  exact hK w' v' bl' h1.row h2 h3

theorem Row.val {w : World} {v : Value} {xs : List Value} {bl : Option Nat} (h : Row w v xs bl) : v.oneCell' = true ∧ (∀ c, v ≠ .agg c) ∧ ∃ a c, v = .slice a xs.length c := by
  cases bl with
  | none => obtain ⟨rfl, rfl⟩ := h; exact ⟨rfl, by simp, _, _, rfl⟩
  | some l => obtain ⟨r, rfl, _⟩ := h; exact ⟨rfl, by simp, _, _, rfl⟩

/-- a page more -/
theorem By.grow {w w' : World} {g : Gh} {n q : Nat} {c : Nat → UInt8} {lv ov : Value} {lb ob : Option Nat} (h : By w g n c) {V : World}
    (frV : Fr (fun k => g.lb = some k ∨ g.ob = some k) w V) (hq : w.heap.size ≤ q) (hqc : Cs V q (pgc (fun _ => 0) 0)) (hc : ∀ i, 64 * g.ps.length ≤ i → i < 64 * g.ps.length + 64 → c i = 0)
    (hl : Row V lv ((g.ps ++ [q]).map (pt · 0)) lb) (ho : Row V ov ((g.ow ++ [true]).map .bool) ob)
    (hlb : ∀ k, lb = some k → g.lb = some k ∨ w.heap.size ≤ k) (hob : ∀ k, ob = some k → g.ob = some k ∨ w.heap.size ≤ k) (hlq : lb ≠ some q) (hoq : ob ≠ some q) (hlo : ∀ k, lb = some k → ob ≠ some k)
    (hu : Up V g.b [it n, lv, ov] w') : ∃ g', By w' g' n c ∧ Evo w g w' g' ∧ g'.ps.length = g.ps.length + 1 := by
  have hlt := h.lt
  obtain ⟨⟨lv0, ov0, h1, h2, h3⟩, h4, h5, h6, h7, h8, h9⟩ := h
  have hbw : g.b < w.heap.size := h1.lt
  have hps : ∀ k ∈ g.ps, k < w.heap.size := fun k hk => hlt k (.inr hk)
  have hnlb : ∀ k, lb = some k → k ≠ g.b ∧ k ∉ g.ps := fun k hk => by
    rcases hlb k hk with e | e
    · exact ⟨(h6 k e).1, (h6 k e).2.2⟩
    · exact ⟨by omega, fun hm => by have := hps k hm; omega⟩
  have hnob : ∀ k, ob = some k → k ≠ g.b ∧ k ∉ g.ps := fun k hk => by
    rcases hob k hk with e | e
    · exact ⟨(h7 k e).1, (h7 k e).2⟩
    · exact ⟨by omega, fun hm => by have := hps k hm; omega⟩
  have fr' : Fr (fun k => g.lb = some k ∨ g.ob = some k ∨ k = g.b) w w' := (frV.mono (fun _ _ h => h.imp id .inl)).trans hu.fr (fun _ _ e => .inr (.inr e))
  refine ⟨⟨g.b, g.ps ++ [q], g.ow ++ [true], lb, ob⟩, ⟨⟨lv, ov, hu.cs, hl.fr hu.fr (fun k hk => (hnlb k hk).1), ho.fr hu.fr (fun k hk => (hnob k hk).1)⟩, ?_, by simp [h5], ?_, ?_, ?_, ?_⟩, ⟨?_, rfl, ?_, ?_⟩, by simp⟩
  · intro i r hr
    simp only [List.getElem?_append] at hr
    split at hr
    · have hm : r ∈ g.ps := List.mem_of_getElem? hr
      exact (h4 i r hr).fr fr' (by rintro (e | e | e); exact (h6 _ e).2.2 hm; exact (h7 _ e).2 hm; exact h8 (e ▸ hm))
    · rename_i hi
      have hi2 : i = g.ps.length := by
        have := (List.getElem?_eq_some_iff.1 hr).1
        simp at this; omega
      subst hi2
      simp at hr
      subst hr
      have e : pgc c g.ps.length = pgc (fun _ => 0) 0 := by
        unfold pgc
        refine List.map_congr_left fun j hj => ?_
        have hj : j < 64 := by simpa using hj
        rw [hc _ (by omega) (by omega)]
      rw [e]
      exact hqc.up hu (by omega)
  · intro k hk
    refine ⟨(hnlb k hk).1, hlo k hk, ?_⟩
    simp only [List.mem_append, List.mem_singleton]
    rintro (hm | rfl)
    · exact (hnlb k hk).2 hm
    · exact hlq hk
  · intro k hk
    refine ⟨(hnob k hk).1, ?_⟩
    simp only [List.mem_append, List.mem_singleton]
    rintro (hm | rfl)
    · exact (hnob k hk).2 hm
    · exact hoq hk
  · simp only [List.mem_append, List.mem_singleton]
    rintro (hm | e)
    · exact h8 hm
    · omega
  · intro i j r hi hi2 hj2
    simp only [List.getElem?_append] at hi hi2 hj2
    have ni : ∀ i (r : Nat), ¬ i < g.ps.length → ([q] : List Nat)[i - g.ps.length]? = some r → i = g.ps.length ∧ r = q := fun i r hn hr => by
      have := (List.getElem?_eq_some_iff.1 hr).1
      simp at this
      have e : i = g.ps.length := by omega
      subst e
      simp at hr
      exact ⟨rfl, hr.symm⟩
    split at hi2
    · rename_i hil
      rw [if_pos (by omega)] at hi
      split at hj2
      · exact h9 i j r hi hi2 hj2
      · rename_i hjl
        obtain ⟨_, rfl⟩ := ni j r hjl hj2
        have := hps r (List.mem_of_getElem? hi2); omega
    · rename_i hil
      obtain ⟨e1, e2⟩ := ni i r hil hi2
      split at hj2
      · have := hps r (List.mem_of_getElem? hj2); omega
      · rename_i hjl
        rw [(ni j r hjl hj2).1, e1]
  · exact fr'.mono (fun x _ e => by
      rcases e with e | e | e
      · exact .inr (.inl e)
      · exact .inr (.inr (.inl e))
      · exact .inl e)
  · rintro k (hk | hk | hk | ⟨i, hi, hi2⟩)
    · exact .inl (.inl hk)
    · exact (hlb k hk).imp (fun e => .inr (.inl e)) id
    · exact (hob k hk).imp (fun e => .inr (.inr (.inl e))) id
    · simp only [List.getElem?_append] at hi hi2
      split at hi2
      · rw [if_pos (by omega)] at hi
        exact .inl (.inr (.inr (.inr ⟨i, hi, hi2⟩)))
      · have := List.mem_of_getElem? hi2
        simp at this
        exact .inr (by omega)
  · intro k hk
    simp only [List.mem_append, List.mem_singleton] at hk
    rcases hk with hk | hk
    · exact .inl (.inr hk)
    · exact .inr (by omega)

end Go.Proofs.YtmaecpbkbkncgaaDoor
