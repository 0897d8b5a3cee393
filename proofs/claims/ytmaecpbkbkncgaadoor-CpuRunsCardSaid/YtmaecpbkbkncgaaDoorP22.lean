/-
  Pages, part 22: the document's answers: rows of bytes. Own work.
-/
import Derived.Test.YtmaecpbkbkncgaaDoorP18
set_option linter.unusedVariables false
set_option linter.unusedSimpArgs false
set_option maxRecDepth 100000
namespace Go.Proofs.YtmaecpbkbkncgaaDoor
open Go Go.V Go.RowKit

/-- a slice of bytes that reads l; its block, if it has one -/
def Bs (w : World) (v : Value) (l : List UInt8) (bl : Option Nat) : Prop := Row w v (bts l) bl

theorem Bs.fr {w w' : World} {v : Value} {l : List UInt8} {bl : Option Nat} {F : Nat → Prop} (h : Bs w v l bl) (hf : Fr F w w') (hF : ∀ k, bl = some k → ¬ F k) : Bs w' v l bl := Row.fr h hf hF
theorem Bs.more {w w' : World} {v : Value} {l : List UInt8} {bl : Option Nat} (h : Bs w v l bl) (hf : Fr (fun _ => False) w w') : Bs w' v l bl := h.fr hf fun _ _ => id
theorem Bs.lt {w : World} {v : Value} {l : List UInt8} {bl : Option Nat} (h : Bs w v l bl) : ∀ k, bl = some k → k < w.heap.size := by
  rintro k rfl
  obtain ⟨r, h1, h2⟩ := h
  exact h2.lt

theorem bts_nil {l : List UInt8} (h : bts l = []) : l = [] := by simpa [bts] using h

theorem Bs.shape {w : World} {v : Value} {l : List UInt8} {bl : Option Nat} (h : Bs w v l bl) : ∃ a c, v = .slice a l.length c := by
  cases bl with
  | none => obtain ⟨h1, h2⟩ := h; have := bts_nil h2
            subst this; exact ⟨_, _, h1⟩
  | some k => obtain ⟨r, h1, h2⟩ := h; rw [bts_len] at h1; exact ⟨_, _, h1⟩

theorem Bs.lenE {w : World} {v : Value} {l : List UInt8} {bl : Option Nat} (h : Bs w v l bl) {K : Value → Prop} (k : K (it l.length)) : vLen (.slice 1) v K := by
  obtain ⟨a, c, rfl⟩ := h.shape
  exact k

theorem Bs.read {w : World} {v : Value} {l : List UInt8} {bl : Option Nat} (h : Bs w v l bl) {i : Nat} {x : UInt8} (hx : l[i]? = some x) {kd : IntKind} {K : Value → Prop} (k : K (.int .u8 x.toNat)) :
    vIA (.slice 1) v (.int kd i) fun p => vLd .one p w K := by
  have hi := (List.getElem?_eq_some_iff.1 hx).1
  cases bl with
  | none => obtain ⟨h1, h2⟩ := h; have := bts_nil h2
            subst this; simp at hi
  | some q =>
    obtain ⟨r, rfl, h2⟩ := h
    refine rIA (by rw [bts_len]; exact hi) ?_
    refine rLd h2 (v := .int .u8 x.toNat) ?_ k
    rw [Nat.mul_one, List.getElem?_append_left (by rw [bts_len]; exact hi)]
    simp [bts, hx]

theorem b2s_at {w : World} {q off n c : Nat} {cs : List Value} {l : List UInt8} (h : Cs w q cs) (hn : l.length = n) (hl : ∀ (j : Nat) (b : UInt8), l[j]? = some b → cs[off + j]? = some (.int .u8 b.toNat)) {K : Value → Prop} (k : K (str l)) :
    vB2S (.slice (some ⟨q, off, none⟩) n c) w K := by
  refine ⟨l, hn, ?_, k⟩
  intro j b hj
  rw [addr_add]
  exact Cs.cell h (hl j b hj)

theorem Bs.toStr {w : World} {v : Value} {l : List UInt8} {bl : Option Nat} (h : Bs w v l bl) {K : Value → Prop} (k : K (str l)) : vB2S v w K := by
  cases bl with
  | none => obtain ⟨rfl, h2⟩ := h; have := bts_nil h2
            subst this; exact k
  | some q =>
    obtain ⟨r, rfl, h2⟩ := h
    refine b2s_at h2 (by rw [bts_len]) (fun j b hj => ?_) k
    rw [Nat.zero_add, List.getElem?_append_left (by rw [bts_len]; exact (List.getElem?_eq_some_iff.1 hj).1)]
    simp [bts, hj]

/-- a piece of it as a string -/
theorem Bs.cut {w : World} {v : Value} {l : List UInt8} {bl : Option Nat} (h : Bs w v l bl) {a k : Nat} {k1 k2 : IntKind} (hak : a + k ≤ l.length) {K : Value → Prop} (kk : K (str ((l.drop a).take k))) :
    vSlice (.slice 1) v (some (.int k1 a)) (some (.int k2 ((a + k : Nat) : Int))) fun u => vB2S u w K := by
  cases bl with
  | none =>
    obtain ⟨rfl, h2⟩ := h; have := bts_nil h2
    subst this
    have : a = 0 := by simp at hak; omega
    subst this
    have : k = 0 := by simp at hak; omega
    subst this
    refine ⟨by omega, by omega, by omega, by omega, ?_⟩
    have kk' : K (str []) := by simpa using kk
    have : vB2S (.slice none 0 0) w K := kk'
    simpa using this
  | some q =>
    obtain ⟨r, rfl, h2⟩ := h
    rw [bts_len]
    refine ⟨by omega, by omega, by omega, by omega, ?_⟩
    simp only [Int.toNat_natCast, Nat.add_sub_cancel_left]
    by_cases hk : k = 0
    · subst hk
      have : ∀ A c, vB2S (.slice (some A) 0 c) w K := fun A c => ⟨[], rfl, by simp, by simpa using kk⟩
      split
      · exact this _ _
      · exact this _ _
    · rw [if_neg (by omega)]
      show vB2S (.slice (some (Addr.add ⟨q, 0, none⟩ (a * 1))) k _) w K
      rw [addr_add]
      refine b2s_at h2 (by simp; omega) (fun j b hj => ?_) kk
      rw [List.getElem?_take] at hj
      split at hj
      · rw [List.getElem?_drop] at hj
        have := (List.getElem?_eq_some_iff.1 hj).1
        rw [List.getElem?_append_left (by rw [bts_len]; omega)]
        simp [bts, hj]
      · cases hj

/-- a byte of it is written -/
theorem Bs.write {w : World} {q : Nat} {v : Value} {l : List UInt8} (h : Bs w v l (some q)) {i : Nat} {x : UInt8} (hi : i < l.length) {kd : IntKind} {K : World → Prop}
    (k : ∀ w', Bs w' v (l.set i x) (some q) → Fr (fun k => k = q) w w' → w'.heap.size = w.heap.size → K w') : vIA (.slice 1) v (.int kd i) fun p => vSt (some 1) p (.int .u8 x.toNat) w K := by
  obtain ⟨r, rfl, h2⟩ := h
  refine rIA (by rw [bts_len]; exact hi) ?_
  refine rSt h2 (by simp [bts_len]; omega) rfl (by simp) ?_
  intro w' u
  refine k w' ⟨r, by simp [bts], ?_⟩ u.fr u.size
  have : bts (l.set i x) ++ r = (bts l ++ r).set (i * 1) (.int .u8 x.toNat) := by
    rw [Nat.mul_one, List.set_append_left _ _ (by rw [bts_len]; exact hi)]
    simp [bts, List.map_set]
  rw [this]
  exact u.cs

/-! ### The document's functions -/

theorem fitsE_cases (n : Nat) (a k : Int) : fitsE n a k = 0 ∨ fitsE n a k = 9 := by unfold fitsE; split <;> simp

theorem fitsE_nat {n : Nat} {a k : Int} (h : fitsE n a k = 0) : ∃ A k' : Nat, a = A ∧ k = k' ∧ A + k' ≤ n := by
  unfold fitsE at h
  split at h
  · cases h
  · exact ⟨a.toNat, k.toNat, by omega, by omega, by omega⟩

theorem bs38_0 {w : World} {K : Value → World → Prop} (hK : ∀ w', Cs w' w.heap.size [] → Fr (fun _ => False) w w' → w'.heap.size = w.heap.size + 1 → K (sv w.heap.size 0 0) w') : vBuildSlice Tryd.prog 42 0 [] w K := by
  obtain ⟨i, hi1, hi2, hi3⟩ := i5
  unfold vBuildSlice
  simp only [t38, z5, hi1, hi2]
  refine ⟨by decide, by decide, ?_⟩
  exact hK _ (Cs.new _ [] 5) ((Fr.refl _ w).alloc _) (by simp)

theorem Bs.src {w : World} {v : Value} {l : List UInt8} {bl : Option Nat} (h : Bs w v l bl) : Src w v (bts l) := by
  cases bl with
  | none => obtain ⟨rfl, h2⟩ := h; rw [h2]; exact src_nil
  | some q =>
    obtain ⟨r, rfl, h2⟩ := h
    have := src_slice (off := 0) (len := (bts l).length) (c := (bts l).length + r.length) h2 (by simp)
    simpa using this

/-- append, of bytes -/
theorem Bs.app {w : World} {s x : Value} {xs ys : List UInt8} {bl : Option Nat} {u : TypeId} {K : Value → World → Prop} (hu : srcK Tryd.prog u = true) (hs : Bs w s xs bl) (hx : Src w x (bts ys)) (hb : xs.length + ys.length ≤ 4194304)
    (hK : ∀ w' v' bl', Bs w' v' (xs ++ ys) bl' → Fr (fun k => bl = some k) w w' → (∀ k, bl' = some k → bl = some k ∨ w.heap.size ≤ k) → (bl ≠ none → bl' ≠ none) → K v' w') : vAppend Tryd.prog 42 u s x w K := by
  obtain ⟨i, hi, his, hib⟩ := i5
  obtain ⟨T, rest, hrow⟩ := Row.rowT hs
  refine rApp t38 hi z5 his hu hrow hx (bts_one ys) (by rw [bts_len, bts_len, hib]; omega) (by rw [bts_len, bts_len]; omega) ?_
  intro w' v' rest' bl' T' h' _ fr hbl _ hne
  refine hK w' v' bl' ?_ fr hbl hne
  have := h'.row
  rw [← bts_app] at this
  exact this

end Go.Proofs.YtmaecpbkbkncgaaDoor
