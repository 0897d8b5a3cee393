/-
  Pages, part 23: the document's Write and Resize. Own work.
-/
import Derived.Test.YtmaecpbkbkncgaaDoorP22
set_option linter.unusedVariables false
set_option linter.unusedSimpArgs false
set_option maxRecDepth 100000
namespace Go.Proofs.YtmaecpbkbkncgaaDoor
open Go Go.V Go.RowKit

def cont (l : List UInt8) (i : Nat) : UInt8 := (l[i]?).getD 0

theorem cont_zero (l : List UInt8) : ∀ i, l.length ≤ i → cont l i = 0 := fun i hi => by unfold cont; rw [List.getElem?_eq_none hi]; rfl

theorem seg_cont (l : List UInt8) (a k : Nat) (h : a + k ≤ l.length) : seg (cont l) a k = (l.drop a).take k := by
  apply List.ext_getElem?
  intro i
  rw [seg_get, List.getElem?_take]
  split
  · rw [List.getElem?_drop]
    unfold cont
    rw [List.getElem?_eq_getElem (by omega)]; rfl
  · rfl

theorem seg_cont_all (l : List UInt8) : seg (cont l) 0 l.length = l := by
  rw [seg_cont l 0 l.length (by omega)]; simp

def wrl (l : List UInt8) (a : Nat) (s : List UInt8) : List UInt8 := l.take a ++ s ++ l.drop (a + s.length)
def rsl (l : List UInt8) (m : Nat) : List UInt8 := l.take m ++ List.replicate (m - l.length) 0

theorem wrl_len {l s : List UInt8} {a : Nat} (h : a + s.length ≤ l.length) : (wrl l a s).length = l.length := by simp [wrl]; omega
theorem rsl_len (l : List UInt8) (m : Nat) : (rsl l m).length = m := by simp [rsl]; omega

theorem wrl_get {l s : List UInt8} {a : Nat} (h : a + s.length ≤ l.length) (i : Nat) : (wrl l a s)[i]? = if a ≤ i ∧ i < a + s.length then s[i - a]? else l[i]? := by
  unfold wrl
  rw [List.append_assoc]
  have ht : (l.take a).length = a := by simp; omega
  by_cases h1 : i < a
  · rw [List.getElem?_append_left (by omega), List.getElem?_take, if_pos h1, if_neg (by omega)]
  · rw [List.getElem?_append_right (by omega), ht]
    by_cases h2 : i < a + s.length
    · rw [List.getElem?_append_left (by omega), if_pos (by omega)]
    · rw [List.getElem?_append_right (by omega), if_neg (by omega), List.getElem?_drop]
      congr 1; omega

theorem rsl_get (l : List UInt8) (m i : Nat) : (rsl l m)[i]? = if i < m then some (cont l i) else none := by
  unfold rsl cont
  have ht : (l.take m).length = min m l.length := by simp
  by_cases h1 : i < min m l.length
  · rw [List.getElem?_append_left (by omega), List.getElem?_take, if_pos (by omega), if_pos (by omega), List.getElem?_eq_getElem (by omega)]; rfl
  · rw [List.getElem?_append_right (by omega), ht, List.getElem?_replicate]
    by_cases h2 : i < m
    · rw [if_pos (by omega), if_pos h2, List.getElem?_eq_none (by omega)]; rfl
    · rw [if_neg (by omega), if_neg h2]

theorem cont_wrl {l s : List UInt8} {a : Nat} (h : a + s.length ≤ l.length) : wrc (cont l) a s = cont (wrl l a s) := by
  funext i
  unfold wrc cont
  rw [wrl_get h]
  by_cases h1 : a ≤ i
  · by_cases h2 : i < a + s.length
    · rw [if_pos h1, if_pos ⟨h1, h2⟩, List.getElem?_eq_getElem (by omega)]; rfl
    · rw [if_pos h1, if_neg (by omega), List.getElem?_eq_none (l := s) (by omega)]; rfl
  · rw [if_neg h1, if_neg (by omega)]

theorem cont_rsl (l : List UInt8) (m : Nat) : (fun i => if i < m then cont l i else 0) = cont (rsl l m) := by
  funext i
  conv => rhs; unfold cont
  rw [rsl_get]
  split <;> rfl

theorem wrl_set {l s : List UInt8} {a i : Nat} {x : UInt8} (h : a + s.length ≤ l.length) (hx : s[i]? = some x) : (wrl l a (s.take i)).set (a + i) x = wrl l a (s.take (i + 1)) := by
  have hi := (List.getElem?_eq_some_iff.1 hx).1
  have l1 : (s.take i).length = i := by simp; omega
  have l2 : (s.take (i + 1)).length = i + 1 := by simp; omega
  apply List.ext_getElem?
  intro j
  rw [List.getElem?_set, wrl_get (by omega), wrl_get (by omega), wrl_len (by omega), l1, l2]
  by_cases h1 : a + i = j
  · subst h1
    rw [if_pos rfl, if_pos (by omega), if_pos (by omega), List.getElem?_take, if_pos (by omega), Nat.add_sub_cancel_left, hx]
  · rw [if_neg h1]
    by_cases h2 : a ≤ j ∧ j < a + i
    · rw [if_pos h2, if_pos (by omega), List.getElem?_take, List.getElem?_take, if_pos (by omega), if_pos (by omega)]
    · rw [if_neg h2, if_neg (by omega)]

theorem wrl_nil {l : List UInt8} {a : Nat} : wrl l a [] = l := by simp [wrl]

theorem rsl_set {l : List UInt8} {n i : Nat} {x : UInt8} (hx : l[i]? = some x) (hn : i < n) : (rsl (l.take i) n).set i x = rsl (l.take (i + 1)) n := by
  have hi := (List.getElem?_eq_some_iff.1 hx).1
  apply List.ext_getElem?
  intro j
  rw [List.getElem?_set, rsl_get, rsl_get, rsl_len]
  unfold cont
  rw [List.getElem?_take, List.getElem?_take]
  by_cases h1 : i = j
  · subst h1
    rw [if_pos rfl, if_pos hn, if_pos hn, if_pos (by omega), hx]; rfl
  · rw [if_neg h1]
    by_cases h2 : j < i
    · rw [if_pos h2, if_pos (by omega : j < i + 1)]
    · rw [if_neg h2, if_neg (by omega : ¬ j < i + 1)]

theorem rsl_take (l : List UInt8) (n : Nat) : rsl (l.take (min n l.length)) n = rsl l n := by
  apply List.ext_getElem?
  intro j
  rw [rsl_get, rsl_get]
  unfold cont
  rw [List.getElem?_take]
  by_cases h : j < n
  · rw [if_pos h, if_pos h]
    by_cases h2 : j < l.length
    · rw [if_pos (by omega)]
    · rw [if_neg (by omega), List.getElem?_eq_none (by omega)]
  · rw [if_neg h, if_neg h]

theorem b62 : Tryd.prog.underlying 42 = some (.slice 5) := t38

theorem bts_rep (n : Nat) : repZ [Value.int .u8 0] n = bts (List.replicate n 0) := by
  unfold repZ bts
  induction n with
  | zero => rfl
  | succ n ih => simp [List.replicate_succ] at ih ⊢

theorem mk38 {w : World} {n : Nat} {kd1 kd2 : IntKind} {K : Value → World → Prop} (hn : n ≤ 4194304) (hK : ∀ w' v, Bs w' v (List.replicate n 0) (some w.heap.size) → Fr (fun _ => False) w w' → w'.heap.size = w.heap.size + 1 → K v w') :
    vMakeSlice Tryd.prog 42 (.int kd1 n) (.int kd2 n) w K := by
  obtain ⟨i, hi1, hi2, hi3⟩ := i5
  unfold vMakeSlice
  simp only [t38, z5, hi1, hi3]
  refine ⟨by omega, by omega, by omega, by omega, hi2.symm, ?_⟩
  rw [Int.toNat_natCast, bts_rep]
  refine hK _ _ ⟨[], ?_, ?_⟩ ((Fr.refl _ w).alloc _) (by simp)
  · simp [bts]
  · rw [List.append_nil]
    exact Cs.new _ _ 5

end Go.Proofs.YtmaecpbkbkncgaaDoor
