/-
  Pages, part 19: the law PagesSizes: behind a Resize. Own work.
-/
import Derived.Test.YtdaopbkggmlopaaP18
set_option linter.unusedVariables false
set_option linter.unusedSimpArgs false
namespace Go.Proofs.Ytdaopbkggmlopaa
open Go Go.V Go.RowKit

/-- what the loop over the sizes keeps -/
structure Keep (w0 W : World) (b : Nat) (n left : Nat) (s1 : List UInt8) : Prop where
  own : ∃ g c, g.b = b ∧ Own w0 W g n c ∧ (∀ k, left ≤ k → c k = 0) ∧ seg c 0 left = s1.take left
  le : left ≤ n
  len : left ≤ s1.length

theorem law4_behind {w0 w : World} {s1 : List UInt8} {b : Nat} {v41 v42 : Value} {left n i : Nat} {K : Value → World → Prop} {ag1 : List Value → List Nat → World → Prop} (hk : Keep w0 w b n left s1) (hi : i < 1000)
    (hA : ∀ W, Keep w0 W b n left s1 → ag1 [str s1, pt b 0, it left, it n, v41, v42, it (i + 1)] [] W) :
    ∀ (ρ : Env), [0, 5, 7, 8, 41, 42, 43].map ρ = [str s1, pt b 0, it left, it n, v41, v42, it i] → F4J5 K ag1 ρ [] w := by
  intro ρ hρ
  simp only [List.map_cons, List.map_nil, List.cons.injEq, and_true] at hρ
  obtain ⟨e0, e5, e7, e8, e41, e42, e43⟩ := hρ
  obtain ⟨⟨g, c, rfl, h, hz, hs⟩, hl, hlen⟩ := hk
  unfold F4J5
  rw [e0, e5, e7, e8, e41, e42, e43]
  refine h.read (a' := 0) (k' := n) (by omega) (by have := h.le; omega) ?_
  intro w4 h4 f4
  have e := fits_true (Nat.le_refl n)
  rw [if_pos e, e]
  have ez : ((0 : Int).toNat) = 0 := rfl
  have en : ((n : Int).toNat) = n := by simp
  rw [ez, en]
  refine rExt0 <| rExt1 ?_
  refine ⟨fun vs ds W => vs = [str s1, pt g.b 0, it left, it n, str (seg c 0 n), v41, v42, it i] ∧ ds = [] ∧ Keep w0 W g.b n left s1, ?_, ?_⟩
  · refine ⟨fun _ => True, trivial, ?_⟩
    refine rNe <| rIfF <| rLenB ?_
    rw [seg_len]
    refine rNe ?_
    have d : (((n : Nat) : Int) != (n : Int)) = false := by simp
    rw [d]
    refine rBool <| rIfF <| rSlStrHi (by rw [seg_len]; exact hl) <| rSlStrHi hlen <| rSNe ?_
    have et : (seg c 0 n).take left = s1.take left := by rw [seg_take hl, hs]
    rw [et, beq_self_list]
    refine rBool <| rIfF ⟨?_, trivial⟩
    have h5 := h4.more (Fr.refl _ w4).drew
    refine h5.lenC ⟨trivial, rNe ?_⟩
    rw [d]
    refine rBool <| rIfF ?_
    exact ⟨rfl, rfl, ⟨g, c, rfl, h5, hz, hs⟩, hl, hlen⟩
  · rintro ρ ds W ⟨hρ, rfl, hkW⟩
    exact law4_inner hl h.le hi (fun k hk1 hk2 => by rw [seg_get, if_pos hk2, Nat.zero_add, hz k hk1]) (hA W hkW) ρ hρ

end Go.Proofs.Ytdaopbkggmlopaa
