/-
  Pages, part 18: the law PagesSizes: its inner loop. Own work.
-/
import Derived.Test.YtdaopbkggmlopaaP17
set_option linter.unusedVariables false
set_option linter.unusedSimpArgs false
namespace Go.Proofs.Ytdaopbkggmlopaa
open Go Go.V Go.RowKit

theorem rIxS {l : List UInt8} {k : Nat} {b : UInt8} {d : LD} {kd : IntKind} {K : Value → Prop} (h : l[k]? = some b) (hK : K (.int .u8 b.toNat)) : vIx .string d (str l) (.int kd k) K := by
  unfold vIx
  refine ⟨by omega, ?_⟩
  simp only [Int.toNat_natCast, h]
  exact hK

theorem rNe8 {a b : Int} {K : Value → Prop} (k : K (.bool (a != b))) : vBin (.int .u8) .neq (.int .u8 a) (.int .u8 b) K := ⟨rfl, k⟩

theorem law4_inner {w : World} {s1 t : List UInt8} {vb v41 v42 : Value} {left n i : Nat} {K : Value → World → Prop} {ag1 : List Value → List Nat → World → Prop} (hl : left ≤ n) (hn : n ≤ 4096) (hi : i < 1000) (ht : ∀ k, left ≤ k → k < n → t[k]? = some 0)
    (hA : ag1 [str s1, vb, it left, it n, v41, v42, it (i + 1)] [] w) :
    ∀ (ρ : Env), [0, 5, 7, 8, 12, 41, 42, 43].map ρ = [str s1, vb, it left, it n, str t, v41, v42, it i] → F4J6 K ag1 ρ [] w := by
  intro ρ hρ
  simp only [List.map_cons, List.map_nil, List.cons.injEq, and_true] at hρ
  obtain ⟨e0, e5, e7, e8, e12, e41, e42, e43⟩ := hρ
  unfold F4J6
  rw [e0, e5, e7, e8, e12, e41, e42, e43]
  refine ⟨fun vs ds W => ds = [] ∧ W = w ∧ ∃ k : Nat, left ≤ k ∧ k ≤ n ∧ vs = [str s1, vb, it left, it n, str t, it k, v41, v42, it i],
    fun vs _ _ => match vs with | [_, _, _, _, _, .int _ k, _, _, _] => n - k.toNat | _ => 0, ⟨rfl, rfl, left, Nat.le_refl _, hl, rfl⟩, ?_⟩
  rintro ρ ds W ⟨rfl, rfl, k, hk1, hk2, hρ⟩
  have hρ0 := hρ
  simp only [List.map_cons, List.map_nil, List.cons.injEq, and_true] at hρ
  obtain ⟨e0, e5, e7, e8, e12, e14, e41, e42, e43⟩ := hρ
  unfold F4L2
  rw [hρ0, e0, e5, e7, e8, e12, e14, e41, e42, e43]
  refine rLt <| rIf (fun h => ?_) (fun h => ?_)
  · have h : k < n := by simpa using h
    refine rIxS (ht k hk1 h) <| rNe8 <| rIfF <| rAdd (by omega) (by omega) ?_
    have e : (k : Int) + 1 = ((k + 1 : Nat) : Int) := by omega
    rw [e]
    refine ⟨⟨rfl, rfl, k + 1, by omega, by omega, rfl⟩, ?_⟩
    show n - ((k + 1 : Nat) : Int).toNat < n - ((k : Nat) : Int).toNat
    simp
    omega
  · refine rAdd (by omega) (by omega) ?_
    exact hA

end Go.Proofs.Ytdaopbkggmlopaa
