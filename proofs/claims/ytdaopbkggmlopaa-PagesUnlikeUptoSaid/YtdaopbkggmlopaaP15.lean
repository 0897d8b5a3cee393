/-
  Pages, part 15: lives. Own work.
-/
import Derived.Test.YtdaopbkggmlopaaP14
set_option linter.unusedVariables false
set_option linter.unusedSimpArgs false
namespace Go.Proofs.Ytdaopbkggmlopaa
open Go Go.V Go.RowKit

theorem rExt0 {a b : Value} {K : Value → Prop} (k : K a) : vExt (.tuple #[a, b]) 0 K := k
theorem rExt1 {a b : Value} {K : Value → Prop} (k : K b) : vExt (.tuple #[a, b]) 1 K := k
theorem rSEq {l m : List UInt8} {K : Value → Prop} (k : K (.bool (l == m))) : vBin .string .eql (str l) (str m) K := k
theorem rSNe {l m : List UInt8} {K : Value → Prop} (k : K (.bool (!(l == m)))) : vBin .string .neq (str l) (str m) K := k

theorem lives_spec {w : World} {K : Value → World → Prop} (hK : ∀ w', Fr (fun _ => False) w w' → K (.bool true) w') : CallK Try.prog 8 #[] w K := by
  apply Ret.call
  apply F8_ok
  unfold F8
  refine Own.new (w0 := w) (n' := 3) (Fr.refl _ w) (fun h => by omega) ?_
  intro m hm _ w1 g h
  have hm : m = 3 := by omega
  subst hm
  refine rExt0 <| rExt1 ?_
  refine ⟨fun vs ds W => vs = [pt g.b 0] ∧ ds = [] ∧ ∃ g1, g1.b = g.b ∧ Own w W g1 3 (wrc (fun _ => 0) 1 [97, 98]), ?_, ?_⟩
  · refine rNe <| rIfF <| rPNil' <| rBool <| rIfF <| bs41_2 (s := [97]) (t := [98]) ?_
    intro w2 c2 f2 s2
    have hp : Parts w2 (sv w1.heap.size 2 2) [97, 98] := parts_row (xs := [[97], [98]]) (o := 0) (c := 2) c2 (fun j x hj => by
      match j, hj with
      | 0, hj => simp at hj; subst hj; rfl
      | 1, hj => simp at hj; subst hj; rfl
      | j + 2, hj => simp at hj) (by simp) (by simp) (by simp)
    refine (h.more f2).write (a' := 1) (by omega) (by omega) hp ?_
    intro w3 g3 hb3 h3
    have e : fitsE 3 1 (([97, 98] : List UInt8).length : Int) = 0 := by decide
    rw [if_pos e] at h3
    rw [e]
    refine rNe <| rBool <| rIfF ?_
    exact ⟨rfl, rfl, g3, hb3, h3⟩
  · rintro ρ ds w2 ⟨hρ, rfl, g1, hb1, h1⟩
    simp only [List.map_cons, List.map_nil, List.cons.injEq, and_true] at hρ
    unfold F8J1
    rw [hρ, ← hb1]
    refine h1.read (a' := 1) (k' := 2) (by omega) (by omega) ?_
    intro w3 h3 f3
    have e : fitsE 3 1 2 = 0 := by decide
    rw [if_pos e, e]
    have es : seg (wrc (fun _ => 0) 1 [97, 98]) (1 : Int).toNat (2 : Int).toNat = [97, 98] := by decide
    rw [es]
    refine rExt0 <| rExt1 ?_
    refine ⟨fun vs ds W => vs = [pt g1.b 0] ∧ ds = [] ∧ ∃ g2, g2.b = g1.b ∧ Own w W g2 4 (wrc (fun _ => 0) 1 [97]), ?_, ?_⟩
    · refine rNe <| rIfF <| rSNe <| rBool <| rIfF ?_
      refine h3.resize (n' := 2) (fun h => by omega) ?_
      intro m hm _ w4 g4 hb4 h4
      have hm : m = 2 := by omega
      subst hm
      refine rNe <| rBool <| rIfF ?_
      rw [← hb4]
      refine h4.resize (n' := 4) (fun h => by omega) ?_
      intro m hm _ w5 g5 hb5 h5
      have hm : m = 4 := by omega
      subst hm
      refine rNe <| rBool <| rIfF ?_
      have ec : (fun i => if i < 4 then (fun i => if i < 2 then wrc (fun _ => 0) 1 [97, 98] i else 0) i else 0) = wrc (fun _ => 0) 1 [97] := by
        funext i
        match i with
        | 0 => rfl
        | 1 => rfl
        | 2 => rfl
        | 3 => rfl
        | i + 4 => unfold wrc; simp
      rw [ec] at h5
      exact ⟨rfl, rfl, g5, hb5, h5⟩
    · rintro ρ ds w4 ⟨hρ, rfl, g2, hb2, h2⟩
      simp only [List.map_cons, List.map_nil, List.cons.injEq, and_true] at hρ
      unfold F8J2
      rw [hρ, ← hb2]
      refine h2.read (a' := 0) (k' := 4) (by omega) (by omega) ?_
      intro w5 h5 f5
      have e : fitsE 4 0 4 = 0 := by decide
      rw [if_pos e, e]
      have es : seg (wrc (fun _ => 0) 1 [97]) (0 : Int).toNat (4 : Int).toNat = [0, 97, 0, 0] := by decide
      rw [es]
      refine rExt0 <| rExt1 <| rEq <| rIfT <| rSEq <| rBool <| rIfT ?_
      refine h5.pages ?_
      refine rEq <| rBool ?_
      exact hK w5 h5.fr

end Go.Proofs.Ytdaopbkggmlopaa
