/-
  Pages, part 21: the law PagesSizes: it returns true. Own work.
-/
import Derived.Test.YtdaopbkggmlopaaP20
set_option linter.unusedVariables false
set_option linter.unusedSimpArgs false
namespace Go.Proofs.Ytdaopbkggmlopaa
open Go Go.V Go.RowKit

theorem law4 {w : World} {s : List UInt8} {v : Value} {xs : List Int} {K : Value → World → Prop} (hx : Ints w v xs) (hK : ∀ w', Fr (fun _ => False) w w' → K (.bool true) w') : Ret Try.prog 4 #[str s, v] w K := by
  apply F4_ok
  unfold F4
  refine lives_spec ?_
  intro w1 f1
  refine rNot <| rIfF <| rLenB <| rMin2 ?_
  have em : (if (4096 : Int) < (s.length : Int) then (4096 : Int) else (s.length : Int)) = ((min 4096 s.length : Nat) : Int) := by split <;> omega
  rw [em]
  refine rSlStrHi (by omega) ?_
  have hlen : (s.take (min 4096 s.length)).length = min 4096 s.length := by simp
  generalize hb1 : s.take (min 4096 s.length) = s1 at hlen
  have hle : s1.length ≤ 4096 := by omega
  refine rLenB ?_
  refine Own.new (w0 := w) (n' := s1.length) f1 (fun h => by omega) ?_
  intro m hm _ w2 g h
  have hm : m = s1.length := by omega
  subst hm
  refine rExt0 <| rExt1 ?_
  refine ⟨fun vs ds W => vs = [str s1, v, pt g.b 0] ∧ ds = [] ∧ Keep w W g.b s1.length s1.length s1, ?_, ?_⟩
  · refine rNe <| rIfF <| bs41_1 ?_
    intro w3 c3 f3 s3
    refine (h.more f3).write (a' := 0) (by omega) (by omega) (parts_one c3) ?_
    intro w4 g4 hg4 h4
    have e := fits_true (Nat.le_refl s1.length)
    rw [if_pos e] at h4
    rw [e]
    have ez : ((0 : Int).toNat) = 0 := rfl
    rw [ez] at h4
    refine rNe <| rBool <| rIfF ?_
    exact ⟨rfl, rfl, ⟨g4, _, hg4, h4, h4.zero, by rw [seg_wrc, List.take_length]⟩, Nat.le_refl _, Nat.le_refl _⟩
  · rintro ρ ds W ⟨hρ, rfl, hk⟩
    simp only [List.map_cons, List.map_nil, List.cons.injEq, and_true] at hρ
    obtain ⟨e0, e1, e5⟩ := hρ
    obtain ⟨a, c, hv⟩ := hx.1
    unfold F4J1
    rw [e0, e1, e5]
    refine rLenB <| rLenB ?_
    have hl : vLen (.slice 1) v = vLen (.slice 1) (.slice a xs.length c) := by rw [hv]
    rw [hl]
    refine rLenS ?_
    exact law4_loop hx hk hK

end Go.Proofs.Ytdaopbkggmlopaa
