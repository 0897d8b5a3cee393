/-
  Pages, part 34: the document's Unlike, whole; what the law PagesUnlike keeps. Own work.
-/
import Derived.Test.YtdaopbkggmlopaaP33
set_option linter.unusedVariables false
set_option linter.unusedSimpArgs false
namespace Go.Proofs.Ytdaopbkggmlopaa
open Go Go.V Go.RowKit

theorem unlike19 {w : World} {v1 v2 : Value} {a b : List UInt8} {b1 b2 : Option Nat} {K : Value → World → Prop} (h1 : Bs w v1 a b1) (h2 : Bs w v2 b b2) (ha : a.length ≤ 4096) (hb : b.length ≤ 4096)
    (hK : ∀ w' v bl, Is w' v ((List.range 64).filter (unR a b)) bl → (∀ k, bl = some k → w.heap.size ≤ k) → Fr (fun _ => False) w w' → K v w') : CallK Try.prog 19 #[v1, v2] w K := by
  apply Ret.call
  apply F19_ok
  unfold F19
  refine e32.build0 ?_
  intro w1 r1 f1 s1
  refine ⟨fun vs ds W => ds = [] ∧ ∃ (p : Nat) (v : Value) (bl : Option Nat), p ≤ 64 ∧ vs = [v1, v2, v, it p] ∧ Is W v ((List.range p).filter (unR a b)) bl ∧ (∀ k, bl = some k → w.heap.size ≤ k) ∧ Fr (fun _ => False) w W,
    fun vs _ _ => match vs with | [_, _, _, .int _ i] => 64 - i.toNat | _ => 0, ⟨rfl, 0, _, _, by omega, rfl, r1, fun k hk => by simp only [Option.some.injEq] at hk; omega, f1⟩, ?_⟩
  rintro ρ ds W ⟨rfl, p, v, bl, hp, hρ, hR, hbl, fr⟩
  have hρ0 := hρ
  simp only [List.map_cons, List.map_nil, List.cons.injEq, and_true] at hρ
  obtain ⟨q0, q1, q5, q6⟩ := hρ
  unfold F19L1
  rw [hρ0, q0, q1, q5, q6]
  refine rLt <| rIf (fun hlt => ?_) (fun hge => ?_)
  · have hlt : p < 64 := by
      have : (p : Int) < 64 := by simpa using hlt
      omega
    refine rMul (a := 64) (by omega) ?_
    have dec : 64 - ((p + 1 : Nat) : Int).toNat < 64 - ((p : Nat) : Int).toNat := by simp; omega
    have same : ∀ W' : World, W'.heap = W.heap → W'.os = W.os → W'.tape = W.tape → W'.output = W.output → Fr (fun _ => False) W W' := fun W' e1 e2 e3 e4 => ⟨e2, e3, e4, by rw [e1]; exact Nat.le_refl _, fun k _ _ => by rw [e1]⟩
    refine inner19 (h1.more fr) (h2.more fr) hlt ha hb (fun v' W' => ∃ bl', Is W' v' ((List.range (p + 1)).filter (unR a b)) bl' ∧ (∀ k, bl' = some k → w.heap.size ≤ k) ∧ Fr (fun _ => False) w W') ?_ ?_ ?_
    · intro hu W' e1 e2 e3 e4 K' hk
      have f := same W' e1 e2 e3 e4
      refine e32.build1 rfl ?_
      intro w5 r5 f5 s5
      have hR5 : Is w5 v ((List.range p).filter (unR a b)) bl := (Row.fr hR f fun _ _ => id).fr f5 fun _ _ => id
      have hlen : ((List.range p).filter (unR a b)).length ≤ p := by
        have := List.length_filter_le (unR a b) (List.range p)
        simpa using this
      refine e32.app hR5 r5.src (by simp; rfl) (by simp; omega) ?_
      intro w6 v6 bl6 r6 f6 hb6 _
      have hR6 : Is w6 v6 ((List.range (p + 1)).filter (unR a b)) bl6 := by
        rw [filter_snoc, hu, if_pos rfl]
        show Row w6 v6 (List.map _ _) bl6
        rw [List.map_append]
        exact r6
      have hs := fr.size
      have hs2 := f.size
      refine hk v6 w6 ⟨bl6, hR6, fun k hk => ?_, ((fr.more f).more f5).trans f6 (fun k hk e => by have := hbl k e; omega)⟩
      rcases hb6 k hk with e | e
      · exact hbl k e
      · omega
    · rintro v' W' ⟨bl', h, hk, hf⟩
      exact ⟨⟨rfl, p + 1, v', bl', by omega, rfl, h, hk, hf⟩, dec⟩
    · intro hu W' e1 e2 e3 e4
      have f := same W' e1 e2 e3 e4
      refine ⟨⟨rfl, p + 1, v, bl, by omega, rfl, ?_, hbl, fr.more f⟩, dec⟩
      rw [filter_snoc, hu]
      simp only [Bool.false_eq_true, if_false, List.append_nil]
      exact Row.fr hR f fun _ _ => id
  · have hp : p = 64 := by
      have : ¬ (p : Int) < 64 := by simpa using hge
      omega
    subst hp
    exact hK W v bl hR hbl fr

end Go.Proofs.Ytdaopbkggmlopaa
