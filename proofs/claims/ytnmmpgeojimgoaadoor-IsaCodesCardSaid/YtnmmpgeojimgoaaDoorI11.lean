/-
  Isa, part 11: Parse, names, the count of lines. Own work.
-/
import Derived.Test.YtnmmpgeojimgoaaDoorI10
set_option linter.unusedVariables false
set_option linter.unusedSimpArgs false
set_option maxRecDepth 100000
namespace Go.Proofs.YtnmmpgeojimgoaaDoor
open Go Go.V Go.RowKit

theorem says_reads {l : List UInt8} {x : Cd} (h : Says l x) : Reads l { x with n := 0 } (if shNum x.op = 0 then [] else Lib.itoa x.n) := by
  have := reads_txt h.1
  rw [h.2] at this
  exact this

theorem says_n {l : List UInt8} {x : Cd} (h : Says l x) (h0 : shNum x.op = 0) : x.n = 0 := by
  have f := ((right_iff x).1 h.1).2.1
  rw [h0] at f
  simpa [fitsN] using f

/-- isa.Parse -/
theorem parse_spec {w : World} {l : List UInt8} {K : Value → World → Prop} (hT : Tabs w) (hl : l.length < 1000000)
    (hok : ∀ x, Says l x → ∀ w', Fr (fun _ => False) w w' → K (.tuple #[x.v, it 0]) w')
    (hbad : (∀ x, ¬ Says l x) → ∀ w', Fr (fun _ => False) w w' → K (.tuple #[cd0.v, it 2]) w') : CallK Tryd.prog 17 #[str l] w K := by
  apply Ret.call
  apply F17_ok
  unfold F17
  have hL := Lx.start (fun _ => False) w
  refine sAlloc zc23 hL (fun w1 b1 hL => ?_)
  have main : ∀ (b4 : Nat) (y : Cd) (q : Bool) (W : World), Lx (fun _ => False) w W [.blk b4 y.cs, .blk b1 [it 0, it 0, it 0, it 0, it 0]] → (-9223372036854775808 ≤ y.n ∧ y.n < 9223372036854775808) → (∀ x, Says l x → q = true ∧ x = y) →
      ∀ ρ : Env, [0, 2, 4, 6].map ρ = [str l, pt b1 0, pt b4 0, .bool q] → F17J1 K ρ [] W := by
    intro b4 y q W hL hy hs ρ hρ
    simp only [List.map_cons, List.map_nil, List.cons.injEq, and_true] at hρ
    obtain ⟨e0, e2, e4, e6⟩ := hρ
    unfold F17J1
    simp only [e0, e2, e4, e6]
    repeat (first
      | refine rFA0 ?_
      | refine rExt0 ?_
      | refine rExt1 ?_
      | refine sExt30 ?_
      | refine sExt31 ?_
      | refine sExt2 ?_
      | refine rIfT ?_
      | refine rIfF ?_
      | refine rNot ?_
      | refine rLenB ?_
      | refine sLd hL (i := 0) rfl rfl ?_
      | refine sLd hL (i := 1) rfl rfl ?_
      | refine sLd hL (i := 2) rfl rfl ?_
      | refine sLd hL (i := 3) rfl rfl ?_
      | refine sLd hL (i := 4) rfl rfl ?_
      | refine sLd hL (i := 5) rfl rfl ?_
      | refine sLdN hL (i := 0) rfl rfl ?_
      | refine sLdN hL (i := 1) rfl rfl ?_
      | refine sLdN hL (i := 2) rfl rfl ?_
      | refine sLdN hL (i := 3) rfl rfl ?_
      | refine sLdN hL (i := 4) rfl rfl ?_
      | refine sLdN hL (i := 5) rfl rfl ?_
      | refine sLdS (i := 0) rfl rfl ?_
      | refine sLdS (i := 1) rfl rfl ?_
      | refine sLdS (i := 2) rfl rfl ?_
      | refine sLdS (i := 3) rfl rfl ?_
      | refine sLdS (i := 4) rfl rfl ?_
      | refine sLdS (i := 5) rfl rfl ?_
      | refine rFA ?_)
    refine text_spec (x := y) (hT.fr hL.fr) hy.1 hy.2 (fun w5 f5 => ?_)
    have hL := hL.more f5
    have bad : (∀ x, ¬ Says l x) → vBuild Tryd.prog 23 [] fun x => vSt (some 5) (pt b1 0) x w5 fun w' => leaveV [] w' fun W => vLd (.agg 5) (pt b1 0) W fun r => K (.tuple #[r, it 2]) W := by
      intro hb
      refine build48e ?_
      refine sStN hL (i := 1) rfl rfl (by simp) (by intro x hx; simp at hx; rw [hx]; rfl) (fun w' hL' => ?_)
      have hf := hL'.fr
      show vLd (.agg 5) (pt b1 0) w' fun r => K (.tuple #[r, it 2]) w'
      refine rLdN (hL'.get (i := 1) rfl) (by simp [spl]) ?_
      exact hbad hb w' hf
    by_cases hr : rightB y = true
    · rw [hr, if_pos rfl]
      repeat (first
        | refine rFA0 ?_
        | refine rExt0 ?_
        | refine rExt1 ?_
        | refine sExt30 ?_
        | refine sExt31 ?_
        | refine sExt2 ?_
        | refine rIfT ?_
        | refine rIfF ?_
        | refine rNot ?_
        | refine rLenB ?_
        | refine sLd hL (i := 0) rfl rfl ?_
        | refine sLd hL (i := 1) rfl rfl ?_
        | refine sLd hL (i := 2) rfl rfl ?_
        | refine sLd hL (i := 3) rfl rfl ?_
        | refine sLd hL (i := 4) rfl rfl ?_
        | refine sLd hL (i := 5) rfl rfl ?_
        | refine sLdN hL (i := 0) rfl rfl ?_
        | refine sLdN hL (i := 1) rfl rfl ?_
        | refine sLdN hL (i := 2) rfl rfl ?_
        | refine sLdN hL (i := 3) rfl rfl ?_
        | refine sLdN hL (i := 4) rfl rfl ?_
        | refine sLdN hL (i := 5) rfl rfl ?_
        | refine sLdS (i := 0) rfl rfl ?_
        | refine sLdS (i := 1) rfl rfl ?_
        | refine sLdS (i := 2) rfl rfl ?_
        | refine sLdS (i := 3) rfl rfl ?_
        | refine sLdS (i := 4) rfl rfl ?_
        | refine sLdS (i := 5) rfl rfl ?_
        | refine rFA ?_)
      refine sIfN (fun h1 => ?_) (fun h1 => ?_)
      · exact bad fun x hx => by have := (hs x hx).1; rw [h1] at this; cases this
      refine rNe <| rIfF ?_
      refine rSNe <| sIfNS (fun h2 => ?_) (fun h2 => ?_)
      · refine bad fun x hx => ?_
        have := (hs x hx).2
        rw [← this] at h2
        exact h2 hx.2
      · repeat (first
          | refine rFA0 ?_
          | refine rExt0 ?_
          | refine rExt1 ?_
          | refine sExt30 ?_
          | refine sExt31 ?_
          | refine sExt2 ?_
          | refine rIfT ?_
          | refine rIfF ?_
          | refine rNot ?_
          | refine rLenB ?_
          | refine sLd hL (i := 0) rfl rfl ?_
          | refine sLd hL (i := 1) rfl rfl ?_
          | refine sLd hL (i := 2) rfl rfl ?_
          | refine sLd hL (i := 3) rfl rfl ?_
          | refine sLd hL (i := 4) rfl rfl ?_
          | refine sLd hL (i := 5) rfl rfl ?_
          | refine sLdN hL (i := 0) rfl rfl ?_
          | refine sLdN hL (i := 1) rfl rfl ?_
          | refine sLdN hL (i := 2) rfl rfl ?_
          | refine sLdN hL (i := 3) rfl rfl ?_
          | refine sLdN hL (i := 4) rfl rfl ?_
          | refine sLdN hL (i := 5) rfl rfl ?_
          | refine sLdS (i := 0) rfl rfl ?_
          | refine sLdS (i := 1) rfl rfl ?_
          | refine sLdS (i := 2) rfl rfl ?_
          | refine sLdS (i := 3) rfl rfl ?_
          | refine sLdS (i := 4) rfl rfl ?_
          | refine sLdS (i := 5) rfl rfl ?_
          | refine rFA ?_)
        refine sStN hL (i := 1) rfl rfl (by simp) (by intro x hx; simp at hx; rcases hx with rfl | rfl | rfl | rfl | rfl <;> rfl) (fun w' hL' => ?_)
        have hf := hL'.fr
        show vLd (.agg 5) (pt b1 0) w' fun r => K (.tuple #[r, it 0]) w'
        refine rLdN (hL'.get (i := 1) rfl) (by simp [spl]) ?_
        exact hok y ⟨hr, h2⟩ w' hf
    · have hnone : ∀ x, ¬ Says l x := fun x hx => hr (by rw [← (hs x hx).2]; exact hx.1)
      rw [if_neg hr]
      repeat (first
        | refine rFA0 ?_
        | refine rExt0 ?_
        | refine rExt1 ?_
        | refine sExt30 ?_
        | refine sExt31 ?_
        | refine sExt2 ?_
        | refine rIfT ?_
        | refine rIfF ?_
        | refine rNot ?_
        | refine rLenB ?_
        | refine sLd hL (i := 0) rfl rfl ?_
        | refine sLd hL (i := 1) rfl rfl ?_
        | refine sLd hL (i := 2) rfl rfl ?_
        | refine sLd hL (i := 3) rfl rfl ?_
        | refine sLd hL (i := 4) rfl rfl ?_
        | refine sLd hL (i := 5) rfl rfl ?_
        | refine sLdN hL (i := 0) rfl rfl ?_
        | refine sLdN hL (i := 1) rfl rfl ?_
        | refine sLdN hL (i := 2) rfl rfl ?_
        | refine sLdN hL (i := 3) rfl rfl ?_
        | refine sLdN hL (i := 4) rfl rfl ?_
        | refine sLdN hL (i := 5) rfl rfl ?_
        | refine sLdS (i := 0) rfl rfl ?_
        | refine sLdS (i := 1) rfl rfl ?_
        | refine sLdS (i := 2) rfl rfl ?_
        | refine sLdS (i := 3) rfl rfl ?_
        | refine sLdS (i := 4) rfl rfl ?_
        | refine sLdS (i := 5) rfl rfl ?_
        | refine rFA ?_)
      refine sIfN (fun h1 => ?_) (fun h1 => ?_)
      · exact bad hnone
      · refine rNe <| rIfT ?_
        exact bad hnone
  refine read_spec (hT.fr hL.fr) hl (fun x0 num hx w2 f2 => ?_) (fun hno w2 f2 => ?_)
  · have hL := hL.more f2
    repeat (first
      | refine rFA0 ?_
      | refine rExt0 ?_
      | refine rExt1 ?_
      | refine sExt30 ?_
      | refine sExt31 ?_
      | refine sExt2 ?_
      | refine rIfT ?_
      | refine rIfF ?_
      | refine rNot ?_
      | refine rLenB ?_
      | refine sLd hL (i := 0) rfl rfl ?_
      | refine sLd hL (i := 1) rfl rfl ?_
      | refine sLd hL (i := 2) rfl rfl ?_
      | refine sLd hL (i := 3) rfl rfl ?_
      | refine sLd hL (i := 4) rfl rfl ?_
      | refine sLd hL (i := 5) rfl rfl ?_
      | refine sLdN hL (i := 0) rfl rfl ?_
      | refine sLdN hL (i := 1) rfl rfl ?_
      | refine sLdN hL (i := 2) rfl rfl ?_
      | refine sLdN hL (i := 3) rfl rfl ?_
      | refine sLdN hL (i := 4) rfl rfl ?_
      | refine sLdN hL (i := 5) rfl rfl ?_
      | refine sLdS (i := 0) rfl rfl ?_
      | refine sLdS (i := 1) rfl rfl ?_
      | refine sLdS (i := 2) rfl rfl ?_
      | refine sLdS (i := 3) rfl rfl ?_
      | refine sLdS (i := 4) rfl rfl ?_
      | refine sLdS (i := 5) rfl rfl ?_
      | refine rFA ?_)
    refine sAlloc zc23 hL (fun w3 b4 hL => ?_)
    refine sStN hL (i := 0) rfl rfl (by simp) (by intro x hx; simp at hx; rcases hx with rfl | rfl | rfl | rfl | rfl <;> rfl) (fun w4 hL => ?_)
    have hL : Lx (fun _ => False) w w4 [.blk b4 x0.cs, .blk b1 [it 0, it 0, it 0, it 0, it 0]] := hL
    refine sJoin ?_
    refine rIfT ?_
    have hlnum : num.length ≤ 281474976710656 := by
      have := hx.words
      by_cases h0 : shNum x0.op = 0
      · rw [hx.num h0]; simp
      · rw [if_neg h0] at this
        have hj := congrArg List.length (join_parts 32 l)
        rw [this, List.cons_append, Lib.join_cons, List.length_append, joinTail_len] at hj
        simp at hj
        omega
    refine rSNe (m := []) <| sIfNS (fun h => ?_) (fun h => ?_)
    · refine atoi_spec (hT.fr hL.fr) hlnum (fun n hn w5 f5 => ?_) (fun hn w5 n T p hn1 hn2 f5 => ?_)
      · have hL := hL.more f5
        repeat (first
          | refine rFA0 ?_
          | refine rExt0 ?_
          | refine rExt1 ?_
          | refine sExt30 ?_
          | refine sExt31 ?_
          | refine sExt2 ?_
          | refine rIfT ?_
          | refine rIfF ?_
          | refine rNot ?_
          | refine rLenB ?_
          | refine sLd hL (i := 0) rfl rfl ?_
          | refine sLd hL (i := 1) rfl rfl ?_
          | refine sLd hL (i := 2) rfl rfl ?_
          | refine sLd hL (i := 3) rfl rfl ?_
          | refine sLd hL (i := 4) rfl rfl ?_
          | refine sLd hL (i := 5) rfl rfl ?_
          | refine sLdN hL (i := 0) rfl rfl ?_
          | refine sLdN hL (i := 1) rfl rfl ?_
          | refine sLdN hL (i := 2) rfl rfl ?_
          | refine sLdN hL (i := 3) rfl rfl ?_
          | refine sLdN hL (i := 4) rfl rfl ?_
          | refine sLdN hL (i := 5) rfl rfl ?_
          | refine sLdS (i := 0) rfl rfl ?_
          | refine sLdS (i := 1) rfl rfl ?_
          | refine sLdS (i := 2) rfl rfl ?_
          | refine sLdS (i := 3) rfl rfl ?_
          | refine sLdS (i := 4) rfl rfl ?_
          | refine sLdS (i := 5) rfl rfl ?_
          | refine rFA ?_)
        refine sNilEq ?_
        repeat (first
          | refine rFA0 ?_
          | refine rExt0 ?_
          | refine rExt1 ?_
          | refine sExt30 ?_
          | refine sExt31 ?_
          | refine sExt2 ?_
          | refine rIfT ?_
          | refine rIfF ?_
          | refine rNot ?_
          | refine rLenB ?_
          | refine sLd hL (i := 0) rfl rfl ?_
          | refine sLd hL (i := 1) rfl rfl ?_
          | refine sLd hL (i := 2) rfl rfl ?_
          | refine sLd hL (i := 3) rfl rfl ?_
          | refine sLd hL (i := 4) rfl rfl ?_
          | refine sLd hL (i := 5) rfl rfl ?_
          | refine sLdN hL (i := 0) rfl rfl ?_
          | refine sLdN hL (i := 1) rfl rfl ?_
          | refine sLdN hL (i := 2) rfl rfl ?_
          | refine sLdN hL (i := 3) rfl rfl ?_
          | refine sLdN hL (i := 4) rfl rfl ?_
          | refine sLdN hL (i := 5) rfl rfl ?_
          | refine sLdS (i := 0) rfl rfl ?_
          | refine sLdS (i := 1) rfl rfl ?_
          | refine sLdS (i := 2) rfl rfl ?_
          | refine sLdS (i := 3) rfl rfl ?_
          | refine sLdS (i := 4) rfl rfl ?_
          | refine sLdS (i := 5) rfl rfl ?_
          | refine rFA ?_)
        refine sSt hL (i := 0) rfl (by simp) rfl (by intro c h; cases h) (fun w6 hL => ?_)
        have hb := Lib.atoiAll_bounds hn
        exact main b4 ⟨x0.op, x0.a, x0.b, x0.c, n⟩ true w6 hL ⟨hb.1, by simp only; omega⟩ (fun x hs => ⟨rfl, by
          obtain ⟨e1, e2⟩ := (says_reads hs).uniq hx
          by_cases h0 : shNum x.op = 0
          · rw [if_pos h0] at e2; exact absurd e2.symm h
          · rw [if_neg h0] at e2
            have hb := right_n hs.1
            rw [← e2, atoi_itoa (by omega) (by omega)] at hn
            have en : n = x.n := by injection hn with hn; exact hn.symm
            rw [en, ← e1]⟩)
      · have hL := hL.more f5
        repeat (first
          | refine rFA0 ?_
          | refine rExt0 ?_
          | refine rExt1 ?_
          | refine sExt30 ?_
          | refine sExt31 ?_
          | refine sExt2 ?_
          | refine rIfT ?_
          | refine rIfF ?_
          | refine rNot ?_
          | refine rLenB ?_
          | refine sLd hL (i := 0) rfl rfl ?_
          | refine sLd hL (i := 1) rfl rfl ?_
          | refine sLd hL (i := 2) rfl rfl ?_
          | refine sLd hL (i := 3) rfl rfl ?_
          | refine sLd hL (i := 4) rfl rfl ?_
          | refine sLd hL (i := 5) rfl rfl ?_
          | refine sLdN hL (i := 0) rfl rfl ?_
          | refine sLdN hL (i := 1) rfl rfl ?_
          | refine sLdN hL (i := 2) rfl rfl ?_
          | refine sLdN hL (i := 3) rfl rfl ?_
          | refine sLdN hL (i := 4) rfl rfl ?_
          | refine sLdN hL (i := 5) rfl rfl ?_
          | refine sLdS (i := 0) rfl rfl ?_
          | refine sLdS (i := 1) rfl rfl ?_
          | refine sLdS (i := 2) rfl rfl ?_
          | refine sLdS (i := 3) rfl rfl ?_
          | refine sLdS (i := 4) rfl rfl ?_
          | refine sLdS (i := 5) rfl rfl ?_
          | refine rFA ?_)
        refine sIfcEq ?_
        repeat (first
          | refine rFA0 ?_
          | refine rExt0 ?_
          | refine rExt1 ?_
          | refine sExt30 ?_
          | refine sExt31 ?_
          | refine sExt2 ?_
          | refine rIfT ?_
          | refine rIfF ?_
          | refine rNot ?_
          | refine rLenB ?_
          | refine sLd hL (i := 0) rfl rfl ?_
          | refine sLd hL (i := 1) rfl rfl ?_
          | refine sLd hL (i := 2) rfl rfl ?_
          | refine sLd hL (i := 3) rfl rfl ?_
          | refine sLd hL (i := 4) rfl rfl ?_
          | refine sLd hL (i := 5) rfl rfl ?_
          | refine sLdN hL (i := 0) rfl rfl ?_
          | refine sLdN hL (i := 1) rfl rfl ?_
          | refine sLdN hL (i := 2) rfl rfl ?_
          | refine sLdN hL (i := 3) rfl rfl ?_
          | refine sLdN hL (i := 4) rfl rfl ?_
          | refine sLdN hL (i := 5) rfl rfl ?_
          | refine sLdS (i := 0) rfl rfl ?_
          | refine sLdS (i := 1) rfl rfl ?_
          | refine sLdS (i := 2) rfl rfl ?_
          | refine sLdS (i := 3) rfl rfl ?_
          | refine sLdS (i := 4) rfl rfl ?_
          | refine sLdS (i := 5) rfl rfl ?_
          | refine rFA ?_)
        refine sSt hL (i := 0) rfl (by simp) rfl (by intro c h; cases h) (fun w6 hL => ?_)
        have hnone : ∀ x, ¬ Says l x := fun x hs => by
          obtain ⟨e1, e2⟩ := (says_reads hs).uniq hx
          by_cases h0 : shNum x.op = 0
          · rw [if_pos h0] at e2; exact h e2.symm
          · rw [if_neg h0] at e2
            have hb := right_n hs.1
            exact hn x.n (by rw [← e2]; exact atoi_itoa (by omega) (by omega))
        exact main b4 ⟨x0.op, x0.a, x0.b, x0.c, n⟩ false w6 hL ⟨hn1, hn2⟩ (fun x hs => absurd hs (hnone x))
    · have hx0 := hx.n
      exact main b4 x0 true w4 hL ⟨by omega, by omega⟩ (fun x hs => ⟨rfl, by
        obtain ⟨e1, e2⟩ := (says_reads hs).uniq hx
        by_cases h0 : shNum x.op = 0
        · have := says_n hs h0
          rw [← e1]; cases x; simp only at this; subst this; rfl
        · rw [if_neg h0, h] at e2; exact absurd e2 (itoa_ne _)⟩)
  · have hL := hL.more f2
    repeat (first
      | refine rFA0 ?_
      | refine rExt0 ?_
      | refine rExt1 ?_
      | refine sExt30 ?_
      | refine sExt31 ?_
      | refine sExt2 ?_
      | refine rIfT ?_
      | refine rIfF ?_
      | refine rNot ?_
      | refine rLenB ?_
      | refine sLd hL (i := 0) rfl rfl ?_
      | refine sLd hL (i := 1) rfl rfl ?_
      | refine sLd hL (i := 2) rfl rfl ?_
      | refine sLd hL (i := 3) rfl rfl ?_
      | refine sLd hL (i := 4) rfl rfl ?_
      | refine sLd hL (i := 5) rfl rfl ?_
      | refine sLdN hL (i := 0) rfl rfl ?_
      | refine sLdN hL (i := 1) rfl rfl ?_
      | refine sLdN hL (i := 2) rfl rfl ?_
      | refine sLdN hL (i := 3) rfl rfl ?_
      | refine sLdN hL (i := 4) rfl rfl ?_
      | refine sLdN hL (i := 5) rfl rfl ?_
      | refine sLdS (i := 0) rfl rfl ?_
      | refine sLdS (i := 1) rfl rfl ?_
      | refine sLdS (i := 2) rfl rfl ?_
      | refine sLdS (i := 3) rfl rfl ?_
      | refine sLdS (i := 4) rfl rfl ?_
      | refine sLdS (i := 5) rfl rfl ?_
      | refine rFA ?_)
    refine sAlloc zc23 hL (fun w3 b4 hL => ?_)
    refine sStN hL (i := 0) rfl rfl (by simp) (by intro x hx; simp at hx; rcases hx with rfl | rfl | rfl | rfl | rfl <;> rfl) (fun w4 hL => ?_)
    have hL : Lx (fun _ => False) w w4 [.blk b4 cd0.cs, .blk b1 [it 0, it 0, it 0, it 0, it 0]] := hL
    refine sJoin ?_
    refine rIfF ?_
    exact main b4 cd0 false w4 hL ⟨by decide, by decide⟩ (fun x hs => absurd (says_reads hs) (hno _ _))

/-- a name -/
def nameB (l : List UInt8) : Bool := (l.all fun b => decide (97 ≤ b.toNat ∧ b.toNat ≤ 122)) && (decide (1 ≤ l.length) && decide (l.length ≤ 16))

theorem rLt8 {a b : Int} {K : Value → Prop} (k : K (.bool (decide (a < b)))) : vBin (.int .u8) .lss (.int .u8 a) (.int .u8 b) K := ⟨rfl, k⟩
theorem rGt8 {a b : Int} {K : Value → Prop} (k : K (.bool (decide (b < a)))) : vBin (.int .u8) .gtr (.int .u8 a) (.int .u8 b) K := ⟨rfl, k⟩
theorem rEq8 {a b : Int} {K : Value → Prop} (k : K (.bool (a == b))) : vBin (.int .u8) .eql (.int .u8 a) (.int .u8 b) K := ⟨rfl, k⟩

theorem name_bad {l : List UInt8} {i : Nat} {b : UInt8} (hb : l[i]? = some b) (h : ¬ (97 ≤ b.toNat ∧ b.toNat ≤ 122)) : nameB l = false := by
  unfold nameB
  have : (l.all fun b => decide (97 ≤ b.toNat ∧ b.toNat ≤ 122)) = false := by
    rw [List.all_eq_false]
    exact ⟨b, List.mem_of_getElem? hb, by simpa using h⟩
  rw [this]; rfl
theorem name_end {l : List UInt8} (h : ∀ (j : Nat) b, j < l.length → l[j]? = some b → 97 ≤ b.toNat ∧ b.toNat ≤ 122) : nameB l = (decide (1 ≤ l.length) && decide (l.length ≤ 16)) := by
  unfold nameB
  have : (l.all fun b => decide (97 ≤ b.toNat ∧ b.toNat ≤ 122)) = true := by
    rw [List.all_eq_true]
    intro b hb
    obtain ⟨j, hj⟩ := List.mem_iff_getElem?.1 hb
    simpa using h j b (List.getElem?_eq_some_iff.1 hj).1 hj
  rw [this, Bool.true_and]

/-- isa.isName -/
theorem isName_spec {w : World} {l : List UInt8} {K : Value → World → Prop} (hl : l.length < 1000000000) (hK : K (.bool (nameB l)) w) : CallK Tryd.prog 55 #[str l] w K := by
  apply Ret.call
  apply F55_ok
  unfold F55
  refine rLenB ?_
  refine ⟨fun vs ds W => ds = [] ∧ W = w ∧ ∃ (i : Nat), vs = [str l, it l.length, it i] ∧ i ≤ l.length ∧ ∀ (j : Nat) b, j < i → l[j]? = some b → 97 ≤ b.toNat ∧ b.toNat ≤ 122,
    fun vs _ _ => match vs with | [_, _, .int _ i] => l.length - i.toNat | _ => 0, ⟨rfl, rfl, 0, rfl, by omega, fun j _ h => by omega⟩, ?_⟩
  rintro ρ ds W ⟨rfl, rfl, i, hρ, hi, hall⟩
  rw [hρ]
  simp only [List.map_cons, List.map_nil, List.cons.injEq, and_true] at hρ
  obtain ⟨e0, e5, e6⟩ := hρ
  unfold F55L1
  simp only [e0, e5, e6]
  refine rLt <| sIfD (fun hlt => ?_) (fun hge => ?_)
  · obtain ⟨b, hb⟩ : ∃ b, l[i]? = some b := ⟨_, List.getElem?_eq_getElem (by omega)⟩
    refine rIxS hb <| rLt8 <| sIfD (fun h => ?_) (fun h => ?_)
    · have hK := hK
      rw [name_bad hb (by omega)] at hK
      exact hK
    refine rIxS hb <| rGt8 <| sIfD (fun h2 => ?_) (fun h2 => ?_)
    · have hK := hK
      rw [name_bad hb (by omega)] at hK
      exact hK
    refine rAdd (by omega) (by omega) ⟨⟨by trivial, by trivial, i + 1, by simp, by omega, fun j c hj hc => ?_⟩, by simp; omega⟩
    by_cases e : j = i
    · subst e; rw [hb] at hc; cases hc; omega
    · exact hall j c (by omega) hc
  · have hi : i = l.length := by omega
    subst hi
    rw [name_end hall] at hK
    refine rLenB <| rGe <| sIfD (fun h => ?_) (fun h => ?_)
    · refine rLenB <| rLe ?_
      have e : (decide (1 ≤ l.length) && decide (l.length ≤ 16)) = decide ((l.length : Int) ≤ 16) := by
        rw [decide_eq_true (show 1 ≤ l.length by omega), Bool.true_and, decide_eq_decide]; omega
      rw [e] at hK
      exact hK
    · have e : (decide (1 ≤ l.length) && decide (l.length ≤ 16)) = false := by
        rw [decide_eq_false (show ¬ 1 ≤ l.length by omega)]; rfl
      rw [e] at hK
      exact hK

/-- gatehouseref02.Named -/
theorem named_spec {w : World} {l : List UInt8} {K : Value → World → Prop} (hl : l.length < 1000000000) (hK : K (.bool (nameB l)) w) : CallK Tryd.prog 39 #[str l] w K := by
  apply Ret.call
  apply F39_ok
  unfold F39
  refine ⟨fun vs ds W => ds = [] ∧ W = w ∧ ∃ (i : Nat), vs = [str l, it i] ∧ i ≤ l.length ∧ ∀ (j : Nat) b, j < i → l[j]? = some b → 97 ≤ b.toNat ∧ b.toNat ≤ 122,
    fun vs _ _ => match vs with | [_, .int _ i] => l.length - i.toNat | _ => 0, ⟨rfl, rfl, 0, rfl, by omega, fun j _ h => by omega⟩, ?_⟩
  rintro ρ ds W ⟨rfl, rfl, i, hρ, hi, hall⟩
  rw [hρ]
  simp only [List.map_cons, List.map_nil, List.cons.injEq, and_true] at hρ
  obtain ⟨e0, e3⟩ := hρ
  unfold F39L1
  simp only [e0, e3]
  refine rLenB <| rLt <| sIfD (fun hlt => ?_) (fun hge => ?_)
  · obtain ⟨b, hb⟩ : ∃ b, l[i]? = some b := ⟨_, List.getElem?_eq_getElem (by omega)⟩
    refine rIxS hb <| rLt8 <| sIfD (fun h => ?_) (fun h => ?_)
    · have hK := hK
      rw [name_bad hb (by omega)] at hK
      exact hK
    refine rIxS hb <| rGt8 <| sIfD (fun h2 => ?_) (fun h2 => ?_)
    · have hK := hK
      rw [name_bad hb (by omega)] at hK
      exact hK
    refine rAdd (by omega) (by omega) ⟨⟨by trivial, by trivial, i + 1, by simp, by omega, fun j c hj hc => ?_⟩, by simp; omega⟩
    by_cases e : j = i
    · subst e; rw [hb] at hc; cases hc; omega
    · exact hall j c (by omega) hc
  · have hi : i = l.length := by omega
    subst hi
    rw [name_end hall] at hK
    refine rLenB <| rGe <| sIfD (fun h => ?_) (fun h => ?_)
    · refine rLenB <| rLe ?_
      have e : (decide (1 ≤ l.length) && decide (l.length ≤ 16)) = decide ((l.length : Int) ≤ 16) := by
        rw [decide_eq_true (show 1 ≤ l.length by omega), Bool.true_and, decide_eq_decide]; omega
      rw [e] at hK
      exact hK
    · have e : (decide (1 ≤ l.length) && decide (l.length ≤ 16)) = false := by
        rw [decide_eq_false (show ¬ 1 ≤ l.length by omega)]; rfl
      rw [e] at hK
      exact hK

/-- a line that is an instruction, or looks so -/
def isIns (l : List UInt8) : Bool := !(l == []) && !(Lib.hasSuffix l [58])

theorem parts_len {c : UInt8} : ∀ (m : List UInt8), (parts c m).length ≤ m.length + 1
  | [] => by simp [parts]
  | b :: r => by
    have ih := parts_len (c := c) r
    unfold parts
    split
    · simp; omega
    · split
      · rename_i h; rw [h] at ih; simp at ih ⊢; omega
      · simp
theorem parts_small {c : UInt8} {l p : List UInt8} (h : p ∈ parts c l) : p.length ≤ l.length := by
  have hj := congrArg List.length (join_parts c l)
  have key : ∀ (ws : List (List UInt8)), p ∈ ws → p.length ≤ (Lib.join ws [c]).length := by
    intro ws hm
    cases ws with
    | nil => simp at hm
    | cons a r =>
      rw [Lib.join_cons, List.length_append, joinTail_len]
      rcases List.mem_cons.1 hm with rfl | hm
      · omega
      · have : p.length ≤ r.flatten.length := List.Sublist.length_le (List.sublist_flatten_of_mem hm)
        omega
  have := key _ h
  omega

/-- isa.count -/
theorem count_spec {w : World} {l : List UInt8} {K : Value → World → Prop} (hT : Tabs w) (hl : l.length < 1000000) (hK : ∀ w', Fr (fun _ => False) w w' → K (it ((parts 10 l).countP isIns : Nat)) w') : CallK Tryd.prog 40 #[str l] w K := by
  apply Ret.call
  apply F40_ok
  unfold F40
  have hL := Lx.start (fun _ => False) w
  refine split_spec (hT.fr hL.fr) (by omega) (fun w2 v2 hr f2 => ?_)
  have hL := hL.newRow hr (Nat.le_refl _) f2
  refine sLen hL (i := 0) rfl ?_
  rw [List.length_map]
  have hpl := parts_len (c := 10) l
  generalize hps : parts 10 l = ps at *
  refine ⟨fun vs ds W => ds = [] ∧ W = w2 ∧ ∃ (i : Nat), i ≤ ps.length ∧ vs = [it ((ps.take i).countP isIns : Nat), v2, it ps.length, it i],
    fun vs _ _ => match vs with | [_, _, _, .int _ i] => ps.length - i.toNat | _ => 0, ⟨rfl, rfl, 0, by omega, by simp⟩, ?_⟩
  rintro ρ ds W ⟨rfl, rfl, i, hi, hρ⟩
  rw [hρ]
  simp only [List.map_cons, List.map_nil, List.cons.injEq, and_true] at hρ
  obtain ⟨e3, e7, e8, e9⟩ := hρ
  unfold F40L1
  simp only [e3, e7, e8, e9]
  refine rLt <| sIfD (fun hlt => ?_) (fun hge => ?_)
  · obtain ⟨p, hp⟩ : ∃ p, ps[i]? = some p := ⟨_, List.getElem?_eq_getElem (by omega)⟩
    have hsm := parts_small (c := 10) (l := l) (p := p) (by rw [hps]; exact List.mem_of_getElem? hp)
    have et : ps.take (i + 1) = ps.take i ++ [p] := by rw [List.take_add_one, hp]; rfl
    have hc : (ps.take i).countP isIns ≤ i := by
      have := List.countP_le_length (p := isIns) (l := ps.take i)
      rw [List.length_take] at this; omega
    refine sIdx hL (i := 0) rfl (x := str p) (by rw [List.getElem?_map, hp]; rfl) ?_
    have nxt : isIns p = false → [it ((ps.take i).countP isIns : Nat), v2, it ps.length, it ((i : Int) + 1)] = [it ((ps.take (i + 1)).countP isIns : Nat), v2, it ps.length, it ((i + 1 : Nat) : Int)] := by
      intro h
      rw [et, List.countP_append, List.countP_singleton, h]; simp
    refine rSNe (m := []) <| sIfNS (fun h => ?_) (fun h => ?_)
    · refine hasSuffix_spec (by omega) ?_
      refine rNot <| sIfN (fun h2 => ?_) (fun h2 => ?_)
      · refine rAdd (by omega) (by omega) <| rAdd (by omega) (by omega) ⟨⟨by trivial, by trivial, i + 1, by omega, ?_⟩, by simp; omega⟩
        have : isIns p = true := by unfold isIns; rw [h2]; simp [h]
        rw [et, List.countP_append, List.countP_singleton, this]; simp
      · refine rAdd (by omega) (by omega) ⟨⟨by trivial, by trivial, i + 1, by omega, nxt ?_⟩, by simp; omega⟩
        unfold isIns; rw [h2]; simp
    · refine rAdd (by omega) (by omega) ⟨⟨by trivial, by trivial, i + 1, by omega, nxt ?_⟩, by simp; omega⟩
      unfold isIns; rw [h]; simp
  · have hi : i = ps.length := by omega
    subst hi
    rw [List.take_length]
    exact hK W hL.fr

end Go.Proofs.YtnmmpgeojimgoaaDoor
