/-
  Cpu, part 19: the document's steps: Step, Over. Own work.
-/
import Derived.Test.YtmaecpbkbkncgaaDoorC18
set_option linter.unusedVariables false
set_option linter.unusedSimpArgs false
set_option maxRecDepth 100000
namespace Go.Proofs.YtmaecpbkbkncgaaDoor
open Go Go.V Go.RowKit

/-- a step as the document does it -/
def rdoP (r : List Nat) (l : List UInt8) (c : Cd) : List Nat × List UInt8 × Int :=
  if 0 < (wantsP r c).n then
    match ldP l (wantsP r c).ad (wantsP r c).n with
    | none => (r, l, 3)
    | some had => ((doesP r c had).1, if (wantsP r c).wr = true then wrl l (wantsP r c).ad (wantsP r c).s else l, (doesP r c had).2)
  else ((doesP r c []).1, l, (doesP r c []).2)

theorem wants_no {r : List Nat} {c : Cd} (h : ¬ (18 ≤ c.op ∧ c.op ≤ 21)) : wantsP r c = ⟨false, 0, 0, []⟩ := by
  unfold wantsP
  rw [if_neg (by omega), if_neg (by omega), if_neg (by omega), if_neg (by omega)]

theorem wants_load {r : List Nat} {c : Cd} (h : c.op = 18 ∨ c.op = 20) : wantsP r c = ⟨false, addrP r c, sizeP c.op, []⟩ := by
  unfold wantsP sizeP
  rcases h with h | h
  · rw [if_pos h, if_neg (by omega)]
  · rw [if_neg (by omega), if_neg (by omega), if_pos h, if_pos (.inl h)]

theorem wants_store {r : List Nat} {c : Cd} (h : c.op = 19 ∨ c.op = 21) : wantsP r c = ⟨true, addrP r c, sizeP c.op, (eight (rg r c.a)).take (sizeP c.op)⟩ := by
  unfold wantsP sizeP
  rcases h with h | h
  · rw [if_neg (by omega), if_pos h, if_neg (by omega)]
  · rw [if_neg (by omega), if_neg (by omega), if_neg (by omega), if_pos h, if_pos (.inr h), List.take_of_length_le (by rw [eight_len]; omega)]

theorem sizeP_pos (op : Int) : 0 < sizeP op := by unfold sizeP; split <;> decide

theorem rdo_eq {r : List Nat} {l : List UInt8} {c : Cd} (hc : rightB c = true) : rdoP r l c = doP r l c := by
  obtain ⟨hop, hfit, ha, hb, hcc⟩ := right_regs hc
  unfold rdoP
  by_cases h : 18 ≤ c.op ∧ c.op ≤ 21
  · have hd : doP r l c = if (movesP r l c).2.2 = true then (goP (movesP r l c).1 (nextP r), (movesP r l c).2.1, 0) else (r, l, 3) := by
      unfold doP
      rw [if_neg (by omega), if_neg (by omega), if_neg (by omega), if_neg (by omega), if_neg (by omega), if_neg (by omega), if_pos h]
    rw [hd]
    by_cases hs : c.op = 19 ∨ c.op = 21
    · rw [wants_store hs]
      simp only
      rw [if_pos (sizeP_pos _)]
      have hlen : ((eight (rg r c.a)).take (sizeP c.op)).length = sizeP c.op := by
        have := sizeP_le c.op
        rw [List.length_take, eight_len]; omega
      unfold movesP
      simp only [if_pos hs]
      unfold ldP stR
      rw [hlen]
      by_cases hf : addrP r c + sizeP c.op ≤ l.length
      · rw [if_pos hf, if_pos hf]
        simp only [if_pos]
        have hdoes : ∀ s, doesP r c s = (goP r (nextP r), 0) := by
          intro s
          unfold doesP
          rw [if_neg (by omega), if_neg (by omega), if_neg (by omega), if_neg (by omega), if_neg (by omega), if_neg (by omega), if_neg (by omega), if_neg (by omega), if_neg (by omega), if_neg (by omega), if_neg (by omega), if_neg (by omega)]
        rw [hdoes]
        rfl
      · rw [if_neg hf, if_neg hf]
        rfl
    · have hl : c.op = 18 ∨ c.op = 20 := by omega
      rw [wants_load hl]
      simp only
      rw [if_pos (sizeP_pos _)]
      unfold movesP
      simp only [if_neg hs]
      have hdoes : ∀ s, doesP r c s = (goP (putP r c.a (wv s)) (nextP r), 0) := by
        intro s
        unfold doesP
        rw [if_neg (by omega), if_neg (by omega), if_neg (by omega), if_neg (by omega), if_neg (by omega), if_pos hl, put_go ha]
      cases ldP l (addrP r c) (sizeP c.op) with
      | none => rfl
      | some s => simp only [hdoes]; rfl
  · rw [wants_no h]
    simp only
    rw [if_neg (by decide)]
    unfold doesP doP
    by_cases h0 : c.op = 0
    · rw [if_pos h0, if_pos h0]
    rw [if_neg h0, if_neg h0]
    by_cases h1 : c.op = 1
    · rw [if_pos h1, if_neg (by omega), if_neg (by omega), if_neg (by omega), if_neg (by omega), if_neg (by omega), if_neg (by omega), if_neg (by omega), if_neg (by omega), if_neg (by omega), if_neg (by omega), if_neg (by omega)]
    rw [if_neg h1]
    by_cases h2 : c.op = 2
    · rw [if_pos h2, if_pos h2]
    rw [if_neg h2, if_neg h2]
    by_cases h3 : c.op = 3
    · rw [if_pos h3, if_pos h3, put_go ha]
    rw [if_neg h3, if_neg h3]
    by_cases h4 : c.op = 4
    · rw [if_pos h4, if_pos h4, put_go ha]
    rw [if_neg h4, if_neg h4]
    by_cases h5 : c.op = 5
    · rw [if_pos h5, if_pos h5, put_go ha]
    rw [if_neg h5, if_neg h5, if_neg h, if_neg (show ¬ (c.op = 18 ∨ c.op = 20) by omega)]
    by_cases h6 : c.op = 22
    · rw [if_pos h6, if_pos h6]
    rw [if_neg h6, if_neg h6]
    by_cases h7 : c.op = 23
    · rw [if_pos h7, if_pos h7]
    rw [if_neg h7, if_neg h7]
    by_cases h8 : c.op = 24
    · rw [if_pos h8, if_pos h8]
    rw [if_neg h8, if_neg h8]
    by_cases h9 : c.op = 25
    · rw [if_pos h9, if_pos h9, put_go ha]
    rw [if_neg h9, if_neg h9]
    by_cases h10 : c.op = 26
    · rw [if_pos h10, if_pos h10]
    rw [if_neg h10, if_neg h10, if_pos (by omega), put_go ha]

/-- behind the reading and the writing: what is done, told -/
theorem step_end {w0 w : World} {b2 b4 b9 : Nat} {r : List Nat} {c : Cd} {had : List UInt8} {v : Value} {l : List UInt8} {bl : Option Nat} {K : Value → World → Prop} (hr : St r) (hc : rightB c = true) (hn1 : -32768 ≤ c.n) (hn2 : c.n < 65536) (hs : had.length ≤ 8)
    (c2 : Cs w b2 (stc r)) (c9 : Cs w b9 c.cs) (z4 : Cs w b4 (stc (List.replicate 17 0))) (h4 : w0.heap.size ≤ b4) (hb : Bz w v l bl) (hbl : bl ≠ some b4) (f : Fr (fun _ => False) w0 w)
    (hK : ∀ w', Fr (fun _ => False) w0 w' → Bz w' v l bl → St (doesP r c had).1 → K (.tuple #[stv (doesP r c had).1, v, it (doesP r c had).2]) w') :
    vLd (.agg 17) (pt b2 0) w fun v77 => vLd (.agg 5) (pt b9 0) w fun v78 => CallK Tryd.prog 52 #[v77, v78, str had] w fun v80 w_15 => vExt v80 0 fun v81 => vExt v80 1 fun v82 => vAlloc Tryd.prog 25 w_15 fun v13 w_16 =>
      vSt (some 17) v13 v81 w_16 fun w_17 => vLd (.agg 17) v13 w_17 fun v83 => vSt (some 17) (pt b4 0) v83 w_17 fun w_18 => leaveV [] w_18 fun W => vLd (.agg 17) (pt b4 0) W fun r_3 => K (.tuple #[r_3, v, v82]) W := by
  refine ld17 hr c2 <| rLdN c9 (by simp) <| does_spec (c := c) hr hc hn1 hn2 hs ?_
  intro w1 f1 hst
  have z1 := z4.fr f1 id
  refine rExt0 <| rExt1 <| newSt hst ?_
  intro w3 f3 c3 s3
  have f03 := (f.more f1).more f3
  refine ld17 hst c3 <| lay17 (w0 := w0) (K := fun x W => K (.tuple #[x, v, it (doesP r c had).2]) W) hst (z1.fr f3 id) (by simp) ?_
  intro w4 f4
  refine hK w4 (f03.trans f4 fun k hk e => by omega) ((hb.more (f1.more f3)).fr f4 fun k hk e => hbl (by rw [hk, e])) hst

theorem wants_fits {r : List Nat} {c : Cd} {l had : List UInt8} (h : ldP l (wantsP r c).ad (wantsP r c).n = some had) (hw : (wantsP r c).wr = true) : (wantsP r c).ad + (wantsP r c).s.length ≤ l.length ∧ (wantsP r c).s.length = (wantsP r c).n := by
  have hs : c.op = 19 ∨ c.op = 21 := by
    by_cases h : c.op = 19 ∨ c.op = 21
    · exact h
    · exfalso
      unfold wantsP at hw
      by_cases h1 : c.op = 18
      · rw [if_pos h1] at hw; cases hw
      rw [if_neg h1, if_neg (by omega)] at hw
      by_cases h2 : c.op = 20
      · rw [if_pos h2] at hw; cases hw
      rw [if_neg h2, if_neg (by omega)] at hw
      cases hw
  rw [wants_store hs] at h ⊢
  simp only at h ⊢
  have hlen : ((eight (rg r c.a)).take (sizeP c.op)).length = sizeP c.op := by
    have := sizeP_le c.op
    rw [List.length_take, eight_len]; omega
  rw [hlen]
  unfold ldP at h
  split at h
  · exact ⟨by assumption, rfl⟩
  · cases h

theorem wants_n (r : List Nat) (c : Cd) : (wantsP r c).n ≤ 8 ∧ (wantsP r c).ad < 18446744073709551616 := by
  have h1 : addrP r c < 18446744073709551616 := Nat.mod_lt _ (by decide)
  have k1 : (1 : Nat) ≤ 8 := by decide
  unfold wantsP
  split
  · exact ⟨k1, h1⟩
  split
  · exact ⟨k1, h1⟩
  split
  · exact ⟨Nat.le_refl 8, h1⟩
  split
  · exact ⟨Nat.le_refl 8, h1⟩
  · exact ⟨Nat.zero_le _, by decide⟩

theorem Bs.writeT {w : World} {q : Nat} {v : Value} {l : List UInt8} (h : Bs w v l (some q)) {i : Nat} {x : UInt8} (hi : i < l.length) {kd : IntKind} {K : World → Prop}
    (k : ∀ w', Bs w' v (l.set i x) (some q) → Fr (fun k => k = q) w w' → w'.heap.size = w.heap.size → K w') : vIA (.slice 1) v (.int kd i) fun p => (vSt (some 1) p (.int .u8 x.toNat) w K) ∧ True := by
  have hw := h.write hi (kd := kd) k
  obtain ⟨a, c, rfl⟩ := h.shape
  cases a with
  | none => exact hw
  | some a => exact ⟨hw.1, hw.2.1, hw.2.2, trivial⟩

/-- gatehouseref06.Step -/
theorem rstep_spec {w : World} {v : Value} {l : List UInt8} {bl : Option Nat} {r : List Nat} {K : Value → World → Prop} (hb : Bz w v l bl) (hl : l.length ≤ 4096) (hr : St r)
    (hK : ∀ w' v' bl', Fr (fun _ => False) w w' → Bz w' v' (stepP r l).2.1 bl' → (∀ k, bl' = some k → bl = some k ∨ w.heap.size ≤ k) → St (stepP r l).1 → K (.tuple #[stv (stepP r l).1, v', it (stepP r l).2.2]) w') : CallK Tryd.prog 32 #[stv r, v] w K := by
  apply Ret.call
  apply F32_ok
  unfold F32
  unfold stepP at hK
  have hlt := hb.lt
  refine rBoxA ?_
  intro w1 c1' f1 s1
  have c1 : Cs w1 w.heap.size (stc r) := c1'
  refine rAllocT zc25 ?_
  intro w2 h2 f2 s2
  have z2 : Cs w2 w1.heap.size (stc (List.replicate 17 0)) := ⟨_, h2⟩
  have c2 := c1.fr f2 id
  have f02 := f1.more f2
  have hb4 : w.heap.size < w1.heap.size := by omega
  have hbl : bl ≠ some w1.heap.size := fun e => by have := hlt _ e; omega
  clear h2 c1 c1'
  generalize hb2 : w.heap.size = b2 at *
  generalize w1.heap.size = b4 at *
  have FIN : ∀ {W : World} {x : Int}, Cs W b2 (stc r) → Cs W b4 (stc (List.replicate 17 0)) → Fr (fun _ => False) w W → (∀ w' v' bl', Fr (fun _ => False) w w' → Bz w' v' l bl' → (∀ k, bl' = some k → bl = some k ∨ b2 ≤ k) → St r → K (.tuple #[stv r, v', it x]) w') →
      vLd (.agg 17) (pt b2 0) W fun v24 => vSt (some 17) (pt b4 0) v24 W fun w_4 => leaveV [] w_4 fun W => vLd (.agg 17) (pt b4 0) W fun r => K (.tuple #[r, v, it x]) W := by
    intro W x cc cz f hk
    refine ld17 hr cc <| lay17 (w0 := w) (K := fun y W => K (.tuple #[y, v, it x]) W) hr cz (by simp) ?_
    intro w' f'
    exact hk w' v bl (f.trans f' fun k hk e => by omega) ((hb.more f).fr f' fun k hk e => hbl (by rw [hk, e])) (fun k => .inl) hr
  refine rFA0 <| rLd c2 (hr.cell (i := 16) (by decide)) <| rload_spec (hb.more f02) hl (hr.rg_lt 16) (k := 4) (by decide) ?_
  cases hld : ldP l (rg r 16) 4 with
  | none =>
    simp only [hld] at hK
    exact rExt0 <| rExt1 <| rNot <| rIfT <| FIN c2 z2 f02 hK
  | some s =>
  simp only [hld] at hK
  refine rExt0 <| rExt1 <| rNot <| rIfF <| rdecode_spec ?_
  intro w3 f3
  have f03 := f02.more f3
  have c3 := c2.fr f3 id
  have z3 := z2.fr f3 id
  rw [rdec_eq] at hK
  generalize hrd : rdec s = R at *
  obtain ⟨c, ok⟩ := R
  simp only at hK ⊢
  refine rExt0 <| rExt1 <| rAllocT zc48 ?_
  intro w4 h4 f4 s4
  have k4 : Cs w4 w3.heap.size [it 0, it 0, it 0, it 0, it 0] := ⟨_, h4⟩
  refine rStN k4 rfl (by simp) (by intro x hx; simp at hx; rcases hx with rfl | rfl | rfl | rfl | rfl <;> rfl) ?_
  intro w5 u5
  have hw3 : b4 < w3.heap.size := z3.lt
  have k5 : Cs w5 w3.heap.size c.cs := u5.cs
  have c5 := (c3.fr f4 id).up u5 (by omega)
  have z5 := (z3.fr f4 id).up u5 (by omega)
  have f05 : Fr (fun _ => False) w w5 := (f03.more f4).trans u5.fr fun k hk e => by omega
  cases hok : ok with
  | false =>
    rw [hok, if_neg (by decide)] at hK
    exact rNot <| rIfT <| FIN c5 z5 f05 hK
  | true =>
  rw [hok, if_pos rfl] at hK
  simp only at hK
  have hdec : decode s = some c := by rw [rdec_eq, hrd, hok]; rfl
  obtain ⟨hrt, hn1, hn2⟩ := decode_right hdec
  rw [← rdo_eq hrt] at hK
  clear h4 k4 u5 c3 z3
  generalize w3.heap.size = b9 at *
  refine rNot <| rIfF <| ld17 hr c5 <| rLdN k5 (by simp) <| wants_spec (c := c) hr hrt ?_
  intro w6 f6
  refine rAllocT zc114 ?_
  intro w7 h7 f7 s7
  have a7 : Cs w7 w6.heap.size [.bool false, .int .u64 0, it 0, str []] := ⟨_, h7⟩
  have hb10 : b9 < w6.heap.size := (k5.fr f6 id).lt
  refine rStN a7 rfl (by simp) (by intro x hx; simp at hx; rcases hx with rfl | rfl | rfl | rfl <;> rfl) ?_
  intro w8 u8
  have a8 : Cs w8 w6.heap.size (wantsP r c).cs := u8.cs
  have f68 := f6.more f7
  have c8 := (c5.fr f68 id).up u8 (by omega)
  have z8 := (z5.fr f68 id).up u8 (by omega)
  have k8 := (k5.fr f68 id).up u8 (by omega)
  have hw6 : w.heap.size ≤ w6.heap.size := (f05.more f6).size
  have f08 : Fr (fun _ => False) w w8 := (f05.more f68).trans u8.fr fun k hk e => by omega
  have hb8 := hb.more f08
  clear h7 a7 u8 c5 z5 k5
  generalize w6.heap.size = b10 at *
  unfold rdoP at hK
  obtain ⟨hwn, hwa⟩ := wants_n r c
  have hload := fun had => @wants_fits r c l had
  generalize wantsP r c = A at *
  -- what is read
  refine ⟨fun vs ds W => ∃ had, ds = [] ∧ W = w8 ∧ vs = [v, pt b2 0, pt b4 0, pt b9 0, pt b10 0, str had] ∧ had.length ≤ 8 ∧
      ((0 < A.n ∧ ldP l A.ad A.n = some had) ∨ (¬ 0 < A.n ∧ had = [])), ?_, ?_⟩
  · refine rFA0 <| rLd a8 rfl <| rGt <| rIf (fun h => ?_) (fun h => ?_)
    · have h : 0 < A.n := by
        have : (0 : Int) < A.n := by simpa using h
        omega
      rw [if_pos h] at hK
      refine rFA0 <| rLd a8 rfl <| rFA0 <| rLd a8 rfl <| rload_spec hb8 hl hwa hwn ?_
      cases hl2 : ldP l A.ad A.n with
      | none =>
        simp only [hl2] at hK
        exact rExt0 <| rExt1 <| rNot <| rIfT <| FIN c8 z8 f08 hK
      | some had =>
        have := ldP_len hl2
        exact rExt0 <| rExt1 <| rNot <| rIfF ⟨had, rfl, rfl, rfl, by omega, .inl ⟨h, rfl⟩⟩
    · have h : ¬ 0 < A.n := by
        have : ¬ (0 : Int) < A.n := by simpa using h
        omega
      exact ⟨[], rfl, rfl, rfl, by simp, .inr ⟨h, rfl⟩⟩
  rintro ρ ds W ⟨had, rfl, rfl, hρ, hhad, hcase⟩
  simp only [List.map_cons, List.map_nil, List.cons.injEq, and_true] at hρ
  obtain ⟨e1, e2, e4, e9, e10, e11⟩ := hρ
  unfold F32J1
  rw [e1, e2, e4, e9, e10, e11]
  have hK' : ∀ w' v' bl', Fr (fun _ => False) w w' → Bz w' v' (if A.wr = true ∧ 0 < A.n then wrl l A.ad A.s else l) bl' → (∀ k, bl' = some k → bl = some k ∨ b2 ≤ k) → St (doesP r c had).1 → K (.tuple #[stv (doesP r c had).1, v', it (doesP r c had).2]) w' := by
    rcases hcase with ⟨h1, h2⟩ | ⟨h1, h2⟩
    · rw [if_pos h1] at hK
      simp only [h2] at hK
      by_cases hw : A.wr = true
      · rw [if_pos hw] at hK
        rw [if_pos ⟨hw, h1⟩]
        exact hK
      · rw [if_neg hw] at hK
        rw [if_neg (fun e => hw e.1)]
        exact hK
    · rw [if_neg h1] at hK
      subst h2
      rw [if_neg (fun e => h1 e.2)]
      exact hK
  refine rFA0 <| rLd a8 (v := .bool A.wr) rfl <| rIf (fun hw => ?_) (fun hw => ?_)
  · have hn : 0 < A.n → ldP l A.ad A.n = some had := fun h => by
      rcases hcase with ⟨h1, h2⟩ | ⟨h1, h2⟩
      · exact h2
      · exact absurd h h1
    refine bs38_0 ?_
    intro w9 c9 f9 s9
    have hs0 : Bs w9 (sv W.heap.size 0 0) [] (some W.heap.size) := ⟨[], rfl, c9⟩
    refine Bs.app k38 hs0 ((hb8.more f9).src) (by simp; omega) ?_
    intro w10 v10 bl10 h10 f10 hbl10 hne
    rw [List.nil_append] at h10
    obtain ⟨q10, rfl⟩ := Option.ne_none_iff_exists'.1 (hne (by simp))
    have hq10 : W.heap.size ≤ q10 := by
      rcases hbl10 q10 rfl with e | e
      · simp only [Option.some.injEq] at e; omega
      · omega
    have f10' : Fr (fun _ => False) W w10 := f9.trans f10 fun k hk e => by simp only [Option.some.injEq] at e; omega
    have f010 := f08.more f10'
    have hs8 : w.heap.size ≤ W.heap.size := f08.size
    have hk8 := k8.lt
    have hc8 := c8.lt
    have hz8 := z8.lt
    have ha8 := a8.lt
    refine ⟨fun vs ds V => ds = [] ∧ ∃ i : Nat, i ≤ A.n ∧ vs = [v10, pt b2 0, pt b4 0, pt b9 0, pt b10 0, str had, it i] ∧ Fr (fun _ => False) w V ∧ Fr (fun k => k = q10) w10 V ∧ Bs V v10 (if 0 < A.n then wrl l A.ad (A.s.take i) else l) (some q10), fun vs _ _ => match vs with | [_, _, _, _, _, _, .int _ i] => A.n - i.toNat | _ => 0, ⟨rfl, 0, Nat.zero_le _, rfl, f010, Fr.refl _ _, ?_⟩, ?_⟩
    · rw [List.take_zero, wrl_nil, ite_self]
      exact h10
    rintro ρ ds V ⟨rfl, i, hi, hρ, fV, fQ, hB⟩
    have hρ0 := hρ
    simp only [List.map_cons, List.map_nil, List.cons.injEq, and_true] at hρ
    obtain ⟨e1, e2, e4, e9, e10, e11, e12⟩ := hρ
    unfold F32L1
    rw [hρ0, e1, e2, e4, e9, e10, e11, e12]
    have aV := (a8.fr f10' id).fr fQ (by omega)
    refine rFA0 <| rLd aV rfl <| rLt <| rIf (fun hlt => ?_) (fun hge => ?_)
    · have hlt : i < A.n := by
        have : (i : Int) < A.n := by simpa using hlt
        omega
      have hpos : 0 < A.n := by omega
      rw [if_pos hpos] at hB
      obtain ⟨hfit, hslen⟩ := hload had (hn hpos) hw
      obtain ⟨x, hx⟩ : ∃ x, A.s[i]? = some x := ⟨_, List.getElem?_eq_getElem (by omega)⟩
      refine ⟨fun W => Cs W b10 A.cs, aV.drew, ?_⟩
      refine rFA0 <| rLdS (ut A.ad) (fun W hW => ⟨_, hW, rfl⟩) <| rCv ?_
      rw [wrap_id (by omega) (by omega)]
      refine rAdd (by omega) (by omega) <| rFA0 <| rLdS (str A.s) (fun W hW => ⟨_, hW, rfl⟩) <| rIxS hx ?_
      have ea : (A.ad : Int) + (i : Int) = ((A.ad + i : Nat) : Int) := by omega
      rw [ea]
      have hBd : Bs V.drew v10 (wrl l A.ad (A.s.take i)) (some q10) := hB.more (Fr.refl _ V).drew
      have hwl : (wrl l A.ad (A.s.take i)).length = l.length := wrl_len (by simp; omega)
      refine hBd.writeT (i := A.ad + i) (x := x) (by omega) ?_
      intro w11 h11 f11 s11
      rw [wrl_set hfit hx] at h11
      refine rAdd (by omega) (by omega) ?_
      have ei : (i : Int) + 1 = ((i + 1 : Nat) : Int) := by omega
      rw [ei]
      refine ⟨⟨rfl, i + 1, by omega, rfl, fV.drew.trans f11 fun k hk e => by omega, fQ.drew.trans f11 fun k hk e => e, ?_⟩, ?_⟩
      · rw [if_pos hpos]
        exact h11
      · show A.n - ((i + 1 : Nat) : Int).toNat < A.n - ((i : Nat) : Int).toNat
        omega
    · have hi : i = A.n := by
        have : ¬ (i : Int) < A.n := by simpa using hge
        omega
      subst hi
      have q2 : b2 ≠ q10 := by omega
      have q4 : b4 ≠ q10 := by omega
      have q9 : b9 ≠ q10 := by omega
      have hBe : Bs V v10 (if A.wr = true ∧ 0 < A.n then wrl l A.ad A.s else l) (some q10) := by
        by_cases hpos : 0 < A.n
        · obtain ⟨hfit, hslen⟩ := hload had (hn hpos) hw
          rw [if_pos hpos, List.take_of_length_le (by omega)] at hB
          rw [if_pos ⟨hw, hpos⟩]
          exact hB
        · rw [if_neg hpos] at hB
          rw [if_neg (fun e => hpos e.2)]
          exact hB
      refine step_end (w0 := w) (bl := some q10) hr hrt hn1 hn2 hhad ((c8.fr f10' id).fr fQ q2) ((k8.fr f10' id).fr fQ q9) ((z8.fr f10' id).fr fQ q4) (by omega) (Bz.of hBe) (fun e => q4 (Option.some.inj e).symm) fV ?_
      intro w' f' hb' hst
      exact hK' w' v10 (some q10) f' hb' (fun k e => .inr (by simp only [Option.some.injEq] at e; omega)) hst
  · have hw : A.wr = false := hw
    rw [if_neg (by rw [hw]; simp)] at hK'
    refine step_end (w0 := w) (bl := bl) hr hrt hn1 hn2 hhad c8 k8 z8 (by omega) hb8 hbl f08 ?_
    intro w' f' hb' hst
    exact hK' w' v bl f' hb' (fun k => .inl) hst

/-- gatehouseref06.Over -/
theorem rover_spec {w : World} {v : Value} {l : List UInt8} {bl : Option Nat} {r : List Nat} {n : Int} {K : Value → World → Prop} (hb : Bz w v l bl) (hl : l.length ≤ 4096) (hr : St r) (hn2 : n < 9223372036854775808)
    (hK : ∀ w' v' bl', Fr (fun _ => False) w w' → Bz w' v' (overP n.toNat 0 r l).2.1 bl' → (∀ k, bl' = some k → bl = some k ∨ w.heap.size ≤ k) → St (overP n.toNat 0 r l).1 → K (.tuple #[stv (overP n.toNat 0 r l).1, v', it (overP n.toNat 0 r l).2.2.1, it (overP n.toNat 0 r l).2.2.2]) w') : CallK Tryd.prog 17 #[v, stv r, it n] w K := by
  apply Ret.call
  apply F17_ok
  unfold F17
  have hlt := hb.lt
  refine rBoxA ?_
  intro w1 c1' f1 s1
  have c1 : Cs w1 w.heap.size (stc r) := c1'
  refine rAllocT zc25 ?_
  intro w2 h2 f2 s2
  have z2 : Cs w2 w1.heap.size (stc (List.replicate 17 0)) := ⟨_, h2⟩
  have c2 := c1.fr f2 id
  have f02 := f1.more f2
  have hb2 := hb.more f02
  have hne : w.heap.size < w1.heap.size := by omega
  have hbl : ∀ k, bl = some k → k ≠ w.heap.size ∧ k ≠ w1.heap.size := fun k e => by have := hlt k e; omega
  have hw1 : w1.heap.size < w2.heap.size := z2.lt
  clear h2 c1 c1'
  have hle4 : w.heap.size ≤ w1.heap.size := by omega
  generalize hN : n.toNat = N at *
  refine ⟨fun vs ds W => ds = [] ∧ ∃ (i : Nat) (r' : List Nat) (v' : Value) (l' : List UInt8) (bl' : Option Nat), i ≤ N ∧ vs = [v', it n, pt w.heap.size 0, pt w1.heap.size 0, it i] ∧ Fr (fun _ => False) w W ∧ Cs W w.heap.size (stc r') ∧ Cs W w1.heap.size (stc (List.replicate 17 0)) ∧ Bz W v' l' bl' ∧ (∀ k, bl' = some k → k ≠ w.heap.size ∧ k ≠ w1.heap.size) ∧ (∀ k, bl' = some k → bl = some k ∨ w.heap.size ≤ k) ∧ l'.length = l.length ∧ St r' ∧ overP N 0 r l = overP (N - i) i r' l',
    fun vs _ _ => match vs with | [_, _, _, _, .int _ i] => N - i.toNat | _ => 0, ⟨rfl, 0, r, v, l, bl, by omega, rfl, f02, c2, z2, hb2, hbl, fun _ => .inl, rfl, hr, rfl⟩, ?_⟩
  rintro ρ ds W ⟨rfl, i, r', v', l', bl', hi, hρ, fW, cW, zW, hB, hnb, hold, hll, hr', ho⟩
  have hρ0 := hρ
  simp only [List.map_cons, List.map_nil, List.cons.injEq, and_true] at hρ
  obtain ⟨e0, e2, e4, e6, e10⟩ := hρ
  unfold F17L1
  rw [hρ0, e0, e2, e4, e6, e10]
  refine rLt <| rIf (fun hlt' => ?_) (fun hge => ?_)
  · have hlt' : i < N := by
      have : (i : Int) < n := by simpa using hlt'
      omega
    obtain ⟨k, hk⟩ : ∃ k, N - i = k + 1 := ⟨N - i - 1, by omega⟩
    rw [hk] at ho
    have hWs : w1.heap.size < W.heap.size := zW.lt
    refine ld17 hr' cW <| rstep_spec hB (by omega) hr' ?_
    intro w3 v3 bl3 f3 h3 hbl3 hst3
    have c3 := cW.fr f3 id
    have z3 := zW.fr f3 id
    have hsl := stepP_len r' l'
    have hnb3 : ∀ k, bl3 = some k → k ≠ w.heap.size ∧ k ≠ w1.heap.size := fun k e => by
      rcases hbl3 k e with e | e
      · exact hnb k e
      · omega
    have hsW := fW.size
    have hs3 := f3.size
    have hold3 : ∀ k, bl3 = some k → bl = some k ∨ w.heap.size ≤ k := fun k e => by
      rcases hbl3 k e with e | e
      · exact hold k e
      · exact .inr (by omega)
    refine rT0 <| rT1 <| rT2 <| newSt hst3 ?_
    intro w5 f5 c5 s5
    have c5' := c3.fr f5 id
    have z5 := z3.fr f5 id
    have b5 := h3.more f5
    refine ld17 hst3 c5 ?_
    refine rStN c5' (by simp [hst3.len]) (by rw [stc_len hr']; decide) (stc_one _) ?_
    intro w6 u6
    have c6 := u6.cs
    have e2 : spl (stc r') 0 (stc (stepP r' l').1).toArray.toList = stc (stepP r' l').1 := by simp [spl, hst3.len, hr'.len]
    rw [e2] at c6
    have z6 := z5.up u6 (by omega)
    have b6 := b5.fr u6.fr fun k hk => (hnb3 k hk).1
    have f06 : Fr (fun _ => False) w w6 := ((fW.more f3).more f5).trans u6.fr fun k hk e => by omega
    refine rNe <| rIf (fun hx => ?_) (fun hx => ?_)
    · have hx : ¬ (stepP r' l').2.2 = 0 := by simpa using hx
      rw [overP_end hx] at ho
      rw [ho] at hK
      refine ld17 hst3 c6 <| lay17 (w0 := w) (K := fun x W => K (.tuple #[x, v3, it i, it (stepP r' l').2.2]) W) hst3 z6 (by simp) ?_
      intro w' f'
      exact hK w' v3 bl3 (f06.trans f' fun k hk e => by omega) (b6.fr f' fun k hk => (hnb3 k hk).2) hold3 hst3
    · have hx : (stepP r' l').2.2 = 0 := by simpa using hx
      rw [overP_go hx] at ho
      refine rAdd (by omega) (by omega) ?_
      have ei : (i : Int) + 1 = ((i + 1 : Nat) : Int) := by omega
      rw [ei]
      have ek : k = N - (i + 1) := by omega
      rw [ek] at ho
      refine ⟨⟨rfl, i + 1, _, v3, _, bl3, by omega, rfl, f06, c6, z6, b6, hnb3, hold3, by rw [hsl, hll], hst3, ho⟩, ?_⟩
      show N - ((i + 1 : Nat) : Int).toNat < N - ((i : Nat) : Int).toNat
      omega
  · have hi : i = N := by
      have : ¬ (i : Int) < n := by simpa using hge
      omega
    subst hi
    have : overP (i - i) i r' l' = (r', l', i, 0) := by rw [Nat.sub_self]; rfl
    rw [this] at ho
    rw [ho] at hK
    refine ld17 hr' cW ?_
    have eN : (if (0 : Int) > n then (0 : Int) else n) = i := by split <;> omega
    show vSt (some 17) (pt w1.heap.size 0) (stv r') W fun w2 => leaveV [] w2 fun W => vLd (.agg 17) (pt w1.heap.size 0) W fun r => K (.tuple #[r, v', it (if (0 : Int) > n then 0 else n), it 0]) W
    rw [eN]
    refine lay17 (w0 := w) (K := fun x W => K (.tuple #[x, v', it i, it 0]) W) hr' zW (by simp) ?_
    intro w' f'
    exact hK w' v' bl' (fW.trans f' fun k hk e => by omega) (hB.fr f' fun k hk e => (hnb k hk).2 e) hold hr'

end Go.Proofs.YtmaecpbkbkncgaaDoor
