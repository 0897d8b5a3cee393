/-
  Isa, part 5: the document's bytes, and its numbers. Own work.
-/
import Derived.Test.YtnmmpgeojimgoaaDoorI4
import Derived.Test.YtnmmpgeojimgoaaDoorI4
set_option linter.unusedVariables false
set_option linter.unusedSimpArgs false
set_option maxRecDepth 100000
set_option maxRecDepth 100000
namespace Go.Proofs.YtnmmpgeojimgoaaDoor
open Go Go.V Go.RowKit

theorem rsh_num {op : Int} : ((rSh op = 1 ∨ rSh op = 5 ∨ rSh op = 6) ↔ (shNum op = 1 ∨ shNum op = 3)) ∧ (rSh op = 4 ↔ shNum op = 2) := by
  rcases shapes op with ⟨h1, h2, h3⟩ | ⟨h1, h2, h3⟩ | ⟨h1, h2, h3⟩ | ⟨h1, h2, h3⟩ | ⟨h1, h2, h3⟩ | ⟨h1, h2, h3⟩ | ⟨h1, h2, h3⟩ <;>
  · rw [h1, h3]; omega

/-- gatehouseref02.Encode, of a right one -/
theorem rencode_spec {w : World} {x : Cd} {K : Value → World → Prop} (hn1 : -32768 ≤ x.n) (hn2 : x.n < 65536) (hK : ∀ w', Fr (fun _ => False) w w' → K (str (enc x)) w') : CallK Tryd.prog 15 #[x.v] w K := by
  apply Ret.call
  apply F15_ok
  unfold F15
  refine rBoxA ?_
  intro w1 c1' f1 s1
  have c1 : Cs w1 w.heap.size x.cs := c1'
  refine rFA0 <| rLd c1 rfl <| rCv <| rFA0 <| rLd c1 rfl <| rCv <| rFA0 <| rLd c1 rfl <| rCv <| rFA0 <| rLd c1 rfl <| rCv ?_
  rw [wrap_u8i, wrap_u8i, wrap_u8i, wrap_u8i]
  refine bs42_4 ?_
  intro w2 v b2 f2 s2
  have c2 := c1.fr f2 id
  have f02 := f1.more f2
  generalize hN : (if x.n < 0 then x.n + 65536 else x.n) = N
  have hN0 : 0 ≤ N ∧ N < 65536 := by rw [← hN]; split <;> omega
  have hNm : N % 256 = x.n % 256 ∧ N / 256 % 256 = x.n / 256 % 256 := by rw [← hN]; split <;> omega
  refine rFA0 <| rLd c2 rfl ?_
  refine joinOne (L := [pt w.heap.size 0, v, it N]) (ds := []) (w := w2) ?_ ?_
  · refine rLt <| rIf (fun h => ?_) (fun h => ⟨?_, rfl, rfl⟩)
    · have h : x.n < 0 := by simpa using h
      refine rAdd (by omega) (by omega) ⟨?_, rfl, rfl⟩
      rw [← hN, if_pos h]
    · have h : ¬ x.n < 0 := by simpa using h
      rw [← hN, if_neg h]
  intro ρ hρ
  simp only [List.map_cons, List.map_nil, List.cons.injEq, and_true] at hρ
  obtain ⟨e1, e3, e4⟩ := hρ
  unfold F15J1
  rw [e1, e3, e4]
  refine rFA0 <| rLd c2 rfl <| rshape_spec ?_
  have hiff := rsh_num (op := x.op)
  have hsh : decide (rSh x.op = 1 ∨ rSh x.op = 5 ∨ rSh x.op = 6) = decide (shNum x.op = 1 ∨ shNum x.op = 3) := by
    rw [Bool.eq_iff_iff]; simp only [decide_eq_true_eq]; exact hiff.1
  generalize hk : shNum x.op = k at *
  generalize hS : rSh x.op = S at *
  refine joinOne (L := [v, it N, it S, .bool (decide (k = 1 ∨ k = 3))]) (ds := []) (w := w2) ?_ ?_
  · rw [← hsh]
    have H : ∀ {b : Bool}, b = decide (S = 1 ∨ S = 5 ∨ S = 6) → [v, it N, it S, Value.bool b] = [v, it N, it S, .bool (decide (S = 1 ∨ S = 5 ∨ S = 6))] ∧ ([] : List Nat) = [] ∧ w2 = w2 := fun e => ⟨by rw [e], rfl, rfl⟩
    refine rEq <| rIf (fun h => ?_) (fun h => ?_)
    · rw [h]
      have h : S = 1 := by simpa using h
      exact H (by simp [h])
    have h1 : ¬ S = 1 := by simpa using h
    refine rEq <| rIf (fun h => ?_) (fun h => rEq (H ?_))
    · rw [h]
      have h : S = 5 := by simpa using h
      exact H (by simp [h])
    · have h5 : ¬ S = 5 := by simpa using h
      simp [h1, h5]; rfl
  intro ρ hρ
  simp only [List.map_cons, List.map_nil, List.cons.injEq, and_true] at hρ
  obtain ⟨e3, e4, e26, e27⟩ := hρ
  unfold F15J3
  rw [e3, e4, e26, e27]
  unfold enc at hK
  rw [hk] at hK
  have hfin : ∀ {w' : World} {p q r t : UInt8}, Bs w' v [p, q, r, t] (some w1.heap.size) → K (str [p, q, r, t]) w' → vB2S v w' fun v48 => leaveV [] w' fun W => K v48 W := fun hb k => hb.toStr k
  refine rIf (fun h => ?_) (fun h => ?_)
  · have h : k = 1 ∨ k = 3 := by simpa using h
    simp only [if_pos h] at hK
    refine ⟨rfl, by decide, rCv ?_⟩
    rw [Int.tmod_eq_emod_of_nonneg hN0.1, wrap_u8i]
    refine b2.write (i := 2) (by simp) ?_
    intro w3 b3 f3 s3
    refine ⟨rfl, by decide, rCv ?_⟩
    rw [Int.tdiv_eq_ediv_of_nonneg hN0.1, wrap_id (by omega) (by omega), wrap_u8i]
    refine b3.write (i := 3) (by simp) ?_
    intro w4 b4 f4 s4
    have e1 : u8 (N % 256) = u8 x.n := by unfold u8; rw [show N % 256 % 256 = x.n % 256 by omega]
    have e2 : u8 (N / 256) = u8 (x.n / 256) := by unfold u8; rw [hNm.2]
    rw [e1, e2] at b4
    refine hfin b4 (hK w4 ?_)
    exact (f02.trans f3 fun k hk e => by have := f1.size; omega).trans f4 fun k hk e => by have := f1.size; omega
  have h : ¬ (k = 1 ∨ k = 3) := by simpa using h
  simp only [if_neg h] at hK
  refine rEqE (fun h4 => ?_) (fun h4 => ?_)
  · have h2 : k = 2 := hiff.2.1 h4
    simp only [if_pos h2] at hK
    refine rCv ?_
    rw [wrap_u8i]
    refine b2.write (i := 3) (by simp) ?_
    intro w3 b3 f3 s3
    have e1 : u8 N = u8 x.n := by unfold u8; rw [hNm.1]
    rw [e1] at b3
    refine hfin b3 (hK w3 ?_)
    exact f02.trans f3 fun k hk e => by have := f1.size; omega
  · have h2 : ¬ k = 2 := fun e => h4 (hiff.2.2 e)
    simp only [if_neg h2] at hK
    exact hfin b2 (hK w2 f02)

def rdec (s : List UInt8) : Cd × Bool :=
  match s with
  | [p, q, r, t] => (decC p q r t, rightB (decC p q r t))
  | _ => (⟨0, 0, 0, 0, 0⟩, false)

theorem rdec4 (p q r t : UInt8) : rdec [p, q, r, t] = (decC p q r t, rightB (decC p q r t)) := rfl

theorem rdec_eq (s : List UInt8) : decode s = if (rdec s).2 = true then some (rdec s).1 else none :=
  match s with
  | [] => rfl
  | [_] => rfl
  | [_, _] => rfl
  | [_, _, _] => rfl
  | [_, _, _, _] => rfl
  | _ :: _ :: _ :: _ :: _ :: _ => rfl

theorem rN16 {r t : UInt8} {K : Value → Prop} (k : K (it (r.toNat + 256 * t.toNat))) : vBin (.int .i64) .mul (.int .i64 256) (it t.toNat) fun v23 => vBin (.int .i64) .add (it r.toNat) v23 K := by
  have h1 := r.toNat_lt
  have h2 := t.toNat_lt
  refine ⟨rfl, ?_⟩
  rw [wrap_id (by omega) (by omega)]
  exact rAdd (by omega) (by omega) k

/-- what is decoded: told, and whether it is right -/
theorem rdec_end {w0 w : World} {b q : Nat} {x : Cd} {K : Value → World → Prop} (f : Fr (fun _ => False) w0 w) (c : Cs w b x.cs) (d : Cs w q [it 0, it 0, it 0, it 0, it 0]) (hq : w0.heap.size ≤ q) (hne : q ≠ b)
    (hK : ∀ w', Fr (fun _ => False) w0 w' → K (.tuple #[x.v, .bool (rightB x)]) w') :
    drawF2 w fun S T => vLdS S (.agg 5) (pt b 0) fun v60 => vLdS (fun w => S w ∨ T w) (.agg 5) (pt b 0) fun v61 =>
      (CallK Tryd.prog 11 #[v61] w.drew fun v62 w_7 => S w_7 ∧ ((vSt (some 5) (pt q 0) v60 w_7 fun w_8 => T w_8 ∧ (leaveV [] w_8 fun W => vLd (.agg 5) (pt q 0) W fun r => K (.tuple #[r, v62]) W)) ∧ (True))) ∧ (True) := by
  refine ⟨fun W => Cs W b x.cs, fun W => Cs W b x.cs, c.drew, ?_⟩
  have hl : ∀ {S : World → Prop} {Q : Value → Prop}, (∀ W, S W → Cs W b x.cs) → Q x.v → vLdS S (.agg 5) (pt b 0) Q := by
    intro S Q hS k
    refine ⟨x.cs, rfl, fun W hW j v hj => ?_, k⟩
    rw [addr_add, Nat.zero_add]
    exact Cs.cell (hS W hW) hj
  refine hl (fun W h => h) <| hl (fun W h => h.elim id id) ⟨?_, trivial⟩
  refine rright_spec (x := x) ?_
  intro w2 f2
  have c2 := c.drew.fr f2 id
  have d2 := d.drew.fr f2 id
  refine ⟨c2, ?_, trivial⟩
  refine rStN d2 rfl (by simp) (by intro x hx; simp at hx; rcases hx with rfl | rfl | rfl | rfl | rfl <;> rfl) ?_
  intro w3 u3
  refine ⟨c2.up u3 hne.symm, ?_⟩
  show vLd (.agg 5) (pt q 0) w3 fun r => K (.tuple #[r, .bool (rightB x)]) w3
  refine rLdN u3.cs (by simp [spl]) ?_
  exact hK w3 ((f.drew.more f2).trans u3.fr fun k hk e => by omega)

/-- gatehouseref02.Decode -/
theorem rdecode_spec {w : World} {s : List UInt8} {K : Value → World → Prop} (hK : ∀ w', Fr (fun _ => False) w w' → K (.tuple #[(rdec s).1.v, .bool (rdec s).2]) w') : CallK Tryd.prog 22 #[str s] w K := by
  apply Ret.call
  apply F22_ok
  unfold F22
  refine rAllocT zc48 ?_
  intro w1 h1 f1 s1
  have c1 : Cs w1 w.heap.size [it 0, it 0, it 0, it 0, it 0] := ⟨_, h1⟩
  refine rLenB <| rNe <| rIf (fun h => ?_) (fun h => ?_)
  · have h : (s.length : Int) ≠ 4 := by simpa using h
    refine build48e ?_
    refine rStN c1 rfl (by simp) (by intro x hx; simp at hx; rcases hx with rfl; rfl) ?_
    intro w3 u3
    refine rLdN u3.cs (by simp [spl]) ?_
    have := hK w3 (f1.trans u3.fr fun k hk e => by omega)
    have e : rdec s = (⟨0, 0, 0, 0, 0⟩, false) := by
      unfold rdec
      split
      · simp at h
      · rfl
    rw [e] at this
    exact this
  have h : (s.length : Int) = 4 := by simpa using h
  match s, h with
  | [p, q, r, t], _ => ?_
  clear h
  rw [rdec4] at hK
  refine ⟨fun W => Cs W w.heap.size [it 0, it 0, it 0, it 0, it 0], c1.drew, ?_⟩
  refine rIxS (k := 0) (b := p) rfl <| rB64 <| rIxS (k := 1) (b := q) rfl <| rB64 <| build48 ⟨?_, trivial⟩
  refine rAllocT zc48 ?_
  intro w3 h3 f3 s3
  have d3 : Cs w3 w1.drew.heap.size [it 0, it 0, it 0, it 0, it 0] := ⟨_, h3⟩
  have c3 := c1.drew.fr f3 id
  refine ⟨c3, ?_, trivial⟩
  refine rStN d3 rfl (by simp) (by intro x hx; simp at hx; rcases hx with rfl | rfl | rfl <;> rfl) ?_
  intro w4 u4
  have hlt := c1.lt
  have hb0 : w1.drew.heap.size = w1.heap.size := rfl
  have d4 : Cs w4 w1.drew.heap.size [it p.toNat, it q.toNat, it 0, it 0, it 0] := u4.cs
  have c4 := c3.up u4 (by omega)
  have f4 : Fr (fun _ => False) w w4 := ((f1.drew).more f3).trans u4.fr fun k hk e => by omega
  have hb : w.heap.size ≤ w1.drew.heap.size := by omega
  have hne : w.heap.size ≠ w1.drew.heap.size := by omega
  clear c1 c3 d3 u4 h1 h3
  generalize w1.drew.heap.size = b at *
  refine ⟨fun _ => True, trivial, ?_⟩
  refine rIxS (k := 2) (b := r) rfl <| rB64 <| rIxS (k := 3) (b := t) rfl <| rB64 <| rN16 <| rFA0 <| rLd d4.drew rfl <| rshape_spec ?_
  have fd := f4.drew
  have dd := d4.drew
  have cd := c4.drew
  clear f4 d4 c4
  generalize w4.drew = V at *
  have hiff := rsh_num (op := (p.toNat : Int))
  have hst : ∀ {x : Cd} {W : World}, Fr (fun _ => False) w W → Cs W b x.cs → Cs W w.heap.size [it 0, it 0, it 0, it 0, it 0] → decC p q r t = x → drawF2 W fun S T => vLdS S (.agg 5) (pt b 0) fun v60 => vLdS (fun w => S w ∨ T w) (.agg 5) (pt b 0) fun v61 =>
      (CallK Tryd.prog 11 #[v61] W.drew fun v62 w_7 => S w_7 ∧ ((vSt (some 5) (pt w.heap.size 0) v60 w_7 fun w_8 => T w_8 ∧ (leaveV [] w_8 fun W => vLd (.agg 5) (pt w.heap.size 0) W fun r => K (.tuple #[r, v62]) W)) ∧ (True))) ∧ (True) := by
    intro x W f c d e
    subst e
    exact rdec_end f c d (Nat.le_refl _) hne hK
  have hsh1 : rSh (p.toNat : Int) = 1 ↔ shNum (p.toNat : Int) = 1 := by
    rcases shapes (p.toNat : Int) with h | h | h | h | h | h | h <;> omega
  refine rEqE (fun hk => ?_) (fun hk => ?_)
  · have hk := hsh1.1 hk
    refine rFA0 <| rSt dd (by simp) rfl (by simp) ?_
    intro w6 u6
    exact hst (x := ⟨p.toNat, q.toNat, 0, 0, r.toNat + 256 * t.toNat⟩) (fd.trans u6.fr fun k hk e => by omega) u6.cs (cd.up u6 hne) (by unfold decC; rw [if_pos hk])
  have hk1 : ¬ shNum (p.toNat : Int) = 1 := fun e => hk (hsh1.2 e)
  generalize hS : rSh (p.toNat : Int) = S at *
  refine joinOne (L := [str [p, q, r, t], pt w.heap.size 0, pt b 0, it (r.toNat + 256 * t.toNat), it S, .bool (decide (S = 5 ∨ S = 6))]) (ds := []) (w := V) ?_ ?_
  · refine rEq <| rIf (fun h => ?_) (fun h => rEq ⟨?_, rfl, rfl⟩)
    · rw [h]
      have h : S = 5 := by simpa using h
      exact ⟨by simp [h], rfl, rfl⟩
    · have h : ¬ S = 5 := by simpa using h
      have : (S == 6) = decide (S = 5 ∨ S = 6) := by simp [h]; rfl
      rw [this]
  intro ρ hρ
  simp only [List.map_cons, List.map_nil, List.cons.injEq, and_true] at hρ
  obtain ⟨e0, e2, e4, e5, e27, eC⟩ := hρ
  unfold F22J2
  rw [e0, e2, e4, e5, e27, eC]
  refine rIf (fun h => ?_) (fun h => ?_)
  · have h : S = 5 ∨ S = 6 := by simpa using h
    have hk3 : shNum (p.toNat : Int) = 3 := by
      rcases hiff.1.1 (.inr h) with e | e
      · exact absurd e hk1
      · exact e
    refine rFA0 <| rSt dd (by simp) rfl (by simp) ?_
    intro w6 u6
    refine rGe <| rIf (fun h2 => ?_) (fun h2 => ?_)
    · have h2 : (32768 : Int) ≤ r.toNat + 256 * t.toNat := by simpa using h2
      have q1 := r.toNat_lt
      have q2 := t.toNat_lt
      refine rSub (by omega) (by omega) <| rFA0 <| rSt u6.cs (by simp) rfl (by simp) ?_
      intro w7 u7
      refine hst (x := ⟨p.toNat, q.toNat, 0, 0, r.toNat + 256 * t.toNat - 65536⟩) ((fd.trans u6.fr fun k hk e => by omega).trans u7.fr fun k hk e => by omega) u7.cs ((cd.up u6 hne).up u7 hne) ?_
      unfold decC
      rw [if_neg hk1, if_pos hk3]
      unfold sx
      rw [if_pos h2]
    · have h2 : ¬ (32768 : Int) ≤ r.toNat + 256 * t.toNat := by simpa using h2
      refine hst (x := ⟨p.toNat, q.toNat, 0, 0, r.toNat + 256 * t.toNat⟩) (fd.trans u6.fr fun k hk e => by omega) u6.cs (cd.up u6 hne) ?_
      unfold decC
      rw [if_neg hk1, if_pos hk3]
      unfold sx
      rw [if_neg h2]
  have h : ¬ (S = 5 ∨ S = 6) := by simpa using h
  have hk3 : ¬ shNum (p.toNat : Int) = 3 := fun e => by
    rcases hiff.1.2 (.inr e) with x | x
    · exact hk x
    · exact h x
  refine rEqE (fun h4 => ?_) (fun h4 => ?_)
  · have hk2 := hiff.2.1 h4
    refine rIxS (k := 2) (b := r) rfl <| rB64 <| rFA0 <| rSt dd (by simp) rfl (by simp) ?_
    intro w6 u6
    refine rIxS (k := 3) (b := t) rfl <| rB64 <| rFA0 <| rSt u6.cs (by simp) rfl (by simp) ?_
    intro w7 u7
    exact hst (x := ⟨p.toNat, q.toNat, r.toNat, 0, t.toNat⟩) ((fd.trans u6.fr fun k hk e => by omega).trans u7.fr fun k hk e => by omega) u7.cs ((cd.up u6 hne).up u7 hne) (by unfold decC; rw [if_neg hk1, if_neg hk3, if_pos hk2])
  · have hk2 : ¬ shNum (p.toNat : Int) = 2 := fun e => h4 (hiff.2.2 e)
    refine rIxS (k := 2) (b := r) rfl <| rB64 <| rFA0 <| rSt dd (by simp) rfl (by simp) ?_
    intro w6 u6
    refine rIxS (k := 3) (b := t) rfl <| rB64 <| rFA0 <| rSt u6.cs (by simp) rfl (by simp) ?_
    intro w7 u7
    exact hst (x := ⟨p.toNat, q.toNat, r.toNat, t.toNat, 0⟩) ((fd.trans u6.fr fun k hk e => by omega).trans u7.fr fun k hk e => by omega) u7.cs ((cd.up u6 hne).up u7 hne) (by unfold decC; rw [if_neg hk1, if_neg hk3, if_neg hk2])

/-! ### Numbers -/

end Go.Proofs.YtnmmpgeojimgoaaDoor
