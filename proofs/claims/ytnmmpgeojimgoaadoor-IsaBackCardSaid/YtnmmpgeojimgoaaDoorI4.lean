/-
  Isa, part 4: the document's table: names, shapes, what is right. Own work.
-/
import Derived.Test.YtnmmpgeojimgoaaDoorI3
set_option linter.unusedVariables false
set_option linter.unusedSimpArgs false
set_option maxRecDepth 100000
set_option maxRecDepth 100000
namespace Go.Proofs.YtnmmpgeojimgoaaDoor
open Go Go.V Go.RowKit

theorem rEqE {op n : Int} {A B : Prop} (ha : op = n → A) (hb : ¬ op = n → B) : vBin (.int .i64) .eql (it op) (it n) fun v => vBool v fun c => if c = true then A else B :=
  rEq <| rIf (fun h => ha (by simpa using h)) (fun h => hb (by simpa using h))

/-- gatehouseref02.Name -/
theorem name_spec {w : World} {op : Int} {K : Value → World → Prop} (hK : K (str (opName op)) w) : CallK Tryd.prog 24 #[it op] w K := by
  apply Ret.call
  apply F24_ok
  unfold F24
  have E : ∀ {n : Int} {A B : Prop}, (op = n → A) → (¬ op = n → B) → vBin (.int .i64) .eql (it op) (it n) fun v => vBool v fun c => if c = true then A else B := rEqE
  refine E (fun h => ?_) (fun h0 => ?_)
  · subst h; exact hK
  refine E (fun h => ?_) (fun h1 => ?_)
  · subst h; exact hK
  refine E (fun h => ?_) (fun h2 => ?_)
  · subst h; exact hK
  refine E (fun h => ?_) (fun h3 => ?_)
  · subst h; exact hK
  refine E (fun h => ?_) (fun h4 => ?_)
  · subst h; exact hK
  refine E (fun h => ?_) (fun h5 => ?_)
  · subst h; exact hK
  refine E (fun h => ?_) (fun h6 => ?_)
  · subst h; exact hK
  refine E (fun h => ?_) (fun h7 => ?_)
  · subst h; exact hK
  refine E (fun h => ?_) (fun h8 => ?_)
  · subst h; exact hK
  refine E (fun h => ?_) (fun h9 => ?_)
  · subst h; exact hK
  refine E (fun h => ?_) (fun h10 => ?_)
  · subst h; exact hK
  refine E (fun h => ?_) (fun h11 => ?_)
  · subst h; exact hK
  refine E (fun h => ?_) (fun h12 => ?_)
  · subst h; exact hK
  refine E (fun h => ?_) (fun h13 => ?_)
  · subst h; exact hK
  refine E (fun h => ?_) (fun h14 => ?_)
  · subst h; exact hK
  refine E (fun h => ?_) (fun h15 => ?_)
  · subst h; exact hK
  refine E (fun h => ?_) (fun h16 => ?_)
  · subst h; exact hK
  refine E (fun h => ?_) (fun h17 => ?_)
  · subst h; exact hK
  refine E (fun h => ?_) (fun h18 => ?_)
  · subst h; exact hK
  refine E (fun h => ?_) (fun h19 => ?_)
  · subst h; exact hK
  refine E (fun h => ?_) (fun h20 => ?_)
  · subst h; exact hK
  refine E (fun h => ?_) (fun h21 => ?_)
  · subst h; exact hK
  refine E (fun h => ?_) (fun h22 => ?_)
  · subst h; exact hK
  refine E (fun h => ?_) (fun h23 => ?_)
  · subst h; exact hK
  refine E (fun h => ?_) (fun h24 => ?_)
  · subst h; exact hK
  refine E (fun h => ?_) (fun h25 => ?_)
  · subst h; exact hK
  refine E (fun h => ?_) (fun h26 => ?_)
  · subst h; exact hK
  have ho : op < 0 ∨ 27 ≤ op := by omega
  rw [opName_out ho] at hK
  exact hK

def rSh (op : Int) : Int :=
  if op = 3 ∨ op = 4 then 1 else if op = 5 ∨ op = 25 then 2 else if 6 ≤ op ∧ op ≤ 17 then 3 else if 18 ≤ op ∧ op ≤ 21 then 4 else if op = 22 then 5 else if op = 23 ∨ op = 24 then 6 else 0

/-- gatehouseref02.Shape -/
theorem rshape_spec {w : World} {op : Int} {K : Value → World → Prop} (hK : K (it (rSh op)) w) : CallK Tryd.prog 25 #[it op] w K := by
  apply Ret.call
  apply F25_ok
  unfold F25
  unfold rSh at hK
  have E : ∀ {n : Int} {A B : Prop}, (op = n → A) → (¬ op = n → B) → vBin (.int .i64) .eql (it op) (it n) fun v => vBool v fun c => if c = true then A else B := rEqE
  refine E (fun h => ?_) (fun h3 => ?_)
  · rw [if_pos (.inl h)] at hK; exact hK
  refine E (fun h => ?_) (fun h4 => ?_)
  · rw [if_pos (.inr h)] at hK; exact hK
  rw [if_neg (by omega)] at hK
  refine joinOne (L := [it op, .bool (decide (op = 5 ∨ op = 25))]) (ds := []) (w := w) ?_ ?_
  · refine rEq <| rIf (fun h => ⟨by simp at h; simp [h], rfl, rfl⟩) (fun h => rEq ⟨by simp at h; simp [h]; rfl, rfl, rfl⟩)
  intro ρ hρ
  simp only [List.map_cons, List.map_nil, List.cons.injEq, and_true] at hρ
  obtain ⟨e0, e10⟩ := hρ
  unfold F25J3
  rw [e0, e10]
  refine rIf (fun h => ?_) (fun h => ?_)
  · rw [if_pos (by simpa using h)] at hK; exact hK
  have h : ¬ (op = 5 ∨ op = 25) := by simpa using h
  rw [if_neg h] at hK
  have hj : ¬ (6 ≤ op ∧ op ≤ 17) → joinF [0, 24] (fun J5 => vBin (.int .i64) .geq (it op) (.int .i64 18) fun v26 => vBool v26 fun g_3 => if g_3 = true then (vBin (.int .i64) .leq (it op) (.int .i64 21) fun v29 => J5 [(it op), v29] [] w) else (J5 [(it op), (.bool false)] [] w)) (F25J5 K) := by
    intro hn
    rw [if_neg hn] at hK
    refine joinOne (L := [it op, .bool (decide (18 ≤ op) && decide (op ≤ 21))]) (ds := []) (w := w) ?_ ?_
    · refine rGe <| rIf (fun h => rLe ⟨by simp [h], rfl, rfl⟩) (fun h => ⟨by simp [h], rfl, rfl⟩)
    intro ρ hρ
    simp only [List.map_cons, List.map_nil, List.cons.injEq, and_true] at hρ
    obtain ⟨e0, e24⟩ := hρ
    unfold F25J5
    rw [e0, e24]
    refine rIf (fun h => ?_) (fun h => ?_)
    · simp at h
      rw [if_pos h] at hK; exact hK
    simp at h
    rw [if_neg (by omega)] at hK
    refine E (fun h => ?_) (fun h => ?_)
    · rw [if_pos h] at hK; exact hK
    rw [if_neg h] at hK
    refine E (fun h => ?_) (fun h => ?_)
    · rw [if_pos (.inl h)] at hK; exact hK
    refine E (fun h => ?_) (fun h => ?_)
    · rw [if_pos (.inr h)] at hK; exact hK
    rw [if_neg (by omega)] at hK
    exact hK
  refine rGe <| rIf (fun h6 => rLe <| rIf (fun h17 => ?_) (fun h17 => ?_)) (fun h6 => ?_)
  · have h6 : 6 ≤ op := by simpa using h6
    have h17 : op ≤ 17 := by simpa using h17
    rw [if_pos ⟨h6, h17⟩] at hK; exact hK
  · have h17 : ¬ op ≤ 17 := by simpa using h17
    exact hj (by omega)
  · have h6 : ¬ 6 ≤ op := by simpa using h6
    exact hj (by omega)

def regB (n : Int) : Bool := decide (0 ≤ n) && decide (n ≤ 15)
def wayB (n : Int) : Bool := decide (-32768 ≤ n) && decide (n ≤ 32767)

theorem rAndW {p q : Bool} {A : Prop} {w : World} {K : Value → World → Prop} (hA : K (.bool q) w → A) (hK : K (.bool (p && q)) w) : vBool (.bool p) fun g => if g = true then A else K (.bool false) w := by
  cases p
  · exact hK
  · exact hA hK

theorem reg_spec {w : World} {n : Int} {K : Value → World → Prop} (hK : K (.bool (regB n)) w) : CallK Tryd.prog 26 #[it n] w K := by
  apply Ret.call
  apply F26_ok
  unfold F26
  exact rGe <| rAndW (fun hK => rLe hK) hK

theorem way_spec {w : World} {n : Int} {K : Value → World → Prop} (hK : K (.bool (wayB n)) w) : CallK Tryd.prog 27 #[it n] w K := by
  apply Ret.call
  apply F27_ok
  unfold F27
  exact rGe <| rAndW (fun hK => rLe hK) hK

/-- what is right, by the document's shapes -/
def right2 (x : Cd) : Bool :=
  if rSh x.op = 1 then regB x.a && (x.b == 0 && (x.c == 0 && (decide (0 ≤ x.n) && decide (x.n ≤ 65535))))
  else if rSh x.op = 2 then regB x.a && (regB x.b && (x.c == 0 && x.n == 0))
  else if rSh x.op = 3 then regB x.a && (regB x.b && (regB x.c && x.n == 0))
  else if rSh x.op = 4 then regB x.a && (regB x.b && (x.c == 0 && (decide (0 ≤ x.n) && decide (x.n ≤ 255))))
  else if rSh x.op = 5 then x.a == 0 && (x.b == 0 && (x.c == 0 && wayB x.n))
  else if rSh x.op = 6 then regB x.a && (x.b == 0 && (x.c == 0 && wayB x.n))
  else x.a == 0 && (x.b == 0 && (x.c == 0 && x.n == 0))

theorem shapes (op : Int) : (rSh op = 1 ∧ shRegs op = 1 ∧ shNum op = 1) ∨ (rSh op = 2 ∧ shRegs op = 2 ∧ shNum op = 0) ∨ (rSh op = 3 ∧ shRegs op = 3 ∧ shNum op = 0) ∨ (rSh op = 4 ∧ shRegs op = 2 ∧ shNum op = 2) ∨ (rSh op = 5 ∧ shRegs op = 0 ∧ shNum op = 3) ∨ (rSh op = 6 ∧ shRegs op = 1 ∧ shNum op = 3) ∨ (rSh op = 0 ∧ shRegs op = 0 ∧ shNum op = 0) := by
  unfold rSh shRegs shNum
  by_cases h1 : op = 3 ∨ op = 4
  · simp only [if_pos h1]; exact .inl ⟨trivial, trivial, trivial⟩
  simp only [if_neg h1]
  by_cases h2 : op = 5 ∨ op = 25
  · simp only [if_pos h2]; exact .inr (.inl ⟨trivial, trivial, trivial⟩)
  simp only [if_neg h2]
  by_cases h3 : 6 ≤ op ∧ op ≤ 17
  · simp only [if_pos h3]; exact .inr (.inr (.inl ⟨trivial, trivial, trivial⟩))
  simp only [if_neg h3]
  by_cases h4 : 18 ≤ op ∧ op ≤ 21
  · simp only [if_pos h4]; exact .inr (.inr (.inr (.inl ⟨trivial, trivial, trivial⟩)))
  simp only [if_neg h4]
  by_cases h5 : op = 22
  · simp only [if_pos h5]; exact .inr (.inr (.inr (.inr (.inl ⟨trivial, trivial, trivial⟩))))
  simp only [if_neg h5]
  by_cases h6 : op = 23 ∨ op = 24
  · simp only [if_pos h6]; exact .inr (.inr (.inr (.inr (.inr (.inl ⟨trivial, trivial, trivial⟩)))))
  simp only [if_neg h6]; exact .inr (.inr (.inr (.inr (.inr (.inr ⟨trivial, trivial, trivial⟩)))))

theorem right_right (x : Cd) : rightB x = (decide (0 ≤ x.op ∧ x.op < 27) && right2 x) := by
  unfold rightB right2
  rw [Bool.and_assoc]
  congr 1
  rcases shapes x.op with ⟨h1, h2, h3⟩ | ⟨h1, h2, h3⟩ | ⟨h1, h2, h3⟩ | ⟨h1, h2, h3⟩ | ⟨h1, h2, h3⟩ | ⟨h1, h2, h3⟩ | ⟨h1, h2, h3⟩ <;>
  · rw [h1, h2, h3, Bool.eq_iff_iff]
    simp [fitsN, regOk, regB, wayB]
    omega

theorem opName_iff (op : Int) : (opName op == []) = !decide (0 ≤ op ∧ op < 27) := by
  by_cases h : 0 ≤ op ∧ op < 27
  · rw [decide_eq_true h]
    have := opName_ne h.1 h.2
    simpa using this
  · rw [decide_eq_false h, opName_out (by omega)]
    rfl

/-- gatehouseref02.Right -/
theorem rright_spec {w : World} {x : Cd} {K : Value → World → Prop} (hK : ∀ w', Fr (fun _ => False) w w' → K (.bool (rightB x)) w') : CallK Tryd.prog 11 #[x.v] w K := by
  apply Ret.call
  apply F11_ok
  unfold F11
  refine rBoxA ?_
  intro w1 c1' f1 s1
  have c1 : Cs w1 w.heap.size x.cs := c1'
  have hK := hK w1 f1
  rw [right_right] at hK
  refine rFA0 <| rLd c1 rfl <| name_spec <| rSEq (m := []) ?_
  rw [opName_iff]
  by_cases hr : 0 ≤ x.op ∧ x.op < 27
  · rw [decide_eq_true hr] at hK ⊢
    rw [Bool.true_and] at hK
    refine rIfF <| rFA0 <| rLd c1 rfl <| rshape_spec ?_
    unfold right2 at hK
    have A : ∀ {K' : Value → Prop}, K' (it x.a) → vFA (some 1) (pt w.heap.size 0) fun p => vLd .one p w1 K' := fun k => rFA0 <| rLd c1 rfl k
    have B : ∀ {K' : Value → Prop}, K' (it x.b) → vFA (some 2) (pt w.heap.size 0) fun p => vLd .one p w1 K' := fun k => rFA0 <| rLd c1 rfl k
    have C : ∀ {K' : Value → Prop}, K' (it x.c) → vFA (some 3) (pt w.heap.size 0) fun p => vLd .one p w1 K' := fun k => rFA0 <| rLd c1 rfl k
    have D : ∀ {K' : Value → Prop}, K' (it x.n) → vFA (some 4) (pt w.heap.size 0) fun p => vLd .one p w1 K' := fun k => rFA0 <| rLd c1 rfl k
    refine rEqE (fun h => ?_) (fun h => ?_)
    · rw [if_pos h] at hK
      exact A <| reg_spec <| rAndW (fun hK => B <| rEq <| rAndW (fun hK => C <| rEq <| rAndW (fun hK => D <| rGe <| rAndW (fun hK => D <| rLe hK) hK) hK) hK) hK
    rw [if_neg h] at hK
    refine rEqE (fun h => ?_) (fun h => ?_)
    · rw [if_pos h] at hK
      exact A <| reg_spec <| rAndW (fun hK => B <| reg_spec <| rAndW (fun hK => C <| rEq <| rAndW (fun hK => D <| rEq hK) hK) hK) hK
    rw [if_neg h] at hK
    refine rEqE (fun h => ?_) (fun h => ?_)
    · rw [if_pos h] at hK
      exact A <| reg_spec <| rAndW (fun hK => B <| reg_spec <| rAndW (fun hK => C <| reg_spec <| rAndW (fun hK => D <| rEq hK) hK) hK) hK
    rw [if_neg h] at hK
    refine rEqE (fun h => ?_) (fun h => ?_)
    · rw [if_pos h] at hK
      exact A <| reg_spec <| rAndW (fun hK => B <| reg_spec <| rAndW (fun hK => C <| rEq <| rAndW (fun hK => D <| rGe <| rAndW (fun hK => D <| rLe hK) hK) hK) hK) hK
    rw [if_neg h] at hK
    refine rEqE (fun h => ?_) (fun h => ?_)
    · rw [if_pos h] at hK
      exact A <| rEq <| rAndW (fun hK => B <| rEq <| rAndW (fun hK => C <| rEq <| rAndW (fun hK => D <| way_spec hK) hK) hK) hK
    rw [if_neg h] at hK
    refine rEqE (fun h => ?_) (fun h => ?_)
    · rw [if_pos h] at hK
      exact A <| reg_spec <| rAndW (fun hK => B <| rEq <| rAndW (fun hK => C <| rEq <| rAndW (fun hK => D <| way_spec hK) hK) hK) hK
    rw [if_neg h] at hK
    exact A <| rEq <| rAndW (fun hK => B <| rEq <| rAndW (fun hK => C <| rEq <| rAndW (fun hK => D <| rEq hK) hK) hK) hK
  · rw [decide_eq_false hr] at hK ⊢
    exact rIfT hK

end Go.Proofs.YtnmmpgeojimgoaaDoor
