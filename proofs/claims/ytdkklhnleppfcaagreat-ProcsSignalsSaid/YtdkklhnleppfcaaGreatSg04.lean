/-
  The engine, part 4: regions (in the text's order, and in whatever order), codes, loops, ranges over functions, functions. Own work.
-/
import Derived.Test.YtdkklhnleppfcaaGreatSg03
set_option linter.unusedVariables false
set_option linter.unusedSimpArgs false

set_option linter.unusedVariables false
set_option linter.unusedSimpArgs false
namespace Go.V
open Go Go.RowKit

theorem OpR.mono {P : Program} {r : Result Next} {K K' : Value → World → Prop} (h : OpR P r K) (hk : ∀ v w, K v w → K' v w) : OpR P r K' := by
  unfold OpR at *
  split at h
  · exact hk _ _ h
  · exact hk _ _ h
  · exact h.mono fun e w' ⟨v, he, hv⟩ => ⟨v, he, hk _ _ hv⟩
  · exact h.mono fun e w' ⟨v, he, hv⟩ => ⟨v, he, hk _ _ hv⟩
  · exact h.elim

section
variable {P : Program} {ops : Array Oper} {S : World → Prop} {K : Act → World → Prop}

def opO (P : Program) (ops : Array Oper) (o : Oper) (K : Act → World → Prop) (a : Act) (w : World) : Prop :=
  if Region.wanted o (yielded ops a.tmps) = true then OpR P ((execOp a.eval o).run P w) (fun v w' => K (a.put o.dst v) w') else K (a.put o.dst undef) w

def opA (P : Program) (ops : Array Oper) (i : Nat) (K : Act → World → Prop) (a : Act) (w : World) : Prop :=
  match ops[i]? with
  | none => K a w
  | some o => opO P ops o K a w

theorem opO_mono {o : Oper} {K' : Act → World → Prop} {a : Act} {w : World} (h : opO P ops o K a w) (hk : ∀ a w, K a w → K' a w) : opO P ops o K' a w := by
  unfold opO at *
  split
  · rename_i hw; rw [if_pos hw] at h; exact h.mono fun v w' => hk _ _
  · rename_i hw; rw [if_neg hw] at h; exact hk _ _ h

theorem opA_mono {i : Nat} {K' : Act → World → Prop} {a : Act} {w : World} (h : opA P ops i K a w) (hk : ∀ a w, K a w → K' a w) : opA P ops i K' a w := by
  unfold opA at *
  split
  · rename_i ho; rw [ho] at h; exact hk _ _ h
  · rename_i o ho; rw [ho] at h; exact opO_mono h hk

abbrev WF (r : Option Nat) : Fence := { Fence.wide with round := r }

theorem opO_wpIn {r : Option Nat} {o : Oper} {Q : Exit → Act → World → Prop} {a : Act} {w : World} (h : opO P ops o K a w) :
    if Region.wanted o (yielded ops a.tmps) = true then o.wpIn (WF r) 0 P a w K Q else ((∀ f, o.about P w a.eval = some f → (WF r).fn f) ∧ K (a.put o.dst undef) w) := by
  unfold opO at h
  split
  · rename_i hw
    rw [if_pos hw] at h
    refine ⟨fun _ _ => trivial, ?_⟩
    have hnd : ∀ c, o.op ≠ .defer c := by
      intro c hc
      unfold execOp at h
      rw [hc] at h
      simp only [] at h
      rw [Sem.run_bind] at h
      cases hr : (resolve a.eval c o.type).run P w with
      | ok d w' => rw [hr] at h; exact h
      | halt x w' => rw [hr] at h; exact h
    rw [Oper.semAt_eq _ _ _ hnd]
    unfold OpR at h
    split at h
    · rename_i v w' hr; rw [hr]; exact h
    · rename_i w' hr; rw [hr]; exact h
    · rename_i f args w' hr; rw [hr]
      refine ⟨fun hd => (by cases hd), ?_⟩
      exact CallsIn.mono h fun e w'' ⟨v, he, hv⟩ => by subst he; exact hv
    · rename_i l f t as b w' hr; rw [hr]
      refine ⟨fun hd => (by cases hd), ?_⟩
      exact RoundIn.mono h fun e w'' ⟨v, he, hv⟩ => by subst he; exact hv
    · exact h.elim
  · rename_i hw
    rw [if_neg hw] at h
    exact ⟨fun _ _ => trivial, h⟩

theorem opA_putIf {j : Nat} {oi oj : Oper} {v : Value} (hj : ops[j]? = some oj) (hap : oi.apart ops oj = true)
    (hsi : ∀ cs b, oi.op ≠ .select cs b) (hsj : ∀ cs b, oj.op ≠ .select cs b) {a : Act} {w : World}
    (hy : YieldsIf P ops S oi v a) (h : opA P ops j K (a.put oi.dst v) w) :
    opA P ops j (fun a' w' => YieldsIf P ops S oi v a' ∧ K (a'.put oi.dst v) w') a w := by
  obtain ⟨h1, h2, h3⟩ := Oper.apart_spec hap
  have keep : ∀ u, YieldsIf P ops S oi v (a.put oj.dst u) := fun u =>
    hy.of_same (execOp_put oi hsi a oj.dst u h3) (wanted_put oi a oj.dst u h3)
  unfold opA at *
  simp only [hj] at *
  unfold opO at *
  rw [wanted_put oj a oi.dst v h1] at h
  split
  · rename_i hw
    rw [if_pos hw] at h
    rw [execOp_put oj hsj a oi.dst v h1] at h
    exact h.mono fun u w' hk => ⟨keep u, by rw [← Act.put_comm a v u h2]; exact hk⟩
  · rename_i hw
    rw [if_neg hw] at h
    exact ⟨keep _, by rw [← Act.put_comm a v undef h2]; exact h⟩

theorem opA_yields {i : Nat} {o : Oper} {v : Value} {a : Act} {w : World} (hi : ops[i]? = some o) (hy : YieldsIf P ops S o v a) (hS : S w) (h : K (a.put o.dst v) w) : opA P ops i K a w := by
  unfold opA
  simp only [hi]
  unfold opO
  rcases hy with ⟨hw, hv⟩ | ⟨hw, rfl⟩
  · rw [if_pos hw, hv w hS]; exact h
  · rw [if_neg (by rw [hw]; simp)]; exact h

def isSt (op : Op) : Bool :=
  match op with
  | .store .. => true
  | _ => false

def isLd (op : Op) : Bool :=
  match op with
  | .load .. => true
  | _ => false

def lastB (ops : Array Oper) (j : Nat) : Bool :=
  match ops[j]? with
  | none => false
  | some oj => isSt oj.op && ops.toList.zipIdx.all fun p => !isLd p.1.op || oj.after.toList.any fun e => Region.binds .any e && Nat.beq e.on p.2

theorem lastB_spec {ops : Array Oper} {j : Nat} {oj : Oper} (hj : ops[j]? = some oj) (h : lastB ops j = true) {i : Nat} {oi : Oper} (hi : ops[i]? = some oi) (hld : isLd oi.op = true) : ∃ e ∈ oj.after, Region.binds .any e = true ∧ e.on = i := by
  unfold lastB at h
  rw [hj] at h
  simp only [Bool.and_eq_true] at h
  have hm : (oi, i) ∈ ops.toList.zipIdx := by
    rw [List.mem_iff_getElem?]
    exact ⟨i, by simp [List.getElem?_zipIdx, hi]⟩
  have h2 := List.all_eq_true.1 h.2 _ hm
  simp only [hld, Bool.not_true, Bool.false_or] at h2
  obtain ⟨e, he, hb⟩ := List.any_eq_true.1 h2
  simp only [Bool.and_eq_true] at hb
  exact ⟨e, Array.mem_toList_iff.1 he, hb.1, Nat.eq_of_beq_eq_true hb.2⟩

def stB (ops : Array Oper) (i : Nat) : Bool :=
  match ops[i]? with
  | some o => isSt o.op
  | none => false

def lateB (ops : Array Oper) (i : Nat) : Bool :=
  ops.toList.zipIdx.any fun p => isSt p.1.op && !lastB ops p.2 && !(p.1.after.toList.any fun e => Region.binds .any e && Nat.beq e.on i)

theorem lateB_spec {ops : Array Oper} {i j : Nat} {oj : Oper} (hl : lateB ops i = false) (hj : ops[j]? = some oj) (hs : isSt oj.op = true) (hn : lastB ops j = false) : ∃ e ∈ oj.after, Region.binds .any e = true ∧ e.on = i := by
  have hm : (oj, j) ∈ ops.toList.zipIdx := by
    rw [List.mem_iff_getElem?]
    exact ⟨j, by simp [List.getElem?_zipIdx, hj]⟩
  have h2 := List.any_eq_false.1 hl _ hm
  simp only [hs, hn, Bool.not_false, Bool.true_and, Bool.not_eq_true', Bool.not_eq_false] at h2
  obtain ⟨e, he, hb⟩ := List.any_eq_true.1 h2
  simp only [Bool.and_eq_true] at hb
  exact ⟨e, Array.mem_toList_iff.1 he, hb.1, Nat.eq_of_beq_eq_true hb.2⟩

def nS (ops : Array Oper) (S1 : World → Prop) (i : Nat) (S : World → Prop) : World → Prop :=
  match stB ops i, lastB ops i with
  | true, true => fun _ => True
  | true, false => S1
  | false, _ => S

theorem nS_false {ops : Array Oper} {S1 : World → Prop} {i : Nat} {S : World → Prop} {o : Oper} (hi : ops[i]? = some o) (h : isSt o.op = false) : nS ops S1 i S = S := by
  have : stB ops i = false := by unfold stB; rw [hi]; exact h
  unfold nS; rw [this]

def anyH (P : Program) (ops : Array Oper) (S1 : World → Prop) (K : Act → World → Prop) : Nat → (World → Prop) → Array Bool → Act → World → Prop
  | 0, S, listed, a, w => Region.ready .any ops listed = [] ∧ K a w
  | fuel + 1, S, listed, a, w =>
    (Region.ready .any ops listed = [] → K a w) ∧
    ∀ i ∈ Region.ready .any ops listed, opA P ops i (fun a' w' => nS ops S1 i S w' ∧ anyH P ops S1 K fuel (nS ops S1 i S) (listed.setIfInBounds i true) a' w') a w

theorem anyH_wpAnyIn {S1 : World → Prop} {r : Option Nat} {Q : Exit → Act → World → Prop} (hQ : ∀ a w, K a w → Q .normal a w) : ∀ (fuel : Nat) (S : World → Prop) (listed : Array Bool) (a : Act) (w : World), anyH P ops S1 K fuel S listed a w →
    wpAnyIn (WF r) 0 P .any ops Q fuel listed a w
  | 0, _, _, _, _, h => ⟨h.1, hQ _ _ h.2⟩
  | fuel + 1, S, listed, a, w, h => ⟨fun e => hQ _ _ (h.1 e), fun i hi => by
      have h2 := h.2 i hi
      have h3 := opA_mono h2 (K' := wpAnyIn (WF r) 0 P .any ops Q fuel (listed.setIfInBounds i true)) fun a' w' h' => anyH_wpAnyIn hQ fuel _ _ a' w' h'.2
      unfold opA at h3
      unfold wpOpIn
      split
      · rename_i ho; rw [ho] at h3; exact h3
      · rename_i o ho; rw [ho] at h3; exact opO_wpIn h3⟩

theorem anyH_first {S1 : World → Prop} {i : Nat} {oi : Oper} {v : Value} {T : World → Prop} (hi : ops[i]? = some oi) (hns : isSt oi.op = false) (hsel : ∀ (j : Nat) (o : Oper) cs b, ops[j]? = some o → o.op ≠ .select cs b) (hld : (isLd oi.op = true ∧ (lateB ops i = true → ∀ w, S1 w → T w)) ∨ ∀ w, T w) :
    ∀ (fuel : Nat) (S : World → Prop) (listed : Array Bool) (a : Act) (w : World), (∀ w, S w → T w) →
      (∀ j oj, ops[j]? = some oj → j ≠ i → listed.getD j true = false → (∀ e ∈ oj.after, Region.binds .any e = true → e.on ≠ i) → oi.apart ops oj = true) →
      i ∈ Region.ready .any ops listed → YieldsIf P ops T oi v a → S w →
      anyH P ops S1 K fuel S (listed.setIfInBounds i true) (a.put oi.dst v) w → anyH P ops S1 K (fuel + 1) S listed a w := by
  intro fuel
  induction fuel with
  | zero =>
    intro S listed a w hST _ hr hy hS H
    refine ⟨fun h => (by rw [h] at hr; cases hr), fun j hj => ?_⟩
    by_cases hji : j = i
    · subst hji; exact opA_yields hi hy (hST w hS) ⟨by rw [nS_false hi hns]; exact hS, by rw [nS_false hi hns]; exact H⟩
    · have := ready_mono hj hji
      rw [H.1] at this
      cases this
  | succ fuel ih =>
    intro S listed a w hST hfree hr hy hS H
    refine ⟨fun h => (by rw [h] at hr; cases hr), fun j hj => ?_⟩
    by_cases hji : j = i
    · subst hji; exact opA_yields hi hy (hST w hS) ⟨by rw [nS_false hi hns]; exact hS, by rw [nS_false hi hns]; exact H⟩
    · have h1 := H.2 j (ready_mono hj hji)
      obtain ⟨hjun, oj, hoj, hall⟩ := mem_ready.1 hj
      have hnot : ∀ e ∈ oj.after, Region.binds .any e = true → e.on ≠ i := fun e he hb heq => by
        have h1 := hall e he hb
        have h0 := (mem_ready.1 hr).1
        rw [heq] at h1
        rcases Nat.lt_or_ge i listed.size with h' | h'
        · simp [h'] at h0 h1; rw [h0] at h1; cases h1
        · simp [Array.getElem?_eq_none h'] at h1
      have h2 := opA_putIf hoj (hfree j oj hoj hji hjun hnot) (fun cs b => hsel i oi cs b hi) (fun cs b => hsel j oj cs b hoj) hy h1
      have hfree' : ∀ k ok, ops[k]? = some ok → k ≠ i → (listed.setIfInBounds j true).getD k true = false →
          (∀ e ∈ ok.after, Region.binds .any e = true → e.on ≠ i) → oi.apart ops ok = true := fun k ok hk hki hun hno => by
        refine hfree k ok hk hki ?_ hno
        by_cases hjk : j = k
        · subst hjk; exact hjun
        · rw [getD_set_ne true hjk] at hun; exact hun
      have hST' : ∀ w, nS ops S1 j S w → T w := by
        rcases hld with ⟨hld, hlate⟩ | hT
        · have hlast : lastB ops j = false := by
            cases hl : lastB ops j with
            | false => rfl
            | true => obtain ⟨e, he, hb, heq⟩ := lastB_spec hoj hl hi hld; exact absurd heq (hnot e he hb)
          unfold nS
          cases hs : stB ops j with
          | false => exact hST
          | true =>
            rw [hlast]
            have hs' : isSt oj.op = true := by unfold stB at hs; rw [hoj] at hs; exact hs
            refine hlate ?_
            cases hl : lateB ops i with
            | true => rfl
            | false => obtain ⟨e, he, hb, heq⟩ := lateB_spec hl hoj hs' hlast; exact absurd heq (hnot e he hb)
        · exact fun w _ => hT w
      refine opA_mono h2 (fun a' w' h3 => ⟨h3.2.1, ih (nS ops S1 j S) (listed.setIfInBounds j true) a' w' hST' hfree' (ready_mono hr (Ne.symm hji)) h3.1 h3.2.1 ?_⟩)
      rw [Array.setIfInBounds_comm _ _ hji]
      exact h3.2.2
end

def Ag (N : Nat) (ρ : Env) (a : Act) : Prop := a.tmps.size = N ∧ ∀ i, i < N → a.tmps.getD i undef = ρ i

def okX (N : Nat) : Operand → Bool
  | .tmp t => Nat.blt t N
  | _ => true

def okD (N : Nat) : Option Nat → Bool
  | some d => Nat.blt d N
  | none => true

def gtmp (ds : List (Option Nat)) (j : Nat) : Option Nat :=
  match ds[j]? with
  | some d => d
  | none => none

def okO (N : Nat) (ds : List (Option Nat)) (o : Oper) : Bool :=
  o.op.operands.toList.all (okX N) && okD N o.dst && (match o.op with | .select .. => false | _ => true) &&
  match o.guard with
  | some (j, _) => match gtmp ds j with
    | some d => Nat.blt d N
    | none => false
  | none => true

theorem ev_ag {N : Nat} {ρ : Env} {a : Act} (h : Ag N ρ a) {x : Operand} (hx : okX N x = true) : a.eval x = ev ρ x := by
  cases x with
  | tmp t =>
    have ht : t < N := by simpa [okX, Nat.blt_eq] using hx
    exact h.2 t ht
  | _ => rfl

theorem put_ag {N : Nat} {ρ : Env} {a : Act} (h : Ag N ρ a) {d : Option Nat} (hd : okD N d = true) (v : Value) : Ag N (put ρ d v) (a.put d v) := by
  cases d with
  | none => exact h
  | some d =>
    have hlt : d < N := by simpa [okD, Nat.blt_eq] using hd
    refine ⟨by simp [Act.put, h.1], fun i hi => ?_⟩
    simp only [Act.put, put]
    by_cases e : i = d
    · subst e
      simp [h.1, hlt, Nat.beq_refl]
    · have hb : Nat.beq i d = false := by
        cases hq : Nat.beq i d
        · rfl
        · exact absurd (Nat.eq_of_beq_eq_true hq) e
      rw [hb]
      have := h.2 i hi
      simp [Array.getElem?_setIfInBounds_ne (Ne.symm e)] at *
      exact this

theorem exec_ag {N : Nat} {ρ : Env} {a : Act} (h : Ag N ρ a) {ds : List (Option Nat)} {o : Oper} (ho : okO N ds o = true) : execOp a.eval o = execOp (ev ρ) o := by
  simp only [okO, Bool.and_eq_true] at ho
  refine execOp_congr o (fun cs b hc => ?_) (fun x hx => ev_ag h ?_)
  · have := ho.1.2; rw [hc] at this; simp at this
  · exact List.all_eq_true.1 ho.1.1.1 x (by simpa using hx)

def lookK : List (Nat × Option Bool) → Nat → Option (Option Bool)
  | [], _ => none
  | (d, x) :: r, i => bif Nat.beq d i then some x else lookK r i

def dropK (kn : List (Nat × Option Bool)) (d : Option Nat) : List (Nat × Option Bool) :=
  match d with
  | none => kn
  | some d => kn.filter fun p => !(Nat.beq p.1 d)

def isK (v : Value) (x : Option Bool) : Prop :=
  match x with
  | some b => v = .bool b
  | none => v = undef

def skipK (kn : List (Nat × Option Bool)) (d : Option Nat) : List (Nat × Option Bool) :=
  match d with
  | none => kn
  | some d => (d, none) :: dropK kn (some d)

def Kn (ρ : Env) (kn : List (Nat × Option Bool)) : Prop := ∀ d x, lookK kn d = some x → isK (ρ d) x

theorem Kn.nil (ρ : Env) : Kn ρ [] := fun d x h => by cases h

theorem look_drop {kn : List (Nat × Option Bool)} {d i : Nat} {x : Option Bool} (h : lookK (dropK kn (some d)) i = some x) : i ≠ d ∧ lookK kn i = some x := by
  induction kn with
  | nil => cases h
  | cons p r ih =>
    obtain ⟨e, y⟩ := p
    simp only [dropK, List.filter_cons] at h
    cases hb : Nat.beq e d
    · simp only [hb, Bool.not_false, if_true, lookK] at h
      cases hi : Nat.beq e i
      · simp only [hi, cond_false] at h
        obtain ⟨h1, h2⟩ := ih h
        exact ⟨h1, by simp [lookK, hi, h2]⟩
      · simp only [hi, cond_true] at h
        have hei := Nat.eq_of_beq_eq_true hi
        refine ⟨?_, by simp [lookK, hi, h]⟩
        intro hid
        rw [hei, hid, Nat.beq_refl] at hb
        cases hb
    · simp only [hb, Bool.not_true, Bool.false_eq_true, if_false] at h
      obtain ⟨h1, h2⟩ := ih h
      refine ⟨h1, ?_⟩
      have hei : Nat.beq e i = false := by
        cases hq : Nat.beq e i
        · rfl
        · exact absurd ((Nat.eq_of_beq_eq_true hq).symm.trans (Nat.eq_of_beq_eq_true hb)) h1
      simp [lookK, hei, h2]

theorem Kn.put {ρ : Env} {kn : List (Nat × Option Bool)} (h : Kn ρ kn) (d : Option Nat) (v : Value) : Kn (put ρ d v) (dropK kn d) := by
  cases d with
  | none => exact h
  | some d =>
    intro i x hx
    obtain ⟨h1, h2⟩ := look_drop hx
    have hb : Nat.beq i d = false := by
      cases hq : Nat.beq i d
      · rfl
      · exact absurd (Nat.eq_of_beq_eq_true hq) h1
    simp only [V.put, hb]
    exact h i x h2

theorem Kn.add {ρ : Env} {kn : List (Nat × Option Bool)} (h : Kn ρ kn) {d : Nat} {x : Option Bool} (hd : isK (ρ d) x) : Kn ρ ((d, x) :: kn) := by
  intro i y hy
  simp only [lookK] at hy
  cases hb : Nat.beq d i <;> rw [hb] at hy
  · exact h i y hy
  · simp at hy; subst hy; rw [← Nat.eq_of_beq_eq_true hb]; exact hd

theorem Kn.skip {ρ : Env} {kn : List (Nat × Option Bool)} (h : Kn ρ kn) (d : Option Nat) : Kn (V.put ρ d undef) (skipK kn d) := by
  cases d with
  | none => exact h
  | some d =>
    refine (h.put (some d) undef).add (x := none) ?_
    show V.put ρ (some d) undef d = undef
    simp [V.put, Nat.beq_refl]

def knownOf (kn : List (Nat × Option Bool)) (x : Operand) : Option (Option Bool) :=
  match x with
  | .const (.bool b) => some (some b)
  | .tmp e => lookK kn e
  | _ => none

def pickK (kn : List (Nat × Option Bool)) (op : Op) : Option Operand :=
  match op with
  | .pick c a b => match knownOf kn c with
    | some (some true) => some a
    | some (some false) => some b
    | _ => none
  | .move x => some x
  | .assign x => some x
  | _ => none

def learn (kn : List (Nat × Option Bool)) (x : Operand) (d : Option Nat) : List (Nat × Option Bool) :=
  match d with
  | none => kn
  | some d => match knownOf kn x with
    | some y => (d, y) :: dropK kn (some d)
    | none => dropK kn (some d)

theorem known_out {ρ : Env} {kn : List (Nat × Option Bool)} (h : Kn ρ kn) {x : Operand} {y : Option Bool} (hx : knownOf kn x = some y) : isK (ev ρ x) y := by
  unfold knownOf at hx
  split at hx
  · cases hx; exact rfl
  · exact h _ _ hx
  · cases hx

theorem Kn.learn {ρ : Env} {kn : List (Nat × Option Bool)} (h : Kn ρ kn) (x : Operand) (d : Option Nat) : Kn (V.put ρ d (ev ρ x)) (learn kn x d) := by
  unfold V.learn
  cases d with
  | none => exact h
  | some d =>
    simp only []
    cases hx : knownOf kn x with
    | none => exact h.put (some d) _
    | some y =>
      refine (h.put (some d) (ev ρ x)).add ?_
      have : V.put ρ (some d) (ev ρ x) d = ev ρ x := by simp [V.put, Nat.beq_refl]
      rw [this]
      exact known_out h hx

theorem pick_out {P : Program} {ρ : Env} {kn : List (Nat × Option Bool)} (h : Kn ρ kn) {o : Oper} {x : Operand} (hp : pickK kn o.op = some x) (w : World) : (execOp (ev ρ) o).run P w = .ok (.value (ev ρ x)) w := by
  have key : pureOp P o.op ρ fun v => v = ev ρ x := by
    unfold pickK at hp
    split at hp
    · rename_i c a b hop
      rw [hop]
      split at hp
      · rename_i hk
        have : ev ρ c = .bool true := known_out h hk
        cases hp
        show vBool (ev ρ c) _
        rw [this]; rfl
      · rename_i hk
        have : ev ρ c = .bool false := known_out h hk
        cases hp
        show vBool (ev ρ c) _
        rw [this]; rfl
      · cases hp
    · rename_i y hop
      rw [hop]; cases hp; rfl
    · rename_i y hop
      rw [hop]; cases hp; rfl
    · cases hp
  obtain ⟨v, rfl, hr⟩ := pure_sound key
  exact hr w

def guardV (ds : List (Option Nat)) (g : Option (Nat × Bool)) (kn : List (Nat × Option Bool)) (ρ : Env) (yes no : List (Nat × Option Bool) → Prop) : Prop :=
  match g with
  | none => yes kn
  | some (j, b) => match gtmp ds j with
    | none => False
    | some d => match lookK kn d, b with
      | some (some true), true => yes kn
      | some (some false), false => yes kn
      | some _, _ => no kn
      | none, true => vBool (ρ d) fun x => if x = true then yes ((d, some true) :: kn) else no ((d, some false) :: kn)
      | none, false => vBool (ρ d) fun x => if x = true then no ((d, some true) :: kn) else yes ((d, some false) :: kn)

theorem guard_out {N : Nat} {ops : Array Oper} {ρ : Env} {a : Act} {o : Oper} {kn : List (Nat × Option Bool)} {yes no : List (Nat × Option Bool) → Prop} (ha : Ag N ρ a) (ho : okO N (ops.toList.map (·.dst)) o = true) (hk : Kn ρ kn)
    (h : guardV (ops.toList.map (·.dst)) o.guard kn ρ yes no) :
    ∃ kn', Kn ρ kn' ∧ ((Region.wanted o (yielded ops a.tmps) = true ∧ yes kn') ∨ (Region.wanted o (yielded ops a.tmps) = false ∧ no kn')) := by
  unfold guardV at h
  unfold Region.wanted
  split at h
  · rename_i hg; rw [hg]; exact ⟨kn, hk, .inl ⟨rfl, h⟩⟩
  · rename_i j b hg
    rw [hg]
    simp only [okO, Bool.and_eq_true, hg] at ho
    have hd := ho.2
    cases hgt : gtmp (ops.toList.map (·.dst)) j with
    | none => rw [hgt] at hd; cases hd
    | some d =>
      rw [hgt] at hd h
      simp only [] at hd h
      have hlt : d < N := by simpa [Nat.blt_eq] using hd
      have hy : ∀ x, ρ d = .bool x → yielded ops a.tmps j = some x := by
        intro x hx
        have hdst : ∃ oj, ops[j]? = some oj ∧ oj.dst = some d := by
          unfold gtmp at hgt
          simp only [List.getElem?_map, Array.getElem?_toList] at hgt
          cases hoj : ops[j]? with
          | none => rw [hoj] at hgt; cases hgt
          | some oj => rw [hoj] at hgt; exact ⟨oj, rfl, hgt⟩
        obtain ⟨oj, hoj, hdj⟩ := hdst
        have := ha.2 d hlt
        rw [hx] at this
        have hs : d < a.tmps.size := by rw [ha.1]; exact hlt
        simp [hs] at this
        simp [yielded, hoj, hdj, hs, this]
      split at h
      · rename_i hl; refine ⟨kn, hk, .inl ⟨?_, h⟩⟩; simp [hy _ (hk _ _ hl)]
      · rename_i hl; refine ⟨kn, hk, .inl ⟨?_, h⟩⟩; simp [hy _ (hk _ _ hl)]
      · rename_i b _ x b' hl hn1 hn2
        refine ⟨kn, hk, .inr ⟨?_, h⟩⟩
        have hkl := hk _ _ hl
        show (yielded ops a.tmps j == some b) = false
        cases b' with
        | some b' =>
          rw [hy _ hkl]
          cases b <;> cases b' <;> first | rfl | exact (hn1 rfl rfl).elim | exact (hn2 rfl rfl).elim
        | none =>
          have hu : yielded ops a.tmps j = none := by
            have hdst : ∃ oj, ops[j]? = some oj ∧ oj.dst = some d := by
              unfold gtmp at hgt
              simp only [List.getElem?_map, Array.getElem?_toList] at hgt
              cases hoj : ops[j]? with
              | none => rw [hoj] at hgt; cases hgt
              | some oj => rw [hoj] at hgt; exact ⟨oj, rfl, hgt⟩
            obtain ⟨oj, hoj, hdj⟩ := hdst
            have := ha.2 d hlt
            have hkl' : ρ d = undef := hkl
            rw [hkl'] at this
            have hs : d < a.tmps.size := by rw [ha.1]; exact hlt
            simp [hs] at this
            simp [yielded, hoj, hdj, hs, this, undef]
          rw [hu]
          rfl
      · obtain ⟨x, hx, hh⟩ := vBool_out h
        cases x
        · exact ⟨_, hk.add (x := some false) hx, .inr ⟨by simp [hy _ hx], by simpa using hh⟩⟩
        · exact ⟨_, hk.add (x := some true) hx, .inl ⟨by simp [hy _ hx], by simpa using hh⟩⟩
      · obtain ⟨x, hx, hh⟩ := vBool_out h
        cases x
        · exact ⟨_, hk.add (x := some false) hx, .inl ⟨by simp [hy _ hx], by simpa using hh⟩⟩
        · exact ⟨_, hk.add (x := some true) hx, .inr ⟨by simp [hy _ hx], by simpa using hh⟩⟩

def opsV (P : Program) (ds : List (Option Nat)) : List Oper → List (Nat × Option Bool) → Env → World → (Env → World → Prop) → Prop
  | [], _, ρ, w, K => K ρ w
  | o :: r, kn, ρ, w, K => guardV ds o.guard kn ρ
      (fun kn => match pickK kn o.op with
        | some x => opsV P ds r (learn kn x o.dst) (put ρ o.dst (ev ρ x)) w K
        | none => opV P o.op ρ w fun v w' => opsV P ds r (dropK kn o.dst) (put ρ o.dst v) w' K)
      (fun kn => opsV P ds r (skipK kn o.dst) (put ρ o.dst undef) w K)

theorem ops_sound {P : Program} {N : Nat} {r : Option Nat} {ops : Array Oper} {K : Env → World → Prop} {Q : Exit → Act → World → Prop} {dd : List Deferred}
    (hQ : ∀ ρ a w, Ag N ρ a → a.defers = dd → K ρ w → Q .normal a w) : ∀ (l : List Oper) (kn : List (Nat × Option Bool)) (ρ : Env) (a : Act) (w : World),
    l.all (okO N (ops.toList.map (·.dst))) = true → Ag N ρ a → a.defers = dd → Kn ρ kn → opsV P (ops.toList.map (·.dst)) l kn ρ w K → wpListIn (WF r) 0 P ops Q l a w
  | [], kn, ρ, a, w, _, ha, hd, hk, h => hQ ρ a w ha hd h
  | o :: l, kn, ρ, a, w, hok, ha, hd, hk, h => by
    simp only [List.all_cons, Bool.and_eq_true] at hok
    obtain ⟨ho, hl⟩ := hok
    have hdst : okD N o.dst = true := by simp only [okO, Bool.and_eq_true] at ho; exact ho.1.1.2
    have hpd : ∀ v, (a.put o.dst v).defers = dd := by intro v; cases hq : o.dst <;> simp [Act.put, hd]
    obtain ⟨kn', hk', hh⟩ := guard_out ha ho hk h
    have hop : opO P ops o (wpListIn (WF r) 0 P ops Q l) a w := by
      unfold opO
      rcases hh with ⟨hw, hy⟩ | ⟨hw, hn⟩
      · rw [if_pos hw, exec_ag ha ho]
        split at hy
        · rename_i x hx
          rw [pick_out hk' hx]
          exact ops_sound hQ l _ _ _ _ hl (put_ag ha hdst _) (hpd _) (hk'.learn _ _) hy
        · exact (op_sound hy).mono fun v w' hv => ops_sound hQ l _ _ _ _ hl (put_ag ha hdst v) (hpd v) (hk'.put _ _) hv
      · rw [if_neg (by rw [hw]; simp)]
        exact ops_sound hQ l _ _ _ _ hl (put_ag ha hdst _) (hpd _) (hk'.skip _) hn
    have := opO_wpIn (r := r) (Q := Q) hop
    unfold wpListIn
    exact this

inductive Plan where
  | done
  | take (i : Nat) (p : Plan)
  | alt (i : Nat) (p rest : Plan)
  | stop

def vLdS (S : World → Prop) (d : LD) (x : Value) (K : Value → Prop) : Prop :=
  match d, x with
  | .one, .pointer (some a) => ∃ v, (∀ w, S w → w.cell? a = some v) ∧ K v
  | .agg n, .pointer (some a) => ∃ cs : List Value, cs.length = n ∧ (∀ w, S w → ∀ j v, cs[j]? = some v → w.cell? (a.add j) = some v) ∧ K (.agg cs.toArray)
  | _, _ => False

def takeV (P : Program) (S : World → Prop) (op : Op) (ρ : Env) (K : Value → Prop) : Prop :=
  match op with
  | .load t x => vLdS S (ldk P t) (ev ρ x) K
  | op => pureOp P op ρ K

theorem take_out {P : Program} {S : World → Prop} {o : Oper} {ρ : Env} {K : Value → Prop} (h : takeV P S o.op ρ K) :
    ∃ v, K v ∧ ∀ w, S w → (execOp (ev ρ) o).run P w = .ok (.value v) w := by
  unfold takeV at h
  split at h
  · rename_i t x hop
    have fin : ∀ v, (∀ w, S w → (Instr.loadAt t (ev ρ x)).run P w = .ok v w) → ∀ w, S w → (execOp (ev ρ) o).run P w = .ok (.value v) w := by
      intro v hv w hS
      unfold execOp
      rw [hop]
      simp only []
      rw [run_bind_ok (hv w hS)]; rfl
    unfold vLdS at h
    split at h
    · rename_i a hd hx
      obtain ⟨v, hc, hk⟩ := h
      refine ⟨v, hk, fin v fun w hS => ?_⟩
      have : vLd (ldk P t) (ev ρ x) w (fun u => u = v) := by
        rw [hd, hx]
        simp [vLd, ld1, hc w hS]
      obtain ⟨u, rfl, hr⟩ := vLd_out this
      exact hr
    · rename_i n a hd hx
      obtain ⟨cs, hl, hc, hk⟩ := h
      refine ⟨_, hk, fin _ fun w hS => ?_⟩
      obtain ⟨ha, i, hi, hs⟩ := isAgg_agg hd
      rw [hx]
      unfold Instr.loadAt
      rw [run_bind_ok (a := a) (w' := w) rfl]
      unfold loadVar
      rw [run_bind_ok (ha w)]
      simp only [if_true]
      rw [run_bind_ok (run_size hi w), hs, ← hl, run_bind_ok (run_loadCells_list (P := P) w a cs (hc w hS))]
      rfl
    · exact h.elim
  · obtain ⟨v, hv, hr⟩ := pure_sound h
    exact ⟨v, hv, fun w _ => hr w⟩

def planV (P : Program) (ops : List Oper) (ds : List (Option Nat)) (S1 : World → Prop) : Plan → (World → Prop) → List (Nat × Option Bool) → Env → World → (Env → World → Prop) → Prop
  | .done, _, _, ρ, w, K => K ρ w
  | .take i p, S, kn, ρ, w, K => match ops[i]? with
    | none => False
    | some o => guardV ds o.guard kn ρ
      (fun kn => match pickK kn o.op with
        | some x => planV P ops ds S1 p S (learn kn x o.dst) (put ρ o.dst (ev ρ x)) w K
        | none => takeV P (match lateB ops.toArray i with | true => fun w => S w ∨ S1 w | false => S) o.op ρ fun v => planV P ops ds S1 p S (dropK kn o.dst) (put ρ o.dst v) w K)
      (fun kn => planV P ops ds S1 p S (skipK kn o.dst) (put ρ o.dst undef) w K)
  | .alt i p rest, S, kn, ρ, w, K => (match ops[i]? with
    | none => False
    | some o => guardV ds o.guard kn ρ
      (fun kn => opV P o.op ρ w fun v w' => match stB ops.toArray i, lastB ops.toArray i with
        | true, true => planV P ops ds S1 p (fun _ => True) (dropK kn o.dst) (put ρ o.dst v) w' K
        | true, false => S1 w' ∧ planV P ops ds S1 p S1 (dropK kn o.dst) (put ρ o.dst v) w' K
        | false, _ => S w' ∧ planV P ops ds S1 p S (dropK kn o.dst) (put ρ o.dst v) w' K)
      (fun kn => planV P ops ds S1 p S (skipK kn o.dst) (put ρ o.dst undef) w K)) ∧ planV P ops ds S1 rest S kn ρ w K
  | .stop, _, _, _, _, _ => True

theorem takeV_any {P : Program} {S S' : World → Prop} {op : Op} {ρ : Env} {K : Value → Prop} (h : isLd op = false) (hv : takeV P S op ρ K) : takeV P S' op ρ K := by
  cases op <;> first | exact hv | cases h

def drawF (w : World) (body : (World → Prop) → Prop) : Prop := ∃ S : World → Prop, S w.drew ∧ body S

def drawF2 (w : World) (body : (World → Prop) → (World → Prop) → Prop) : Prop := ∃ S S1 : World → Prop, S w.drew ∧ body S S1

def stageB (ops : Array Oper) : Bool := ops.toList.zipIdx.any fun p => isSt p.1.op && !lastB ops p.2

def altOk (ops : Array Oper) (i : Nat) : Bool :=
  match ops[i]? with
  | some o => !isSt o.op || o.guard.isNone
  | none => false

def planOk (ops : Array Oper) : Plan → Option (List Nat) → Array Bool → Nat → Bool
  | .done, none, l, _ => (Region.ready .any ops l).isEmpty
  | .take i p, none, l, f + 1 => (Region.ready .any ops l).contains i && Region.free .any ops l i && (match ops[i]? with | some o => !isSt o.op | none => false) && planOk ops p none (l.setIfInBounds i true) f
  | .alt i p rest, none, l, f + 1 => match Region.ready .any ops l with
    | j :: js => Nat.beq j i && altOk ops i && planOk ops p none (l.setIfInBounds i true) f && planOk ops rest (some js) l (f + 1)
    | [] => false
  | .alt i p rest, some (j :: js), l, f + 1 => Nat.beq j i && altOk ops i && planOk ops p none (l.setIfInBounds i true) f && planOk ops rest (some js) l (f + 1)
  | .stop, some [], _, _ => true
  | _, _, _, _ => false

theorem anyH_done {P : Program} {ops : Array Oper} {S S1 : World → Prop} {K : Act → World → Prop} {listed : Array Bool} {a : Act} {w : World} (hr : Region.ready .any ops listed = []) (h : K a w) :
    ∀ fuel, anyH P ops S1 K fuel S listed a w
  | 0 => ⟨hr, h⟩
  | _ + 1 => ⟨fun _ => h, by rw [hr]; simp⟩

theorem plan_sound {P : Program} {N : Nat} {ops : Array Oper} {K : Env → World → Prop} {K' : Act → World → Prop} {S1 : World → Prop} {dd : List Deferred}
    (hall : ops.toList.all (okO N (ops.toList.map (·.dst))) = true)
    (hQ : ∀ ρ a w, Ag N ρ a → a.defers = dd → K ρ w → K' a w) : ∀ (p : Plan) (S : World → Prop) (m : Option (List Nat)) (l : Array Bool) (f : Nat) (kn : List (Nat × Option Bool)) (ρ : Env) (a : Act) (w : World),
    planOk ops p m l f = true → Ag N ρ a → a.defers = dd → Kn ρ kn → S w → (∀ js, m = some js → ∀ i ∈ js, i ∈ Region.ready .any ops l) → planV P ops.toList (ops.toList.map (·.dst)) S1 p S kn ρ w K →
    match m with
    | none => anyH P ops S1 K' f S l a w
    | some js => ∀ f', f = f' + 1 → ∀ i ∈ js, opA P ops i (fun a' w' => nS ops S1 i S w' ∧ anyH P ops S1 K' f' (nS ops S1 i S) (l.setIfInBounds i true) a' w') a w := by
  have hsel : ∀ (j : Nat) (o : Oper) cs b, ops[j]? = some o → o.op ≠ .select cs b := by
    intro j o cs b hj hc
    have := List.all_eq_true.1 hall o (by have := Array.mem_of_getElem? hj; simpa using this)
    simp only [okO, Bool.and_eq_true] at this
    have h2 := this.1.2
    rw [hc] at h2
    simp at h2
  have hoks : ∀ i o, ops.toList[i]? = some o → okO N (ops.toList.map (·.dst)) o = true := fun i o hi => List.all_eq_true.1 hall o (List.mem_of_getElem? hi)
  have hpd : ∀ (a : Act) (d : Option Nat) v, a.defers = dd → (a.put d v).defers = dd := by intro a d v h; cases d <;> simp [Act.put, h]
  intro p
  induction p with
  | done =>
    intro S m l f kn ρ a w hok ha hd hk hS hjs h
    cases m with
    | none =>
      simp only [planOk] at hok
      exact anyH_done (by simpa using hok) (hQ ρ a w ha hd h) f
    | some js => cases js <;> simp [planOk] at hok
  | take i p ih =>
    intro S m l f kn ρ a w hok ha hd hk hS hjs h
    cases m with
    | some js => cases js <;> simp [planOk] at hok
    | none =>
      cases f with
      | zero => simp [planOk] at hok
      | succ f =>
        simp only [planOk, Bool.and_eq_true] at hok
        obtain ⟨⟨⟨hr, hf⟩, hns⟩, hp⟩ := hok
        simp only [planV] at h
        cases ho : ops.toList[i]? with
        | none => rw [ho] at h; exact h.elim
        | some o =>
          rw [ho] at h
          simp only [] at h
          have hoi : ops[i]? = some o := by simpa using ho
          have hokk := hoks i o ho
          have hdst : okD N o.dst = true := by have := hokk; simp only [okO, Bool.and_eq_true] at this; exact this.1.1.2
          have hns : isSt o.op = false := by rw [hoi] at hns; simpa using hns
          have hri : i ∈ Region.ready .any ops l := by simpa using hr
          obtain ⟨kn', hk', hh⟩ := guard_out ha hokk hk h
          rcases hh with ⟨hw, hy⟩ | ⟨hw, hn⟩
          · split at hy
            · rename_i x hx
              refine anyH_first (v := ev ρ x) (T := fun _ => True) hoi hns hsel (.inr fun _ => trivial) f S l a w (fun _ _ => trivial) (Region.free_spec hoi hf) hri (.inl ⟨hw, fun w1 hS1 => ?_⟩) hS (ih S none _ f _ _ _ w hp (put_ag ha hdst _) (hpd _ _ _ hd) (hk'.learn _ _) hS (by simp) hy)
              rw [exec_ag ha hokk]
              exact pick_out hk' hx w1
            cases hl : isLd o.op with
            | true =>
              obtain ⟨v, hv, hrun⟩ := take_out hy
              refine anyH_first (v := v) (T := match lateB ops i with | true => fun w => S w ∨ S1 w | false => S) hoi hns hsel (.inl ⟨hl, fun h => by rw [h]; exact fun _ => .inr⟩) f S l a w (fun _ h => by cases lateB ops i; exact h; exact .inl h) (Region.free_spec hoi hf) hri (.inl ⟨hw, fun w1 hS1 => ?_⟩) hS (ih S none _ f _ _ _ w hp (put_ag ha hdst v) (hpd _ _ _ hd) (hk'.put _ _) hS (by simp) hv)
              rw [exec_ag ha hokk]
              exact hrun w1 hS1
            | false =>
              obtain ⟨v, hv, hrun⟩ := take_out (takeV_any (S' := fun _ => True) hl hy)
              refine anyH_first (v := v) (T := fun _ => True) hoi hns hsel (.inr fun _ => trivial) f S l a w (fun _ _ => trivial) (Region.free_spec hoi hf) hri (.inl ⟨hw, fun w1 hS1 => ?_⟩) hS (ih S none _ f _ _ _ w hp (put_ag ha hdst v) (hpd _ _ _ hd) (hk'.put _ _) hS (by simp) hv)
              rw [exec_ag ha hokk]
              exact hrun w1 hS1
          · exact anyH_first (v := undef) (T := fun _ => True) hoi hns hsel (.inr fun _ => trivial) f S l a w (fun _ _ => trivial) (Region.free_spec hoi hf) hri (.inr ⟨hw, rfl⟩) hS (ih S none _ f _ _ _ w hp (put_ag ha hdst _) (hpd _ _ _ hd) (hk'.skip _) hS (by simp) hn)
  | stop =>
    intro S m l f kn ρ a w hok ha hd hk hS hjs h
    cases m with
    | none => simp [planOk] at hok
    | some js =>
      cases js with
      | nil => intro f' _ i hi; cases hi
      | cons j js => simp [planOk] at hok
  | alt i p rest ihp ihr =>
    intro S m l f kn ρ a w hok ha hd hk hS hjs h
    simp only [planV] at h
    obtain ⟨h1, h2⟩ := h
    have one : ∀ f', altOk ops i = true → i ∈ Region.ready .any ops l → planOk ops p none (l.setIfInBounds i true) f' = true → opA P ops i (fun a' w' => nS ops S1 i S w' ∧ anyH P ops S1 K' f' (nS ops S1 i S) (l.setIfInBounds i true) a' w') a w := by
      intro f' halt hri hp
      cases ho : ops.toList[i]? with
      | none => rw [ho] at h1; exact h1.elim
      | some o =>
        rw [ho] at h1
        simp only [] at h1
        have hoi : ops[i]? = some o := by simpa using ho
        have hokk := hoks i o ho
        have hdst : okD N o.dst = true := by have := hokk; simp only [okO, Bool.and_eq_true] at this; exact this.1.1.2
        obtain ⟨kn', hk', hh⟩ := guard_out ha hokk hk h1
        unfold opA
        rw [hoi]
        simp only []
        unfold opO
        rcases hh with ⟨hw, hy⟩ | ⟨hw, hn⟩
        · rw [if_pos hw, exec_ag ha hokk]
          refine (op_sound hy).mono fun v w' hv => ?_
          have hv : (match stB ops i, lastB ops i with
            | true, true => planV P ops.toList (ops.toList.map (·.dst)) S1 p (fun _ => True) (dropK kn' o.dst) (put ρ o.dst v) w' K
            | true, false => S1 w' ∧ planV P ops.toList (ops.toList.map (·.dst)) S1 p S1 (dropK kn' o.dst) (put ρ o.dst v) w' K
            | false, _ => S w' ∧ planV P ops.toList (ops.toList.map (·.dst)) S1 p S (dropK kn' o.dst) (put ρ o.dst v) w' K) := hv
          unfold nS
          cases hs : stB ops i with
          | false =>
            rw [hs] at hv
            exact ⟨hv.1, ihp S none _ f' _ _ _ w' hp (put_ag ha hdst v) (hpd _ _ _ hd) (hk'.put _ _) hv.1 (by simp) hv.2⟩
          | true =>
            rw [hs] at hv
            cases hl : lastB ops i with
            | false =>
              rw [hl] at hv
              exact ⟨hv.1, ihp S1 none _ f' _ _ _ w' hp (put_ag ha hdst v) (hpd _ _ _ hd) (hk'.put _ _) hv.1 (by simp) hv.2⟩
            | true =>
              rw [hl] at hv
              exact ⟨trivial, ihp (fun _ => True) none _ f' _ _ _ w' hp (put_ag ha hdst v) (hpd _ _ _ hd) (hk'.put _ _) trivial (by simp) hv⟩
        · rw [if_neg (by rw [hw]; simp)]
          have hlf : isSt o.op = false := by
            unfold altOk at halt
            rw [hoi] at halt
            cases hst : isSt o.op with
            | false => rfl
            | true =>
              simp only [hst, Bool.not_true, Bool.false_or] at halt
              unfold Region.wanted at hw
              cases hg : o.guard with
              | none => rw [hg] at hw; cases hw
              | some g => rw [hg] at halt; cases halt
          rw [nS_false hoi hlf]
          exact ⟨hS, ihp S none _ f' _ _ _ w hp (put_ag ha hdst _) (hpd _ _ _ hd) (hk'.skip _) hS (by simp) hn⟩
    cases m with
    | none =>
      cases f with
      | zero => simp [planOk] at hok
      | succ f =>
        simp only [planOk] at hok
        split at hok
        · rename_i j js hrd
          simp only [Bool.and_eq_true] at hok
          obtain ⟨⟨⟨hj, halt⟩, hp⟩, hrest⟩ := hok
          have hji := Nat.eq_of_beq_eq_true hj
          have hri : i ∈ Region.ready .any ops l := by rw [hrd, ← hji]; exact List.mem_cons_self ..
          refine ⟨fun e => (by rw [hrd] at e; cases e), fun k hkk => ?_⟩
          rw [hrd] at hkk
          rcases List.mem_cons.1 hkk with rfl | hkk
          · rw [hji]; exact one f halt hri hp
          · exact ihr S (some js) l (f + 1) kn ρ a w hrest ha hd hk hS (fun js' e i hi => by cases e; rw [hrd]; exact List.mem_cons_of_mem _ hi) h2 f rfl k hkk
        · cases hok
    | some js =>
      cases js with
      | nil => simp [planOk] at hok
      | cons j js =>
        cases f with
        | zero => simp [planOk] at hok
        | succ f =>
          simp only [planOk, Bool.and_eq_true] at hok
          obtain ⟨⟨⟨hj, halt⟩, hp⟩, hrest⟩ := hok
          have hji := Nat.eq_of_beq_eq_true hj
          have hri : i ∈ Region.ready .any ops l := hjs _ rfl i (by rw [← hji]; exact List.mem_cons_self ..)
          intro f' hf' k hkk
          cases hf'
          rcases List.mem_cons.1 hkk with rfl | hkk
          · rw [hji]; exact one f halt hri hp
          · exact ihr S (some js) l (f + 1) kn ρ a w hrest ha hd hk hS (fun js' e i hi => by cases e; exact hjs _ rfl i (List.mem_cons_of_mem _ hi)) h2 f rfl k hkk

def stepI (P : Program) (ops : Array Oper) (i : Nat) (I : Env → World → Prop) (ρ : Env) (w : World) : Prop :=
  match ops.toList[i]? with
  | none => False
  | some o => ∃ kn, Kn ρ kn ∧ guardV (ops.toList.map (·.dst)) o.guard kn ρ (fun _ => opV P o.op ρ w fun v w' => I (put ρ o.dst v) w') (fun _ => I (put ρ o.dst undef) w)

def anyI (P : Program) (ops : Array Oper) (ρ : Env) (w : World) (K : Env → World → Prop) : Prop :=
  ∃ I : Array Bool → Env → World → Prop, I (Array.replicate ops.size false) ρ w.drew ∧ (∀ l ρ w, I l ρ w → Region.ready .any ops l = [] → K ρ w) ∧
    ∀ l ρ w, I l ρ w → ∀ i ∈ Region.ready .any ops l, stepI P ops i (I (l.setIfInBounds i true)) ρ w

theorem ready_unlisted {md : Region.Mode} {ops : Array Oper} {l : Array Bool} {i : Nat} (h : i ∈ Region.ready md ops l) : l.getD i true = false := by
  unfold Region.ready at h
  have := (List.mem_filter.1 h).2
  simp only [Bool.and_eq_true, Bool.not_eq_true'] at this
  exact this.1

theorem anyI_sound {P : Program} {N : Nat} {ops : Array Oper} {K : Env → World → Prop} {K' : Act → World → Prop} {dd : List Deferred} (hall : ops.toList.all (okO N (ops.toList.map (·.dst))) = true)
    (hQ : ∀ ρ a w, Ag N ρ a → a.defers = dd → K ρ w → K' a w) {I : Array Bool → Env → World → Prop} (h1 : ∀ l ρ w, I l ρ w → Region.ready .any ops l = [] → K ρ w)
    (h2 : ∀ l ρ w, I l ρ w → ∀ i ∈ Region.ready .any ops l, stepI P ops i (I (l.setIfInBounds i true)) ρ w) :
    ∀ (f : Nat) (l : Array Bool) (S : List Nat) (ρ : Env) (a : Act) (w : World), S.length ≤ f → (∀ i, l.getD i true = false → i ∈ S) → Ag N ρ a → a.defers = dd → I l ρ w → anyH P ops (fun _ => True) K' f (fun _ => True) l a w := by
  intro f
  induction f with
  | zero =>
    intro l S ρ a w hS hl ha hd hI
    have hr : Region.ready .any ops l = [] := by
      cases hq : Region.ready .any ops l with
      | nil => rfl
      | cons i r =>
        have := hl i (ready_unlisted (md := .any) (by rw [hq]; exact List.mem_cons_self))
        cases S with
        | nil => cases this
        | cons _ _ => simp at hS
    exact ⟨hr, hQ ρ a w ha hd (h1 l ρ w hI hr)⟩
  | succ f ih =>
    intro l S ρ a w hS hl ha hd hI
    refine ⟨fun hr => hQ ρ a w ha hd (h1 l ρ w hI hr), fun i hi => ?_⟩
    have hs := h2 l ρ w hI i hi
    have hiS := hl i (ready_unlisted hi)
    have hS' : (S.erase i).length ≤ f := by rw [List.length_erase_of_mem hiS]; omega
    have hl' : ∀ j, (l.setIfInBounds i true).getD j true = false → j ∈ S.erase i := by
      intro j hj
      by_cases e : j = i
      · subst e
        exfalso
        rcases Nat.lt_or_ge j l.size with h | h
        · simp [h] at hj
        · simp [Array.getElem?_eq_none, h] at hj
      · rw [getD_set_ne true (fun e' => e e'.symm)] at hj
        exact (List.mem_erase_of_ne e).2 (hl j hj)
    unfold stepI at hs
    cases ho : ops.toList[i]? with
    | none => rw [ho] at hs; exact hs.elim
    | some o =>
      rw [ho] at hs
      simp only [] at hs
      obtain ⟨kn, hkn, hs⟩ := hs
      have hoi : ops[i]? = some o := by simpa using ho
      have hok : okO N (ops.toList.map (·.dst)) o = true := List.all_eq_true.1 hall o (List.mem_of_getElem? ho)
      have hdst : okD N o.dst = true := by have := hok; simp only [okO, Bool.and_eq_true] at this; exact this.1.1.2
      have hpd : ∀ v, (a.put o.dst v).defers = dd := by intro v; cases hq : o.dst <;> simp [Act.put, hd]
      obtain ⟨kn', _, hh⟩ := guard_out ha hok hkn hs
      unfold opA
      rw [hoi]
      simp only []
      unfold opO
      have tr : ∀ w, nS ops (fun _ => True) i (fun _ => True) w := by intro w; unfold nS; cases stB ops i <;> cases lastB ops i <;> trivial
      have tr' : nS ops (fun _ => True) i (fun _ => True) = fun _ => True := by funext w; exact propext ⟨fun _ => trivial, fun _ => tr w⟩
      rw [tr']
      rcases hh with ⟨hw, hy⟩ | ⟨hw, hn⟩
      · rw [if_pos hw, exec_ag ha hok]
        exact (op_sound hy).mono fun v w' hv => ⟨trivial, ih _ _ _ _ _ hS' hl' (put_ag ha hdst v) (hpd v) hv⟩
      · rw [if_neg (by rw [hw]; simp)]
        exact ⟨trivial, ih _ _ _ _ _ hS' hl' (put_ag ha hdst _) (hpd _) hn⟩

end Go.V
