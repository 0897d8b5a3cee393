/-
  The engine, part 5: codes, loops, ranges over functions, whole functions. Own work.
-/
import Derived.Test.YtnmmpgeojimgoaaDoorVd
set_option linter.unusedVariables false
set_option linter.unusedSimpArgs false
namespace Go.V
open Go Go.RowKit

abbrev QV := Exit → Env → List Nat → World → Prop

structure Tab where
  sel : List (Nat × List Nat) := []
  plan : List (Nat × Plan) := []
  join : List (Nat × List Nat) := []

def look {α : Type} : List (Nat × α) → Nat → Option α
  | [], _ => none
  | (d, x) :: r, i => bif Nat.beq d i then some x else look r i

def firstR : Code → Option Nat
  | .region id _ _ => some id
  | .seq a b => match firstR a with
    | some i => some i
    | none => firstR b
  | .cond _ a b => match firstR a with
    | some i => some i
    | none => firstR b
  | .block _ c => firstR c
  | .loop c => firstR c
  | .rangeFunc _ _ a b => match firstR a with
    | some i => some i
    | none => firstR b
  | _ => none

def keyOf (c : Code) : Nat := (firstR c).getD 0

def loopF (sel : List Nat) (init : List Value) (ds : List Nat) (w : World) (body : Env → List Nat → World → (List Value → List Nat → World → Prop) → Prop) : Prop :=
  ∃ (I : List Value → List Nat → World → Prop) (μ : List Value → List Nat → World → Nat), I init ds w ∧
    ∀ ρ ds w, I (sel.map ρ) ds w → body ρ ds w fun vs ds' w' => I vs ds' w' ∧ μ vs ds' w' < μ (sel.map ρ) ds w

/-- two ways that meet again: what holds where they meet is chosen -/
def joinF (sel : List Nat) (a : (List Value → List Nat → World → Prop) → Prop) (b : Env → List Nat → World → Prop) : Prop :=
  ∃ J : List Value → List Nat → World → Prop, a J ∧ ∀ ρ ds w, J (sel.map ρ) ds w → b ρ ds w

def putAll (ρ : Env) : List Nat → List Value → Env
  | t :: ts, v :: vs => putAll (put ρ (some t) v) ts vs
  | _, _ => ρ

def jumpV (e : Exit) (K : Option Code → Prop) : Prop :=
  match e with
  | .normal => K none
  | .ret => K (some .ret)
  | .exit id => K (some (.exit id))
  | _ => False

/-- one round of a range over a function, from the call of yield on -/
def roundV (l : Nat) (rec : Loop) (ps : List Nat) (asg : Option Nat → Env → World → QV → Prop) (bdy : Option Nat → Env → World → (Exit → World → Prop) → Prop) (ρ : Env) (args : List Value) (W : World) (K : Value → World → Prop) : Prop :=
  args.length = ps.length ∧ W.heap[l]? = some (.loop rec) ∧
  asg (some l) (putAll ρ ps args) W fun e ρ1 ds1 W1 => e = .normal ∧ ds1 = [] ∧ W1.heap[l]? = some (.loop rec) ∧
    bdy (some l) ρ1 (W1.putObj l (.loop { rec with state := .busy })) fun e W2 =>
      W2.heap[l]? = some (.loop { rec with state := .busy }) ∧ jumpV e fun j => K (.bool j.isNone) (W2.putObj l (.loop { rec with state := if j.isNone then .ready else .done, pending := j }))

/-- behind the iterator's return -/
def endV (l : Nat) (rec : Loop) (w : World) (Kn Kr : World → Prop) (Kx : Nat → World → Prop) : Prop :=
  ∃ st pe, w.heap[l]? = some (.loop { rec with state := st, pending := pe }) ∧ st ≠ .busy ∧
    match pe with
    | none => Kn (w.putObj l (.loop { rec with state := .exhausted, pending := pe }))
    | some .ret => Kr (w.putObj l (.loop { rec with state := .exhausted, pending := pe }))
    | some (.exit id) => Kx id (w.putObj l (.loop { rec with state := .exhausted, pending := pe }))
    | _ => False

def exV : List (Nat × (List Nat → World → Prop)) → List Nat → Nat → World → Prop
  | [], _, _, _ => False
  | (j, K) :: r, ds, id, w => bif Nat.beq j id then K ds w else exV r ds id w

def hasRet : Code → Bool
  | .ret => true
  | .seq a b => hasRet a || hasRet b
  | .cond _ a b => hasRet a || hasRet b
  | .block _ c => hasRet c
  | .loop c => hasRet c
  | .rangeFunc _ _ _ b => hasRet b
  | _ => false

def exitsOf : Code → List Nat
  | .exit id => [id]
  | .seq a b => exitsOf a ++ (exitsOf b).filter fun j => !((exitsOf a).any (Nat.beq j))
  | .cond _ a b => exitsOf a ++ (exitsOf b).filter fun j => !((exitsOf a).any (Nat.beq j))
  | .block id c => (exitsOf c).filter fun j => !(Nat.beq j id)
  | .loop c => exitsOf c
  | .rangeFunc _ _ _ b => exitsOf b
  | _ => []

def onlyIf (b : Bool) (K : List Nat → World → Prop) : List Nat → World → Prop :=
  match b with
  | true => K
  | false => fun _ _ => False

def vRetV (P : Program) (f : Value) (args : List Value) (w : World) (K : Value → World → Prop) : Prop :=
  match f with
  | .func (.func g) first cap => Ret P g (first.toList ++ args ++ cap.toList).toArray w K
  | _ => False

def rangeF (P : Program) (r : Option Nat) (sel : List Nat) (init : List Value) (ps : List Nat) (asg : Option Nat → Env → World → QV → Prop) (bdy : Option Nat → Env → World → (Exit → World → Prop) → Prop) (fv : Value) (ds : List Nat) (w : World) (Kn Kr : List Nat → World → Prop) (Kx : List (Nat × (List Nat → World → Prop))) : Prop :=
  match r with
  | none => ∀ (rec : Loop) (ρb : Env), rec.state = .ready → rec.pending = none → sel.map ρb = init →
      (∀ args W K, roundV (w.heap.size + 1) rec ps asg bdy ρb args W K → Round P (w.heap.size + 1) args.toArray W K) →
      vRetV P fv [.func (.yield (w.heap.size + 1)) #[] #[]] ((w.alloc (.deferred (some []))).alloc (.loop rec)) fun _ w2 =>
        endV (w.heap.size + 1) rec w2 (Kn (w.heap.size :: ds)) (Kr (w.heap.size :: ds)) (exV Kx (w.heap.size :: ds))
  | some l0 => (∃ r0, w.heap[l0]? = some (.loop r0)) ∧ ∀ (rec : Loop) (ρb : Env), rec.state = .ready → rec.pending = none → sel.map ρb = init →
      (∀ args W K, roundV w.heap.size rec ps asg bdy ρb args W K → Round P w.heap.size args.toArray W K) →
      vRetV P fv [.func (.yield w.heap.size) #[] #[]] (w.alloc (.loop rec)) fun _ w2 =>
        endV w.heap.size rec w2 (Kn ds) (Kr ds) (exV Kx ds)

def drawV (P : Program) (T : Tab) (id : Nat) (ops : Array Oper) (ρ : Env) (w : World) (K : Env → World → Prop) : Prop :=
  match look T.plan id with
  | none => False
  | some p => match planOk ops p none (Array.replicate ops.size false) ops.size with
    | true => match stageB ops with
      | false => drawF w fun S => planV P ops.toList (ops.toList.map (·.dst)) S p S [] ρ w.drew K
      | true => drawF2 w fun S S1 => planV P ops.toList (ops.toList.map (·.dst)) S1 p S [] ρ w.drew K
    | false => False

def codeV (P : Program) (T : Tab) : Code → Option Nat → Env → List Nat → World → QV → Prop
  | .skip, _, ρ, ds, w, Q => Q .normal ρ ds w
  | .region id ops draw, _, ρ, ds, w, Q => match draw with
    | false => opsV P (ops.toList.map (·.dst)) ops.toList [] ρ w fun ρ' w' => Q .normal ρ' ds w'
    | true => drawV P T id ops ρ w fun ρ' w' => Q .normal ρ' ds w'
  | .seq a b, r, ρ, ds, w, Q => match look T.join (keyOf b) with
    | none => codeV P T a r ρ ds w fun e ρ' ds' w' => match e with
      | .normal => codeV P T b r ρ' ds' w' Q
      | e => Q e ρ' ds' w'
    | some sel => joinF sel (fun J => codeV P T a r ρ ds w fun e ρ' ds' w' => match e with
      | .normal => J (sel.map ρ') ds' w'
      | e => Q e ρ' ds' w') (fun ρ' ds' w' => codeV P T b r ρ' ds' w' Q)
  | .cond c a b, r, ρ, ds, w, Q => vBool (ev ρ c) fun t => if t = true then codeV P T a r ρ ds w Q else codeV P T b r ρ ds w Q
  | .block id c, r, ρ, ds, w, Q => codeV P T c r ρ ds w fun e ρ' ds' w' => match e with
    | .exit i => bif Nat.beq i id then Q .normal ρ' ds' w' else Q (.exit i) ρ' ds' w'
    | e => Q e ρ' ds' w'
  | .loop c, r, ρ, ds, w, Q => loopF ((look T.sel (keyOf c)).getD []) (((look T.sel (keyOf c)).getD []).map ρ) ds w fun ρ' ds' w' again => codeV P T c r ρ' ds' w' fun e ρ'' ds'' w'' => match e with
    | .normal => again (((look T.sel (keyOf c)).getD []).map ρ'') ds'' w''
    | e => Q e ρ'' ds'' w''
  | .exit id, _, ρ, ds, w, Q => Q (.exit id) ρ ds w
  | .ret, _, ρ, ds, w, Q => Q .ret ρ ds w
  | .label _, _, ρ, ds, w, Q => Q .normal ρ ds w
  | .scope c, r, ρ, ds, w, Q => codeV P T c r ρ ds w fun e ρ' ds' w' => match e with
    | .goto _ => False
    | e => Q e ρ' ds' w'
  | .rangeFunc f ps a b, r, ρ, ds, w, Q => rangeF P r ((look T.sel (keyOf (.rangeFunc f ps a b))).getD []) (((look T.sel (keyOf (.rangeFunc f ps a b))).getD []).map ρ) ps.toList
      (fun r' ρ' w' Q' => codeV P T a r' ρ' [] w' Q') (fun r' ρ' w' Q' => codeV P T b r' ρ' [] w' fun e _ _ w'' => Q' e w'') (ev ρ f) ds w (fun ds' w' => Q .normal ρ ds' w') (onlyIf (hasRet b) fun ds' w' => Q .ret ρ ds' w') ((exitsOf b).map fun j => (j, fun ds' w' => Q (.exit j) ρ ds' w'))
  | _, _, _, _, _, _ => False

def okC (T : Tab) (N : Nat) : Code → Bool
  | .skip => true
  | .region _ ops _ => ops.toList.all (okO N (ops.toList.map (·.dst)))
  | .seq a b => okC T N a && okC T N b
  | .cond c a b => okX N c && okC T N a && okC T N b
  | .block _ c => okC T N c
  | .loop c => ((look T.sel (keyOf c)).getD []).all (fun t => Nat.blt t N) && okC T N c
  | .exit _ => true
  | .ret => true
  | .scope c => okC T N c
  | .rangeFunc f ps a b => okX N f && ps.toList.all (fun t => Nat.blt t N) && okC T N a && okC T N b
  | _ => true

def marks (ds : List Nat) : List Deferred := ds.map fun D => { target := .collected D, args := #[] }

def unmarks (l : List Deferred) : List Nat := l.filterMap fun d => match d.target with
  | .collected D => some D
  | _ => none

theorem unmarks_marks (ds : List Nat) : unmarks (marks ds) = ds := by
  induction ds with
  | nil => rfl
  | cons d ds ih => simp [marks, unmarks] at ih ⊢; exact ih

/-- the machine's post out of V's -/
def QA (N : Nat) (Q : QV) : Exit → Act → World → Prop
  | .panic _, _, _ => False
  | .outgrown, _, _ => False
  | e, a, w => ∃ ρ ds, Ag N ρ a ∧ a.defers = marks ds ∧ Q e ρ ds w

theorem putAll_ag {N : Nat} : ∀ (ps : List Nat) (vs : List Value) (ρ : Env) (a : Act), Ag N ρ a → ps.all (fun t => Nat.blt t N) = true → ps.length = vs.length →
    Ag N (putAll ρ ps vs) { a with tmps := (ps.zip vs).foldl (fun t (p, v) => t.setIfInBounds p v) a.tmps }
  | [], [], ρ, a, h, _, _ => h
  | [], _ :: _, _, _, _, _, hl => by simp at hl
  | _ :: _, [], _, _, _, _, hl => by simp at hl
  | p :: ps, v :: vs, ρ, a, h, hp, hl => by
    simp only [List.all_cons, Bool.and_eq_true] at hp
    have := putAll_ag ps vs (put ρ (some p) v) (a.put (some p) v) (put_ag h (by simpa [okD] using hp.1) v) hp.2 (by simpa using hl)
    simpa [putAll, Act.put] using this

theorem plan_region {P : Program} {N : Nat} {T : Tab} {r : Option Nat} {id : Nat} {ops : Array Oper} {ρ : Env} {a : Act} {w : World} {K : Env → World → Prop} {Q : Exit → Act → World → Prop} {dd : List Deferred}
    (hm : P.follows .mixedOrders = true) (hall : ops.toList.all (okO N (ops.toList.map (·.dst))) = true) (ha : Ag N ρ a) (hd : a.defers = dd)
    (hQ : ∀ ρ a w, Ag N ρ a → a.defers = dd → K ρ w → Q .normal a w) (h : drawV P T id ops ρ w K) : (Code.region id ops true).wpIn (WF r) 0 P Q a w := by
  unfold drawV at h
  split at h
  · exact h.elim
  · rename_i p hp
    split at h
    · rename_i hok
      split at h
      · obtain ⟨S, hS, hpl⟩ := h
        have := plan_sound (K' := fun a w => Q .normal a w) (S1 := S) hall hQ p S none _ _ [] ρ a w.drew hok ha hd (Kn.nil _) hS (by simp) hpl
        exact wpIn_region_any hm (anyH_wpAnyIn (fun _ _ h => h) _ _ _ _ _ this)
      · obtain ⟨S, S1, hS, hpl⟩ := h
        have := plan_sound (K' := fun a w => Q .normal a w) (S1 := S1) hall hQ p S none _ _ [] ρ a w.drew hok ha hd (Kn.nil _) hS (by simp) hpl
        exact wpIn_region_any hm (anyH_wpAnyIn (fun _ _ h => h) _ _ _ _ _ this)
    · exact h.elim

theorem range_sound {P : Program} {N : Nat} {r : Option Nat} {sel : List Nat} {f : Operand} {ps : Array Tmp} {ca cb : Code} {asg : Option Nat → Env → World → QV → Prop} {bdy : Option Nat → Env → World → (Exit → World → Prop) → Prop} {ρ : Env} {ds : List Nat} {a : Act} {w : World} {Q : QV} {Kr : List Nat → World → Prop} {Kx : List (Nat × (List Nat → World → Prop))}
    (hKr : ∀ ds w, Kr ds w → Q .ret ρ ds w) (hKx : ∀ ds j w, exV Kx ds j w → Q (.exit j) ρ ds w)
    (hf : okX N f = true) (hps : ps.toList.all (fun t => Nat.blt t N) = true) (ha : Ag N ρ a) (hd : a.defers = marks ds)
    (ih1 : ∀ (l : Nat) (ρ : Env) (a : Act) (w : World) (Q : QV), Ag N ρ a → a.defers = [] → asg (some l) ρ w Q → ca.wpIn (WF (some l)) 0 P (QA N Q) a w)
    (ih2 : ∀ (l : Nat) (ρ : Env) (a : Act) (w : World) (Q : Exit → World → Prop), Ag N ρ a → a.defers = marks [] → bdy (some l) ρ w Q → cb.wpIn (WF (some l)) 0 P (QA N fun e _ _ w => Q e w) a w)
    (h : rangeF P r sel (sel.map ρ) ps.toList asg bdy (ev ρ f) ds w (fun ds' w' => Q .normal ρ ds' w') Kr Kx) : (Code.rangeFunc f ps ca cb).wpIn (WF r) 0 P (QA N Q) a w := by
  -- one round
  have round : ∀ (l : Nat) (rec : Loop) (fn : FuncId), rec.state = .ready → rec.fn = fn → rec.tmps = a.tmps → rec.params = ps → rec.assign = ca → rec.body = cb →
      ∀ args W K, roundV l rec ps.toList asg bdy ρ args W K → Round P l args.toArray W K := by
    intro l rec fn hst hfn htm hpa has hbo args W K hr
    obtain ⟨hlen, hl, hr⟩ := hr
    refine ⟨_, _, _, _, run_yield (args := args.toArray) hl (by rw [hpa]; simpa using hlen), ?_⟩
    rw [hpa, htm, has, hbo]
    have hzip : (ps.zip args.toArray).foldl (fun tmps (t, v) => tmps.setIfInBounds t v) a.tmps = (ps.toList.zip args).foldl (fun t (p, v) => t.setIfInBounds p v) a.tmps := by
      rw [← Array.foldl_toList]
      congr 1
      simp
    rw [hzip]
    have hag := putAll_ag ps.toList args ρ { a with defers := [] } ⟨ha.1, ha.2⟩ hps hlen.symm
    refine roundIn_of_wpIn (F := Fence.wide) trivial ?_
    refine wpIn_mono (ih1 l _ _ _ _ hag rfl hr) ?_
    rintro e a1 W1 hq
    cases e with
    | normal =>
      obtain ⟨ρ1, ds1, hag1, hd1, _, hds, hl1, hb⟩ := hq
      refine ⟨_, run_beginRound hl1 hst, ?_⟩
      subst hds
      refine wpIn_mono (ih2 l ρ1 a1 _ _ hag1 hd1 hb) ?_
      have fin : ∀ (j : Option Code) (W2 : World), W2.heap[l]? = some (.loop { rec with state := .busy }) →
          K (.bool j.isNone) (W2.putObj l (.loop { rec with state := if j.isNone then .ready else .done, pending := j })) →
          ∃ v w', (Instr.endRound l j).run P W2 = .ok v w' ∧ ∃ v', Ending.returned v = .returned v' ∧ K v' w' :=
        fun j W2 h1 h2 => ⟨_, _, run_endRound j h1, _, rfl, h2⟩
      rintro e a2 W2 hq2
      cases e with
      | normal => obtain ⟨ρ2, ds2, _, _, h1, h2⟩ := hq2; exact fin none W2 h1 h2
      | ret => obtain ⟨ρ2, ds2, _, _, h1, h2⟩ := hq2; exact fin (some .ret) W2 h1 h2
      | exit id => obtain ⟨ρ2, ds2, _, _, h1, h2⟩ := hq2; exact fin (some (.exit id)) W2 h1 h2
      | goto t => obtain ⟨ρ2, ds2, _, _, h1, h2⟩ := hq2; exact h2.elim
      | panic c => exact hq2.elim
      | outgrown => exact hq2.elim
    | ret => obtain ⟨ρ1, ds1, hag1, hd1, he, _⟩ := hq; cases he
    | exit id => obtain ⟨ρ1, ds1, hag1, hd1, he, _⟩ := hq; cases he
    | goto t => obtain ⟨ρ1, ds1, hag1, hd1, he, _⟩ := hq; cases he
    | panic c => exact hq.elim
    | outgrown => exact hq.elim
  -- behind the iterator
  have ending : ∀ (l : Nat) (rec : Loop) (a' : Act) (w2 : World) (ds' : List Nat), Ag N ρ a' → a'.defers = marks ds' →
      endV l rec w2 (fun w3 => Q .normal ρ ds' w3) (Kr ds') (exV Kx ds') → rangePost (WF r) 0 P l (QA N Q) a' (.returned (.tuple #[])) w2 := by
    intro l rec a' w2 ds' hag hdd he
    obtain ⟨st, pe, hl, hst, hq⟩ := he
    refine ⟨pe, _, run_endLoop hl (by exact hst), ?_⟩
    match pe, hq with
    | none, hq => exact ⟨ρ, ds', hag, hdd, hq⟩
    | some .ret, hq => exact wpIn_ret ⟨ρ, ds', hag, hdd, hKr _ _ hq⟩
    | some (.exit id), hq => exact wpIn_exit ⟨ρ, ds', hag, hdd, hKx _ _ _ hq⟩
  have hev : a.eval f = ev ρ f := ev_ag ha hf
  refine wpIn_rangeFunc ?_
  intro fn _
  unfold rangeF at h
  cases r with
  | none =>
    simp only [] at h
    obtain ⟨rec, hrec⟩ : ∃ rec : Loop, rec = { state := .ready, pending := none, fn := fn, tmps := a.tmps, params := ps, assign := ca, body := cb, defers := w.heap.size } := ⟨_, rfl⟩
    have hcall := h rec ρ (by rw [hrec]) (by rw [hrec]) rfl (round _ rec fn (by rw [hrec]) (by rw [hrec]) (by rw [hrec]) (by rw [hrec]) (by rw [hrec]) (by rw [hrec]))
    unfold vRetV at hcall
    split at hcall
    · rename_i g first cap hfv
      obtain ⟨hE, hC⟩ := hcall
      refine ⟨w.heap.size + 1, [{ target := .collected w.heap.size, args := #[] }], (w.alloc (.deferred (some []))).alloc (.loop rec),
        { target := .fn (.func g) cap, args := first ++ #[.func (.yield (w.heap.size + 1)) #[] #[]] }, (w.alloc (.deferred (some []))).alloc (.loop rec), g, (first.toList ++ [Value.func (.yield (w.heap.size + 1)) #[] #[]] ++ cap.toList).toArray, (w.alloc (.deferred (some []))).alloc (.loop rec), ?_, ?_, fun _ _ => trivial, ?_, fun hd => (by cases hd), ?_⟩
      · rw [hrec]; exact run_enterLoop_outer _ _ _ _ _
      · have hargs : (rangeCall f (w.heap.size + 1)).args.map a.eval = #[Value.func (.yield (w.heap.size + 1)) #[] #[]] := by simp [Act.eval]
        unfold resolve
        rw [hargs]
        show (Deferred.ofValue (a.eval f) _).run P _ = _
        rw [hev, hfv]
        rfl
      · simp only [invoke]
        have e1 : (first ++ #[Value.func (.yield (w.heap.size + 1)) #[] #[]] ++ cap) = (first.toList ++ [Value.func (.yield (w.heap.size + 1)) #[] #[]] ++ cap.toList).toArray := by
          apply Array.toList_inj.1; simp
        rw [e1]
        exact hE _ _
      · refine CallsIn.mono hC fun e w2 he => ?_
        obtain ⟨v, rfl, he⟩ := he
        exact ending _ rec _ w2 _ ⟨ha.1, ha.2⟩ (by simp [marks, hd]) he
    · exact hcall.elim
  | some l0 =>
    simp only [] at h
    obtain ⟨⟨r0, hr0⟩, h⟩ := h
    obtain ⟨rec, hrec⟩ : ∃ rec : Loop, rec = { state := .ready, pending := none, fn := fn, tmps := a.tmps, params := ps, assign := ca, body := cb, defers := r0.defers } := ⟨_, rfl⟩
    have hcall := h rec ρ (by rw [hrec]) (by rw [hrec]) rfl (round _ rec fn (by rw [hrec]) (by rw [hrec]) (by rw [hrec]) (by rw [hrec]) (by rw [hrec]) (by rw [hrec]))
    unfold vRetV at hcall
    split at hcall
    · rename_i g first cap hfv
      obtain ⟨hE, hC⟩ := hcall
      refine ⟨w.heap.size, [], w.alloc (.loop rec),
        { target := .fn (.func g) cap, args := first ++ #[.func (.yield w.heap.size) #[] #[]] }, w.alloc (.loop rec), g, (first.toList ++ [Value.func (.yield w.heap.size) #[] #[]] ++ cap.toList).toArray, w.alloc (.loop rec), ?_, ?_, fun _ _ => trivial, ?_, fun hd => (by cases hd), ?_⟩
      · unfold Instr.enterLoop
        simp only [Sem.run_bind, run_getLoop hr0, run_newObj_alloc, Result.andThen, Sem.run_pure]
        rw [hrec]
      · have hargs : (rangeCall f w.heap.size).args.map a.eval = #[Value.func (.yield w.heap.size) #[] #[]] := by simp [Act.eval]
        unfold resolve
        rw [hargs]
        show (Deferred.ofValue (a.eval f) _).run P _ = _
        rw [hev, hfv]
        rfl
      · simp only [invoke]
        have e1 : (first ++ #[Value.func (.yield w.heap.size) #[] #[]] ++ cap) = (first.toList ++ [Value.func (.yield w.heap.size) #[] #[]] ++ cap.toList).toArray := by
          apply Array.toList_inj.1; simp
        rw [e1]
        exact hE _ _
      · refine CallsIn.mono hC fun e w2 he => ?_
        obtain ⟨v, rfl, he⟩ := he
        exact ending _ rec _ w2 _ ⟨ha.1, ha.2⟩ (by simp [hd]) he
    · exact hcall.elim

theorem stepR_scope {P : Program} {b : Frame} {a : Act} {k : List Item} {cs : List Frame} {w : World} {c : Code} : step P (lone (b.atR a (.code (.scope c) :: k)) cs w) = .next (lone (b.atR a (.code c :: .inScope c :: k)) cs w) :=
  step_lone_go (by simp [stepG, stepG.exec, Frame.atR])
theorem stepR_inScope {P : Program} {b : Frame} {a : Act} {k : List Item} {cs : List Frame} {w : World} {c : Code} : step P (lone (b.atR a (.inScope c :: k)) cs w) = .next (lone (b.atR a k) cs w) :=
  step_lone_go (by simp [stepG, stepG.exec, Frame.atR])

theorem wpIn_scope {F : Fence} {n : Nat} {P : Program} {Q : Exit → Act → World → Prop} {a : Act} {w : World} {c : Code} (h : c.wpIn F n P (fun e a w => match e with | .goto _ => False | e => Q e a w) a w) : (Code.scope c).wpIn F n P Q a w := by
  intro b k cs hro hb hr
  have h0 : (lone (b.atR a (.code (.scope c) :: k)) cs w).fenced P F := fenced_calm hb hr rfl
  obtain ⟨e, a₁, w₁, hq, harr⟩ := h b (.inScope c :: k) cs hro hb hr
  cases e with
  | normal => exact ⟨.normal, a₁, w₁, hq, .head h0 stepR_scope (StepsIn.trans harr (.one (fenced_calm hb hr rfl) stepR_inScope))⟩
  | exit id =>
    have hx : exitTo id (.inScope c :: k) = exitTo id k := by simp [exitTo]
    exact ⟨.exit id, a₁, w₁, hq, fun k' hk => .head h0 stepR_scope (harr.1 k' (by rw [hx]; exact hk)),
      fun hr' hk => let ⟨k₁, h1, h2⟩ := harr.2 hr' (by rw [hx]; exact hk); ⟨k₁, h1, .head h0 stepR_scope h2⟩⟩
  | goto l => exact hq.elim
  | ret => exact ⟨.ret, a₁, w₁, hq, .of_steps (.one h0 stepR_scope) harr⟩
  | panic ch => exact ⟨_, a₁, w₁, hq, .of_steps (.one h0 stepR_scope) harr⟩
  | outgrown => exact ⟨_, a₁, w₁, hq, .of_steps (.one h0 stepR_scope) harr⟩

/-- **CODES ARE SOUND** -/
theorem code_sound {P : Program} {N : Nat} {T : Tab} (hm : P.follows .mixedOrders = true) : ∀ (c : Code) (r : Option Nat) (ρ : Env) (ds : List Nat) (a : Act) (w : World) (Q : QV),
    okC T N c = true → Ag N ρ a → a.defers = marks ds → codeV P T c r ρ ds w Q → c.wpIn (WF r) 0 P (QA N Q) a w := by
  intro c
  induction c with
  | skip => intro r ρ ds a w Q _ ha hd h; exact wpIn_skip ⟨ρ, ds, ha, hd, h⟩
  | region id ops draw =>
    intro r ρ ds a w Q hok ha hd h
    simp only [okC] at hok
    cases draw with
    | false =>
      simp only [codeV] at h
      exact wpIn_region_list (ops_sound (dd := marks ds) (fun ρ a w ha hd h => ⟨ρ, ds, ha, hd, h⟩) ops.toList [] ρ a w hok ha hd (Kn.nil _) h)
    | true =>
      simp only [codeV] at h
      exact plan_region hm hok ha hd (fun ρ a w ha hd h => ⟨ρ, ds, ha, hd, h⟩) h
  | seq x y ihx ihy =>
    intro r ρ ds a w Q hok ha hd h
    simp only [okC, Bool.and_eq_true] at hok
    simp only [codeV] at h
    cases hj : look T.join (keyOf y) with
    | none =>
      rw [hj] at h
      refine wpIn_seq (wpIn_mono (ihx r ρ ds a w _ hok.1 ha hd h) ?_)
      intro e a1 w1 hq
      cases e with
      | normal => obtain ⟨ρ1, ds1, ha1, hd1, h1⟩ := hq; exact ihy r ρ1 ds1 a1 w1 Q hok.2 ha1 hd1 h1
      | exit id => exact hq
      | goto l => exact hq
      | ret => exact hq
      | panic ch => exact hq.elim
      | outgrown => exact hq.elim
    | some sel =>
      rw [hj] at h
      obtain ⟨J, h1, h2⟩ := h
      refine wpIn_seq (wpIn_mono (ihx r ρ ds a w _ hok.1 ha hd h1) ?_)
      intro e a1 w1 hq
      cases e with
      | normal => obtain ⟨ρ1, ds1, ha1, hd1, h3⟩ := hq; exact ihy r ρ1 ds1 a1 w1 Q hok.2 ha1 hd1 (h2 ρ1 ds1 w1 h3)
      | exit id => exact hq
      | goto l => exact hq
      | ret => exact hq
      | panic ch => exact hq.elim
      | outgrown => exact hq.elim
  | cond c x y ihx ihy =>
    intro r ρ ds a w Q hok ha hd h
    simp only [okC, Bool.and_eq_true] at hok
    simp only [codeV] at h
    obtain ⟨t, ht, hh⟩ := vBool_out h
    refine wpIn_cond (t := t) (by rw [ev_ag ha hok.1.1]; exact ht) ?_
    cases t
    · exact ihy r ρ ds a w Q hok.2 ha hd (by simpa using hh)
    · exact ihx r ρ ds a w Q hok.1.2 ha hd (by simpa using hh)
  | block id c ih =>
    intro r ρ ds a w Q hok ha hd h
    simp only [okC] at hok
    simp only [codeV] at h
    refine wpIn_block (wpIn_mono (ih r ρ ds a w _ hok ha hd h) ?_)
    intro e a1 w1 hq
    cases e with
    | normal => exact hq
    | exit i =>
      obtain ⟨ρ1, ds1, ha1, hd1, h1⟩ := hq
      simp only [Exit.inBlock]
      simp only [] at h1
      cases hb : Nat.beq i id
      · rw [hb] at h1
        rw [if_neg (by intro e; rw [e, Nat.beq_refl] at hb; cases hb)]
        exact ⟨ρ1, ds1, ha1, hd1, h1⟩
      · rw [hb] at h1
        rw [if_pos (Nat.eq_of_beq_eq_true hb)]
        exact ⟨ρ1, ds1, ha1, hd1, h1⟩
    | goto l => exact hq
    | ret => exact hq
    | panic ch => exact hq.elim
    | outgrown => exact hq.elim
  | loop c ih =>
    intro r ρ ds a w Q hok ha hd h
    simp only [okC, Bool.and_eq_true] at hok
    simp only [codeV] at h
    obtain ⟨I, μ, h0, hI⟩ := h
    generalize (look T.sel (keyOf c)).getD [] = sel at *
    have hsel : ∀ (ρ : Env) (a : Act), Ag N ρ a → sel.map ρ = sel.map fun i => a.tmps.getD i undef := by
      intro ρ a ha
      apply List.map_congr_left
      intro i hi
      have := List.all_eq_true.1 hok.1 i hi
      exact (ha.2 i (by simpa [Nat.blt_eq] using this)).symm
    refine wpIn_loop (fun a w => ∃ ρ ds, Ag N ρ a ∧ a.defers = marks ds ∧ I (sel.map ρ) ds w) (fun a w => μ (sel.map fun i => a.tmps.getD i undef) (unmarks a.defers) w) ⟨ρ, ds, ha, hd, h0⟩ ?_
    rintro a1 w1 ⟨ρ1, ds1, ha1, hd1, hi1⟩
    refine wpIn_mono (ih r ρ1 ds1 a1 w1 _ hok.2 ha1 hd1 (hI ρ1 ds1 w1 hi1)) ?_
    intro e a2 w2 hq
    cases e with
    | normal =>
      obtain ⟨ρ2, ds2, ha2, hd2, h2, h3⟩ := hq
      refine ⟨⟨ρ2, ds2, ha2, hd2, h2⟩, ?_⟩
      rw [← hsel ρ2 a2 ha2, ← hsel ρ1 a1 ha1, hd1, hd2, unmarks_marks, unmarks_marks]
      exact h3
    | exit id => exact hq
    | goto l => exact hq
    | ret => exact hq
    | panic ch => exact hq.elim
    | outgrown => exact hq.elim
  | exit id => intro r ρ ds a w Q _ ha hd h; exact wpIn_exit ⟨ρ, ds, ha, hd, h⟩
  | ret => intro r ρ ds a w Q _ ha hd h; exact wpIn_ret ⟨ρ, ds, ha, hd, h⟩
  | label l => intro r ρ ds a w Q _ ha hd h; exact wpIn_label ⟨ρ, ds, ha, hd, h⟩
  | scope c ih =>
    intro r ρ ds a w Q hok ha hd h
    simp only [okC] at hok
    simp only [codeV] at h
    refine wpIn_scope (wpIn_mono (ih r ρ ds a w _ hok ha hd h) ?_)
    intro e a1 w1 hq
    cases e with
    | goto l => obtain ⟨_, _, _, _, hq⟩ := hq; exact hq.elim
    | normal => exact hq
    | exit id => exact hq
    | ret => exact hq
    | panic ch => exact hq.elim
    | outgrown => exact hq.elim
  | rangeFunc f ps x y ihx ihy =>
    intro r ρ ds a w Q hok ha hd h
    simp only [okC, Bool.and_eq_true] at hok
    simp only [codeV] at h
    refine range_sound (fun ds w hk => ?_) (fun ds j w hk => ?_) hok.1.1.1 hok.1.1.2 ha hd
      (fun l ρ a w Q ha hd h => ihx (some l) ρ [] a w Q hok.1.2 ha hd h)
      (fun l ρ a w Q ha hd h => ihy (some l) ρ [] a w _ hok.2 ha hd h) h
    · cases hh : hasRet y <;> rw [hh] at hk
      · exact hk.elim
      · exact hk
    · generalize exitsOf y = l at hk
      induction l with
      | nil => exact hk.elim
      | cons i r ih =>
        simp only [List.map_cons, exV] at hk
        cases hb : Nat.beq i j <;> rw [hb] at hk
        · exact ih hk
        · rw [← Nat.eq_of_beq_eq_true hb]; exact hk
  | _ => intro r ρ ds a w Q hok ha hd h; simp [codeV] at h


/-! ### Whole functions -/

def leaveV : List Nat → World → (World → Prop) → Prop
  | [], w, K => K w
  | D :: ds, w, K => w.heap[D]? = some (.deferred (some [])) ∧ leaveV ds (w.putObj D (.deferred none)) K

def oneOf (vs : List Value) : Value :=
  match vs with
  | [v] => v
  | vs => .tuple vs.toArray

def resV (P : Program) : List ResultVar → List Value → Env → World → (Value → Prop) → Prop
  | [], acc, _, _, K => K (oneOf acc.reverse)
  | .tmp t :: r, acc, ρ, w, K => resV P r (ρ t :: acc) ρ w K
  | .cell t ty :: r, acc, ρ, w, K => vLd (ldk P ty) (ρ t) w fun v => resV P r (v :: acc) ρ w K

def finV (P : Program) (fn : Func) (ρ : Env) (ds : List Nat) (w : World) (K : Value → World → Prop) : Prop :=
  leaveV ds w fun w' => resV P fn.results.toList [] ρ w' fun v => K v w'

def envOf (args : List Value) : Env := fun i => match args[i]? with
  | some v => v
  | none => undef

def enterV (P : Program) (T : Tab) (fn : Func) (args : List Value) (w : World) (K : Value → World → Prop) : Prop :=
  match fn.body with
  | none => False
  | some c => codeV P T c none (envOf args) [] w fun e ρ ds w' => match e with
    | .normal => finV P fn ρ ds w' K
    | .ret => finV P fn ρ ds w' K
    | _ => False

def okR (N : Nat) : ResultVar → Bool
  | .tmp t => Nat.blt t N
  | .cell t _ => Nat.blt t N

def okF (T : Tab) (fn : Func) (n : Nat) : Bool :=
  match fn.body with
  | none => false
  | some c => okC T fn.ntmps c && fn.results.toList.all (okR fn.ntmps) && Nat.ble n fn.ntmps

theorem res_out {P : Program} {N : Nat} {ρ : Env} {a : Act} {w : World} {K : Value → Prop} (ha : Ag N ρ a) : ∀ (l : List ResultVar) (acc : List Value), l.all (okR N) = true → resV P l acc ρ w K →
    ∃ vs : List Value, K (oneOf (acc.reverse ++ vs)) ∧ (l.mapM fun (r : ResultVar) => match r with
      | .tmp t => (pure (a.tmps.getD t undef) : Sem Value)
      | .cell t ty => do loadVar ty (← asAddr (a.tmps.getD t undef))).run P w = .ok vs w
  | [], acc, _, h => ⟨[], by simpa [resV] using h, rfl⟩
  | .tmp t :: r, acc, hok, h => by
    simp only [List.all_cons, Bool.and_eq_true, okR] at hok
    obtain ⟨vs, hk, hr⟩ := res_out ha r (ρ t :: acc) hok.2 h
    refine ⟨ρ t :: vs, by simpa using hk, ?_⟩
    rw [List.mapM_cons, run_bind_ok (a := ρ t) (w' := w), run_bind_ok hr]
    · rfl
    · simp only []; rw [ha.2 t (by simpa [Nat.blt_eq] using hok.1)]; rfl
  | .cell t ty :: r, acc, hok, h => by
    simp only [List.all_cons, Bool.and_eq_true, okR] at hok
    simp only [resV] at h
    obtain ⟨v, hv, hl⟩ := vLd_out h
    obtain ⟨vs, hk, hr⟩ := res_out ha r (v :: acc) hok.2 hv
    refine ⟨v :: vs, by simpa using hk, ?_⟩
    rw [List.mapM_cons, run_bind_ok (a := v) (w' := w), run_bind_ok hr]
    · rfl
    · simp only []
      rw [ha.2 t (by simpa [Nat.blt_eq] using hok.1)]
      unfold vLd at h
      split at h
      · rename_i a' _ he
        rw [he] at hl ⊢
        exact hl
      · rename_i n a' _ he
        rw [he] at hl ⊢
        exact hl
      · exact h.elim

theorem leave_out {P : Program} {fn : Func} {tmps : Array Value} {K : Value → World → Prop} : ∀ (ds : List Nat) (w : World),
    leaveV ds w (fun w' => ∃ v, (results fn tmps).run P w' = .ok v w' ∧ K v w') →
    LeavesInM Fence.wide 0 P fn tmps (fun e w' => ∃ v, e = .returned v ∧ K v w') (marks ds) .returning w
  | [], w, h => by
    obtain ⟨v, hr, hk⟩ := h
    exact ⟨v, hr, v, rfl, hk⟩
  | D :: ds, w, h => by
    obtain ⟨h1, h2⟩ := h
    exact ⟨by simp, .inl ⟨D, _, rfl, run_takeDeferred h1, leave_out ds _ h2⟩⟩

theorem leaveV_mono {K K' : World → Prop} (hk : ∀ w, K w → K' w) : ∀ (ds : List Nat) (w : World), leaveV ds w K → leaveV ds w K'
  | [], w, h => hk w h
  | D :: ds, w, h => ⟨h.1, leaveV_mono hk ds _ h.2⟩

/-- **A FUNCTION's CONTRACT OUT OF V's FORM OF ITS BODY.** -/
theorem enter_sound {P : Program} {T : Tab} {f : FuncId} {fn : Func} {args : List Value} {w : World} {K : Value → World → Prop}
    (hf : P.funcs[f]? = some fn) (hE : Enters P f) (hm : P.follows .mixedOrders = true) (hok : okF T fn args.length = true)
    (h : enterV P T fn args w K) : Ret P f args.toArray w K := by
  refine ⟨hE, ?_⟩
  unfold enterV at h
  unfold okF at hok
  cases hb : fn.body with
  | none => rw [hb] at h; exact h.elim
  | some c =>
    rw [hb] at h hok
    simp only [Bool.and_eq_true] at h hok
    obtain ⟨⟨hc, hres⟩, hlen⟩ := hok
    have hlen := Nat.le_of_ble_eq_true hlen
    refine callsIn_of_wp_marks hf hb trivial ?_
    have hag : Ag fn.ntmps (envOf args) { tmps := args.toArray ++ Array.replicate (fn.ntmps - args.toArray.size) undef, defers := [] } := by
      refine ⟨by simp; omega, fun i hi => ?_⟩
      unfold envOf
      by_cases hlt : i < args.length
      · simp [Array.getElem?_append, hlt]
      · have : args[i]? = none := by simp; omega
        rw [this]
        simp [Array.getElem?_append, hlt]
        rw [Array.getElem?_replicate]
        split <;> rfl
    have fin : ∀ (a : Act) (ρ : Env) (ds : List Nat) (w : World), Ag fn.ntmps ρ a → a.defers = marks ds → finV P fn ρ ds w K →
        LeavesInM Fence.wide 0 P fn a.tmps (fun e w' => ∃ v, e = .returned v ∧ K v w') a.defers .returning w := by
      intro a ρ ds w ha hd hfin
      rw [hd]
      refine leave_out ds w (leaveV_mono (fun w' hr => ?_) ds w hfin)
      obtain ⟨vs, hk, hrun⟩ := res_out ha _ _ hres hr
      refine ⟨oneOf vs, ?_, by simpa using hk⟩
      unfold results
      rw [Array.mapM_eq_mapM_toList]
      simp only [map_eq_pure_bind]
      rw [run_bind_ok (a := vs.toArray) (w' := w')]
      · simp only [Sem.run_pure]
        congr 1
        match vs with
        | [] => rfl
        | [v] => rfl
        | v :: u :: r => simp [oneOf]
      · exact (run_bind_ok hrun).trans rfl
    refine wpIn_mono (code_sound hm c none _ [] _ w _ hc hag rfl h) ?_
    intro e a w' hq
    cases e with
    | normal => obtain ⟨ρ, ds, ha, hd, hh⟩ := hq; exact fin a ρ ds w' ha hd hh
    | ret => obtain ⟨ρ, ds, ha, hd, hh⟩ := hq; exact fin a ρ ds w' ha hd hh
    | exit id => obtain ⟨ρ, ds, ha, hd, hh⟩ := hq; exact hh.elim
    | goto l => obtain ⟨ρ, ds, ha, hd, hh⟩ := hq; exact hh.elim
    | panic ch => exact hq.elim
    | outgrown => exact hq.elim

end Go.V
