/-
  The engine, part 5: codes, loops, ranges over functions, whole functions. Own work.
-/
import Derived.Test.YtdkklhnleppfcaaGreatSg04
import Derived.WalkKit
import Derived.ProofKit
import Derived.OpenShut
import Derived.ChangeMaps5
import Derived.Carry
import Derived.JoinedCond
import Derived.SliceStrings
set_option linter.unusedVariables false
set_option linter.unusedSimpArgs false

set_option linter.unusedVariables false
set_option linter.unusedSimpArgs false
namespace Go.V
open Go Go.RowKit

abbrev QV := Exit → Env → List Nat → World → Prop

structure Tab where
  sel : List (Nat × List Nat) := []
  plan : List (Nat × Plan) := []
  join : List (Nat × List Nat) := []

def look {α : Type} : List (Nat × α) → Nat → Option α
  | [], _ => none
  | (d, x) :: r, i => bif Nat.beq d i then some x else look r i

def firstR : Code → Option Nat
  | .region id _ _ => some id
  | .seq a b => match firstR a with
    | some i => some i
    | none => firstR b
  | .cond _ a b => match firstR a with
    | some i => some i
    | none => firstR b
  | .block _ c => firstR c
  | .loop c => firstR c
  | .rangeFunc _ _ a b => match firstR a with
    | some i => some i
    | none => firstR b
  | _ => none

def keyOf (c : Code) : Nat := (firstR c).getD 0

def loopF (sel : List Nat) (init : List Value) (ds : List Nat) (w : World) (body : Env → List Nat → World → (List Value → List Nat → World → Prop) → Prop) : Prop :=
  ∃ (I : List Value → List Nat → World → Prop) (μ : List Value → List Nat → World → Nat), I init ds w ∧
    ∀ ρ ds w, I (sel.map ρ) ds w → body ρ ds w fun vs ds' w' => I vs ds' w' ∧ μ vs ds' w' < μ (sel.map ρ) ds w

def joinF (sel : List Nat) (a : (List Value → List Nat → World → Prop) → Prop) (b : Env → List Nat → World → Prop) : Prop :=
  ∃ J : List Value → List Nat → World → Prop, a J ∧ ∀ ρ ds w, J (sel.map ρ) ds w → b ρ ds w

def putAll (ρ : Env) : List Nat → List Value → Env
  | t :: ts, v :: vs => putAll (put ρ (some t) v) ts vs
  | _, _ => ρ

def jumpV (e : Exit) (K : Option Code → Prop) : Prop :=
  match e with
  | .normal => K none
  | .ret => K (some .ret)
  | .exit id => K (some (.exit id))
  | _ => False

def roundV (l : Nat) (rec : Loop) (ps : List Nat) (asg : Option Nat → Env → World → QV → Prop) (bdy : Option Nat → Env → World → (Exit → World → Prop) → Prop) (ρ : Env) (args : List Value) (W : World) (K : Value → World → Prop) : Prop :=
  args.length = ps.length ∧ W.heap[l]? = some (.loop rec) ∧
  asg (some l) (putAll ρ ps args) W fun e ρ1 ds1 W1 => e = .normal ∧ ds1 = [] ∧ W1.heap[l]? = some (.loop rec) ∧
    bdy (some l) ρ1 (W1.putObj l (.loop { rec with state := .busy })) fun e W2 =>
      W2.heap[l]? = some (.loop { rec with state := .busy }) ∧ jumpV e fun j => K (.bool j.isNone) (W2.putObj l (.loop { rec with state := if j.isNone then .ready else .done, pending := j }))

def endV (l : Nat) (rec : Loop) (w : World) (Kn Kr : World → Prop) (Kx : Nat → World → Prop) : Prop :=
  ∃ st pe, w.heap[l]? = some (.loop { rec with state := st, pending := pe }) ∧ st ≠ .busy ∧
    match pe with
    | none => Kn (w.putObj l (.loop { rec with state := .exhausted, pending := pe }))
    | some .ret => Kr (w.putObj l (.loop { rec with state := .exhausted, pending := pe }))
    | some (.exit id) => Kx id (w.putObj l (.loop { rec with state := .exhausted, pending := pe }))
    | _ => False

def exV : List (Nat × (List Nat → World → Prop)) → List Nat → Nat → World → Prop
  | [], _, _, _ => False
  | (j, K) :: r, ds, id, w => bif Nat.beq j id then K ds w else exV r ds id w

def hasRet : Code → Bool
  | .ret => true
  | .seq a b => hasRet a || hasRet b
  | .cond _ a b => hasRet a || hasRet b
  | .block _ c => hasRet c
  | .loop c => hasRet c
  | .rangeFunc _ _ _ b => hasRet b
  | _ => false

def exitsOf : Code → List Nat
  | .exit id => [id]
  | .seq a b => exitsOf a ++ (exitsOf b).filter fun j => !((exitsOf a).any (Nat.beq j))
  | .cond _ a b => exitsOf a ++ (exitsOf b).filter fun j => !((exitsOf a).any (Nat.beq j))
  | .block id c => (exitsOf c).filter fun j => !(Nat.beq j id)
  | .loop c => exitsOf c
  | .rangeFunc _ _ _ b => exitsOf b
  | _ => []

def onlyIf (b : Bool) (K : List Nat → World → Prop) : List Nat → World → Prop :=
  match b with
  | true => K
  | false => fun _ _ => False

def vRetV (P : Program) (f : Value) (args : List Value) (w : World) (K : Value → World → Prop) : Prop :=
  match f with
  | .func (.func g) first cap => Ret P g (first.toList ++ args ++ cap.toList).toArray w K
  | _ => False

def rangeF (P : Program) (r : Option Nat) (sel : List Nat) (init : List Value) (ps : List Nat) (asg : Option Nat → Env → World → QV → Prop) (bdy : Option Nat → Env → World → (Exit → World → Prop) → Prop) (fv : Value) (ds : List Nat) (w : World) (Kn Kr : List Nat → World → Prop) (Kx : List (Nat × (List Nat → World → Prop))) : Prop :=
  match r with
  | none => ∀ (rec : Loop) (ρb : Env), rec.state = .ready → rec.pending = none → sel.map ρb = init →
      (∀ args W K, roundV (w.heap.size + 1) rec ps asg bdy ρb args W K → Round P (w.heap.size + 1) args.toArray W K) →
      vRetV P fv [.func (.yield (w.heap.size + 1)) #[] #[]] ((w.alloc (.deferred (some []))).alloc (.loop rec)) fun _ w2 =>
        endV (w.heap.size + 1) rec w2 (Kn (w.heap.size :: ds)) (Kr (w.heap.size :: ds)) (exV Kx (w.heap.size :: ds))
  | some l0 => (∃ r0, w.heap[l0]? = some (.loop r0)) ∧ ∀ (rec : Loop) (ρb : Env), rec.state = .ready → rec.pending = none → sel.map ρb = init →
      (∀ args W K, roundV w.heap.size rec ps asg bdy ρb args W K → Round P w.heap.size args.toArray W K) →
      vRetV P fv [.func (.yield w.heap.size) #[] #[]] (w.alloc (.loop rec)) fun _ w2 =>
        endV w.heap.size rec w2 (Kn ds) (Kr ds) (exV Kx ds)

def drawV (P : Program) (T : Tab) (id : Nat) (ops : Array Oper) (ρ : Env) (w : World) (K : Env → World → Prop) : Prop :=
  match look T.plan id with
  | none => anyI P ops ρ w K
  | some p => match planOk ops p none (Array.replicate ops.size false) ops.size with
    | true => match stageB ops with
      | false => drawF w fun S => planV P ops.toList (ops.toList.map (·.dst)) S p S [] ρ w.drew K
      | true => drawF2 w fun S S1 => planV P ops.toList (ops.toList.map (·.dst)) S1 p S [] ρ w.drew K
    | false => False

def codeV (P : Program) (T : Tab) : Code → Option Nat → Env → List Nat → World → QV → Prop
  | .skip, _, ρ, ds, w, Q => Q .normal ρ ds w
  | .region id ops draw, _, ρ, ds, w, Q => match draw with
    | false => opsV P (ops.toList.map (·.dst)) ops.toList [] ρ w fun ρ' w' => Q .normal ρ' ds w'
    | true => drawV P T id ops ρ w fun ρ' w' => Q .normal ρ' ds w'
  | .seq a b, r, ρ, ds, w, Q => match look T.join (keyOf b) with
    | none => codeV P T a r ρ ds w fun e ρ' ds' w' => match e with
      | .normal => codeV P T b r ρ' ds' w' Q
      | e => Q e ρ' ds' w'
    | some sel => joinF sel (fun J => codeV P T a r ρ ds w fun e ρ' ds' w' => match e with
      | .normal => J (sel.map ρ') ds' w'
      | e => Q e ρ' ds' w') (fun ρ' ds' w' => codeV P T b r ρ' ds' w' Q)
  | .cond c a b, r, ρ, ds, w, Q => vBool (ev ρ c) fun t => if t = true then codeV P T a r ρ ds w Q else codeV P T b r ρ ds w Q
  | .block id c, r, ρ, ds, w, Q => codeV P T c r ρ ds w fun e ρ' ds' w' => match e with
    | .exit i => bif Nat.beq i id then Q .normal ρ' ds' w' else Q (.exit i) ρ' ds' w'
    | e => Q e ρ' ds' w'
  | .loop c, r, ρ, ds, w, Q => loopF ((look T.sel (keyOf c)).getD []) (((look T.sel (keyOf c)).getD []).map ρ) ds w fun ρ' ds' w' again => codeV P T c r ρ' ds' w' fun e ρ'' ds'' w'' => match e with
    | .normal => again (((look T.sel (keyOf c)).getD []).map ρ'') ds'' w''
    | e => Q e ρ'' ds'' w''
  | .exit id, _, ρ, ds, w, Q => Q (.exit id) ρ ds w
  | .ret, _, ρ, ds, w, Q => Q .ret ρ ds w
  | .label _, _, ρ, ds, w, Q => Q .normal ρ ds w
  | .scope c, r, ρ, ds, w, Q => codeV P T c r ρ ds w fun e ρ' ds' w' => match e with
    | .goto _ => False
    | e => Q e ρ' ds' w'
  | .rangeFunc f ps a b, r, ρ, ds, w, Q => rangeF P r ((look T.sel (keyOf (.rangeFunc f ps a b))).getD []) (((look T.sel (keyOf (.rangeFunc f ps a b))).getD []).map ρ) ps.toList
      (fun r' ρ' w' Q' => codeV P T a r' ρ' [] w' Q') (fun r' ρ' w' Q' => codeV P T b r' ρ' [] w' fun e _ _ w'' => Q' e w'') (ev ρ f) ds w (fun ds' w' => Q .normal ρ ds' w') (onlyIf (hasRet b) fun ds' w' => Q .ret ρ ds' w') ((exitsOf b).map fun j => (j, fun ds' w' => Q (.exit j) ρ ds' w'))
  | _, _, _, _, _, _ => False

def okC (T : Tab) (N : Nat) : Code → Bool
  | .skip => true
  | .region _ ops _ => ops.toList.all (okO N (ops.toList.map (·.dst)))
  | .seq a b => okC T N a && okC T N b
  | .cond c a b => okX N c && okC T N a && okC T N b
  | .block _ c => okC T N c
  | .loop c => ((look T.sel (keyOf c)).getD []).all (fun t => Nat.blt t N) && okC T N c
  | .exit _ => true
  | .ret => true
  | .scope c => okC T N c
  | .rangeFunc f ps a b => okX N f && ps.toList.all (fun t => Nat.blt t N) && okC T N a && okC T N b
  | _ => true

def marks (ds : List Nat) : List Deferred := ds.map fun D => { target := .collected D, args := #[] }

def unmarks (l : List Deferred) : List Nat := l.filterMap fun d => match d.target with
  | .collected D => some D
  | _ => none

theorem unmarks_marks (ds : List Nat) : unmarks (marks ds) = ds := by
  induction ds with
  | nil => rfl
  | cons d ds ih => simp [marks, unmarks] at ih ⊢; exact ih

def QA (N : Nat) (Q : QV) : Exit → Act → World → Prop
  | .panic _, _, _ => False
  | .outgrown, _, _ => False
  | e, a, w => ∃ ρ ds, Ag N ρ a ∧ a.defers = marks ds ∧ Q e ρ ds w

theorem putAll_ag {N : Nat} : ∀ (ps : List Nat) (vs : List Value) (ρ : Env) (a : Act), Ag N ρ a → ps.all (fun t => Nat.blt t N) = true → ps.length = vs.length →
    Ag N (putAll ρ ps vs) { a with tmps := (ps.zip vs).foldl (fun t (p, v) => t.setIfInBounds p v) a.tmps }
  | [], [], ρ, a, h, _, _ => h
  | [], _ :: _, _, _, _, _, hl => by simp at hl
  | _ :: _, [], _, _, _, _, hl => by simp at hl
  | p :: ps, v :: vs, ρ, a, h, hp, hl => by
    simp only [List.all_cons, Bool.and_eq_true] at hp
    have := putAll_ag ps vs (put ρ (some p) v) (a.put (some p) v) (put_ag h (by simpa [okD] using hp.1) v) hp.2 (by simpa using hl)
    simpa [putAll, Act.put] using this

theorem plan_region {P : Program} {N : Nat} {T : Tab} {r : Option Nat} {id : Nat} {ops : Array Oper} {ρ : Env} {a : Act} {w : World} {K : Env → World → Prop} {Q : Exit → Act → World → Prop} {dd : List Deferred}
    (hm : P.follows .mixedOrders = true) (hall : ops.toList.all (okO N (ops.toList.map (·.dst))) = true) (ha : Ag N ρ a) (hd : a.defers = dd)
    (hQ : ∀ ρ a w, Ag N ρ a → a.defers = dd → K ρ w → Q .normal a w) (h : drawV P T id ops ρ w K) : (Code.region id ops true).wpIn (WF r) 0 P Q a w := by
  unfold drawV at h
  split at h
  · obtain ⟨I, hI, h1, h2⟩ := h
    have := anyI_sound (K' := fun a w => Q .normal a w) hall hQ h1 h2 ops.size (Array.replicate ops.size false) (List.range ops.size) ρ a w.drew (by simp) (fun i hi => by
      rw [List.mem_range]
      rcases Nat.lt_or_ge i ops.size with h | h
      · exact h
      · rw [Array.getD_eq_getD_getElem?, Array.getElem?_eq_none (by simpa using h)] at hi
        cases hi) ha hd hI
    exact wpIn_region_any hm (anyH_wpAnyIn (fun _ _ h => h) _ _ _ _ _ this)
  · rename_i p hp
    split at h
    · rename_i hok
      split at h
      · obtain ⟨S, hS, hpl⟩ := h
        have := plan_sound (K' := fun a w => Q .normal a w) (S1 := S) hall hQ p S none _ _ [] ρ a w.drew hok ha hd (Kn.nil _) hS (by simp) hpl
        exact wpIn_region_any hm (anyH_wpAnyIn (fun _ _ h => h) _ _ _ _ _ this)
      · obtain ⟨S, S1, hS, hpl⟩ := h
        have := plan_sound (K' := fun a w => Q .normal a w) (S1 := S1) hall hQ p S none _ _ [] ρ a w.drew hok ha hd (Kn.nil _) hS (by simp) hpl
        exact wpIn_region_any hm (anyH_wpAnyIn (fun _ _ h => h) _ _ _ _ _ this)
    · exact h.elim

theorem range_sound {P : Program} {N : Nat} {r : Option Nat} {sel : List Nat} {f : Operand} {ps : Array Tmp} {ca cb : Code} {asg : Option Nat → Env → World → QV → Prop} {bdy : Option Nat → Env → World → (Exit → World → Prop) → Prop} {ρ : Env} {ds : List Nat} {a : Act} {w : World} {Q : QV} {Kr : List Nat → World → Prop} {Kx : List (Nat × (List Nat → World → Prop))}
    (hKr : ∀ ds w, Kr ds w → Q .ret ρ ds w) (hKx : ∀ ds j w, exV Kx ds j w → Q (.exit j) ρ ds w)
    (hf : okX N f = true) (hps : ps.toList.all (fun t => Nat.blt t N) = true) (ha : Ag N ρ a) (hd : a.defers = marks ds)
    (ih1 : ∀ (l : Nat) (ρ : Env) (a : Act) (w : World) (Q : QV), Ag N ρ a → a.defers = [] → asg (some l) ρ w Q → ca.wpIn (WF (some l)) 0 P (QA N Q) a w)
    (ih2 : ∀ (l : Nat) (ρ : Env) (a : Act) (w : World) (Q : Exit → World → Prop), Ag N ρ a → a.defers = marks [] → bdy (some l) ρ w Q → cb.wpIn (WF (some l)) 0 P (QA N fun e _ _ w => Q e w) a w)
    (h : rangeF P r sel (sel.map ρ) ps.toList asg bdy (ev ρ f) ds w (fun ds' w' => Q .normal ρ ds' w') Kr Kx) : (Code.rangeFunc f ps ca cb).wpIn (WF r) 0 P (QA N Q) a w := by
  -- one round
  have round : ∀ (l : Nat) (rec : Loop) (fn : FuncId), rec.state = .ready → rec.fn = fn → rec.tmps = a.tmps → rec.params = ps → rec.assign = ca → rec.body = cb →
      ∀ args W K, roundV l rec ps.toList asg bdy ρ args W K → Round P l args.toArray W K := by
    intro l rec fn hst hfn htm hpa has hbo args W K hr
    obtain ⟨hlen, hl, hr⟩ := hr
    refine ⟨_, _, _, _, run_yield (args := args.toArray) hl (by rw [hpa]; simpa using hlen), ?_⟩
    rw [hpa, htm, has, hbo]
    have hzip : (ps.zip args.toArray).foldl (fun tmps (t, v) => tmps.setIfInBounds t v) a.tmps = (ps.toList.zip args).foldl (fun t (p, v) => t.setIfInBounds p v) a.tmps := by
      rw [← Array.foldl_toList]
      congr 1
      simp
    rw [hzip]
    have hag := putAll_ag ps.toList args ρ { a with defers := [] } ⟨ha.1, ha.2⟩ hps hlen.symm
    refine roundIn_of_wpIn (F := Fence.wide) trivial ?_
    refine wpIn_mono (ih1 l _ _ _ _ hag rfl hr) ?_
    rintro e a1 W1 hq
    cases e with
    | normal =>
      obtain ⟨ρ1, ds1, hag1, hd1, _, hds, hl1, hb⟩ := hq
      refine ⟨_, run_beginRound hl1 hst, ?_⟩
      subst hds
      refine wpIn_mono (ih2 l ρ1 a1 _ _ hag1 hd1 hb) ?_
      have fin : ∀ (j : Option Code) (W2 : World), W2.heap[l]? = some (.loop { rec with state := .busy }) →
          K (.bool j.isNone) (W2.putObj l (.loop { rec with state := if j.isNone then .ready else .done, pending := j })) →
          ∃ v w', (Instr.endRound l j).run P W2 = .ok v w' ∧ ∃ v', Ending.returned v = .returned v' ∧ K v' w' :=
        fun j W2 h1 h2 => ⟨_, _, run_endRound j h1, _, rfl, h2⟩
      rintro e a2 W2 hq2
      cases e with
      | normal => obtain ⟨ρ2, ds2, _, _, h1, h2⟩ := hq2; exact fin none W2 h1 h2
      | ret => obtain ⟨ρ2, ds2, _, _, h1, h2⟩ := hq2; exact fin (some .ret) W2 h1 h2
      | exit id => obtain ⟨ρ2, ds2, _, _, h1, h2⟩ := hq2; exact fin (some (.exit id)) W2 h1 h2
      | goto t => obtain ⟨ρ2, ds2, _, _, h1, h2⟩ := hq2; exact h2.elim
      | panic c => exact hq2.elim
      | outgrown => exact hq2.elim
    | ret => obtain ⟨ρ1, ds1, hag1, hd1, he, _⟩ := hq; cases he
    | exit id => obtain ⟨ρ1, ds1, hag1, hd1, he, _⟩ := hq; cases he
    | goto t => obtain ⟨ρ1, ds1, hag1, hd1, he, _⟩ := hq; cases he
    | panic c => exact hq.elim
    | outgrown => exact hq.elim
  -- behind the iterator
  have ending : ∀ (l : Nat) (rec : Loop) (a' : Act) (w2 : World) (ds' : List Nat), Ag N ρ a' → a'.defers = marks ds' →
      endV l rec w2 (fun w3 => Q .normal ρ ds' w3) (Kr ds') (exV Kx ds') → rangePost (WF r) 0 P l (QA N Q) a' (.returned (.tuple #[])) w2 := by
    intro l rec a' w2 ds' hag hdd he
    obtain ⟨st, pe, hl, hst, hq⟩ := he
    refine ⟨pe, _, run_endLoop hl (by exact hst), ?_⟩
    match pe, hq with
    | none, hq => exact ⟨ρ, ds', hag, hdd, hq⟩
    | some .ret, hq => exact wpIn_ret ⟨ρ, ds', hag, hdd, hKr _ _ hq⟩
    | some (.exit id), hq => exact wpIn_exit ⟨ρ, ds', hag, hdd, hKx _ _ _ hq⟩
  have hev : a.eval f = ev ρ f := ev_ag ha hf
  refine wpIn_rangeFunc ?_
  intro fn _
  unfold rangeF at h
  cases r with
  | none =>
    simp only [] at h
    obtain ⟨rec, hrec⟩ : ∃ rec : Loop, rec = { state := .ready, pending := none, fn := fn, tmps := a.tmps, params := ps, assign := ca, body := cb, defers := w.heap.size } := ⟨_, rfl⟩
    have hcall := h rec ρ (by rw [hrec]) (by rw [hrec]) rfl (round _ rec fn (by rw [hrec]) (by rw [hrec]) (by rw [hrec]) (by rw [hrec]) (by rw [hrec]) (by rw [hrec]))
    unfold vRetV at hcall
    split at hcall
    · rename_i g first cap hfv
      obtain ⟨hE, hC⟩ := hcall
      refine ⟨w.heap.size + 1, [{ target := .collected w.heap.size, args := #[] }], (w.alloc (.deferred (some []))).alloc (.loop rec),
        { target := .fn (.func g) cap, args := first ++ #[.func (.yield (w.heap.size + 1)) #[] #[]] }, (w.alloc (.deferred (some []))).alloc (.loop rec), g, (first.toList ++ [Value.func (.yield (w.heap.size + 1)) #[] #[]] ++ cap.toList).toArray, (w.alloc (.deferred (some []))).alloc (.loop rec), ?_, ?_, fun _ _ => trivial, ?_, fun hd => (by cases hd), ?_⟩
      · rw [hrec]; exact run_enterLoop_outer _ _ _ _ _
      · have hargs : (rangeCall f (w.heap.size + 1)).args.map a.eval = #[Value.func (.yield (w.heap.size + 1)) #[] #[]] := by simp [Act.eval]
        unfold resolve
        rw [hargs]
        show (Deferred.ofValue (a.eval f) _).run P _ = _
        rw [hev, hfv]
        rfl
      · simp only [invoke]
        have e1 : (first ++ #[Value.func (.yield (w.heap.size + 1)) #[] #[]] ++ cap) = (first.toList ++ [Value.func (.yield (w.heap.size + 1)) #[] #[]] ++ cap.toList).toArray := by
          apply Array.toList_inj.1; simp
        rw [e1]
        exact hE _ _
      · refine CallsIn.mono hC fun e w2 he => ?_
        obtain ⟨v, rfl, he⟩ := he
        exact ending _ rec _ w2 _ ⟨ha.1, ha.2⟩ (by simp [marks, hd]) he
    · exact hcall.elim
  | some l0 =>
    simp only [] at h
    obtain ⟨⟨r0, hr0⟩, h⟩ := h
    obtain ⟨rec, hrec⟩ : ∃ rec : Loop, rec = { state := .ready, pending := none, fn := fn, tmps := a.tmps, params := ps, assign := ca, body := cb, defers := r0.defers } := ⟨_, rfl⟩
    have hcall := h rec ρ (by rw [hrec]) (by rw [hrec]) rfl (round _ rec fn (by rw [hrec]) (by rw [hrec]) (by rw [hrec]) (by rw [hrec]) (by rw [hrec]) (by rw [hrec]))
    unfold vRetV at hcall
    split at hcall
    · rename_i g first cap hfv
      obtain ⟨hE, hC⟩ := hcall
      refine ⟨w.heap.size, [], w.alloc (.loop rec),
        { target := .fn (.func g) cap, args := first ++ #[.func (.yield w.heap.size) #[] #[]] }, w.alloc (.loop rec), g, (first.toList ++ [Value.func (.yield w.heap.size) #[] #[]] ++ cap.toList).toArray, w.alloc (.loop rec), ?_, ?_, fun _ _ => trivial, ?_, fun hd => (by cases hd), ?_⟩
      · unfold Instr.enterLoop
        simp only [Sem.run_bind, run_getLoop hr0, run_newObj_alloc, Result.andThen, Sem.run_pure]
        rw [hrec]
      · have hargs : (rangeCall f w.heap.size).args.map a.eval = #[Value.func (.yield w.heap.size) #[] #[]] := by simp [Act.eval]
        unfold resolve
        rw [hargs]
        show (Deferred.ofValue (a.eval f) _).run P _ = _
        rw [hev, hfv]
        rfl
      · simp only [invoke]
        have e1 : (first ++ #[Value.func (.yield w.heap.size) #[] #[]] ++ cap) = (first.toList ++ [Value.func (.yield w.heap.size) #[] #[]] ++ cap.toList).toArray := by
          apply Array.toList_inj.1; simp
        rw [e1]
        exact hE _ _
      · refine CallsIn.mono hC fun e w2 he => ?_
        obtain ⟨v, rfl, he⟩ := he
        exact ending _ rec _ w2 _ ⟨ha.1, ha.2⟩ (by simp [hd]) he
    · exact hcall.elim

theorem stepR_scope {P : Program} {b : Frame} {a : Act} {k : List Item} {cs : List Frame} {w : World} {c : Code} : step P (lone (b.atR a (.code (.scope c) :: k)) cs w) = .next (lone (b.atR a (.code c :: .inScope c :: k)) cs w) :=
  step_lone_go (by simp [stepG, stepG.exec, Frame.atR])
theorem stepR_inScope {P : Program} {b : Frame} {a : Act} {k : List Item} {cs : List Frame} {w : World} {c : Code} : step P (lone (b.atR a (.inScope c :: k)) cs w) = .next (lone (b.atR a k) cs w) :=
  step_lone_go (by simp [stepG, stepG.exec, Frame.atR])

theorem wpIn_scope {F : Fence} {n : Nat} {P : Program} {Q : Exit → Act → World → Prop} {a : Act} {w : World} {c : Code} (h : c.wpIn F n P (fun e a w => match e with | .goto _ => False | e => Q e a w) a w) : (Code.scope c).wpIn F n P Q a w := by
  intro b k cs hro hb hr
  have h0 : (lone (b.atR a (.code (.scope c) :: k)) cs w).fenced P F := fenced_calm hb hr rfl
  obtain ⟨e, a₁, w₁, hq, harr⟩ := h b (.inScope c :: k) cs hro hb hr
  cases e with
  | normal => exact ⟨.normal, a₁, w₁, hq, .head h0 stepR_scope (StepsIn.trans harr (.one (fenced_calm hb hr rfl) stepR_inScope))⟩
  | exit id =>
    have hx : exitTo id (.inScope c :: k) = exitTo id k := by simp [exitTo]
    exact ⟨.exit id, a₁, w₁, hq, fun k' hk => .head h0 stepR_scope (harr.1 k' (by rw [hx]; exact hk)),
      fun hr' hk => let ⟨k₁, h1, h2⟩ := harr.2 hr' (by rw [hx]; exact hk); ⟨k₁, h1, .head h0 stepR_scope h2⟩⟩
  | goto l => exact hq.elim
  | ret => exact ⟨.ret, a₁, w₁, hq, .of_steps (.one h0 stepR_scope) harr⟩
  | panic ch => exact ⟨_, a₁, w₁, hq, .of_steps (.one h0 stepR_scope) harr⟩
  | outgrown => exact ⟨_, a₁, w₁, hq, .of_steps (.one h0 stepR_scope) harr⟩

theorem code_sound {P : Program} {N : Nat} {T : Tab} (hm : P.follows .mixedOrders = true) : ∀ (c : Code) (r : Option Nat) (ρ : Env) (ds : List Nat) (a : Act) (w : World) (Q : QV),
    okC T N c = true → Ag N ρ a → a.defers = marks ds → codeV P T c r ρ ds w Q → c.wpIn (WF r) 0 P (QA N Q) a w := by
  intro c
  induction c with
  | skip => intro r ρ ds a w Q _ ha hd h; exact wpIn_skip ⟨ρ, ds, ha, hd, h⟩
  | region id ops draw =>
    intro r ρ ds a w Q hok ha hd h
    simp only [okC] at hok
    cases draw with
    | false =>
      simp only [codeV] at h
      exact wpIn_region_list (ops_sound (dd := marks ds) (fun ρ a w ha hd h => ⟨ρ, ds, ha, hd, h⟩) ops.toList [] ρ a w hok ha hd (Kn.nil _) h)
    | true =>
      simp only [codeV] at h
      exact plan_region hm hok ha hd (fun ρ a w ha hd h => ⟨ρ, ds, ha, hd, h⟩) h
  | seq x y ihx ihy =>
    intro r ρ ds a w Q hok ha hd h
    simp only [okC, Bool.and_eq_true] at hok
    simp only [codeV] at h
    cases hj : look T.join (keyOf y) with
    | none =>
      rw [hj] at h
      refine wpIn_seq (wpIn_mono (ihx r ρ ds a w _ hok.1 ha hd h) ?_)
      intro e a1 w1 hq
      cases e with
      | normal => obtain ⟨ρ1, ds1, ha1, hd1, h1⟩ := hq; exact ihy r ρ1 ds1 a1 w1 Q hok.2 ha1 hd1 h1
      | exit id => exact hq
      | goto l => exact hq
      | ret => exact hq
      | panic ch => exact hq.elim
      | outgrown => exact hq.elim
    | some sel =>
      rw [hj] at h
      obtain ⟨J, h1, h2⟩ := h
      refine wpIn_seq (wpIn_mono (ihx r ρ ds a w _ hok.1 ha hd h1) ?_)
      intro e a1 w1 hq
      cases e with
      | normal => obtain ⟨ρ1, ds1, ha1, hd1, h3⟩ := hq; exact ihy r ρ1 ds1 a1 w1 Q hok.2 ha1 hd1 (h2 ρ1 ds1 w1 h3)
      | exit id => exact hq
      | goto l => exact hq
      | ret => exact hq
      | panic ch => exact hq.elim
      | outgrown => exact hq.elim
  | cond c x y ihx ihy =>
    intro r ρ ds a w Q hok ha hd h
    simp only [okC, Bool.and_eq_true] at hok
    simp only [codeV] at h
    obtain ⟨t, ht, hh⟩ := vBool_out h
    refine wpIn_cond (t := t) (by rw [ev_ag ha hok.1.1]; exact ht) ?_
    cases t
    · exact ihy r ρ ds a w Q hok.2 ha hd (by simpa using hh)
    · exact ihx r ρ ds a w Q hok.1.2 ha hd (by simpa using hh)
  | block id c ih =>
    intro r ρ ds a w Q hok ha hd h
    simp only [okC] at hok
    simp only [codeV] at h
    refine wpIn_block (wpIn_mono (ih r ρ ds a w _ hok ha hd h) ?_)
    intro e a1 w1 hq
    cases e with
    | normal => exact hq
    | exit i =>
      obtain ⟨ρ1, ds1, ha1, hd1, h1⟩ := hq
      simp only [Exit.inBlock]
      simp only [] at h1
      cases hb : Nat.beq i id
      · rw [hb] at h1
        rw [if_neg (by intro e; rw [e, Nat.beq_refl] at hb; cases hb)]
        exact ⟨ρ1, ds1, ha1, hd1, h1⟩
      · rw [hb] at h1
        rw [if_pos (Nat.eq_of_beq_eq_true hb)]
        exact ⟨ρ1, ds1, ha1, hd1, h1⟩
    | goto l => exact hq
    | ret => exact hq
    | panic ch => exact hq.elim
    | outgrown => exact hq.elim
  | loop c ih =>
    intro r ρ ds a w Q hok ha hd h
    simp only [okC, Bool.and_eq_true] at hok
    simp only [codeV] at h
    obtain ⟨I, μ, h0, hI⟩ := h
    generalize (look T.sel (keyOf c)).getD [] = sel at *
    have hsel : ∀ (ρ : Env) (a : Act), Ag N ρ a → sel.map ρ = sel.map fun i => a.tmps.getD i undef := by
      intro ρ a ha
      apply List.map_congr_left
      intro i hi
      have := List.all_eq_true.1 hok.1 i hi
      exact (ha.2 i (by simpa [Nat.blt_eq] using this)).symm
    refine wpIn_loop (fun a w => ∃ ρ ds, Ag N ρ a ∧ a.defers = marks ds ∧ I (sel.map ρ) ds w) (fun a w => μ (sel.map fun i => a.tmps.getD i undef) (unmarks a.defers) w) ⟨ρ, ds, ha, hd, h0⟩ ?_
    rintro a1 w1 ⟨ρ1, ds1, ha1, hd1, hi1⟩
    refine wpIn_mono (ih r ρ1 ds1 a1 w1 _ hok.2 ha1 hd1 (hI ρ1 ds1 w1 hi1)) ?_
    intro e a2 w2 hq
    cases e with
    | normal =>
      obtain ⟨ρ2, ds2, ha2, hd2, h2, h3⟩ := hq
      refine ⟨⟨ρ2, ds2, ha2, hd2, h2⟩, ?_⟩
      rw [← hsel ρ2 a2 ha2, ← hsel ρ1 a1 ha1, hd1, hd2, unmarks_marks, unmarks_marks]
      exact h3
    | exit id => exact hq
    | goto l => exact hq
    | ret => exact hq
    | panic ch => exact hq.elim
    | outgrown => exact hq.elim
  | exit id => intro r ρ ds a w Q _ ha hd h; exact wpIn_exit ⟨ρ, ds, ha, hd, h⟩
  | ret => intro r ρ ds a w Q _ ha hd h; exact wpIn_ret ⟨ρ, ds, ha, hd, h⟩
  | label l => intro r ρ ds a w Q _ ha hd h; exact wpIn_label ⟨ρ, ds, ha, hd, h⟩
  | scope c ih =>
    intro r ρ ds a w Q hok ha hd h
    simp only [okC] at hok
    simp only [codeV] at h
    refine wpIn_scope (wpIn_mono (ih r ρ ds a w _ hok ha hd h) ?_)
    intro e a1 w1 hq
    cases e with
    | goto l => obtain ⟨_, _, _, _, hq⟩ := hq; exact hq.elim
    | normal => exact hq
    | exit id => exact hq
    | ret => exact hq
    | panic ch => exact hq.elim
    | outgrown => exact hq.elim
  | rangeFunc f ps x y ihx ihy =>
    intro r ρ ds a w Q hok ha hd h
    simp only [okC, Bool.and_eq_true] at hok
    simp only [codeV] at h
    refine range_sound (fun ds w hk => ?_) (fun ds j w hk => ?_) hok.1.1.1 hok.1.1.2 ha hd
      (fun l ρ a w Q ha hd h => ihx (some l) ρ [] a w Q hok.1.2 ha hd h)
      (fun l ρ a w Q ha hd h => ihy (some l) ρ [] a w _ hok.2 ha hd h) h
    · cases hh : hasRet y <;> rw [hh] at hk
      · exact hk.elim
      · exact hk
    · generalize exitsOf y = l at hk
      induction l with
      | nil => exact hk.elim
      | cons i r ih =>
        simp only [List.map_cons, exV] at hk
        cases hb : Nat.beq i j <;> rw [hb] at hk
        · exact ih hk
        · rw [← Nat.eq_of_beq_eq_true hb]; exact hk
  | _ => intro r ρ ds a w Q hok ha hd h; simp [codeV] at h


def leaveV : List Nat → World → (World → Prop) → Prop
  | [], w, K => K w
  | D :: ds, w, K => w.heap[D]? = some (.deferred (some [])) ∧ leaveV ds (w.putObj D (.deferred none)) K

def oneOf (vs : List Value) : Value :=
  match vs with
  | [v] => v
  | vs => .tuple vs.toArray

def resV (P : Program) : List ResultVar → List Value → Env → World → (Value → Prop) → Prop
  | [], acc, _, _, K => K (oneOf acc.reverse)
  | .tmp t :: r, acc, ρ, w, K => resV P r (ρ t :: acc) ρ w K
  | .cell t ty :: r, acc, ρ, w, K => vLd (ldk P ty) (ρ t) w fun v => resV P r (v :: acc) ρ w K

def finV (P : Program) (fn : Func) (ρ : Env) (ds : List Nat) (w : World) (K : Value → World → Prop) : Prop :=
  leaveV ds w fun w' => resV P fn.results.toList [] ρ w' fun v => K v w'

def envOf (args : List Value) : Env := fun i => match args[i]? with
  | some v => v
  | none => undef

def enterV (P : Program) (T : Tab) (fn : Func) (args : List Value) (w : World) (K : Value → World → Prop) : Prop :=
  match fn.body with
  | none => False
  | some c => codeV P T c none (envOf args) [] w fun e ρ ds w' => match e with
    | .normal => finV P fn ρ ds w' K
    | .ret => finV P fn ρ ds w' K
    | _ => False

def okR (N : Nat) : ResultVar → Bool
  | .tmp t => Nat.blt t N
  | .cell t _ => Nat.blt t N

def okF (T : Tab) (fn : Func) (n : Nat) : Bool :=
  match fn.body with
  | none => false
  | some c => okC T fn.ntmps c && fn.results.toList.all (okR fn.ntmps) && Nat.ble n fn.ntmps

theorem res_out {P : Program} {N : Nat} {ρ : Env} {a : Act} {w : World} {K : Value → Prop} (ha : Ag N ρ a) : ∀ (l : List ResultVar) (acc : List Value), l.all (okR N) = true → resV P l acc ρ w K →
    ∃ vs : List Value, K (oneOf (acc.reverse ++ vs)) ∧ (l.mapM fun (r : ResultVar) => match r with
      | .tmp t => (pure (a.tmps.getD t undef) : Sem Value)
      | .cell t ty => do loadVar ty (← asAddr (a.tmps.getD t undef))).run P w = .ok vs w
  | [], acc, _, h => ⟨[], by simpa [resV] using h, rfl⟩
  | .tmp t :: r, acc, hok, h => by
    simp only [List.all_cons, Bool.and_eq_true, okR] at hok
    obtain ⟨vs, hk, hr⟩ := res_out ha r (ρ t :: acc) hok.2 h
    refine ⟨ρ t :: vs, by simpa using hk, ?_⟩
    rw [List.mapM_cons, run_bind_ok (a := ρ t) (w' := w), run_bind_ok hr]
    · rfl
    · simp only []; rw [ha.2 t (by simpa [Nat.blt_eq] using hok.1)]; rfl
  | .cell t ty :: r, acc, hok, h => by
    simp only [List.all_cons, Bool.and_eq_true, okR] at hok
    simp only [resV] at h
    obtain ⟨v, hv, hl⟩ := vLd_out h
    obtain ⟨vs, hk, hr⟩ := res_out ha r (v :: acc) hok.2 hv
    refine ⟨v :: vs, by simpa using hk, ?_⟩
    rw [List.mapM_cons, run_bind_ok (a := v) (w' := w), run_bind_ok hr]
    · rfl
    · simp only []
      rw [ha.2 t (by simpa [Nat.blt_eq] using hok.1)]
      unfold vLd at h
      split at h
      · rename_i a' _ he
        rw [he] at hl ⊢
        exact hl
      · rename_i n a' _ he
        rw [he] at hl ⊢
        exact hl
      · exact h.elim

theorem leave_out {P : Program} {fn : Func} {tmps : Array Value} {K : Value → World → Prop} : ∀ (ds : List Nat) (w : World),
    leaveV ds w (fun w' => ∃ v, (results fn tmps).run P w' = .ok v w' ∧ K v w') →
    LeavesInM Fence.wide 0 P fn tmps (fun e w' => ∃ v, e = .returned v ∧ K v w') (marks ds) .returning w
  | [], w, h => by
    obtain ⟨v, hr, hk⟩ := h
    exact ⟨v, hr, v, rfl, hk⟩
  | D :: ds, w, h => by
    obtain ⟨h1, h2⟩ := h
    exact ⟨by simp, .inl ⟨D, _, rfl, run_takeDeferred h1, leave_out ds _ h2⟩⟩

theorem leaveV_mono {K K' : World → Prop} (hk : ∀ w, K w → K' w) : ∀ (ds : List Nat) (w : World), leaveV ds w K → leaveV ds w K'
  | [], w, h => hk w h
  | D :: ds, w, h => ⟨h.1, leaveV_mono hk ds _ h.2⟩

theorem enter_sound {P : Program} {T : Tab} {f : FuncId} {fn : Func} {args : List Value} {w : World} {K : Value → World → Prop}
    (hf : P.funcs[f]? = some fn) (hE : Enters P f) (hm : P.follows .mixedOrders = true) (hok : okF T fn args.length = true)
    (h : enterV P T fn args w K) : Ret P f args.toArray w K := by
  refine ⟨hE, ?_⟩
  unfold enterV at h
  unfold okF at hok
  cases hb : fn.body with
  | none => rw [hb] at h; exact h.elim
  | some c =>
    rw [hb] at h hok
    simp only [Bool.and_eq_true] at h hok
    obtain ⟨⟨hc, hres⟩, hlen⟩ := hok
    have hlen := Nat.le_of_ble_eq_true hlen
    refine callsIn_of_wp_marks hf hb trivial ?_
    have hag : Ag fn.ntmps (envOf args) { tmps := args.toArray ++ Array.replicate (fn.ntmps - args.toArray.size) undef, defers := [] } := by
      refine ⟨by simp; omega, fun i hi => ?_⟩
      unfold envOf
      by_cases hlt : i < args.length
      · simp [Array.getElem?_append, hlt]
      · have : args[i]? = none := by simp; omega
        rw [this]
        simp [Array.getElem?_append, hlt]
        rw [Array.getElem?_replicate]
        split <;> rfl
    have fin : ∀ (a : Act) (ρ : Env) (ds : List Nat) (w : World), Ag fn.ntmps ρ a → a.defers = marks ds → finV P fn ρ ds w K →
        LeavesInM Fence.wide 0 P fn a.tmps (fun e w' => ∃ v, e = .returned v ∧ K v w') a.defers .returning w := by
      intro a ρ ds w ha hd hfin
      rw [hd]
      refine leave_out ds w (leaveV_mono (fun w' hr => ?_) ds w hfin)
      obtain ⟨vs, hk, hrun⟩ := res_out ha _ _ hres hr
      refine ⟨oneOf vs, ?_, by simpa using hk⟩
      unfold results
      rw [Array.mapM_eq_mapM_toList]
      simp only [map_eq_pure_bind]
      rw [run_bind_ok (a := vs.toArray) (w' := w')]
      · simp only [Sem.run_pure]
        congr 1
        match vs with
        | [] => rfl
        | [v] => rfl
        | v :: u :: r => simp [oneOf]
      · exact (run_bind_ok hrun).trans rfl
    refine wpIn_mono (code_sound hm c none _ [] _ w _ hc hag rfl h) ?_
    intro e a w' hq
    cases e with
    | normal => obtain ⟨ρ, ds, ha, hd, hh⟩ := hq; exact fin a ρ ds w' ha hd hh
    | ret => obtain ⟨ρ, ds, ha, hd, hh⟩ := hq; exact fin a ρ ds w' ha hd hh
    | exit id => obtain ⟨ρ, ds, ha, hd, hh⟩ := hq; exact hh.elim
    | goto l => obtain ⟨ρ, ds, ha, hd, hh⟩ := hq; exact hh.elim
    | panic ch => exact hq.elim
    | outgrown => exact hq.elim

end Go.V

/-
  The engine, part 6: memory. Frames, and the rules of loads and stores. Own work.
-/
set_option linter.unusedVariables false
set_option linter.unusedSimpArgs false
namespace Go.V
open Go Go.RowKit

abbrev pt (b o : Nat) : Value := .pointer (some ⟨b, o, none⟩)
abbrev it (n : Int) : Value := .int .i64 n
abbrev sv (l n c : Nat) : Value := .slice (some ⟨l, 0, none⟩) n c

structure Fr (F : Nat → Prop) (w w' : World) : Prop where
  os : w'.os = w.os
  tape : w'.tape = w.tape
  output : w'.output = w.output
  size : w.heap.size ≤ w'.heap.size
  same : ∀ k, k < w.heap.size → ¬ F k → w'.heap[k]? = w.heap[k]?

theorem Fr.refl (F : Nat → Prop) (w : World) : Fr F w w := ⟨rfl, rfl, rfl, Nat.le_refl _, fun _ _ _ => rfl⟩

theorem Fr.trans {F G : Nat → Prop} {a b c : World} (h : Fr F a b) (k : Fr G b c) (hG : ∀ x, x < a.heap.size → G x → F x) : Fr F a c :=
  ⟨k.os.trans h.os, k.tape.trans h.tape, k.output.trans h.output, Nat.le_trans h.size k.size, fun x hx hF =>
    (k.same x (Nat.lt_of_lt_of_le hx h.size) (fun hg => hF (hG x hx hg))).trans (h.same x hx hF)⟩

theorem Fr.mono {F G : Nat → Prop} {a b : World} (h : Fr F a b) (hG : ∀ x, x < a.heap.size → F x → G x) : Fr G a b :=
  ⟨h.os, h.tape, h.output, h.size, fun k hk hn => h.same k hk fun hf => hn (hG k hk hf)⟩

theorem Fr.drew {F : Nat → Prop} {a b : World} (h : Fr F a b) : Fr F a b.drew := ⟨h.os, h.tape, h.output, h.size, h.same⟩

theorem blk_lt (w : World) (o : Obj) (k : Nat) (h : k < w.heap.size) : (w.alloc o).heap[k]? = w.heap[k]? := by
  show (w.heap.push o)[k]? = _
  rw [Array.getElem?_push, if_neg (Nat.ne_of_lt h)]

theorem Fr.alloc {F : Nat → Prop} {a b : World} (h : Fr F a b) (o : Obj) : Fr F a (b.alloc o) :=
  h.trans (G := fun _ => False) ⟨rfl, rfl, rfl, by simp, fun k hk _ => blk_lt b o k hk⟩ (by simp)

theorem Fr.put {F : Nat → Prop} {a b : World} (h : Fr F a b) {k : Nat} (o : Obj) (hk : k < a.heap.size → F k) : Fr F a (b.putObj k o) :=
  h.trans (G := fun x => x = k) ⟨rfl, rfl, rfl, by simp, fun x hx hn => World.putObj_heap_other hn⟩ (by rintro x hx rfl; exact hk hx)

theorem Fr.get {F : Nat → Prop} {a b : World} (h : Fr F a b) {k : Nat} {o : Obj} (ho : a.heap[k]? = some o) (hF : ¬ F k) : b.heap[k]? = some o := by
  rw [h.same k (Array.getElem?_eq_some_iff.1 ho).1 hF, ho]

theorem Fr.more {F : Nat → Prop} {a b c : World} (h : Fr F a b) (k : Fr (fun _ => False) b c) : Fr F a c := h.trans k fun _ _ => False.elim

theorem Fr.putBoth {a b : World} (h : Fr (fun _ => False) a b) {l : Nat} (hl : l < a.heap.size) (o : Obj) : Fr (fun _ => False) (a.putObj l o) (b.putObj l o) := by
  refine ⟨h.os, h.tape, h.output, by simpa using h.size, fun k hk _ => ?_⟩
  have hk' : k < a.heap.size := by simpa using hk
  by_cases e : k = l
  · subst e
    rw [World.putObj_heap_same hk', World.putObj_heap_same (Nat.lt_of_lt_of_le hk' h.size)]
  · rw [World.putObj_heap_other e, World.putObj_heap_other e, h.same k hk' id]

theorem lt_of_blk {w : World} {k : Nat} {o : Obj} (h : w.heap[k]? = some o) : k < w.heap.size := (Array.getElem?_eq_some_iff.1 h).1

def Cs (w : World) (b : Nat) (cs : List Value) : Prop := ∃ T, w.heap[b]? = some (.cells cs.toArray T (0, 0))

theorem Cs.lt {w : World} {b : Nat} {cs : List Value} (h : Cs w b cs) : b < w.heap.size := let ⟨_, h⟩ := h; lt_of_blk h
theorem Cs.fr {w w' : World} {b : Nat} {cs : List Value} {F : Nat → Prop} (h : Cs w b cs) (hf : Fr F w w') (hF : ¬ F b) : Cs w' b cs := let ⟨T, h⟩ := h; ⟨T, hf.get h hF⟩
theorem Cs.same {w w' : World} {b : Nat} {cs : List Value} (h : Cs w b cs) (e : w'.heap[b]? = w.heap[b]?) : Cs w' b cs := let ⟨T, h⟩ := h; ⟨T, e.trans h⟩
theorem Cs.drew {w : World} {b : Nat} {cs : List Value} (h : Cs w b cs) : Cs w.drew b cs := h
theorem Cs.new (w : World) (c : List Value) (T : TypeId) : Cs (w.alloc (.cells c.toArray T (0, 0))) w.heap.size c := ⟨T, World.alloc_heap_new _ _⟩
theorem Cs.new' (w : World) (c : Array Value) (T : TypeId) : Cs (w.alloc (.cells c T (0, 0))) w.heap.size c.toList := ⟨T, World.alloc_heap_new _ _⟩

structure Up (w : World) (b : Nat) (cs : List Value) (w' : World) : Prop where
  fr : Fr (fun k => k = b) w w'
  size : w'.heap.size = w.heap.size
  cs : Cs w' b cs

theorem Cs.up {w w' : World} {b c : Nat} {cs ds : List Value} (h : Cs w b cs) (hu : Up w c ds w') (hn : b ≠ c) : Cs w' b cs := h.fr hu.fr hn

theorem Up.of_put {w : World} {b : Nat} {T T' : TypeId} {cs ds : List Value} (h : w.heap[b]? = some (.cells cs.toArray T (0, 0))) :
    Up w b ds (w.putObj b (.cells ds.toArray T' (0, 0))) :=
  ⟨(Fr.refl _ w).put _ (fun _ => rfl), by simp, T', World.putObj_heap_same (lt_of_blk h)⟩

theorem addr_add (b o n : Nat) : Addr.add ⟨b, o, none⟩ n = ⟨b, o + n, none⟩ := by
  unfold Addr.add
  split
  · rename_i h; subst h; rfl
  · rfl

section
variable {P : Program} {w : World}

theorem rNil {b o : Nat} {K : Value → Prop} (k : K (pt b o)) : vNilP P (pt b o) K := k
theorem rFA {f b o : Nat} {K : Value → Prop} (k : K (pt b (o + f))) : vFA (some f) (pt b o) K := by
  show K _; rw [addr_add]; exact k
theorem rFA0 {f b : Nat} {K : Value → Prop} (k : K (pt b f)) : vFA (some f) (pt b 0) K := rFA (by rw [Nat.zero_add]; exact k)

theorem rLd {b o : Nat} {cs : List Value} {v : Value} {K : Value → Prop} (h : Cs w b cs) (hv : cs[o]? = some v) (k : K v) : vLd .one (pt b o) w K := by
  obtain ⟨T, h⟩ := h
  simp [vLd, ld1, World.cell?, h, hv, k]

theorem rLdN {b o n : Nat} {cs : List Value} {K : Value → Prop} (h : Cs w b cs) (hl : o + n ≤ cs.length) (k : K (.agg ((cs.drop o).take n).toArray)) : vLd (.agg n) (pt b o) w K := by
  obtain ⟨T, h⟩ := h
  refine ⟨(cs.drop o).take n, by simp; omega, ?_, k⟩
  intro j v hj
  rw [addr_add]
  simp only [World.cell?, h]
  rw [List.getElem?_take] at hj
  split at hj
  · simpa using hj
  · cases hj

theorem rSt {b o : Nat} {cs : List Value} {v : Value} {K : World → Prop} (h : Cs w b cs) (ho : o < cs.length) (hv : v.oneCell' = true) (hna : ∀ c, v ≠ .agg c)
    (k : ∀ w', Up w b (cs.set o v) w' → K w') : vSt (some 1) (pt b o) v w K := by
  obtain ⟨T, h⟩ := h
  have : st1 w ⟨b, o, none⟩ v K := by
    unfold st1
    simp only [h]
    refine ⟨by simp [Option.isSome] , by simpa using ho, by simp, hv, k _ ?_⟩
    rw [List.setIfInBounds_toArray]
    exact Up.of_put h
  unfold vSt
  split
  · rename_i heq _
    cases heq
    rename_i heq
    cases heq
    split
    · exact absurd rfl (hna _)
    · exact ⟨rfl, this⟩
  · rename_i hx; exact absurd rfl (hx _ _ rfl)

theorem rStN {b o n : Nat} {cs : List Value} {vs : Array Value} {K : World → Prop} (h : Cs w b cs) (hn : vs.size = n) (ho : o + n ≤ cs.length) (hv : ∀ x ∈ vs.toList, x.oneCell' = true)
    (k : ∀ w', Up w b (spl cs o vs.toList) w' → K w') : vSt (some n) (pt b o) (.agg vs) w K := by
  obtain ⟨T, h⟩ := h
  refine ⟨hn, ?_⟩
  unfold stN
  simp only [h]
  refine ⟨trivial, by simp; omega, by simp, hv, k _ ?_⟩
  exact Up.of_put h

theorem rIA {es l n c : Nat} {i : Nat} {K : Value → Prop} {kd : IntKind} (hi : i < n) (k : K (pt l (i * es))) : vIA (.slice es) (sv l n c) (.int kd i) K := by
  refine ⟨by omega, by omega, ?_⟩
  rw [addr_add, Nat.zero_add]; simpa using k

theorem rIAa {es len b o : Nat} {i : Nat} {K : Value → Prop} {kd : IntKind} (hi : i < len) (k : K (pt b (o + i * es))) : vIA (.arr len es) (pt b o) (.int kd i) K := by
  refine ⟨by omega, by omega, ?_⟩
  rw [addr_add]; simpa using k

theorem rAlloc {e : TypeId} {z : Array Value} {K : Value → World → Prop} (hz : zc P e = some z) (k : K (pt w.heap.size 0) (w.alloc (.cells z e))) : vAlloc P e w K := by
  unfold vAlloc; rw [hz]; exact k

theorem rLdS {S : World → Prop} {b o : Nat} {K : Value → Prop} (v : Value) (h : ∀ w, S w → ∃ cs, Cs w b cs ∧ cs[o]? = some v) (k : K v) : vLdS S .one (pt b o) K := by
  refine ⟨v, fun w hw => ?_, k⟩
  obtain ⟨cs, ⟨T, hT⟩, hv⟩ := h w hw
  simp [World.cell?, hT, hv]

theorem rLt {a b : Int} {K : Value → Prop} (k : K (.bool (decide (a < b)))) : vBin (.int .i64) .lss (it a) (it b) K := ⟨rfl, k⟩
theorem rGt {a b : Int} {K : Value → Prop} (k : K (.bool (decide (b < a)))) : vBin (.int .i64) .gtr (it a) (it b) K := ⟨rfl, k⟩
theorem rEq {a b : Int} {K : Value → Prop} (k : K (.bool (a == b))) : vBin (.int .i64) .eql (it a) (it b) K := ⟨rfl, k⟩
theorem rNe {a b : Int} {K : Value → Prop} (k : K (.bool (a != b))) : vBin (.int .i64) .neq (it a) (it b) K := ⟨rfl, k⟩

theorem wrap_id {n : Int} (h1 : -9223372036854775808 ≤ n) (h2 : n < 9223372036854775808) : IntKind.i64.wrap n = n := by
  have e : IntKind.i64.wrap n = if n % 18446744073709551616 ≥ 9223372036854775808 then n % 18446744073709551616 - 18446744073709551616 else n % 18446744073709551616 := by
    simp [IntKind.wrap, IntKind.signed, IntKind.bits]
  rw [e]
  split <;> omega

theorem rLe {a b : Int} {K : Value → Prop} (k : K (.bool (decide (a ≤ b)))) : vBin (.int .i64) .leq (it a) (it b) K := ⟨rfl, k⟩
theorem rGe {a b : Int} {K : Value → Prop} (k : K (.bool (decide (b ≤ a)))) : vBin (.int .i64) .geq (it a) (it b) K := ⟨rfl, k⟩
theorem rNot {b : Bool} {K : Value → Prop} (k : K (.bool (!b))) : vUn .not (.bool b) K := k
theorem rBool {b : Bool} {K : Bool → Prop} (k : K b) : vBool (.bool b) K := k
theorem rIf {c : Bool} {A B : Prop} (ha : c = true → A) (hb : c = false → B) : vBool (.bool c) fun c => if c = true then A else B := by
  cases c
  · exact hb rfl
  · exact ha rfl
theorem rIfT {A B : Prop} (h : A) : vBool (.bool true) fun c => if c = true then A else B := h
theorem rIfF {A B : Prop} (h : B) : vBool (.bool false) fun c => if c = true then A else B := h
theorem rMin2 {a b : Int} {K : Value → Prop} (k : K (it (if b < a then b else a))) : vMin (it a) [it b] K := k

theorem rBox {e : TypeId} {v : Value} {K : Value → World → Prop} (hv : v.cells = #[v]) (k : ∀ w', Cs w' w.heap.size [v] → Fr (fun _ => False) w w' → w'.heap.size = w.heap.size + 1 → K (pt w.heap.size 0) w') : vBox e v w K := by
  unfold vBox
  rw [hv]
  exact k _ (Cs.new' w #[v] e) ((Fr.refl _ w).alloc _) (by simp)
theorem rAllocT {e : TypeId} {z : Array Value} {K : Value → World → Prop} (hz : zc P e = some z) (k : ∀ w', w'.heap[w.heap.size]? = some (.cells z e (0, 0)) → Fr (fun _ => False) w w' → w'.heap.size = w.heap.size + 1 → K (pt w.heap.size 0) w') : vAlloc P e w K := by
  unfold vAlloc; rw [hz]; exact k _ (World.alloc_heap_new _ _) ((Fr.refl _ w).alloc _) (by simp)
theorem rSlA {n q lo hi : Nat} {k1 k2 : IntKind} {K : Value → Prop} (h1 : lo ≤ hi) (h2 : hi ≤ n) (h3 : lo < n) (k : K (.slice (some ⟨q, lo, none⟩) (hi - lo) (n - lo))) : vSlice (.arr n 1) (pt q 0) (some (.int k1 lo)) (some (.int k2 hi)) K := by
  refine ⟨by omega, by omega, by omega, by omega, ?_⟩
  simp only [Int.toNat_natCast]
  rw [if_neg (by omega), addr_add]
  simpa using k

theorem bex (l : List UInt8) (i j : Nat) : (⟨l.toArray⟩ : ByteArray).extract i j = ⟨((l.drop i).take (j - i)).toArray⟩ := by
  have h : ((⟨l.toArray⟩ : ByteArray).extract i j).data = ((l.drop i).take (j - i)).toArray := by
    rw [ByteArray.data_extract, List.extract_toArray]
  cases hb : (⟨l.toArray⟩ : ByteArray).extract i j
  rw [hb] at h
  simpa using h
theorem rSlStrLo {l : List UInt8} {i : Nat} {kd : IntKind} {K : Value → Prop} (h : i ≤ l.length) (k : K (.string ⟨(l.drop i).toArray⟩)) : vSlice .string (.string ⟨l.toArray⟩) (some (.int kd i)) none K := by
  refine ⟨by omega, by simp [ByteArray.size]; omega, ?_⟩
  simp only [Int.toNat_natCast]
  rw [bex]
  simpa [ByteArray.size, List.take_of_length_le] using k
theorem rUSDn {n c : Nat} {K : Value → Prop} (k : K (.pointer none)) : vUSD (.slice none n c) K := k
theorem rUSDs {a : Addr} {n c : Nat} {K : Value → Prop} (h : c ≠ 0) (k : K (.pointer (some a))) : vUSD (.slice (some a) n c) K := ⟨h, k⟩
theorem rLenS {es n c : Nat} {a : Option Addr} {K : Value → Prop} (k : K (it n)) : vLen (.slice es) (.slice a n c) K := k
theorem rLenB {l : List UInt8} {K : Value → Prop} (k : K (it l.length)) : vLen .string (.string ⟨l.toArray⟩) K := by
  show K _
  simpa [ByteArray.size] using k

theorem rAdd {a b : Int} {K : Value → Prop} (h1 : -9223372036854775808 ≤ a + b) (h2 : a + b < 9223372036854775808) (k : K (it (a + b))) : vBin (.int .i64) .add (it a) (it b) K :=
  ⟨rfl, by rw [wrap_id h1 h2]; exact k⟩
theorem rSub {a b : Int} {K : Value → Prop} (h1 : -9223372036854775808 ≤ a - b) (h2 : a - b < 9223372036854775808) (k : K (it (a - b))) : vBin (.int .i64) .sub (it a) (it b) K :=
  ⟨rfl, by rw [wrap_id h1 h2]; exact k⟩
end

end Go.V

/-
  The engine, part 7: rows of statements that say 'true'. Own work.
-/
set_option linter.unusedVariables false
namespace Go.V
open Go Go.RowKit Go.ChangeShapes Go.WideShapes Go.ChangeMaps Go.ChangeAt

theorem below_of_fr0 {w w' : World} (h : Fr (fun _ => False) w w') : Below w.heap.size w w' := ⟨h.os, h.tape, h.output, h.size, fun k hk => h.same k hk id⟩

theorem cell_fr {w w' : World} {a : Addr} {v : Value} (h : w.cell? a = some v) (f : Fr (fun _ => False) w w') : w'.cell? a = some v := by
  have hb : a.block < w.heap.size := by
    unfold World.cell? at h
    split at h
    · rename_i hq; exact lt_of_blk hq
    · cases h
  rw [World.cell?_of_block (w := w) (f.same _ hb id)]; exact h

theorem trodAll_keep {H : Type} {enc : TypeId × Value → H} {P : Program} (hl : laidOutB P = true) {W W' : World} (hb : Below W.heap.size W W') :
    ∀ (ts : List TypeId) (vs : List Value) (ds : List (DataW H)) (ps : List MemPlace), (∀ t ∈ ts, P.readableRec t = true ∧ t < P.types.size) → DataW.TrodAll enc P W 0 (fun _ => true) true ts vs ds ps → (∀ x ∈ ps, x.block < W.heap.size) →
      DataW.TrodAll enc P W' 0 (fun b => decide (b < W.heap.size)) true ts vs ds ps
  | [], vs, ds, ps, _, h, _ => by
    obtain ⟨rfl, rfl, rfl⟩ := trodAll_nil h
    exact trodAll_mk0
  | t :: ts, vs, ds, ps, hr, h, hlt => by
    obtain ⟨v, vs', d, ds', p, q, rfl, rfl, rfl, h0, h1⟩ := trodAll_cons h
    exact trodAll_cons_mk (Below.trod hl (hr t (by simp)).1 (hr t (by simp)).2 h0 hb (fun x hx => hlt x (by simp [hx])))
      (trodAll_keep hl hb ts vs' ds' q (fun u hu => hr u (by simp [hu])) h1 (fun x hx => hlt x (by simp [hx])))

theorem trodAll_len {H : Type} {enc : TypeId × Value → H} {P : Program} {W : World} {b : Nat} {sp : Nat → Bool} {hd : Bool} :
    ∀ (ts : List TypeId) (vs : List Value) (ds : List (DataW H)) (ps : List MemPlace), DataW.TrodAll enc P W b sp hd ts vs ds ps → ds.length = ts.length
  | [], vs, ds, ps, h => by
    obtain ⟨rfl, rfl, rfl⟩ := trodAll_nil h
    rfl
  | t :: ts, vs, ds, ps, h => by
    obtain ⟨v, vs', d, ds', p, q, rfl, rfl, rfl, h0, h1⟩ := trodAll_cons h
    simp [trodAll_len ts vs' ds' q h1]

theorem exists_list {α : Type} {P : Nat → α → Prop} : ∀ (n : Nat), (∀ i, i < n → ∃ o, P i o) → ∃ os : List α, os.length = n ∧ ∀ (i : Nat) o, os[i]? = some o → P i o
  | 0, _ => ⟨[], rfl, fun i o h => by simp at h⟩
  | n + 1, h => by
    obtain ⟨os, hl, ho⟩ := exists_list n fun i hi => h i (by omega)
    obtain ⟨x, hx⟩ := h n (by omega)
    refine ⟨os ++ [x], by simp [hl], fun i o hi => ?_⟩
    by_cases hlt : i < os.length
    · rw [List.getElem?_append_left hlt] at hi
      exact ho i o hi
    · rw [List.getElem?_append_right (by omega)] at hi
      have h0 : i - os.length = 0 := by
        have := (List.getElem?_eq_some_iff.1 hi).1
        simp only [List.length_singleton] at this
        omega
      rw [h0] at hi
      have : i = n := by omega
      subst this
      simp only [List.getElem?_cons_zero, Option.some.injEq] at hi
      subst hi
      exact hx

def lawB (P : Program) (f : Func) (tb : TypeId) : Bool :=
  laidOutB P && (f.params.toList.all fun t => P.readableRec t && Nat.blt t P.types.size) && (f.resultTypes.toList == [tb]) && (match P.underlying tb with | some .bool => true | _ => false)

theorem post_true {H : Type} {enc : TypeId × Value → H} {P : Program} {f : Func} {s : ChangeSpec} {W W' : World} {args : Array Value} {ds gs : List (DataW H)} {before : List MemPlace} (tb : TypeId) (hlaw : lawB P f tb = true) (hv : s.vars = [])
    (hs : ∀ (ds : List (DataW H)), ds.length = f.params.toList.length → s.fn H ds = { results := [.lit (.bool true)], args := ds })
    (hW : DataW.Whole enc P f.params.toList s.vars false W args.toList ds gs before) (hb : Below W.heap.size W W') : s.post enc P f false true false false W args (.bool true) W' := by
  unfold lawB at hlaw
  simp only [Bool.and_eq_true, beq_iff_eq, List.all_eq_true] at hlaw
  obtain ⟨⟨⟨hl, hp⟩, hr⟩, hbool⟩ := hlaw
  have hbool : P.underlying tb = some .bool := by
    revert hbool
    cases h : P.underlying tb with
    | none => intro h; cases h
    | some d => cases d <;> intro h <;> first | rfl | cases h
  have hW' := hW
  obtain ⟨p, q, hA, hV, rfl, hfz, hnd⟩ := hW
  rw [hv] at hV
  obtain ⟨rfl, rfl⟩ := trodVars_none hV
  have hf := hs (ds ++ []) (by rw [List.append_nil]; exact trodAll_len _ _ _ _ hA)
  have hlt : ∀ x ∈ p, x.block < W.heap.size := fun x hx => hW'.lt x (by simpa using hx)
  refine ⟨ds, [], p ++ [], [], p, [], hW', ?_, ?_, ?_, hb.frame _, fun h => by cases h⟩
  · rw [hf, hr]
    have hsz : f.resultTypes.size = 1 := by rw [← Array.length_toList, hr]; rfl
    rw [hsz]
    exact trodAll_cons_mk (shut_bool hbool _) trodAll_mk0
  · rw [hf]
    simp only [List.append_nil]
    exact trodAll_keep hl hb _ _ _ _ (fun t ht => ⟨(hp t ht).1, Nat.le_of_ble_eq_true (hp t ht).2⟩) hA hlt
  · rw [hf, hv]
    rfl

theorem true_calls {H : Type} {enc : TypeId × Value → H} {P : Program} {fid : FuncId} {f : Func} {s : ChangeSpec} {W : World} {args : Array Value} {ds gs : List (DataW H)} {before : List MemPlace} (tb : TypeId) (hlaw : lawB P f tb = true) (hv : s.vars = [])
    (hs : ∀ (ds : List (DataW H)), ds.length = f.params.toList.length → s.fn H ds = { results := [.lit (.bool true)], args := ds })
    (hW : DataW.Whole enc P f.params.toList s.vars false W args.toList ds gs before)
    (hc : ∀ ps, DataW.TrodAll enc P W 0 (fun _ => true) true f.params.toList args.toList ds ps → Ret P fid args W fun v w' => v = .bool true ∧ Fr (fun _ => False) W w') :
    Calls P fid args W fun e W' => ∃ v, e = .returned v ∧ s.post enc P f false true false false W args v W' := by
  have hW' := hW
  obtain ⟨p, q, hA, _⟩ := hW
  refine (callsIn_wide.1 (hc p hA).2).mono fun e W' ⟨v, he, hv', hf⟩ => ?_
  subst hv'
  exact ⟨_, he, post_true tb hlaw hv hs hW' (below_of_fr0 hf)⟩

end Go.V
