/-
  THE ENGINE, maps whose keys are integers; ranges over maps and texts. Own work; generic in the program.
-/
import Derived.Test.YtdkklhnleppfcaaGreatSg01
set_option linter.unusedVariables false
set_option linter.unusedSimpArgs false

set_option linter.unusedVariables false
namespace Go.V
open Go Go.RowKit

def locI (n : Int) : List (Int × Value) → Option (Nat × Value)
  | [] => none
  | (k, v) :: r => if n = k then some (0, v) else (locI n r).map fun p => (p.1 + 1, p.2)

def getI (n : Int) : List (Int × Value) → Option Value
  | [] => none
  | (k, v) :: r => if n = k then some v else getI n r

def setI (n : Int) (x : Value) : List (Int × Value) → List (Int × Value)
  | [] => [(n, x)]
  | (k, v) :: r => if n = k then (n, x) :: r else (k, v) :: setI n x r

def delI (n : Int) : List (Int × Value) → List (Int × Value)
  | [] => []
  | (k, v) :: r => if n = k then r else (k, v) :: delI n r

theorem getI_loc (n : Int) (ks : List (Int × Value)) : getI n ks = (locI n ks).map (·.2) := by
  induction ks with
  | nil => rfl
  | cons p r ih =>
    obtain ⟨k, v⟩ := p
    unfold getI locI
    split
    · rfl
    · rw [ih]; cases locI n r <;> rfl

theorem getI_set (n : Int) (x : Value) (m : Int) (ks : List (Int × Value)) : getI m (setI n x ks) = if m = n then some x else getI m ks := by
  induction ks with
  | nil => simp [setI, getI]
  | cons p r ih =>
    obtain ⟨k, v⟩ := p
    unfold setI
    by_cases h : n = k
    · subst h
      rw [if_pos rfl]
      unfold getI
      by_cases e : m = n
      · simp [e]
      · simp [e]
    · rw [if_neg h]
      by_cases e : m = k
      · subst e
        have : m ≠ n := fun e => h e.symm
        simp [getI, this]
      · simp only [getI, if_neg e, ih]

theorem getI_del (n m : Int) (ks : List (Int × Value)) (h : (ks.map (·.1)).Nodup) : getI m (delI n ks) = if m = n then none else getI m ks := by
  induction ks with
  | nil => simp [delI, getI]
  | cons p r ih =>
    obtain ⟨k, v⟩ := p
    simp only [List.map_cons, List.nodup_cons] at h
    have none_of : ∀ (l : List (Int × Value)) q, q ∉ l.map (·.1) → getI q l = none := by
      intro l q hq
      induction l with
      | nil => rfl
      | cons z l ih2 =>
        obtain ⟨a, b⟩ := z
        simp only [List.map_cons, List.mem_cons, not_or] at hq
        unfold getI
        rw [if_neg hq.1]
        exact ih2 hq.2
    unfold delI
    by_cases e : n = k
    · subst e
      rw [if_pos rfl]
      by_cases e2 : m = n
      · subst e2
        rw [if_pos rfl]
        exact none_of r _ h.1
      · simp [getI, e2]
    · rw [if_neg e]
      by_cases e2 : m = k
      · subst e2
        have : m ≠ n := fun e' => e e'.symm
        simp [getI, this]
      · simp only [getI, if_neg e2, ih h.2]

theorem setI_keys (n : Int) (x : Value) (ks : List (Int × Value)) : (setI n x ks).map (·.1) = if n ∈ ks.map (·.1) then ks.map (·.1) else ks.map (·.1) ++ [n] := by
  induction ks with
  | nil => simp [setI]
  | cons p r ih =>
    obtain ⟨k, v⟩ := p
    unfold setI
    by_cases h : n = k
    · simp [h]
    · rw [if_neg h]
      simp only [List.map_cons, ih, List.mem_cons, h, false_or]
      split <;> simp

theorem delI_sub (n : Int) (ks : List (Int × Value)) : List.Sublist (delI n ks) ks := by
  induction ks with
  | nil => exact List.Sublist.refl _
  | cons p r ih =>
    obtain ⟨k, v⟩ := p
    unfold delI
    split
    · exact List.sublist_cons_self _ _
    · exact ih.cons_cons _

structure MapI (kd : IntKind) (es : Array MapEntry) (clock : Nat) (ks : List (Int × Value)) : Prop where
  ent : es.toList.map (fun e => (e.key, e.val)) = ks.map fun p => (Value.int kd p.1, p.2)
  born : (es.toList.map (·.born)).Nodup
  lt : ∀ e ∈ es.toList, e.born < clock
  keys : (ks.map (·.1)).Nodup

theorem MapI.nil (kd : IntKind) : MapI kd #[] 0 [] := ⟨rfl, by simp, by simp, by simp⟩

theorem MapI.size {kd : IntKind} {es : Array MapEntry} {c : Nat} {ks : List (Int × Value)} (h : MapI kd es c ks) : es.size = ks.length := by
  have := congrArg List.length h.ent
  simpa using this

theorem find_nowI {kd : IntKind} {n : Int} : ∀ (es : List MapEntry) (ks : List (Int × Value)) (i : Nat), es.map (fun e => (e.key, e.val)) = ks.map (fun p => (Value.int kd p.1, p.2)) →
    Instr.findNow (.int kd) (.int kd n) es i = some ((locI n ks).map fun p => (i + p.1, p.2))
  | [], [], i, _ => rfl
  | [], _ :: _, i, h => by simp at h
  | _ :: _, [], i, h => by simp at h
  | e :: es, (k, v) :: ks, i, h => by
    simp only [List.map_cons, List.cons.injEq, Prod.mk.injEq] at h
    obtain ⟨⟨h1, h2⟩, h3⟩ := h
    have ih := find_nowI (kd := kd) (n := n) es ks (i + 1) h3
    unfold locI Instr.findNow
    rw [h1]
    by_cases e0 : n = k
    · subst e0
      simp [Instr.sameNow, h2]
    · have : (n == k) = false := by simpa using e0
      simp only [Instr.sameNow, if_true, this, if_neg e0, ih, Option.map_map, Option.some.injEq]
      congr 1
      funext p
      simp only [Function.comp, Prod.mk.injEq, and_true]
      omega

theorem find_keyI {P : Program} {kt : TypeId} {kd : IntKind} {n : Int} {es : Array MapEntry} {c : Nat} {ks : List (Int × Value)} (hk : P.underlying kt = some (.int kd)) (h : MapI kd es c ks) (w : World) :
    (Instr.findKey kt (.int kd n) es.toList).run P w = .ok (locI n ks) w := by
  unfold Instr.findKey
  rw [run_bind_ok (run_und hk w), find_nowI _ ks 0 h.ent]
  simp only [Nat.zero_add]
  cases locI n ks <;> rfl

theorem check_keyI {P : Program} {kt : TypeId} {kd : IntKind} {n : Int} (hk : P.underlying kt = some (.int kd)) (e : Bool) (w : World) : (Instr.checkKey e 10000 kt (.int kd n)).run P w = .ok () w := by
  unfold Instr.checkKey
  rw [run_bind_ok (run_und hk w)]
  rfl

theorem loc_at {n : Int} : ∀ {ks : List (Int × Value)} {j : Nat} {v : Value}, locI n ks = some (j, v) → ks[j]? = some (n, v)
  | [], j, v, h => by simp [locI] at h
  | (k, u) :: r, j, v, h => by
    unfold locI at h
    split at h
    · rename_i e
      simp only [Option.some.injEq, Prod.mk.injEq] at h
      obtain ⟨rfl, rfl⟩ := h
      simp [e]
    · obtain ⟨⟨j', v'⟩, hp, he⟩ := Option.map_eq_some_iff.1 h
      simp only [Prod.mk.injEq] at he
      obtain ⟨rfl, rfl⟩ := he
      simpa using loc_at hp

theorem set_at {n : Int} {x : Value} : ∀ {ks : List (Int × Value)} {j : Nat} {v : Value}, locI n ks = some (j, v) → setI n x ks = ks.set j (n, x)
  | [], j, v, h => by simp [locI] at h
  | (k, u) :: r, j, v, h => by
    unfold locI at h
    unfold setI
    split at h
    · rename_i e
      simp only [Option.some.injEq, Prod.mk.injEq] at h
      obtain ⟨rfl, rfl⟩ := h
      simp [e]
    · rename_i e
      obtain ⟨⟨j', v'⟩, hp, he⟩ := Option.map_eq_some_iff.1 h
      simp only [Prod.mk.injEq] at he
      obtain ⟨rfl, rfl⟩ := he
      rw [if_neg e, set_at hp]
      rfl

theorem set_none {n : Int} {x : Value} : ∀ {ks : List (Int × Value)}, locI n ks = none → setI n x ks = ks ++ [(n, x)] ∧ n ∉ ks.map (·.1)
  | [], h => ⟨rfl, by simp⟩
  | (k, u) :: r, h => by
    unfold locI at h
    unfold setI
    split at h
    · cases h
    · rename_i e
      have hr : locI n r = none := by simpa using h
      obtain ⟨h1, h2⟩ := set_none (x := x) hr
      rw [if_neg e, h1]
      refine ⟨rfl, ?_⟩
      simp only [List.map_cons, List.mem_cons, not_or]
      exact ⟨e, h2⟩

theorem del_at {n : Int} : ∀ {ks : List (Int × Value)} {j : Nat} {v : Value}, locI n ks = some (j, v) → delI n ks = ks.eraseIdx j
  | [], j, v, h => by simp [locI] at h
  | (k, u) :: r, j, v, h => by
    unfold locI at h
    unfold delI
    split at h
    · rename_i e
      simp only [Option.some.injEq, Prod.mk.injEq] at h
      obtain ⟨rfl, rfl⟩ := h
      simp [e]
    · rename_i e
      obtain ⟨⟨j', v'⟩, hp, he⟩ := Option.map_eq_some_iff.1 h
      simp only [Prod.mk.injEq] at he
      obtain ⟨rfl, rfl⟩ := he
      rw [if_neg e, del_at hp]
      rfl

theorem del_none {n : Int} : ∀ {ks : List (Int × Value)}, locI n ks = none → delI n ks = ks
  | [], h => rfl
  | (k, u) :: r, h => by
    unfold locI at h
    unfold delI
    split at h
    · cases h
    · rename_i e
      have hr : locI n r = none := by simpa using h
      rw [if_neg e, del_none hr]

theorem MapI.upd {kd : IntKind} {es : Array MapEntry} {c : Nat} {ks : List (Int × Value)} {n : Int} {x v : Value} {j : Nat} (h : MapI kd es c ks) (hl : locI n ks = some (j, v)) :
    MapI kd (es.modify j fun e => { e with key := .int kd n, val := x }) c (setI n x ks) := by
  have hj := loc_at hl
  have hks : (setI n x ks).map (·.1) = ks.map (·.1) := by
    rw [setI_keys, if_pos]
    exact List.mem_map.2 ⟨_, List.mem_of_getElem? hj, rfl⟩
  have ht : (es.modify j fun e => { e with key := .int kd n, val := x }).toList = es.toList.modify j fun e => { e with key := .int kd n, val := x } := by simp
  refine ⟨?_, ?_, ?_, by rw [hks]; exact h.keys⟩
  · rw [ht, set_at hl]
    apply List.ext_getElem?
    intro i
    have hi := congrArg (·[i]?) h.ent
    simp only [List.getElem?_map] at hi
    simp only [List.getElem?_map, List.getElem?_modify, List.getElem?_set]
    by_cases e : j = i
    · subst e
      rw [hj] at hi
      have hlt := (List.getElem?_eq_some_iff.1 hj).1
      cases hh : es.toList[j]? with
      | none => rw [hh] at hi; simp at hi
      | some q => simp [hlt]
    · rw [if_neg e]
      cases hh : es.toList[i]? with
      | none => rw [hh] at hi; simpa using hi
      | some q => rw [hh] at hi; simpa [e] using hi
  · rw [ht]
    have : (es.toList.modify j fun e => { e with key := .int kd n, val := x }).map (·.born) = es.toList.map (·.born) := by
      apply List.ext_getElem?
      intro i
      simp only [List.getElem?_map, List.getElem?_modify]
      cases es.toList[i]? with
      | none => simp
      | some q => simp only [Option.map_some]; split <;> rfl
    rw [this]
    exact h.born
  · intro e he
    rw [ht] at he
    obtain ⟨i, hi⟩ := List.mem_iff_getElem?.1 he
    rw [List.getElem?_modify] at hi
    cases hh : es.toList[i]? with
    | none => rw [hh] at hi; simp at hi
    | some q =>
      rw [hh] at hi
      simp only [Option.map_eq_map, Option.map_some, Option.some.injEq] at hi
      have := h.lt q (List.mem_of_getElem? hh)
      rw [← hi]
      split <;> exact this

theorem MapI.add {kd : IntKind} {es : Array MapEntry} {c : Nat} {ks : List (Int × Value)} {n : Int} {x : Value} (h : MapI kd es c ks) (hl : locI n ks = none) :
    MapI kd (es.push { key := .int kd n, val := x, born := c }) (c + 1) (setI n x ks) := by
  obtain ⟨h1, h2⟩ := set_none (x := x) hl
  refine ⟨?_, ?_, ?_, ?_⟩
  · rw [h1]
    simp [h.ent]
  · simp only [Array.toList_push, List.map_append, List.map_cons, List.map_nil]
    rw [List.nodup_append]
    refine ⟨h.born, by simp, ?_⟩
    intro a ha b hb e
    simp only [List.mem_singleton] at hb
    obtain ⟨q, hq, rfl⟩ := List.mem_map.1 ha
    have := h.lt q hq
    omega
  · intro e he
    simp only [Array.toList_push, List.mem_append, List.mem_singleton] at he
    rcases he with he | rfl
    · have := h.lt e he; omega
    · exact Nat.lt_succ_self _
  · rw [h1, List.map_append, List.nodup_append]
    refine ⟨h.keys, by simp, ?_⟩
    intro a ha b hb e
    simp only [List.map_cons, List.map_nil, List.mem_singleton] at hb
    rw [e, hb] at ha
    exact h2 ha

theorem MapI.del {kd : IntKind} {es : Array MapEntry} {c : Nat} {ks : List (Int × Value)} {n : Int} {v : Value} {j : Nat} (h : MapI kd es c ks) (hl : locI n ks = some (j, v)) :
    MapI kd (es.eraseIdxIfInBounds j) c (delI n ks) := by
  have hj := loc_at hl
  have hlt := (List.getElem?_eq_some_iff.1 hj).1
  have hsz := h.size
  have ht : (es.eraseIdxIfInBounds j).toList = es.toList.eraseIdx j := by
    unfold Array.eraseIdxIfInBounds
    rw [dif_pos (by omega)]
    simp
  refine ⟨?_, ?_, ?_, ?_⟩
  · rw [ht, del_at hl, List.eraseIdx_eq_take_drop_succ, List.eraseIdx_eq_take_drop_succ]
    simp only [List.map_append, List.map_take, List.map_drop, h.ent]
  · rw [ht]
    exact List.Sublist.nodup ((List.eraseIdx_sublist _ _).map _) h.born
  · intro e he
    rw [ht] at he
    exact h.lt e ((List.eraseIdx_sublist _ _).mem he)
  · exact List.Sublist.nodup ((delI_sub n ks).map _) h.keys

def zeroK (P : Program) (et : TypeId) (ok : Bool) (K : Value → Prop) : Prop :=
  match (P.info? et).bind (·.zero) with
  | some z => K (if ok then .tuple #[z, .bool false] else z)
  | none => False

def vLookI (P : Program) (kt et : TypeId) (b : Nat) (kd : IntKind) (n : Int) (ok : Bool) (w : World) (K : Value → Prop) : Prop :=
  P.underlying kt = some (.int kd) ∧ match w.heap[b]? with
    | some (.map es c) => ∃ ks, MapI kd es c ks ∧ match getI n ks with
      | some v => K (if ok then .tuple #[v, .bool true] else v)
      | none => zeroK P et ok K
    | _ => False

def vUpdI (P : Program) (kt : TypeId) (b : Nat) (kd : IntKind) (n : Int) (x : Value) (w : World) (K : World → Prop) : Prop :=
  P.underlying kt = some (.int kd) ∧ match w.heap[b]? with
    | some (.map es c) => ∃ ks, MapI kd es c ks ∧ ∀ es' c', c' = (if (getI n ks).isSome then c else c + 1) → MapI kd es' c' (setI n x ks) → K (w.putObj b (.map es' c'))
    | _ => False

def vDel (P : Program) (t : TypeId) (m k : Value) (w : World) (K : Value → World → Prop) : Prop :=
  match P.underlying t, m, k with
  | some (.map kt _), .map (some b), .int kd n => P.underlying kt = some (.int kd) ∧ match w.heap[b]? with
    | some (.map es c) => ∃ ks, MapI kd es c ks ∧ ∀ es', MapI kd es' c (delI n ks) → K (.tuple #[]) (w.putObj b (.map es' c))
    | _ => False
  | _, _, _ => False

def vLenM (x : Value) (w : World) (K : Value → World → Prop) : Prop :=
  match x with
  | .map none => K (.int .i64 0) w
  | .map (some b) => match w.heap[b]? with
    | some (.map es _) => K (.int .i64 es.size) w
    | _ => False
  | _ => False

def vRange (P : Program) (t : TypeId) (x : Value) (w : World) (K : Value → World → Prop) : Prop :=
  match P.underlying t, x with
  | some (.map _ _), .map (some m) => match w.heap[m]? with
    | some (.map _ c) => K (.pointer (some ⟨w.heap.size, 0, none⟩)) (w.alloc (.mapIter (some m) c #[] c))
    | _ => False
  | some (.map _ _), .map none => K (.pointer (some ⟨w.heap.size, 0, none⟩)) (w.alloc (.mapIter none 0 #[] 0))
  | some .string, .string s => K (.pointer (some ⟨w.heap.size, 0, none⟩)) (w.alloc (.stringIter s 0))
  | _, _ => False

def vNext (x : Value) (isS : Bool) (w : World) (K : Value → World → Prop) : Prop :=
  match x with
  | .pointer (some ⟨r, 0, _⟩) => match w.heap[r]?, isS with
    | some (.stringIter s pos), true =>
      (pos < s.size → K (.tuple #[.bool true, .int .i64 pos, .int .i32 (Utf8.decode s pos).1]) (w.putObj r (.stringIter s (pos + (Utf8.decode s pos).2)))) ∧ (s.size ≤ pos → K (.tuple #[.bool false]) w)
    | some (.mapIter none _ _ _), false => K (.tuple #[.bool false]) w
    | some (.mapIter (some m) since seen last), false => match w.heap[m]? with
      | some (.map es c) => (!seen.isEmpty && !es.isEmpty && es.all (fun e => decide (e.born ≥ last))) = false ∧
        ((∀ e ∈ es.toList, seen.contains e.born = true ∨ since ≤ e.born) → ∀ w', w' = w ∨ w' = w.drew → K (.tuple #[.bool false]) w') ∧
        (∀ e ∈ es.toList, seen.contains e.born = false → ∀ w', w' = w ∨ w' = w.drew → K (.tuple #[.bool true, e.key, e.val]) (w'.putObj r (.mapIter (some m) since (seen.push e.born) c)))
      | _ => False
    | _, _ => False
  | _ => False

def notCells : Obj → Bool
  | .cells _ _ _ => false
  | _ => true
theorem getObj_at {P : Program} {w : World} {r : Nat} {o : Obj} (hb : w.heap[r]? = some o) (hn : notCells o = true := by rfl) : (getObj r).run P w = .ok o w := by
  simp only [getObj, Sem.run, hb]
  cases o <;> first | rfl | (exact absurd hn (by simp [notCells]))
theorem setObj_at {P : Program} {w : World} {r : Nat} {o : Obj} (o' : Obj) (hb : w.heap[r]? = some o) (hn : notCells o = true := by rfl) : (setObj r o').run P w = .ok () (w.putObj r o') := by
  simp only [setObj, Sem.run, hb, World.putObj]
  cases o <;> first | rfl | (exact absurd hn (by simp [notCells]))

theorem vLookI_out {P : Program} {t kt et : TypeId} {b : Nat} {kd : IntKind} {n : Int} {ok : Bool} {w : World} {K : Value → Prop} (ht : P.underlying t = some (.map kt et)) (h : vLookI P kt et b kd n ok w K) :
    ∃ v, K v ∧ (Instr.lookup t (.map (some b)) (.int kd n) ok).run P w = .ok v w := by
  obtain ⟨hk, h⟩ := h
  split at h <;> try (exact h.elim)
  rename_i es c hb
  obtain ⟨ks, hm, h⟩ := h
  have hf := find_keyI (n := n) hk hm w
  unfold Instr.lookup
  rw [run_bind_ok (run_und ht w)]
  simp only
  rw [getI_loc] at h
  cases hl : locI n ks with
  | some p =>
    obtain ⟨j, v⟩ := p
    rw [hl] at hf h
    refine ⟨_, h, ?_⟩
    rw [run_bind_ok (getObj_at hb)]
    simp only
    rw [run_bind_ok (a := es) (w' := w) rfl, run_bind_ok (check_keyI hk _ w), run_bind_ok hf]
    cases ok <;> rfl
  | none =>
    rw [hl] at hf h
    simp only [Option.map_none] at h
    unfold zeroK at h
    split at h <;> try (exact h.elim)
    rename_i z hz
    obtain ⟨i, hi, hzi⟩ := Option.bind_eq_some_iff.1 hz
    refine ⟨_, h, ?_⟩
    have hzv : (zeroValue et).run P w = .ok z w := by
      unfold zeroValue
      rw [run_bind_ok (run_typeInfo w hi)]
      rw [hzi]; rfl
    rw [run_bind_ok (getObj_at hb)]
    simp only
    rw [run_bind_ok (a := es) (w' := w) rfl, run_bind_ok (check_keyI hk _ w), run_bind_ok hf]
    simp only
    rw [run_bind_ok hzv]
    cases ok <;> rfl

theorem vUpdI_out {P : Program} {t kt et : TypeId} {b : Nat} {kd : IntKind} {n : Int} {x : Value} {w : World} {K : World → Prop} (ht : P.underlying t = some (.map kt et)) (h : vUpdI P kt b kd n x w K) :
    ∃ w', K w' ∧ (Instr.mapUpdate t (.map (some b)) (.int kd n) x).run P w = .ok () w' := by
  obtain ⟨hk, h⟩ := h
  split at h <;> try (exact h.elim)
  rename_i es c hb
  obtain ⟨ks, hm, h⟩ := h
  have hf := find_keyI (n := n) hk hm w
  cases hl : locI n ks with
  | none =>
    rw [hl] at hf
    refine ⟨_, h _ _ (by rw [getI_loc, hl]; rfl) (hm.add hl), ?_⟩
    unfold Instr.mapUpdate
    rw [run_bind_ok (run_und ht w)]
    simp only
    rw [run_bind_ok (getObj_at hb)]
    simp only
    rw [run_bind_ok (check_keyI hk _ w), run_bind_ok hf]
    simp only
    exact setObj_at _ hb
  | some p =>
    obtain ⟨j, v⟩ := p
    rw [hl] at hf
    refine ⟨_, h _ _ (by rw [getI_loc, hl]; rfl) (hm.upd hl), ?_⟩
    have hj := loc_at hl
    have hkey : ((es[j]?).map (·.key)).getD (.int kd n) = .int kd n := by
      have hi := congrArg (·[j]?) hm.ent
      simp only [List.getElem?_map, hj, Option.map_some] at hi
      cases hh : es[j]? with
      | none => rfl
      | some q =>
        rw [Array.getElem?_toList, hh] at hi
        simp only [Option.map_some, Option.some.injEq, Prod.mk.injEq] at hi
        simp [hi.1]
    unfold Instr.mapUpdate
    rw [run_bind_ok (run_und ht w)]
    simp only
    rw [run_bind_ok (getObj_at hb)]
    simp only
    rw [run_bind_ok (check_keyI hk _ w), run_bind_ok hf]
    simp only
    rw [hkey]
    have hs : (Instr.keyThatStays (.int kd n) (.int kd n)).run P w = .ok (.int kd n) w := by
      unfold Instr.keyThatStays
      rw [if_pos (by simp [Instr.sameBits])]
      rfl
    rw [run_bind_ok hs]
    exact setObj_at _ hb

theorem vDel_out {P : Program} {t ty : TypeId} {u : TypeId} {m k : Value} {w : World} {K : Value → World → Prop} (h : vDel P t m k w K) :
    ∃ v w', K v w' ∧ (Builtin.delete_ #[t, u] ty #[m, k]).run P w = .ok v w' := by
  unfold vDel at h
  split at h <;> try (exact h.elim)
  rename_i kt et b kd n ht
  obtain ⟨hk, h⟩ := h
  split at h <;> try (exact h.elim)
  rename_i es c hb
  obtain ⟨ks, hm, h⟩ := h
  have hf := find_keyI (n := n) hk hm w
  cases hl : locI n ks with
  | none =>
    rw [hl] at hf
    have hd := del_none hl
    refine ⟨_, _, h es (by rw [hd]; exact hm), ?_⟩
    unfold Builtin.delete_
    simp only [List.getElem?_toArray, List.getElem?_cons_zero, List.getElem?_cons_succ]
    rw [run_bind_ok (run_und ht w)]
    simp only
    rw [run_bind_ok (getObj_at hb)]
    simp only
    rw [run_bind_ok (check_keyI hk _ w), run_bind_ok hf]
    simp only
    rw [run_bind_ok (setObj_at _ hb)]
    rfl
  | some p =>
    obtain ⟨j, v⟩ := p
    rw [hl] at hf
    refine ⟨_, _, h _ (hm.del hl), ?_⟩
    unfold Builtin.delete_
    simp only [List.getElem?_toArray, List.getElem?_cons_zero, List.getElem?_cons_succ]
    rw [run_bind_ok (run_und ht w)]
    simp only
    rw [run_bind_ok (getObj_at hb)]
    simp only
    rw [run_bind_ok (check_keyI hk _ w), run_bind_ok hf]
    simp only
    rw [run_bind_ok (setObj_at _ hb)]
    rfl

theorem vLenM_out {P : Program} {t ty kt et : TypeId} {x : Value} {w : World} {K : Value → World → Prop} (ht : P.underlying t = some (.map kt et)) (h : vLenM x w K) :
    ∃ v w', K v w' ∧ (Builtin.len_ #[t] ty #[x]).run P w = .ok v w' := by
  unfold vLenM at h
  split at h
  · refine ⟨_, _, h, ?_⟩
    unfold Builtin.len_
    simp only [List.getElem?_toArray, List.getElem?_cons_zero]
    rw [run_bind_ok (run_und ht w)]
    rfl
  · rename_i b
    split at h <;> try (exact h.elim)
    rename_i es c hb
    refine ⟨_, _, h, ?_⟩
    unfold Builtin.len_
    simp only [List.getElem?_toArray, List.getElem?_cons_zero]
    rw [run_bind_ok (run_und ht w)]
    simp only
    rw [run_bind_ok (getObj_at hb)]
    rfl
  · exact h.elim

theorem vRange_out {P : Program} {t : TypeId} {x : Value} {w : World} {K : Value → World → Prop} (h : vRange P t x w K) :
    ∃ v w', K v w' ∧ (Instr.range t x).run P w = .ok v w' := by
  unfold vRange at h
  split at h
  · rename_i kt et m ht
    split at h <;> try (exact h.elim)
    rename_i es c hb
    refine ⟨_, _, h, ?_⟩
    unfold Instr.range
    simp only [Sem.run_bind, run_und ht w, Result.andThen]
    rw [getObj_at hb]
    rfl
  · rename_i kt et ht
    refine ⟨_, _, h, ?_⟩
    unfold Instr.range
    simp only [Sem.run_bind, run_und ht w, Result.andThen]
    rfl
  · rename_i s ht
    refine ⟨_, _, h, ?_⟩
    unfold Instr.range
    simp only [Sem.run_bind, run_und ht w, Result.andThen]
    rfl
  · exact h.elim

theorem cands {es old new : Array MapEntry} {seen : Array Nat} {since : Nat} (ho : ∀ e, e ∈ old ↔ e ∈ es ∧ seen.contains e.born = false ∧ e.born < since) (hn : ∀ e, e ∈ new ↔ e ∈ es ∧ seen.contains e.born = false ∧ since ≤ e.born)
    {cs : Array (Option MapEntry)} (hc : (if old.isEmpty = true then #[(none : Option MapEntry)] else #[]) ++ (old ++ new).map some = cs) :
    (none ∈ cs → ∀ e ∈ es.toList, seen.contains e.born = true ∨ since ≤ e.born) ∧ (∀ e, some e ∈ cs → e ∈ es.toList ∧ seen.contains e.born = false) ∧ 0 < cs.size := by
  subst hc
  refine ⟨fun h e he => ?_, fun e he => ?_, ?_⟩
  · by_cases h3 : old.isEmpty = true
    · cases hs : seen.contains e.born with
      | true => exact .inl rfl
      | false =>
        right
        by_cases h5 : since ≤ e.born
        · exact h5
        · exfalso
          have h6 := (ho e).2 ⟨by simpa using he, hs, by omega⟩
          rw [Array.isEmpty_iff] at h3
          rw [h3] at h6
          simp at h6
    · rw [if_neg h3] at h
      simp at h
  · rw [Array.mem_append] at he
    rcases he with he | he
    · split at he <;> simp at he
    · simp only [Array.mem_map, Option.some.injEq, exists_eq_right, Array.mem_append] at he
      rcases he with he | he
      · have := (ho e).1 he; exact ⟨by simpa using this.1, this.2.1⟩
      · have := (hn e).1 he; exact ⟨by simpa using this.1, this.2.1⟩
  · by_cases h3 : old.isEmpty = true
    · rw [if_pos h3]; simp; omega
    · have : 0 < old.size := by
        rcases Nat.eq_zero_or_pos old.size with h4 | h4
        · exact absurd (Array.isEmpty_iff.2 (Array.eq_empty_of_size_eq_zero h4)) h3
        · exact h4
      simp only [Array.size_append, Array.size_map]
      omega

theorem vNext_out {P : Program} {ty : TypeId} {x : Value} {isS : Bool} {w : World} {K : Value → World → Prop} (h : vNext x isS w K) :
    ∃ v w', K v w' ∧ (Instr.next x isS ty).run P w = .ok v w' := by
  unfold vNext at h
  split at h <;> try (exact h.elim)
  rename_i r sp
  split at h
  · rename_i s pos hr
    unfold Instr.next
    by_cases hp : pos < s.size
    · refine ⟨_, _, h.1 hp, ?_⟩
      simp only [Sem.run_bind, getObj_at hr, Result.andThen]
      rw [if_pos hp]
      simp only [Sem.run_bind, setObj_at _ hr, Result.andThen]
      rfl
    · refine ⟨_, _, h.2 (by omega), ?_⟩
      simp only [Sem.run_bind, getObj_at hr, Result.andThen]
      rw [if_neg hp]
      rfl
  · rename_i a b c hr
    refine ⟨_, _, h, ?_⟩
    unfold Instr.next
    simp only [Sem.run_bind, getObj_at hr, Result.andThen]
    rfl
  · rename_i m since seen last hr
    split at h <;> try (exact h.elim)
    rename_i es c hb
    obtain ⟨h0, h1, h2⟩ := h
    unfold Instr.next
    simp only [Sem.run_bind, getObj_at hr, Result.andThen]
    rw [getObj_at hb]
    simp only [h0]
    obtain ⟨hnone, hsome, hpos⟩ := cands (es := es) (seen := seen) (since := since) (old := (es.filter fun e => !seen.contains e.born).filter fun x => decide (x.born < since)) (new := (es.filter fun e => !seen.contains e.born).filter fun x => decide (x.born ≥ since))
      (fun e => by simp only [Array.mem_filter, Bool.not_eq_true', decide_eq_true_eq]; exact and_assoc) (fun e => by simp only [Array.mem_filter, Bool.not_eq_true', decide_eq_true_eq]; exact and_assoc) rfl
    generalize hcand : (if ((es.filter fun e => !seen.contains e.born).filter fun x => decide (x.born < since)).isEmpty = true then #[(none : Option MapEntry)] else #[]) ++ (((es.filter fun e => !seen.contains e.born).filter fun x => decide (x.born < since)) ++ ((es.filter fun e => !seen.contains e.born).filter fun x => decide (x.born ≥ since))).map some = cs at hnone hsome hpos
    have hch : ∃ i w', i < cs.size ∧ (w' = w ∨ w' = w.drew) ∧ (choose (.mapNext cs.size)).run P w = .ok i w' := by
      rw [run_choose_drew]
      split
      · exact ⟨0, w, hpos, .inl rfl, rfl⟩
      · exact ⟨_, w.drew, Nat.mod_lt _ hpos, .inr rfl, rfl⟩
    obtain ⟨i, w', hi, hw', hr'⟩ := hch
    have hheap : w'.heap = w.heap := by rcases hw' with rfl | rfl <;> rfl
    cases hc : cs[i] with
    | none =>
      refine ⟨_, _, h1 (hnone (by rw [← hc]; simp)) w' hw', ?_⟩
      have hci : cs[i]? = some none := by rw [Array.getElem?_eq_getElem hi, hc]
      rw [if_neg (by decide), run_bind_ok hr']
      simp only [hci]
      rfl
    | some e =>
      obtain ⟨h5, h6⟩ := hsome e (by rw [← hc]; simp)
      refine ⟨_, _, h2 e h5 h6 w' hw', ?_⟩
      have hci : cs[i]? = some (some e) := by rw [Array.getElem?_eq_getElem hi, hc]
      rw [if_neg (by decide), run_bind_ok hr']
      simp only [hci]
      rw [run_bind_ok (setObj_at _ (by rw [hheap]; exact hr))]
      rfl
  · exact h.elim

def vEntry (P : Program) (t : TypeId) (m k : Value) (w : World) (K : Value → World → Prop) : Prop :=
  match P.underlying t, m, k with
  | some (.map kt et), .map (some b), .int kd n => P.underlying kt = some (.int kd) ∧ match w.heap[b]?, (P.info? et).bind (·.zero) with
    | some (.map es c), some z => ∃ ks, MapI kd es c ks ∧ getI n ks = none ∧ K (.tuple #[z, .int .i64 c]) (w.putObj b (.map (es.push { key := .int kd n, val := z, born := c }) (c + 1)))
    | _, _ => False
  | _, _, _ => False

def vEntrySt (m s x : Value) (w : World) (K : World → Prop) : Prop :=
  match m, s with
  | .map (some b), .int _ n => match w.heap[b]? with
    | some (.map es c) => ∃ i, es.findIdx? (fun e => (e.born : Int) == n) = some i ∧ K (w.putObj b (.map (es.modify i fun e => { e with val := x }) c))
    | _ => False
  | _, _ => False

theorem vEntry_out {P : Program} {t : TypeId} {m k : Value} {w : World} {K : Value → World → Prop} (h : vEntry P t m k w K) : ∃ v w', K v w' ∧ (Instr.mapEntry t m k).run P w = .ok v w' := by
  unfold vEntry at h
  split at h <;> try (exact h.elim)
  rename_i kt et b kd n ht
  obtain ⟨hk, h⟩ := h
  split at h <;> try (exact h.elim)
  rename_i es c z hb hz
  obtain ⟨ks, hm, hg, h⟩ := h
  have hf := find_keyI (n := n) hk hm w
  rw [getI_loc] at hg
  have hl : locI n ks = none := by simpa using hg
  rw [hl] at hf
  obtain ⟨i, hi, hzi⟩ := Option.bind_eq_some_iff.1 hz
  have hzv : (zeroValue et).run P w = .ok z w := by
    unfold zeroValue
    rw [run_bind_ok (run_typeInfo w hi)]
    rw [hzi]; rfl
  refine ⟨_, _, h, ?_⟩
  unfold Instr.mapEntry
  rw [run_bind_ok (run_und ht w)]
  simp only
  rw [run_bind_ok (getObj_at hb)]
  simp only
  rw [run_bind_ok (check_keyI hk _ w), run_bind_ok hf]
  simp only
  rw [run_bind_ok hzv, run_bind_ok (setObj_at _ hb)]
  rfl

theorem vEntrySt_out {P : Program} {t : TypeId} {m s x : Value} {w : World} {K : World → Prop} (h : vEntrySt m s x w K) : ∃ w', K w' ∧ (Instr.entryStore t m s x).run P w = .ok () w' := by
  unfold vEntrySt at h
  split at h <;> try (exact h.elim)
  rename_i b kd n
  split at h <;> try (exact h.elim)
  rename_i es c hb
  obtain ⟨i, hi, h⟩ := h
  refine ⟨_, h, ?_⟩
  unfold Instr.entryStore
  simp only
  rw [run_bind_ok (getObj_at hb)]
  simp only
  rw [run_bind_ok (a := n) (w' := w) rfl]
  simp only [hi]
  exact setObj_at _ hb

end Go.V
