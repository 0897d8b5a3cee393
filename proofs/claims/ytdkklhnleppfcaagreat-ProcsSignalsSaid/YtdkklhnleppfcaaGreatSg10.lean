/-
  THE EXECUTOR, part 10: all operations but the calls. Own work; generic in the program.
-/
import Derived.Test.YtdkklhnleppfcaaGreatSg09
set_option linter.unusedVariables false
set_option linter.unusedSimpArgs false

set_option linter.unusedVariables false
set_option maxRecDepth 20000
namespace Go.X
open Go Go.V Go.RowKit

def litEq : Lit → Lit → Option Bool
  | .bool a, .bool b => some (a == b)
  | .int k a, .int k' b => some (decide (k = k') && a == b)
  | .string a, .string b => some (a == b)
  | _, _ => none

theorem litEq_ok {x y : Lit} {b : Bool} (h : litEq x y = some b) : b = true ↔ x = y := by
  unfold litEq at h
  split at h <;> try (cases h; done)
  · cases h; simp
  · cases h; simp
  · cases h; simp

def litsEq : List Lit → List Lit → Option Bool
  | [], [] => some true
  | x :: r, y :: s => match litEq x y, litsEq r s with
    | some a, some b => some (a && b)
    | _, _ => none
  | _, _ => none

theorem litsEq_ok : ∀ {r s : List Lit} {b : Bool}, litsEq r s = some b → (b = true ↔ r = s)
  | [], [], b, h => by cases h; simp
  | [], _ :: _, b, h => by cases h
  | _ :: _, [], b, h => by cases h
  | x :: r, y :: s, b, h => by
    unfold litsEq at h
    split at h <;> try (cases h; done)
    rename_i a c h1 h2
    cases h
    rw [Bool.and_eq_true, litEq_ok h1, litsEq_ok h2, List.cons.injEq]

def xAggEq (P : Program) (t : TypeId) (op : BinOp) (x y : Value) : Option Value :=
  match x, y with
  | .agg xs, .agg ys => if xs.toList.all closedV = true then if ys.toList.all closedV = true then if P.keyTypeAt 100 t = true then if (Value.agg xs).formed P t = true then if (Value.agg ys).formed P t = true then
      if P.eqGuardType P.depth t = false then match P.keyLits 100 t xs.toList, P.keyLits 100 t ys.toList with
        | some la, some lb => match litsEq la lb with
          | some b => xEqB op b
          | none => none
        | _, _ => none
      else none else none else none else none else none else none
  | _, _ => none

theorem xAggEq_ok {P : Program} {m : Ren} {t : TypeId} {op : BinOp} {x y x' y' v : Value} {K : Value → Prop} (hx : VR m x x') (hy : VR m y y') (h : xAggEq P t op x y = some v) (hk : plainR v → K v) : vAggEq P t op x' y' K := by
  unfold xAggEq at h
  split at h <;> try (cases h; done)
  cases hx with
  | agg hxs =>
    cases hy with
    | agg hys =>
      split at h <;> try (cases h; done)
      rename_i c1
      split at h <;> try (cases h; done)
      rename_i c2
      split at h <;> try (cases h; done)
      rename_i h1
      split at h <;> try (cases h; done)
      rename_i h2
      split at h <;> try (cases h; done)
      rename_i h3
      split at h <;> try (cases h; done)
      rename_i h4
      split at h <;> try (cases h; done)
      rename_i la lb h5 h6
      split at h <;> try (cases h; done)
      rename_i c hc
      have e1 := closeds_eq hxs c1
      have e2 := closeds_eq hys c2
      subst e1
      subst e2
      refine ⟨100, 100, 100, la, lb, by decide, h1, h2, h3, h5, h6, h4, fun b hb => ?_⟩
      have hq := litsEq_ok hc
      have : b = c := by
        cases b <;> cases c <;> simp_all
      rw [this]
      exact xEqB_ok h hk

noncomputable def xBinW (P : Program) (st : St) (ty : TypeId) (t : TK) (op : BinOp) (x y : Value) : Option Value :=
  match t with
  | .ptr true => xPtr st op x y
  | .agg => xAggEq P ty op x y
  | .arr _ _ => xAggEq P ty op x y
  | t => xBin t op x y

theorem xBinW_ok {P : Program} {m : Ren} {st : St} {w : World} (hs : Sim m st w) {ty : TypeId} {t : TK} {op : BinOp} {x y x' y' v : Value} {K : Value → World → Prop} (hx : VR m x x') (hy : VR m y y')
    (h : xBinW P st ty t op x y = some v) (hk : Out m st v K) : vBinW P ty t op x' y' w K := by
  have fin : plainR v → K v w := fun hp => hk m _ _ (Ren.le.refl m) (hp m) hs
  unfold xBinW at h
  unfold vBinW
  split at h
  · exact xPtr_ok hs hx hy h fin
  · exact xAggEq_ok hx hy h fin
  · exact xAggEq_ok hx hy h fin
  · rename_i h1 h2 h3
    cases t with
    | ptr b => cases b
               · exact xBin_ok hx hy h fin
               · exact absurd rfl h1
    | agg => exact absurd rfl h2
    | arr n es => exact absurd rfl (h3 _ _)
    | _ => exact xBin_ok hx hy h fin

noncomputable def xRange (P : Program) (st : St) (t : TypeId) (x : Value) : Option (Value × St) :=
  match P.underlying t, x with
  | some (.map _ _), .map (some b) => match st.heap.get b with
    | some (.mapI _ _ _ _) => some (.pointer (some ⟨st.next, 0, none⟩), st.new (.mIter b))
    | _ => none
  | some (.map _ _), .map none => some (.pointer (some ⟨st.next, 0, none⟩), st.new .mIterN)
  | some .string, .string s => some (.pointer (some ⟨st.next, 0, none⟩), st.new (.sIter s 0))
  | _, _ => none

theorem xRange_ok {P : Program} {m : Ren} {st st' : St} {w : World} (hs : Sim m st w) {t : TypeId} {x x' v : Value} {K : Value → World → Prop} (hx : VR m x x') (h : xRange P st t x = some (v, st')) (hk : Out m st' v K) : vRange P t x' w K := by
  have hn := hs.fresh st.next (Nat.le_refl _)
  have hle : m.le (m.add st.next ⟨w.heap.size, 0, 0⟩) := Ren.add_le hn.1
  unfold xRange at h
  unfold vRange
  split at h <;> try (cases h; done)
  · rename_i kt et b ht
    split at h <;> try (cases h; done)
    rename_i kd ks _ _ hb
    cases h
    cases hx with
    | map ha =>
      simp only [ht]
      obtain ⟨c, _, _, es, ks', kp, h1, _⟩ := mapOf_ok (kd := kd) (ks := ks) hs ha (by unfold mapOf; rw [hb]; simp)
      simp only [h1]
      obtain ⟨q1, q2⟩ := hs.new (o := .mapIter (some _) c #[] c) (k := .mIter b) (off := 0) (extra := 0) ⟨⟨_, hle.at_ _ _ ha, rfl⟩, rfl⟩
      exact hk _ _ _ q1 (ptr_new (Ren.add_same _ _ _)) q2
  · rename_i kt et ht
    cases h
    cases hx
    simp only [ht]
    obtain ⟨q1, q2⟩ := hs.new (o := .mapIter none 0 #[] 0) (k := .mIterN) (off := 0) (extra := 0) (show (0 : Nat) = 0 from rfl)
    exact hk _ _ _ q1 (ptr_new (Ren.add_same _ _ _)) q2
  · rename_i s ht
    cases h
    cases hx
    simp only [ht]
    obtain ⟨q1, q2⟩ := hs.new (o := .stringIter s 0) (k := .sIter s 0) (off := 0) (extra := 0) ⟨rfl, rfl, rfl⟩
    exact hk _ _ _ q1 (ptr_new (Ren.add_same _ _ _)) q2

noncomputable def xNext (st : St) (x : Value) (isS : Bool) : Option (Value × St) :=
  match x with
  | .pointer (some ⟨b, 0, none⟩) => match st.heap.get b, isS with
    | some (.sIter s pos), true => if pos < s.size then some (.tuple #[.bool true, .int .i64 pos, .int .i32 (Utf8.decode s pos).1], st.put b (.sIter s (pos + (Utf8.decode s pos).2))) else some (.tuple #[.bool false], st)
    | some .mIterN, false => some (.tuple #[.bool false], st)
    | some (.mIter c), false => match st.heap.get c with
      | some (.mapI _ [] _ _) => some (.tuple #[.bool false], st)
      | _ => none
    | _, _ => none
  | _ => none

theorem xNext_ok {m : Ren} {st st' : St} {w : World} (hs : Sim m st w) {x x' v : Value} {isS : Bool} {K : Value → World → Prop} (hx : VR m x x') (h : xNext st x isS = some (v, st')) (hk : Out m st' v K) : vNext x' isS w K := by
  unfold xNext at h
  split at h <;> try (cases h; done)
  rename_i b
  cases hx with
  | ptr ha =>
    rename_i a
    have obj : ∀ k, st.heap.get b = some k → k ≠ .dead → ∃ o, w.heap[a.blk]? = some o ∧ ObjR m a o k := fun k hb hd => by
      obtain ⟨a', o, h1, h2, h3⟩ := hs.obj b k hb hd
      rw [ha] at h1
      cases h1
      exact ⟨o, h2, h3⟩
    split at h <;> try (cases h; done)
    · rename_i s pos hb
      obtain ⟨o, h2, h3⟩ := obj _ hb (by intro e; cases e)
      unfold ObjR at h3
      split at h3 <;> first
        | (rename_i e; cases e; done)
        | (exact h3.elim)
        | skip
      rename_i s' p' s'' p'' e
      cases e
      obtain ⟨rfl, rfl, hoff⟩ := h3
      rw [hoff]
      unfold vNext
      simp only [h2]
      split at h
      · rename_i hlt
        cases h
        refine ⟨fun _ => ?_, fun hge => by omega⟩
        refine hk m _ _ (Ren.le.refl m) (.tup (.cons (.bool _) (.cons (.int _ _) (.cons (.int _ _) .nil)))) (hs.put hb (by intro e; cases e) ha ⟨rfl, rfl, hoff⟩)
      · rename_i hlt
        cases h
        refine ⟨fun hh => absurd hh hlt, fun _ => hk m _ _ (Ren.le.refl m) (.tup (.cons (.bool _) .nil)) hs⟩
    · rename_i hb
      cases h
      obtain ⟨o, h2, h3⟩ := obj _ hb (by intro e; cases e)
      unfold ObjR at h3
      split at h3 <;> first
        | (rename_i e; cases e; done)
        | (exact h3.elim)
        | skip
      rw [h3]
      unfold vNext
      simp only [h2]
      exact hk m _ _ (Ren.le.refl m) (.tup (.cons (.bool _) .nil)) hs
    · rename_i c hb
      split at h <;> try (cases h; done)
      rename_i kd _ _ hc
      cases h
      obtain ⟨o, h2, h3⟩ := obj _ hb (by intro e; cases e)
      unfold ObjR at h3
      split at h3 <;> first
        | (rename_i e; cases e; done)
        | (exact h3.elim)
        | skip
      rename_i M since seen last b' e
      cases e
      obtain ⟨⟨a', g1, rfl⟩, hoff⟩ := h3
      rw [hoff]
      obtain ⟨cl, _, _, es, ks', kp, q1, q2, q3, q4⟩ := mapOf_ok (kd := kd) (ks := []) hs g1 (by unfold mapOf; rw [hc]; simp)
      have hes : es = #[] := by
        cases q4
        have := q3.length_eq
        have h4 := q2.size
        rw [← this] at h4
        exact Array.eq_empty_of_size_eq_zero h4
      subst hes
      unfold vNext
      simp only [h2, q1]
      refine ⟨by simp, fun _ w' hw' => ?_, fun e he => by simp at he⟩
      rcases hw' with rfl | rfl
      · exact hk m _ _ (Ren.le.refl m) (.tup (.cons (.bool _) .nil)) hs
      · exact hk m _ _ (Ren.le.refl m) (.tup (.cons (.bool _) .nil)) hs.drew

noncomputable def xEntry (P : Program) (st : St) (t : TypeId) (x k : Value) : Option (Value × St) :=
  match P.underlying t, x, k with
  | some (.map kt et), .map (some b), .int kd n => if intKey P kt kd = true then match st.heap.get b, (P.info? et).bind (·.zero) with
    | some (.mapI k ks cl _), some z => if k = kd then match getI n ks with
      | none => if closedZ z = true then some (.tuple #[z, .int .i64 cl], st.put b (.mapI kd (setI n z ks) (cl + 1) (some (n, cl)))) else none
      | some _ => none else none
    | _, _ => none else none
  | _, _, _ => none

theorem map_obj {m : Ren} {st : St} {w : World} (hs : Sim m st w) {b : Nat} {a : At} {kd : IntKind} {ks : List (Int × Value)} {cl : Nat} {last : Option (Int × Nat)} (ha : m b = some a) (hb : st.heap.get b = some (.mapI kd ks cl last)) :
    ∃ es ks' kp, w.heap[a.blk]? = some (.map es cl) ∧ MapI kd es cl ks' ∧ kp.Perm ks' ∧ KRs m ks kp ∧ ∀ key bn, last = some (key, bn) → ∃ e ∈ es.toList, e.key = .int kd key ∧ e.born = bn := by
  obtain ⟨a', o, h1, h2, h3⟩ := hs.obj b _ hb (by intro e; cases e)
  rw [ha] at h1
  cases h1
  unfold ObjR at h3
  split at h3 <;> first
    | (rename_i e; cases e; done)
    | (exact h3.elim)
    | skip
  rename_i es c kd' ks' cl' last' e
  cases e
  obtain ⟨⟨ks2, kp, g1, g2, g3⟩, rfl, g4⟩ := h3
  exact ⟨es, ks2, kp, h2, g1, g2, g3, g4⟩

theorem xEntry_ok {P : Program} {m : Ren} {st st' : St} {w : World} (hs : Sim m st w) {t : TypeId} {x k x' k' v : Value} {K : Value → World → Prop} (hx : VR m x x') (hkk : VR m k k') (h : xEntry P st t x k = some (v, st')) (hk : Out m st' v K) : vEntry P t x' k' w K := by
  unfold xEntry at h
  split at h <;> try (cases h; done)
  rename_i kt et b kd n ht
  cases hkk
  cases hx
  rename_i a ha
  split at h <;> try (cases h; done)
  rename_i hkey
  split at h <;> try (cases h; done)
  rename_i k0 ks cl last z hb hz
  split at h <;> try (cases h; done)
  rename_i e
  subst e
  split at h <;> try (cases h; done)
  rename_i hg
  split at h <;> try (cases h; done)
  rename_i hc
  cases h
  obtain ⟨es, ks', kp, h1, h2, hp, h3, h4⟩ := map_obj hs ha hb
  have hg' : getI n ks' = none := by rw [← getI_perm hp h2.keys]; exact h3.get_none hg
  unfold vEntry
  simp only [ht]
  refine ⟨intKey_ok hkey, ?_⟩
  simp only [h1, hz]
  have hl : locI n ks' = none := by rw [getI_loc] at hg'; simpa using hg'
  refine ⟨ks', h2, hg', hk m _ _ (Ren.le.refl m) (.tup (.cons (closedZ_ok hc m) (.cons (.int _ _) .nil))) (hs.put hb (by intro e; cases e) ha ?_)⟩
  refine ⟨⟨_, _, h2.add hl, setI_perm hp h2.keys, h3.set (closedZ_ok hc m)⟩, rfl, fun key bn e => ?_⟩
  cases e
  exact ⟨{ key := .int k0 n, val := z, born := cl }, by simp, rfl, rfl⟩

noncomputable def xEntrySt (st : St) (x s v : Value) : Option St :=
  match x, s with
  | .map (some b), .int _ sn => match st.heap.get b with
    | some (.mapI kd ks cl (some (key, bn))) => if sn = (bn : Int) then some (st.put b (.mapI kd (setI key v ks) cl none)) else none
    | _ => none
  | _, _ => none

theorem loc_of_get {n : Int} {v : Value} : ∀ {ks : List (Int × Value)} {i : Nat}, (ks.map (·.1)).Nodup → ks[i]? = some (n, v) → locI n ks = some (i, v)
  | [], i, _, h => by simp at h
  | (k, u) :: r, 0, _, h => by
    simp only [List.getElem?_cons_zero, Option.some.injEq, Prod.mk.injEq] at h
    obtain ⟨rfl, rfl⟩ := h
    simp [locI]
  | (k, u) :: r, i + 1, hn, h => by
    simp only [List.getElem?_cons_succ] at h
    rw [List.map_cons, List.nodup_cons] at hn
    unfold locI
    rw [if_neg, loc_of_get hn.2 h]
    · rfl
    · intro e
      exact hn.1 (by rw [← e]; exact List.mem_map_of_mem (f := (·.1)) (List.mem_of_getElem? h))

theorem xEntrySt_ok {m : Ren} {st st' : St} {w : World} (hs : Sim m st w) {x s v x' s' v' : Value} {K : World → Prop} (hx : VR m x x') (hss : VR m s s') (hv : VR m v v') (h : xEntrySt st x s v = some st') (hk : ∀ w', Sim m st' w' → K w') : vEntrySt x' s' v' w K := by
  unfold xEntrySt at h
  split at h <;> try (cases h; done)
  rename_i b k0 sn
  cases hss
  cases hx
  rename_i a ha
  split at h <;> try (cases h; done)
  rename_i kd ks cl key bn hb
  split at h <;> try (cases h; done)
  rename_i e
  subst e
  cases h
  obtain ⟨es, ks', kp, h1, h2, hp, h3, h4⟩ := map_obj hs ha hb
  obtain ⟨e, he, hk1, hb1⟩ := h4 key bn rfl
  obtain ⟨i, hi⟩ := List.mem_iff_getElem?.1 he
  have hilt : i < es.toList.length := (List.getElem?_eq_some_iff.1 hi).1
  have hia : es[i]? = some e := by rw [← Array.getElem?_toList]; exact hi
  have hisz : i < es.size := by simpa using hilt
  have hget : es[i]'hisz = e := by
    rw [Array.getElem?_eq_getElem hisz] at hia
    simpa using hia
  have hent := congrArg (·[i]?) h2.ent
  simp only [List.getElem?_map, hi, Option.map_some] at hent
  obtain ⟨val, hval⟩ : ∃ val, ks'[i]? = some (key, val) := by
    cases hq : ks'[i]? with
    | none => rw [hq] at hent; simp at hent
    | some q =>
      obtain ⟨q1, q2⟩ := q
      rw [hq] at hent
      simp only [Option.map_some, Option.some.injEq, Prod.mk.injEq] at hent
      rw [hk1] at hent
      obtain ⟨g1, g2⟩ := hent
      cases g1
      exact ⟨q2, rfl⟩
  have hloc := loc_of_get h2.keys hval
  unfold vEntrySt
  simp only [h1]
  refine ⟨i, ?_, hk _ (hs.put hb (by intro e; cases e) ha ?_)⟩
  · rw [Array.findIdx?_eq_some_iff_getElem]
    refine ⟨hisz, by rw [hget, hb1]; simp, fun j hj => ?_⟩
    have hjsz : j < es.size := Nat.lt_trans hj hisz
    have hnd := h2.born
    intro hc
    have hjb : (es[j]'hjsz).born = bn := by
      have h9 : ((es[j]'hjsz).born : Int) = (bn : Int) := by simpa using hc
      omega
    have hp2 := List.pairwise_iff_getElem.1 hnd j i (by simpa using hjsz) (by simpa using hisz) hj
    apply hp2
    simp only [List.getElem_map, Array.getElem_toList]
    rw [hjb, hget, hb1]
  · have hmod : (es.modify i fun e => { e with val := v' }) = es.modify i fun e => { e with key := .int kd key, val := v' } := by
      apply Array.ext
      · simp
      · intro j hj1 hj2
        simp only [Array.getElem_modify]
        split
        · rename_i e2
          subst e2
          rw [hget, ← hk1]
        · rfl
    rw [hmod]
    exact ⟨⟨_, _, h2.upd hloc, setI_perm hp h2.keys, h3.set hv⟩, rfl, fun key bn e => by cases e⟩

noncomputable def xOp0 (P : Program) (N : Nat) (st : St) (e : Ev) (op : Op) : Option (Value × St) :=
  match op with
  | .alloc t => xAlloc P st t
  | .box t x => match evX N e x with
    | some v => some (xBox t st v)
    | none => none
  | .buildSlice t len parts => match evps N e parts.toList with
    | some ps => xBuildSlice P st t len ps
    | none => none
  | .load t x => match evX N e x with
    | some a => match xLd st (ldk P t) a with
      | some v => some (v, st)
      | none => none
    | none => none
  | .store t a x => match evX N e a, evX N e x with
    | some p, some v => match xSt st (szOf P t) p v with
      | some st' => some (undef, st')
      | none => none
    | _, _ => none
  | .convert s d x => match evX N e x with
    | some v => xConvW P st (cvk P s d) (tk P d) v
    | none => none
  | .binOp op t x y _ => match evX N e x, evX N e y with
    | some a, some b => match xBinW P st t (tkB P t y) op a b with
      | some v => some (v, st)
      | none => none
    | _, _ => none
  | .makeSlice t l c => match evX N e l, evX N e c with
    | some a, some b => xMakeSlice P st t a b
    | _, _ => none
  | .lookup t x k ok => match evX N e x, evX N e k with
    | some a, some b => match xLook P st t a b ok with
      | some v => some (v, st)
      | none => none
    | _, _ => none
  | .mapUpdate t x k u => match evX N e x, evX N e k, evX N e u with
    | some a, some b, some c => match xUpd P st t a b c with
      | some st' => some (undef, st')
      | none => none
    | _, _, _ => none
  | .insert t x k u => match evX N e x, evX N e k, evX N e u with
    | some a, some b, some c => match xUpd P st t a b c with
      | some st' => some (undef, st')
      | none => none
    | _, _, _ => none
  | .makeMap t none => match P.underlying t with
    | some (.map kt _) => match P.underlying kt with
      | some (.int kd) => some (xMap st kd)
      | _ => none
    | _ => none
  | .makeMap t (some x) => match P.underlying t, evX N e x with
    | some (.map kt _), some (.int _ _) => match P.underlying kt with
      | some (.int kd) => some (xMap st kd)
      | _ => none
    | _, _ => none
  | .mapEntry t x k => match evX N e x, evX N e k with
    | some a, some b => xEntry P st t a b
    | _, _ => none
  | .entryStore t x s u => match evX N e x, evX N e s, evX N e u with
    | some a, some b, some c => match xEntrySt st a b c with
      | some st' => some (undef, st')
      | none => none
    | _, _, _ => none
  | .range t x => match evX N e x with
    | some a => xRange P st t a
    | none => none
  | .next x isS => match evX N e x with
    | some a => xNext st a isS
    | none => none
  | .call _ => none
  | op => match xPure P N e op with
    | some v => some (v, st)
    | none => none

theorem vr_int {m : Ren} {k : IntKind} {n : Int} {y : Value} (h : VR m (.int k n) y) : y = .int k n := by
  cases h
  rfl

theorem xOp0_ok {P : Program} {N : Nat} {m : Ren} {st st' : St} {w : World} {e : Ev} {ρ : Env} (hs : Sim m st w) (he : ER m e ρ) (hg : Glob N m) {op : Op} {v : Value} {K : Value → World → Prop}
    (h : xOp0 P N st e op = some (v, st')) (hk : Out m st' v K) : opV P op ρ w K := by
  have keep : ∀ {u : Value}, u = v → st = st' → ∀ u', VR m u u' → K u' w := by
    rintro u rfl rfl u' hu
    exact hk m _ _ (Ren.le.refl m) hu hs
  have done : ∀ {w'}, v = undef → Sim m st' w' → K undef w' := by
    rintro w' rfl hs'
    exact hk m _ _ (Ren.le.refl m) (.tup .nil) hs'
  unfold xOp0 at h
  split at h
  · exact xAlloc_ok hs h hk
  · split at h <;> try (cases h; done)
    rename_i u hu
    cases h
    exact xBox_ok hs (evX_ok he hg hu) hk
  · split at h <;> try (cases h; done)
    rename_i ps hps
    exact xBuildSlice_ok hs (evps_ok he hg hps) h hk
  · split at h <;> try (cases h; done)
    rename_i a ha
    split at h <;> try (cases h; done)
    rename_i u hu
    cases h
    exact xLd_ok hs (evX_ok he hg ha) hu (keep rfl rfl)
  · split at h <;> try (cases h; done)
    rename_i p u hp hu
    split at h <;> try (cases h; done)
    rename_i st1 h1
    cases h
    exact xSt_ok hs (evX_ok he hg hp) (evX_ok he hg hu) h1 fun w' hs' => done rfl hs'
  · split at h <;> try (cases h; done)
    rename_i u hu
    exact xConvW_ok hs (evX_ok he hg hu) h hk
  · split at h <;> try (cases h; done)
    rename_i a b ha hb
    split at h <;> try (cases h; done)
    rename_i u hu
    cases h
    exact xBinW_ok hs (evX_ok he hg ha) (evX_ok he hg hb) hu hk
  · split at h <;> try (cases h; done)
    rename_i a b ha hb
    exact xMakeSlice_ok hs (evX_ok he hg ha) (evX_ok he hg hb) h hk
  · split at h <;> try (cases h; done)
    rename_i a b ha hb
    split at h <;> try (cases h; done)
    rename_i u hu
    cases h
    exact xLook_ok hs (evX_ok he hg ha) (evX_ok he hg hb) hu (keep rfl rfl)
  · split at h <;> try (cases h; done)
    rename_i a b c ha hb hc
    split at h <;> try (cases h; done)
    rename_i st1 h1
    cases h
    exact xUpd_ok hs (evX_ok he hg ha) (evX_ok he hg hb) (evX_ok he hg hc) h1 fun w' hs' => done rfl hs'
  · split at h <;> try (cases h; done)
    rename_i a b c ha hb hc
    split at h <;> try (cases h; done)
    rename_i st1 h1
    cases h
    exact xUpd_ok hs (evX_ok he hg ha) (evX_ok he hg hb) (evX_ok he hg hc) h1 fun w' hs' => done rfl hs'
  · split at h <;> try (cases h; done)
    split at h <;> try (cases h; done)
    rename_i kd hkd
    cases h
    exact xMap_ok hs kd hk
  · split at h <;> try (cases h; done)
    rename_i t x kt et k n ht hx
    split at h <;> try (cases h; done)
    rename_i kd hkd
    cases h
    have e1 := vr_int (evX_ok he hg hx)
    show vMakeMapN P _ (ev ρ _) w K
    unfold vMakeMapN
    rw [ht, e1]
    exact xMap_ok hs kd hk
  · split at h <;> try (cases h; done)
    rename_i a b ha hb
    exact xEntry_ok hs (evX_ok he hg ha) (evX_ok he hg hb) h hk
  · split at h <;> try (cases h; done)
    rename_i a b c ha hb hc
    split at h <;> try (cases h; done)
    rename_i st1 h1
    cases h
    exact xEntrySt_ok hs (evX_ok he hg ha) (evX_ok he hg hb) (evX_ok he hg hc) h1 fun w' hs' => done rfl hs'
  · split at h <;> try (cases h; done)
    rename_i a ha
    exact xRange_ok hs (evX_ok he hg ha) h hk
  · split at h <;> try (cases h; done)
    rename_i a ha
    exact xNext_ok hs (evX_ok he hg ha) h hk
  · cases h
  · split at h <;> try (cases h; done)
    rename_i u hu
    cases h
    cases op <;> first
      | (exact xPure_ok he hg hu (keep rfl rfl))
      | (simp [xPure] at hu; done)

end Go.X

/-
  THE EXECUTOR, part 11: calls. Own work; generic in the program.
-/
set_option linter.unusedVariables false
set_option maxRecDepth 20000
namespace Go.X
open Go Go.V Go.RowKit

abbrev Caller := St → Value → List Value → Option (Value × St)

def COk (P : Program) (G : Ren → Prop) (C : Caller) : Prop :=
  ∀ m st st' w f f' as as' v (K : Value → World → Prop), Sim m st w → G m → VR m f f' → VRs m as as' → C st f as = some (v, st') → Out m st' v K → vCallV P f' as' w K

def xCap (t : TK) (x : Value) : Option Value :=
  match t, x with
  | .slice _, .slice none 0 0 => some (.int .i64 0)
  | .slice _, .slice (some ⟨_, _, none⟩) _ k => if k < far then some (.int .i64 k) else none
  | _, _ => none

theorem xCap_ok {m : Ren} {t : TK} {x x' v : Value} {K : Value → Prop} (hx : VR m x x') (h : xCap t x = some v) (hk : plainR v → K v) : vCap t x' K := by
  unfold xCap at h
  unfold vCap
  cases hx <;> cases t <;> simp only at h ⊢ <;> try (cases h; done)
  · cases h
    exact hk fun m => .int _ _
  · split at h <;> try (cases h; done)
    rename_i a ha es hf
    cases h
    rw [cap_near _ hf]
    exact hk fun m => .int _ _

noncomputable def xClear (P : Program) (st : St) (t : TypeId) (x : Value) : Option St :=
  match P.underlying t with
  | some (.slice e) => match zc P e, x with
    | some _, .slice none _ _ => some st
    | some z, .slice (some ⟨b, o, none⟩) n _ => if n = 0 then some st else if z.toList.all closedV = true then writeC st b o (repZ z.toList n) else none
    | _, _ => none
  | _ => none

theorem xClear_ok {P : Program} {m : Ren} {st st' : St} {w : World} (hs : Sim m st w) {t : TypeId} {x x' : Value} {K : Value → World → Prop} (hx : VR m x x') (h : xClear P st t x = some st') (hk : Out m st' (.tuple #[]) K) : vClear P t x' w K := by
  unfold xClear at h
  unfold vClear
  split at h <;> try (cases h; done)
  rename_i e he
  simp only [he]
  split at h <;> try (cases h; done)
  · rename_i z n k hz
    cases h
    cases hx
    simp only [hz]
    exact hk m _ _ (Ren.le.refl m) (.tup .nil) hs
  · rename_i z b o n k hz
    cases hx with
    | sl ha =>
      simp only [hz]
      split at h
      · rename_i hn
        cases h
        exact ⟨fun _ => hk m _ _ (Ren.le.refl m) (.tup .nil) hs, fun h => absurd hn h⟩
      · rename_i hn
        split at h <;> try (cases h; done)
        rename_i hc
        exact ⟨fun e => absurd e hn, fun _ => write_ok hs ha (VRs.rep (closed_all (m := m) hc) n) h fun w' hs' => hk m _ _ (Ren.le.refl m) (.tup .nil) hs'⟩

def xUSD (x : Value) : Option Value :=
  match x with
  | .slice none _ _ => some (.pointer none)
  | .slice (some ⟨b, o, none⟩) _ k => if k < far then if k = 0 then none else some (.pointer (some ⟨b, o, none⟩)) else if k = far then none else some (.pointer (some ⟨b, o, none⟩))
  | _ => none

theorem xUSD_ok {m : Ren} {x x' v : Value} {K : Value → Prop} (hx : VR m x x') (h : xUSD x = some v) (hk : ∀ v', VR m v v' → K v') : vUSD x' K := by
  unfold xUSD at h
  unfold vUSD
  cases hx <;> simp only at h ⊢ <;> try (cases h; done)
  · cases h; exact hk _ .pnil
  · rename_i b o n k a ha
    split at h
    · rename_i hf
      split at h <;> try (cases h; done)
      rename_i h0
      cases h
      rw [cap_near a hf]
      exact ⟨h0, hk _ (.ptr ha)⟩
    · rename_i hf
      split at h <;> try (cases h; done)
      rename_i h0
      cases h
      rw [cap_ge a hf]
      exact ⟨by omega, hk _ (.ptr ha)⟩

noncomputable def xUStr (P : Program) (st : St) (t : TypeId) (p n : Value) : Option (Value × St) :=
  match P.underlying t, p, n with
  | some (.pointer e), .pointer none, .int _ n => if szOf P e = some 1 then if n = 0 then some (.string ⟨#[]⟩, st) else none else none
  | some (.pointer e), .pointer (some ⟨b, 0, none⟩), .int _ n => if szOf P e = some 1 then if n = 0 then some (.string ⟨#[]⟩, st) else match st.heap.get b with
      | some (.cells ⟨_, some T, true, _⟩ _ cs) => if T = e then if 0 ≤ n then if n.toNat ≤ cs.length then if n.toNat ≤ 140737488355328 then match bytesOf (cs.take n.toNat) with
        | some l => some (.string ⟨⟨l⟩⟩, st.put b .dead)
        | none => none else none else none else none else none
      | _ => none else none
  | _, _, _ => none

theorem bytesOf_len : ∀ {l : List Value} {bs : List UInt8}, bytesOf l = some bs → bs.length = l.length
  | [], bs, h => by cases h; rfl
  | v :: r, bs, h => by
    unfold bytesOf at h
    split at h <;> try (cases h; done)
    split at h <;> try (cases h; done)
    split at h <;> try (cases h; done)
    split at h <;> try (cases h; done)
    rename_i l hl
    cases h
    simp [bytesOf_len hl]

theorem xUStr_ok {P : Program} {m : Ren} {st st' : St} {w : World} (hs : Sim m st w) {t : TypeId} {p n p' n' v : Value} {K : Value → World → Prop} (hp : VR m p p') (hn : VR m n n') (h : xUStr P st t p n = some (v, st')) (hk : Out m st' v K) : vUStr P t p' n' w K := by
  unfold xUStr at h
  split at h <;> try (cases h; done)
  · rename_i e k nn he
    cases hn
    cases hp
    split at h <;> try (cases h; done)
    rename_i hsz
    split at h <;> try (cases h; done)
    rename_i h0
    cases h
    unfold vUStr
    simp only [he]
    exact ⟨hsz, fun _ => hk m _ _ (Ren.le.refl m) (.str _) hs, fun hh => absurd h0 hh⟩
  · rename_i e b k nn he
    cases hn
    cases hp with
    | ptr ha =>
      rename_i a
      split at h <;> try (cases h; done)
      rename_i hsz
      unfold vUStr
      simp only [he]
      split at h
      · rename_i h0
        cases h
        exact ⟨hsz, fun _ => hk m _ _ (Ren.le.refl m) (.str _) hs, fun hh => absurd h0 hh⟩
      · rename_i h0
        split at h <;> try (cases h; done)
        rename_i p0 T x0 es cs hb
        split at h <;> try (cases h; done)
        rename_i hT
        split at h <;> try (cases h; done)
        rename_i hnn
        split at h <;> try (cases h; done)
        rename_i hlen
        split at h <;> try (cases h; done)
        rename_i hmax
        split at h <;> try (cases h; done)
        rename_i l hl
        cases h
        subst hT
        obtain ⟨c, T', fr, hc, hg, hz, hf, hpl⟩ := hs.cells hb ha
        have e1 := hpl.t T rfl
        have e2 := hpl.z rfl
        subst e1
        have hll : l.length = nn.toNat := by
          have := bytesOf_len hl
          rw [List.length_take] at this
          omega
        refine ⟨hsz, fun hh => absurd hh h0, fun _ => ⟨l, by omega, by rw [e2], by omega, ?_⟩⟩
        simp only [hc]
        refine ⟨trivial, by omega, fun j x hj => ?_, ?_⟩
        · have hjl := (List.getElem?_eq_some_iff.1 hj).1
          have hvr : VRs m (cs.take nn.toNat) ((c.toList.take nn.toNat)) := by
            refine VRs.of_get ?_ fun i y hy => ?_
            · have hcl : c.toList.length = c.size := by simp
              rw [List.length_take, List.length_take, hcl, Nat.min_eq_left hlen, Nat.min_eq_left (by omega)]
            · have hi := (List.getElem?_eq_some_iff.1 hy).1
              rw [List.length_take] at hi
              rw [List.getElem?_take_of_lt (by omega)] at hy
              obtain ⟨y', g1, g2⟩ := hg i y hy
              rw [e2, Nat.zero_add] at g1
              exact ⟨y', by rw [List.getElem?_take_of_lt (by omega), Array.getElem?_toList]; exact g1, g2⟩
          have := bytesOf_ok hvr hl
          have h2 := congrArg (·[j]?) this
          simp only [List.getElem?_map, hj, Option.map_some] at h2
          rw [List.getElem?_take_of_lt (by omega), Array.getElem?_toList] at h2
          exact h2
        · refine hk m _ _ (Ren.le.refl m) (.str _) (hs.put hb (by intro e; cases e) ha ?_)
          unfold ObjR
          split <;> first
            | trivial
            | (rename_i e; cases e)

noncomputable def xCall (P : Program) (N : Nat) (C : Caller) (st : St) (e : Ev) (c : Call) : Option (Value × St) :=
  match c with
  | { callee := .value f, args := args, argTypes := _ } => match evX N e f, evs N e args.toList with
    | some fv, some l => C st fv l
    | _, _ => none
  | { callee := .invoke recv name, args := args, argTypes := _ } => match evX N e recv, evs N e args.toList with
    | some (.iface t v), some l => match methodOf P t name with
      | some g => C st (.func (.func g) #[] #[]) (v :: l)
      | none => none
    | _, _ => none
  | { callee := .builtin .append, args := args, argTypes := ts } => match args.toList, ts.toList with
    | [s, x], [t, u] => match evX N e s, evX N e x with
      | some a, some b => xAppend P st t u a b
      | _, _ => none
    | _, _ => none
  | { callee := .builtin .copy, args := args, argTypes := ts } => match args.toList, ts.toList with
    | [s, x], [t, _] => match evX N e s, evX N e x with
      | some a, some b => xCopy P st t a b
      | _, _ => none
    | _, _ => none
  | { callee := .builtin .unsafeSliceData, args := args, argTypes := _ } => match args.toList with
    | [x] => match evX N e x with
      | some a => match xUSD a with
        | some v => some (v, st)
        | none => none
      | none => none
    | _ => none
  | { callee := .builtin .unsafeString, args := args, argTypes := ts } => match args.toList, ts.toList with
    | [p, n], [t, _] => match evX N e p, evX N e n with
      | some a, some b => xUStr P st t a b
      | _, _ => none
    | _, _ => none
  | { callee := .builtin .clear, args := args, argTypes := ts } => match args.toList, ts.toList with
    | [x], [t] => match evX N e x with
      | some a => match xClear P st t a with
        | some st' => some (.tuple #[], st')
        | none => none
      | none => none
    | _, _ => none
  | { callee := .builtin .delete, args := args, argTypes := ts } => match args.toList, ts.toList with
    | [s, x], [t, _] => match evX N e s, evX N e x with
      | some a, some b => match xDel P st t a b with
        | some st' => some (.tuple #[], st')
        | none => none
      | _, _ => none
    | _, _ => none
  | { callee := .builtin .len, args := args, argTypes := ts } => match args.toList, ts.toList with
    | [x], [t] => match evX N e x with
      | some a => match P.underlying t with
        | some (.map _ _) => match xLenM st a with
          | some v => some (v, st)
          | none => none
        | _ => match xLen (tk P t) a with
          | some v => some (v, st)
          | none => none
      | none => none
    | _, _ => none
  | { callee := .builtin .cap, args := args, argTypes := ts } => match args.toList, ts.toList with
    | [x], [t] => match evX N e x with
      | some a => match xCap (tk P t) a with
        | some v => some (v, st)
        | none => none
      | none => none
    | _, _ => none
  | { callee := .builtin .min, args := args, argTypes := _ } => match args.toList with
    | x :: r => match evX N e x, evs N e r with
      | some a, some l => match xMin a l with
        | some v => some (v, st)
        | none => none
      | _, _ => none
    | _ => none
  | { callee := .builtin .max, args := args, argTypes := _ } => match args.toList with
    | x :: r => match evX N e x, evs N e r with
      | some a, some l => match xMax a l with
        | some v => some (v, st)
        | none => none
      | _, _ => none
    | _ => none
  | _ => none

theorem vr_iface {m : Ren} {t : TypeId} {x y' : Value} (h : VR m (.iface t x) y') : ∃ y, y' = .iface t y ∧ VR m x y := by
  cases h
  exact ⟨_, rfl, by assumption⟩

theorem xCall_ok {P : Program} {N : Nat} {G : Ren → Prop} {C : Caller} (hC : COk P G C) {m : Ren} {st st' : St} {w : World} {e : Ev} {ρ : Env} (hs : Sim m st w) (he : ER m e ρ) (hg : Glob N m) (hG : G m) {c : Call} {v : Value} {K : Value → World → Prop}
    (h : xCall P N C st e c = some (v, st')) (hk : Out m st' v K) : opV P (.call c) ρ w K := by
  have keep : ∀ {u : Value}, u = v → st = st' → ∀ u', VR m u u' → K u' w := by
    rintro u rfl rfl u' hu
    exact hk m _ _ (Ren.le.refl m) hu hs
  unfold xCall at h
  split at h
  · split at h <;> try (cases h; done)
    rename_i fv l hf hl
    exact hC _ _ _ _ _ _ _ _ _ _ hs hG (evX_ok he hg hf) (evs_ok he hg hl) h hk
  · split at h <;> try (cases h; done)
    rename_i t u l hr hl
    split at h <;> try (cases h; done)
    rename_i g hm
    obtain ⟨y, e1, hy⟩ := vr_iface (evX_ok he hg hr)
    show vInvoke P (ev ρ _) _ _ w K
    rw [e1]
    unfold vInvoke
    simp only [hm]
    have := hC _ _ _ _ _ _ _ _ _ _ hs hG (.fn (g := g) .nil .nil) (.cons hy (evs_ok he hg hl)) h hk
    unfold vCallV at this
    simpa using this
  · split at h <;> try (cases h; done)
    rename_i args ts _ _ s x t u ha ht
    split at h <;> try (cases h; done)
    rename_i a b h1 h2
    show (match args.toList, ts.toList with
      | [s, x], [t, u] => vAppend P t u (ev ρ s) (ev ρ x) w K
      | _, _ => False)
    rw [ha, ht]
    exact xAppend_ok hs (evX_ok he hg h1) (evX_ok he hg h2) h hk
  · split at h <;> try (cases h; done)
    rename_i args ts _ _ s x t u ha ht
    split at h <;> try (cases h; done)
    rename_i a b h1 h2
    show (match args.toList, ts.toList with
      | [s, x], [t, _] => vCopy P t (ev ρ s) (ev ρ x) w K
      | _, _ => False)
    rw [ha, ht]
    exact xCopy_ok hs (evX_ok he hg h1) (evX_ok he hg h2) h hk
  · split at h <;> try (cases h; done)
    rename_i args ts _ x ha
    split at h <;> try (cases h; done)
    rename_i a h1
    split at h <;> try (cases h; done)
    rename_i u hu
    cases h
    show (match args.toList with
      | [x] => vUSD (ev ρ x) fun v => K v w
      | _ => False)
    rw [ha]
    exact xUSD_ok (K := fun v => K v w) (evX_ok he hg h1) hu (keep rfl rfl)
  · split at h <;> try (cases h; done)
    rename_i args ts _ _ p n t u ha ht
    split at h <;> try (cases h; done)
    rename_i a b h1 h2
    show (match args.toList, ts.toList with
      | [p, n], [t, _] => vUStr P t (ev ρ p) (ev ρ n) w K
      | _, _ => False)
    rw [ha, ht]
    exact xUStr_ok hs (evX_ok he hg h1) (evX_ok he hg h2) h hk
  · split at h <;> try (cases h; done)
    rename_i args ts _ _ x t ha ht
    split at h <;> try (cases h; done)
    rename_i a h1
    split at h <;> try (cases h; done)
    rename_i st1 h3
    cases h
    show (match args.toList, ts.toList with
      | [x], [t] => vClear P t (ev ρ x) w K
      | _, _ => False)
    rw [ha, ht]
    exact xClear_ok hs (evX_ok he hg h1) h3 hk
  · split at h <;> try (cases h; done)
    rename_i args ts _ _ s x t u ha ht
    split at h <;> try (cases h; done)
    rename_i a b h1 h2
    split at h <;> try (cases h; done)
    rename_i st1 h3
    cases h
    show (match args.toList, ts.toList with
      | [s, x], [t, _] => vDel P t (ev ρ s) (ev ρ x) w K
      | _, _ => False)
    rw [ha, ht]
    exact xDel_ok hs (evX_ok he hg h1) (evX_ok he hg h2) h3 hk
  · split at h <;> try (cases h; done)
    rename_i args ts _ _ x t ha ht
    split at h <;> try (cases h; done)
    rename_i a h1
    show (match args.toList, ts.toList with
      | [x], [t] => match P.underlying t with
        | some (.map _ _) => vLenM (ev ρ x) w K
        | _ => vLen (tk P t) (ev ρ x) fun v => K v w
      | _, _ => False)
    rw [ha, ht]
    split at h
    · rename_i kt et hm
      split at h <;> try (cases h; done)
      rename_i u hu
      cases h
      first
        | exact xLenM_ok hs (evX_ok he hg h1) hu hk
        | (simp only [hm]; exact xLenM_ok hs (evX_ok he hg h1) hu hk)
    · rename_i hm
      split at h <;> try (cases h; done)
      rename_i u hu
      cases h
      have := xLen_ok (K := fun v => K v w) (evX_ok he hg h1) hu fun hp => keep rfl rfl _ (hp m)
      show (match P.underlying t with
        | some (.map _ _) => vLenM (ev ρ x) w K
        | _ => vLen (tk P t) (ev ρ x) fun v => K v w)
      split
      · rename_i hm2
        exact (hm _ _ hm2).elim
      · exact this
  · split at h <;> try (cases h; done)
    rename_i args ts _ _ x t ha ht
    split at h <;> try (cases h; done)
    rename_i a h1
    split at h <;> try (cases h; done)
    rename_i u hu
    cases h
    show (match args.toList, ts.toList with
      | [x], [t] => vCap (tk P t) (ev ρ x) fun v => K v w
      | _, _ => False)
    rw [ha, ht]
    exact xCap_ok (K := fun v => K v w) (evX_ok he hg h1) hu fun hp => keep rfl rfl _ (hp m)
  · split at h <;> try (cases h; done)
    rename_i args ts _ x r ha
    split at h <;> try (cases h; done)
    rename_i a l h1 h2
    split at h <;> try (cases h; done)
    rename_i u hu
    cases h
    show (match args.toList with
      | x :: r => vMin (ev ρ x) (r.map (ev ρ)) fun v => K v w
      | _ => False)
    rw [ha]
    exact xMin_ok (evX_ok he hg h1) (evs_ok he hg h2) hu (keep rfl rfl)
  · split at h <;> try (cases h; done)
    rename_i args ts _ x r ha
    split at h <;> try (cases h; done)
    rename_i a l h1 h2
    split at h <;> try (cases h; done)
    rename_i u hu
    cases h
    show (match args.toList with
      | x :: r => vMax (ev ρ x) (r.map (ev ρ)) fun v => K v w
      | _ => False)
    rw [ha]
    exact xMax_ok (evX_ok he hg h1) (evs_ok he hg h2) hu (keep rfl rfl)
  · cases h

noncomputable def xOp (P : Program) (N : Nat) (C : Caller) (st : St) (e : Ev) (op : Op) : Option (Value × St) :=
  match op with
  | .call c => xCall P N C st e c
  | op => xOp0 P N st e op

theorem xOp_ok {P : Program} {N : Nat} {G : Ren → Prop} {C : Caller} (hC : COk P G C) {m : Ren} {st st' : St} {w : World} {e : Ev} {ρ : Env} (hs : Sim m st w) (he : ER m e ρ) (hg : Glob N m) (hG : G m) {op : Op} {v : Value} {K : Value → World → Prop}
    (h : xOp P N C st e op = some (v, st')) (hk : Out m st' v K) : opV P op ρ w K := by
  unfold xOp at h
  split at h
  · exact xCall_ok hC hs he hg hG h hk
  · exact xOp0_ok hs he hg h hk

end Go.X

/-
  THE EXECUTOR, part 12: regions in the text's order. Own work; generic in the program.
-/
set_option linter.unusedVariables false
set_option maxRecDepth 20000
namespace Go.X
open Go Go.V Go.RowKit

abbrev KnL := List (Nat × Option Bool)

def xGuard (ds : List (Option Nat)) (g : Option (Nat × Bool)) (kn : KnL) (e : Ev) : Option (Bool × KnL) :=
  match g with
  | none => some (true, kn)
  | some (j, b) => match gtmp ds j with
    | none => none
    | some d => match lookK kn d, b with
      | some (some true), true => some (true, kn)
      | some (some false), false => some (true, kn)
      | some _, _ => some (false, kn)
      | none, true => match getE e d with
        | some (.bool t) => some (t, (d, some t) :: kn)
        | _ => none
      | none, false => match getE e d with
        | some (.bool t) => some (!t, (d, some t) :: kn)
        | _ => none

theorem xGuard_ok {m : Ren} {e : Ev} {ρ : Env} (he : ER m e ρ) {ds : List (Option Nat)} {g : Option (Nat × Bool)} {kn kn' : KnL} {b : Bool} (h : xGuard ds g kn e = some (b, kn')) {yes no : KnL → Prop}
    (hy : b = true → yes kn') (hn : b = false → no kn') : guardV ds g kn ρ yes no := by
  unfold xGuard at h
  unfold guardV
  split at h
  · cases h; exact hy rfl
  · rename_i j b0
    split at h <;> try (cases h; done)
    rename_i d hd
    simp only [hd]
    cases hl : lookK kn d with
    | some x =>
      rw [hl] at h
      rcases x with _ | t
      · cases b0 <;> (cases h; exact hn rfl)
      · cases t <;> cases b0 <;> (cases h; first | exact hy rfl | exact hn rfl)
    | none =>
      rw [hl] at h
      cases b0 <;> simp only at h ⊢
      all_goals
        split at h <;> try (cases h; done)
        rename_i t ht
        have e1 := vr_bool (he d _ ht)
        rw [e1]
        show (if _ then _ else _)
        cases t <;> cases h <;> first | (simpa using hy rfl) | (simpa using hn rfl)

noncomputable def xOps (P : Program) (N : Nat) (C : Caller) (ds : List (Option Nat)) : List Oper → KnL → Ev → St → Option (Ev × St)
  | [], _, e, st => some (e, st)
  | o :: r, kn, e, st => match xGuard ds o.guard kn e with
    | some (true, kn) => match pickK kn o.op with
      | some x => match evX N e x with
        | some v => xOps P N C ds r (learn kn x o.dst) (putE e o.dst v) st
        | none => none
      | none => match xOp P N C st e o.op with
        | some (v, st') => xOps P N C ds r (dropK kn o.dst) (putE e o.dst v) st'
        | none => none
    | some (false, kn) => xOps P N C ds r (skipK kn o.dst) (putE e o.dst undef) st
    | none => none

theorem xOps_ok {P : Program} {N : Nat} {G : Ren → Prop} {C : Caller} (hC : COk P G C) (hG : ∀ m m' : Ren, m.sub m' → G m → G m') (hN : ∀ m, G m → Glob N m) {ds : List (Option Nat)} :
    ∀ (l : List Oper) {kn : KnL} {m : Ren} {e e' : Ev} {st st' : St} {ρ : Env} {w : World} {K : Env → World → Prop}, Sim m st w → ER m e ρ → G m → xOps P N C ds l kn e st = some (e', st') →
    (∀ m' ρ' w', m.le m' → ER m' e' ρ' → Sim m' st' w' → K ρ' w') → opsV P ds l kn ρ w K
  | [], kn, m, e, e', st, st', ρ, w, K, hs, he, hg, h, hk => by
    cases h
    exact hk m ρ w (Ren.le.refl m) he hs
  | o :: r, kn, m, e, e', st, st', ρ, w, K, hs, he, hg, h, hk => by
    unfold xOps at h
    unfold opsV
    split at h
    · rename_i kn1 h1
      refine xGuard_ok he h1 (fun _ => ?_) (fun e => by cases e)
      split at h
      · rename_i x hx
        split at h <;> try (cases h; done)
        rename_i v hv
        simp only [hx]
        exact xOps_ok hC hG hN r hs (he.put (evX_ok he (hN m hg) hv) o.dst) hg h hk
      · rename_i hx
        split at h <;> try (cases h; done)
        rename_i v st1 hv
        simp only [hx]
        refine xOp_ok hC hs he (hN m hg) hg hv fun m1 v' w1 hm1 hv1 hs1 => ?_
        exact xOps_ok hC hG hN r hs1 ((he.up hm1).put hv1 o.dst) (hG _ _ hm1.sub hg) h fun m2 ρ2 w2 hm2 he2 hs2 => hk m2 ρ2 w2 (hm1.trans hm2) he2 hs2
    · rename_i kn1 h1
      refine xGuard_ok he h1 (fun e => by cases e) (fun _ => ?_)
      exact xOps_ok hC hG hN r hs (he.put (.tup .nil) o.dst) hg h hk
    · cases h

end Go.X

/-
  THE EXECUTOR, part 13: slots, loops. Own work; generic in the program.
-/
set_option linter.unusedVariables false
set_option maxRecDepth 20000
namespace Go.X
open Go Go.V Go.RowKit

def restr : List Nat → Ev → Ev
  | [], _ => []
  | d :: r, e => match getE e d with
    | some v => (d, v) :: restr r e
    | none => restr r e

theorem restr_get {e : Ev} {i : Nat} {v : Value} : ∀ {sel : List Nat}, getE (restr sel e) i = some v → i ∈ sel ∧ getE e i = some v
  | [], h => by cases h
  | d :: r, h => by
    unfold restr at h
    split at h
    · rename_i u hu
      unfold getE at h
      cases hb : Nat.beq i d with
      | true =>
        rw [hb, cond_true] at h
        cases h
        have := Nat.eq_of_beq_eq_true hb
        subst this
        exact ⟨List.mem_cons_self, hu⟩
      | false =>
        rw [hb, cond_false] at h
        obtain ⟨h1, h2⟩ := restr_get h
        exact ⟨List.mem_cons_of_mem _ h1, h2⟩
    · obtain ⟨h1, h2⟩ := restr_get h
      exact ⟨List.mem_cons_of_mem _ h1, h2⟩

def SR (m : Ren) (e : Ev) (sel : List Nat) (vs : List Value) : Prop := ∀ (j d : Nat) v, sel[j]? = some d → getE e d = some v → ∃ v', vs[j]? = some v' ∧ VR m v v'

theorem SR.of {m : Ren} {e : Ev} {ρ : Env} (h : ER m e ρ) (sel : List Nat) : SR m e sel (sel.map ρ) := by
  intro j d v hj hv
  exact ⟨ρ d, by rw [List.getElem?_map, hj]; rfl, h d v hv⟩

theorem SR.er {m : Ren} {e : Ev} {ρ : Env} {sel : List Nat} (h : SR m e sel (sel.map ρ)) : ER m (restr sel e) ρ := by
  intro i v hv
  obtain ⟨h1, h2⟩ := restr_get hv
  obtain ⟨j, hj⟩ := List.mem_iff_getElem?.1 h1
  obtain ⟨v', h3, h4⟩ := h j i v hj h2
  rw [List.getElem?_map, hj] at h3
  cases h3
  exact h4

inductive DR (m : Ren) : List Nat → List Nat → Prop
  | nil : DR m [] []
  | cons {d c : Nat} {ds cs : List Nat} {a : At} (h : m d = some a) (hc : a.blk = c) (hs : DR m ds cs) : DR m (d :: ds) (c :: cs)

theorem DR.up {m m' : Ren} (hm : m.le m') : ∀ {ds cs : List Nat}, DR m ds cs → DR m' ds cs
  | _, _, .nil => .nil
  | _, _, .cons h hc hs => .cons (hm.at_ _ _ h) hc (DR.up hm hs)

theorem least {p : Nat → Prop} (h : ∃ k, p k) : ∃ k, p k ∧ ∀ j, p j → k ≤ j := by
  obtain ⟨k, hk⟩ := h
  induction k using Nat.strongRecOn with
  | ind k ih =>
    by_cases hx : ∃ j, j < k ∧ p j
    · obtain ⟨j, hj, hp⟩ := hx
      exact ih j hj hp
    · exact ⟨k, hk, fun j hj => Nat.le_of_not_lt fun hlt => hx ⟨j, hlt, hj⟩⟩

theorem loop_of {sel : List Nat} {init : List Value} {ds : List Nat} {w : World} {body : Env → List Nat → World → (List Value → List Nat → World → Prop) → Prop} (J : Nat → List Value → List Nat → World → Prop)
    (h0 : ∃ k, J k init ds w) (hb : ∀ k ρ ds w (R : List Value → List Nat → World → Prop), J k (sel.map ρ) ds w → (∀ vs ds' w' j, j < k → J j vs ds' w' → R vs ds' w') → body ρ ds w R) : loopF sel init ds w body := by
  classical
  refine ⟨fun vs ds w => ∃ k, J k vs ds w, fun vs ds w => if h : ∃ k, J k vs ds w then Classical.choose (least h) else 0, h0, fun ρ ds w hI => ?_⟩
  refine hb (Classical.choose (least hI)) ρ ds w _ (Classical.choose_spec (least hI)).1 fun vs ds' w' j hj hJ => ⟨⟨j, hJ⟩, ?_⟩
  have hx : ∃ k, J k vs ds' w' := ⟨j, hJ⟩
  show (if h : ∃ k, J k vs ds' w' then Classical.choose (least h) else 0) < (if h : ∃ k, J k (sel.map ρ) ds w then Classical.choose (least h) else 0)
  have hI' : ∃ k, J k (sel.map ρ) ds w := hI
  rw [dif_pos hx, dif_pos hI']
  exact Nat.lt_of_le_of_lt ((Classical.choose_spec (least hx)).2 j hJ) hj

end Go.X

/-
  THE EXECUTOR, part 14: functions. Own work; generic in the program.
-/
set_option linter.unusedVariables false
set_option maxRecDepth 20000
namespace Go.X
open Go Go.V Go.RowKit

noncomputable def xRes (P : Program) (st : St) (e : Ev) : List ResultVar → List Value → Option Value
  | [], acc => some (oneOf acc.reverse)
  | .tmp t :: r, acc => match getE e t with
    | some v => xRes P st e r (v :: acc)
    | none => none
  | .cell t ty :: r, acc => match getE e t with
    | some a => match xLd st (ldk P ty) a with
      | some v => xRes P st e r (v :: acc)
      | none => none
    | none => none

theorem VRs.rev {m : Ren} : ∀ {xs ys : List Value}, VRs m xs ys → VRs m xs.reverse ys.reverse
  | _, _, .nil => .nil
  | _, _, .cons hx hs => by
    rw [List.reverse_cons, List.reverse_cons]
    exact (VRs.rev hs).append (.cons hx .nil)

theorem VRs.oneOf {m : Ren} {xs ys : List Value} (h : VRs m xs ys) : VR m (oneOf xs) (oneOf ys) := by
  cases h with
  | nil => exact .tup .nil
  | cons hx hs =>
    cases hs with
    | nil => exact hx
    | cons hy ht => exact .tup (.cons hx (.cons hy ht))

theorem xRes_ok {P : Program} {m : Ren} {st : St} {w : World} (hs : Sim m st w) {e : Ev} {ρ : Env} (he : ER m e ρ) {K : Value → Prop} : ∀ (l : List ResultVar) {acc acc' : List Value} {v : Value}, VRs m acc acc' → xRes P st e l acc = some v →
    (∀ v', VR m v v' → K v') → resV P l acc' ρ w K
  | [], acc, acc', v, ha, h, hk => by
    cases h
    exact hk _ ha.rev.oneOf
  | .tmp t :: r, acc, acc', v, ha, h, hk => by
    unfold xRes at h
    split at h <;> try (cases h; done)
    rename_i u hu
    exact xRes_ok hs he r (.cons (he _ _ hu) ha) h hk
  | .cell t ty :: r, acc, acc', v, ha, h, hk => by
    unfold xRes at h
    split at h <;> try (cases h; done)
    rename_i a h1
    split at h <;> try (cases h; done)
    rename_i u hu
    unfold resV
    exact xLd_ok hs (he _ _ h1) hu fun v' hv' => xRes_ok hs he r (.cons hv' ha) h hk

def envX : Nat → List Value → Ev
  | _, [] => []
  | i, v :: r => (i, v) :: envX (i + 1) r

theorem envX_get {m : Ren} : ∀ {as as' : List Value} {i : Nat}, VRs m as as' → ∀ {j : Nat} {v : Value}, getE (envX i as) j = some v → ∃ k v', j = i + k ∧ as'[k]? = some v' ∧ VR m v v'
  | _, _, i, .nil, j, v, h => by cases h
  | _, _, i, .cons hx hs, j, v, h => by
    unfold envX getE at h
    cases hb : Nat.beq j i with
    | true =>
      rw [hb, cond_true] at h
      cases h
      exact ⟨0, _, by have := Nat.eq_of_beq_eq_true hb; omega, rfl, hx⟩
    | false =>
      rw [hb, cond_false] at h
      obtain ⟨k, v', h1, h2, h3⟩ := envX_get hs h
      exact ⟨k + 1, v', by omega, by simpa using h2, h3⟩

theorem envX_ok {m : Ren} {as as' : List Value} (h : VRs m as as') : ER m (envX 0 as) (envOf as') := by
  intro j v hv
  obtain ⟨k, v', h1, h2, h3⟩ := envX_get h hv
  unfold envOf
  have : j = k := by omega
  rw [this, h2]
  exact h3

end Go.X

/-
  THE EXECUTOR, part 15: for regions in whatever order: what an address holds is one. Own work; generic in the program.
-/
set_option linter.unusedVariables false
set_option maxRecDepth 20000
namespace Go.X
open Go Go.V Go.RowKit

mutual
theorem VR.fun {m : Ren} : ∀ {x y y' : Value}, VR m x y → VR m x y' → y = y'
  | _, _, _, .bool b, h => by cases h; rfl
  | _, _, _, .int k n, h => by cases h; rfl
  | _, _, _, .str s, h => by cases h; rfl
  | _, _, _, .pnil, h => by cases h; rfl
  | _, _, _, .snil, h => by cases h; rfl
  | _, _, _, .mnil, h => by cases h; rfl
  | _, _, _, .fnil, h => by cases h; rfl
  | _, _, _, .inil, h => by cases h; rfl
  | _, _, _, .ptr hb, h => by
    cases h
    rename_i a' hb'
    rw [hb] at hb'
    cases hb'
    rfl
  | _, _, _, .sl hb, h => by
    cases h
    rename_i a' hb'
    rw [hb] at hb'
    cases hb'
    rfl
  | _, _, _, .map hb, h => by
    cases h
    rename_i a' hb'
    rw [hb] at hb'
    cases hb'
    rfl
  | _, _, _, .edge hb, h => by
    cases h
    rename_i a' hb'
    rw [hb] at hb'
    cases hb'
    rfl
  | _, _, _, .iface hx, h => by
    cases h
    rename_i y' hy
    rw [VR.fun hx hy]
  | _, _, _, .fn h1 h2, h => by
    cases h
    rename_i f' c' g1 g2
    rw [VRs.fun h1 g1, VRs.fun h2 g2]
  | _, _, _, .yld hb, h => by
    cases h
    rename_i a' hb'
    rw [hb] at hb'
    cases hb'
    rfl
  | _, _, _, .agg hs, h => by
    cases h
    rename_i ys hy
    rw [VRs.fun hs hy]
  | _, _, _, .tup hs, h => by
    cases h
    rename_i ys hy
    rw [VRs.fun hs hy]
theorem VRs.fun {m : Ren} : ∀ {xs ys ys' : List Value}, VRs m xs ys → VRs m xs ys' → ys = ys'
  | _, _, _, .nil, h => by cases h; rfl
  | _, _, _, .cons hx hs, h => by
    cases h
    rename_i y' ys' hy hys
    rw [VR.fun hx hy, VRs.fun hs hys]
end

def veq : Nat → Value → Value → Bool
  | n + 1, .iface t x, .iface u y => Nat.beq t u && veq n x y
  | _, .bool a, .bool b => a == b
  | _, .int k a, .int k' b => decide (k = k') && a == b
  | _, .string a, .string b => a.data.toList == b.data.toList
  | _, .pointer none, .pointer none => true
  | _, .pointer (some ⟨a, o, none⟩), .pointer (some ⟨b, q, none⟩) => Nat.beq a b && Nat.beq o q
  | _, .slice none n k, .slice none n' k' => Nat.beq n n' && Nat.beq k k'
  | _, .slice (some ⟨a, o, none⟩) n k, .slice (some ⟨b, q, none⟩) n' k' => Nat.beq a b && Nat.beq o q && Nat.beq n n' && Nat.beq k k'
  | _, .map none, .map none => true
  | _, .map (some a), .map (some b) => Nat.beq a b
  | _, .nilFunc, .nilFunc => true
  | _, .nilIface, .nilIface => true
  | _, _, _ => false

theorem veq_ok : ∀ {n : Nat} {x y : Value}, veq n x y = true → x = y
  | n, x, y, h => by
    unfold veq at h
    split at h <;> first
      | rfl
      | (cases h; done)
      | exact (by obtain ⟨h1, h2⟩ := Bool.and_eq_true_iff.1 h; have e1 := Nat.eq_of_beq_eq_true h1; have e2 := veq_ok h2; rw [e1, e2])
      | (simp only [Bool.and_eq_true, Nat.beq_eq, beq_iff_eq, decide_eq_true_eq] at h; simp_all; done)
      | exact congrArg Value.string (by apply ByteArray.ext; exact Array.toList_inj.1 (eq_of_beq h))

structure Rd where
  b : Nat
  o : Nat
  vs : List Value

end Go.X
