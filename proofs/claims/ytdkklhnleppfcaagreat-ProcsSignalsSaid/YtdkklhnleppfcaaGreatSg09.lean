/-
  THE EXECUTOR, part 6: slices of slices, copy, maps whose keys are integers, pointers compared. Own work; generic in the program.
-/
import Derived.Test.YtdkklhnleppfcaaGreatSg08
set_option linter.unusedVariables false
set_option linter.unusedSimpArgs false

set_option linter.unusedVariables false
set_option maxRecDepth 20000
namespace Go.X
open Go Go.V Go.RowKit

def xBnd (v : Option Value) (dflt y : Nat) : Option Nat :=
  match v with
  | none => some dflt
  | some (.int _ i) => if 0 ≤ i then if i ≤ (y : Int) then some i.toNat else none else none
  | _ => none

inductive VRo (m : Ren) : Option Value → Option Value → Prop
  | none : VRo m none none
  | some {x y : Value} (h : VR m x y) : VRo m (some x) (some y)

theorem xBnd_ok {m : Ren} {v v' : Option Value} {dflt y y' r : Nat} {K : Nat → Prop} (hv : VRo m v v') (hy : y ≤ y') (h : xBnd v dflt y = some r) (hk : (v = none → r = dflt) → (v ≠ none → r ≤ y) → K r) : bnd v' dflt y' K := by
  unfold xBnd at h
  unfold bnd
  cases hv with
  | none =>
    cases h
    exact hk (fun _ => rfl) (fun e => absurd rfl e)
  | some hv =>
    cases hv <;> simp only at h ⊢ <;> try (cases h; done)
    split at h <;> try (cases h; done)
    rename_i h0
    split at h <;> try (cases h; done)
    rename_i h1
    cases h
    exact ⟨h0, by omega, hk (fun e => by cases e) (fun _ => by omega)⟩

def capK (k : Nat) : Nat := bif Nat.blt k far then k else k - far
def capLess (k l : Nat) : Nat := bif Nat.blt k far then k - l else far + (k - far - l)

def xSlice (t : TK) (x : Value) (lo hi : Option Value) : Option Value :=
  match t, x with
  | .string, .string s => match xBnd hi s.data.toList.length s.data.toList.length with
    | some h => match xBnd lo 0 h with
      | some l => some (.string ⟨⟨(s.data.toList.drop l).take (h - l)⟩⟩)
      | none => none
    | none => none
  | .slice es, .slice none 0 0 => match xBnd hi 0 0 with
    | some h => match xBnd lo 0 h with
      | some l => some (.slice none 0 0)
      | none => none
    | none => none
  | .slice es, .slice (some ⟨b, o, none⟩) len cap => if len ≤ capK cap then match xBnd hi len (capK cap) with
    | some h => match xBnd lo 0 h with
      | some l => if l = 0 then some (.slice (some ⟨b, o, none⟩) h cap)
        else if l < capK cap then some (.slice (some ⟨b, o + l * es, none⟩) (h - l) (capLess cap l))
        else if cap < far then some (.slice (some ⟨b, o, none⟩) (h - l) (cap - l)) else some (.slice (some ⟨b, o, some (l * es)⟩) 0 (capLess cap l))
      | none => none
    | none => none else none
  | .arr n es, .pointer (some ⟨b, o, none⟩) => if n < far then match xBnd hi n n with
    | some h => match xBnd lo 0 h with
      | some l => if n = l then some (.slice (some ⟨b, o, none⟩) (h - l) (n - l)) else some (.slice (some ⟨b, o + l * es, none⟩) (h - l) (n - l))
      | none => none
    | none => none else none
  | _, _ => none

theorem capK_le (a : At) (k : Nat) : capK k ≤ capOf a k := by
  unfold capK capOf
  cases Nat.blt k far
  · rw [cond_false, cond_false]; exact Nat.le_add_right _ _
  · rw [cond_true, cond_true]; exact Nat.le_refl _

theorem capLess_ok (a : At) {k l : Nat} (h : l ≤ capK k) : capOf a (capLess k l) = capOf a k - l := by
  unfold capLess
  unfold capK at h
  cases hb : Nat.blt k far with
  | true =>
    rw [Nat.blt_eq] at hb
    rw [cond_true, cap_near a hb, cap_near a (Nat.lt_of_le_of_lt (Nat.sub_le _ _) hb)]
  | false =>
    have hb' : ¬ k < far := by intro e; rw [← Nat.blt_eq, hb] at e; cases e
    rw [hb, cond_false] at h
    rw [cond_false, cap_far, cap_ge a hb']
    generalize far = f at *
    omega

theorem addr0 (b o : Nat) : (⟨b, o, none⟩ : Addr).add 0 = ⟨b, o, none⟩ := by rw [add_off, Nat.add_zero]

theorem xSlice_ok {m : Ren} {t : TK} {x x' v : Value} {lo hi lo' hi' : Option Value} {K : Value → Prop} (hx : VR m x x') (hlo : VRo m lo lo') (hhi : VRo m hi hi') (h : xSlice t x lo hi = some v) (hk : ∀ v', VR m v v' → K v') : vSlice t x' lo' hi' K := by
  unfold xSlice at h
  unfold vSlice
  cases hx with
  | str s =>
    cases t <;> simp only at h ⊢ <;> try (cases h; done)
    split at h <;> try (cases h; done)
    rename_i hh e1
    split at h <;> try (cases h; done)
    rename_i l e2
    cases h
    have hs : s.data.toList.length = s.size := by rw [Array.length_toList]; rfl
    rw [hs] at e1
    refine xBnd_ok hhi (Nat.le_refl _) e1 fun _ _ => xBnd_ok hlo (Nat.le_refl _) e2 fun _ _ => ?_
    have := bex s.data.toList l hh
    have e3 : (⟨s.data.toList.toArray⟩ : ByteArray) = s := by cases s; simp
    rw [e3] at this
    rw [this]
    exact hk _ (.str _)
  | snil =>
    cases t <;> simp only at h ⊢ <;> try (cases h; done)
    split at h <;> try (cases h; done)
    rename_i hh e1
    split at h <;> try (cases h; done)
    rename_i l e2
    cases h
    refine xBnd_ok hhi (Nat.le_refl _) e1 fun g1 g2 => xBnd_ok hlo (Nat.le_refl _) e2 fun g3 g4 => ?_
    have hh0 : hh = 0 := by
      by_cases e : hi = none
      · exact g1 e
      · have := g2 e; omega
    have hl0 : l = 0 := by
      by_cases e : lo = none
      · exact g3 e
      · have := g4 e; omega
    subst hh0
    subst hl0
    exact hk _ .snil
  | sl ha =>
    rename_i b o n k a
    cases t <;> simp only at h ⊢ <;> try (cases h; done)
    rename_i es
    split at h <;> try (cases h; done)
    rename_i hn
    split at h <;> try (cases h; done)
    rename_i hh e1
    split at h <;> try (cases h; done)
    rename_i l e2
    have hck := capK_le a k
    refine xBnd_ok hhi hck e1 fun g1 g2 => xBnd_ok hlo (Nat.le_refl _) e2 fun g3 g4 => ?_
    have hhk : hh ≤ capK k := by
      by_cases e : hi = none
      · rw [g1 e]; exact hn
      · exact g2 e
    have hlh : l ≤ hh := by
      by_cases e : lo = none
      · rw [g3 e]; exact Nat.zero_le _
      · exact g4 e
    split at h
    · rename_i e0
      cases h
      subst e0
      simp only [Nat.zero_mul, Option.map_some, addr0, if_true, Nat.sub_zero, ite_self]
      exact hk _ (.sl ha)
    · rename_i e0
      split at h
      · rename_i e3
        cases h
        rw [if_neg (by omega)]
        simp only [Option.map_some, add_off]
        rw [Nat.add_assoc, ← capLess_ok a (by omega)]
        exact hk _ (.sl ha)
      · rename_i e3
        split at h
        rotate_left
        · cases h
          have e5 : hh - l = 0 := by omega
          have hr := VR.edge (o := o) (d := l * es) (k := capLess k l) ha
          rw [capLess_ok a (by omega)] at hr
          rw [e5]
          by_cases e6 : capOf a k = l
          · rw [if_pos e6]
            rw [if_pos (by omega), Nat.add_zero] at hr
            exact hk _ hr
          · rw [if_neg e6]
            rw [if_neg (by omega)] at hr
            simp only [Option.map_some, add_off]
            exact hk _ hr
        rename_i e4
        cases h
        have hk0 : capK k = k := by
          unfold capK
          have : Nat.blt k far = true := by rw [Nat.blt_eq]; exact e4
          rw [this]; rfl
        rw [hk0] at hhk e3
        rw [cap_near a e4, if_pos (by omega)]
        have hr := VR.sl (n := hh - l) (k := k - l) (o := o) ha
        rw [cap_near a (by omega)] at hr
        exact hk _ hr
  | ptr ha =>
    rename_i b o a
    cases t <;> simp only at h ⊢ <;> try (cases h; done)
    rename_i n es
    split at h <;> try (cases h; done)
    rename_i hn
    split at h <;> try (cases h; done)
    rename_i hh e1
    split at h <;> try (cases h; done)
    rename_i l e2
    refine xBnd_ok hhi (Nat.le_refl _) e1 fun g1 g2 => xBnd_ok hlo (Nat.le_refl _) e2 fun g3 g4 => ?_
    split at h
    · rename_i e3
      cases h
      rw [if_pos e3]
      have hr := VR.sl (n := hh - l) (k := n - l) (o := o) ha
      rw [cap_near a (by omega)] at hr
      exact hk _ hr
    · rename_i e3
      cases h
      rw [if_neg e3, add_off, Nat.add_assoc]
      have hr := VR.sl (n := hh - l) (k := n - l) (o := o + l * es) ha
      rw [cap_near a (by omega)] at hr
      exact hk _ hr
  | _ => cases t <;> simp only at h <;> cases h

noncomputable def xCopy (P : Program) (st : St) (t : TypeId) (d x : Value) : Option (Value × St) :=
  match P.underlying t with
  | some (.slice e) => match P.info? e, d with
    | some i, .slice base n _ => match xSrc st i.size (min (lenV x) n) x with
      | some cs => match base with
        | none => some (.int .i64 (min (lenV x) n : Nat), st)
        | some ⟨b, o, none⟩ => match writeC st b o cs with
          | some st' => some (.int .i64 (min (lenV x) n : Nat), st')
          | none => none
        | _ => none
      | none => none
    | _, _ => none
  | _ => none

theorem xCopy_ok {P : Program} {m : Ren} {st st' : St} {w : World} (hs : Sim m st w) {t : TypeId} {d x d' x' v : Value} {K : Value → World → Prop} (hd : VR m d d') (hx : VR m x x')
    (h : xCopy P st t d x = some (v, st')) (hk : Out m st' v K) : vCopy P t d' x' w K := by
  unfold xCopy at h
  unfold vCopy
  split at h <;> try (cases h; done)
  rename_i e he
  split at h <;> try (cases h; done)
  rename_i i base n cap hi
  split at h <;> try (cases h; done)
  rename_i cs hsrc
  have hlx := hx.len
  cases hd with
  | edge ha => simp at h
  | snil =>
    cases h
    simp only [he, hi, ← hlx]
    refine xSrc_ok hs hx hsrc fun l' hl => ?_
    exact hk m _ _ (Ren.le.refl m) (.int _ _) hs
  | sl ha =>
    simp only at h
    split at h <;> try (cases h; done)
    rename_i st1 hw
    cases h
    simp only [he, hi, ← hlx]
    refine xSrc_ok hs hx hsrc fun l' hl => ?_
    unfold stMaybe
    simp only [addr0]
    exact write_ok hs ha hl hw fun w' hs' => hk m _ _ (Ren.le.refl m) (.int _ _) hs'

end Go.X

/-
  THE EXECUTOR, part 7: maps whose keys are integers; bytes and texts; pointers compared. Own work; generic in the program.
-/
set_option linter.unusedVariables false
set_option maxRecDepth 20000
namespace Go.X
open Go Go.V Go.RowKit

theorem KRs.get_none {m : Ren} {n : Int} : ∀ {r s : List (Int × Value)}, KRs m r s → getI n r = none → getI n s = none
  | _, _, .nil, _ => rfl
  | _, _, .cons hx hs, h => by
    unfold getI at h ⊢
    split at h
    · cases h
    · rename_i e; rw [if_neg e]; exact KRs.get_none hs h

theorem KRs.get_some {m : Ren} {n : Int} {v : Value} : ∀ {r s : List (Int × Value)}, KRs m r s → getI n r = some v → ∃ v', getI n s = some v' ∧ VR m v v'
  | _, _, .nil, h => by cases h
  | _, _, .cons hx hs, h => by
    unfold getI at h ⊢
    split at h
    · rename_i e
      cases h
      rw [if_pos e]
      exact ⟨_, rfl, hx⟩
    · rename_i e
      rw [if_neg e]
      exact KRs.get_some hs h

theorem KRs.set {m : Ren} {n : Int} {v v' : Value} (hv : VR m v v') : ∀ {r s : List (Int × Value)}, KRs m r s → KRs m (setI n v r) (setI n v' s)
  | _, _, .nil => .cons hv .nil
  | _, _, .cons hx hs => by
    unfold setI
    split
    · exact .cons hv hs
    · exact .cons hx (KRs.set hv hs)

theorem KRs.del {m : Ren} {n : Int} : ∀ {r s : List (Int × Value)}, KRs m r s → KRs m (delI n r) (delI n s)
  | _, _, .nil => .nil
  | _, _, .cons hx hs => by
    unfold delI
    split
    · exact hs
    · exact .cons hx (KRs.del hs)

theorem keys_perm {r s : List (Int × Value)} (h : r.Perm s) (hn : (s.map (·.1)).Nodup) : (r.map (·.1)).Nodup := (h.map (·.1)).nodup_iff.2 hn

theorem getI_mem {n : Int} {v : Value} : ∀ {r : List (Int × Value)}, (r.map (·.1)).Nodup → (getI n r = some v ↔ (n, v) ∈ r)
  | [], _ => by simp [getI]
  | (k, u) :: r, h => by
    simp only [List.map_cons, List.nodup_cons] at h
    have ih := getI_mem (n := n) (v := v) h.2
    unfold getI
    by_cases e : n = k
    · subst e
      rw [if_pos rfl]
      constructor
      · intro h1; cases h1; exact List.mem_cons_self
      · intro h1
        rcases List.mem_cons.1 h1 with h1 | h1
        · cases h1; rfl
        · exact absurd (List.mem_map_of_mem (f := (·.1)) h1) h.1
    · rw [if_neg e, ih]
      constructor
      · exact List.mem_cons_of_mem _
      · intro h1
        rcases List.mem_cons.1 h1 with h1 | h1
        · cases h1; exact absurd rfl e
        · exact h1

theorem getI_perm {n : Int} {r s : List (Int × Value)} (h : r.Perm s) (hn : (s.map (·.1)).Nodup) : getI n r = getI n s := by
  have hr := keys_perm h hn
  cases hg : getI n s with
  | some v => exact (getI_mem hr).2 (h.mem_iff.2 ((getI_mem hn).1 hg))
  | none =>
    cases hg' : getI n r with
    | none => rfl
    | some v =>
      have := (getI_mem hn).2 (h.mem_iff.1 ((getI_mem hr).1 hg'))
      rw [hg] at this
      cases this

theorem setI_perm {n : Int} {x : Value} {r s : List (Int × Value)} (h : r.Perm s) : (s.map (·.1)).Nodup → (setI n x r).Perm (setI n x s) := by
  induction h with
  | nil => intro _; exact List.Perm.refl _
  | @cons p l1 l2 h ih =>
    intro hn
    simp only [List.map_cons, List.nodup_cons] at hn
    obtain ⟨k, v⟩ := p
    unfold setI
    split
    · exact h.cons _
    · exact (ih hn.2).cons _
  | swap p q l =>
    intro hn
    obtain ⟨k, v⟩ := p
    obtain ⟨k', v'⟩ := q
    simp only [List.map_cons, List.nodup_cons, List.mem_cons, not_or] at hn
    simp only [setI]
    by_cases e : n = k
    · subst e
      rw [if_pos rfl]
      have hne : ¬ (n = k') := hn.1.1
      rw [if_neg hne, if_pos rfl]
      exact List.Perm.swap _ _ _
    · rw [if_neg e]
      by_cases e2 : n = k'
      · rw [if_pos e2, if_neg e, if_pos e2]
        exact List.Perm.swap _ _ _
      · rw [if_neg e2, if_neg e, if_neg e2]
        exact List.Perm.swap _ _ _
  | trans h1 h2 ih1 ih2 =>
    intro hn
    exact (ih1 (keys_perm h2 hn)).trans (ih2 hn)

theorem delI_perm {n : Int} {r s : List (Int × Value)} (h : r.Perm s) : (s.map (·.1)).Nodup → (delI n r).Perm (delI n s) := by
  induction h with
  | nil => intro _; exact List.Perm.refl _
  | @cons p l1 l2 h ih =>
    intro hn
    simp only [List.map_cons, List.nodup_cons] at hn
    obtain ⟨k, v⟩ := p
    unfold delI
    split
    · exact h
    · exact (ih hn.2).cons _
  | swap p q l =>
    intro hn
    obtain ⟨k, v⟩ := p
    obtain ⟨k', v'⟩ := q
    simp only [List.map_cons, List.nodup_cons, List.mem_cons, not_or] at hn
    simp only [delI]
    by_cases e : n = k
    · subst e
      rw [if_pos rfl]
      have hne : ¬ (n = k') := hn.1.1
      rw [if_neg hne, if_pos rfl]
    · rw [if_neg e]
      by_cases e2 : n = k'
      · rw [if_pos e2, if_neg e, if_pos e2]
      · rw [if_neg e2, if_neg e, if_neg e2]
        exact List.Perm.swap _ _ _
  | trans h1 h2 ih1 ih2 =>
    intro hn
    exact (ih1 (keys_perm h2 hn)).trans (ih2 hn)

theorem KRs.length {m : Ren} : ∀ {r s : List (Int × Value)}, KRs m r s → r.length = s.length
  | _, _, .nil => rfl
  | _, _, .cons hx hs => by simp [KRs.length hs]

def closedZ (v : Value) : Bool :=
  match v with
  | .agg cs => cs.toList.all closedV
  | v => closedV v

theorem closedZ_ok {v : Value} (h : closedZ v = true) : plainR v := by
  unfold closedZ at h
  split at h
  · rename_i cs
    intro m
    obtain ⟨l⟩ := cs
    exact .agg (closed_all h)
  · exact closedV_ok h

def intKey (P : Program) (kt : TypeId) (kd : IntKind) : Bool :=
  match P.underlying kt with
  | some (.int k) => decide (k = kd)
  | _ => false

theorem intKey_ok {P : Program} {kt : TypeId} {kd : IntKind} (h : intKey P kt kd = true) : P.underlying kt = some (.int kd) := by
  unfold intKey at h
  split at h
  · rename_i k e
    rw [e, of_decide_eq_true h]
  · cases h

noncomputable def mapOf (st : St) (b : Nat) (kd : IntKind) : Option (List (Int × Value)) :=
  match st.heap.get b with
  | some (.mapI k ks _ _) => if k = kd then some ks else none
  | _ => none

noncomputable def clkOf (st : St) (b : Nat) : Nat :=
  match st.heap.get b with
  | some (.mapI _ _ cl _) => cl
  | _ => 0

theorem mapOf_ok {m : Ren} {st : St} {w : World} (hs : Sim m st w) {b : Nat} {a : At} {kd : IntKind} {ks : List (Int × Value)} (ha : m b = some a) (h : mapOf st b kd = some ks) :
    ∃ cl last, st.heap.get b = some (.mapI kd ks cl last) ∧ ∃ es ks' kp, w.heap[a.blk]? = some (.map es cl) ∧ MapI kd es cl ks' ∧ kp.Perm ks' ∧ KRs m ks kp := by
  unfold mapOf at h
  split at h <;> try (cases h; done)
  rename_i k ks0 cl last hb
  split at h <;> try (cases h; done)
  rename_i e
  cases h
  subst e
  refine ⟨cl, last, hb, ?_⟩
  obtain ⟨a', o, h1, h2, h3⟩ := hs.obj b _ hb (by intro e; cases e)
  rw [ha] at h1
  cases h1
  unfold ObjR at h3
  split at h3
  · rename_i e; cases e
  · rename_i es c kd' ks' cl' last' e
    cases e
    obtain ⟨⟨ks2, kp, g1, g2, g3⟩, rfl, _⟩ := h3
    exact ⟨es, ks2, kp, h2, g1, g2, g3⟩
  · rename_i e; cases e
  · rename_i e; cases e
  · rename_i e; cases e
  · rename_i e; cases e
  · rename_i e; cases e
  · rename_i e; cases e
  · exact h3.elim

noncomputable def xLook (P : Program) (st : St) (t : TypeId) (x k : Value) (ok : Bool) : Option Value :=
  match P.underlying t, x, k with
  | some (.map kt et), .map (some b), .int kd n => if intKey P kt kd = true then match mapOf st b kd with
    | some ks => match getI n ks with
      | some v => some (if ok then .tuple #[v, .bool true] else v)
      | none => match (P.info? et).bind (·.zero) with
        | some z => if closedZ z = true then some (if ok then .tuple #[z, .bool false] else z) else none
        | none => none
    | none => none else none
  | _, _, _ => none

theorem xLook_ok {P : Program} {m : Ren} {st : St} {w : World} (hs : Sim m st w) {t : TypeId} {x k x' k' v : Value} {ok : Bool} {K : Value → Prop} (hx : VR m x x') (hkk : VR m k k')
    (h : xLook P st t x k ok = some v) (hk : ∀ v', VR m v v' → K v') : vLookup P t x' k' ok w K := by
  unfold xLook at h
  split at h <;> try (cases h; done)
  rename_i kt et b kd n ht
  cases hkk
  cases hx
  rename_i a ha
  split at h <;> try (cases h; done)
  rename_i hkey
  split at h <;> try (cases h; done)
  rename_i ks hm
  obtain ⟨cl, last, hb, es, ks', kp, h1, h2, hp, h3⟩ := mapOf_ok hs ha hm
  unfold vLookup
  simp only [ht]
  refine ⟨intKey_ok hkey, ?_⟩
  simp only [h1]
  refine ⟨ks', h2, ?_⟩
  split at h
  · rename_i u hu
    cases h
    obtain ⟨u', g1, g2⟩ := h3.get_some hu
    rw [getI_perm hp h2.keys] at g1
    simp only [g1]
    cases ok
    · exact hk _ g2
    · exact hk _ (.tup (.cons g2 (.cons (.bool _) .nil)))
  · rename_i hu
    have g1 := h3.get_none hu
    rw [getI_perm hp h2.keys] at g1
    simp only [g1]
    unfold zeroK
    split at h <;> try (cases h; done)
    rename_i z hz
    split at h <;> try (cases h; done)
    rename_i hc
    cases h
    simp only [hz]
    cases ok
    · exact hk _ (closedZ_ok hc m)
    · exact hk _ (.tup (.cons (closedZ_ok hc m) (.cons (.bool _) .nil)))

noncomputable def xUpd (P : Program) (st : St) (t : TypeId) (x k v : Value) : Option St :=
  match P.underlying t, x, k with
  | some (.map kt _), .map (some b), .int kd n => if intKey P kt kd = true then match mapOf st b kd with
    | some ks => some (st.put b (.mapI kd (setI n v ks) (if (getI n ks).isSome then clkOf st b else clkOf st b + 1) none))
    | none => none else none
  | _, _, _ => none

theorem xUpd_ok {P : Program} {m : Ren} {st st' : St} {w : World} (hs : Sim m st w) {t : TypeId} {x k v x' k' v' : Value} {K : World → Prop} (hx : VR m x x') (hkk : VR m k k') (hv : VR m v v')
    (h : xUpd P st t x k v = some st') (hk : ∀ w', Sim m st' w' → K w') : vMapUpd P t x' k' v' w K := by
  unfold xUpd at h
  split at h <;> try (cases h; done)
  rename_i kt et b kd n ht
  cases hkk
  cases hx
  rename_i a ha
  split at h <;> try (cases h; done)
  rename_i hkey
  split at h <;> try (cases h; done)
  rename_i ks hm
  cases h
  obtain ⟨cl, last, hb, es, ks', kp, h1, h2, hp, h3⟩ := mapOf_ok hs ha hm
  unfold vMapUpd
  simp only [ht]
  refine ⟨intKey_ok hkey, ?_⟩
  simp only [h1]
  refine ⟨ks', h2, fun es' c' hcl hm' => hk _ (hs.put hb (by intro e; cases e) ha ?_)⟩
  refine ⟨⟨_, _, hm', setI_perm hp h2.keys, h3.set hv⟩, ?_, fun key bn e => by cases e⟩
  have e1 : clkOf st b = cl := by unfold clkOf; rw [hb]
  have e2 : (getI n ks).isSome = (getI n ks').isSome := by
    rw [← getI_perm hp h2.keys]
    cases hg : getI n ks with
    | none => rw [h3.get_none hg]
    | some u => obtain ⟨u', g1, _⟩ := h3.get_some hg; rw [g1]; rfl
  rw [hcl, e1, e2]

noncomputable def xDel (P : Program) (st : St) (t : TypeId) (x k : Value) : Option St :=
  match P.underlying t, x, k with
  | some (.map kt _), .map (some b), .int kd n => if intKey P kt kd = true then match mapOf st b kd with
    | some ks => some (st.put b (.mapI kd (delI n ks) (clkOf st b) none))
    | none => none else none
  | _, _, _ => none

theorem xDel_ok {P : Program} {m : Ren} {st st' : St} {w : World} (hs : Sim m st w) {t : TypeId} {x k x' k' : Value} {K : Value → World → Prop} (hx : VR m x x') (hkk : VR m k k')
    (h : xDel P st t x k = some st') (hk : Out m st' (.tuple #[]) K) : vDel P t x' k' w K := by
  unfold xDel at h
  split at h <;> try (cases h; done)
  rename_i kt et b kd n ht
  cases hkk
  cases hx
  rename_i a ha
  split at h <;> try (cases h; done)
  rename_i hkey
  split at h <;> try (cases h; done)
  rename_i ks hm
  cases h
  obtain ⟨cl, last, hb, es, ks', kp, h1, h2, hp, h3⟩ := mapOf_ok hs ha hm
  unfold vDel
  simp only [ht]
  refine ⟨intKey_ok hkey, ?_⟩
  simp only [h1]
  refine ⟨ks', h2, fun es' hm' => hk m _ _ (Ren.le.refl m) (.tup .nil) (hs.put hb (by intro e; cases e) ha ?_)⟩
  exact ⟨⟨_, _, hm', delI_perm hp h2.keys, h3.del⟩, by unfold clkOf; rw [hb], fun key bn e => by cases e⟩

noncomputable def xLenM (st : St) (x : Value) : Option Value :=
  match x with
  | .map none => some (.int .i64 0)
  | .map (some b) => match st.heap.get b with
    | some (.mapI kd ks _ _) => some (.int .i64 ks.length)
    | _ => none
  | _ => none

theorem xLenM_ok {m : Ren} {st : St} {w : World} (hs : Sim m st w) {x x' v : Value} {K : Value → World → Prop} (hx : VR m x x') (h : xLenM st x = some v) (hk : Out m st v K) : vLenM x' w K := by
  unfold xLenM at h
  unfold vLenM
  cases hx <;> simp only at h ⊢ <;> try (cases h; done)
  · cases h
    exact hk m _ _ (Ren.le.refl m) (.int _ _) hs
  · rename_i b a ha
    split at h <;> try (cases h; done)
    rename_i kd ks _ _ hb
    cases h
    obtain ⟨cl, last, _, es, ks', kp, h1, h2, hp, h3⟩ := mapOf_ok (kd := kd) (ks := ks) hs ha (by unfold mapOf; rw [hb]; simp)
    simp only [h1]
    rw [h2.size, ← hp.length_eq, ← h3.length]
    exact hk m _ _ (Ren.le.refl m) (.int _ _) hs

noncomputable def xMap (st : St) (kd : IntKind) : Value × St := (.map (some st.next), st.new (.mapI kd [] 0 none))

theorem xMap_ok {m : Ren} {st : St} {w : World} (hs : Sim m st w) (kd : IntKind) {K : Value → World → Prop} (hk : Out m (xMap st kd).2 (xMap st kd).1 K) : K (.map (some w.heap.size)) (w.alloc (.map #[] 0)) := by
  obtain ⟨h1, h2⟩ := hs.new (o := .map #[] 0) (k := .mapI kd [] 0 none) (off := 0) (extra := 0) ⟨⟨[], [], MapI.nil kd, List.Perm.refl _, .nil⟩, rfl, fun key bn e => by cases e⟩
  have e : (m.add st.next ⟨w.heap.size, 0, 0⟩) st.next = some ⟨w.heap.size, 0, 0⟩ := Ren.add_same _ _ _
  exact hk _ _ _ h1 (VR.map e) h2

noncomputable def plainX (st : St) (b : Nat) : Bool :=
  match st.heap.get b with
  | some (.cells ⟨true, _, _, _⟩ _ _) => true
  | _ => false

theorem plainX_ok {m : Ren} {st : St} {w : World} (hs : Sim m st w) {b : Nat} {a : At} (ha : m b = some a) (h : plainX st b = true) : plainB w a.blk ∧ ∃ k, st.heap.get b = some k ∧ k ≠ .dead := by
  unfold plainX at h
  split at h
  · rename_i es cs hb
    obtain ⟨c, T, fr, hc, _, _, _, hp⟩ := hs.cells hb ha
    rw [hp.p rfl] at hc
    exact ⟨⟨c, T, hc⟩, _, hb, by intro e; cases e⟩
  · cases h

noncomputable def xPtr (st : St) (op : BinOp) (x y : Value) : Option Value :=
  match x, y with
  | .pointer (some ⟨b, o, none⟩), .pointer (some ⟨b', o', none⟩) => bif Nat.beq b b' then xEqB op (Nat.beq o o') else bif plainX st b && plainX st b' then xEqB op false else none
  | .pointer none, .pointer b => xEqB op b.isNone
  | .pointer (some _), .pointer none => xEqB op false
  | _, _ => none

theorem xPtr_ok {m : Ren} {st : St} {w : World} (hs : Sim m st w) {op : BinOp} {x y x' y' v : Value} {K : Value → Prop} (hx : VR m x x') (hy : VR m y y') (h : xPtr st op x y = some v) (hk : plainR v → K v) : vPtr op x' y' w K := by
  unfold xPtr at h
  unfold vPtr
  cases hx <;> cases hy <;> simp only at h ⊢ <;> first
    | (cases h; done)
    | exact xEqB_ok h hk
    | skip
  rename_i b o a ha b' o' a' ha'
  cases hb : Nat.beq b b' with
  | true =>
    rw [hb, cond_true] at h
    have e := Nat.eq_of_beq_eq_true hb
    subst e
    rw [ha] at ha'
    cases ha'
    refine ⟨fun _ => ?_, fun e => absurd rfl e⟩
    have : ((⟨a.blk, a.off + o, none⟩ : Addr) == ⟨a.blk, a.off + o', none⟩) = Nat.beq o o' := by
      cases ho : Nat.beq o o' with
      | true =>
        have e := Nat.eq_of_beq_eq_true ho
        subst e
        simp
      | false =>
        have : ¬ o = o' := fun e => by rw [e, Nat.beq_refl] at ho; cases ho
        rw [beq_eq_false_iff_ne]
        intro e
        injection e with e1 e2
        omega
    rw [this]
    exact xEqB_ok h hk
  | false =>
    rw [hb, cond_false] at h
    cases hp : (plainX st b && plainX st b') with
    | false => rw [hp, cond_false] at h; cases h
    | true =>
      rw [hp, cond_true] at h
      simp only [Bool.and_eq_true] at hp
      obtain ⟨p1, k1, g1, d1⟩ := plainX_ok hs ha hp.1
      obtain ⟨p2, k2, g2, d2⟩ := plainX_ok hs ha' hp.2
      refine ⟨fun e => ?_, fun _ => ⟨p1, p2, xEqB_ok h hk⟩⟩
      have := hs.inj b b' k1 k2 a a' g1 d1 g2 d2 ha ha' e
      rw [this, Nat.beq_refl] at hb
      cases hb

end Go.X

/-
  THE EXECUTOR, part 8: bytes and texts, structs, operands. Own work; generic in the program.
-/
set_option linter.unusedVariables false
set_option maxRecDepth 20000
namespace Go.X
open Go Go.V Go.RowKit

noncomputable def xS2B (st : St) (x : Value) : Option (Value × St) :=
  match x with
  | .string s => some (.slice (some ⟨st.next, 0, none⟩) s.data.toList.length (far + s.data.toList.length), st.new (.cells ⟨false, none, true, false⟩ 1 (bytesV s.data.toList)))
  | _ => none

theorem xS2B_ok {m : Ren} {st st' : St} {w : World} (hs : Sim m st w) {e : TypeId} {x x' v : Value} {K : Value → World → Prop} (hx : VR m x x') (h : xS2B st x = some (v, st')) (hk : Out m st' v K) : vS2B e x' w K := by
  unfold xS2B at h
  unfold vS2B
  cases hx <;> simp only at h ⊢ <;> try (cases h; done)
  rename_i s
  cases h
  intro c hc
  have hsz : s.data.toList.length = s.size := by rw [Array.length_toList]; rfl
  have hbl : (bytesV s.data.toList).length = s.size := by unfold bytesV; rw [List.length_map, hsz]
  obtain ⟨h1, h2⟩ := hs.drew.new (o := .cells (bytesV s.data.toList ++ List.replicate (c - s.size) (Value.int .u8 0)).toArray e (c, c + 1)) (k := .cells ⟨false, none, true, false⟩ 1 (bytesV s.data.toList)) (off := 0) (extra := c - s.size) (by
    unfold ObjR
    refine ⟨fun i v hi => ?_, ?_, .inr ?_, ⟨fun e => (by cases e), fun t e => (by cases e), fun _ => rfl, fun e => (by cases e)⟩⟩
    · have hlt := (List.getElem?_eq_some_iff.1 hi).1
      refine ⟨v, by rw [List.getElem?_toArray, Nat.zero_add, List.getElem?_append_left hlt]; exact hi, ?_⟩
      unfold bytesV at hi
      rw [List.getElem?_map] at hi
      obtain ⟨b, _, rfl⟩ := Option.map_eq_some_iff.1 hi
      exact .int _ _
    · simp [hbl]
    · simp [hbl]; omega)
  have he : (m.add st.next ⟨w.heap.size, 0, c - s.size⟩) st.next = some ⟨w.heap.size, 0, c - s.size⟩ := Ren.add_same _ _ _
  have hr := VR.sl (n := s.data.toList.length) (k := far + s.data.toList.length) (o := 0) he
  rw [cap_far, hsz] at hr
  have e1 : s.size + (c - s.size) = c := by omega
  simp only [e1] at hr
  rw [← hsz] at hr
  have := hk _ _ _ h1 hr h2
  rw [hsz] at this
  exact this

def bytesOf : List Value → Option (List UInt8)
  | [] => some []
  | v :: r => match v with
    | .int .u8 z => if 0 ≤ z then if z < 256 then match bytesOf r with
      | some l => some (UInt8.ofNat z.toNat :: l)
      | none => none else none else none
    | _ => none

theorem bytesOf_ok {m : Ren} : ∀ {l l' : List Value} {bs : List UInt8}, VRs m l l' → bytesOf l = some bs → l' = bs.map fun b => .int .u8 b.toNat
  | _, _, bs, .nil, h => by cases h; rfl
  | _, _, bs, .cons hx hs, h => by
    unfold bytesOf at h
    split at h <;> try (cases h; done)
    rename_i z
    cases hx
    split at h <;> try (cases h; done)
    rename_i h0
    split at h <;> try (cases h; done)
    rename_i h1
    split at h <;> try (cases h; done)
    rename_i l hl
    cases h
    rw [List.map_cons, bytesOf_ok hs hl]
    congr 2
    have : (UInt8.ofNat z.toNat).toNat = z.toNat := by
      rw [UInt8.toNat_ofNat']
      omega
    rw [this]
    omega

noncomputable def xB2S (st : St) (x : Value) : Option Value :=
  match x with
  | .slice none _ _ => some (.string ⟨#[]⟩)
  | .slice (some ⟨b, o, none⟩) n _ => match readC st b o n with
    | some l => match bytesOf l with
      | some bs => some (.string ⟨⟨bs⟩⟩)
      | none => none
    | none => none
  | _ => none

theorem xB2S_ok {m : Ren} {st : St} {w : World} (hs : Sim m st w) {x x' v : Value} {K : Value → Prop} (hx : VR m x x') (h : xB2S st x = some v) (hk : plainR v → K v) : vB2S x' w K := by
  unfold xB2S at h
  unfold vB2S
  cases hx <;> simp only at h ⊢ <;> try (cases h; done)
  · cases h
    exact hk fun m => .str _
  · rename_i b o n k a ha
    split at h <;> try (cases h; done)
    rename_i l hl
    split at h <;> try (cases h; done)
    rename_i bs hb
    cases h
    obtain ⟨l', g1, g2, g3⟩ := read_ok hs ha hl
    have e := bytesOf_ok g1 hb
    refine ⟨bs, by rw [← g2, e, List.length_map], fun j y hj => g3 j _ (by rw [e, List.getElem?_map, hj]; rfl), hk fun m => .str _⟩

noncomputable def xBuild (P : Program) (t : TypeId) (parts : List (Nat × Value)) : Option Value :=
  match zc P t with
  | some z => match buildOK P t z.size with
    | true => if z.toList.all closedV = true then match xFill (fieldPlaces P t) z.toList parts with
      | some cs => some (.agg ⟨cs⟩)
      | none => none else none
    | false => none
  | none => none

theorem xBuild_ok {P : Program} {m : Ren} {t : TypeId} {ps ps' : List (Nat × Value)} {v : Value} {K : Value → Prop} (hp : PRs m ps ps') (h : xBuild P t ps = some v) (hk : ∀ v', VR m v v' → K v') : vBuild P t ps' K := by
  unfold xBuild at h
  unfold vBuild
  split at h <;> try (cases h; done)
  rename_i z hz
  split at h <;> try (cases h; done)
  rename_i hb
  split at h <;> try (cases h; done)
  rename_i hc
  split at h <;> try (cases h; done)
  rename_i cs hf
  cases h
  simp only [hz, hb]
  exact xFill_ok hp (closed_all (m := m) hc) hf fun out ho => hk _ (.agg ho)

theorem closed_eq {m : Ren} {x y : Value} (h : VR m x y) (hc : closedV x = true) : y = x := by
  cases h <;> first | rfl | (simp [closedV] at hc)

theorem closeds_eq {m : Ren} : ∀ {l l' : List Value}, VRs m l l' → l.all closedV = true → l' = l
  | _, _, .nil, _ => rfl
  | _, _, .cons hx hs, h => by
    simp only [List.all_cons, Bool.and_eq_true] at h
    rw [closed_eq hx h.1, closeds_eq hs h.2]

noncomputable def xToU (st : St) (x : Value) : Option Value :=
  match x with
  | .pointer (some ⟨b, o, none⟩) => match st.heap.get b with
    | some (.cells _ _ cs) => if o < cs.length then some (.pointer (some ⟨b, o, none⟩)) else none
    | _ => none
  | _ => none

theorem xToU_ok {m : Ren} {st : St} {w : World} (hs : Sim m st w) {x x' v : Value} {K : Value → Prop} (hx : VR m x x') (h : xToU st x = some v) (hk : ∀ v', VR m v v' → K v') : vToU x' w K := by
  unfold xToU at h
  split at h <;> try (cases h; done)
  rename_i b o
  split at h <;> try (cases h; done)
  rename_i pl es cs hb
  split at h <;> try (cases h; done)
  rename_i hlt
  cases h
  cases hx with
  | ptr ha =>
    rename_i a
    obtain ⟨c, T, fr, hc, hg, hz, hf, hp⟩ := hs.cells hb ha
    unfold vToU
    simp only [hc]
    exact ⟨by omega, hk _ (.ptr ha)⟩

noncomputable def xFromU (P : Program) (st : St) (u : TypeId) (x : Value) : Option Value :=
  match x with
  | .pointer (some ⟨b, o, none⟩) => match st.heap.get b with
    | some (.cells ⟨_, some T, true, true⟩ _ cs) => if liesAt P P.depth T (cs.length / P.cellsOf T) o u 1 = true then some (.pointer (some ⟨b, o, none⟩)) else none
    | _ => none
  | _ => none

theorem xFromU_ok {P : Program} {m : Ren} {st : St} {w : World} (hs : Sim m st w) {u : TypeId} {x x' v : Value} {K : Value → Prop} (hx : VR m x x') (h : xFromU P st u x = some v) (hk : ∀ v', VR m v v' → K v') : vFromU P u x' w K := by
  unfold xFromU at h
  split at h <;> try (cases h; done)
  rename_i b o
  split at h <;> try (cases h; done)
  rename_i p0 T es cs hb
  split at h <;> try (cases h; done)
  rename_i hl
  cases h
  cases hx with
  | ptr ha =>
    rename_i a
    obtain ⟨c, T', fr, hc, hg, hz, hf, hp⟩ := hs.cells hb ha
    have e1 := hp.t T rfl
    have e2 := hp.z rfl
    have e3 := hp.x rfl
    subst e1
    unfold vFromU
    simp only [hc]
    rw [e2, Nat.zero_add] at e3
    refine ⟨?_, hk _ (.ptr ha)⟩
    rw [e3, e2, Nat.zero_add]
    exact hl

noncomputable def xConvW (P : Program) (st : St) (k : CV) (d : TK) (x : Value) : Option (Value × St) :=
  match k with
  | .pure => match xConv d x with
    | some v => some (v, st)
    | none => none
  | .s2b e => xS2B st x
  | .b2s => match xB2S st x with
    | some v => some (v, st)
    | none => none
  | .toU => match xToU st x with
    | some v => some (v, st)
    | none => none
  | .fromU u => match xFromU P st u x with
    | some v => some (v, st)
    | none => none
  | _ => none

theorem xConvW_ok {P : Program} {m : Ren} {st st' : St} {w : World} (hs : Sim m st w) {k : CV} {d : TK} {x x' v : Value} {K : Value → World → Prop} (hx : VR m x x') (h : xConvW P st k d x = some (v, st')) (hk : Out m st' v K) : vConvW P k d x' w K := by
  unfold xConvW at h
  unfold vConvW
  cases k <;> simp only at h ⊢ <;> try (cases h; done)
  · split at h <;> try (cases h; done)
    rename_i u hu
    cases h
    exact xConv_ok hx hu fun hp => hk m _ _ (Ren.le.refl m) (hp m) hs
  · exact xS2B_ok hs hx h hk
  · split at h <;> try (cases h; done)
    rename_i u hu
    cases h
    exact xB2S_ok hs hx hu fun hp => hk m _ _ (Ren.le.refl m) (hp m) hs
  · split at h <;> try (cases h; done)
    rename_i u hu
    cases h
    exact xToU_ok (K := fun v => K v w) hs hx hu fun v' hv => hk m _ _ (Ren.le.refl m) hv hs
  · split at h <;> try (cases h; done)
    rename_i u hu
    cases h
    exact xFromU_ok (K := fun v => K v w) hs hx hu fun v' hv => hk m _ _ (Ren.le.refl m) hv hs

def xMin (x : Value) : List Value → Option Value
  | [] => some x
  | y :: r => match x, y with
    | .int k a, .int _ b => xMin (.int k (if b < a then b else a)) r
    | _, _ => none

theorem xMin_ok {m : Ren} {K : Value → Prop} : ∀ {r r' : List Value} {x x' v : Value}, VR m x x' → VRs m r r' → xMin x r = some v → (∀ v', VR m v v' → K v') → vMin x' r' K
  | _, _, x, x', v, hx, .nil, h, hk => by cases h; exact hk _ hx
  | _, _, x, x', v, hx, .cons hy hs, h, hk => by
    unfold xMin at h
    unfold vMin
    split at h <;> try (cases h; done)
    cases hx; cases hy
    exact xMin_ok (.int _ _) hs h hk

def xMax (x : Value) : List Value → Option Value
  | [] => some x
  | y :: r => match x, y with
    | .int k a, .int _ b => xMax (.int k (if b > a then b else a)) r
    | _, _ => none

theorem xMax_ok {m : Ren} {K : Value → Prop} : ∀ {r r' : List Value} {x x' v : Value}, VR m x x' → VRs m r r' → xMax x r = some v → (∀ v', VR m v v' → K v') → vMax x' r' K
  | _, _, x, x', v, hx, .nil, h, hk => by cases h; exact hk _ hx
  | _, _, x, x', v, hx, .cons hy hs, h, hk => by
    unfold xMax at h
    unfold vMax
    split at h <;> try (cases h; done)
    cases hx; cases hy
    exact xMax_ok (.int _ _) hs h hk

def xNil (x : Value) : Option Value :=
  match x with
  | .pointer (some a) => some (.pointer (some a))
  | .iface t v => some (.iface t v)
  | .func (.func f) a b => some (.func (.func f) a b)
  | .func (.yield l) a b => some (.func (.yield l) a b)
  | _ => none

theorem xNil_ok {P : Program} {m : Ren} {x x' v : Value} {K : Value → Prop} (hx : VR m x x') (h : xNil x = some v) (hk : ∀ v', VR m v v' → K v') : vNilP P x' K := by
  unfold xNil at h
  unfold vNilP
  cases hx <;> simp only [vNil] at h ⊢ <;> first
    | (cases h; done)
    | (cases h; exact hk _ (by constructor <;> assumption))

abbrev Ev := List (Nat × Value)

def getE : Ev → Nat → Option Value
  | [], _ => none
  | (d, v) :: r, i => bif Nat.beq i d then some v else getE r i

def ER (m : Ren) (e : Ev) (ρ : Env) : Prop := ∀ i v, getE e i = some v → VR m v (ρ i)

def putE (e : Ev) (d : Option Nat) (v : Value) : Ev :=
  match d with
  | none => e
  | some d => (d, v) :: e

theorem ER.put {m : Ren} {e : Ev} {ρ : Env} (h : ER m e ρ) {v v' : Value} (hv : VR m v v') (d : Option Nat) : ER m (putE e d v) (V.put ρ d v') := by
  cases d with
  | none => exact h
  | some d =>
    intro i u hu
    unfold putE getE at hu
    unfold V.put
    simp only at hu ⊢
    cases hb : Nat.beq i d
    · rw [hb] at hu
      exact h i u hu
    · rw [hb] at hu
      cases hu
      exact hv

theorem ER.up {m m' : Ren} (hm : m.le m') {e : Ev} {ρ : Env} (h : ER m e ρ) : ER m' e ρ := fun i v hv => (h i v hv).up hm

def closedC (v : Value) : Bool :=
  match v with
  | .agg cs => cs.toList.all closedV
  | .tuple cs => cs.toList.all closedV
  | v => closedV v

theorem closedC_ok {v : Value} (h : closedC v = true) : plainR v := by
  unfold closedC at h
  split at h
  · rename_i cs
    intro m
    obtain ⟨l⟩ := cs
    exact .agg (closed_all h)
  · rename_i cs
    intro m
    obtain ⟨l⟩ := cs
    exact .tup (closed_all h)
  · exact closedV_ok h

def Glob (N : Nat) (m : Ren) : Prop := ∀ g, g < N → m g = some ⟨g, 0, 0⟩

theorem Glob.up {N : Nat} {m m' : Ren} (hm : m.le m') (h : Glob N m) : Glob N m' := fun g hg => hm.at_ _ _ (h g hg)

def evX (N : Nat) (e : Ev) (x : Operand) : Option Value :=
  match x with
  | .tmp t => getE e t
  | .const v => bif closedC v then some v else none
  | .global g => bif Nat.blt g N then some (.pointer (some ⟨g, 0, none⟩)) else none
  | .func f => some (.func (.func f) #[] #[])

theorem evX_ok {N : Nat} {m : Ren} {e : Ev} {ρ : Env} (he : ER m e ρ) (hg : Glob N m) {x : Operand} {v : Value} (h : evX N e x = some v) : VR m v (ev ρ x) := by
  unfold evX at h
  unfold V.ev
  cases x with
  | tmp t => exact he t v h
  | const v =>
    simp only at h ⊢
    cases hc : closedC v with
    | false => rw [hc, cond_false] at h; cases h
    | true => rw [hc, cond_true] at h; cases h; exact closedC_ok hc m
  | global g =>
    simp only at h ⊢
    cases hb : Nat.blt g N with
    | false => rw [hb, cond_false] at h; cases h
    | true =>
      rw [hb, cond_true] at h
      cases h
      rw [Nat.blt_eq] at hb
      have := VR.ptr (o := 0) (hg g hb)
      simpa using this
  | func f => cases h; exact .fn .nil .nil

end Go.X

/-
  THE EXECUTOR, part 9: the operations. Own work; generic in the program.
-/
set_option linter.unusedVariables false
set_option maxRecDepth 20000
namespace Go.X
open Go Go.V Go.RowKit

def evs (N : Nat) (e : Ev) : List Operand → Option (List Value)
  | [] => some []
  | x :: r => match evX N e x, evs N e r with
    | some v, some l => some (v :: l)
    | _, _ => none

theorem evs_ok {N : Nat} {m : Ren} {e : Ev} {ρ : Env} (he : ER m e ρ) (hg : Glob N m) : ∀ {l : List Operand} {vs : List Value}, evs N e l = some vs → VRs m vs (l.map (ev ρ))
  | [], vs, h => by cases h; exact .nil
  | x :: r, vs, h => by
    unfold evs at h
    split at h <;> try (cases h; done)
    rename_i v l h1 h2
    cases h
    exact .cons (evX_ok he hg h1) (evs_ok he hg h2)

def evps (N : Nat) (e : Ev) : List (Nat × Operand) → Option (List (Nat × Value))
  | [] => some []
  | (i, x) :: r => match evX N e x, evps N e r with
    | some v, some l => some ((i, v) :: l)
    | _, _ => none

theorem evps_ok {N : Nat} {m : Ren} {e : Ev} {ρ : Env} (he : ER m e ρ) (hg : Glob N m) : ∀ {l : List (Nat × Operand)} {vs : List (Nat × Value)}, evps N e l = some vs → PRs m vs (l.map fun (i, x) => (i, ev ρ x))
  | [], vs, h => by cases h; exact .nil
  | (i, x) :: r, vs, h => by
    unfold evps at h
    split at h <;> try (cases h; done)
    rename_i v l h1 h2
    cases h
    exact .cons (evX_ok he hg h1) (evps_ok he hg h2)

def evo (N : Nat) (e : Ev) : Option Operand → Option (Option Value)
  | none => some none
  | some x => match evX N e x with
    | some v => some (some v)
    | none => none

theorem evo_ok {N : Nat} {m : Ren} {e : Ev} {ρ : Env} (he : ER m e ρ) (hg : Glob N m) {x : Option Operand} {v : Option Value} (h : evo N e x = some v) : VRo m v (x.map (ev ρ)) := by
  unfold evo at h
  split at h
  · cases h; exact .none
  · split at h <;> try (cases h; done)
    rename_i u hu
    cases h
    exact .some (evX_ok he hg hu)

def xSlice3 (t : TK) (x : Value) (lo hi mx : Option Value) : Option Value :=
  match t, x with
  | .slice es, .slice (some ⟨b, o, none⟩) len cap => match xBnd mx 0 (capK cap) with
    | some k => match xBnd hi 0 k with
      | some h => match xBnd lo 0 h with
        | some l => if k < far then if k = l then some (.slice (some ⟨b, o, none⟩) (h - l) 0) else some (.slice (some ⟨b, o + l * es, none⟩) (h - l) (k - l)) else none
        | none => none
      | none => none
    | none => none
  | _, _ => none

theorem xSlice3_ok {m : Ren} {t : TK} {x x' v hi hi' mx mx' : Value} {lo lo' : Option Value} {K : Value → Prop} (hx : VR m x x') (hlo : VRo m lo lo') (hhi : VR m hi hi') (hmx : VR m mx mx')
    (h : xSlice3 t x lo (some hi) (some mx) = some v) (hk : ∀ v', VR m v v' → K v') : vSlice3 t x' lo' hi' mx' K := by
  unfold xSlice3 at h
  unfold vSlice3
  cases hx <;> cases t <;> simp only at h ⊢ <;> try (cases h; done)
  rename_i b o n cap a ha es
  split at h <;> try (cases h; done)
  rename_i k e1
  split at h <;> try (cases h; done)
  rename_i hh e2
  split at h <;> try (cases h; done)
  rename_i l e3
  split at h <;> try (cases h; done)
  rename_i hf
  have e1' : ∀ d, xBnd (some mx) d (capK cap) = some k := fun d => by rw [← e1]; cases mx <;> rfl
  have e2' : ∀ d, xBnd (some hi) d k = some hh := fun d => by rw [← e2]; cases hi <;> rfl
  refine xBnd_ok (.some hmx) (capK_le a cap) (e1' _) fun _ _ => xBnd_ok (.some hhi) (Nat.le_refl _) (e2' _) fun _ g2 => xBnd_ok hlo (Nat.le_refl _) e3 fun g3 g4 => ?_
  have hlh : l ≤ hh := by
    by_cases e : lo = none
    · rw [g3 e]; exact Nat.zero_le _
    · exact g4 e
  have hhk : hh ≤ k := g2 (by simp)
  split at h
  · rename_i e4
    cases h
    rw [if_pos e4]
    have e5 : k - l = 0 := by omega
    rw [e5]
    have hr := VR.sl (n := hh - l) (k := 0) (o := o) ha
    rw [cap_near a (by unfold far; decide)] at hr
    exact hk _ hr
  · rename_i e4
    cases h
    rw [if_neg e4]
    simp only [Option.map_some, add_off]
    rw [Nat.add_assoc]
    have hr := VR.sl (n := hh - l) (k := k - l) (o := o + l * es) ha
    rw [cap_near a (Nat.lt_of_le_of_lt (Nat.sub_le _ _) hf)] at hr
    exact hk _ hr

noncomputable def xPure (P : Program) (N : Nat) (e : Ev) (op : Op) : Option Value :=
  match op with
  | .move x => evX N e x
  | .assign x => evX N e x
  | .pick c a b => match evX N e c with
    | some (.bool t) => bif t then evX N e a else evX N e b
    | _ => none
  | .nilCheck x => match evX N e x with
    | some v => xNil v
    | none => none
  | .unOp op _ x => match evX N e x with
    | some v => xUn op v
    | none => none
  | .makeInterface t x => match evX N e x with
    | some v => xIface (conc P t) t v
    | none => none
  | .makeFunc fn first cap => match fn, evs N e first.toList, evs N e cap.toList with
    | .func g, some a, some b => some (.func (.func g) ⟨a⟩ ⟨b⟩)
    | _, _, _ => none
  | .slice t x lo hi none => match evX N e x, evo N e lo, evo N e hi with
    | some v, some a, some b => xSlice (tk P t) v a b
    | _, _, _ => none
  | .slice t x lo (some hi) (some mx) => match evX N e x, evo N e lo, evX N e hi, evX N e mx with
    | some v, some a, some b, some c => xSlice3 (tk P t) v a (some b) (some c)
    | _, _, _, _ => none
  | .fieldAddr s x f => match evX N e x with
    | some v => xFA (fa P s f) v
    | none => none
  | .field s x f => match evX N e x with
    | some v => xField (fv P s f) v
    | none => none
  | .indexAddr t x i => match evX N e x, evX N e i with
    | some v, some k => xIA (tk P t) v k
    | _, _ => none
  | .index t x i => match evX N e x, evX N e i with
    | some v, some k => xIx (tk P t) ((V.elemOf P t).elim .bad (ldk P)) v k
    | _, _ => none
  | .extract x i => match evX N e x with
    | some v => xExt v i
    | none => none
  | .build t parts => match evps N e parts.toList with
    | some ps => xBuild P t ps
    | none => none
  | _ => none

theorem vr_bool {m : Ren} {t : Bool} {y : Value} (h : VR m (.bool t) y) : y = .bool t := by
  cases h
  rfl

theorem xPure_ok {P : Program} {N : Nat} {m : Ren} {e : Ev} {ρ : Env} (he : ER m e ρ) (hg : Glob N m) {op : Op} {v : Value} {K : Value → Prop} (h : xPure P N e op = some v) (hk : ∀ v', VR m v v' → K v') : pureOp P op ρ K := by
  unfold xPure at h
  unfold pureOp
  split at h
  · exact hk _ (evX_ok he hg h)
  · exact hk _ (evX_ok he hg h)
  · split at h <;> try (cases h; done)
    rename_i t hc
    have e1 := vr_bool (evX_ok he hg hc)
    simp only
    rw [e1]
    show K _
    cases t
    · exact hk _ (evX_ok he hg h)
    · exact hk _ (evX_ok he hg h)
  · split at h <;> try (cases h; done)
    rename_i x u hu
    exact xNil_ok (evX_ok he hg hu) h hk
  · split at h <;> try (cases h; done)
    rename_i op' t x u hu
    exact xUn_ok (evX_ok he hg hu) h fun hp => hk _ (hp m)
  · split at h <;> try (cases h; done)
    rename_i t x u hu
    exact xIface_ok (evX_ok he hg hu) h hk
  · split at h <;> try (cases h; done)
    rename_i g a b ha hb
    cases h
    have h1 := evs_ok he hg ha
    have h2 := evs_ok he hg hb
    exact hk _ (.fn h1 h2)
  · split at h <;> try (cases h; done)
    rename_i u a b hu ha hb
    exact xSlice_ok (evX_ok he hg hu) (evo_ok he hg ha) (evo_ok he hg hb) h hk
  · split at h <;> try (cases h; done)
    rename_i u a b c hu ha hb hc
    exact xSlice3_ok (evX_ok he hg hu) (evo_ok he hg ha) (evX_ok he hg hb) (evX_ok he hg hc) h hk
  · split at h <;> try (cases h; done)
    rename_i u hu
    exact xFA_ok (evX_ok he hg hu) h hk
  · split at h <;> try (cases h; done)
    rename_i u hu
    exact xField_ok (evX_ok he hg hu) h hk
  · split at h <;> try (cases h; done)
    rename_i u k hu hk'
    exact xIA_ok (evX_ok he hg hu) (evX_ok he hg hk') h hk
  · split at h <;> try (cases h; done)
    rename_i u k hu hk'
    exact xIx_ok (evX_ok he hg hu) (evX_ok he hg hk') h hk
  · split at h <;> try (cases h; done)
    rename_i u hu
    exact xExt_ok (evX_ok he hg hu) h hk
  · split at h <;> try (cases h; done)
    rename_i ps hps
    exact xBuild_ok (evps_ok he hg hps) h hk
  · cases h

end Go.X
