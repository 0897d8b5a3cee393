/-
  THE EXECUTOR, part 2: its memory, and what it says of a world. Own work; generic in the program.
-/
import Derived.Test.YtdkklhnleppfcaaGreatSg07
set_option linter.unusedVariables false
set_option linter.unusedSimpArgs false

set_option linter.unusedVariables false
namespace Go.X
open Go Go.V Go.RowKit

inductive Tr (α : Type) where
  | leaf
  | node (l : Tr α) (v : Option α) (r : Tr α)

section
variable {α : Type}

noncomputable def Tr.get (t : Tr α) : Nat → Option α :=
  Tr.rec (motive := fun _ => Nat → Option α) (fun _ => none)
    (fun _ v _ il ir k => Nat.rec (motive := fun _ => Option α) v (fun k' _ => bif Nat.beq (Nat.land k' 1) 0 then il (Nat.div k' 2) else ir (Nat.div k' 2)) k) t

noncomputable def Tr.one (x : α) (d : Nat) : Nat → Tr α :=
  Nat.rec (motive := fun _ => Nat → Tr α) (fun _ => .node .leaf (some x) .leaf)
    (fun _ ih k => Nat.rec (motive := fun _ => Tr α) (.node .leaf (some x) .leaf) (fun k' _ => bif Nat.beq (Nat.land k' 1) 0 then .node (ih (Nat.div k' 2)) none .leaf else .node .leaf none (ih (Nat.div k' 2))) k) d

noncomputable def Tr.set (x : α) (t : Tr α) : Nat → Tr α :=
  Tr.rec (motive := fun _ => Nat → Tr α) (fun k => Tr.one x k k)
    (fun l v r il ir k => Nat.rec (motive := fun _ => Tr α) (.node l (some x) r) (fun k' _ => bif Nat.beq (Nat.land k' 1) 0 then .node (il (Nat.div k' 2)) v r else .node l v (ir (Nat.div k' 2))) k) t

def odd (k : Nat) : Bool := !(Nat.beq (Nat.land k 1) 0)

theorem odd_eq (k : Nat) : odd k = (k % 2 == 1) := by
  unfold odd
  have h : Nat.land k 1 = k % 2 := Nat.and_one_is_mod k
  rw [h]
  have := Nat.mod_two_eq_zero_or_one k
  rcases this with e | e <;> rw [e] <;> rfl

theorem get_leaf (k : Nat) : (Tr.leaf : Tr α).get k = none := rfl
theorem get_zero (l r : Tr α) (v : Option α) : (Tr.node l v r).get 0 = v := rfl
theorem get_succ (l r : Tr α) (v : Option α) (k : Nat) : (Tr.node l v r).get (k + 1) = if odd k then r.get (k / 2) else l.get (k / 2) := by
  show (bif Nat.beq (Nat.land k 1) 0 then l.get (k / 2) else r.get (k / 2)) = _
  unfold odd
  cases Nat.beq (Nat.land k 1) 0 <;> rfl
theorem set_leaf (x : α) (k : Nat) : (Tr.leaf : Tr α).set x k = Tr.one x k k := rfl
theorem set_zero (x : α) (l r : Tr α) (v : Option α) : (Tr.node l v r).set x 0 = .node l (some x) r := rfl
theorem set_succ (x : α) (l r : Tr α) (v : Option α) (k : Nat) : (Tr.node l v r).set x (k + 1) = if odd k then .node l v (r.set x (k / 2)) else .node (l.set x (k / 2)) v r := by
  show (bif Nat.beq (Nat.land k 1) 0 then _ else _) = _
  unfold odd
  cases Nat.beq (Nat.land k 1) 0 <;> rfl
theorem one_zero (x : α) (d : Nat) : Tr.one x d 0 = .node .leaf (some x) .leaf := by cases d <;> rfl
theorem one_succ (x : α) (d k : Nat) : Tr.one x (d + 1) (k + 1) = if odd k then .node .leaf none (Tr.one x d (k / 2)) else .node (Tr.one x d (k / 2)) none .leaf := by
  show (bif Nat.beq (Nat.land k 1) 0 then _ else _) = _
  unfold odd
  cases Nat.beq (Nat.land k 1) 0 <;> rfl

theorem half_inj {j k : Nat} (h : odd j = odd k) : (j / 2 = k / 2) = (j + 1 = k + 1) := by
  rw [odd_eq, odd_eq] at h
  have h1 := Nat.mod_two_eq_zero_or_one j
  have h2 := Nat.mod_two_eq_zero_or_one k
  apply propext
  constructor
  · intro e
    have : j % 2 = k % 2 := by
      rcases h1 with h1 | h1 <;> rcases h2 with h2 | h2 <;> rw [h1, h2] at h ⊢ <;> simp at h
    omega
  · intro e
    omega

theorem get_one (x : α) : ∀ (d k j : Nat), k ≤ d → (Tr.one x d k).get j = if j = k then some x else none
  | d, 0, j, _ => by
    rw [one_zero]
    cases j with
    | zero => rfl
    | succ j => rw [get_succ]; simp [get_leaf]
  | 0, k + 1, j, h => by omega
  | d + 1, k + 1, j, h => by
    rw [one_succ]
    cases j with
    | zero =>
      have : ¬ (0 = k + 1) := by omega
      rw [if_neg this]
      split <;> rfl
    | succ j =>
      have ih := get_one x d (k / 2) (j / 2) (by omega)
      by_cases hk : odd k = true
      · rw [if_pos hk, get_succ]
        by_cases hj : odd j = true
        · rw [if_pos hj, ih]
          simp only [half_inj (show odd j = odd k by rw [hj, hk])]
        · rw [if_neg hj, get_leaf, if_neg]
          intro e
          have : j = k := by omega
          rw [this] at hj
          exact hj hk
      · rw [if_neg hk, get_succ]
        by_cases hj : odd j = true
        · rw [if_pos hj, get_leaf, if_neg]
          intro e
          have : j = k := by omega
          rw [this] at hj
          exact hk hj
        · rw [if_neg hj, ih]
          simp only [half_inj (show odd j = odd k by simp only [Bool.not_eq_true] at hj hk; rw [hj, hk])]

theorem get_set (x : α) (t : Tr α) : ∀ (k j : Nat), (t.set x k).get j = if j = k then some x else t.get j := by
  induction t with
  | leaf =>
    intro k j
    rw [set_leaf, get_one x k k j (Nat.le_refl _)]
    rfl
  | node l v r ihl ihr =>
    intro k j
    cases k with
    | zero =>
      rw [set_zero]
      cases j with
      | zero => rfl
      | succ j =>
        have e : ¬ (j + 1 = 0) := by omega
        rw [get_succ, get_succ, if_neg e]
    | succ k =>
      rw [set_succ]
      cases j with
      | zero =>
        have e : ¬ (0 = k + 1) := by omega
        rw [if_neg e]
        split <;> rfl
      | succ j =>
        by_cases hk : odd k = true
        · rw [if_pos hk, get_succ, get_succ]
          by_cases hj : odd j = true
          · rw [if_pos hj, if_pos hj, ihr]
            simp only [half_inj (show odd j = odd k by rw [hj, hk])]
          · rw [if_neg hj, if_neg hj, if_neg]
            intro e
            have : j = k := by omega
            rw [this] at hj
            exact hj hk
        · rw [if_neg hk, get_succ, get_succ]
          by_cases hj : odd j = true
          · rw [if_pos hj, if_pos hj, if_neg]
            intro e
            have : j = k := by omega
            rw [this] at hj
            exact hk hj
          · rw [if_neg hj, if_neg hj, ihl]
            simp only [half_inj (show odd j = odd k by simp only [Bool.not_eq_true] at hj hk; rw [hj, hk])]
end

structure Pl where
  plain : Bool
  ty : Option TypeId
  /-- it begins where its block begins -/
  z : Bool
  /-- its block has no more cells than these -/
  ex : Bool

structure PlOK (pl : Pl) (T : TypeId) (fr : Nat × Nat) (off size len : Nat) : Prop where
  p : pl.plain = true → fr = (0, 0)
  t : ∀ t, pl.ty = some t → T = t
  z : pl.z = true → off = 0
  x : pl.ex = true → size = off + len

inductive Blk where
  /-- cells, es for each element; plain: nothing of them was ever frozen -/
  | cells (pl : Pl) (es : Nat) (cs : List Value)
  /-- of a map: its entries, in whatever order; its clock; an entry that is open -/
  | mapI (kd : IntKind) (ks : List (Int × Value)) (cl : Nat) (last : Option (Int × Nat))
  | defer
  /-- a loop over a function -/
  | loop (st : LoopState) (pe : Option Code)
  /-- a text, or a map, that is gone over -/
  | sIter (s : ByteArray) (pos : Nat)
  | mIter (b : Nat)
  | mIterN
  /-- nothing is said of it any more -/
  | dead

inductive KRs (m : Ren) : List (Int × Value) → List (Int × Value) → Prop
  | nil : KRs m [] []
  | cons {n : Int} {x y : Value} {r s : List (Int × Value)} (h : VR m x y) (hs : KRs m r s) : KRs m ((n, x) :: r) ((n, y) :: s)

theorem KRs.imp {m m' : Ren} (h : ∀ b a, m b = some a → m' b = some a) : ∀ {r s : List (Int × Value)}, KRs m r s → KRs m' r s
  | _, _, .nil => .nil
  | _, _, .cons hx hs => .cons (hx.imp h) (KRs.imp h hs)

def ObjR (m : Ren) (a : At) : Obj → Blk → Prop
  | .cells c T fr, .cells pl es cs => (∀ (i : Nat) v, cs[i]? = some v → ∃ v', c[a.off + i]? = some v' ∧ VR m v v') ∧ a.off + cs.length + a.extra * es ≤ c.size ∧ (fr.1 = fr.2 ∨ c.size ≤ fr.1) ∧ PlOK pl T fr a.off c.size cs.length
  | .map es clock, .mapI kd ks cl last => (∃ ks' kp, MapI kd es clock ks' ∧ kp.Perm ks' ∧ KRs m ks kp) ∧ cl = clock ∧ ∀ key bn, last = some (key, bn) → ∃ e ∈ es.toList, e.key = .int kd key ∧ e.born = bn
  | .deferred (some []), .defer => True
  | .loop r, .loop st pe => ∃ r0, m.lp a.blk = some r0 ∧ r = { r0 with state := st, pending := pe }
  | .stringIter s p, .sIter s' p' => s = s' ∧ p = p' ∧ a.off = 0
  | .mapIter (some c) _ _ _, .mIter b => (∃ a', m b = some a' ∧ a'.blk = c) ∧ a.off = 0
  | .mapIter none _ _ _, .mIterN => a.off = 0
  | _, .dead => True
  | _, _ => False

theorem ObjR.imp {m m' : Ren} (h : ∀ b a, m b = some a → m' b = some a) (hl : ∀ c r, m.lp c = some r → m'.lp c = some r) {a : At} {o : Obj} {k : Blk} (hr : ObjR m a o k) : ObjR m' a o k := by
  unfold ObjR at hr ⊢
  split at hr
  · obtain ⟨h1, h2⟩ := hr
    exact ⟨fun i v hv => let ⟨v', e, hvr⟩ := h1 i v hv; ⟨v', e, hvr.imp h⟩, h2⟩
  · obtain ⟨⟨ks', kp, h1, h2, h3⟩, h4⟩ := hr
    exact ⟨⟨ks', kp, h1, h2, h3.imp h⟩, h4⟩
  · trivial
  · obtain ⟨r0, h1, h2⟩ := hr
    exact ⟨r0, hl _ _ h1, h2⟩
  · exact hr
  · obtain ⟨⟨a', h1, h2⟩, h3⟩ := hr
    exact ⟨⟨a', h _ _ h1, h2⟩, h3⟩
  · exact hr
  · trivial
  · exact hr.elim

theorem ObjR.up {m m' : Ren} (h : m.le m') {a : At} {o : Obj} {k : Blk} (hr : ObjR m a o k) : ObjR m' a o k := hr.imp h.at_ h.lp

structure St where
  heap : Tr Blk
  next : Nat

structure Sim (m : Ren) (s : St) (w : World) : Prop where
  obj : ∀ b k, s.heap.get b = some k → k ≠ .dead → ∃ a o, m b = some a ∧ w.heap[a.blk]? = some o ∧ ObjR m a o k
  inj : ∀ b b' k k' a a', s.heap.get b = some k → k ≠ .dead → s.heap.get b' = some k' → k' ≠ .dead → m b = some a → m b' = some a' → a.blk = a'.blk → b = b'
  fresh : ∀ b, s.next ≤ b → m b = none ∧ s.heap.get b = none
  lt : ∀ b a, m b = some a → a.blk < w.heap.size
  fr : Fr m.F m.w0 w
  own : ∀ b k a, s.heap.get b = some k → k ≠ .dead → m b = some a → m.F a.blk ∨ m.w0.heap.size ≤ a.blk
  res : ∀ b, m.R b → m b = none ∧ b < s.next
  lpl : ∀ c r, m.lp c = some r → c < w.heap.size

theorem Sim.drew {m : Ren} {s : St} {w : World} (h : Sim m s w) : Sim m s w.drew := ⟨h.obj, h.inj, h.fresh, h.lt, h.fr.drew, h.own, h.res, h.lpl⟩

def Ren.add (m : Ren) (b : Nat) (a : At) : Ren := ⟨fun x => if x = b then some a else m x, m.w0, m.F, m.R, m.lp⟩

def Ren.addL (m : Ren) (b : Nat) (a : At) (lp : Nat → Option Loop) : Ren := ⟨fun x => if x = b then some a else m x, m.w0, m.F, m.R, lp⟩

theorem Ren.addL_le {m : Ren} {b : Nat} {a : At} {lp : Nat → Option Loop} (h : m b = none) (hl : ∀ c r, m.lp c = some r → lp c = some r) : m.le (m.addL b a lp) := by
  refine ⟨fun x y hx => ?_, rfl, rfl, rfl, hl⟩
  have e : x ≠ b := fun e => by rw [e, h] at hx; cases hx
  show (if x = b then some a else m x) = some y
  rw [if_neg e]
  exact hx

theorem Ren.add_same (m : Ren) (b : Nat) (a : At) : m.add b a b = some a := if_pos rfl
theorem Ren.add_ne (m : Ren) {b x : Nat} (a : At) (h : x ≠ b) : m.add b a x = m x := if_neg h

theorem Ren.add_le {m : Ren} {b : Nat} {a : At} (h : m b = none) : m.le (m.add b a) := by
  refine ⟨fun x y hx => ?_, rfl, rfl, rfl, fun _ _ h => h⟩
  by_cases e : x = b
  · rw [e, h] at hx
    cases hx
  · rw [Ren.add_ne m a e]
    exact hx

noncomputable def St.new (s : St) (k : Blk) : St := ⟨s.heap.set k s.next, s.next + 1⟩
noncomputable def St.put (s : St) (b : Nat) (k : Blk) : St := ⟨s.heap.set k b, s.next⟩

theorem Sim.newG {m : Ren} {s : St} {w : World} (h : Sim m s w) {o : Obj} {k : Blk} {off extra : Nat} {lp : Nat → Option Loop} (hlp : ∀ c r, m.lp c = some r → lp c = some r) (hlt : ∀ c r, lp c = some r → c < w.heap.size + 1)
    (hr : ObjR (m.addL s.next ⟨w.heap.size, off, extra⟩ lp) ⟨w.heap.size, off, extra⟩ o k) :
    m.le (m.addL s.next ⟨w.heap.size, off, extra⟩ lp) ∧ Sim (m.addL s.next ⟨w.heap.size, off, extra⟩ lp) (s.new k) (w.alloc o) := by
  have hn := h.fresh s.next (Nat.le_refl _)
  have hle : m.le (m.addL s.next ⟨w.heap.size, off, extra⟩ lp) := Ren.addL_le hn.1 hlp
  have hsz : (w.alloc o).heap.size = w.heap.size + 1 := by show (w.heap.push o).size = _; simp
  have hold : ∀ i, i < w.heap.size → (w.alloc o).heap[i]? = w.heap[i]? := fun i hi => by
    show (w.heap.push o)[i]? = _
    rw [Array.getElem?_push, if_neg (Nat.ne_of_lt hi)]
  have hnew : (w.alloc o).heap[w.heap.size]? = some o := by
    show (w.heap.push o)[w.heap.size]? = _
    rw [Array.getElem?_push, if_pos rfl]
  have hm : ∀ b, b ≠ s.next → m.addL s.next ⟨w.heap.size, off, extra⟩ lp b = m b := fun b hb => if_neg hb
  have hm0 : m.addL s.next ⟨w.heap.size, off, extra⟩ lp s.next = some ⟨w.heap.size, off, extra⟩ := if_pos rfl
  refine ⟨hle, ⟨?_, ?_, ?_, ?_, h.fr.alloc o, ?_, fun b hb => ?_, fun c r hc => by rw [hsz]; exact hlt c r hc⟩⟩
  · intro b k' hb hd
    unfold St.new at hb
    simp only [get_set] at hb
    split at hb
    · rename_i e
      cases hb
      subst e
      exact ⟨_, o, hm0, hnew, hr⟩
    · rename_i e
      obtain ⟨a, o', h1, h2, h3⟩ := h.obj b k' hb hd
      exact ⟨a, o', by rw [hm b e]; exact h1, by rw [hold _ (h.lt b a h1)]; exact h2, h3.up hle⟩
  · intro b b' k1 k2 a a' hb hd hb' hd' ha ha' e
    unfold St.new at hb hb'
    simp only [get_set] at hb hb'
    by_cases e1 : b = s.next
    · by_cases e2 : b' = s.next
      · rw [e1, e2]
      · exfalso
        rw [e1, hm0] at ha
        rw [hm b' e2] at ha'
        have := h.lt b' a' ha'
        cases ha
        simp only at e
        omega
    · by_cases e2 : b' = s.next
      · exfalso
        rw [e2, hm0] at ha'
        rw [hm b e1] at ha
        have := h.lt b a ha
        cases ha'
        simp only at e
        omega
      · rw [if_neg e1] at hb
        rw [if_neg e2] at hb'
        rw [hm b e1] at ha
        rw [hm b' e2] at ha'
        exact h.inj b b' k1 k2 a a' hb hd hb' hd' ha ha' e
  · intro b hb
    have hb1 : s.next + 1 ≤ b := hb
    have hf := h.fresh b (by omega)
    refine ⟨by rw [hm b (by omega)]; exact hf.1, ?_⟩
    show (s.heap.set k s.next).get b = none
    rw [get_set, if_neg (by omega)]
    exact hf.2
  · intro b a ha
    rw [hsz]
    by_cases e : b = s.next
    · rw [e, hm0] at ha
      cases ha
      exact Nat.lt_succ_self _
    · rw [hm b e] at ha
      have := h.lt b a ha
      omega
  · intro b k' a hb hd ha
    show m.F a.blk ∨ m.w0.heap.size ≤ a.blk
    by_cases e : b = s.next
    · rw [e, hm0] at ha
      cases ha
      exact .inr h.fr.size
    · rw [hm b e] at ha
      unfold St.new at hb
      simp only [get_set] at hb
      rw [if_neg e] at hb
      exact h.own b k' a hb hd ha
  · obtain ⟨h1, h2⟩ := h.res b hb
    exact ⟨by rw [hm b (Nat.ne_of_lt h2)]; exact h1, Nat.lt_succ_of_lt h2⟩

theorem Sim.new {m : Ren} {s : St} {w : World} (h : Sim m s w) {o : Obj} {k : Blk} {off extra : Nat}
    (hr : ObjR (m.add s.next ⟨w.heap.size, off, extra⟩) ⟨w.heap.size, off, extra⟩ o k) :
    m.le (m.add s.next ⟨w.heap.size, off, extra⟩) ∧ Sim (m.add s.next ⟨w.heap.size, off, extra⟩) (s.new k) (w.alloc o) :=
  h.newG (lp := m.lp) (fun _ _ h => h) (fun c r hc => Nat.lt_succ_of_lt (h.lpl c r hc)) hr

theorem Sim.put {m : Ren} {s : St} {w : World} (h : Sim m s w) {b : Nat} {k k' : Blk} {a : At} {o' : Obj} (hb : s.heap.get b = some k) (hd : k ≠ .dead) (ha : m b = some a) (hr : ObjR m a o' k') :
    Sim m (s.put b k') (w.putObj a.blk o') := by
  have hlt := h.lt b a ha
  refine ⟨?_, ?_, ?_, ?_, h.fr.put o' (fun hl => (h.own b k a hb hd ha).resolve_right (Nat.not_le.2 hl)), ?_, h.res, fun c r hc => by simpa [World.putObj] using h.lpl c r hc⟩
  · intro c kc hc hdc
    unfold St.put at hc
    simp only [get_set] at hc
    split at hc
    · rename_i e
      cases hc
      subst e
      exact ⟨a, o', ha, by simp [World.putObj, hlt], hr⟩
    · rename_i e
      obtain ⟨a2, o2, h1, h2, h3⟩ := h.obj c kc hc hdc
      refine ⟨a2, o2, h1, ?_, h3⟩
      have hne : a2.blk ≠ a.blk := fun e2 => e (h.inj c b kc k a2 a hc hdc hb hd h1 ha e2)
      simp only [World.putObj, Array.getElem?_setIfInBounds]
      rw [if_neg (fun e2 => hne e2.symm)]
      exact h2
  · intro c c' kc kc' a1 a2 hc hdc hc' hdc' h1 h2 e
    have key : ∀ x kx, (s.put b k').heap.get x = some kx → kx ≠ .dead → ∃ ky, s.heap.get x = some ky ∧ ky ≠ .dead := by
      intro x kx hx hdx
      unfold St.put at hx
      simp only [get_set] at hx
      split at hx
      · rename_i e; rw [e]; exact ⟨k, hb, hd⟩
      · exact ⟨kx, hx, hdx⟩
    obtain ⟨k1, g1, d1⟩ := key c kc hc hdc
    obtain ⟨k2, g2, d2⟩ := key c' kc' hc' hdc'
    exact h.inj c c' k1 k2 a1 a2 g1 d1 g2 d2 h1 h2 e
  · intro c hc
    have hf := h.fresh c hc
    refine ⟨hf.1, ?_⟩
    show (s.heap.set k' b).get c = none
    rw [get_set, if_neg]
    · exact hf.2
    · intro e
      rw [e, hb] at hf
      exact absurd hf.2 (by simp)
  · intro c a2 h2
    have := h.lt c a2 h2
    simpa [World.putObj] using this
  · intro c kc a2 hc hdc h2
    unfold St.put at hc
    simp only [get_set] at hc
    split at hc
    · rename_i e
      subst e
      exact h.own c k a2 hb hd h2
    · exact h.own c kc a2 hc hdc h2

end Go.X

/-
  THE EXECUTOR, part 3: reading, writing and making rows of cells. Own work; generic in the program.
-/
set_option linter.unusedVariables false
namespace Go.X
open Go Go.V Go.RowKit

theorem VR.one {m : Ren} {x y : Value} (h : VR m x y) : x.oneCell' = y.oneCell' := by
  cases h <;> rfl

theorem VRs.one {m : Ren} : ∀ {xs ys : List Value}, VRs m xs ys → (∀ x ∈ xs, x.oneCell' = true) → ∀ y ∈ ys, y.oneCell' = true
  | _, _, .nil, _, y, hy => by cases hy
  | _, _, .cons hx hs, h, y, hy => by
    rcases List.mem_cons.1 hy with rfl | hy
    · rw [← hx.one]; exact h _ (List.mem_cons_self)
    · exact VRs.one hs (fun x hx => h x (List.mem_cons_of_mem _ hx)) y hy

theorem VRs.of_get {m : Ren} : ∀ {xs ys : List Value}, xs.length = ys.length → (∀ (i : Nat) x, xs[i]? = some x → ∃ y, ys[i]? = some y ∧ VR m x y) → VRs m xs ys
  | [], [], _, _ => .nil
  | [], _ :: _, h, _ => by simp at h
  | _ :: _, [], h, _ => by simp at h
  | x :: xs, y :: ys, hl, h => by
    obtain ⟨y', e, hr⟩ := h 0 x rfl
    simp only [List.getElem?_cons_zero, Option.some.injEq] at e
    subst e
    exact .cons hr (VRs.of_get (by simpa using hl) fun i z hz => by
      obtain ⟨u, hu, hv⟩ := h (i + 1) z (by simpa using hz)
      exact ⟨u, by simpa using hu, hv⟩)

theorem spl_get {z cs : List Value} {o : Nat} (h : o + cs.length ≤ z.length) (i : Nat) : (spl z o cs)[i]? = if i < o then z[i]? else if i < o + cs.length then cs[i - o]? else z[i]? := by
  unfold V.spl
  have h0 : (z.take o).length = o := by rw [List.length_take]; omega
  rw [List.append_assoc, List.getElem?_append, h0]
  split
  · rename_i hi
    rw [List.getElem?_take_of_lt hi]
  · rename_i hi
    rw [List.getElem?_append]
    split
    · rename_i h1
      rw [if_pos (by omega)]
    · rename_i h1
      rw [if_neg (by omega), List.getElem?_drop]
      congr 1
      omega

noncomputable def readC (st : St) (b o n : Nat) : Option (List Value) :=
  match st.heap.get b with
  | some (.cells _ _ cs) => if o + n ≤ cs.length then some ((cs.drop o).take n) else none
  | _ => none

theorem Sim.cells {m : Ren} {st : St} {w : World} (hs : Sim m st w) {b es : Nat} {pl : Pl} {cs : List Value} (hb : st.heap.get b = some (.cells pl es cs)) {a : At} (ha : m b = some a) :
    ∃ c T fr, w.heap[a.blk]? = some (.cells c T fr) ∧ (∀ (i : Nat) v, cs[i]? = some v → ∃ v', c[a.off + i]? = some v' ∧ VR m v v') ∧ a.off + cs.length + a.extra * es ≤ c.size ∧ (fr.1 = fr.2 ∨ c.size ≤ fr.1) ∧ PlOK pl T fr a.off c.size cs.length := by
  obtain ⟨a', o, h1, h2, h3⟩ := hs.obj b _ hb (by intro e; cases e)
  rw [ha] at h1
  cases h1
  unfold ObjR at h3
  split at h3
  · rename_i c T fr pl' es' cs' e
    cases e
    exact ⟨c, T, fr, h2, h3⟩
  · rename_i e; cases e
  · rename_i e; cases e
  · rename_i e; cases e
  · rename_i e; cases e
  · rename_i e; cases e
  · rename_i e; cases e
  · rename_i e; cases e
  · exact h3.elim

theorem read_ok {m : Ren} {st : St} {w : World} (hs : Sim m st w) {b o n : Nat} {a : At} (ha : m b = some a) {l : List Value} (h : readC st b o n = some l) :
    ∃ l', VRs m l l' ∧ l'.length = n ∧ ∀ (j : Nat) v, l'[j]? = some v → w.cell? ((⟨a.blk, a.off + o, none⟩ : Addr).add j) = some v := by
  unfold readC at h
  split at h <;> try (cases h; done)
  rename_i pl es cs hb
  split at h <;> try (cases h; done)
  rename_i hle
  cases h
  obtain ⟨c, T, fr, hc, hg, hz, _⟩ := hs.cells hb ha
  have hcs : c.toList.length = c.size := by simp
  have hlen : ((c.toList.drop (a.off + o)).take n).length = n := by
    rw [List.length_take, List.length_drop, hcs]
    have : a.off + (o + n) ≤ c.size := by omega
    omega
  refine ⟨(c.toList.drop (a.off + o)).take n, VRs.of_get ?_ ?_, hlen, ?_⟩
  · rw [hlen, List.length_take, List.length_drop]; omega
  · intro i x hx
    have hi : i < n := by
      have := (List.getElem?_eq_some_iff.1 hx).1
      rw [List.length_take] at this
      omega
    rw [List.getElem?_take_of_lt hi, List.getElem?_drop] at hx
    obtain ⟨v', e, hr⟩ := hg (o + i) x hx
    refine ⟨v', ?_, hr⟩
    rw [List.getElem?_take_of_lt hi, List.getElem?_drop, Array.getElem?_toList, Nat.add_assoc]
    exact e
  · intro j v hj
    have hi : j < n := by
      have := (List.getElem?_eq_some_iff.1 hj).1
      rw [hlen] at this
      exact this
    rw [List.getElem?_take_of_lt hi, List.getElem?_drop, Array.getElem?_toList] at hj
    rw [add_off, getD_cell hc]
    exact hj

noncomputable def xLd (st : St) (d : LD) (x : Value) : Option Value :=
  match d, x with
  | .one, .pointer (some ⟨b, o, none⟩) => match readC st b o 1 with
    | some [v] => some v
    | _ => none
  | .agg n, .pointer (some ⟨b, o, none⟩) => match readC st b o n with
    | some l => some (.agg ⟨l⟩)
    | none => none
  | _, _ => none

theorem xLd_ok {m : Ren} {st : St} {w : World} (hs : Sim m st w) {d : LD} {x x' v : Value} {K : Value → Prop} (hx : VR m x x') (h : xLd st d x = some v) (hk : ∀ v', VR m v v' → K v') : vLd d x' w K := by
  unfold xLd at h
  unfold vLd
  cases hx <;> cases d <;> simp only at h ⊢ <;> try (cases h; done)
  · rename_i b o a ha
    split at h <;> try (cases h; done)
    rename_i u hr
    cases h
    obtain ⟨l', h1, h2, h3⟩ := read_ok hs ha hr
    cases h1
    rename_i y ys hy hys
    cases hys
    have := h3 0 y rfl
    rw [add_off, Nat.add_zero] at this
    unfold ld1
    rw [this]
    exact hk _ hy
  · rename_i b o a ha n
    split at h <;> try (cases h; done)
    rename_i l hr
    cases h
    obtain ⟨l', h1, h2, h3⟩ := read_ok hs ha hr
    exact ⟨l', h2, h3, hk _ (.agg h1)⟩

noncomputable def writeC (st : St) (b o : Nat) (vs : List Value) : Option St :=
  match st.heap.get b with
  | some (.cells pl es cs) => if o + vs.length ≤ cs.length then if vs.all (fun v => v.oneCell') = true then some (st.put b (.cells pl es (spl cs o vs))) else none else none
  | _ => none

theorem write_ok {m : Ren} {st st' : St} {w : World} (hs : Sim m st w) {b o : Nat} {a : At} (ha : m b = some a) {vs vs' : List Value} (hv : VRs m vs vs') (h : writeC st b o vs = some st') {K : World → Prop}
    (hk : ∀ w', Sim m st' w' → K w') : stN w ⟨a.blk, a.off + o, none⟩ vs' K := by
  unfold writeC at h
  split at h <;> try (cases h; done)
  rename_i pl es cs hb
  split at h <;> try (cases h; done)
  rename_i hle
  split at h <;> try (cases h; done)
  rename_i hone
  cases h
  obtain ⟨c, T, fr, hc, hg, hz, hf, hp⟩ := hs.cells hb ha
  have hl := hv.length
  have hcs : c.toList.length = c.size := by simp
  have hle' : a.off + o + vs'.length ≤ c.size := by omega
  have hsl : (spl c.toList (a.off + o) vs').length = c.size := by rw [spl_length (by rw [hcs]; exact hle'), hcs]
  unfold stN
  simp only [hc]
  refine ⟨trivial, hle', ?_, hv.one (fun x hx => List.all_eq_true.1 hone x hx), ?_⟩
  · rcases hf with hf | hf
    · exact .inl hf
    · exact .inr (.inl (by omega))
  · refine hk _ (hs.put hb (by intro e; cases e) ha ?_)
    unfold ObjR
    refine ⟨fun i v hi => ?_, ?_, ?_, ⟨hp.p, hp.t, hp.z, fun e => by rw [spl_length hle]; simp only [List.size_toArray, hsl]; exact hp.x e⟩⟩
    · rw [spl_get hle] at hi
      rw [List.getElem?_toArray, spl_get (by rw [hcs]; exact hle')]
      by_cases h1 : i < o
      · rw [if_pos h1] at hi
        rw [if_pos (by omega), Array.getElem?_toList]
        exact hg i v hi
      · rw [if_neg h1] at hi
        by_cases h2 : i < o + vs.length
        · rw [if_pos h2] at hi
          rw [if_neg (by omega), if_pos (by omega)]
          have e : a.off + i - (a.off + o) = i - o := by omega
          rw [e]
          exact hv.get _ hi
        · rw [if_neg h2] at hi
          rw [if_neg (by omega), if_neg (by omega), Array.getElem?_toList]
          exact hg i v hi
    · rw [spl_length hle]
      simp only [List.size_toArray, hsl]
      exact hz
    · simp only [List.size_toArray, hsl]
      exact hf

theorem write1_ok {m : Ren} {st st' : St} {w : World} (hs : Sim m st w) {b o : Nat} {a : At} (ha : m b = some a) {v v' : Value} (hv : VR m v v') (h : writeC st b o [v] = some st') {K : World → Prop}
    (hk : ∀ w', Sim m st' w' → K w') : st1 w ⟨a.blk, a.off + o, none⟩ v' K := by
  have := write_ok hs ha (.cons hv .nil) h hk
  unfold stN at this
  unfold st1
  split at this <;> try (exact this.elim)
  rename_i c T fr hc
  obtain ⟨h1, h2, h3, h4, h5⟩ := this
  simp only [hc]
  simp only [List.length_cons, List.length_nil, Nat.zero_add] at h2 h3
  refine ⟨trivial, by omega, ?_, h4 v' (by simp), ?_⟩
  · rcases h3 with h3 | h3 | h3
    · exact .inl h3
    · exact .inr (.inl (by omega))
    · exact .inr (.inr h3)
  · have e : (spl c.toList (a.off + o) [v']).toArray = c.setIfInBounds (a.off + o) v' := by
      apply Array.toList_inj.1
      apply List.ext_getElem?
      intro i
      rw [spl_get (by simp; omega)]
      simp only [Array.toList_setIfInBounds, List.getElem?_set, List.length_cons, List.length_nil]
      by_cases e1 : i < a.off + o
      · rw [if_pos e1, if_neg (by omega)]
      · rw [if_neg e1]
        by_cases e2 : i = a.off + o
        · subst e2
          simp
          omega
        · rw [if_neg (by omega), if_neg (by omega)]
    rw [← e]
    exact h5

noncomputable def xSt (st : St) (n : Option Nat) (x v : Value) : Option St :=
  match n, x with
  | some n, .pointer (some ⟨b, o, none⟩) => match v with
    | .agg vs => if vs.toList.length = n then writeC st b o vs.toList else none
    | v => if n = 1 then writeC st b o [v] else none
  | _, _ => none

theorem xSt_ok {m : Ren} {st st' : St} {w : World} (hs : Sim m st w) {n : Option Nat} {x x' v v' : Value} {K : World → Prop} (hx : VR m x x') (hv : VR m v v') (h : xSt st n x v = some st')
    (hk : ∀ w', Sim m st' w' → K w') : vSt n x' v' w K := by
  unfold xSt at h
  unfold vSt
  cases hx <;> cases n <;> simp only at h ⊢ <;> try (cases h; done)
  rename_i b o a ha n
  cases hv <;> simp only at h ⊢
  case agg xs ys hxy =>
    split at h <;> try (cases h; done)
    rename_i hn
    refine ⟨?_, write_ok hs ha hxy h hk⟩
    rw [← hn, hxy.length]
    simp
  all_goals
    split at h <;> try (cases h; done)
    rename_i hn
    exact ⟨hn, write1_ok hs ha (by constructor <;> assumption) h hk⟩

end Go.X

/-
  THE EXECUTOR, part 4: new rows of cells, append. Own work; generic in the program.
-/
set_option linter.unusedVariables false
namespace Go.X
open Go Go.V Go.RowKit

def closedV (v : Value) : Bool :=
  match v with
  | .bool _ => true
  | .int _ _ => true
  | .string _ => true
  | .pointer none => true
  | .slice none 0 0 => true
  | .map none => true
  | .nilFunc => true
  | .nilIface => true
  | _ => false

theorem closedV_ok {v : Value} (h : closedV v = true) : plainR v := by
  intro m
  unfold closedV at h
  split at h <;> first | (constructor; done) | cases h

theorem closed_all {m : Ren} : ∀ {l : List Value}, l.all closedV = true → VRs m l l
  | [], _ => .nil
  | v :: l, h => by
    simp only [List.all_cons, Bool.and_eq_true] at h
    exact .cons (closedV_ok h.1 m) (closed_all h.2)

theorem VRs.rep {m : Ren} {z z' : List Value} (h : VRs m z z') (n : Nat) : VRs m (repZ z n) (repZ z' n) := by
  unfold repZ
  induction n with
  | zero => exact .nil
  | succ n ih =>
    rw [List.replicate_succ, List.replicate_succ, List.flatten_cons, List.flatten_cons]
    exact h.append ih

theorem new_ok {m : Ren} {st : St} {w : World} (hs : Sim m st w) {vs vs' : List Value} (hv : VRs m vs vs') (es : Nat) (T : TypeId) :
    ∃ m', m.le m' ∧ m' st.next = some ⟨w.heap.size, 0, 0⟩ ∧ Sim m' (st.new (.cells ⟨true, some T, true, true⟩ es vs)) (w.alloc (.cells ⟨vs'⟩ T)) := by
  have hle := Ren.add_le (a := ⟨w.heap.size, 0, 0⟩) (hs.fresh st.next (Nat.le_refl _)).1
  obtain ⟨h1, h2⟩ := hs.new (o := .cells ⟨vs'⟩ T) (k := .cells ⟨true, some T, true, true⟩ es vs) (off := 0) (extra := 0) (by
    unfold ObjR
    refine ⟨fun i v hi => ?_, ?_, .inl rfl, ⟨fun _ => rfl, fun t e => Option.some.inj e, fun _ => rfl, fun _ => by have := hv.length; simp [this]⟩⟩
    · obtain ⟨y, hy, hr⟩ := hv.get i hi
      exact ⟨y, by simpa using hy, hr.up hle⟩
    · have := hv.length
      simp [this])
  exact ⟨_, h1, Ren.add_same _ _ _, h2⟩

theorem ptr_new {m : Ren} {b c : Nat} (h : m b = some ⟨c, 0, 0⟩) : VR m (.pointer (some ⟨b, 0, none⟩)) (.pointer (some ⟨c, 0, none⟩)) := .ptr h

theorem sl_new {m : Ren} {b c n k : Nat} (h : m b = some ⟨c, 0, 0⟩) (hk : k < far) : VR m (.slice (some ⟨b, 0, none⟩) n k) (.slice (some ⟨c, 0, none⟩) n k) := by
  have := VR.sl (n := n) (k := k) (o := 0) h
  unfold capOf at this
  have e : Nat.blt k far = true := by rw [Nat.blt_eq]; exact hk
  rw [e] at this
  exact this

abbrev Out (m : Ren) (st' : St) (v : Value) (K : Value → World → Prop) : Prop := ∀ m' v' w', m.le m' → VR m' v v' → Sim m' st' w' → K v' w'

noncomputable def xAlloc (P : Program) (st : St) (e : TypeId) : Option (Value × St) :=
  match zc P e with
  | some z => if z.toList.all closedV = true then some (.pointer (some ⟨st.next, 0, none⟩), st.new (.cells ⟨true, some e, true, true⟩ 1 z.toList)) else none
  | none => none

theorem xAlloc_ok {P : Program} {m : Ren} {st st' : St} {w : World} (hs : Sim m st w) {e : TypeId} {v : Value} {K : Value → World → Prop} (h : xAlloc P st e = some (v, st')) (hk : Out m st' v K) : vAlloc P e w K := by
  unfold xAlloc at h
  unfold vAlloc
  split at h <;> try (cases h; done)
  rename_i z hz
  split at h <;> try (cases h; done)
  rename_i hc
  cases h
  simp only [hz]
  obtain ⟨m', h1, h2, h3⟩ := new_ok hs (closed_all (m := m) hc) 1 e
  exact hk m' _ _ h1 (ptr_new h2) h3

noncomputable def xBox (e : TypeId) (st : St) (v : Value) : Value × St := (.pointer (some ⟨st.next, 0, none⟩), st.new (.cells ⟨true, some e, true, true⟩ 1 v.cells.toList))

theorem xBox_ok {m : Ren} {st : St} {w : World} (hs : Sim m st w) {e : TypeId} {v v' : Value} {K : Value → World → Prop} (hv : VR m v v') (hk : Out m (xBox e st v).2 (xBox e st v).1 K) : vBox e v' w K := by
  obtain ⟨m', h1, h2, h3⟩ := new_ok hs hv.cells 1 e
  exact hk m' _ _ h1 (ptr_new h2) h3

noncomputable def xBuildSlice (P : Program) (st : St) (t : TypeId) (len : Nat) (parts : List (Nat × Value)) : Option (Value × St) :=
  match P.underlying t with
  | some (.slice e) => match P.info? e, zc P e with
    | some i, some z => if len * i.size ≤ 16777216 then if len < far then if z.toList.length = i.size then if z.toList.all closedV = true then
        match xFill (slPlace len i.size) (repZ z.toList len) parts with
        | some cs => some (.slice (some ⟨st.next, 0, none⟩) len len, st.new (.cells ⟨true, some e, true, true⟩ i.size cs))
        | none => none
      else none else none else none else none
    | _, _ => none
  | _ => none

theorem xBuildSlice_ok {P : Program} {m : Ren} {st st' : St} {w : World} (hs : Sim m st w) {t : TypeId} {len : Nat} {ps ps' : List (Nat × Value)} {v : Value} {K : Value → World → Prop} (hp : PRs m ps ps')
    (h : xBuildSlice P st t len ps = some (v, st')) (hk : Out m st' v K) : vBuildSlice P t len ps' w K := by
  unfold xBuildSlice at h
  unfold vBuildSlice
  split at h <;> try (cases h; done)
  rename_i e he
  split at h <;> try (cases h; done)
  rename_i i z hi hz
  split at h <;> try (cases h; done)
  rename_i h1
  split at h <;> try (cases h; done)
  rename_i h2
  split at h <;> try (cases h; done)
  rename_i h3
  split at h <;> try (cases h; done)
  rename_i h4
  split at h <;> try (cases h; done)
  rename_i cs hf
  cases h
  simp only [he, hi, hz]
  refine ⟨by simpa using h1, by simpa using h3, ?_⟩
  refine xFill_ok hp (VRs.rep (closed_all (m := m) h4) len) hf fun out ho => ?_
  obtain ⟨m', g1, g2, g3⟩ := new_ok hs ho i.size e
  exact hk m' _ _ g1 (sl_new g2 h2) g3

noncomputable def xMakeSlice (P : Program) (st : St) (t : TypeId) (l c : Value) : Option (Value × St) :=
  match P.underlying t with
  | some (.slice e) => match P.info? e, zc P e, l, c with
    | some i, some z, .int _ l, .int _ c => if 0 ≤ l then if l ≤ c then if c ≤ 140737488355328 then if c * i.bytes ≤ 140737488355328 then if z.toList.length = i.size then if z.toList.all closedV = true then
        some (.slice (some ⟨st.next, 0, none⟩) l.toNat c.toNat, st.new (.cells ⟨true, some e, true, true⟩ i.size (repZ z.toList c.toNat)))
      else none else none else none else none else none else none
    | _, _, _, _ => none
  | _ => none

theorem xMakeSlice_ok {P : Program} {m : Ren} {st st' : St} {w : World} (hs : Sim m st w) {t : TypeId} {l c l' c' v : Value} {K : Value → World → Prop} (hl : VR m l l') (hc : VR m c c')
    (h : xMakeSlice P st t l c = some (v, st')) (hk : Out m st' v K) : vMakeSlice P t l' c' w K := by
  unfold xMakeSlice at h
  unfold vMakeSlice
  split at h <;> try (cases h; done)
  rename_i e he
  split at h <;> try (cases h; done)
  rename_i i z kl l kc c hi hz
  cases hl
  cases hc
  split at h <;> try (cases h; done)
  rename_i h0
  split at h <;> try (cases h; done)
  rename_i h1
  split at h <;> try (cases h; done)
  rename_i h2
  split at h <;> try (cases h; done)
  rename_i h3
  split at h <;> try (cases h; done)
  rename_i h4
  split at h <;> try (cases h; done)
  rename_i h5
  cases h
  simp only [he, hi, hz]
  refine ⟨h0, h1, h2, h3, by simpa using h4, ?_⟩
  obtain ⟨m', g1, g2, g3⟩ := new_ok hs (VRs.rep (closed_all (m := m) h5) c.toNat) i.size e
  exact hk m' _ _ g1 (sl_new g2 (by unfold far; omega)) g3

theorem Sim.move {m : Ren} {s : St} {w : World} (h : Sim m s w) {b : Nat} {k k' : Blk} {a : At} {o' : Obj} {off extra : Nat} (hb : s.heap.get b = some k) (hd : k ≠ .dead) (ha : m b = some a)
    (hr : ObjR (m.add s.next ⟨a.blk, off, extra⟩) ⟨a.blk, off, extra⟩ o' k') :
    m.le (m.add s.next ⟨a.blk, off, extra⟩) ∧ Sim (m.add s.next ⟨a.blk, off, extra⟩) ((s.put b .dead).new k') (w.putObj a.blk o') := by
  have hn := h.fresh s.next (Nat.le_refl _)
  have hle : m.le (m.add s.next ⟨a.blk, off, extra⟩) := Ren.add_le hn.1
  have hlt := h.lt b a ha
  have hm : ∀ x, x ≠ s.next → m.add s.next ⟨a.blk, off, extra⟩ x = m x := fun x hx => Ren.add_ne m _ hx
  have hm0 : m.add s.next ⟨a.blk, off, extra⟩ s.next = some ⟨a.blk, off, extra⟩ := Ren.add_same _ _ _
  have hg : ∀ x, ((s.put b .dead).new k').heap.get x = if x = s.next then some k' else if x = b then some .dead else s.heap.get x := by
    intro x
    show ((s.heap.set Blk.dead b).set k' s.next).get x = _
    rw [get_set, get_set]
  have old : ∀ x kx, ((s.put b .dead).new k').heap.get x = some kx → kx ≠ .dead → x ≠ s.next → x ≠ b ∧ s.heap.get x = some kx := by
    intro x kx hx hdx hne
    rw [hg, if_neg hne] at hx
    split at hx
    · cases hx; exact absurd rfl hdx
    · rename_i e; exact ⟨e, hx⟩
  refine ⟨hle, ⟨?_, ?_, ?_, ?_, h.fr.put o' (fun hl => (h.own b k a hb hd ha).resolve_right (Nat.not_le.2 hl)), ?_, fun x hx => ?_, fun c r hc => by simpa [World.putObj] using h.lpl c r hc⟩⟩
  · intro x kx hx hdx
    by_cases e : x = s.next
    · rw [hg, if_pos e] at hx
      cases hx
      subst e
      exact ⟨_, o', hm0, by simp [World.putObj, hlt], hr⟩
    · obtain ⟨e2, hx'⟩ := old x kx hx hdx e
      obtain ⟨a2, o2, h1, h2, h3⟩ := h.obj x kx hx' hdx
      refine ⟨a2, o2, by rw [hm x e]; exact h1, ?_, h3.up hle⟩
      have hne : a2.blk ≠ a.blk := fun e3 => e2 (h.inj x b kx k a2 a hx' hdx hb hd h1 ha e3)
      simp only [World.putObj, Array.getElem?_setIfInBounds]
      rw [if_neg (fun e3 => hne e3.symm)]
      exact h2
  · intro x y kx ky a1 a2 hx hdx hy hdy h1 h2 e
    by_cases ex : x = s.next
    · by_cases ey : y = s.next
      · rw [ex, ey]
      · exfalso
        obtain ⟨e2, hy'⟩ := old y ky hy hdy ey
        rw [ex, hm0] at h1
        rw [hm y ey] at h2
        cases h1
        exact e2 (h.inj y b ky k a2 a hy' hdy hb hd h2 ha e.symm)
    · obtain ⟨e2, hx'⟩ := old x kx hx hdx ex
      rw [hm x ex] at h1
      by_cases ey : y = s.next
      · exfalso
        rw [ey, hm0] at h2
        cases h2
        exact e2 (h.inj x b kx k a1 a hx' hdx hb hd h1 ha e)
      · obtain ⟨e3, hy'⟩ := old y ky hy hdy ey
        rw [hm y ey] at h2
        exact h.inj x y kx ky a1 a2 hx' hdx hy' hdy h1 h2 e
  · intro x hx
    have hx1 : s.next + 1 ≤ x := hx
    have hf := h.fresh x (by omega)
    refine ⟨by rw [hm x (by omega)]; exact hf.1, ?_⟩
    rw [hg, if_neg (by omega), if_neg]
    · exact hf.2
    · intro e
      rw [e, hb] at hf
      exact absurd hf.2 (by simp)
  · intro x a2 h2
    have hsz : (w.putObj a.blk o').heap.size = w.heap.size := by simp [World.putObj]
    rw [hsz]
    by_cases e : x = s.next
    · rw [e, hm0] at h2
      cases h2
      exact hlt
    · rw [hm x e] at h2
      exact h.lt x a2 h2
  · intro x kx a2 hx hdx h2
    show m.F a2.blk ∨ m.w0.heap.size ≤ a2.blk
    by_cases e : x = s.next
    · rw [e, hm0] at h2
      cases h2
      exact h.own b k a hb hd ha
    · rw [hm x e] at h2
      exact h.own x kx a2 (old x kx hx hdx e).2 hdx h2
  · obtain ⟨h1, h2⟩ := h.res x hx
    exact ⟨by rw [hm x (Nat.ne_of_lt h2)]; exact h1, Nat.lt_succ_of_lt h2⟩

noncomputable def xSrc (st : St) (es n : Nat) (x : Value) : Option (List Value) :=
  match x with
  | .slice (some ⟨b, o, none⟩) _ _ => readC st b o (n * es)
  | .slice (some ⟨b, o, some d⟩) _ _ => if n * es = 0 then match readC st b o 0, readC st b (o + d) 0 with
    | some [], some [] => some []
    | _, _ => none
    else none
  | .slice none _ _ => if n = 0 then some [] else none
  | .string s => if es = 1 then some ((s.data.toList.take n).map fun b => .int .u8 b.toNat) else none
  | _ => none

theorem bytes_vrs {m : Ren} (l : List UInt8) : VRs m (l.map fun b => (Value.int .u8 b.toNat)) (l.map fun b => .int .u8 b.toNat) := by
  induction l with
  | nil => exact .nil
  | cons b l ih => exact .cons (.int _ _) ih

theorem xSrc_ok {m : Ren} {st : St} {w : World} (hs : Sim m st w) {es n : Nat} {x x' : Value} {l : List Value} {K : List Value → Prop} (hx : VR m x x') (h : xSrc st es n x = some l) (hk : ∀ l', VRs m l l' → K l') : srcV es n x' w K := by
  unfold xSrc at h
  unfold srcV
  cases hx <;> simp only at h ⊢ <;> try (cases h; done)
  · split at h <;> try (cases h; done)
    rename_i e
    cases h
    exact ⟨e, hk _ (bytes_vrs _)⟩
  · split at h <;> try (cases h; done)
    rename_i e
    cases h
    exact ⟨e, hk _ .nil⟩
  · rename_i b o n' k a ha
    obtain ⟨l', h1, h2, h3⟩ := read_ok hs ha h
    exact ⟨l', h2, h3, hk _ h1⟩
  · rename_i b o d k a ha
    split at h <;> try (cases h; done)
    rename_i e0
    split at h <;> try (cases h; done)
    rename_i r1 r2
    cases h
    rw [e0]
    by_cases e : capOf a k = 0
    · rw [if_pos e, Nat.add_zero]
      obtain ⟨l', h1, h2, h3⟩ := read_ok hs ha r1
      exact ⟨l', h2, h3, hk _ h1⟩
    · rw [if_neg e, Nat.add_assoc]
      obtain ⟨l', h1, h2, h3⟩ := read_ok hs ha r2
      exact ⟨l', h2, h3, hk _ h1⟩

end Go.X

/-
  THE EXECUTOR, part 5: append. Own work; generic in the program.
-/
set_option linter.unusedVariables false
set_option maxRecDepth 20000
namespace Go.X
open Go Go.V Go.RowKit

theorem VR.len {m : Ren} {x y : Value} (h : VR m x y) : lenV x = lenV y := by
  cases h <;> rfl

theorem spare_ok {m : Ren} {st : St} {w : World} (hs : Sim m st w) {vs vs' z' : List Value} (hv : VRs m vs vs') (pl : Pl) (es extra : Nat) (T : TypeId) (hpl : ∀ t, pl.ty = some t → T = t) (hpx : pl.ex = false) (hz : z'.length = extra * es) :
    ∃ m', m.le m' ∧ m' st.next = some ⟨w.heap.size, 0, extra⟩ ∧ Sim m' (st.new (.cells pl es vs)) (w.alloc (.cells (vs' ++ z').toArray T)) := by
  have hle := Ren.add_le (a := ⟨w.heap.size, 0, extra⟩) (hs.fresh st.next (Nat.le_refl _)).1
  obtain ⟨h1, h2⟩ := hs.new (o := .cells (vs' ++ z').toArray T) (k := .cells pl es vs) (off := 0) (extra := extra) (by
    unfold ObjR
    refine ⟨fun i v hi => ?_, ?_, .inl rfl, ⟨fun _ => rfl, hpl, fun _ => rfl, fun e => by rw [hpx] at e; cases e⟩⟩
    · obtain ⟨y, hy, hr⟩ := hv.get i hi
      have hlt := (List.getElem?_eq_some_iff.1 hy).1
      exact ⟨y, by rw [List.getElem?_toArray, Nat.zero_add, List.getElem?_append_left hlt]; exact hy, hr.up hle⟩
    · have := hv.length
      simp [this, hz])
  exact ⟨_, h1, Ren.add_same _ _ _, h2⟩

theorem Sim.kill {m : Ren} {s : St} {w : World} (h : Sim m s w) {b : Nat} {k : Blk} (hb : s.heap.get b = some k) : Sim m (s.put b .dead) w := by
  have old : ∀ x kx, (s.put b .dead).heap.get x = some kx → kx ≠ .dead → s.heap.get x = some kx := by
    intro x kx hx hdx
    unfold St.put at hx
    simp only [get_set] at hx
    split at hx
    · cases hx; exact absurd rfl hdx
    · exact hx
  refine ⟨fun x kx hx hdx => h.obj x kx (old x kx hx hdx) hdx, fun x y kx ky a1 a2 hx hdx hy hdy => h.inj x y kx ky a1 a2 (old x kx hx hdx) hdx (old y ky hy hdy) hdy, fun x hx => ?_, h.lt, h.fr, fun x kx a2 hx hdx h2 => h.own x kx a2 (old x kx hx hdx) hdx h2, h.res, h.lpl⟩
  have hf := h.fresh x hx
  refine ⟨hf.1, ?_⟩
  show (s.heap.set Blk.dead b).get x = none
  rw [get_set, if_neg]
  · exact hf.2
  · intro e
    rw [e, hb] at hf
    exact absurd hf.2 (by simp)

theorem cap_far (a : At) (k : Nat) : capOf a (far + k) = k + a.extra := by
  unfold capOf
  have e : Nat.blt (far + k) far = false := by
    cases h : Nat.blt (far + k) far
    · rfl
    · rw [Nat.blt_eq] at h; omega
  rw [e]
  simp

theorem cap_near (a : At) {k : Nat} (h : k < far) : capOf a k = k := by
  unfold capOf
  have e : Nat.blt k far = true := by rw [Nat.blt_eq]; exact h
  rw [e]; rfl

theorem cap_ge (a : At) {k : Nat} (h : ¬ k < far) : capOf a k = k - far + a.extra := by
  unfold capOf
  have e : Nat.blt k far = false := by
    cases h' : Nat.blt k far
    · rfl
    · rw [Nat.blt_eq] at h'; exact absurd h' h
  rw [e]; rfl

noncomputable def xLong (st : St) (pl : Pl) (es k bytes : Nat) (vs : List Value) : Option (Value × St) :=
  if k * bytes ≤ 140737488355328 then if k ≤ 140737488355328 then if vs.length = k * es then
    some (.slice (some ⟨st.next, 0, none⟩) k (far + k), st.new (.cells pl es vs)) else none else none else none

theorem xLong_ok {m : Ren} {st st' : St} {w : World} (hs : Sim m st w) {pl : Pl} {es k bytes : Nat} {vs vs' : List Value} {v : Value} (hv : VRs m vs vs') {z : List Value} (hz : z.length = es) (e : TypeId) (hpl : ∀ t, pl.ty = some t → e = t) (hpx : pl.ex = false) {K : Value → World → Prop}
    (h : xLong st pl es k bytes vs = some (v, st')) (hk : Out m st' v K) :
    k * bytes ≤ 140737488355328 ∧ k ≤ 140737488355328 ∧ ∀ c, k ≤ c → K (.slice (some ⟨w.heap.size, 0, none⟩) k c) (w.drew.alloc (.cells (vs' ++ repZ z (c - k)).toArray e)) := by
  unfold xLong at h
  split at h <;> try (cases h; done)
  rename_i h1
  split at h <;> try (cases h; done)
  rename_i h2
  split at h <;> try (cases h; done)
  rename_i h3
  cases h
  refine ⟨h1, h2, fun c hc => ?_⟩
  obtain ⟨m', g1, g2, g3⟩ := spare_ok hs.drew hv pl es (c - k) e hpl hpx (z' := repZ z (c - k)) (by rw [repZ_length, hz])
  have hr := VR.sl (n := k) (k := far + k) (o := 0) g2
  rw [cap_far] at hr
  have e1 : k + (c - k) = c := by omega
  rw [e1] at hr
  exact hk m' _ _ g1 hr g3

noncomputable def xAppend (P : Program) (st : St) (t u : TypeId) (s x : Value) : Option (Value × St) :=
  match P.underlying t with
  | some (.slice e) => match P.info? e, zc P e, s with
    | some i, some z, .slice base n cap => if srcK P u = true then if z.toList.length = i.size then
      match xSrc st i.size (lenV x) x with
      | some news => if news.length = lenV x * i.size then match base with
        | none => if n = 0 then if cap = 0 then if lenV x = 0 then some (.slice none 0 0, st) else xLong st ⟨true, some e, true, false⟩ i.size (lenV x) i.bytes news else none else none
        | some ⟨b, o, none⟩ => if n + lenV x + far ≤ cap then match writeC st b (o + n * i.size) news with
              | some st' => some (.slice (some ⟨b, o, none⟩) (n + lenV x) cap, st')
              | none => none
          else if cap < far then
            if n + lenV x ≤ cap then match writeC st b (o + n * i.size) news with
              | some st' => some (.slice (some ⟨b, o, none⟩) (n + lenV x) cap, st')
              | none => none
            else match readC st b o (n * i.size) with
              | some olds => xLong st ⟨true, some e, true, false⟩ i.size (n + lenV x) i.bytes (olds ++ news)
              | none => none
          else match st.heap.get b with
            | some (.cells pl es cs) => if es = i.size then if o + n * i.size ≤ cs.length then if o + (cap - far) * i.size ≤ cs.length then if news.all (fun v => v.oneCell') = true then
                xLong (st.put b .dead) ⟨pl.plain, if pl.ty = some e then some e else none, pl.z && Nat.beq o 0, false⟩ i.size (n + lenV x) i.bytes ((cs.drop o).take (n * i.size) ++ news)
              else none else none else none else none
            | _ => none
        | _ => none
        else none
      | none => none
      else none else none
    | _, _, _ => none
  | _ => none

theorem xAppend_ok {P : Program} {m : Ren} {st st' : St} {w : World} (hs : Sim m st w) {t u : TypeId} {s x s' x' v : Value} {K : Value → World → Prop} (hsl : VR m s s') (hx : VR m x x')
    (h : xAppend P st t u s x = some (v, st')) (hk : Out m st' v K) : vAppend P t u s' x' w K := by
  unfold xAppend at h
  unfold vAppend
  split at h <;> try (cases h; done)
  rename_i e he
  split at h <;> try (cases h; done)
  rename_i i z base n cap hi hz
  split at h <;> try (cases h; done)
  rename_i hu
  split at h <;> try (cases h; done)
  rename_i hzs
  split at h <;> try (cases h; done)
  rename_i news hnews
  split at h <;> try (cases h; done)
  rename_i hnl
  have hlx := hx.len
  cases hsl with
  | edge ha => simp at h
  | snil =>
    simp only at h
    simp only [he, hi, hz, hu, ← hlx]
    refine ⟨by simpa using hzs, xSrc_ok hs hx hnews fun news' hv => ⟨fun hle => ?_, fun hlt => ?_⟩⟩
    · have e0 : lenV x = 0 := by omega
      simp only [e0, if_true, Option.some.injEq, Prod.mk.injEq] at h
      obtain ⟨rfl, rfl⟩ := h
      rw [e0]
      exact hk m _ _ (Ren.le.refl m) .snil hs
    · have e0 : ¬ lenV x = 0 := by omega
      simp only [e0, if_true, if_false] at h
      obtain ⟨h1, h2, h3⟩ := xLong_ok hs hv (z := z.toList) hzs e (fun t e => Option.some.inj e) rfl h hk
      rw [Nat.zero_add]
      exact ⟨h1, h2, rfl, fun c hc => by simpa using h3 c hc⟩
  | sl ha =>
    rename_i b o a
    simp only at h
    simp only [he, hi, hz, hu, ← hlx]
    refine ⟨by simpa using hzs, xSrc_ok hs hx hnews fun news' hv => ?_⟩
    split at h
    · rename_i hq
      have hcf : ¬ cap < far := by omega
      rw [cap_ge a hcf]
      split at h <;> try (cases h; done)
      rename_i st1 hw
      cases h
      refine ⟨fun _ => ?_, fun hlt => by omega⟩
      unfold stMaybe
      simp only
      rw [add_off, Nat.add_assoc]
      refine write_ok hs ha hv hw fun w' hs' => ?_
      have hr := VR.sl (n := n + lenV x) (k := cap) (o := o) ha
      rw [cap_ge a hcf] at hr
      exact hk m _ _ (Ren.le.refl m) hr hs'
    rename_i hq
    split at h
    · rename_i hcf
      rw [cap_near a hcf]
      split at h
      · rename_i hle
        split at h <;> try (cases h; done)
        rename_i st1 hw
        cases h
        refine ⟨fun _ => ?_, fun hlt => by omega⟩
        unfold stMaybe
        simp only
        rw [add_off, Nat.add_assoc]
        refine write_ok hs ha hv hw fun w' hs' => ?_
        have hr := VR.sl (n := n + lenV x) (k := cap) (o := o) ha
        rw [cap_near a hcf] at hr
        exact hk m _ _ (Ren.le.refl m) hr hs'
      · rename_i hle
        split at h <;> try (cases h; done)
        rename_i olds ho
        refine ⟨fun hle2 => absurd hle2 hle, fun _ => ?_⟩
        obtain ⟨l', g1, g2, g3⟩ := read_ok hs ha ho
        obtain ⟨h1, h2, h3⟩ := xLong_ok hs (g1.append hv) (z := z.toList) hzs e (fun t e => Option.some.inj e) rfl h hk
        exact ⟨h1, h2, l', g2, g3, h3⟩
    · rename_i hcf
      rw [cap_ge a hcf]
      split at h <;> try (cases h; done)
      rename_i pl es cs hb
      split at h <;> try (cases h; done)
      rename_i hes
      split at h <;> try (cases h; done)
      rename_i ho1
      split at h <;> try (cases h; done)
      rename_i ho2
      split at h <;> try (cases h; done)
      rename_i hone
      subst hes
      have hrd : readC st b o (n * i.size) = some ((cs.drop o).take (n * i.size)) := by
        unfold readC
        rw [hb]
        simp only
        rw [if_pos ho1]
      obtain ⟨l', g1, g2, g3⟩ := read_ok hs ha hrd
      refine ⟨fun hle => ?_, fun _ => ?_⟩
      · -- in place
        obtain ⟨c, T, fr, hc, hg, hsz, hf, hp⟩ := hs.cells hb ha
        have hcs : c.toList.length = c.size := by simp
        have hnl' : news'.length = lenV x * i.size := by rw [← hv.length]; exact hnl
        have hmul : (n + lenV x) * i.size ≤ (cap - far) * i.size + a.extra * i.size := by
          rw [← Nat.add_mul]; exact Nat.mul_le_mul_right _ hle
        rw [Nat.add_mul] at hmul
        have hle' : a.off + o + n * i.size + news'.length ≤ c.size := by omega
        have hspl : (spl c.toList (a.off + o + n * i.size) news').length = c.size := by rw [spl_length (by rw [hcs]; exact hle'), hcs]
        unfold xLong at h
        split at h <;> try (cases h; done)
        split at h <;> try (cases h; done)
        split at h <;> try (cases h; done)
        rename_i hvl
        cases h
        unfold stMaybe
        simp only
        rw [add_off]
        unfold stN
        simp only [hc]
        refine ⟨trivial, hle', ?_, hv.one (fun y hy => List.all_eq_true.1 hone y hy), ?_⟩
        · rcases hf with hf | hf
          · exact .inl hf
          · exact .inr (.inl (by omega))
        · have hext : (cap - far + a.extra - (n + lenV x)) * i.size + (n * i.size + lenV x * i.size) = (cap - far) * i.size + a.extra * i.size := by
            have hq : cap - far + a.extra - (n + lenV x) + (n + lenV x) = cap - far + a.extra := by omega
            rw [← Nat.add_mul, ← Nat.add_mul, ← Nat.add_mul, hq]
          have hle0 := Ren.add_le (a := ⟨a.blk, a.off + o, cap - far + a.extra - (n + lenV x)⟩) (hs.fresh st.next (Nat.le_refl _)).1
          obtain ⟨q1, q2⟩ := hs.move (off := a.off + o) (extra := cap - far + a.extra - (n + lenV x)) (k' := .cells ⟨pl.plain, if pl.ty = some e then some e else none, pl.z && Nat.beq o 0, false⟩ i.size ((cs.drop o).take (n * i.size) ++ news)) (o' := .cells (spl c.toList (a.off + o + n * i.size) news').toArray T fr) hb (by intro e; cases e) ha (by
            unfold ObjR
            refine ⟨fun j y hj => ?_, ?_, ?_, ⟨hp.p, fun t ht => ?_, fun hz => ?_, fun hx => (by cases hx)⟩⟩
            · rw [List.getElem?_toArray, spl_get (by rw [hcs]; exact hle')]
              have hl1 : ((cs.drop o).take (n * i.size)).length = n * i.size := by rw [List.length_take, List.length_drop]; omega
              rw [List.getElem?_append, hl1] at hj
              by_cases e1 : j < n * i.size
              · rw [if_pos e1, List.getElem?_take_of_lt e1, List.getElem?_drop] at hj
                rw [if_pos (by show a.off + o + j < _; omega), Array.getElem?_toList]
                obtain ⟨y', g, hr⟩ := hg (o + j) y hj
                exact ⟨y', by rw [← g]; congr 1; show a.off + o + j = _; omega, hr.up hle0⟩
              · rw [if_neg e1] at hj
                have hlt := (List.getElem?_eq_some_iff.1 hj).1
                rw [if_neg (by show ¬ (a.off + o + j < _); omega), if_pos (by show a.off + o + j < _; rw [← hv.length]; omega)]
                obtain ⟨y', g, hr⟩ := hv.get _ hj
                exact ⟨y', by rw [← g]; congr 1; show a.off + o + j - _ = _; omega, hr.up hle0⟩
            · simp only [List.size_toArray, hspl, hvl]
              show a.off + o + (n + lenV x) * i.size + (cap - far + a.extra - (n + lenV x)) * i.size ≤ c.size
              rw [Nat.add_mul n]
              omega
            · simp only [List.size_toArray, hspl]
              exact hf
            · have ht' : (if pl.ty = some e then some e else none) = some t := ht
              split at ht'
              · rename_i h9
                rw [hp.t e h9]
                exact Option.some.inj ht'
              · cases ht'
            · obtain ⟨z1, z2⟩ := Bool.and_eq_true_iff.1 hz
              show a.off + o = 0
              rw [hp.z z1, Nat.eq_of_beq_eq_true z2])
          have hr := VR.sl (m := m.add st.next ⟨a.blk, a.off + o, cap - far + a.extra - (n + lenV x)⟩) (n := n + lenV x) (k := far + (n + lenV x)) (o := 0) (b := st.next) (a := ⟨a.blk, a.off + o, cap - far + a.extra - (n + lenV x)⟩) (Ren.add_same _ _ _)
          rw [cap_far] at hr
          have e1 : n + lenV x + (cap - far + a.extra - (n + lenV x)) = cap - far + a.extra := by omega
          simp only [e1, Nat.add_zero] at hr
          exact hk _ _ _ q1 hr q2
      · obtain ⟨h1, h2, h3⟩ := xLong_ok (hs.kill hb) (g1.append hv) (z := z.toList) hzs e (fun t ht => by
          have ht' : (if pl.ty = some e then some e else none) = some t := ht
          split at ht'
          · exact Option.some.inj ht'
          · cases ht') rfl h hk
        exact ⟨h1, h2, l', g2, g3, h3⟩

end Go.X
