/-
  Cpu, part 6: the state and the memory; what moves bytes. Own work.
-/
import Derived.Test.YtmaecpbkbkncgaaDoorC5
set_option linter.unusedVariables false
set_option linter.unusedSimpArgs false
set_option maxRecDepth 100000
namespace Go.Proofs.YtmaecpbkbkncgaaDoor
open Go Go.V Go.RowKit

/-! ### A state: sixteen registers, and Pc at 16 -/

abbrev stc (r : List Nat) : List Value := r.map fun x => ut x
def rg (r : List Nat) (i : Int) : Nat := (r[i.toNat]?).getD 0
def putP (r : List Nat) (i : Int) (v : Nat) : List Nat := r.set i.toNat v

structure St (r : List Nat) : Prop where
  len : r.length = 17
  lt : ∀ x ∈ r, x < 18446744073709551616

theorem St.get {r : List Nat} (h : St r) {i : Int} (hi : i < 17) : r[i.toNat]? = some (rg r i) := by
  have : i.toNat < r.length := by rw [h.len]; omega
  unfold rg
  rw [List.getElem?_eq_getElem this]; rfl

theorem St.rg_lt {r : List Nat} (h : St r) (i : Int) : rg r i < 18446744073709551616 := by
  unfold rg
  cases hi : r[i.toNat]? with
  | none => decide
  | some x => exact h.lt x (List.mem_of_getElem? hi)

theorem St.put {r : List Nat} (h : St r) {i : Int} {v : Nat} (hv : v < 18446744073709551616) : St (putP r i v) := by
  refine ⟨by simp [putP, h.len], fun x hx => ?_⟩
  rcases List.mem_or_eq_of_mem_set hx with hx | rfl
  · exact h.lt x hx
  · exact hv

theorem stc_put (r : List Nat) (i : Int) (v : Nat) : (stc r).set i.toNat (ut v) = stc (putP r i v) := by
  simp [stc, putP, List.map_set]

theorem St.cell {r : List Nat} (h : St r) {i : Int} (hi : i < 17) : (stc r)[i.toNat]? = some (ut (rg r i)) := by
  rw [List.getElem?_map, h.get hi]; rfl

theorem stc_len {r : List Nat} (h : St r) : (stc r).length = 17 := by simp [h.len]

theorem rIAr {p : Nat} {a : Int} {K : Value → Prop} (h0 : 0 ≤ a) (h1 : a < 16) (k : K (pt p a.toNat)) : vIA (.arr 16 1) (pt p 0) (it a) K := by
  obtain ⟨i, rfl⟩ := Int.eq_ofNat_of_zero_le h0
  refine rIAa (by omega) ?_
  rw [Nat.zero_add, Nat.mul_one]
  rw [Int.toNat_natCast] at k
  exact k

structure Sm (w0 w : World) (g : Gh) (l : List UInt8) (p : Nat) (r : List Nat) : Prop where
  own : Own w0 w g l.length (cont l)
  st : Cs w p (stc r)
  ok : St r
  np : ¬ g.sees p
  hp : w0.heap.size ≤ p

structure Evp (w : World) (g : Gh) (p : Nat) (w' : World) (g' : Gh) : Prop where
  fr : Fr (fun k => k = p ∨ g.foot k) w w'
  b : g'.b = g.b
  foot : ∀ k, g'.foot k → g.foot k ∨ w.heap.size ≤ k
  sees : ∀ k, k ∈ g'.ps → g.sees k ∨ w.heap.size ≤ k

theorem Evp.of_evo {w w' : World} {g g' : Gh} {p : Nat} (h : Evo w g w' g') : Evp w g p w' g' := ⟨h.fr.mono fun _ _ => .inr, h.b, h.foot, h.sees⟩
theorem Evp.of_fr {w w' : World} {g : Gh} {p : Nat} (h : Fr (fun k => k = p) w w') : Evp w g p w' g := ⟨h.mono fun _ _ => .inl, rfl, fun _ => .inl, fun _ h => .inl (.inr h)⟩
theorem Evp.of_fr0 {w w' : World} {g : Gh} {p : Nat} (h : Fr (fun _ => False) w w') : Evp w g p w' g := .of_fr (h.mono fun _ _ => False.elim)

theorem Evp.trans {w w' w'' : World} {g g' g'' : Gh} {p : Nat} (h : Evp w g p w' g') (k : Evp w' g' p w'' g'') : Evp w g p w'' g'' := by
  have hs := h.fr.size
  refine ⟨h.fr.trans k.fr (fun x hx hf => ?_), k.b.trans h.b, fun x hx => ?_, fun x hx => ?_⟩
  · rcases hf with e | e
    · exact .inl e
    · rcases h.foot x e with e | e
      · exact .inr e
      · omega
  · rcases k.foot x hx with e | e
    · exact h.foot x e
    · exact .inr (by omega)
  · rcases k.sees x hx with (e | e) | e
    · rcases h.foot x e with e | e
      · exact .inl (.inl e)
      · exact .inr e
    · exact h.sees x e
    · exact .inr (by omega)

theorem Evp.nsees {w w' : World} {g g' : Gh} {p q : Nat} (h : Evp w g p w' g') (hq : q < w.heap.size) (hn : ¬ g.sees q) : ¬ g'.sees q := by
  rintro (e | e)
  · rcases h.foot q e with e | e
    · exact hn (.inl e)
    · omega
  · rcases h.sees q e with e | e
    · exact hn e
    · omega

theorem Own.frp {w0 w w' : World} {g : Gh} {n : Nat} {c : Nat → UInt8} {p : Nat} (h : Own w0 w g n c) (f : Fr (fun k => k = p) w w') (hp : w0.heap.size ≤ p) (hn : ¬ g.sees p) : Own w0 w' g n c :=
  ⟨h.fr.trans f fun k hk e => by omega, h.mine, h.by'.fr f (fun k hk e => hn (e ▸ hk)), h.len, h.le, h.zero⟩

section
variable {w0 w w' : World} {g g' : Gh} {l l' : List UInt8} {p : Nat} {r r' : List Nat}

theorem Sm.more (h : Sm w0 w g l p r) (f : Fr (fun _ => False) w w') : Sm w0 w' g l p r := ⟨h.own.more f, h.st.fr f id, h.ok, h.np, h.hp⟩

theorem Sm.evo (h : Sm w0 w g l p r) (e : Evo w g w' g') (ho : Own w0 w' g' l'.length (cont l')) : Sm w0 w' g' l' p r :=
  ⟨ho, h.st.fr e.fr fun hf => h.np (.inl hf), h.ok, (Evp.of_evo (p := p) e).nsees h.st.lt h.np, h.hp⟩

theorem Sm.put (h : Sm w0 w g l p r) (f : Fr (fun k => k = p) w w') (hc : Cs w' p (stc r')) (hr : St r') : Sm w0 w' g l p r' :=
  ⟨h.own.frp f h.hp h.np, hc, hr, h.np, h.hp⟩

/-- a register is written -/
theorem Sm.set (h : Sm w0 w g l p r) {a : Int} {v : Nat} (ha : a < 17) (hv : v < 18446744073709551616) {K : World → Prop} (hK : ∀ w', Fr (fun k => k = p) w w' → Sm w0 w' g l p (putP r a v) → K w') : vSt (some 1) (pt p a.toNat) (ut v) w K := by
  refine rSt h.st (by rw [stc_len h.ok]; omega) rfl (by simp) ?_
  intro w' u
  have c := u.cs
  rw [stc_put] at c
  exact hK w' u.fr (h.put u.fr c (h.ok.put hv))

theorem Sm.setPc (h : Sm w0 w g l p r) {v : Nat} (hv : v < 18446744073709551616) {K : World → Prop} (hK : ∀ w', Fr (fun k => k = p) w w' → Sm w0 w' g l p (putP r 16 v) → K w') : vNilP Tryd.prog (pt p 0) fun u => vFA (some 16) u fun u => vSt (some 1) u (ut v) w K :=
  rNil <| rFA0 <| h.set (a := 16) (by decide) hv hK
end

/-! ### A step, plain -/

def nextP (r : List Nat) : Nat := (rg r 16 + 4) % 18446744073709551616
def farP (r : List Nat) (n : Int) : Nat := (((nextP r : Int) + 4 * n) % 18446744073709551616).toNat
def addrP (r : List Nat) (c : Cd) : Nat := (rg r c.b + c.n.toNat) % 18446744073709551616
def goP (r : List Nat) (x : Nat) : List Nat := putP r 16 x
def sizeP (op : Int) : Nat := if op = 20 ∨ op = 21 then 8 else 1

def movesP (r : List Nat) (l : List UInt8) (c : Cd) : List Nat × List UInt8 × Bool :=
  if c.op = 19 ∨ c.op = 21 then (r, (stR l (addrP r c) ((eight (rg r c.a)).take (sizeP c.op))).1, (stR l (addrP r c) ((eight (rg r c.a)).take (sizeP c.op))).2 == 0)
  else match ldP l (addrP r c) (sizeP c.op) with
    | some s => (putP r c.a (wv s), l, true)
    | none => (r, l, false)

def doP (r : List Nat) (l : List UInt8) (c : Cd) : List Nat × List UInt8 × Int :=
  if c.op = 0 then (r, l, 2)
  else if c.op = 1 then (goP r (nextP r), l, 0)
  else if c.op = 2 then (goP r (nextP r), l, 1)
  else if c.op = 3 then (goP (putP r c.a c.n.toNat) (nextP r), l, 0)
  else if c.op = 4 then (goP (putP r c.a ((rg r c.a * 65536 + c.n.toNat) % 18446744073709551616)) (nextP r), l, 0)
  else if c.op = 5 then (goP (putP r c.a (rg r c.b)) (nextP r), l, 0)
  else if 18 ≤ c.op ∧ c.op ≤ 21 then (if (movesP r l c).2.2 = true then (goP (movesP r l c).1 (nextP r), (movesP r l c).2.1, 0) else (r, l, 3))
  else if c.op = 22 then (goP r (farP r c.n), l, 0)
  else if c.op = 23 then (goP r (if rg r c.a = 0 then farP r c.n else nextP r), l, 0)
  else if c.op = 24 then (goP r (if rg r c.a = 0 then nextP r else farP r c.n), l, 0)
  else if c.op = 25 then (goP (putP r c.a (nextP r)) (rg r c.b), l, 0)
  else if c.op = 26 then (goP r (rg r 15), l, 0)
  else (goP (putP r c.a (reck c.op (rg r c.b) (rg r c.c))) (nextP r), l, 0)

def stepP (r : List Nat) (l : List UInt8) : List Nat × List UInt8 × Int :=
  match ldP l (rg r 16) 4 with
  | none => (r, l, 3)
  | some s => match decode s with
    | none => (r, l, 4)
    | some c => doP r l c

theorem right_regs {c : Cd} (h : rightB c = true) : (0 ≤ c.op ∧ c.op < 27) ∧ fitsN (shNum c.op) c.n = true ∧ (0 ≤ c.a ∧ c.a < 16) ∧ (0 ≤ c.b ∧ c.b < 16) ∧ (0 ≤ c.c ∧ c.c < 16) := by
  unfold rightB at h
  simp only [Bool.and_eq_true, decide_eq_true_eq] at h
  obtain ⟨⟨h1, h2⟩, h3, h4, h5⟩ := h
  have H : ∀ {R i x : Int}, regOk R i x = true → 0 ≤ x ∧ x < 16 := by
    intro R i x hx
    unfold regOk at hx
    split at hx
    · simpa using hx
    · have : x = 0 := by simpa using hx
      omega
  exact ⟨h1, h2, H h3, H h4, H h5⟩

theorem shNum_mov {op : Int} (h : 18 ≤ op ∧ op ≤ 21) : shNum op = 2 := by
  unfold shNum
  rw [if_neg (by omega), if_neg (by omega), if_neg (by omega), if_pos h]

theorem right_mov {c : Cd} (h : rightB c = true) (ho : 18 ≤ c.op ∧ c.op ≤ 21) : 0 ≤ c.n ∧ c.n < 256 := by
  have := (right_regs h).2.1
  rw [shNum_mov ho] at this
  simpa [fitsN] using this

theorem ldP_len {l : List UInt8} {x k : Nat} {s : List UInt8} (h : ldP l x k = some s) : s.length = k := by
  unfold ldP at h
  split at h
  · cases h
    simp; omega
  · cases h

theorem sizeP_le (op : Int) : sizeP op ≤ 8 := by unfold sizeP; split <;> decide

/-- cpu.moves -/
theorem moves_spec {w0 w : World} {g : Gh} {l : List UInt8} {p : Nat} {r : List Nat} {m : Value} {c : Cd} {K : Value → World → Prop} (h : Sm w0 w g l p r) (hM : Mem m g.b) (hr : rightB c = true) (ho : 18 ≤ c.op ∧ c.op ≤ 21)
    (hK : ∀ w' g', Evp w g p w' g' → Sm w0 w' g' (movesP r l c).2.1 p (movesP r l c).1 → K (.bool (movesP r l c).2.2) w') : CallK Tryd.prog 28 #[pt p 0, m, c.v] w K := by
  apply Ret.call
  apply F28_ok
  unfold F28
  obtain ⟨hop, _, ha, hb, hc⟩ := right_regs hr
  have hn := right_mov hr ho
  refine rBoxA ?_
  intro w1 c1 f1 s1
  have h1 := h.more f1
  have hlt := h.own.ge
  refine joinOne (L := [pt p 0, m, pt w.heap.size 0, it (sizeP c.op)]) (ds := []) (w := w1) ?_ ?_
  · refine rFA0 <| rLd c1 rfl <| rEq <| rIf (fun h => ?_) (fun h => ?_)
    · have h : c.op = 20 := by simpa using h
      exact ⟨by unfold sizeP; rw [if_pos (.inl h)]; rfl, rfl, rfl⟩
    have h : ¬ c.op = 20 := by simpa using h
    refine rFA0 <| rLd c1 rfl <| rEq <| rIf (fun h2 => ?_) (fun h2 => ?_)
    · have h2 : c.op = 21 := by simpa using h2
      exact ⟨by unfold sizeP; rw [if_pos (.inr h2)]; rfl, rfl, rfl⟩
    · have h2 : ¬ c.op = 21 := by simpa using h2
      exact ⟨by unfold sizeP; rw [if_neg (by omega)]; rfl, rfl, rfl⟩
  intro ρ hρ
  simp only [List.map_cons, List.map_nil, List.cons.injEq, and_true] at hρ
  obtain ⟨e0, e1, e5, e7⟩ := hρ
  unfold F28J1
  rw [e0, e1, e5, e7]
  refine ⟨fun W => Cs W w.heap.size c.cs ∧ Cs W p (stc r), ⟨c1.drew, h1.st.drew⟩, ?_⟩
  have hS : ∀ (v : Value) (o : Nat), c.cs[o]? = some v → ∀ W, (Cs W w.heap.size c.cs ∧ Cs W p (stc r)) → ∃ cs, Cs W w.heap.size cs ∧ cs[o]? = some v := fun v o hv W hW => ⟨_, hW.1, hv⟩
  have hS2 : ∀ (i : Int), i < 17 → ∀ W, (Cs W w.heap.size c.cs ∧ Cs W p (stc r)) → ∃ cs, Cs W p cs ∧ cs[i.toNat]? = some (ut (rg r i)) := fun i hi W hW => ⟨_, hW.2, h.ok.cell hi⟩
  refine rFA0 <| rLdS (it c.b) (hS _ 2 rfl) <| rNil <| rFA0 <| rIAr hb.1 hb.2 <| rLdS _ (hS2 c.b (by omega)) <| rFA0 <| rLdS (it c.n) (hS _ 4 rfl) <| rCv ?_
  rw [wrap_u64 hn.1 (by omega)]
  have en : c.n = ((c.n.toNat : Nat) : Int) := by omega
  have e1' : Value.int .u64 c.n = ut c.n.toNat := congrArg (Value.int .u64) en
  rw [e1']
  refine rAddU ?_
  show joinF _ _ _
  have ea : (rg r c.b + c.n.toNat) % 18446744073709551616 = addrP r c := rfl
  rw [ea]
  have hal : addrP r c < 18446744073709551616 := Nat.mod_lt _ (by decide)
  have f1d : Fr (fun _ => False) w w1.drew := f1.drew
  have h1d := h.more f1d
  have c1d := c1.drew
  generalize w1.drew = w2 at *
  refine joinOne (L := [pt p 0, m, pt w.heap.size 0, it (sizeP c.op), ut (addrP r c), .bool (decide (c.op = 19 ∨ c.op = 21))]) (ds := []) (w := w2) ?_ ?_
  · refine rFA0 <| rLd c1d rfl <| rEq <| rIf (fun h => ?_) (fun h => ?_)
    · have h : c.op = 19 := by simpa using h
      exact ⟨by simp [h], rfl, rfl⟩
    have h : ¬ c.op = 19 := by simpa using h
    refine rFA0 <| rLd c1d rfl <| rEq ⟨?_, rfl, rfl⟩
    have : (c.op == 21) = decide (c.op = 19 ∨ c.op = 21) := by simp [h]; rfl
    rw [this]
  intro ρ hρ
  simp only [List.map_cons, List.map_nil, List.cons.injEq, and_true] at hρ
  obtain ⟨e0, e1, e5, e7, e8, e37⟩ := hρ
  unfold F28J2
  rw [e0, e1, e5, e7, e8, e37]
  unfold movesP at hK
  refine rIf (fun hs => ?_) (fun hs => ?_)
  · have hs : c.op = 19 ∨ c.op = 21 := by simpa using hs
    simp only [if_pos hs] at hK
    refine ⟨fun W => Cs W w.heap.size c.cs ∧ Cs W p (stc r), ⟨c1d.drew, h1d.st.drew⟩, ?_⟩
    refine rFA0 <| rLdS (it c.a) (hS _ 1 rfl) <| rNil <| rFA0 <| rIAr ha.1 ha.2 <| rLdS _ (hS2 c.a (by omega)) <| hM.nilS ⟨?_, trivial⟩
    refine bytes_spec (sizeP_le _) ?_
    intro w3 f3
    have f03 : Fr (fun _ => False) w w3 := (f1d.drew).more f3
    have h3 := h.more f03
    have c3 := c1d.drew.fr f3 id
    refine ⟨⟨c3, h3.st⟩, ?_, trivial⟩
    refine hM.store h3.own rfl hal (by simp only [List.length_take, eight_len]; have := sizeP_le c.op; omega) ?_
    intro w4 g4 evo h4
    have h4' := h3.evo evo h4
    have c4 := c3.fr evo.fr fun hf => by have := hlt _ (.inl hf); omega
    refine ⟨⟨c4, h4'.st⟩, ?_⟩
    refine rEq ?_
    exact hK w4 g4 ((Evp.of_fr0 f03).trans (.of_evo evo)) h4'
  have hs : ¬ (c.op = 19 ∨ c.op = 21) := by simpa using hs
  simp only [if_neg hs] at hK
  refine hM.load h1d.own rfl hal (sizeP_le _) ?_
  intro w3 f3
  have f03 : Fr (fun _ => False) w w3 := f1d.more f3
  have h3 := h.more f03
  have c3 := c1d.fr f3 id
  cases hl : ldP l (addrP r c) (sizeP c.op) with
  | none =>
    simp only [hl] at hK
    refine rExt0 <| rExt1 <| rNe <| rIfT ?_
    exact hK w3 g (.of_fr0 f03) h3
  | some s =>
    simp only [hl] at hK
    have hsl := ldP_len hl
    have hs8 : s.length ≤ 8 := by rw [hsl]; exact sizeP_le _
    have hwv : wv s < 18446744073709551616 := Nat.lt_of_lt_of_le (wv_lt s) (by
      have : 256 ^ s.length ≤ 256 ^ 8 := Nat.pow_le_pow_right (by decide) hs8
      exact this)
    refine rExt0 <| rExt1 <| rNe <| rIfF ?_
    refine ⟨fun W => Cs W w.heap.size c.cs, c3.drew, ?_⟩
    refine rFA0 <| rLdS (it c.a) (fun W hW => ⟨_, hW, rfl⟩) <| rNil <| rFA0 ⟨?_, trivial⟩
    refine number_spec hs8 ⟨c3.drew, ?_⟩
    refine rIAr ha.1 ha.2 ⟨?_, trivial⟩
    refine (h.more f03.drew).set (by omega) hwv ?_
    intro w4 f4 h4
    exact hK w4 g ((Evp.of_fr0 f03.drew).trans (.of_fr f4)) h4

end Go.Proofs.YtmaecpbkbkncgaaDoor
