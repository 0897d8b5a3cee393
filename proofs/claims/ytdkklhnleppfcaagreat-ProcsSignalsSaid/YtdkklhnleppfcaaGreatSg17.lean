/-
  The kernel, plain, where all that is touched has the label {1}: its state, and what each call makes of it. Own work; no program in sight.
-/
import Derived.Test.YtdkklhnleppfcaaGreatSg07
import Derived.Test.YtdkklhnleppfcaaGreatSg15
set_option linter.unusedVariables false
set_option linter.unusedSimpArgs false

set_option linter.unusedVariables false
set_option linter.unusedSimpArgs false
namespace Go.V
open Go

structure ObP where
  kind : Int
  quota : Int
  used : Int
  links : Int
  list : List Int

structure ThP where
  bytes : Option (List UInt8)
  clear : Int
  space : Int × Int
  r1 : Int
  pc : Int
  entry : Int
  does : Int

structure KP where
  T : Int → Option ObP
  n : Nat
  H : Int → Option ThP
  D : Int → Bool
  last : Int
  tk : Int → Option (Int × Int × Int)
  al : Int → Option (List Int)
  ticks : Int

def u64v (n : Int) : Value := .int .u64 n
def stateC (r1 pc : Int) : List Value := [u64v 0, u64v r1, u64v 0, u64v 0, u64v 0, u64v 0, u64v 0, u64v 0, u64v 0, u64v 0, u64v 0, u64v 0, u64v 0, u64v 0, u64v 0, u64v 0, u64v pc]
structure KP.Wf (κ : KP) : Prop where
  th : ∀ n o, κ.T n = some o → o.kind = 4 → ∃ x, κ.H n = some x ∧ x.clear = 3
  seg : ∀ n o, κ.T n = some o → o.kind = 2 → ∃ x l, κ.H n = some x ∧ x.bytes = some l
  ents : ∀ c o n, κ.T c = some o → n ∈ o.list → ∃ o', κ.T n = some o'
  len : ∀ c o, κ.T c = some o → o.list.length < 1000000
  al : ∀ n l, κ.al n = some l → l.length ≤ 8

def idB (n : Int) : Bool := decide (1 ≤ n) && decide (n ≤ 2305843009213693951)

def KP.runs (κ : KP) (me : Int) : Bool :=
  match κ.T me, κ.H me with
  | some o, some x => decide (o.kind = 4) && decide (x.does = 0)
  | _, _ => false

def KP.ref (κ : KP) (r : Int × Int) : Option ObP :=
  match κ.T r.1 with
  | some c => if c.kind = 1 ∧ r.2 ∈ c.list then κ.T r.2 else none
  | none => none

def KP.get (κ : KP) (r : Int × Int) (kind : Int) : Int :=
  match κ.ref r with
  | none => 4
  | some o => if o.kind ≠ kind then 5 else 0

def KP.bytes (κ : KP) (n : Int) : List UInt8 := ((κ.H n).bind (·.bytes)).getD []
def KP.setBytes (κ : KP) (n : Int) (l : List UInt8) : KP := { κ with H := upF κ.H n ((κ.H n).map fun x => { x with bytes := some l }) }
def fitsB (l : List UInt8) (a n : Int) : Bool := decide (0 ≤ a) && decide (0 ≤ n) && decide (a + n ≤ l.length)
def cutB (l : List UInt8) (a n : Int) : List UInt8 := (l.drop a.toNat).take n.toNat
def putB (l : List UInt8) (a : Int) (s : List UInt8) : List UInt8 := l.take a.toNat ++ s ++ l.drop (a.toNat + s.length)

end Go.V

/-
  Pages, part 1: what a row of bytes is in memory; own. Own work.
-/
set_option linter.unusedVariables false
set_option linter.unusedSimpArgs false
set_option maxRecDepth 100000
namespace Go.Proofs.YtdkklhnleppfcaaGreat
open Go Go.V

def pgc (c : Nat → UInt8) (p : Nat) : List Value := (List.range 64).map fun j => .int .u8 (c (64 * p + j)).toNat

theorem pgc_len (c : Nat → UInt8) (p : Nat) : (pgc c p).length = 64 := by simp [pgc]
theorem pgc_congr {c d : Nat → UInt8} {p : Nat} (h : ∀ j, j < 64 → c (64 * p + j) = d (64 * p + j)) : pgc c p = pgc d p := by
  unfold pgc
  exact List.map_congr_left fun j hj => by rw [h j (by simpa using hj)]

abbrev Row := RowR

theorem _root_.Go.V.RowR.fr {w w' : World} {v : Value} {xs : List Value} {bl : Option Nat} {F : Nat → Prop} (h : Row w v xs bl) (hf : Fr F w w') (hF : ∀ k, bl = some k → ¬ F k) : Row w' v xs bl := by
  cases bl with
  | none => exact h
  | some l => obtain ⟨r, c, h1, h2, h3⟩ := h; exact ⟨r, c, h1, h2.fr hf (hF l rfl), h3⟩

structure Gh where
  b : Nat
  ps : List Nat
  ow : List Bool
  lb : Option Nat
  ob : Option Nat

def Gh.foot (g : Gh) (k : Nat) : Prop := k = g.b ∨ g.lb = some k ∨ g.ob = some k ∨ ∃ i : Nat, g.ow[i]? = some true ∧ g.ps[i]? = some k
def Gh.sees (g : Gh) (k : Nat) : Prop := g.foot k ∨ k ∈ g.ps

structure By (w : World) (g : Gh) (n : Nat) (c : Nat → UInt8) : Prop where
  hd : ∃ lv ov, Cs w g.b [it n, lv, ov] ∧ Row w lv (g.ps.map (pt · 0)) g.lb ∧ Row w ov (g.ow.map .bool) g.ob
  pgs : ∀ (i q : Nat), g.ps[i]? = some q → Cs w q (pgc c i)
  ow : g.ow.length = g.ps.length
  d1 : ∀ k, g.lb = some k → k ≠ g.b ∧ g.ob ≠ some k ∧ k ∉ g.ps
  d2 : ∀ k, g.ob = some k → k ≠ g.b ∧ k ∉ g.ps
  d3 : g.b ∉ g.ps
  d4 : ∀ (i j q : Nat), g.ow[i]? = some true → g.ps[i]? = some q → g.ps[j]? = some q → i = j

theorem By.fr {w w' : World} {g : Gh} {n : Nat} {c : Nat → UInt8} {F : Nat → Prop} (h : By w g n c) (hf : Fr F w w') (hF : ∀ k, g.sees k → ¬ F k) : By w' g n c := by
  obtain ⟨⟨lv, ov, h1, h2, h3⟩, h4, h5, h6, h7, h8, h9⟩ := h
  exact ⟨⟨lv, ov, h1.fr hf (hF _ (.inl (.inl rfl))), h2.fr hf (fun k hk => hF _ (.inl (.inr (.inl hk)))), h3.fr hf (fun k hk => hF _ (.inl (.inr (.inr (.inl hk)))))⟩,
    fun i q hq => (h4 i q hq).fr hf (hF _ (.inr (List.mem_of_getElem? hq))), h5, h6, h7, h8, h9⟩

theorem By.lt {w : World} {g : Gh} {n : Nat} {c : Nat → UInt8} (h : By w g n c) : ∀ k, g.sees k → k < w.heap.size := by
  obtain ⟨⟨lv, ov, h1, h2, h3⟩, h4, h5, h6, h7, h8, h9⟩ := h
  have hp : ∀ k ∈ g.ps, k < w.heap.size := fun k hk => by
    obtain ⟨i, hi⟩ := List.mem_iff_getElem?.1 hk
    exact (h4 i k hi).lt
  rintro k ((rfl | hk | hk | ⟨i, _, hi⟩) | hk)
  · exact h1.lt
  · rw [hk] at h2; obtain ⟨r, _, _, h, _⟩ := h2; exact h.lt
  · rw [hk] at h3; obtain ⟨r, _, _, h, _⟩ := h3; exact h.lt
  · exact (h4 i k hi).lt
  · exact hp k hk

structure Evo (w : World) (g : Gh) (w' : World) (g' : Gh) : Prop where
  fr : Fr g.foot w w'
  b : g'.b = g.b
  foot : ∀ k, g'.foot k → g.foot k ∨ w.heap.size ≤ k
  sees : ∀ k, k ∈ g'.ps → g.sees k ∨ w.heap.size ≤ k

theorem Evo.refl (w : World) (g : Gh) : Evo w g w g := ⟨Fr.refl _ _, rfl, fun _ => .inl, fun _ h => .inl (.inr h)⟩

theorem Evo.then {w w' w'' : World} {g g' : Gh} (h : Evo w g w' g') {F : Nat → Prop} (k : Fr F w' w'') (hF : ∀ x, x < w.heap.size → F x → g.foot x) : Evo w g w'' g' :=
  ⟨h.fr.trans k hF, h.b, h.foot, h.sees⟩

theorem zc85 : zc Tryz.prog 403 = some (pgc (fun _ => 0) 0).toArray := by kernel_rfl
theorem pgc_one (c : Nat → UInt8) (p : Nat) : ∀ x ∈ pgc c p, x.oneCell' = true := by
  intro x hx
  obtain ⟨j, _, rfl⟩ := List.mem_map.1 hx
  rfl

theorem own_spec {w : World} {g : Gh} {n : Nat} {c : Nat → UInt8} {p : Nat} {K : Value → World → Prop} (h : By w g n c) (hp : p < g.ps.length)
    (hK : ∀ w' q g', By w' g' n c → Evo w g w' g' → g'.ps.length = g.ps.length → g'.ps[p]? = some q → g'.ow[p]? = some true → K (pt q 0) w') :
    Ret Tryz.prog 210 #[pt g.b 0, it p] w K := by
  have hby := h
  obtain ⟨⟨lv, ov, h1, h2, h3⟩, h4, h5, h6, h7, h8, h9⟩ := h
  obtain ⟨b, ps, ow, lb, ob⟩ := g
  simp only at *
  cases lb with
  | none => obtain ⟨_, h2⟩ := h2; simp at h2; subst h2; simp at hp
  | some l =>
  cases ob with
  | none => obtain ⟨_, h3⟩ := h3; simp at h3; subst h3; simp at h5; omega
  | some o =>
  obtain ⟨lr, lc, rfl, hl, hl1, hl2⟩ := h2
  obtain ⟨or, oc, rfl, ho, ho1, ho2⟩ := h3
  obtain ⟨hlb, hlo, hlp⟩ := h6 l rfl
  obtain ⟨hob, hop⟩ := h7 o rfl
  have hlo' : o ≠ l := fun e => hlo (by rw [e])
  have hpo : p < ow.length := by omega
  apply F210_ok
  unfold F210
  refine rNil <| rFA0 <| rLd h1 rfl ?_
  refine rIA (by simpa using hpo) ?_
  rw [Nat.mul_one]
  refine rLd (v := .bool ow[p]) ho (by simp [List.getElem?_append, hpo]) ?_
  show (if (!ow[p]) = true then _ else _)
  have hq : ps[p]? = some ps[p] := List.getElem?_eq_getElem hp
  have hpm : ps[p] ∈ ps := List.getElem_mem hp
  split
  · rename_i hown
    have hown : ow[p] = false := by simpa using hown
    refine rNil <| rFA0 <| rLd h1 rfl ?_
    refine rIA (by simpa using hp) ?_
    rw [Nat.mul_one]
    refine rLd (v := pt ps[p] 0) hl (by simp [List.getElem?_append, hp]) ?_
    refine rNil <| rLdN (h4 p _ hq) (by simp [pgc_len]) ?_
    refine rAlloc zc85 ?_
    have hz := Cs.new w (pgc (fun _ => 0) 0) 403
    rw [List.drop_zero, List.take_of_length_le (by simp [pgc_len])]
    refine rStN hz (by simp [pgc_len]) (by simp [pgc_len]) (pgc_one c p) ?_
    intro w2 u2
    have e0 : spl (pgc (fun _ => 0) 0) 0 (pgc c p) = pgc c p := by simp [spl, pgc_len]
    rw [e0] at u2
    have hs2 : w2.heap.size = w.heap.size + 1 := by rw [u2.size]; simp
    have hlt := hby.lt
    have fr2 : Fr (fun _ => False) w w2 := ((Fr.refl _ w).alloc _).trans u2.fr (fun x hx e => by omega)
    have hb2 := h1.fr fr2 id
    have hl2' := hl.fr fr2 id
    have ho2' := ho.fr fr2 id
    refine ⟨fun w' => Cs w' b _, hb2, ?_⟩
    refine rNil <| rFA0 <| rLdS _ (fun w h => ⟨_, h, rfl⟩) ?_
    refine rNil <| rFA0 <| rLdS _ (fun w h => ⟨_, h, rfl⟩) ?_
    refine rIA (by simpa using hp) ?_
    rw [Nat.mul_one]
    refine ⟨?_, trivial⟩
    refine rSt hl2'.drew (by simp; omega) rfl (by simp) ?_
    intro w3 u3
    have hb3 := hb2.drew.up u3 (Ne.symm hlb)
    refine rIA (by simpa using hpo) ?_
    rw [Nat.mul_one]
    have ho3 := ho2'.drew.up u3 hlo'
    refine ⟨?_, trivial⟩
    refine rSt ho3 (by simp; omega) rfl (by simp) ?_
    intro w4 u4
    have hb4 := hb3.up u4 (Ne.symm hob)
    have hl4 := u3.cs.up u4 (Ne.symm hlo')
    refine rNil <| rFA0 <| rLd hb4 rfl ?_
    refine rIA (by simpa using hp) ?_
    rw [Nat.mul_one]
    refine rLd (v := pt w.heap.size 0) hl4 (by rw [List.set_append_left _ _ (by simpa using hp)]; simp [List.getElem?_append, hp]) ?_
    have frA : Fr (fun k => k = l ∨ k = o) w w2 := fr2.mono fun _ _ => False.elim
    have frB : Fr (fun k => k = l ∨ k = o) w2 w3 := (Fr.refl _ w2).drew.trans (u3.fr.mono fun _ _ => .inl) fun _ _ => id
    have frC : Fr (fun k => k = l ∨ k = o) w3 w4 := u4.fr.mono fun _ _ => .inr
    have fr4 := (frA.trans frB fun _ _ => id).trans frC fun _ _ => id
    have hnl : w.heap.size ≠ l := fun e => by have := hl.lt; omega
    have hno : w.heap.size ≠ o := fun e => by have := ho.lt; omega
    have hqn : ∀ q ∈ ps, q ≠ w.heap.size := fun q hq e => by
      obtain ⟨i, hi⟩ := List.mem_iff_getElem?.1 hq
      have := (h4 i q hi).lt
      omega
    have hnew : Cs w4 w.heap.size (pgc c p) := (u2.cs.drew.up u3 hnl).up u4 hno
    have hmem : ∀ q, q ∈ ps.set p w.heap.size → q ∈ ps ∨ q = w.heap.size := fun q hq => List.mem_or_eq_of_mem_set hq
    refine hK w4 w.heap.size ⟨b, ps.set p w.heap.size, ow.set p true, some l, some o⟩ ⟨⟨_, _, hb4, ⟨lr, lc, by simp, ?_, by simpa using hl1, by simpa using hl2⟩, ⟨or, oc, by simp, ?_, by simpa using ho1, by simpa using ho2⟩⟩, ?_, by simpa using h5, ?_, ?_, ?_, ?_⟩ ⟨fr4.mono ?_, rfl, ?_, ?_⟩ (by simp) (by simp [hp]) (by simp [hpo])
    · rw [List.set_append_left _ _ (by simpa using hp)] at hl4
      simpa using hl4
    · have := u4.cs
      rw [List.set_append_left _ _ (by simpa using hpo)] at this
      simpa using this
    · intro i q hi
      by_cases e : p = i
      · subst e
        simp [hp] at hi
        subst hi
        exact hnew
      · simp [List.getElem?_set_ne e] at hi
        have hm : q ∈ ps := List.mem_of_getElem? hi
        exact (h4 i q hi).fr fr4 (by rintro (rfl | rfl); exact hlp hm; exact hop hm)
    · intro k hk
      cases hk
      exact ⟨hlb, hlo, fun hm => (hmem _ hm).elim hlp (Ne.symm hnl)⟩
    · intro k hk
      cases hk
      exact ⟨hob, fun hm => (hmem _ hm).elim hop (Ne.symm hno)⟩
    · exact fun hm => (hmem _ hm).elim h8 (fun e => by have := h1.lt; simp only at e; omega)
    · intro i j q hi hi2 hj2
      simp only at hi hi2 hj2
      by_cases ei : p = i
      · subst ei
        simp [hp] at hi2
        by_cases ej : p = j
        · exact ej
        · simp [List.getElem?_set_ne ej] at hj2
          exact absurd hi2.symm (hqn q (List.mem_of_getElem? hj2))
      · simp [List.getElem?_set_ne ei] at hi2 hi
        by_cases ej : p = j
        · subst ej
          simp [hp] at hj2
          exact absurd hj2.symm (hqn q (List.mem_of_getElem? hi2))
        · simp [List.getElem?_set_ne ej] at hj2
          exact h9 i j q hi hi2 hj2
    · rintro k _ (rfl | rfl)
      · exact .inr (.inl rfl)
      · exact .inr (.inr (.inl rfl))
    · rintro k (hk | hk | hk | ⟨i, hi, hi2⟩)
      · exact .inl (.inl hk)
      · exact .inl (.inr (.inl hk))
      · exact .inl (.inr (.inr (.inl hk)))
      · simp only at hi hi2
        by_cases ei : p = i
        · subst ei
          simp [hp] at hi2
          exact .inr (by omega)
        · simp [List.getElem?_set_ne ei] at hi2 hi
          exact .inl (.inr (.inr (.inr ⟨i, hi, hi2⟩)))
    · intro k hk
      rcases hmem k hk with hk | hk
      · exact .inl (.inr hk)
      · exact .inr (by omega)
  · rename_i hown
    have hown : ow[p] = true := by simpa using hown
    refine rNil <| rFA0 <| rLd h1 rfl ?_
    refine rIA (by simpa using hp) ?_
    rw [Nat.mul_one]
    refine rLd (v := pt ps[p] 0) hl (by simp [List.getElem?_append, hp]) ?_
    refine hK w _ ⟨b, ps, ow, some l, some o⟩ ⟨⟨_, _, h1, ⟨lr, lc, rfl, hl, hl1, hl2⟩, ⟨or, oc, rfl, ho, ho1, ho2⟩⟩, h4, h5, h6, h7, h8, h9⟩ (Evo.refl _ _) rfl hq ?_
    simp only; rw [List.getElem?_eq_getElem hpo, hown]

end Go.Proofs.YtdkklhnleppfcaaGreat

/-
  Pages, part 2: the small functions; pieces. Own work.
-/
set_option linter.unusedVariables false
set_option linter.unusedSimpArgs false
set_option maxRecDepth 100000
namespace Go.Proofs.YtdkklhnleppfcaaGreat
open Go Go.V


def Bi (w : World) (k : Nat) (n : Int) : Prop := Cs w k [it n]

theorem rem_nat {a : Nat} {K : Value → Prop} (k : K (it (a % 64 : Nat))) : vBin (.int .i64) .rem (it a) (it 64) K := by
  refine ⟨rfl, by decide, ?_⟩
  have : Int.tmod (a : Int) 64 = ((a % 64 : Nat) : Int) := by rw [Int.tmod_eq_emod_of_nonneg (by omega)]; simp
  rw [this]; exact k

theorem quo_nat {a : Nat} (ha : a < 9223372036854775808) {K : Value → Prop} (k : K (it (a / 64 : Nat))) : vBin (.int .i64) .quo (it a) (it 64) K := by
  refine ⟨rfl, by decide, ?_⟩
  have : Int.tdiv (a : Int) 64 = ((a / 64 : Nat) : Int) := by rw [Int.tdiv_eq_ediv_of_nonneg (by omega)]; simp
  rw [this, wrap_id (by omega) (by omega)]; exact k


theorem b65 : (fun (a b : Int) (K : Value → Prop) => vBuild Tryz.prog 288 [(0, it a), (1, it b)] K) = fun a b K => ((1 : Nat) = 1 ∧ (1 : Nat) = 1 ∧ K (.agg #[it a, it b])) := by kernel_rfl
theorem build65 {a b : Int} {K : Value → Prop} (k : K (.agg #[it a, it b])) : vBuild Tryz.prog 288 [(0, it a), (1, it b)] K := by
  have := congrFun (congrFun (congrFun b65 a) b) K
  simp only at this
  rw [this]; exact ⟨trivial, trivial, k⟩

theorem Cs.cell {w : World} {b o : Nat} {cs : List Value} {v : Value} (h : Cs w b cs) (hv : cs[o]? = some v) : w.cell? ⟨b, o, none⟩ = some v := by
  obtain ⟨T, h⟩ := h
  simp [World.cell?, h, hv]

theorem pieces_spec {l kn ka a0 n0 : Nat} {w : World} {K : Value → World → Prop} (J : Nat → Nat → World → Prop) (hne : kn ≠ ka) (hb : a0 + n0 < 4611686018427387904)
    (hn : Bi w kn n0) (ha : Bi w ka a0) (hJ : J a0 n0 w)
    (hR : ∀ a n w, a + n = a0 + n0 → 0 < n → Bi w kn n → Bi w ka a → J a n w →
      Round Tryz.prog l #[it (a / 64 : Nat), .agg #[it (a % 64 : Nat), it (min (a % 64 + n) 64 : Nat)]] w fun v w' => v = .bool true ∧ Bi w' kn n ∧ Bi w' ka a ∧
        ∀ w2 w3, Up w' ka [it (a + (min (a % 64 + n) 64 - a % 64) : Nat)] w2 → Up w2 kn [it (n - (min (a % 64 + n) 64 - a % 64) : Nat)] w3 →
          J (a + (min (a % 64 + n) 64 - a % 64)) (n - (min (a % 64 + n) 64 - a % 64)) w3)
    (hK : ∀ w, Bi w kn 0 → Bi w ka (a0 + n0 : Nat) → J (a0 + n0) 0 w → K (.tuple #[]) w) :
    Ret Tryz.prog 232 #[.func (.yield l) #[] #[], pt kn 0, pt ka 0] w K := by
  apply F232_ok
  refine ⟨fun vs ds w => vs = [.func (.yield l) #[] #[], pt kn 0, pt ka 0] ∧ ds = [] ∧ ∃ a n : Nat, a + n = a0 + n0 ∧ Bi w kn n ∧ Bi w ka a ∧ J a n w,
    fun vs ds w => match w.cell? ⟨kn, 0, none⟩ with | some (.int _ n) => n.toNat | _ => 0, ⟨rfl, rfl, a0, n0, rfl, hn, ha, hJ⟩, ?_⟩
  rintro ρ ds w ⟨hρ, rfl, a, n, hs, hn, ha, hJ⟩
  simp only [List.map_cons, List.map_nil, List.cons.injEq, and_true] at hρ
  obtain ⟨e0, e1, e2⟩ := hρ
  unfold F232L1
  simp only [List.map, e0, e1, e2]
  refine rLd hn rfl <| rGt <| rIf (fun h0 => ?_) (fun h0 => ?_)
  · have h0 : 0 < n := by simpa using h0
    refine rLd ha rfl <| rem_nat <| rLd hn rfl <| rAdd (by omega) (by omega) ?_
    refine rMin2 ?_
    have em : (if (64 : Int) < ((a % 64 : Nat) : Int) + (n : Int) then (64 : Int) else ((a % 64 : Nat) : Int) + (n : Int)) = ((min (a % 64 + n) 64 : Nat) : Int) := by
      split <;> omega
    rw [em]
    refine rLd ha rfl <| quo_nat (by omega) ?_
    refine build65 ?_
    have hr := hR a n w hs h0 hn ha hJ
    refine Round.mono hr ?_
    rintro v w' ⟨rfl, hn', ha', hJ'⟩
    refine rNot <| rIfF ?_
    refine rLd ha' rfl <| rSub (by omega) (by omega) <| rAdd (by omega) (by omega) ?_
    have ed : ((a : Int) + (((min (a % 64 + n) 64 : Nat) : Int) - ((a % 64 : Nat) : Int))) = ((a + (min (a % 64 + n) 64 - a % 64) : Nat) : Int) := by omega
    rw [ed]
    refine rSt ha' (by simp) rfl (by simp) ?_
    intro w2 u2
    have hn2 := hn'.up u2 hne
    refine rLd hn2 rfl <| rSub (by omega) (by omega) <| rSub (by omega) (by omega) ?_
    have ed2 : ((n : Int) - (((min (a % 64 + n) 64 : Nat) : Int) - ((a % 64 : Nat) : Int))) = ((n - (min (a % 64 + n) 64 - a % 64) : Nat) : Int) := by omega
    rw [ed2]
    refine rSt hn2 (by simp) rfl (by simp) ?_
    intro w3 u3
    refine ⟨⟨trivial, trivial, a + (min (a % 64 + n) 64 - a % 64), n - (min (a % 64 + n) 64 - a % 64), by omega, u3.cs, u2.cs.up u3 (Ne.symm hne), hJ' w2 w3 u2 u3⟩, ?_⟩
    rw [Cs.cell u3.cs (v := it (n - (min (a % 64 + n) 64 - a % 64) : Nat)) rfl, Cs.cell hn (v := it n) rfl]
    simp
    omega
  · have h0 : n = 0 := by simpa using h0
    subst h0
    refine hK _ hn ?_ ?_
    · rw [← hs]; exact ha
    · rw [← hs]; exact hJ

theorem ldE {w : World} {b o : Nat} {cs : List Value} {v : Value} (h : Cs w b cs) (hv : cs[o]? = some v) (K : Value → Prop) : vLd .one (.pointer (some ⟨b, o, none⟩)) w K = K v := by
  obtain ⟨T, h⟩ := h
  simp [vLd, ld1, World.cell?, h, hv]

def fitsE (n : Nat) (at' k : Int) : Int := if at' < 0 ∨ k < 0 ∨ (n : Int) < at' ∨ n - at' < k then 9 else 0

theorem fits_spec {w : World} {b n : Nat} {lv ov : Value} {at' k : Int} {K : Value → World → Prop} (h : Cs w b [it n, lv, ov]) (hn : n ≤ 4096) (ha : -9223372036854775808 ≤ at') (ha2 : at' < 9223372036854775808) (hK : K (it (fitsE n at' k)) w) :
    Ret Tryz.prog 149 #[pt b 0, it at', it k] w K := by
  apply F149_ok
  have hl := ldE (o := 0) h rfl
  unfold fitsE at hK
  by_cases h1 : at' < 0
  · simp [h1] at hK
    simp [F149, vPtr, vEqB, vBool, vBin, vInt, vNilP, vNil, vFA, addr_add, hl, h1, hK]
  by_cases h2 : k < 0
  · simp [h1, h2] at hK
    simp [F149, vPtr, vEqB, vBool, vBin, vInt, vNilP, vNil, vFA, addr_add, hl, h1, h2, hK]
  by_cases h3 : (n : Int) < at'
  · have h3' : ¬ at' ≤ n := by omega
    simp [h1, h2, h3] at hK
    simp [F149, vPtr, vEqB, vBool, vBin, vInt, vNilP, vNil, vFA, addr_add, hl, h1, h2, h3, h3', hK]
  have hw : IntKind.i64.wrap ((n : Int) - at') = n - at' := wrap_id (by omega) (by omega)
  by_cases h4 : (n : Int) - at' < k
  · have h4' : ¬ k ≤ n - at' := by omega
    simp [h1, h2, h3, h4] at hK
    simp [F149, vPtr, vEqB, vBool, vBin, vInt, vNilP, vNil, vFA, addr_add, hl, h1, h2, h3, h4, h4', hw, hK]
  · simp [h1, h2, h3, h4] at hK
    simp [F149, vPtr, vEqB, vBool, vBin, vInt, vNilP, vNil, vFA, addr_add, hl, h1, h2, h3, h4, hw, hK]

end Go.Proofs.YtdkklhnleppfcaaGreat

/-
  Pages, part 3: a range over pieces; strings.Join; the builder. Own work.
-/
set_option linter.unusedVariables false
set_option linter.unusedSimpArgs false
set_option maxRecDepth 100000
namespace Go.Proofs.YtdkklhnleppfcaaGreat
open Go Go.V

def dl (a m : Nat) : Nat := min (a % 64 + m) 64 - a % 64

theorem range_pieces {sel : List Nat} {init : List Value} {ps : List Nat} {asg : Option Nat → Env → World → QV → Prop} {bdy : Option Nat → Env → World → (Exit → World → Prop) → Prop}
    {ds : List Nat} {w : World} {Kn Kr : List Nat → World → Prop} {Kx : List (Nat × (List Nat → World → Prop))} {kn ka a0 n0 : Nat} (J : Nat → Nat → World → Prop)
    (hps : ps.length = 2) (hn : Bi w kn n0) (ha : Bi w ka a0) (hne : kn ≠ ka) (hb : a0 + n0 < 4611686018427387904) (hJ : J a0 n0 w)
    (hst : ∀ a m W W', J a m W → Fr (fun k => k = kn ∨ k = ka ∨ (w.heap.size ≤ k ∧ k < w.heap.size + 2)) W W' → J a m W')
    (hR : ∀ (rec : Loop) (ρb : Env) (a m : Nat) (W : World), sel.map ρb = init → a + m = a0 + n0 → 0 < m → w.heap.size + 2 ≤ W.heap.size → J a m W → W.heap[w.heap.size + 1]? = some (.loop rec) →
      ∀ Q : Exit → World → Prop, (∀ W2, Fr (fun k => k ≠ kn ∧ k ≠ ka ∧ k ≠ w.heap.size ∧ k ≠ w.heap.size + 1) (W.putObj (w.heap.size + 1) (.loop { rec with state := .busy })) W2 → J (a + dl a m) (m - dl a m) W2 → Q .normal W2) →
      asg (some (w.heap.size + 1)) (putAll ρb ps [it (a / 64 : Nat), .agg #[it (a % 64 : Nat), it (min (a % 64 + m) 64 : Nat)]]) W fun e ρ1 ds1 W1 =>
        e = .normal ∧ ds1 = [] ∧ W1.heap[w.heap.size + 1]? = some (.loop rec) ∧ bdy (some (w.heap.size + 1)) ρ1 (W1.putObj (w.heap.size + 1) (.loop { rec with state := .busy })) Q)
    (hK : ∀ W, J (a0 + n0) 0 W → W.heap[w.heap.size]? = some (.deferred (some [])) → Kn (w.heap.size :: ds) W) :
    rangeF Tryz.prog none sel init ps asg bdy (.func (.func 232) #[] #[pt kn 0, pt ka 0]) ds w Kn Kr Kx := by
  intro rec ρb hrs hrp hsel hround
  have hkn : kn < w.heap.size := hn.lt
  have hka : ka < w.heap.size := ha.lt
  have frD : Fr (fun _ => False) w (w.alloc (.deferred (some []))) := (Fr.refl _ w).alloc _
  have fr0 : Fr (fun _ => False) w ((w.alloc (.deferred (some []))).alloc (.loop rec)) := frD.alloc _
  have hD0 : ((w.alloc (.deferred (some []))).alloc (.loop rec)).heap[w.heap.size]? = some (.deferred (some [])) := by
    rw [blk_lt _ _ _ (by simp)]; exact World.alloc_heap_new _ _
  have hL0 : ((w.alloc (.deferred (some []))).alloc (.loop rec)).heap[w.heap.size + 1]? = some (.loop rec) := by
    have := World.alloc_heap_new (w.alloc (.deferred (some []))) (.loop rec)
    simpa using this
  refine pieces_spec (fun a m W => J a m W ∧ W.heap[w.heap.size]? = some (.deferred (some [])) ∧ W.heap[w.heap.size + 1]? = some (.loop rec)) hne hb (hn.fr fr0 id) (ha.fr fr0 id)
    ⟨hst _ _ _ _ hJ (fr0.mono fun _ _ => False.elim), hD0, hL0⟩ ?_ ?_
  · rintro a m W hs hm hbn hba ⟨hJ, hD, hL⟩
    have hsz : w.heap.size + 2 ≤ W.heap.size := by have := lt_of_blk hL; omega
    refine hround [_, _] W _ ?_
    refine ⟨by simp [hps], hL, hR rec ρb a m W hsel hs hm hsz hJ hL _ ?_⟩
    intro W2 hfr hJ2
    have hbusy : W2.heap[w.heap.size + 1]? = some (.loop { rec with state := .busy }) := hfr.get (World.putObj_heap_same (lt_of_blk hL)) (fun h => h.2.2.2 rfl)
    refine ⟨hbusy, ?_⟩
    have hrec : ({ rec with state := .ready, pending := none } : Loop) = rec := by
      cases rec; simp only at hrs hrp; subst hrs hrp; rfl
    show (_ = _) ∧ _
    simp only [Option.isNone_none, if_true]
    rw [hrec]
    have keep : ∀ k, k ≠ w.heap.size + 1 → (k = kn ∨ k = ka ∨ k = w.heap.size) → k < W.heap.size → (W2.putObj (w.heap.size + 1) (.loop rec)).heap[k]? = W.heap[k]? := by
      intro k h1 h2 h3
      rw [World.putObj_heap_other h1, hfr.same k (by simpa using h3) (by rintro ⟨a, b, c, d⟩; rcases h2 with h | h | h <;> contradiction), World.putObj_heap_other h1]
    have frL : Fr (fun k => k = kn ∨ k = ka ∨ (w.heap.size ≤ k ∧ k < w.heap.size + 2)) W2 (W2.putObj (w.heap.size + 1) (.loop rec)) := (Fr.refl _ W2).put _ fun _ => .inr (.inr ⟨by omega, by omega⟩)
    refine ⟨trivial, hbn.same (keep kn (by omega) (.inl rfl) hbn.lt), hba.same (keep ka (by omega) (.inr (.inl rfl)) hba.lt), ?_⟩
    intro w2 w3 u2 u3
    have hDk := keep w.heap.size (by omega) (.inr (.inr rfl)) (by omega)
    have hL3 : (W2.putObj (w.heap.size + 1) (.loop rec)).heap[w.heap.size + 1]? = some (.loop rec) := World.putObj_heap_same (lt_of_blk hbusy)
    refine ⟨hst _ _ _ _ hJ2 ((frL.trans (u2.fr.mono (G := fun k => k = kn ∨ k = ka ∨ (w.heap.size ≤ k ∧ k < w.heap.size + 2)) fun _ _ h => .inr (.inl h)) fun _ _ => id).trans (u3.fr.mono (G := fun k => k = kn ∨ k = ka ∨ (w.heap.size ≤ k ∧ k < w.heap.size + 2)) fun _ _ h => .inl h) fun _ _ => id), ?_, ?_⟩
    · exact u3.fr.get (u2.fr.get (hDk.trans hD) (by omega)) (by omega)
    · exact u3.fr.get (u2.fr.get hL3 (by omega)) (by omega)
  · rintro W hbn hba ⟨hJ, hD, hL⟩
    refine ⟨rec.state, rec.pending, hL, by rw [hrs]; simp, ?_⟩
    rw [hrp]
    have frL : Fr (fun k => k = kn ∨ k = ka ∨ (w.heap.size ≤ k ∧ k < w.heap.size + 2)) W (W.putObj (w.heap.size + 1) (.loop { rec with state := .exhausted, pending := none })) := (Fr.refl _ W).put _ fun _ => .inr (.inr ⟨by omega, by omega⟩)
    refine hK _ (hst _ _ _ _ hJ frL) ?_
    rw [World.putObj_heap_other (by omega)]
    exact hD

end Go.Proofs.YtdkklhnleppfcaaGreat

/-
  Pages, part 4: strings.Join; the builder. Own work.
-/
set_option linter.unusedVariables false
set_option linter.unusedSimpArgs false
set_option maxRecDepth 100000
namespace Go.Proofs.YtdkklhnleppfcaaGreat
open Go Go.V Go.RowKit

abbrev str (l : List UInt8) : Value := .string ⟨l.toArray⟩

theorem rPNil {w : World} {K : Value → Prop} (k : K (.bool true)) : vPtr .eql (.pointer none) (.pointer none) w K := k
theorem rPNil' {w : World} {b o : Nat} {K : Value → Prop} (k : K (.bool false)) : vPtr .eql (pt b o) (.pointer none) w K := k
theorem rPNeS {w : World} {b o : Nat} {K : Value → Prop} (k : K (.bool false)) : vPtr .neq (pt b o) (pt b o) w K := by
  refine ⟨fun _ => ?_, fun h => absurd rfl h⟩
  show K _
  simpa using k

theorem rSt70 {w : World} {T : TypeId} {b o : Nat} {cs : Array Value} {v : Value} {K : World → Prop} (h : w.heap[b]? = some (.cells cs T (0, 0))) (ho : o < cs.size) (hv : v.oneCell' = true) (hna : ∀ c, v ≠ .agg c)
    (k : ∀ w', w'.heap[b]? = some (.cells (cs.setIfInBounds o v) T (0, 0)) → Fr (fun k => k = b) w w' → w'.heap.size = w.heap.size → K w') : vSt (some 1) (pt b o) v w K := by
  have : st1 w ⟨b, o, none⟩ v K := by
    unfold st1
    simp only [h]
    exact ⟨trivial, ho, by simp, hv, k _ (World.putObj_heap_same (lt_of_blk h)) ((Fr.refl _ w).put _ fun _ => rfl) (by simp)⟩
  unfold vSt
  split
  · rename_i heq _
    cases heq
    rename_i heq
    cases heq
    split
    · exact absurd rfl (hna _)
    · exact ⟨rfl, this⟩
  · rename_i hx; exact absurd rfl (hx _ _ rfl)

def RowT (T : TypeId) (w : World) (v : Value) (xs rest : List Value) (bl : Option Nat) : Prop :=
  match bl with
  | none => v = .slice none 0 0 ∧ xs = [] ∧ rest = []
  | some l => v = sv l xs.length (xs.length + rest.length) ∧ w.heap[l]? = some (.cells (xs ++ rest).toArray T (0, 0))

def Src (w : World) (x : Value) (xs : List Value) : Prop := lenV x = xs.length ∧ ∀ K : List Value → Prop, K xs → srcV 1 xs.length x w K

theorem src_slice {w : World} {q off len c : Nat} {cs : List Value} (h : Cs w q cs) (hl : off + len ≤ cs.length) : Src w (.slice (some ⟨q, off, none⟩) len c) ((cs.drop off).take len) := by
  have hlen : ((cs.drop off).take len).length = len := by simp; omega
  refine ⟨hlen.symm, fun K k => ⟨_, by simp, ?_, k⟩⟩
  intro j v hj
  rw [addr_add]
  obtain ⟨T, h⟩ := h
  simp only [World.cell?, h]
  rw [List.getElem?_take] at hj
  split at hj
  · simpa using hj
  · cases hj

theorem src_nil {w : World} {c : Nat} : Src w (.slice none 0 c) [] := ⟨rfl, fun K k => ⟨rfl, k⟩⟩

theorem rApp {P : Program} {t u e : TypeId} {i : TypeInfo} {z : Value} (ht : P.underlying t = some (.slice e)) (hi : P.info? e = some i) (hz : zc P e = some #[z]) (h1 : i.size = 1) (hu : srcK P u = true)
    {T : TypeId} {w : World} {s x : Value} {xs rest ys : List Value} {bl : Option Nat} {K : Value → World → Prop}
    (hs : RowT T w s xs rest bl) (hx : Src w x ys) (hys : ∀ y ∈ ys, y.oneCell' = true) (hb1 : (xs.length + ys.length) * i.bytes ≤ 140737488355328) (hb2 : xs.length + ys.length ≤ 140737488355328)
    (hK : ∀ w' v' rest' bl' T', RowT T' w' v' (xs ++ ys) rest' bl' → (T' = T ∨ T' = e) → Fr (fun k => bl = some k) w w' → (∀ k, bl' = some k → bl = some k ∨ w.heap.size ≤ k) → (ys ≠ [] → bl' ≠ none) → (bl ≠ none → bl' ≠ none) → K v' w') :
    vAppend P t u s x w K := by
  have key : ∀ (base : Option Addr) (n cap : Nat), s = .slice base n cap → n = xs.length →
      (n + ys.length ≤ cap → stMaybe w base (n * 1) ys (K (.slice base (n + ys.length) cap))) →
      (cap < n + ys.length → srcV 1 n s w fun olds => ∀ c, n + ys.length ≤ c → K (.slice (some ⟨w.heap.size, 0, none⟩) (n + ys.length) c) (w.drew.alloc (.cells (olds ++ ys ++ repZ [z] (c - (n + ys.length))).toArray e))) →
      vAppend P t u s x w K := by
    intro base n cap es hn ha hb
    subst es
    unfold vAppend
    simp only [ht, hi, hz, hu, h1, hx.1]
    refine ⟨by simp, hx.2 _ ⟨ha, fun hc => ⟨by rw [hn]; exact hb1, by omega, ?_⟩⟩⟩
    exact hb hc
  have grow : ∀ (c : Nat), xs.length + ys.length ≤ c → (∀ k, bl = some k → k < w.heap.size) → K (.slice (some ⟨w.heap.size, 0, none⟩) (xs.length + ys.length) c) (w.drew.alloc (.cells (xs ++ ys ++ repZ [z] (c - (xs.length + ys.length))).toArray e)) := by
    intro c hc hlt
    have hrl : (repZ [z] (c - (xs.length + ys.length))).length = c - (xs.length + ys.length) := by simp [repZ]
    refine hK _ _ (repZ [z] (c - (xs.length + ys.length))) (some w.heap.size) e ⟨?_, World.alloc_heap_new w.drew _⟩ (.inr rfl) ((Fr.refl _ w).drew.alloc _) ?_ (by simp) (by simp)
    · rw [hrl, List.length_append]
      have : xs.length + ys.length + (c - (xs.length + ys.length)) = c := by omega
      rw [this]
    · intro k hk; cases hk; exact .inr (Nat.le_refl _)
  cases bl with
  | none =>
    obtain ⟨rfl, rfl, rfl⟩ := hs
    refine key none 0 0 rfl rfl (fun h => ?_) (fun h => ?_)
    · have hy : ys = [] := List.length_eq_zero_iff.1 (by omega)
      subst hy
      exact hK w _ [] none T ⟨rfl, rfl, rfl⟩ (.inl rfl) (Fr.refl _ _) (by simp) (by simp) (by simp)
    · refine ⟨rfl, fun c hc => ?_⟩
      have := grow c (by simpa using hc) (by simp)
      simpa using this
  | some l =>
    obtain ⟨rfl, hl⟩ := hs
    refine key _ _ _ rfl rfl (fun h => ?_) (fun h => ?_)
    · simp only [stMaybe, addr_add, Nat.zero_add, Nat.mul_one]
      unfold stN
      simp only [hl]
      refine ⟨trivial, by simp; omega, by simp, hys, ?_⟩
      have esp : spl (xs ++ rest) xs.length ys = xs ++ ys ++ rest.drop ys.length := by
        simp [spl, List.drop_append, List.append_assoc]
      rw [esp]
      refine hK _ _ (rest.drop ys.length) (some l) T ⟨?_, World.putObj_heap_same (lt_of_blk hl)⟩ (.inl rfl) ((Fr.refl _ w).put _ fun _ => rfl) (fun k hk => .inl hk) (by simp) (by simp)
      have : xs.length + rest.length = (xs ++ ys).length + (rest.drop ys.length).length := by simp; omega
      rw [← this, List.length_append]
    · have hsrc := (src_slice (c := xs.length + rest.length) (len := xs.length) (off := 0) ⟨T, hl⟩ (by simp)).2
      have e0 : ((xs ++ rest).drop 0).take xs.length = xs := by simp
      rw [e0] at hsrc
      exact hsrc _ fun c hc => grow c hc (fun k hk => by cases hk; exact lt_of_blk hl)

def bts (l : List UInt8) : List Value := l.map fun b => .int .u8 b.toNat

theorem bts_len (l : List UInt8) : (bts l).length = l.length := by simp [bts]
theorem bts_app (l m : List UInt8) : bts (l ++ m) = bts l ++ bts m := by simp [bts]
theorem bts_one (l : List UInt8) : ∀ x ∈ bts l, x.oneCell' = true := by
  intro x hx
  obtain ⟨j, _, rfl⟩ := List.mem_map.1 hx
  rfl

structure Bld (w : World) (b : Nat) (bs : List UInt8) (l : Option Nat) : Prop where
  ne : ∀ k, l = some k → k ≠ b
  hd : ∃ p v rest, (p = .pointer none ∨ p = pt b 0) ∧ w.heap[b]? = some (.cells #[p, v] 285 (0, 0)) ∧ RowT 5 w v (bts bs) rest l ∧ (l ≠ none → bs ≠ [])

theorem RowT.fr {T : TypeId} {w w' : World} {v : Value} {xs rest : List Value} {bl : Option Nat} {F : Nat → Prop} (h : RowT T w v xs rest bl) (hf : Fr F w w') (hF : ∀ k, bl = some k → ¬ F k) : RowT T w' v xs rest bl := by
  cases bl with
  | none => exact h
  | some l => exact ⟨h.1, hf.get h.2 (hF l rfl)⟩

theorem RowT.row {T : TypeId} {w : World} {v : Value} {xs rest : List Value} {bl : Option Nat} (h : RowT T w v xs rest bl) : Row w v xs bl := by
  cases bl with
  | none => exact ⟨h.1, h.2.1⟩
  | some l => exact ⟨rest, _, h.1, ⟨T, h.2⟩, by omega, Nat.le_refl _⟩

theorem Bld.fr {w w' : World} {b : Nat} {bs : List UInt8} {l : Option Nat} {F : Nat → Prop} (h : Bld w b bs l) (hf : Fr F w w') (hb : ¬ F b) (hl : ∀ k, l = some k → ¬ F k) : Bld w' b bs l := by
  obtain ⟨hne, p, v, rest, hp, hd, hm, hz⟩ := h
  exact ⟨hne, p, v, rest, hp, hf.get hd hb, hm.fr hf hl, hz⟩

theorem Bld.lt {w : World} {b : Nat} {bs : List UInt8} {l : Option Nat} (h : Bld w b bs l) : ∀ k, l = some k → k < w.heap.size := by
  obtain ⟨hne, p, v, rest, hp, hd, hm, hz⟩ := h
  rintro k rfl
  exact lt_of_blk hm.2

theorem noEscape_spec {v : Value} {w : World} {K : Value → World → Prop} (hK : K v w) : CallK Tryz.prog 286 #[v] w K :=
  .inr ⟨v, w, by rw [run_callFunc_extern Tryz.func286 (by kernel_rfl) (by kernel_rfl) (by kernel_rfl) (e := Extern.AbiNoEscape.same) (by kernel_rfl)]; rfl, hK⟩

theorem lies70 : liesAt Tryz.prog Tryz.prog.depth 285 (2 / Tryz.prog.cellsOf 285) 0 285 1 = true := by kernel_rfl

theorem copyCheck_spec {w : World} {b : Nat} {p v : Value} {K : Value → World → Prop} (hp : p = .pointer none ∨ p = pt b 0) (h : w.heap[b]? = some (.cells #[p, v] 285 (0, 0)))
    (hK : ∀ w', w'.heap[b]? = some (.cells #[pt b 0, v] 285 (0, 0)) → Fr (fun k => k = b) w w' → w'.heap.size = w.heap.size → K (.tuple #[]) w') : Ret Tryz.prog 233 #[pt b 0] w K := by
  apply F233_ok
  unfold F233
  have hc : Cs w b [p, v] := ⟨285, h⟩
  refine rNil <| rFA0 <| rLd hc rfl ?_
  rcases hp with rfl | rfl
  · refine rPNil <| rIfT ?_
    have hU : ∀ K, K (pt b 0) → vToU (pt b 0) w K := fun K k => by
      unfold vToU
      simp only [h]
      exact ⟨by simp, k⟩
    have hF : ∀ K, K (pt b 0) → vFromU Tryz.prog 285 (pt b 0) w K := fun K k => by
      unfold vFromU
      simp only [h]
      exact ⟨lies70, k⟩
    refine hU _ <| noEscape_spec <| hF _ <| rNil <| rFA0 <| rSt70 h (by simp) rfl (by simp) ?_
    intro w' h1 h2 h3
    exact hK w' h1 h2 h3
  · refine rPNil' <| rIfF ?_
    refine rNil <| rFA0 <| rLd hc rfl <| rPNeS <| rIfF ?_
    exact hK w h (Fr.refl _ w) rfl

theorem t38 : Tryz.prog.underlying 283 = some (.slice 5) := by kernel_rfl
theorem k38 : srcK Tryz.prog 283 = true := by kernel_rfl
theorem i5 : ∃ i, Tryz.prog.info? 5 = some i ∧ i.size = 1 ∧ i.bytes = 1 := by
  have h : (Tryz.prog.info? 5).map (fun i => (i.size, i.bytes)) = some (1, 1) := by kernel_rfl
  cases hi : Tryz.prog.info? 5 with
  | none => rw [hi] at h; cases h
  | some i => rw [hi] at h; simp at h; exact ⟨i, rfl, h.1, h.2⟩
theorem z5 : zc Tryz.prog 5 = some #[.int .u8 0] := by kernel_rfl

theorem write_spec {w : World} {b q off len c : Nat} {bs ds : List UInt8} {l : Option Nat} {cs : List Value} {K : Value → World → Prop} (h : Bld w b bs l) (hc : Cs w q cs) (hl : off + len ≤ cs.length) (hqb : q ≠ b)
    (hds : (cs.drop off).take len = bts ds) (h0 : 0 < len) (hlen : bs.length + len ≤ 140737488355328)
    (hK : ∀ v w' l', Bld w' b (bs ++ ds) l' → Fr (fun k => k = b ∨ l = some k) w w' → (∀ k, l' = some k → l = some k ∨ w.heap.size ≤ k) → K v w') :
    Ret Tryz.prog 151 #[pt b 0, .slice (some ⟨q, off, none⟩) len c] w K := by
  obtain ⟨hne, p, v, rest, hp, hd, hm, hz⟩ := h
  obtain ⟨i, hi, his, hib⟩ := i5
  apply F151_ok
  unfold F151
  refine (copyCheck_spec hp hd ?_).call
  intro w1 hb1 fr1 hs1
  have hc1 := hc.fr fr1 hqb
  have hm1 := hm.fr fr1 hne
  refine rNil <| rFA0 <| rLd ⟨285, hb1⟩ rfl ?_
  have hsrc := src_slice (c := c) hc1 hl
  rw [hds] at hsrc
  have hdl : ds.length = len := by
    have := congrArg List.length hds
    rw [bts_len] at this
    simp at this; omega
  refine rApp t38 hi z5 his k38 hm1 hsrc (bts_one ds) (by rw [bts_len, bts_len, hib]; omega) (by rw [bts_len, bts_len]; omega) ?_
  intro w2 v2 rest2 l2 T2 hrow hT fr2 hl2 _ _
  have hT5 : T2 = 5 := hT.elim id id
  subst hT5
  rw [← bts_app] at hrow
  have hb2 := fr2.get hb1 (fun e => hne b e rfl)
  refine rNil <| rFA0 <| rSt70 hb2 (by simp) ?_ ?_ ?_
  · cases l2 with
    | none => obtain ⟨rfl, _⟩ := hrow; rfl
    | some l => obtain ⟨rfl, _⟩ := hrow; rfl
  · intro cs e
    cases l2 with
    | none => obtain ⟨rfl, _⟩ := hrow; cases e
    | some l => obtain ⟨rfl, _⟩ := hrow; cases e
  intro w3 hb3 fr3 hs3
  have hne2 : ∀ k, l2 = some k → k ≠ b := fun k hk e => by
    rcases hl2 k hk with h | h
    · exact hne k h e
    · subst e; have := lt_of_blk hb1; omega
  refine hK _ w3 l2 ⟨hne2, pt b 0, v2, rest2, .inr rfl, hb3, hrow.fr fr3 hne2, ?_⟩ ?_ ?_
  · intro _ e
    rw [List.append_eq_nil_iff] at e
    rw [e.2] at hdl
    simp at hdl; omega
  · exact ((fr1.mono fun _ _ => .inl).trans (fr2.mono (G := fun k => k = b ∨ l = some k) fun _ _ => .inr) fun _ _ => id).trans (fr3.mono (G := fun k => k = b ∨ l = some k) fun _ _ => .inl) fun _ _ => id
  · intro k hk
    rcases hl2 k hk with h | h
    · exact .inl h
    · exact .inr (by omega)

theorem t90 : Tryz.prog.underlying 380 = some (.pointer 5) := by kernel_rfl
theorem s5 : szOf Tryz.prog 5 = some 1 := by kernel_rfl

theorem rLdS' {S : World → Prop} {b o : Nat} {K : Value → Prop} {cs : Array Value} {T : TypeId} (v : Value) (h : ∀ w, S w → w.heap[b]? = some (.cells cs T (0, 0))) (hv : cs[o]? = some v) (k : K v) : vLdS S .one (pt b o) K :=
  rLdS v (fun w hw => ⟨cs.toList, ⟨T, h w hw⟩, by simpa using hv⟩) k

theorem string_spec {w : World} {b : Nat} {bs : List UInt8} {l : Option Nat} {K : Value → World → Prop} (h : Bld w b bs l) (hlen : bs.length ≤ 140737488355328)
    (hK : ∀ w', Fr (fun k => l = some k) w w' → K (str bs) w') : Ret Tryz.prog 152 #[pt b 0] w K := by
  obtain ⟨hne, p, v, rest, hp, hd, hm, hz⟩ := h
  apply F152_ok
  unfold F152
  refine ⟨fun w' => w'.heap[b]? = some (.cells #[p, v] 285 (0, 0)), hd, ?_⟩
  refine rNil <| rFA0 <| rLdS' (o := 1) v (fun _ h => h) rfl ?_
  cases l with
  | none =>
    obtain ⟨rfl, hb, rfl⟩ := hm
    have hb : bs = [] := by
      cases bs with
      | nil => rfl
      | cons a r => simp [bts] at hb
    subst hb
    refine rUSDn <| rNil <| rFA0 <| rLdS' (o := 1) _ (fun _ h => h) rfl <| rLenS ?_
    refine ⟨?_, trivial⟩
    unfold vUStr
    simp only [t90]
    exact ⟨s5, fun _ => ⟨hd, hK _ (Fr.refl _ w).drew⟩, fun h => absurd rfl h⟩
  | some l =>
    obtain ⟨rfl, hl⟩ := hm
    have hb := hz (by simp)
    have hpos : 0 < bs.length := List.length_pos_iff.2 hb
    refine rUSDs (by rw [bts_len]; omega) <| rNil <| rFA0 <| rLdS' (o := 1) _ (fun _ h => h) rfl <| rLenS ?_
    refine ⟨?_, trivial⟩
    unfold vUStr
    simp only [t90]
    refine ⟨s5, fun h => ?_, fun _ => ⟨bs, by rw [bts_len], trivial, hlen, ?_⟩⟩
    · rw [bts_len] at h; omega
    · have hl' : w.drew.heap[l]? = some (.cells (bts bs ++ rest).toArray 5 (0, 0)) := hl
      simp only [hl']
      refine ⟨trivial, by simp [bts_len], ?_, ?_, ?_⟩
      · intro j x hj
        have : (bts bs)[j]? = some (.int .u8 x.toNat) := by simp [bts, hj]
        rw [List.getElem?_toArray, List.getElem?_append_left (by rw [bts_len]; exact (List.getElem?_eq_some_iff.1 hj).1)]
        exact this
      · rw [World.putObj_heap_other (Ne.symm (hne l rfl))]; exact hd
      · exact hK _ ((Fr.refl _ w).drew.put _ fun _ => rfl)

end Go.Proofs.YtdkklhnleppfcaaGreat

/-
  Pages, part 5: Read. Own work.
-/
set_option linter.unusedVariables false
set_option linter.unusedSimpArgs false
set_option maxRecDepth 100000
namespace Go.Proofs.YtdkklhnleppfcaaGreat
open Go Go.V Go.RowKit

def seg (c : Nat → UInt8) (a n : Nat) : List UInt8 := (List.range n).map fun i => c (a + i)

theorem seg_len (c : Nat → UInt8) (a n : Nat) : (seg c a n).length = n := by simp [seg]
theorem seg_get (c : Nat → UInt8) (a n i : Nat) : (seg c a n)[i]? = if i < n then some (c (a + i)) else none := by
  simp [seg, List.getElem?_map, List.getElem?_range]
  split <;> simp_all
theorem seg_app (c : Nat → UInt8) (a n m : Nat) : seg c a (n + m) = seg c a n ++ seg c (a + n) m := by
  simp [seg, List.range_add, Nat.add_assoc]

theorem zc70 : zc Tryz.prog 285 = some #[.pointer none, .slice none 0 0] := by kernel_rfl
theorem zc65 : zc Tryz.prog 288 = some #[.int .i64 0, .int .i64 0] := by kernel_rfl

theorem piece_facts {a m : Nat} (hm : 0 < m) : a % 64 < min (a % 64 + m) 64 ∧ 0 < dl a m ∧ dl a m ≤ m ∧ 64 * (a / 64) + a % 64 = a ∧ a % 64 + dl a m = min (a % 64 + m) 64 := by
  unfold dl
  omega

theorem pgc_seg {c : Nat → UInt8} {a m : Nat} (hm : 0 < m) : ((pgc c (a / 64)).drop (a % 64)).take (min (a % 64 + m) 64 - a % 64) = bts (seg c a (dl a m)) := by
  obtain ⟨h1, h2, h3, h4, h5⟩ := piece_facts (a := a) hm
  apply List.ext_getElem?
  intro i
  rw [List.getElem?_take]
  simp only [pgc, bts, List.getElem?_drop, List.getElem?_map, seg_get]
  have e : min (a % 64 + m) 64 - a % 64 = dl a m := rfl
  rw [e]
  by_cases hi : i < dl a m
  · rw [if_pos hi, if_pos hi]
    have : a % 64 + i < 64 := by omega
    rw [List.getElem?_range this]
    have e2 : 64 * (a / 64) + (a % 64 + i) = a + i := by omega
    simp [e2]
  · rw [if_neg hi, if_neg hi]; rfl

theorem read_spec {w : World} {g : Gh} {n : Nat} {c : Nat → UInt8} {a' k' : Int} {K : Value → World → Prop} (h : By w g n c) (hn : n ≤ 4096) (hps : n ≤ 64 * g.ps.length)
    (ha1 : -9223372036854775808 ≤ a') (ha2 : a' < 9223372036854775808)
    (hK : ∀ w', Fr (fun _ => False) w w' → K (.tuple #[str (if fitsE n a' k' = 0 then seg c a'.toNat k'.toNat else []), it (fitsE n a' k')]) w') :
    Ret Tryz.prog 70 #[pt g.b 0, it a', it k'] w K := by
  obtain ⟨lv, ov, hd, hrow, hrow2⟩ := h.hd
  have hbw := h.lt
  apply F70_ok
  unfold F70
  refine rBox rfl ?_
  intro w1 c1 fr1 s1
  have hd1 := hd.fr fr1 id
  refine rLd c1 rfl ?_
  refine (fits_spec hd1 hn ha1 ha2 ?_).call
  refine rNe <| rIf (fun he => ?_) (fun he => ?_)
  · have he : fitsE n a' k' ≠ 0 := by simpa using he
    have := hK w1 fr1
    rw [if_neg he] at this
    exact this
  · have he : fitsE n a' k' = 0 := by simpa using he
    rw [he] at hK
    have hf : 0 ≤ a' ∧ 0 ≤ k' ∧ a' ≤ n ∧ k' ≤ n - a' := by
      unfold fitsE at he
      split at he
      · cases he
      · omega
    obtain ⟨a0, rfl⟩ := Int.eq_ofNat_of_zero_le hf.1
    obtain ⟨n0, rfl⟩ := Int.eq_ofNat_of_zero_le hf.2.1
    have hfit : a0 + n0 ≤ n := by omega
    refine rAllocT zc70 ?_
    intro w2 hbld fr2 s2
    apply Ret.call
    apply F150_ok
    unfold F150
    refine rBox rfl ?_
    intro w3 c3 fr3 s3
    refine rBox rfl ?_
    intro w4 c4 fr4 s4
    have fr13 := (fr1.more fr2).more fr3
    have fr14 := fr13.more fr4
    have hbb : w4.heap[w1.heap.size]? = some (.cells #[.pointer none, .slice none 0 0] 285 (0, 0)) := fr4.get (fr3.get hbld id) id
    have hc1 : Cs w4 w.heap.size [pt g.b 0] := ((c1.fr fr2 id).fr fr3 id).fr fr4 id
    refine range_pieces (a0 := a0) (n0 := n0) (fun a m W => a0 ≤ a ∧ Fr (fun _ => False) w W ∧ Cs W w.heap.size [pt g.b 0] ∧ ∃ lb, Bld W w1.heap.size (seg c a0 (a - a0)) lb ∧ ∀ k, lb = some k → w4.heap.size + 2 ≤ k)
      rfl c4 (c3.fr fr4 id) (by omega) (by omega) ⟨Nat.le_refl _, fr14, hc1, none, ⟨by simp, _, _, [], .inl rfl, hbb, ⟨rfl, by simp [seg, bts], rfl⟩, by simp⟩, by simp⟩ ?_ ?_ ?_
    · rintro a m W W' ⟨h1, h2, h3, lb, h4, h5⟩ hfr
      refine ⟨h1, h2.trans hfr (fun x hx hx2 => by omega), h3.fr hfr (by omega), lb, h4.fr hfr (by omega) (fun k hk => ?_), h5⟩
      have := h5 k hk
      omega
    · rintro rec ρb a m W hsel hs hm hsz ⟨h1, h2, h3, lb, h4, h5⟩ hL Q hQ
      simp only [List.map_cons, List.map_nil, List.cons.injEq, and_true] at hsel
      obtain ⟨e3, e9⟩ := hsel
      obtain ⟨q1, q2, q3, q4, q5⟩ := piece_facts (a := a) hm
      unfold F70R1a
      refine rAllocT zc65 ?_
      intro W1 k1 f1 z1
      refine rStN (n := 2) ⟨288, k1⟩ rfl (by simp) (by simp [Value.oneCell']) ?_
      intro W2 u2
      have hW : w.heap.size + 4 ≤ W.heap.size := by omega
      have fW2 : Fr (fun _ => False) W W2 := f1.trans u2.fr (fun x hx e => by omega)
      have hs2 : W2.heap.size = W.heap.size + 1 := by rw [u2.size, z1]
      have hL2 := fW2.get hL id
      refine ⟨rfl, rfl, hL2, ?_⟩
      unfold F70R1b
      have f3 : Fr (fun k => k = w4.heap.size + 1) W2 (W2.putObj (w4.heap.size + 1) (.loop { rec with state := .busy })) := (Fr.refl _ _).put _ fun _ => rfl
      generalize hW3 : W2.putObj (w4.heap.size + 1) (.loop { rec with state := .busy }) = W3 at f3
      have hs3 : W3.heap.size = W.heap.size + 1 := by rw [← hW3]; simp [hs2]
      have fwW3 : Fr (fun _ => False) w W3 := (h2.more fW2).trans f3 (fun x hx e => by omega)
      have hcs : Cs W3 w.heap.size [pt g.b 0] := (h3.fr fW2 id).fr f3 (by omega)
      have hv11 : Cs W3 W.heap.size [it (a % 64 : Nat), it (min (a % 64 + m) 64 : Nat)] := u2.cs.fr f3 (by omega)
      have hby3 := h.fr fwW3 (fun _ _ => id)
      have hd3 := hd.fr fwW3 id
      have hr3 := hrow.fr fwW3 (fun _ _ => id)
      have hbld := (h4.fr fW2 id (fun _ _ => id)).fr f3 (by omega) (fun k hk => by have := h5 k hk; omega)
      have hp : a / 64 < g.ps.length := by omega
      have hq : g.ps[a / 64]? = some g.ps[a / 64] := List.getElem?_eq_getElem hp
      have hlr : ∃ l lr, g.lb = some l ∧ lv = sv l g.ps.length lr ∧ ∃ rest, Cs W3 l (g.ps.map (pt · 0) ++ rest) := by
        cases hlb : g.lb with
        | none => rw [hlb] at hr3; have := hr3.2; simp at this; rw [this] at hp; simp at hp
        | some l => rw [hlb] at hr3; obtain ⟨rest, c0, e, hl, _⟩ := hr3; exact ⟨l, c0, rfl, by simpa using e, rest, hl⟩
      obtain ⟨l, lr, hlb, rfl, rest, hl3⟩ := hlr
      refine ⟨fun V => Cs V w.heap.size [pt g.b 0] ∧ Cs V g.b [it n, sv l g.ps.length lr, ov] ∧ Cs V l (g.ps.map (pt · 0) ++ rest) ∧ Cs V W.heap.size [it (a % 64 : Nat), it (min (a % 64 + m) 64 : Nat)], ⟨hcs, hd3, hl3, hv11⟩, ?_⟩
      show vLdS _ _ (ρb 3) _
      rw [e3]
      refine rLdS _ (fun V hV => ⟨_, hV.1, rfl⟩) <| rNil <| rFA0 <| rLdS _ (fun V hV => ⟨_, hV.2.1, rfl⟩) ?_
      refine rIA hp ?_
      rw [Nat.mul_one]
      refine rLdS (pt g.ps[a / 64] 0) (fun V hV => ⟨_, hV.2.2.1, by simp [List.getElem?_append, hp]⟩) <| rNil ?_
      refine rIAa (i := 0) (by decide) <| rLdS (it (a % 64 : Nat)) (fun V hV => ⟨_, hV.2.2.2, rfl⟩) ?_
      refine rIAa (i := 1) (by decide) <| rLdS (it (min (a % 64 + m) 64 : Nat)) (fun V hV => ⟨_, hV.2.2.2, rfl⟩) ?_
      refine rSlA (by omega) (by omega) (by omega) ?_
      refine ⟨?_, trivial⟩
      show CallK _ _ #[ρb 9, _] _ _
      rw [e9]
      have hpg := hby3.pgs _ _ hq
      have hlt := fun k hk => hbw k hk
      have hqlt : g.ps[a / 64] < w.heap.size := hlt _ (.inr (List.getElem_mem hp))
      have hlbW : ∀ k, lb = some k → k < W.heap.size := h4.lt
      refine (write_spec (w := W3.drew) (hbld.fr (Fr.refl _ _).drew id (fun _ _ => id)) hpg (by rw [pgc_len]; omega) (by omega) (pgc_seg hm) (by omega) (by rw [seg_len]; omega) ?_).call
      intro v W4 lb4 hbld4 f4 hlb4
      have f4 : Fr (fun k => k = w1.heap.size ∨ lb = some k) W3 W4 := (Fr.refl _ W3).drew.trans f4 fun _ _ => id
      have hnl : ∀ k, lb = some k → w4.heap.size + 2 ≤ k := h5
      have fp : Fr (fun _ => False) (W.putObj (w4.heap.size + 1) (.loop { rec with state := .busy })) W3 := hW3 ▸ fW2.putBoth (lt_of_blk hL) _
      have notin : ∀ x, x < w4.heap.size + 2 → x ≠ w1.heap.size → ¬ (x = w1.heap.size ∨ lb = some x) := fun x h1 h2 h3 => h3.elim h2 fun e => by have := hnl x e; omega
      have hgb := hlt g.b (.inl (.inl rfl))
      have hll := hlt l (.inl (.inr (.inl hlb)))
      refine ⟨⟨hcs.fr f4 (notin _ (by omega) (by omega)), hd3.fr f4 (notin _ (by omega) (by omega)), hl3.fr f4 (notin _ (by omega) (by omega)), hv11.fr f4 ?_⟩, hQ W4 ?_ ⟨by omega, ?_, hcs.fr f4 (notin _ (by omega) (by omega)), lb4, ?_, ?_⟩⟩
      · rintro (e | e)
        · omega
        · have := hlbW _ e; omega
      · refine fp.mono (G := fun k => k ≠ w3.heap.size ∧ k ≠ w2.heap.size ∧ k ≠ w4.heap.size ∧ k ≠ w4.heap.size + 1) (fun _ _ => False.elim) |>.trans f4 ?_
        rintro x _ (e | e)
        · omega
        · have := hnl x e; omega
      · exact fwW3.trans f4 fun x hx e => notin x (by omega) (by omega) e
      · have e : a + dl a m - a0 = (a - a0) + dl a m := by omega
        have e2 : a0 + (a - a0) = a := by omega
        rw [e, seg_app, e2]
        exact hbld4
      · intro k hk
        rcases hlb4 k hk with e | e
        · exact hnl k e
        · have : W3.heap.size ≤ k := e
          omega
    · rintro W ⟨h1, h2, h3, lb, h4, h5⟩ hD
      have e : a0 + n0 - a0 = n0 := by omega
      rw [e] at h4
      refine (string_spec h4 (by rw [seg_len]; omega) ?_).call
      intro w' fr
      have hD' : w'.heap[w4.heap.size]? = some (.deferred (some [])) := fr.get hD (fun e => by have := h5 _ e; omega)
      refine ⟨hD', ?_⟩
      have := hK (w'.putObj w4.heap.size (.deferred none)) ((h2.trans fr (fun x hx hx2 => by have := h5 _ hx2; omega)).put _ (fun hx => by omega))
      rw [if_pos rfl] at this
      exact this

end Go.Proofs.YtdkklhnleppfcaaGreat
