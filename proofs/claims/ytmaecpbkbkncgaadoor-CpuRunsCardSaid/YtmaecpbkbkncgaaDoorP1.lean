/-
  Pages, part 1: what a row of bytes is in memory; own. Own work.
-/
import Derived.Test.YtmaecpbkbkncgaaDoorVf
import Derived.Test.YtmaecpbkbkncgaaDoorFs
set_option linter.unusedVariables false
set_option linter.unusedSimpArgs false
set_option maxRecDepth 100000
namespace Go.Proofs.YtmaecpbkbkncgaaDoor
open Go Go.V

/-- the cells of page p -/
def pgc (c : Nat → UInt8) (p : Nat) : List Value := (List.range 64).map fun j => .int .u8 (c (64 * p + j)).toNat

theorem pgc_len (c : Nat → UInt8) (p : Nat) : (pgc c p).length = 64 := by simp [pgc]
theorem pgc_congr {c d : Nat → UInt8} {p : Nat} (h : ∀ j, j < 64 → c (64 * p + j) = d (64 * p + j)) : pgc c p = pgc d p := by
  unfold pgc
  exact List.map_congr_left fun j hj => by rw [h j (by simpa using hj)]

/-- a slice of whole cells: none, or at the head of a block -/
def Row (w : World) (v : Value) (xs : List Value) (bl : Option Nat) : Prop :=
  match bl with
  | none => v = .slice none 0 0 ∧ xs = []
  | some l => ∃ rest : List Value, v = sv l xs.length (xs.length + rest.length) ∧ Cs w l (xs ++ rest)

theorem Row.fr {w w' : World} {v : Value} {xs : List Value} {bl : Option Nat} {F : Nat → Prop} (h : Row w v xs bl) (hf : Fr F w w') (hF : ∀ k, bl = some k → ¬ F k) : Row w' v xs bl := by
  cases bl with
  | none => exact h
  | some l => obtain ⟨r, h1, h2⟩ := h; exact ⟨r, h1, h2.fr hf (hF l rfl)⟩

structure Gh where
  b : Nat
  ps : List Nat
  ow : List Bool
  lb : Option Nat
  ob : Option Nat

/-- what is written -/
def Gh.foot (g : Gh) (k : Nat) : Prop := k = g.b ∨ g.lb = some k ∨ g.ob = some k ∨ ∃ i : Nat, g.ow[i]? = some true ∧ g.ps[i]? = some k
/-- what is read -/
def Gh.sees (g : Gh) (k : Nat) : Prop := g.foot k ∨ k ∈ g.ps

structure By (w : World) (g : Gh) (n : Nat) (c : Nat → UInt8) : Prop where
  hd : ∃ lv ov, Cs w g.b [it n, lv, ov] ∧ Row w lv (g.ps.map (pt · 0)) g.lb ∧ Row w ov (g.ow.map .bool) g.ob
  pgs : ∀ (i q : Nat), g.ps[i]? = some q → Cs w q (pgc c i)
  ow : g.ow.length = g.ps.length
  d1 : ∀ k, g.lb = some k → k ≠ g.b ∧ g.ob ≠ some k ∧ k ∉ g.ps
  d2 : ∀ k, g.ob = some k → k ≠ g.b ∧ k ∉ g.ps
  d3 : g.b ∉ g.ps
  d4 : ∀ (i j q : Nat), g.ow[i]? = some true → g.ps[i]? = some q → g.ps[j]? = some q → i = j

theorem By.fr {w w' : World} {g : Gh} {n : Nat} {c : Nat → UInt8} {F : Nat → Prop} (h : By w g n c) (hf : Fr F w w') (hF : ∀ k, g.sees k → ¬ F k) : By w' g n c := by
  obtain ⟨⟨lv, ov, h1, h2, h3⟩, h4, h5, h6, h7, h8, h9⟩ := h
  exact ⟨⟨lv, ov, h1.fr hf (hF _ (.inl (.inl rfl))), h2.fr hf (fun k hk => hF _ (.inl (.inr (.inl hk)))), h3.fr hf (fun k hk => hF _ (.inl (.inr (.inr (.inl hk)))))⟩,
    fun i q hq => (h4 i q hq).fr hf (hF _ (.inr (List.mem_of_getElem? hq))), h5, h6, h7, h8, h9⟩

theorem By.lt {w : World} {g : Gh} {n : Nat} {c : Nat → UInt8} (h : By w g n c) : ∀ k, g.sees k → k < w.heap.size := by
  obtain ⟨⟨lv, ov, h1, h2, h3⟩, h4, h5, h6, h7, h8, h9⟩ := h
  have hp : ∀ k ∈ g.ps, k < w.heap.size := fun k hk => by
    obtain ⟨i, hi⟩ := List.mem_iff_getElem?.1 hk
    exact (h4 i k hi).lt
  rintro k ((rfl | hk | hk | ⟨i, _, hi⟩) | hk)
  · exact h1.lt
  · rw [hk] at h2; obtain ⟨r, _, h⟩ := h2; exact h.lt
  · rw [hk] at h3; obtain ⟨r, _, h⟩ := h3; exact h.lt
  · exact (h4 i k hi).lt
  · exact hp k hk

/-- from one shape to another: only what is written is other, and what is new -/
structure Evo (w : World) (g : Gh) (w' : World) (g' : Gh) : Prop where
  fr : Fr g.foot w w'
  b : g'.b = g.b
  foot : ∀ k, g'.foot k → g.foot k ∨ w.heap.size ≤ k
  sees : ∀ k, k ∈ g'.ps → g.sees k ∨ w.heap.size ≤ k

theorem Evo.refl (w : World) (g : Gh) : Evo w g w g := ⟨Fr.refl _ _, rfl, fun _ => .inl, fun _ h => .inl (.inr h)⟩

theorem Evo.trans {w w' w'' : World} {g g' g'' : Gh} (h : Evo w g w' g') (k : Evo w' g' w'' g'') : Evo w g w'' g'' := by
  have hs := h.fr.size
  refine ⟨h.fr.trans k.fr (fun x hx hf => ?_), k.b.trans h.b, fun x hx => ?_, fun x hx => ?_⟩
  · rcases h.foot x hf with h | h
    · exact h
    · omega
  · rcases k.foot x hx with hx | hx
    · exact h.foot x hx
    · exact .inr (Nat.le_trans hs hx)
  · rcases k.sees x hx with (hx | hx) | hx
    · rcases h.foot x hx with h | h
      · exact .inl (.inl h)
      · exact .inr h
    · exact h.sees x hx
    · exact .inr (Nat.le_trans hs hx)

theorem Evo.then {w w' w'' : World} {g g' : Gh} (h : Evo w g w' g') {F : Nat → Prop} (k : Fr F w' w'') (hF : ∀ x, x < w.heap.size → F x → g.foot x) : Evo w g w'' g' :=
  ⟨h.fr.trans k hF, h.b, h.foot, h.sees⟩

theorem Evo.before {w w' w'' : World} {g g' : Gh} {F : Nat → Prop} (k : Fr F w w') (h : Evo w' g w'' g') (hF : ∀ x, x < w.heap.size → F x → g.foot x) : Evo w g w'' g' := by
  have hs := k.size
  exact ⟨(k.mono (fun x hx hf => hF x hx hf)).trans h.fr (fun x _ => id), h.b, fun x hx => (h.foot x hx).imp id (Nat.le_trans hs), fun x hx => (h.sees x hx).imp id (Nat.le_trans hs)⟩

theorem zc85 : zc Tryd.prog 98 = some (pgc (fun _ => 0) 0).toArray := by kernel_rfl
theorem pgc_one (c : Nat → UInt8) (p : Nat) : ∀ x ∈ pgc c p, x.oneCell' = true := by
  intro x hx
  obtain ⟨j, _, rfl⟩ := List.mem_map.1 hx
  rfl

/-! ### own -/


theorem own_spec {w : World} {g : Gh} {n : Nat} {c : Nat → UInt8} {p : Nat} {K : Value → World → Prop} (h : By w g n c) (hp : p < g.ps.length)
    (hK : ∀ w' q g', By w' g' n c → Evo w g w' g' → g'.ps.length = g.ps.length → g'.ps[p]? = some q → g'.ow[p]? = some true → K (pt q 0) w') :
    Ret Tryd.prog 26 #[pt g.b 0, it p] w K := by
  have hby := h
  obtain ⟨⟨lv, ov, h1, h2, h3⟩, h4, h5, h6, h7, h8, h9⟩ := h
  obtain ⟨b, ps, ow, lb, ob⟩ := g
  simp only at *
  cases lb with
  | none => obtain ⟨_, h2⟩ := h2; simp at h2; subst h2; simp at hp
  | some l =>
  cases ob with
  | none => obtain ⟨_, h3⟩ := h3; simp at h3; subst h3; simp at h5; omega
  | some o =>
  obtain ⟨lr, rfl, hl⟩ := h2
  obtain ⟨or, rfl, ho⟩ := h3
  obtain ⟨hlb, hlo, hlp⟩ := h6 l rfl
  obtain ⟨hob, hop⟩ := h7 o rfl
  have hlo' : o ≠ l := fun e => hlo (by rw [e])
  have hpo : p < ow.length := by omega
  apply F26_ok
  unfold F26
  refine rNil <| rFA0 <| rLd h1 rfl ?_
  refine rIA (by simpa using hpo) ?_
  rw [Nat.mul_one]
  refine rLd (v := .bool ow[p]) ho (by simp [List.getElem?_append, hpo]) ?_
  show (if (!ow[p]) = true then _ else _)
  have hq : ps[p]? = some ps[p] := List.getElem?_eq_getElem hp
  have hpm : ps[p] ∈ ps := List.getElem_mem hp
  split
  · rename_i hown
    have hown : ow[p] = false := by simpa using hown
    refine rNil <| rFA0 <| rLd h1 rfl ?_
    refine rIA (by simpa using hp) ?_
    rw [Nat.mul_one]
    refine rLd (v := pt ps[p] 0) hl (by simp [List.getElem?_append, hp]) ?_
    refine rNil <| rLdN (h4 p _ hq) (by simp [pgc_len]) ?_
    refine rAlloc zc85 ?_
    have hz := Cs.new w (pgc (fun _ => 0) 0) 98
    rw [List.drop_zero, List.take_of_length_le (by simp [pgc_len])]
    refine rStN hz (by simp [pgc_len]) (by simp [pgc_len]) (pgc_one c p) ?_
    intro w2 u2
    have e0 : spl (pgc (fun _ => 0) 0) 0 (pgc c p) = pgc c p := by simp [spl, pgc_len]
    rw [e0] at u2
    have hs2 : w2.heap.size = w.heap.size + 1 := by rw [u2.size]; simp
    have hlt := hby.lt
    have fr2 : Fr (fun _ => False) w w2 := ((Fr.refl _ w).alloc _).trans u2.fr (fun x hx e => by omega)
    have hb2 := h1.fr fr2 id
    have hl2 := hl.fr fr2 id
    have ho2 := ho.fr fr2 id
    refine ⟨fun w' => Cs w' b _, hb2, ?_⟩
    refine rNil <| rFA0 <| rLdS _ (fun w h => ⟨_, h, rfl⟩) ?_
    refine rNil <| rFA0 <| rLdS _ (fun w h => ⟨_, h, rfl⟩) ?_
    refine rIA (by simpa using hp) ?_
    rw [Nat.mul_one]
    refine ⟨?_, trivial⟩
    refine rSt hl2.drew (by simp; omega) rfl (by simp) ?_
    intro w3 u3
    have hb3 := hb2.drew.up u3 (Ne.symm hlb)
    refine rIA (by simpa using hpo) ?_
    rw [Nat.mul_one]
    have ho3 := ho2.drew.up u3 hlo'
    refine ⟨?_, trivial⟩
    refine rSt ho3 (by simp; omega) rfl (by simp) ?_
    intro w4 u4
    have hb4 := hb3.up u4 (Ne.symm hob)
    have hl4 := u3.cs.up u4 (Ne.symm hlo')
    refine rNil <| rFA0 <| rLd hb4 rfl ?_
    refine rIA (by simpa using hp) ?_
    rw [Nat.mul_one]
    refine rLd (v := pt w.heap.size 0) hl4 (by rw [List.set_append_left _ _ (by simpa using hp)]; simp [List.getElem?_append, hp]) ?_
    have frA : Fr (fun k => k = l ∨ k = o) w w2 := fr2.mono fun _ _ => False.elim
    have frB : Fr (fun k => k = l ∨ k = o) w2 w3 := (Fr.refl _ w2).drew.trans (u3.fr.mono fun _ _ => .inl) fun _ _ => id
    have frC : Fr (fun k => k = l ∨ k = o) w3 w4 := u4.fr.mono fun _ _ => .inr
    have fr4 := (frA.trans frB fun _ _ => id).trans frC fun _ _ => id
    have hnl : w.heap.size ≠ l := fun e => by have := hl.lt; omega
    have hno : w.heap.size ≠ o := fun e => by have := ho.lt; omega
    have hqn : ∀ q ∈ ps, q ≠ w.heap.size := fun q hq e => by
      obtain ⟨i, hi⟩ := List.mem_iff_getElem?.1 hq
      have := (h4 i q hi).lt
      omega
    have hnew : Cs w4 w.heap.size (pgc c p) := (u2.cs.drew.up u3 hnl).up u4 hno
    have hmem : ∀ q, q ∈ ps.set p w.heap.size → q ∈ ps ∨ q = w.heap.size := fun q hq => List.mem_or_eq_of_mem_set hq
    refine hK w4 w.heap.size ⟨b, ps.set p w.heap.size, ow.set p true, some l, some o⟩ ⟨⟨_, _, hb4, ⟨lr, by simp, ?_⟩, ⟨or, by simp, ?_⟩⟩, ?_, by simpa using h5, ?_, ?_, ?_, ?_⟩ ⟨fr4.mono ?_, rfl, ?_, ?_⟩ (by simp) (by simp [hp]) (by simp [hpo])
    · rw [List.set_append_left _ _ (by simpa using hp)] at hl4
      simpa using hl4
    · have := u4.cs
      rw [List.set_append_left _ _ (by simpa using hpo)] at this
      simpa using this
    · intro i q hi
      by_cases e : p = i
      · subst e
        simp [hp] at hi
        subst hi
        exact hnew
      · simp [List.getElem?_set_ne e] at hi
        have hm : q ∈ ps := List.mem_of_getElem? hi
        exact (h4 i q hi).fr fr4 (by rintro (rfl | rfl); exact hlp hm; exact hop hm)
    · intro k hk
      cases hk
      exact ⟨hlb, hlo, fun hm => (hmem _ hm).elim hlp (Ne.symm hnl)⟩
    · intro k hk
      cases hk
      exact ⟨hob, fun hm => (hmem _ hm).elim hop (Ne.symm hno)⟩
    · exact fun hm => (hmem _ hm).elim h8 (fun e => by have := h1.lt; simp only at e; omega)
    · intro i j q hi hi2 hj2
      simp only at hi hi2 hj2
      by_cases ei : p = i
      · subst ei
        simp [hp] at hi2
        by_cases ej : p = j
        · exact ej
        · simp [List.getElem?_set_ne ej] at hj2
          exact absurd hi2.symm (hqn q (List.mem_of_getElem? hj2))
      · simp [List.getElem?_set_ne ei] at hi2 hi
        by_cases ej : p = j
        · subst ej
          simp [hp] at hj2
          exact absurd hj2.symm (hqn q (List.mem_of_getElem? hi2))
        · simp [List.getElem?_set_ne ej] at hj2
          exact h9 i j q hi hi2 hj2
    · rintro k _ (rfl | rfl)
      · exact .inr (.inl rfl)
      · exact .inr (.inr (.inl rfl))
    · rintro k (hk | hk | hk | ⟨i, hi, hi2⟩)
      · exact .inl (.inl hk)
      · exact .inl (.inr (.inl hk))
      · exact .inl (.inr (.inr (.inl hk)))
      · simp only at hi hi2
        by_cases ei : p = i
        · subst ei
          simp [hp] at hi2
          exact .inr (by omega)
        · simp [List.getElem?_set_ne ei] at hi2 hi
          exact .inl (.inr (.inr (.inr ⟨i, hi, hi2⟩)))
    · intro k hk
      rcases hmem k hk with hk | hk
      · exact .inl (.inr hk)
      · exact .inr (by omega)
  · rename_i hown
    have hown : ow[p] = true := by simpa using hown
    refine rNil <| rFA0 <| rLd h1 rfl ?_
    refine rIA (by simpa using hp) ?_
    rw [Nat.mul_one]
    refine rLd (v := pt ps[p] 0) hl (by simp [List.getElem?_append, hp]) ?_
    refine hK w _ ⟨b, ps, ow, some l, some o⟩ ⟨⟨_, _, h1, ⟨lr, rfl, hl⟩, ⟨or, rfl, ho⟩⟩, h4, h5, h6, h7, h8, h9⟩ (Evo.refl _ _) rfl hq ?_
    simp only; rw [List.getElem?_eq_getElem hpo, hown]

end Go.Proofs.YtmaecpbkbkncgaaDoor
