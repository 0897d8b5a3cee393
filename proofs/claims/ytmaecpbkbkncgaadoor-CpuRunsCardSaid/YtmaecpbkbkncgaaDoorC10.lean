/-
  Cpu, part 10: CpuParts. Own work.
-/
import Derived.Test.YtmaecpbkbkncgaaDoorC9
set_option linter.unusedVariables false
set_option linter.unusedSimpArgs false
set_option maxRecDepth 100000
namespace Go.Proofs.YtmaecpbkbkncgaaDoor
open Go Go.V Go.RowKit

/-! ### A row of steps in two parts -/

theorem overP_shift : ∀ (k i d : Nat) (r : List Nat) (l : List UInt8), overP k (d + i) r l = ((overP k i r l).1, (overP k i r l).2.1, d + (overP k i r l).2.2.1, (overP k i r l).2.2.2)
  | 0, i, d, r, l => rfl
  | k + 1, i, d, r, l => by
    by_cases h : (stepP r l).2.2 = 0
    · rw [overP_go h, overP_go h, Nat.add_assoc, overP_shift k (i + 1) d]
    · rw [overP_end h, overP_end h]

theorem overP_split : ∀ (n m i : Nat) (r : List Nat) (l : List UInt8), overP (n + m) i r l = if (overP n i r l).2.2.2 = 0 then overP m (overP n i r l).2.2.1 (overP n i r l).1 (overP n i r l).2.1 else overP n i r l
  | 0, m, i, r, l => by
    rw [Nat.zero_add]
    exact (if_pos rfl).symm
  | n + 1, m, i, r, l => by
    rw [Nat.add_right_comm]
    by_cases h : (stepP r l).2.2 = 0
    · rw [overP_go h, overP_go h]
      exact overP_split n m (i + 1) _ _
    · rw [overP_end h, overP_end h, if_neg h]

theorem overP_two (n m : Nat) (r : List Nat) (l : List UInt8) : overP (n + m) 0 r l =
    if (overP n 0 r l).2.2.2 = 0 then ((overP m 0 (overP n 0 r l).1 (overP n 0 r l).2.1).1, (overP m 0 (overP n 0 r l).1 (overP n 0 r l).2.1).2.1, (overP n 0 r l).2.2.1 + (overP m 0 (overP n 0 r l).1 (overP n 0 r l).2.1).2.2.1, (overP m 0 (overP n 0 r l).1 (overP n 0 r l).2.1).2.2.2)
    else overP n 0 r l := by
  rw [overP_split]
  split
  · have := overP_shift m 0 (overP n 0 r l).2.2.1 (overP n 0 r l).1 (overP n 0 r l).2.1
    rw [Nat.add_zero] at this
    exact this
  · rfl

theorem overP_count : ∀ (k i : Nat) (r : List Nat) (l : List UInt8), (overP k i r l).2.2.1 ≤ i + k
  | 0, i, r, l => Nat.le_refl _
  | k + 1, i, r, l => by
    by_cases h : (stepP r l).2.2 = 0
    · rw [overP_go h]
      have := overP_count k (i + 1) (stepP r l).1 (stepP r l).2.1
      omega
    · rw [overP_end h]
      show i ≤ _
      omega

theorem rMod200 {n : Int} {K : Value → Prop} (hK : ∀ N : Nat, N < 200 → K (it N)) : vConv (.int .u64) (it n) fun v => vBin (.int .u64) .rem v (.int .u64 200) fun v => vConv (.int .i64) v K := by
  refine rCv ?_
  rw [wrap_u64m]
  have e : n % 18446744073709551616 = (((n % 18446744073709551616).toNat : Nat) : Int) := by omega
  rw [e]
  refine rRemU (y := 200) (by decide) <| rCv ?_
  have hl : (n % 18446744073709551616).toNat % 200 < 200 := Nat.mod_lt _ (by decide)
  rw [wrap_id (by omega) (by omega)]
  exact hK _ hl

/-- a state is laid into a new block -/
theorem newSt {w : World} {r : List Nat} {K : Value → World → Prop} (hr : St r) (hK : ∀ w', Fr (fun _ => False) w w' → Cs w' w.heap.size (stc r) → w'.heap.size = w.heap.size + 1 → K (pt w.heap.size 0) w') :
    vAlloc Tryd.prog 25 w fun v w => vSt (some 17) v (stv r) w fun w => K v w := by
  refine rAllocT zc25 ?_
  intro w1 h1 f1 s1
  have d1 : Cs w1 w.heap.size (stc (List.replicate 17 0)) := ⟨_, h1⟩
  refine rStN d1 (by simp [hr.len]) (by simp) (stc_one r) ?_
  intro w2 u2
  have c2 := u2.cs
  have e2 : spl (stc (List.replicate 17 0)) 0 (stc r).toArray.toList = stc r := by simp [spl, hr.len]
  rw [e2] at c2
  exact hK w2 (f1.trans u2.fr fun k hk e => by omega) c2 (by rw [u2.size, s1])

theorem Evo.out {w w' : World} {g g' : Gh} {q : Nat} (e : Evo w g w' g') (hq : q < w.heap.size) (hn : ¬ g.sees q) : ¬ g'.sees q := (Evp.of_evo (p := q) e).nsees hq hn

/-- CpuParts -/
theorem law7 {w : World} {s : List UInt8} {r : List Nat} {n m : Int} {K : Value → World → Prop} (hT : Tabs w) (hr : St r) (hK : ∀ w', Fr (fun _ => False) w w' → K (.bool true) w') : Ret Tryd.prog 7 #[str s, stv r, it n, it m] w K := by
  apply F7_ok
  unfold F7
  refine rBoxA ?_
  intro w1 c1' f1 s1
  have c1 : Cs w1 w.heap.size (stc r) := c1'
  refine lives_spec (hT.fr f1) ?_
  intro w2 f2
  have f02 := f1.more f2
  have c2 := c1.fr f2 id
  refine rNot <| rIfF <| memory_spec ?_
  intro w3 g1 o1
  refine memory_spec ?_
  intro w4 g2 o2
  have t4 := Two.new o1 o2
  have c4 := (c2.fr o1.fr id).fr o2.fr id
  have hq0 : w.heap.size < w2.heap.size := c2.lt
  have n1 : ¬ g1.sees w.heap.size := fun h => by have := t4.own1.mine _ h; omega
  have n2 : ¬ g2.sees w.heap.size := fun h => by have := t4.own2.mine _ h; omega
  refine joinOne (L := [it n, it m, pt w.heap.size 0, pt g1.b 0, pt g2.b 0, .bool false]) (ds := []) (w := w4) ?_ ?_
  · exact rPNil' <| rIfF <| rPNil' ⟨rfl, rfl, rfl⟩
  intro ρ hρ
  simp only [List.map_cons, List.map_nil, List.cons.injEq, and_true] at hρ
  obtain ⟨e2, e3, e5, e9, e10, e31⟩ := hρ
  unfold F7J1
  rw [e2, e3, e5, e9, e10, e31]
  have hT2 := hT.fr f02
  refine rIfF <| rMod200 fun N hN => rMod200 fun M hM => ld17 hr c4 <| rAdd (by omega) (by omega) ?_
  have eNM : (N : Int) + M = ((N + M : Nat) : Int) := by omega
  rw [eNM]
  refine over_spec hT2 t4.own1 hr (by omega) (by omega) ?_
  rw [Int.toNat_natCast]
  intro w5 g1' ev5 o5 hst5
  have t5 := t4.evo ev5 o5
  have c5 := c4.fr ev5.fr fun h => n1 (.inl h)
  have n1' := ev5.out c4.lt n1
  refine rT0 <| rT1 <| rT2 <| newSt hst5 ?_
  intro w7 f7 c7 s7
  have t7 := t5.more f7
  have hlt1 := t5.own1.ge
  have hlt2 := t5.own2.ge
  have b5 := c5.fr f7 id
  refine ld17 hr b5 ?_
  refine over_spec hT2 t7.own2 hr (by omega) (by omega) ?_
  rw [Int.toNat_natCast]
  intro w8 g2' ev8 o8 hst8
  have t8 := (t7.symm.evo ev8 o8).symm
  have c8 := c7.fr ev8.fr fun h => by have := hlt2 _ (.inl h); omega
  have m2 : ¬ g2'.sees w5.heap.size := ev8.out c7.lt fun h => by have := hlt2 _ h; omega
  have hlt8 := t8.own2.ge
  refine rT0 <| rT1 <| rT2 <| newSt hst8 ?_
  intro w9 f9 c9 s9
  have t9 := t8.more f9
  have d9 := c8.fr f9 id
  have hne : w5.heap.size ≠ w8.heap.size := by have := c8.lt; omega
  -- the second part
  have hb1 : g1'.b = g1.b := ev5.b
  have hb2 : g2'.b = g2.b := ev8.b
  have htwo := overP_two N M r (memP s)
  have hcN := overP_count N 0 r (memP s)
  have hsz := o1.fr.size
  rw [← hb2]
  refine ⟨fun vs ds W => ds = [] ∧ ∃ (g : Gh) (r' : List Nat) (l' : List UInt8) (i : Nat) (x : Int), vs = [pt g1.b 0, pt g2.b 0, pt w5.heap.size 0, it (overP (N + M) 0 r (memP s)).2.2.1, it (overP (N + M) 0 r (memP s)).2.2.2, pt w8.heap.size 0, it i, it x] ∧ Two w2 W g1' (overP (N + M) 0 r (memP s)).2.1 g l' ∧ g.b = g2.b ∧
      Cs W w5.heap.size (stc (overP (N + M) 0 r (memP s)).1) ∧ Cs W w8.heap.size (stc r') ∧ overP (N + M) 0 r (memP s) = (r', l', i, x), ?_, ?_⟩
  · refine rEq <| rIf (fun h0 => ?_) (fun h0 => ?_)
    · have h0 : (overP N 0 r (memP s)).2.2.2 = 0 := by simpa using h0
      rw [if_pos h0] at htwo
      refine ld17 hst8 c9 ?_
      have hlt9 := t9.own2.ge
      refine over_spec hT2 t9.own2 hst8 (by omega) (by omega) ?_
      rw [Int.toNat_natCast]
      intro w10 g2'' ev10 o10 hst10
      have t10 := (t9.symm.evo ev10 o10).symm
      have d10 := d9.fr ev10.fr fun h => m2 (.inl h)
      have c10 := c9.fr ev10.fr fun h => by have := hlt8 _ (.inl h); omega
      refine rT0 <| rT1 <| rT2 <| newSt hst10 ?_
      intro w11 f11 c11 s11
      have t11 := t10.more f11
      have d11 := d10.fr f11 id
      have e11 := c10.fr f11 id
      refine ld17 hst10 c11 ?_
      have hcM := overP_count M 0 (overP N 0 r (memP s)).1 (overP N 0 r (memP s)).2.1
      refine rAdd (by omega) (by omega) ?_
      refine rStN e11 (by simp [hst10.len]) (by simp [hst8.len]) (stc_one _) ?_
      intro w12 u12
      have u12c := u12.cs
      have e2 : spl (stc (overP N 0 r (memP s)).1) 0 (stc (overP M 0 (overP N 0 r (memP s)).1 (overP N 0 r (memP s)).2.1).1).toArray.toList = stc (overP M 0 (overP N 0 r (memP s)).1 (overP N 0 r (memP s)).2.1).1 := by simp [spl, hst10.len, hst8.len]
      rw [e2] at u12c
      have hn12 : ∀ k, k = w8.heap.size → ¬ g1'.sees k := fun k e h => by have := t8.own1.ge _ h; omega
      have hm12 : ¬ g2''.sees w8.heap.size := ev10.out c9.lt (fun h => by have := hlt8 _ h; omega)
      have hw8 : w2.heap.size ≤ w8.heap.size := t8.own1.fr.size
      have t12 : Two w2 w12 g1' (overP (N + M) 0 r (memP s)).2.1 g2'' (overP M 0 (overP N 0 r (memP s)).1 (overP N 0 r (memP s)).2.1).2.1 :=
        ⟨t11.own1.frp u12.fr hw8 (hn12 _ rfl), t11.own2.frp u12.fr hw8 hm12, t11.dis⟩
      have ei : (((overP N 0 r (memP s)).2.2.1 : Int) + ((overP M 0 (overP N 0 r (memP s)).1 (overP N 0 r (memP s)).2.1).2.2.1 : Int)) = (((overP N 0 r (memP s)).2.2.1 + (overP M 0 (overP N 0 r (memP s)).1 (overP N 0 r (memP s)).2.1).2.2.1 : Nat) : Int) := by omega
      rw [ei]
      exact ⟨rfl, g2'', _, _, _, _, by rw [hb2], t12, ev10.b.trans hb2, d11.up u12 hne, u12c, htwo⟩
    · have h0 : ¬ (overP N 0 r (memP s)).2.2.2 = 0 := by simpa using h0
      rw [if_neg h0] at htwo
      exact ⟨rfl, g2', _, _, _, _, by rw [hb2], t9, hb2, d9, c9, htwo⟩
  rintro ρ ds W ⟨rfl, g, r', l', i, x, hρ, t, hg, cA, cB, hall⟩
  simp only [List.map_cons, List.map_nil, List.cons.injEq, and_true] at hρ
  obtain ⟨e9, e10, e11, e12, e13, e14, e15, e16⟩ := hρ
  unfold F7J2
  rw [e9, e10, e11, e12, e13, e14, e15, e16]
  rw [hall] at cA t ⊢
  rw [hall] at hst5
  refine ld17 hst5 cA <| ld17 hst5 cB <| rStEq hst5 hst5 ?_
  rw [decide_eq_true rfl]
  refine rIfT <| rEq ?_
  rw [beq_self_eq_true]
  refine rIfT <| rEq ?_
  rw [beq_self_eq_true]
  refine rIfT ?_
  rw [← hb1, ← hg]
  refine all_spec t.own1 ?_
  intro w13 f13
  refine all_spec (t.own2.more f13) ?_
  intro w14 f14
  refine rSEq ?_
  rw [beq_self_eq_true]
  exact hK w14 (f02.more ((t.own1.fr.more f13).more f14))

end Go.Proofs.YtmaecpbkbkncgaaDoor
