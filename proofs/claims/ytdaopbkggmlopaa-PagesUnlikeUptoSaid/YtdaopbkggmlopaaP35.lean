/-
  Pages, part 35: the law PagesUnlike: it returns true. Own work.
-/
import Derived.Test.YtdaopbkggmlopaaP34
set_option linter.unusedVariables false
set_option linter.unusedSimpArgs false
namespace Go.Proofs.Ytdaopbkggmlopaa
open Go Go.V Go.RowKit

/-! ### Both tell the same -/

theorem unA_iff {a b : List UInt8} {i : Nat} : unA a b i = true ↔ ((i < a.length ∧ ¬ i < b.length) ∨ (¬ i < a.length ∧ i < b.length)) ∨ (i < a.length ∧ cont a i ≠ cont b i) := by
  unfold unA
  by_cases h1 : i < a.length <;> by_cases h2 : i < b.length <;> simp [h1, h2]

theorem unR_unl (a b : List UInt8) (p : Nat) : unR a b p = unl a.length b.length (cont a) (cont b) p := by
  have hiff : unR a b p = true ↔ unl a.length b.length (cont a) (cont b) p = true := by
    unfold unR unl
    rw [List.any_eq_true]
    simp only [Bool.or_eq_true, decide_eq_true_eq, Bool.not_eq_true', List.mem_range]
    constructor
    · rintro ⟨j, hj, hu⟩
      rw [unA_iff] at hu
      rcases hu with (⟨h1, h2⟩ | ⟨h1, h2⟩) | ⟨h1, h2⟩
      · left; omega
      · left; omega
      · right
        cases hq : pgEq (cont a) (cont b) p
        · rfl
        · exact absurd (pgEq_iff.1 hq j hj) h2
    · rintro (h | h)
      · by_cases hlt : min (a.length - 64 * p) 64 < min (b.length - 64 * p) 64
        · refine ⟨a.length - 64 * p, by omega, unA_iff.2 (.inl (.inr ⟨by omega, by omega⟩))⟩
        · refine ⟨b.length - 64 * p, by omega, unA_iff.2 (.inl (.inl ⟨by omega, by omega⟩))⟩
      · have : ¬ ∀ j, j < 64 → cont a (64 * p + j) = cont b (64 * p + j) := fun hh => by rw [pgEq_iff.2 hh] at h; cases h
        simp only [Classical.not_forall] at this
        obtain ⟨j, hj, hne⟩ := this
        refine ⟨j, hj, unA_iff.2 ?_⟩
        by_cases h1 : 64 * p + j < a.length
        · exact .inr ⟨h1, hne⟩
        · by_cases h2 : 64 * p + j < b.length
          · exact .inl (.inr ⟨h1, h2⟩)
          · exact absurd (by rw [cont_zero a _ (by omega), cont_zero b _ (by omega)]) hne
  cases h1 : unR a b p <;> cases h2 : unl a.length b.length (cont a) (cont b) p <;> simp_all

theorem filter_range (f : Nat → Bool) {m n : Nat} (h : m ≤ n) (hf : ∀ p, m ≤ p → p < n → f p = false) : (List.range n).filter f = (List.range m).filter f := by
  obtain ⟨k, rfl⟩ : ∃ k, n = m + k := ⟨n - m, by omega⟩
  clear h
  induction k with
  | zero => rfl
  | succ k ih =>
    rw [show m + (k + 1) = (m + k) + 1 by omega, filter_snoc, hf (m + k) (by omega) (by omega), ih fun p h1 h2 => hf p h1 (by omega)]
    simp

theorem unlike_same {a b : List UInt8} (ha : a.length ≤ 4096) (hb : b.length ≤ 4096) :
    (List.range 64).filter (unR a b) = (List.range (max ((a.length + 63) / 64) ((b.length + 63) / 64))).filter (unl a.length b.length (cont a) (cont b)) := by
  have e : unR a b = unl a.length b.length (cont a) (cont b) := funext (unR_unl a b)
  rw [e]
  refine filter_range _ (by omega) fun p h1 h2 => ?_
  rw [← e]
  cases hq : unR a b p
  · rfl
  · unfold unR at hq
    rw [List.any_eq_true] at hq
    obtain ⟨j, hj, hu⟩ := hq
    rw [unA_iff] at hu
    have : j < 64 := by simpa using hj
    omega

theorem pgEq_comm (c d : Nat → UInt8) (p : Nat) : pgEq c d p = pgEq d c p := by
  have : pgEq c d p = true ↔ pgEq d c p = true := by
    rw [pgEq_iff, pgEq_iff]
    exact ⟨fun h j hj => (h j hj).symm, fun h j hj => (h j hj).symm⟩
  cases h1 : pgEq c d p <;> cases h2 : pgEq d c p <;> simp_all

theorem unl_comm (n m : Nat) (c d : Nat → UInt8) : unl n m c d = unl m n d c := by
  funext p
  unfold unl
  rw [pgEq_comm]
  congr 1
  have : (min (n - 64 * p) 64 ≠ min (m - 64 * p) 64) ↔ (min (m - 64 * p) 64 ≠ min (n - 64 * p) 64) := ⟨Ne.symm, Ne.symm⟩
  exact decide_eq_decide.2 this

theorem unl_none (n : Nat) (c : Nat → UInt8) (l : List Nat) : l.filter (unl n n c c) = [] := by
  rw [List.filter_eq_nil_iff]
  intro p _
  rw [unl_self]
  have : pgEq c c p = true := pgEq_iff.2 fun _ _ => rfl
  rw [this]; simp

theorem Row.lenE {w : World} {v : Value} {xs : List Value} {bl : Option Nat} (h : Row w v xs bl) {K : Value → Prop} (k : K (it xs.length)) : vLen (.slice 1) v K := by
  obtain ⟨_, _, a, cp, rfl⟩ := h.val
  exact k

/-! ### The law -/

/-- two at once: the one that is played with, and one that is left alone -/
structure Duo (w0 W : World) (g : Gh) (l : List UInt8) (v : Value) (bl : Option Nat) (x : OldX) : Prop where
  own : Own w0 W g l.length (cont l)
  bs : Bs W v l bl
  apart : ∀ k, bl = some k → ¬ g.foot k
  old : Old w0 W g.foot x

section
variable {w0 W : World} {g : Gh} {l : List UInt8} {v : Value} {bl : Option Nat} {x : OldX}

theorem Duo.more (h : Duo w0 W g l v bl x) {W' : World} (f : Fr (fun _ => False) W W') : Duo w0 W' g l v bl x :=
  ⟨h.own.more f, h.bs.more f, h.apart, h.old.keep f (fun _ => False.elim) (fun _ _ => False.elim) (fun _ _ => id)⟩

theorem Duo.step (h : Duo w0 W g l v bl x) {W' : World} {g' : Gh} {v' : Value} {l' : List UInt8} {bl' : Option Nat} (evo : Evo W g W' g') (own : Own w0 W' g' l'.length (cont l')) (bs : Bs W' v' l' bl')
    (ha : ∀ k, bl' = some k → ¬ g'.foot k) : Duo w0 W' g' l' v' bl' x :=
  ⟨own, bs, ha, h.old.keep evo.fr (fun k hk => h.own.mine k (.inl hk)) (fun _ _ => id) fun k hk hf => by
    rcases evo.foot k hf with e | e
    · exact e
    · omega⟩

end

/-- the three lists, place by place -/
theorem law6_tail {w0 W : World} {ga : Gh} {n : Nat} {c : Nat → UInt8} {vx vy vw : Value} {L : List Nat} {bx by1 bw : Option Nat} {K : Value → World → Prop} (ho : Own w0 W ga n c) (hx : Is W vx L bx) (hy : Is W vy L by1) (hw : Is W vw L bw) (hL : L.length ≤ 64)
    (hK : ∀ w', Fr (fun _ => False) w0 w' → K (.bool true) w') : ∀ (ρ : Env), [9, 22, 23, 24].map ρ = [pt ga.b 0, vx, vy, vw] → F6J6 K ρ [] W := by
  intro ρ hρ
  simp only [List.map_cons, List.map_nil, List.cons.injEq, and_true] at hρ
  obtain ⟨q9, q22, q23, q24⟩ := hρ
  unfold F6J6
  rw [q9, q22, q23, q24]
  refine Row.lenE hw ?_
  rw [List.length_map]
  refine ⟨fun vs ds V => ds = [] ∧ ∃ i : Nat, i ≤ L.length ∧ vs = [pt ga.b 0, vx, vy, vw, it L.length, it i] ∧ Own w0 V ga n c ∧ Is V vx L bx ∧ Is V vy L by1 ∧ Is V vw L bw,
    fun vs _ _ => match vs with | [_, _, _, _, _, .int _ i] => L.length - i.toNat | _ => 0, ⟨rfl, 0, by omega, rfl, ho, hx, hy, hw⟩, ?_⟩
  rintro ρ ds V ⟨rfl, i, hi, hρ, ho, hx, hy, hw⟩
  have hρ0 := hρ
  simp only [List.map_cons, List.map_nil, List.cons.injEq, and_true] at hρ
  obtain ⟨q9, q22, q23, q24, q132, q133⟩ := hρ
  unfold F6L3
  rw [hρ0, q9, q22, q23, q24, q132, q133]
  refine rLt <| rIf (fun hlt => ?_) (fun hge => ?_)
  · have hlt : i < L.length := by simpa using hlt
    have hg : (L.map fun (i : Nat) => it i)[i]? = some (it L[i]) := by rw [List.getElem?_map, List.getElem?_eq_getElem hlt]; rfl
    refine ⟨fun W' => W'.heap = V.heap, rfl, ?_⟩
    refine Row.ldH hx hg <| Row.ldH hw hg <| rNe ?_
    rw [ine_refl]
    refine rIfF <| Row.ldH hy hg <| Row.ldH hw hg <| rNe ?_
    rw [ine_refl]
    refine rBool <| rIfF <| rAdd (by omega) (by omega) ?_
    have ei : (i : Int) + 1 = ((i + 1 : Nat) : Int) := by omega
    rw [ei]
    have f := (Fr.refl (fun _ => False) V).drew
    refine ⟨⟨rfl, i + 1, by omega, rfl, ho.more f, Row.fr hx f fun _ _ => id, Row.fr hy f fun _ _ => id, Row.fr hw f fun _ _ => id⟩, ?_⟩
    show L.length - ((i + 1 : Nat) : Int).toNat < L.length - ((i : Nat) : Int).toNat
    simp; omega
  · refine unlike18 ho ho ?_
    intro w5 v5 b5 r5 _ f5
    rw [unl_none] at r5
    refine Row.lenE r5 <| rEq ?_
    exact hK w5 (ho.more f5).fr

theorem law6_end {w0 W : World} {g : Gh} {l : List UInt8} {v : Value} {bl : Option Nat} {x : OldX} {K : Value → World → Prop} (h : Duo w0 W g l v bl x) (hK : ∀ w', Fr (fun _ => False) w0 w' → K (.bool true) w') :
    CallK Try.prog 18 #[pt x.1.b 0, pt g.b 0] W fun v112 w_11 => CallK Try.prog 18 #[pt g.b 0, pt x.1.b 0] w_11 fun v115 w_12 => CallK Try.prog 19 #[x.2.2.1, v] w_12 fun v118 w_13 =>
      joinF [9, 22, 23, 24] (fun J6 =>
        vLen (.slice 1) v112 fun v120 => vLen (.slice 1) v118 fun v122 => vBin (.int .i64) .neq v120 v122 fun v123 => vBool v123 fun g_3 => if g_3 = true then
          (vBool v123 fun b_5 => vBool (bif b_5 then (.bool true) else undef) fun c_5 => if c_5 = true then (leaveV [] w_13 fun W => K (.bool false) W) else J6 [pt x.1.b 0, v112, v115, v118] [] w_13)
        else (vLen (.slice 1) v115 fun v126 => vLen (.slice 1) v118 fun v128 => vBin (.int .i64) .neq v126 v128 fun v129 => vBool v123 fun b_6 => vBool (bif b_6 then (.bool true) else v129) fun c_6 => if c_6 = true then (leaveV [] w_13 fun W => K (.bool false) W)
          else J6 [pt x.1.b 0, v112, v115, v118] [] w_13)) (F6J6 K) := by
  have hx := h.old
  have la := hx.own.le
  have lb := h.own.le
  refine unlike18 hx.own h.own ?_
  intro w1 v1 b1 r1 _ f1
  have h1 := h.more f1
  refine unlike18 h1.own h1.old.own ?_
  intro w2 v2 b2 r2 _ f2
  have h2 := h1.more f2
  refine unlike19 h2.old.bs h2.bs la lb ?_
  intro w3 v3 b3 r3 _ f3
  have h3 := h2.more f3
  rw [unlike_same la lb] at r3
  rw [unl_comm, Nat.max_comm] at r2
  have k1 := (Row.fr r1 f2 fun _ _ => id).fr f3 fun _ _ => id
  have k2 := Row.fr r2 f3 fun _ _ => id
  have hL : ((List.range (max ((x.2.1.length + 63) / 64) ((l.length + 63) / 64))).filter (unl x.2.1.length l.length (cont x.2.1) (cont l))).length ≤ 64 := by
    have := List.length_filter_le (unl x.2.1.length l.length (cont x.2.1) (cont l)) (List.range (max ((x.2.1.length + 63) / 64) ((l.length + 63) / 64)))
    rw [List.length_range] at this
    omega
  generalize ((List.range (max ((x.2.1.length + 63) / 64) ((l.length + 63) / 64))).filter (unl x.2.1.length l.length (cont x.2.1) (cont l))) = L at k1 k2 r3 hL
  refine ⟨fun vs ds V => vs = [pt x.1.b 0, v1, v2, v3] ∧ ds = [] ∧ V = w3, ?_, ?_⟩
  · refine Row.lenE k1 <| Row.lenE r3 <| rNe ?_
    rw [ine_refl]
    refine rIfF <| Row.lenE k2 <| Row.lenE r3 <| rNe ?_
    rw [ine_refl]
    exact rBool <| rIfF ⟨rfl, rfl, rfl⟩
  · rintro ρ ds V ⟨hρ, rfl, rfl⟩
    exact law6_tail h3.old.own k1 k2 r3 hL hK ρ hρ

theorem law6_second {w0 W : World} {g : Gh} {l : List UInt8} {v sc : Value} {bl : Option Nat} {x : OldX} {os : List OpV} {K : Value → World → Prop} (h : Duo w0 W g l v bl x) (ho : Ops w0 sc os) (hlen : os.length < 9223372036854775808) (hK : ∀ w', Fr (fun _ => False) w0 w' → K (.bool true) w') :
    ∀ (ρ : Env), [3, 9, 11, 16, 17].map ρ = [sc, pt x.1.b 0, x.2.2.1, pt g.b 0, v] → F6J3 K ρ [] W := by
  intro ρ hρ
  simp only [List.map_cons, List.map_nil, List.cons.injEq, and_true] at hρ
  obtain ⟨q3, q9, q11, q16, q17⟩ := hρ
  unfold F6J3
  rw [q3, q9, q11, q16, q17]
  refine ho.lenE ?_
  refine ⟨fun vs ds V => ds = [] ∧ ∃ (i : Nat) (g : Gh) (l : List UInt8) (v : Value) (bl : Option Nat), i ≤ os.length ∧ vs = [pt x.1.b 0, x.2.2.1, pt g.b 0, v, sc, it os.length, it i] ∧ Duo w0 V g l v bl x,
    fun vs _ _ => match vs with | [_, _, _, _, _, _, .int _ i] => os.length - i.toNat | _ => 0, ⟨rfl, 0, g, l, v, bl, by omega, rfl, h⟩, ?_⟩
  rintro ρ ds V ⟨rfl, i, g, l, v, bl, hi, hρ, hV⟩
  have hρ0 := hρ
  simp only [List.map_cons, List.map_nil, List.cons.injEq, and_true] at hρ
  obtain ⟨q9, q11, q16, q17, q85, q86, q87⟩ := hρ
  unfold F6L2
  rw [hρ0, q9, q11, q16, q17, q85, q86, q87]
  refine rLt <| rIf (fun hlt => ?_) (fun hge => law6_end hV hK)
  have hlt : i < os.length := by simpa using hlt
  have hx := List.getElem?_eq_getElem hlt
  have hok := ho.ok _ (List.getElem_mem hlt)
  generalize os[i] = o at hx hok
  obtain ⟨kd, a, n, pv, xs, y⟩ := o
  refine ho.get V hV.own.fr i _ hx _ ?_
  refine rAllocT zc44 ?_
  intro w5 k5 f5 s5
  refine rStN (n := 5) ⟨44, k5⟩ rfl (by simp) (by
    obtain ⟨_, c, hp⟩ := hok.s.shape
    simp only at hp
    intro y hy
    simp only [OpV.cells, List.mem_cons, List.not_mem_nil, or_false] at hy
    rcases hy with rfl | rfl | rfl | rfl | rfl <;> first | rfl | (rw [hp]; rfl)) ?_
  intro w6 u6
  have f56 : Fr (fun _ => False) V w6 := f5.trans u6.fr (fun k hk e => by omega)
  have h6 := hV.more f56
  have c6 : Cs w6 V.heap.size [it kd, it a, it n, pv, .int .u64 y] := u6.cs
  have step_next : (i : Int) + 1 = ((i + 1 : Nat) : Int) := by omega
  have dec : os.length - ((i + 1 : Nat) : Int).toNat < os.length - ((i : Nat) : Int).toNat := by simp; omega
  refine ⟨fun vs ds U => ∃ b : Bool, vs = [pt x.1.b 0, x.2.2.1, pt g.b 0, v, pt V.heap.size 0, sc, it os.length, it i, .bool b] ∧ ds = [] ∧ U = w6, ?_, ?_⟩
  · refine rLt <| rIf (fun h40 => ?_) (fun h40 => ?_)
    · refine rFA0 <| rLd c6 rfl <| rNe ?_
      rw [h40]
      exact rBool ⟨_, rfl, rfl, rfl⟩
    · rw [h40]
      exact rBool ⟨false, rfl, rfl, rfl⟩
  · rintro ρ ds U ⟨b, hρ, rfl, rfl⟩
    simp only [List.map_cons, List.map_nil, List.cons.injEq, and_true] at hρ
    obtain ⟨q9, q11, q16, q17, q19, q85, q86, q87, q98⟩ := hρ
    unfold F6J5
    rw [q9, q11, q16, q17, q19, q85, q86, q87, q98]
    refine rIf (fun _ => ?_) (fun _ => ?_)
    · refine rLdN c6 (by simp) ?_
      show CallK Try.prog 16 #[pt g.b 0, v, .agg #[it kd, it a, it n, pv, .int .u64 y]] U _
      refine step16 h6.own h6.bs h6.apart hok.a1 hok.a2 hok.x (by
        exact ⟨hok.s.shape, hok.s.get, hok.s.src⟩) hok.n hok.l ?_
      intro w7 g7 v7 l7 bl7 evo own7 bs7 hb7 ha7
      have h7 := h6.step evo own7 bs7 ha7
      refine rExt0 <| rExt1 <| rNot <| rIfF <| rAdd (by omega) (by omega) ?_
      rw [step_next, ← evo.b]
      exact ⟨⟨rfl, i + 1, g7, l7, v7, bl7, by omega, rfl, h7⟩, dec⟩
    · refine rAdd (by omega) (by omega) ?_
      rw [step_next]
      exact ⟨⟨rfl, i + 1, g, l, v, bl, by omega, rfl, h6⟩, dec⟩

structure Solo (w0 W : World) (g : Gh) (l : List UInt8) (v : Value) (bl : Option Nat) : Prop where
  own : Own w0 W g l.length (cont l)
  bs : Bs W v l bl
  apart : ∀ k, bl = some k → ¬ g.foot k

theorem law6_first {w0 W : World} {g : Gh} {l : List UInt8} {v sc1 sc2 : Value} {bl : Option Nat} {os1 os2 : List OpV} {M : Nat} {K : Value → World → Prop} (h : Solo w0 W g l v bl) (ho1 : Ops w0 sc1 os1) (ho2 : Ops w0 sc2 os2) (hlen1 : os1.length < 9223372036854775808) (hlen2 : os2.length < 9223372036854775808)
    (hM : M ≤ 4096) (hK : ∀ w', Fr (fun _ => False) w0 w' → K (.bool true) w') :
    loopF [1, 3, 9, 11, 45, 46, 47] [it M, sc2, pt g.b 0, v, sc1, it os1.length, it 0] [] W (F6L1 K) := by
  refine ⟨fun vs ds V => ds = [] ∧ ∃ (i : Nat) (g : Gh) (l : List UInt8) (v : Value) (bl : Option Nat), i ≤ os1.length ∧ vs = [it M, sc2, pt g.b 0, v, sc1, it os1.length, it i] ∧ Solo w0 V g l v bl,
    fun vs _ _ => match vs with | [_, _, _, _, _, _, .int _ i] => os1.length - i.toNat | _ => 0, ⟨rfl, 0, g, l, v, bl, by omega, rfl, h⟩, ?_⟩
  rintro ρ ds V ⟨rfl, i, g, l, v, bl, hi, hρ, hV⟩
  have hρ0 := hρ
  simp only [List.map_cons, List.map_nil, List.cons.injEq, and_true] at hρ
  obtain ⟨q1, q3, q9, q11, q45, q46, q47⟩ := hρ
  unfold F6L1
  rw [hρ0, q1, q3, q9, q11, q45, q46, q47]
  refine rLt <| rIf (fun hlt => ?_) (fun hge => ?_)
  · have hlt : i < os1.length := by simpa using hlt
    have hx := List.getElem?_eq_getElem hlt
    have hok := ho1.ok _ (List.getElem_mem hlt)
    generalize os1[i] = o at hx hok
    obtain ⟨kd, a, n, pv, xs, y⟩ := o
    refine ho1.get V hV.own.fr i _ hx _ ?_
    refine rAllocT zc44 ?_
    intro w5 k5 f5 s5
    refine rStN (n := 5) ⟨44, k5⟩ rfl (by simp) (by
      obtain ⟨_, c, hp⟩ := hok.s.shape
      simp only at hp
      intro y hy
      simp only [OpV.cells, List.mem_cons, List.not_mem_nil, or_false] at hy
      rcases hy with rfl | rfl | rfl | rfl | rfl <;> first | rfl | (rw [hp]; rfl)) ?_
    intro w6 u6
    have f56 : Fr (fun _ => False) V w6 := f5.trans u6.fr (fun k hk e => by omega)
    have h6 : Solo w0 w6 g l v bl := ⟨hV.own.more f56, hV.bs.more f56, hV.apart⟩
    have c6 : Cs w6 V.heap.size [it kd, it a, it n, pv, .int .u64 y] := u6.cs
    have step_next : (i : Int) + 1 = ((i + 1 : Nat) : Int) := by omega
    have dec : os1.length - ((i + 1 : Nat) : Int).toNat < os1.length - ((i : Nat) : Int).toNat := by simp; omega
    refine ⟨fun vs ds U => ∃ b : Bool, vs = [it M, sc2, pt g.b 0, v, pt V.heap.size 0, sc1, it os1.length, it i, .bool b] ∧ ds = [] ∧ U = w6, ?_, ?_⟩
    · refine rLt <| rIf (fun h40 => ?_) (fun h40 => ?_)
      · refine rFA0 <| rLd c6 rfl <| rNe ?_
        rw [h40]
        exact rBool ⟨_, rfl, rfl, rfl⟩
      · rw [h40]
        exact rBool ⟨false, rfl, rfl, rfl⟩
    · rintro ρ ds U ⟨b, hρ, rfl, rfl⟩
      simp only [List.map_cons, List.map_nil, List.cons.injEq, and_true] at hρ
      obtain ⟨q1, q3, q9, q11, q13, q45, q46, q47, q58⟩ := hρ
      unfold F6J2
      rw [q1, q3, q9, q11, q13, q45, q46, q47, q58]
      refine rIf (fun _ => ?_) (fun _ => ?_)
      · refine rLdN c6 (by simp) ?_
        show CallK Try.prog 16 #[pt g.b 0, v, .agg #[it kd, it a, it n, pv, .int .u64 y]] U _
        refine step16 h6.own h6.bs h6.apart hok.a1 hok.a2 hok.x (by
          exact ⟨hok.s.shape, hok.s.get, hok.s.src⟩) hok.n hok.l ?_
        intro w7 g7 v7 l7 bl7 evo own7 bs7 hb7 ha7
        refine rExt0 <| rExt1 <| rNot <| rIfF <| rAdd (by omega) (by omega) ?_
        rw [step_next, ← evo.b]
        exact ⟨⟨rfl, i + 1, g7, l7, v7, bl7, by omega, rfl, ⟨own7, bs7, ha7⟩⟩, dec⟩
      · refine rAdd (by omega) (by omega) ?_
        rw [step_next]
        exact ⟨⟨rfl, i + 1, g, l, v, bl, by omega, rfl, h6⟩, dec⟩
  · have hle := hV.own.le
    refine copy15 hV.own ?_
    intro w6 g6 o1 o2 f6 ff6 fs6
    have hob : ∀ k, g.ob = some k → g.foot k := fun k hk => .inr (.inr (.inl hk))
    have hb6 : Bs w6 v l bl := hV.bs.fr f6 fun k hk hg => hV.apart k hk (hob k hg)
    have hbl : ∀ k, bl = some k → k < V.heap.size := hV.bs.lt
    refine bs38_0 ?_
    intro w7 c7 f7 s7
    have hs0 : Bs w7 (sv w6.heap.size 0 0) [] (some w6.heap.size) := ⟨[], rfl, c7⟩
    refine Bs.app k38 hs0 (hb6.more f7).src (by simp; omega) ?_
    intro w8 v8 bl8 h8 f8 hb8 _
    rw [List.nil_append] at h8
    have s6 := f6.size
    have f68 : Fr (fun _ => False) w6 w8 := f7.trans f8 (fun k hk e => by simp only [Option.some.injEq] at e; omega)
    have hb8' : ∀ k, bl8 = some k → w6.heap.size ≤ k := fun k hk => by
      rcases hb8 k hk with e | e
      · simp only [Option.some.injEq] at e; omega
      · omega
    have g6lt := o2.sees_lt
    have hsh : ∀ k, g.shut.sees k → k < V.heap.size := by
      rintro k (hk | hk)
      · exact hV.own.sees_lt k (.inl (shut_foot hk))
      · exact hV.own.sees_lt k (.inr hk)
    have duo : Duo w0 w8 g6 l v8 bl8 (g.shut, l, v, bl) :=
      ⟨o2.more f68, h8, fun k hk hf => by have := hb8' k hk; have := g6lt k (.inl hf); omega,
        ⟨o1.more f68, hb6.more f68, fun k hk hf => by have := ff6 k hf; have := hsh k hk; omega, fun k hk hf => by have := ff6 k hf; have := hbl k hk; omega⟩⟩
    refine ⟨fun vs ds U => ∃ g' l' v' bl', vs = [sc2, pt g.b 0, v, pt g'.b 0, v'] ∧ ds = [] ∧ Duo w0 U g' l' v' bl' (g.shut, l, v, bl), ?_, ?_⟩
    · refine ⟨rfl, by decide, rEq ?_⟩
      refine rIf (fun _ => ?_) (fun _ => ⟨g6, l, v8, bl8, rfl, rfl, duo⟩)
      refine Own.new (w0 := w8) (Fr.refl _ w8) (fun hbad => by omega) ?_
      intro m hm _ w9 g9 h9
      have hm : m = M := by omega
      subst hm
      refine rExt0 <| rExt1 <| mk38 (by omega) ?_
      intro w10 v10 b10 f10 s10
      have hc : (fun _ : Nat => (0 : UInt8)) = cont (List.replicate m 0) := by
        funext i
        unfold cont
        rw [List.getElem?_replicate]
        split <;> rfl
      have s8 : w0.heap.size ≤ w8.heap.size := duo.own.fr.size
      have s89 := h9.fr.size
      refine ⟨g9, List.replicate m 0, v10, some w9.heap.size, rfl, rfl, ?_⟩
      have d9 := duo.more h9.fr
      have d10 := d9.more f10
      have h10 := h9.more f10
      refine ⟨?_, b10, fun k hk hf => ?_, ?_⟩
      · rw [← hc, List.length_replicate]
        exact ⟨d10.own.fr, fun k hk => by have := h9.mine k hk; omega, h10.by', h10.len, h10.le, h10.zero⟩
      · simp only [Option.some.injEq] at hk
        have := h9.sees_lt k (.inl hf); omega
      · have hold := d10.old
        refine ⟨hold.own, hold.bs, fun k hk hf => ?_, fun k hk hf => ?_⟩
        · have := h9.mine k (.inl hf)
          have := hsh k hk
          have := f68.size
          omega
        · have := h9.mine k (.inl hf)
          have := hbl k hk
          have := f68.size
          omega
    · rintro ρ ds U ⟨g', l', v', bl', hρ, rfl, hd⟩
      exact law6_second (x := (g.shut, l, v, bl)) hd ho2 hlen2 hK ρ hρ

theorem law6 {w : World} {n m : Int} {sc1 sc2 : Value} {os1 os2 : List OpV} {K : Value → World → Prop} (ho1 : Ops w sc1 os1) (ho2 : Ops w sc2 os2) (hlen1 : os1.length < 9223372036854775808) (hlen2 : os2.length < 9223372036854775808)
    (hK : ∀ w', Fr (fun _ => False) w w' → K (.bool true) w') : Ret Try.prog 6 #[it n, it m, sc1, sc2] w K := by
  apply F6_ok
  unfold F6
  refine lives_spec ?_
  intro w1 f1
  refine rNot <| rIfF <| rMod ?_
  intro N hN
  refine rMod ?_
  intro M hM
  refine Own.new (w0 := w) f1 (fun h => by omega) ?_
  intro m hm _ w2 g h
  have hm : m = N := by omega
  subst hm
  refine rExt0 <| rExt1 <| rNe <| rIfF <| mk38 (by omega) ?_
  intro w4 v4 b4 f4 s4
  have hc : (fun _ : Nat => (0 : UInt8)) = cont (List.replicate m 0) := by
    funext i
    unfold cont
    rw [List.getElem?_replicate]
    split <;> rfl
  have h4 : Own w w4 g (List.replicate m (0 : UInt8)).length (cont (List.replicate m 0)) := by
    rw [← hc, List.length_replicate]
    exact h.more f4
  refine ho1.lenE ?_
  exact law6_first ⟨h4, b4, fun k hk hf => by simp only [Option.some.injEq] at hk; have := h.lt k hf; omega⟩ ho1 ho2 hlen1 hlen2 hM hK

end Go.Proofs.Ytdaopbkggmlopaa
