/-
  Pages, part 31: Unlike. Own work.
-/
import Derived.Test.YtdaopbkggmlopaaP30
set_option linter.unusedVariables false
set_option linter.unusedSimpArgs false
namespace Go.Proofs.Ytdaopbkggmlopaa
open Go Go.V Go.RowKit

/-! ### == of two pages -/

def pgEq (c d : Nat → UInt8) (p : Nat) : Bool := (List.range 64).all fun j => c (64 * p + j) == d (64 * p + j)

theorem pgEq_iff {c d : Nat → UInt8} {p : Nat} : pgEq c d p = true ↔ ∀ j, j < 64 → c (64 * p + j) = d (64 * p + j) := by
  simp [pgEq]

def pgl (c : Nat → UInt8) (p : Nat) : List Lit := (List.range 64).map fun j => .int .u8 (c (64 * p + j)).toNat

theorem u85 : Try.prog.underlying 85 = some (.array 64 5) := by kernel_rfl
theorem u5 : Try.prog.underlying 5 = some (.int .u8) := by kernel_rfl
theorem c85 : Try.prog.cellsOf 85 = 64 := by kernel_rfl
theorem c5' : Try.prog.cellsOf 5 = 1 := by kernel_rfl
theorem kt85 : Try.prog.keyTypeAt 2 85 = true := by kernel_rfl
theorem eg85 : Try.prog.eqGuardType Try.prog.depth 85 = false := by kernel_rfl

theorem wf_u8 (b : UInt8) : (Lit.int .u8 (b.toNat : Int)).wf = true := by
  have := b.toNat_lt
  simp [Lit.wf, IntKind.min, IntKind.max, IntKind.signed, IntKind.bits]
  omega

theorem mapM_all {α β : Type} {f : α → Option β} {g : α → β} : ∀ (l : List α), (∀ x ∈ l, f x = some (g x)) → l.mapM f = some (l.map g)
  | [], _ => rfl
  | x :: l, h => by
    rw [List.mapM_cons, h x (by simp), mapM_all l fun y hy => h y (by simp [hy])]
    rfl

theorem lits85 (c : Nat → UInt8) (p : Nat) : Try.prog.keyLits 2 85 (pgc c p) = some (pgl c p) := by
  unfold Program.keyLits
  simp only [u85]
  rw [if_pos (by rw [pgc_len, c85])]
  rw [mapM_all (g := fun j => [Lit.int .u8 (c (64 * p + j)).toNat])]
  · simp only [Option.map_some, pgl]
    congr 1
  · intro j hj
    have hj : j < 64 := by simpa using hj
    rw [c5', Nat.mul_one]
    have e : ((pgc c p).drop j).take 1 = [.int .u8 (c (64 * p + j)).toNat] := by
      rw [List.drop_eq_getElem_cons (by rw [pgc_len]; exact hj)]
      simp [pgc]
    rw [e]
    unfold Program.keyLits
    simp only [u5]
    simp [wf_u8]

theorem pgl_iff {c d : Nat → UInt8} {p : Nat} : pgl c p = pgl d p ↔ pgEq c d p = true := by
  rw [pgEq_iff]
  unfold pgl
  constructor
  · intro h j hj
    have := congrArg (·[j]?) h
    simp only [List.getElem?_map, List.getElem?_range hj, Option.map_some, Option.some.injEq, Lit.int.injEq, true_and] at this
    exact UInt8.toNat.inj (by omega)
  · intro h
    exact List.map_congr_left fun j hj => by rw [h j (by simpa using hj)]

theorem rPgNe {c d : Nat → UInt8} {p : Nat} {K : Value → Prop} (k : K (.bool (!pgEq c d p))) : vAggEq Try.prog 85 .neq (.agg (pgc c p).toArray) (.agg (pgc d p).toArray) K := by
  refine ⟨2, 2, 2, pgl c p, pgl d p, by decide, kt85, by simp [Value.formed, u85, c85, pgc_len], by simp [Value.formed, u85, c85, pgc_len], lits85 c p, lits85 d p, eg85, fun b hb => ?_⟩
  have : b = pgEq c d p := by
    rw [pgl_iff] at hb
    cases b <;> cases h : pgEq c d p <;> simp_all
  rw [this]
  exact k

/-! ### Unlike -/

def unl (n m : Nat) (c d : Nat → UInt8) (p : Nat) : Bool := decide (min (n - 64 * p) 64 ≠ min (m - 64 * p) 64) || !pgEq c d p

theorem e32 : E1 32 3 (it 0) := ⟨by kernel_rfl, infoOf (by kernel_rfl), by kernel_rfl, by kernel_rfl⟩

abbrev Is (w : World) (v : Value) (l : List Nat) (bl : Option Nat) : Prop := Row w v (l.map fun (i : Nat) => it i) bl

theorem filter_snoc (f : Nat → Bool) (p : Nat) : (List.range (p + 1)).filter f = (List.range p).filter f ++ if f p then [p] else [] := by
  rw [List.range_succ, List.filter_append]
  congr 1
  simp [List.filter_cons]

theorem rMul {a b : Nat} (h : a * b < 9223372036854775808) {K : Value → Prop} (k : K (it ((a * b : Nat) : Int))) : vBin (.int .i64) .mul (it a) (it b) K := by
  refine ⟨rfl, ?_⟩
  have : (a : Int) * (b : Int) = ((a * b : Nat) : Int) := by push_cast; rfl
  rw [this, wrap_id (by omega) (by omega)]; exact k

theorem rMax0 {a b : Nat} {K : Value → Prop} (k : K (it ((a - b : Nat) : Int))) : vMax (it ((a : Int) - (b : Int))) [it 0] K := by
  show K (it (if (0 : Int) > (a : Int) - b then 0 else (a : Int) - b))
  have : (if (0 : Int) > (a : Int) - b then 0 else (a : Int) - b) = ((a - b : Nat) : Int) := by split <;> omega
  rw [this]; exact k

theorem rMinN {a b : Nat} {K : Value → Prop} (k : K (it ((min a b : Nat) : Int))) : vMin (it a) [it b] K := by
  show K (it (if (b : Int) < a then (b : Int) else a))
  have : (if (b : Int) < a then (b : Int) else a) = ((min a b : Nat) : Int) := by split <;> omega
  rw [this]; exact k

theorem rMaxN {a b : Nat} {K : Value → Prop} (k : K (it ((max a b : Nat) : Int))) : vMax (it a) [it b] K := by
  show K (it (if (b : Int) > a then (b : Int) else a))
  have : (if (b : Int) > a then (b : Int) else a) = ((max a b : Nat) : Int) := by split <;> omega
  rw [this]; exact k

theorem ldH {w0 : World} {b o : Nat} {cs : List Value} {v : Value} (h : Cs w0 b cs) (hv : cs[o]? = some v) {K : Value → Prop} (k : K v) : vLdS (fun W => W.heap = w0.heap) .one (pt b o) K :=
  rLdS v (fun W hW => ⟨cs, by obtain ⟨T, h⟩ := h; exact ⟨T, by rw [hW]; exact h⟩, hv⟩) k

theorem Row.ldH {w0 : World} {v : Value} {xs : List Value} {bl : Option Nat} (h : Row w0 v xs bl) {i : Nat} {x : Value} (hx : xs[i]? = some x) {kd : IntKind} {K : Value → Prop} (k : K x) :
    vIA (.slice 1) v (.int kd i) fun p => vLdS (fun W => W.heap = w0.heap) .one p K := by
  have hi := (List.getElem?_eq_some_iff.1 hx).1
  cases bl with
  | none => obtain ⟨_, rfl⟩ := h; simp at hi
  | some q =>
    obtain ⟨r, rfl, hc⟩ := h
    refine rIA hi <| Proofs.Ytdaopbkggmlopaa.ldH hc ?_ k
    rw [Nat.mul_one, List.getElem?_append_left hi]; exact hx

theorem pg_ldH {w0 : World} {q : Nat} {c : Nat → UInt8} {p : Nat} (h : Cs w0 q (pgc c p)) {K : Value → Prop} (k : K (.agg (pgc c p).toArray)) : vLdS (fun W => W.heap = w0.heap) (.agg 64) (pt q 0) K := by
  refine ⟨pgc c p, pgc_len c p, fun W hW j v hj => ?_, k⟩
  obtain ⟨T, h⟩ := h
  rw [addr_add]
  simp only [World.cell?, hW, h, Nat.zero_add]
  simpa using hj

theorem unlike18 {w0 w : World} {g1 g2 : Gh} {n m : Nat} {c d : Nat → UInt8} {K : Value → World → Prop} (h1 : Own w0 w g1 n c) (h2 : Own w0 w g2 m d)
    (hK : ∀ w' v bl, Is w' v ((List.range (max ((n + 63) / 64) ((m + 63) / 64))).filter (unl n m c d)) bl → (∀ k, bl = some k → w.heap.size ≤ k) → Fr (fun _ => False) w w' → K v w') : CallK Try.prog 18 #[pt g1.b 0, pt g2.b 0] w K := by
  apply Ret.call
  apply F18_ok
  unfold F18
  have l1 := h1.le
  have l2 := h2.le
  refine h1.pages <| h2.pages <| rMaxN ?_
  generalize hP : max ((n + 63) / 64) ((m + 63) / 64) = P at *
  have hP64 : P ≤ 64 := by omega
  refine ⟨fun vs ds W => ds = [] ∧ ∃ (p : Nat) (v : Value) (bl : Option Nat), p ≤ P ∧ vs = [pt g1.b 0, pt g2.b 0, v, it P, it p] ∧ Is W v ((List.range p).filter (unl n m c d)) bl ∧ (∀ k, bl = some k → w.heap.size ≤ k) ∧ Fr (fun _ => False) w W,
    fun vs _ _ => match vs with | [_, _, _, _, .int _ i] => P - i.toNat | _ => 0, ⟨rfl, 0, .slice none 0 0, none, by omega, rfl, ⟨rfl, rfl⟩, by simp, Fr.refl _ _⟩, ?_⟩
  rintro ρ ds W ⟨rfl, p, v, bl, hp, hρ, hR, hbl, fr⟩
  have hρ0 := hρ
  simp only [List.map_cons, List.map_nil, List.cons.injEq, and_true] at hρ
  obtain ⟨q0, q1, q5, q13, q14⟩ := hρ
  unfold F18L1
  rw [hρ0, q0, q1, q5, q13, q14]
  refine rLt <| rIf (fun hlt => ?_) (fun hge => ?_)
  · have hlt : p < P := by simpa using hlt
    have k1 := h1.more fr
    have k2 := h2.more fr
    have ep : (p : Int) + 1 = ((p + 1 : Nat) : Int) := by omega
    have next : ∀ (v' : Value) (bl' : Option Nat) (W' : World), Is W' v' ((List.range (p + 1)).filter (unl n m c d)) bl' → (∀ k, bl' = some k → w.heap.size ≤ k) → Fr (fun _ => False) w W' →
        ([] : List Nat) = [] ∧ (∃ (p_1 : Nat) (v : Value) (bl : Option Nat), p_1 ≤ P ∧ [pt g1.b 0, pt g2.b 0, v', it P, it ((p + 1 : Nat) : Int)] = [pt g1.b 0, pt g2.b 0, v, it P, it p_1] ∧ Is W' v ((List.range p_1).filter (unl n m c d)) bl ∧ (∀ k, bl = some k → w.heap.size ≤ k) ∧ Fr (fun _ => False) w W') :=
      fun v' bl' W' hr hb hf => ⟨rfl, p + 1, v', bl', by omega, rfl, hr, hb, hf⟩
    have dec : P - ((p + 1 : Nat) : Int).toNat < P - ((p : Nat) : Int).toNat := by simp; omega
    refine rMul (b := 64) (by omega) <| rAdd (by omega) (by omega) ?_
    rw [ep]
    refine rMul (b := 64) (by omega) ?_
    obtain ⟨lv1, ov1, a1, b1, _⟩ := k1.by'.hd
    obtain ⟨lv2, ov2, a2, b2, _⟩ := k2.by'.hd
    refine ⟨fun W' => W'.heap = W.heap, rfl, ?_⟩
    have e64 : (((p + 1) * 64 : Nat) : Int) - ((p * 64 : Nat) : Int) = ((64 : Nat) : Int) := by omega
    refine rSub (by omega) (by omega) <| rSub (by omega) (by omega) ⟨?_, trivial⟩
    rw [e64]
    have d1 := k1.more (Fr.refl _ W).drew
    have d2 := k2.more (Fr.refl _ W).drew
    refine d1.lenC ⟨rfl, rSub (by omega) (by omega) <| rMax0 <| rMinN ⟨d2.lenC ⟨rfl, rSub (by omega) (by omega) <| rMax0 <| rMinN <| rNe ?_⟩, trivial⟩⟩
    have em : ∀ x : Nat, x - p * 64 = x - 64 * p := fun x => by omega
    rw [em, em]
    -- what is done where the page is told, or isn't
    have fr' : Fr (fun _ => False) w W.drew := fr.drew
    have told : unl n m c d p = true → ∀ {K' : Value → World → Prop}, (∀ v' bl' W', Is W' v' ((List.range (p + 1)).filter (unl n m c d)) bl' → (∀ k, bl' = some k → w.heap.size ≤ k) → Fr (fun _ => False) w W' → K' v' W') →
        vBuildSlice Try.prog 32 1 [(0, it p)] W.drew fun v64 w_5 => vAppend Try.prog 32 32 v v64 w_5 K' := by
      intro hu K' hk
      refine e32.build1 rfl ?_
      intro w5 r5 f5 s5
      have hR5 : Is w5 v ((List.range p).filter (unl n m c d)) bl := (Row.fr hR (Fr.refl _ W).drew fun _ _ => id).fr f5 fun _ _ => id
      have hlen : ((List.range p).filter (unl n m c d)).length ≤ p := by
        have := List.length_filter_le (unl n m c d) (List.range p)
        simpa using this
      refine e32.app hR5 r5.src (by simp; rfl) (by simp; omega) ?_
      intro w6 v6 bl6 r6 f6 hb6 _
      have hz : W.drew.heap.size = W.heap.size := rfl
      have hs := fr.size
      refine hk v6 bl6 w6 ?_ (fun k hk => ?_) ((fr'.more f5).trans f6 (fun k hk e => by have := hbl k e; omega))
      · rw [filter_snoc, hu, if_pos rfl]
        show Row w6 v6 (List.map _ _) bl6
        rw [List.map_append]
        exact r6
      · rcases hb6 k hk with e | e
        · exact hbl k e
        · omega
    have untold : unl n m c d p = false → Is W.drew v ((List.range (p + 1)).filter (unl n m c d)) bl := by
      intro hu
      rw [filter_snoc, hu]
      simp only [Bool.false_eq_true, if_false, List.append_nil]
      exact Row.fr hR (Fr.refl _ W).drew fun _ _ => id
    by_cases hm : min (n - 64 * p) 64 = min (m - 64 * p) 64
    · have hd : (((min (n - 64 * p) 64 : Nat) : Int) != ((min (m - 64 * p) 64 : Nat) : Int)) = false := by rw [hm]; simp
      rw [hd]
      refine rIfF ?_
      have hp1 : p < g1.ps.length := by rw [h1.len]; omega
      have hp2 : p < g2.ps.length := by rw [h2.len]; omega
      have x1 := List.getElem?_eq_getElem hp1
      have x2 := List.getElem?_eq_getElem hp2
      refine rNil <| rFA0 <| ldH a1 rfl <| Row.ldH b1 (x := pt g1.ps[p] 0) (by rw [List.getElem?_map, x1]; rfl) <| rNil <| pg_ldH (k1.by'.pgs p _ x1) ?_
      refine rNil <| rFA0 <| ldH a2 rfl <| Row.ldH b2 (x := pt g2.ps[p] 0) (by rw [List.getElem?_map, x2]; rfl) <| rNil <| pg_ldH (k2.by'.pgs p _ x2) <| rPgNe <| rBool ?_
      show vBool (.bool (!pgEq c d p)) _
      have hu : unl n m c d p = !pgEq c d p := by unfold unl; rw [hm]; simp
      cases he : pgEq c d p
      · refine rIfT (told (by rw [hu, he]; rfl) fun v' bl' W' hr hb hf => ?_)
        refine rAdd (by omega) (by omega) ?_
        rw [ep]
        exact ⟨next v' bl' W' hr hb hf, dec⟩
      · refine rIfF <| rAdd (by omega) (by omega) ?_
        rw [ep]
        exact ⟨next v bl W.drew (untold (by rw [hu, he]; rfl)) hbl fr', dec⟩
    · have hd : (((min (n - 64 * p) 64 : Nat) : Int) != ((min (m - 64 * p) 64 : Nat) : Int)) = true := by
        simp only [bne_iff_ne, ne_eq, Int.ofNat_inj]; exact hm
      rw [hd]
      refine rIfT <| rBool ?_
      refine rIfT (told (by unfold unl; rw [decide_eq_true hm]; rfl) fun v' bl' W' hr hb hf => ?_)
      refine rAdd (by omega) (by omega) ?_
      rw [ep]
      exact ⟨next v' bl' W' hr hb hf, dec⟩
  · have hp : p = P := by
      have : ¬ p < P := by simpa using hge
      omega
    subst hp
    exact hK W v bl hR hbl fr

end Go.Proofs.Ytdaopbkggmlopaa
