/-
  Isa, part 21: IsaPlaces, IsaLists. Own work.
-/
import Derived.Test.YtnmmpgeojimgoaaDoorI20
set_option linter.unusedVariables false
set_option linter.unusedSimpArgs false
set_option maxRecDepth 100000
namespace Go.Proofs.YtnmmpgeojimgoaaDoor
open Go Go.V Go.RowKit

/-- a slice of instructions that is only read -/
structure Codes (w : World) (v : Value) (xs : List Cd) : Prop where
  shape : ∃ a c, v = .slice a xs.length c
  len : xs.length < 9223372036854775808
  bd : ∀ x ∈ xs, Bd x
  read : ∀ W, Fr (fun _ => False) w W → ∀ (i : Nat) x, xs[i]? = some x → ∀ (kd : IntKind) (K : Value → Prop), K x.v → vIA (.slice 5) v (.int kd i) fun p => vLd (.agg 5) p W K

def good (xs : List Cd) : List Cd := xs.filter fun x => rightB x
theorem good_right {xs : List Cd} : ∀ x ∈ good xs, rightB x = true := fun x hx => by simpa [good] using (List.mem_filter.1 hx).2
theorem good_len (xs : List Cd) : (good xs).length ≤ xs.length := List.length_filter_le _ _
theorem good_snoc (xs : List Cd) (x : Cd) : good (xs ++ [x]) = if rightB x = true then good xs ++ [x] else good xs := by
  unfold good
  rw [List.filter_append]
  by_cases h : rightB x = true
  · rw [if_pos h]; simp [h]
  · rw [if_neg h]; simp [h]

def linesT (xs : List Cd) : List UInt8 := (xs.map fun x => txt x ++ [10]).flatten
theorem linesT_snoc (xs : List Cd) (x : Cd) : linesT (xs ++ [x]) = linesT xs ++ (txt x ++ [10]) := by simp [linesT]
theorem linesT_len : ∀ {xs : List Cd}, (∀ x ∈ xs, rightB x = true) → (linesT xs).length ≤ 1001 * xs.length
  | [], _ => by simp [linesT]
  | x :: r, h => by
    have h1 := txt_len (h x (by simp))
    have h2 := linesT_len (xs := r) (fun y hy => h y (by simp [hy]))
    unfold linesT at h2 ⊢
    rw [List.map_cons, List.flatten_cons]
    simp only [List.length_append, List.length_cons, List.length_nil]
    omega

def mu8' (n : Nat) (vs : List Value) : Nat := match vs with
  | [_, _, _, _, _, _, _, .int _ i] => n - i.toNat
  | _ => 0
def mu6 (n : Nat) (vs : List Value) : Nat := match vs with
  | [_, _, _, _, _, .int _ i] => n - i.toNat
  | _ => 0
def mu7 (n : Nat) (vs : List Value) : Nat := match vs with
  | [_, _, _, _, _, _, .int _ i] => n - i.toNat
  | _ => 0

theorem b23p : (fun (n : Int) (K : Value → Prop) => vBuild Tryd.prog 23 [(0, it 22), (4, it n)] K) = fun n K => ((1 : Nat) = 1 ∧ (1 : Nat) = 1 ∧ K (.agg #[it 22, it 0, it 0, it 0, it n])) := by kernel_rfl
theorem b23q : (fun (n : Int) (K : Value → Prop) => vBuild Tryd.prog 23 [(0, it 23), (1, it 3), (4, it n)] K) = fun n K => ((1 : Nat) = 1 ∧ (1 : Nat) = 1 ∧ (1 : Nat) = 1 ∧ K (.agg #[it 23, it 3, it 0, it 0, it n])) := by kernel_rfl

theorem build23p {n : Int} {K : Value → Prop} (k : K (.agg #[it 22, it 0, it 0, it 0, it n])) : vBuild Tryd.prog 23 [(0, it 22), (4, it n)] K := by
  have := congrFun (congrFun b23p n) K
  exact this ▸ ⟨rfl, rfl, k⟩
theorem build23q {n : Int} {K : Value → Prop} (k : K (.agg #[it 23, it 3, it 0, it 0, it n])) : vBuild Tryd.prog 23 [(0, it 23), (1, it 3), (4, it n)] K := by
  have := congrFun (congrFun b23q n) K
  exact this ▸ ⟨rfl, rfl, rfl, k⟩

theorem rNeg {a : Int} {K : Value → Prop} (h1 : -9223372036854775808 < a) (h2 : a < 9223372036854775808) (k : K (it (-a))) : vUn .neg (it a) K := by
  show K (it (IntKind.i64.wrap (0 - a)))
  rw [wrap_id (by omega) (by omega), Int.zero_sub]
  exact k

theorem rMod5 {n : Int} {K : Value → Prop} (hK : ∀ k : Nat, k < 5 → k = (n % 18446744073709551616 % 5).toNat → K (it k)) :
    vConv (.int .u64) (it n) fun v55 => vBin (.int .u64) .rem v55 (.int .u64 5) fun v56 => vConv (.int .i64) v56 K := by
  refine sCv ?_
  have e : IntKind.u64.wrap n = n % 18446744073709551616 := by simp [IntKind.wrap, IntKind.signed, IntKind.bits]
  rw [e]
  refine ⟨rfl, by decide, ?_⟩
  have h0 : 0 ≤ n % 18446744073709551616 := Int.emod_nonneg _ (by decide)
  have e2 : (n % 18446744073709551616).tmod 5 = n % 18446744073709551616 % 5 := Int.tmod_eq_emod_of_nonneg h0
  rw [e2]
  refine sCv ?_
  have h1 : 0 ≤ n % 18446744073709551616 % 5 := Int.emod_nonneg _ (by decide)
  have h2 : n % 18446744073709551616 % 5 < 5 := Int.emod_lt_of_pos _ (by decide)
  rw [wrap_id (by omega) (by omega)]
  have := hK (n % 18446744073709551616 % 5).toNat (by omega) rfl
  rw [Int.toNat_of_nonneg h1] at this
  exact this

section
variable {w : World} {K : Value → World → Prop} (hT : Tabs w) (hK : ∀ w', Fr (fun _ => False) w w' → K (.bool true) w')
include hT hK

theorem places_end {W : World} {B D : List Cd} (f : Fr (fun _ => False) w W) (hB : ∀ x ∈ B, rightB x = true) (hD : ∀ x ∈ D, rightB x = true) (nB : B.length ≤ 100) (nD : D.length ≤ 100) :
    ∀ ρ : Env, [8, 9, 19, 113].map ρ = [it B.length, it D.length, str (enc ⟨22, 0, 0, 0, B.length⟩ ++ ((B.map enc).flatten ++ ((D.map enc).flatten ++ enc ⟨23, 3, 0, 0, -(D.length : Int) - 1⟩))), .bool false] → F8J5 K ρ [] W := by
  intro ρ hρ
  have hL := Lx.of (F := fun _ => False) f
  have e1 : (enc ⟨22, 0, 0, 0, B.length⟩).length = 4 := rfl
  have e2 : (enc ⟨23, 3, 0, 0, -(D.length : Int) - 1⟩).length = 4 := rfl
  have l1 := encs_len B
  have l2 := encs_len D
  generalize hs : enc ⟨22, 0, 0, 0, B.length⟩ ++ ((B.map enc).flatten ++ ((D.map enc).flatten ++ enc ⟨23, 3, 0, 0, -(D.length : Int) - 1⟩)) = s at *
  have hsl : s.length = 4 * (B.length + D.length + 2) := by
    rw [← hs]; simp only [List.length_append, e1, e2, l1, l2]; omega
  have ht : s.take 4 = enc ⟨22, 0, 0, 0, B.length⟩ := by rw [← hs, List.take_left' e1]
  have hd : s.drop (s.length - 4) = enc ⟨23, 3, 0, 0, -(D.length : Int) - 1⟩ := by
    have e : s = (enc ⟨22, 0, 0, 0, B.length⟩ ++ ((B.map enc).flatten ++ (D.map enc).flatten)) ++ enc ⟨23, 3, 0, 0, -(D.length : Int) - 1⟩ := by rw [← hs]; simp
    have el : s.length - 4 = (enc ⟨22, 0, 0, 0, B.length⟩ ++ ((B.map enc).flatten ++ (D.map enc).flatten)).length := by
      rw [e, List.length_append, e2]; omega
    rw [el, e, List.drop_left]
  simp only [List.map_cons, List.map_nil, List.cons.injEq, and_true] at hρ
  obtain ⟨e8, e9, e19, e113⟩ := hρ
  unfold F8J5
  simp only [e8, e9, e19, e113]
  refine rIfF ?_
  refine rSlStrHi (j := 4) (by omega) ?_
  rw [ht]
  have r1 := right22 nB
  have r2 := right23 nD
  refine decode_spec (hT.fr hL.fr) (fun w1 f1 => ?_)
  have hL := hL.more f1
  rw [decode_enc r1]
  simp only [decV]
  repeat (first
    | refine rFA0 ?_
    | refine rExt0 ?_
    | refine rExt1 ?_
    | refine sExt30 ?_
    | refine sExt31 ?_
    | refine sExt2 ?_
    | refine rIfT ?_
    | refine rIfF ?_
    | refine rNot ?_
    | refine rLenB ?_
    | refine sLd hL (i := 0) rfl rfl ?_
    | refine sLd hL (i := 1) rfl rfl ?_
    | refine sLd hL (i := 2) rfl rfl ?_
    | refine sLd hL (i := 3) rfl rfl ?_
    | refine sLd hL (i := 4) rfl rfl ?_
    | refine sLd hL (i := 5) rfl rfl ?_
    | refine sLdN hL (i := 0) rfl rfl ?_
    | refine sLdN hL (i := 1) rfl rfl ?_
    | refine sLdN hL (i := 2) rfl rfl ?_
    | refine sLdN hL (i := 3) rfl rfl ?_
    | refine sLdN hL (i := 4) rfl rfl ?_
    | refine sLdN hL (i := 5) rfl rfl ?_
    | refine sLdS (i := 0) rfl rfl ?_
    | refine sLdS (i := 1) rfl rfl ?_
    | refine sLdS (i := 2) rfl rfl ?_
    | refine sLdS (i := 3) rfl rfl ?_
    | refine sLdS (i := 4) rfl rfl ?_
    | refine sLdS (i := 5) rfl rfl ?_
    | refine rFA ?_)
  refine sAlloc zc23 hL (fun w2 b2 hL => ?_)
  refine sStN hL (i := 0) rfl rfl (by simp) (Cd.cs_one _) (fun w3 hL => ?_)
  have hL : Lx (fun _ => False) w w3 [.blk b2 (⟨22, 0, 0, 0, B.length⟩ : Cd).cs] := hL
  refine rLenB <| rSub (by omega) (by omega) ?_
  have e4 : (s.length : Int) - 4 = ((s.length - 4 : Nat) : Int) := by omega
  rw [e4]
  refine rSlStrLo (by omega) ?_
  rw [hd]
  refine decode_spec (hT.fr hL.fr) (fun w4 f4 => ?_)
  have hL := hL.more f4
  rw [decode_enc r2]
  simp only [decV]
  repeat (first
    | refine rFA0 ?_
    | refine rExt0 ?_
    | refine rExt1 ?_
    | refine sExt30 ?_
    | refine sExt31 ?_
    | refine sExt2 ?_
    | refine rIfT ?_
    | refine rIfF ?_
    | refine rNot ?_
    | refine rLenB ?_
    | refine sLd hL (i := 0) rfl rfl ?_
    | refine sLd hL (i := 1) rfl rfl ?_
    | refine sLd hL (i := 2) rfl rfl ?_
    | refine sLd hL (i := 3) rfl rfl ?_
    | refine sLd hL (i := 4) rfl rfl ?_
    | refine sLd hL (i := 5) rfl rfl ?_
    | refine sLdN hL (i := 0) rfl rfl ?_
    | refine sLdN hL (i := 1) rfl rfl ?_
    | refine sLdN hL (i := 2) rfl rfl ?_
    | refine sLdN hL (i := 3) rfl rfl ?_
    | refine sLdN hL (i := 4) rfl rfl ?_
    | refine sLdN hL (i := 5) rfl rfl ?_
    | refine sLdS (i := 0) rfl rfl ?_
    | refine sLdS (i := 1) rfl rfl ?_
    | refine sLdS (i := 2) rfl rfl ?_
    | refine sLdS (i := 3) rfl rfl ?_
    | refine sLdS (i := 4) rfl rfl ?_
    | refine sLdS (i := 5) rfl rfl ?_
    | refine rFA ?_)
  refine sAlloc zc23 hL (fun w5 b5 hL => ?_)
  refine sStN hL (i := 0) rfl rfl (by simp) (Cd.cs_one _) (fun w6 hL => ?_)
  have hL : Lx (fun _ => False) w w6 [.blk b5 (⟨23, 3, 0, 0, -(D.length : Int) - 1⟩ : Cd).cs, .blk b2 (⟨22, 0, 0, 0, B.length⟩ : Cd).cs] := hL
  refine rEq <| rIfT <| rEq <| rIfT ?_
  repeat (first
    | refine rFA0 ?_
    | refine rExt0 ?_
    | refine rExt1 ?_
    | refine sExt30 ?_
    | refine sExt31 ?_
    | refine sExt2 ?_
    | refine rIfT ?_
    | refine rIfF ?_
    | refine rNot ?_
    | refine rLenB ?_
    | refine sLd hL (i := 0) rfl rfl ?_
    | refine sLd hL (i := 1) rfl rfl ?_
    | refine sLd hL (i := 2) rfl rfl ?_
    | refine sLd hL (i := 3) rfl rfl ?_
    | refine sLd hL (i := 4) rfl rfl ?_
    | refine sLd hL (i := 5) rfl rfl ?_
    | refine sLdN hL (i := 0) rfl rfl ?_
    | refine sLdN hL (i := 1) rfl rfl ?_
    | refine sLdN hL (i := 2) rfl rfl ?_
    | refine sLdN hL (i := 3) rfl rfl ?_
    | refine sLdN hL (i := 4) rfl rfl ?_
    | refine sLdN hL (i := 5) rfl rfl ?_
    | refine sLdS (i := 0) rfl rfl ?_
    | refine sLdS (i := 1) rfl rfl ?_
    | refine sLdS (i := 2) rfl rfl ?_
    | refine sLdS (i := 3) rfl rfl ?_
    | refine sLdS (i := 4) rfl rfl ?_
    | refine sLdS (i := 5) rfl rfl ?_
    | refine rFA ?_)
  refine build23p ?_
  refine rCdEq (x := ⟨22, 0, 0, 0, B.length⟩) (y := ⟨22, 0, 0, 0, B.length⟩) (right_bd r1) (right_bd r1) (fun b hb => ?_)
  rw [hb.2 rfl]
  refine rIfT ?_
  repeat (first
    | refine rFA0 ?_
    | refine rExt0 ?_
    | refine rExt1 ?_
    | refine sExt30 ?_
    | refine sExt31 ?_
    | refine sExt2 ?_
    | refine rIfT ?_
    | refine rIfF ?_
    | refine rNot ?_
    | refine rLenB ?_
    | refine sLd hL (i := 0) rfl rfl ?_
    | refine sLd hL (i := 1) rfl rfl ?_
    | refine sLd hL (i := 2) rfl rfl ?_
    | refine sLd hL (i := 3) rfl rfl ?_
    | refine sLd hL (i := 4) rfl rfl ?_
    | refine sLd hL (i := 5) rfl rfl ?_
    | refine sLdN hL (i := 0) rfl rfl ?_
    | refine sLdN hL (i := 1) rfl rfl ?_
    | refine sLdN hL (i := 2) rfl rfl ?_
    | refine sLdN hL (i := 3) rfl rfl ?_
    | refine sLdN hL (i := 4) rfl rfl ?_
    | refine sLdN hL (i := 5) rfl rfl ?_
    | refine sLdS (i := 0) rfl rfl ?_
    | refine sLdS (i := 1) rfl rfl ?_
    | refine sLdS (i := 2) rfl rfl ?_
    | refine sLdS (i := 3) rfl rfl ?_
    | refine sLdS (i := 4) rfl rfl ?_
    | refine sLdS (i := 5) rfl rfl ?_
    | refine rFA ?_)
  refine rNeg (by omega) (by omega) ?_
  refine rSub (by omega) (by omega) ?_
  refine build23q ?_
  refine rCdEq (x := ⟨23, 3, 0, 0, -(D.length : Int) - 1⟩) (y := ⟨23, 3, 0, 0, -(D.length : Int) - 1⟩) (right_bd r2) (right_bd r2) (fun b hb => ?_)
  rw [hb.2 rfl]
  exact hK w6 hL.fr

theorem law8 {v0 v1 : Value} {xs ys : List Cd} {n : Int} (hx : Codes w v0 xs) (hy : Codes w v1 ys) : Ret Tryd.prog 8 #[v0, v1, it n] w K := by
  apply F8_ok
  unfold F8
  refine lives_spec hT (fun w1 f1 => ?_)
  refine rNot <| rIfF ?_
  obtain ⟨a0, c0, hv0⟩ := hx.shape
  have hlen0 : ∀ {K : Value → Prop}, K (it xs.length) → vLen (.slice 5) v0 K := fun k => by rw [hv0]; exact k
  obtain ⟨a1, c1, hv1⟩ := hy.shape
  have hlen1 : ∀ {K : Value → Prop}, K (it ys.length) → vLen (.slice 5) v1 K := fun k => by rw [hv1]; exact k
  have hxl := hx.len
  have hyl := hy.len
  refine hlen0 ?_
  refine ⟨fun vs ds W => ds = [] ∧ Fr (fun _ => False) w W ∧ ∃ (i : Nat), i ≤ xs.length ∧ vs = [v1, it n, str (linesT (good (xs.take (min i 100)))), it (good (xs.take (min i 100))).length, it 0, v0, it xs.length, it i], fun vs _ _ => mu8' xs.length vs, ⟨rfl, f1, 0, by omega, by simp [good, linesT]⟩, ?_⟩
  rintro ρ ds W ⟨rfl, f, i, hi, hρ⟩
  rw [hρ]
  simp only [List.map_cons, List.map_nil, List.cons.injEq, and_true] at hρ
  obtain ⟨e1, e2, e7, e8, e9, e28, e29, e30⟩ := hρ
  unfold F8L1
  simp only [e1, e2, e7, e8, e9, e28, e29, e30]
  have hgl := good_len (xs.take (min i 100))
  have hgl2 := linesT_len (good_right (xs := xs.take (min i 100)))
  rw [List.length_take] at hgl
  refine rLt <| sIfD (fun hlt => ?_) (fun hge => ?_)
  · obtain ⟨x, hxi⟩ : ∃ x, xs[i]? = some x := ⟨_, List.getElem?_eq_getElem (by omega)⟩
    have hbd := hx.bd x (List.mem_of_getElem? hxi)
    refine hx.read W f i x hxi _ _ ?_
    have hL := Lx.of (F := fun _ => False) f
    refine sAlloc zc23 hL (fun w2 b2 hL => ?_)
    refine sStN hL (i := 0) rfl rfl (by simp) (Cd.cs_one x) (fun w3 hL => ?_)
    have hL : Lx (fun _ => False) w w3 [.blk b2 x.cs] := hL
    repeat (first
      | refine rFA0 ?_
      | refine rExt0 ?_
      | refine rExt1 ?_
      | refine sExt30 ?_
      | refine sExt31 ?_
      | refine sExt2 ?_
      | refine rIfT ?_
      | refine rIfF ?_
      | refine rNot ?_
      | refine rLenB ?_
      | refine sLd hL (i := 0) rfl rfl ?_
      | refine sLd hL (i := 1) rfl rfl ?_
      | refine sLd hL (i := 2) rfl rfl ?_
      | refine sLd hL (i := 3) rfl rfl ?_
      | refine sLd hL (i := 4) rfl rfl ?_
      | refine sLd hL (i := 5) rfl rfl ?_
      | refine sLdN hL (i := 0) rfl rfl ?_
      | refine sLdN hL (i := 1) rfl rfl ?_
      | refine sLdN hL (i := 2) rfl rfl ?_
      | refine sLdN hL (i := 3) rfl rfl ?_
      | refine sLdN hL (i := 4) rfl rfl ?_
      | refine sLdN hL (i := 5) rfl rfl ?_
      | refine sLdS (i := 0) rfl rfl ?_
      | refine sLdS (i := 1) rfl rfl ?_
      | refine sLdS (i := 2) rfl rfl ?_
      | refine sLdS (i := 3) rfl rfl ?_
      | refine sLdS (i := 4) rfl rfl ?_
      | refine sLdS (i := 5) rfl rfl ?_
      | refine rFA ?_)
    refine text_spec (x := x) (hT.fr hL.fr) hbd.n.1 hbd.n.2 (fun w4 f4 => ?_)
    have hL := hL.more f4
    have et : xs.take (i + 1) = xs.take i ++ [x] := by rw [List.take_add_one, hxi]; rfl
    have same : (rightB x = false ∨ 100 ≤ i) → good (xs.take (min (i + 1) 100)) = good (xs.take (min i 100)) := by
      intro h
      by_cases h100 : 100 ≤ i
      · rw [Nat.min_eq_right (by omega), Nat.min_eq_right (by omega)]
      · rcases h with h | h
        · rw [Nat.min_eq_left (by omega), Nat.min_eq_left (by omega), et, good_snoc, if_neg (by rw [h]; decide)]
        · exact absurd h h100
    by_cases hr : rightB x = true
    · rw [if_pos hr]
      repeat (first
        | refine rFA0 ?_
        | refine rExt0 ?_
        | refine rExt1 ?_
        | refine sExt30 ?_
        | refine sExt31 ?_
        | refine sExt2 ?_
        | refine rIfT ?_
        | refine rIfF ?_
        | refine rNot ?_
        | refine rLenB ?_
        | refine sLd hL (i := 0) rfl rfl ?_
        | refine sLd hL (i := 1) rfl rfl ?_
        | refine sLd hL (i := 2) rfl rfl ?_
        | refine sLd hL (i := 3) rfl rfl ?_
        | refine sLd hL (i := 4) rfl rfl ?_
        | refine sLd hL (i := 5) rfl rfl ?_
        | refine sLdN hL (i := 0) rfl rfl ?_
        | refine sLdN hL (i := 1) rfl rfl ?_
        | refine sLdN hL (i := 2) rfl rfl ?_
        | refine sLdN hL (i := 3) rfl rfl ?_
        | refine sLdN hL (i := 4) rfl rfl ?_
        | refine sLdN hL (i := 5) rfl rfl ?_
        | refine sLdS (i := 0) rfl rfl ?_
        | refine sLdS (i := 1) rfl rfl ?_
        | refine sLdS (i := 2) rfl rfl ?_
        | refine sLdS (i := 3) rfl rfl ?_
        | refine sLdS (i := 4) rfl rfl ?_
        | refine sLdS (i := 5) rfl rfl ?_
        | refine rFA ?_)
      refine rEq <| rIfT ?_
      refine rLt <| sIfD (fun h100 => ?_) (fun h100 => ?_)
      · have htl := txt_len hr
        refine sAddS (b := [10]) (by simp; omega) ?_
        refine sAddS (by simp; omega) ?_
        refine rAdd (by omega) (by omega) <| rAdd (by omega) (by omega) ⟨⟨by trivial, hL.fr, i + 1, by omega, ?_⟩, by simp [mu8']; omega⟩
        have eg : good (xs.take (min (i + 1) 100)) = good (xs.take (min i 100)) ++ [x] := by
          rw [Nat.min_eq_left (by omega), Nat.min_eq_left (by omega), et, good_snoc, if_pos hr]
        rw [eg, linesT_snoc]
        simp
      · refine rAdd (by omega) (by omega) ⟨⟨by trivial, hL.fr, i + 1, by omega, ?_⟩, by simp [mu8']; omega⟩
        rw [same (.inr (by omega))]; simp
    · have hr : rightB x = false := by simpa using hr
      rw [if_neg (by rw [hr]; decide)]
      repeat (first
        | refine rFA0 ?_
        | refine rExt0 ?_
        | refine rExt1 ?_
        | refine sExt30 ?_
        | refine sExt31 ?_
        | refine sExt2 ?_
        | refine rIfT ?_
        | refine rIfF ?_
        | refine rNot ?_
        | refine rLenB ?_
        | refine sLd hL (i := 0) rfl rfl ?_
        | refine sLd hL (i := 1) rfl rfl ?_
        | refine sLd hL (i := 2) rfl rfl ?_
        | refine sLd hL (i := 3) rfl rfl ?_
        | refine sLd hL (i := 4) rfl rfl ?_
        | refine sLd hL (i := 5) rfl rfl ?_
        | refine sLdN hL (i := 0) rfl rfl ?_
        | refine sLdN hL (i := 1) rfl rfl ?_
        | refine sLdN hL (i := 2) rfl rfl ?_
        | refine sLdN hL (i := 3) rfl rfl ?_
        | refine sLdN hL (i := 4) rfl rfl ?_
        | refine sLdN hL (i := 5) rfl rfl ?_
        | refine sLdS (i := 0) rfl rfl ?_
        | refine sLdS (i := 1) rfl rfl ?_
        | refine sLdS (i := 2) rfl rfl ?_
        | refine sLdS (i := 3) rfl rfl ?_
        | refine sLdS (i := 4) rfl rfl ?_
        | refine sLdS (i := 5) rfl rfl ?_
        | refine rFA ?_)
      refine rEq <| rIfF ?_
      refine rAdd (by omega) (by omega) ⟨⟨by trivial, hL.fr, i + 1, by omega, ?_⟩, by simp [mu8']; omega⟩
      rw [same (.inl hr)]; simp
  have hi : i = xs.length := by omega
  subst hi
  have hBr := good_right (xs := xs.take (min xs.length 100))
  have hBl : (good (xs.take (min xs.length 100))).length ≤ 100 := by omega
  generalize good (xs.take (min xs.length 100)) = B at *
  -- blanks
  refine ⟨fun vs ds W' => ds = [] ∧ W' = W ∧ ∃ (j : Nat), j ≤ 5 ∧ vs = [v1, it n, str (linesT B ++ List.replicate j 10), it B.length, it 0, it j], fun vs _ _ => mu6 5 vs, ⟨rfl, rfl, 0, by omega, by simp⟩, ?_⟩
  rintro ρ ds W' ⟨rfl, rfl, j, hj, hρ⟩
  rw [hρ]
  simp only [List.map_cons, List.map_nil, List.cons.injEq, and_true] at hρ
  obtain ⟨e1, e2, e7, e8, e9, e14⟩ := hρ
  unfold F8L2
  simp only [e1, e2, e7, e8, e9, e14]
  refine rMod5 (fun k hk hke => ?_)
  refine rLt <| sIfD (fun hlt => ?_) (fun hge => ?_)
  · refine sAddS (b := [10]) (by simp; omega) ?_
    refine rAdd (by omega) (by omega) ⟨⟨by trivial, by trivial, j + 1, by omega, ?_⟩, by simp [mu6]; omega⟩
    rw [List.append_assoc, ← List.replicate_succ']
    simp
  refine sAddS (b := [104, 101, 114, 101, 58, 10]) (by simp; omega) ?_
  refine hlen1 ?_
  have hpre : (linesT B ++ List.replicate j 10 ++ [104, 101, 114, 101, 58, 10]).length ≤ 200000 := by simp; omega
  refine ⟨fun vs ds W => ds = [] ∧ Fr (fun _ => False) w W ∧ ∃ (i : Nat), i ≤ ys.length ∧ vs = [str ((linesT B ++ List.replicate j 10 ++ [104, 101, 114, 101, 58, 10]) ++ linesT (good (ys.take (min i 100)))), it B.length, it (good (ys.take (min i 100))).length, v1, it ys.length, it i], fun vs _ _ => mu6 ys.length vs, ⟨rfl, f, 0, by omega, by simp [good, linesT]⟩, ?_⟩
  clear hgl hgl2
  rintro ρ ds W ⟨rfl, f, i, hi, hρ⟩
  rw [hρ]
  simp only [List.map_cons, List.map_nil, List.cons.injEq, and_true] at hρ
  obtain ⟨e7, e8, e9, e65, e66, e67⟩ := hρ
  unfold F8L3
  simp only [e7, e8, e9, e65, e66, e67]
  have hgl := good_len (ys.take (min i 100))
  have hgl2 := linesT_len (good_right (xs := ys.take (min i 100)))
  rw [List.length_take] at hgl
  refine rLt <| sIfD (fun hlt => ?_) (fun hge => ?_)
  · obtain ⟨x, hxi⟩ : ∃ x, ys[i]? = some x := ⟨_, List.getElem?_eq_getElem (by omega)⟩
    have hbd := hy.bd x (List.mem_of_getElem? hxi)
    refine hy.read W f i x hxi _ _ ?_
    have hL := Lx.of (F := fun _ => False) f
    refine sAlloc zc23 hL (fun w2 b2 hL => ?_)
    refine sStN hL (i := 0) rfl rfl (by simp) (Cd.cs_one x) (fun w3 hL => ?_)
    have hL : Lx (fun _ => False) w w3 [.blk b2 x.cs] := hL
    repeat (first
      | refine rFA0 ?_
      | refine rExt0 ?_
      | refine rExt1 ?_
      | refine sExt30 ?_
      | refine sExt31 ?_
      | refine sExt2 ?_
      | refine rIfT ?_
      | refine rIfF ?_
      | refine rNot ?_
      | refine rLenB ?_
      | refine sLd hL (i := 0) rfl rfl ?_
      | refine sLd hL (i := 1) rfl rfl ?_
      | refine sLd hL (i := 2) rfl rfl ?_
      | refine sLd hL (i := 3) rfl rfl ?_
      | refine sLd hL (i := 4) rfl rfl ?_
      | refine sLd hL (i := 5) rfl rfl ?_
      | refine sLdN hL (i := 0) rfl rfl ?_
      | refine sLdN hL (i := 1) rfl rfl ?_
      | refine sLdN hL (i := 2) rfl rfl ?_
      | refine sLdN hL (i := 3) rfl rfl ?_
      | refine sLdN hL (i := 4) rfl rfl ?_
      | refine sLdN hL (i := 5) rfl rfl ?_
      | refine sLdS (i := 0) rfl rfl ?_
      | refine sLdS (i := 1) rfl rfl ?_
      | refine sLdS (i := 2) rfl rfl ?_
      | refine sLdS (i := 3) rfl rfl ?_
      | refine sLdS (i := 4) rfl rfl ?_
      | refine sLdS (i := 5) rfl rfl ?_
      | refine rFA ?_)
    refine text_spec (x := x) (hT.fr hL.fr) hbd.n.1 hbd.n.2 (fun w4 f4 => ?_)
    have hL := hL.more f4
    have et : ys.take (i + 1) = ys.take i ++ [x] := by rw [List.take_add_one, hxi]; rfl
    have same : (rightB x = false ∨ 100 ≤ i) → good (ys.take (min (i + 1) 100)) = good (ys.take (min i 100)) := by
      intro h
      by_cases h100 : 100 ≤ i
      · rw [Nat.min_eq_right (by omega), Nat.min_eq_right (by omega)]
      · rcases h with h | h
        · rw [Nat.min_eq_left (by omega), Nat.min_eq_left (by omega), et, good_snoc, if_neg (by rw [h]; decide)]
        · exact absurd h h100
    by_cases hr : rightB x = true
    · rw [if_pos hr]
      repeat (first
        | refine rFA0 ?_
        | refine rExt0 ?_
        | refine rExt1 ?_
        | refine sExt30 ?_
        | refine sExt31 ?_
        | refine sExt2 ?_
        | refine rIfT ?_
        | refine rIfF ?_
        | refine rNot ?_
        | refine rLenB ?_
        | refine sLd hL (i := 0) rfl rfl ?_
        | refine sLd hL (i := 1) rfl rfl ?_
        | refine sLd hL (i := 2) rfl rfl ?_
        | refine sLd hL (i := 3) rfl rfl ?_
        | refine sLd hL (i := 4) rfl rfl ?_
        | refine sLd hL (i := 5) rfl rfl ?_
        | refine sLdN hL (i := 0) rfl rfl ?_
        | refine sLdN hL (i := 1) rfl rfl ?_
        | refine sLdN hL (i := 2) rfl rfl ?_
        | refine sLdN hL (i := 3) rfl rfl ?_
        | refine sLdN hL (i := 4) rfl rfl ?_
        | refine sLdN hL (i := 5) rfl rfl ?_
        | refine sLdS (i := 0) rfl rfl ?_
        | refine sLdS (i := 1) rfl rfl ?_
        | refine sLdS (i := 2) rfl rfl ?_
        | refine sLdS (i := 3) rfl rfl ?_
        | refine sLdS (i := 4) rfl rfl ?_
        | refine sLdS (i := 5) rfl rfl ?_
        | refine rFA ?_)
      refine rEq <| rIfT ?_
      refine rLt <| sIfD (fun h100 => ?_) (fun h100 => ?_)
      · have htl := txt_len hr
        refine sAddS (b := [10]) (by simp; omega) ?_
        refine sAddS (by simp only [List.length_append, List.length_cons, List.length_nil] at *; omega) ?_
        refine rAdd (by omega) (by omega) <| rAdd (by omega) (by omega) ⟨⟨by trivial, hL.fr, i + 1, by omega, ?_⟩, by simp [mu6]; omega⟩
        have eg : good (ys.take (min (i + 1) 100)) = good (ys.take (min i 100)) ++ [x] := by
          rw [Nat.min_eq_left (by omega), Nat.min_eq_left (by omega), et, good_snoc, if_pos hr]
        rw [eg, linesT_snoc]
        simp
      · refine rAdd (by omega) (by omega) ⟨⟨by trivial, hL.fr, i + 1, by omega, ?_⟩, by simp [mu6]; omega⟩
        rw [same (.inr (by omega))]; simp
    · have hr : rightB x = false := by simpa using hr
      rw [if_neg (by rw [hr]; decide)]
      repeat (first
        | refine rFA0 ?_
        | refine rExt0 ?_
        | refine rExt1 ?_
        | refine sExt30 ?_
        | refine sExt31 ?_
        | refine sExt2 ?_
        | refine rIfT ?_
        | refine rIfF ?_
        | refine rNot ?_
        | refine rLenB ?_
        | refine sLd hL (i := 0) rfl rfl ?_
        | refine sLd hL (i := 1) rfl rfl ?_
        | refine sLd hL (i := 2) rfl rfl ?_
        | refine sLd hL (i := 3) rfl rfl ?_
        | refine sLd hL (i := 4) rfl rfl ?_
        | refine sLd hL (i := 5) rfl rfl ?_
        | refine sLdN hL (i := 0) rfl rfl ?_
        | refine sLdN hL (i := 1) rfl rfl ?_
        | refine sLdN hL (i := 2) rfl rfl ?_
        | refine sLdN hL (i := 3) rfl rfl ?_
        | refine sLdN hL (i := 4) rfl rfl ?_
        | refine sLdN hL (i := 5) rfl rfl ?_
        | refine sLdS (i := 0) rfl rfl ?_
        | refine sLdS (i := 1) rfl rfl ?_
        | refine sLdS (i := 2) rfl rfl ?_
        | refine sLdS (i := 3) rfl rfl ?_
        | refine sLdS (i := 4) rfl rfl ?_
        | refine sLdS (i := 5) rfl rfl ?_
        | refine rFA ?_)
      refine rEq <| rIfF ?_
      refine rAdd (by omega) (by omega) ⟨⟨by trivial, hL.fr, i + 1, by omega, ?_⟩, by simp [mu6]; omega⟩
      rw [same (.inl hr)]; simp
  have hi : i = ys.length := by omega
  subst hi
  have hDr := good_right (xs := ys.take (min ys.length 100))
  have hDl : (good (ys.take (min ys.length 100))).length ≤ 100 := by omega
  generalize good (ys.take (min ys.length 100)) = D at *
  refine sAddS (a := [103, 111, 32, 104, 101, 114, 101, 10]) (by rw [List.length_append]; simp only [List.length_cons, List.length_nil]; omega) ?_
  refine sAddS (b := zeroHere) (by rw [List.length_append, List.length_append]; simp only [List.length_cons, List.length_nil, zeroHere]; omega) ?_
  have ep : ([103, 111, 32, 104, 101, 114, 101, 10] ++ ((linesT B ++ List.replicate j 10 ++ [104, 101, 114, 101, 58, 10]) ++ linesT D)) ++ zeroHere = placeText B D j := by
    unfold placeText linesT goHere hereLab
    simp
  have epl : (placeText B D j).length < 1000000 := by
    rw [← ep, List.length_append, List.length_append, List.length_append]
    simp only [List.length_cons, List.length_nil, zeroHere]; omega
  rw [ep]
  refine build_spec (hT.fr f) epl (fun w8 f8 => ?_)
  rw [place_build hBr hDr hBl hDl]
  repeat (first
    | refine rFA0 ?_
    | refine rExt0 ?_
    | refine rExt1 ?_
    | refine sExt30 ?_
    | refine sExt31 ?_
    | refine sExt2 ?_
    | refine rIfT ?_
    | refine rIfF ?_
    | refine rNot ?_
    | refine rLenB ?_
    | refine sLd hL (i := 0) rfl rfl ?_
    | refine sLd hL (i := 1) rfl rfl ?_
    | refine sLd hL (i := 2) rfl rfl ?_
    | refine sLd hL (i := 3) rfl rfl ?_
    | refine sLd hL (i := 4) rfl rfl ?_
    | refine sLd hL (i := 5) rfl rfl ?_
    | refine sLdN hL (i := 0) rfl rfl ?_
    | refine sLdN hL (i := 1) rfl rfl ?_
    | refine sLdN hL (i := 2) rfl rfl ?_
    | refine sLdN hL (i := 3) rfl rfl ?_
    | refine sLdN hL (i := 4) rfl rfl ?_
    | refine sLdN hL (i := 5) rfl rfl ?_
    | refine sLdS (i := 0) rfl rfl ?_
    | refine sLdS (i := 1) rfl rfl ?_
    | refine sLdS (i := 2) rfl rfl ?_
    | refine sLdS (i := 3) rfl rfl ?_
    | refine sLdS (i := 4) rfl rfl ?_
    | refine sLdS (i := 5) rfl rfl ?_
    | refine rFA ?_)
  refine sJoin ?_
  refine rNe <| rIfF <| rNe <| rIfF ?_
  refine rLenB <| rAdd (by omega) (by omega) <| rAdd (by omega) (by omega) <| rMulI (by omega) (by omega) <| rNe ?_
  have l1 := encs_len B
  have l2 := encs_len D
  have e1 : (enc ⟨22, 0, 0, 0, B.length⟩).length = 4 := rfl
  have e2 : (enc ⟨23, 3, 0, 0, -(D.length : Int) - 1⟩).length = 4 := rfl
  have el : (((enc ⟨22, 0, 0, 0, B.length⟩ ++ ((B.map enc).flatten ++ ((D.map enc).flatten ++ enc ⟨23, 3, 0, 0, -(D.length : Int) - 1⟩))).length : Int) != 4 * ((B.length : Int) + D.length + 2)) = false := by
    have : (enc ⟨22, 0, 0, 0, B.length⟩ ++ ((B.map enc).flatten ++ ((D.map enc).flatten ++ enc ⟨23, 3, 0, 0, -(D.length : Int) - 1⟩))).length = 4 * (B.length + D.length + 2) := by
      simp only [List.length_append, e1, e2, l1, l2]; omega
    rw [this]
    simp
  rw [el]
  exact places_end hT hK (f.more f8) hBr hDr hBl hDl

/-- the first 200 that are right -/
def pick (xs : List Cd) : List Cd := (good xs).take 200

theorem lists_tail {W : World} {gs : List Cd} {tail : List UInt8} (f : Fr (fun _ => False) w W) (hg : ∀ x ∈ gs, rightB x = true) (hn : gs.length ≤ 200) (ht : tail.length ≤ 1048576) :
    ∀ ρ : Env, [1, 5, 7, 110].map ρ = [str tail, str (gs.map enc).flatten, it gs.length, .bool false] → F9J6 K ρ [] W := by
  intro ρ hρ
  have l1 := encs_len gs
  simp only [List.map_cons, List.map_nil, List.cons.injEq, and_true] at hρ
  obtain ⟨e1, e5, e7, e110⟩ := hρ
  unfold F9J6
  simp only [e1, e5, e7, e110]
  refine rIfF ?_
  refine sAddS (by omega) ?_
  have hlb := listB_enc gs tail hg
  have fin : ∀ (W : World) (v : Value) (e : Int), Fr (fun _ => False) w W → (listB tail = none → v = .slice none 0 0 ∧ e = 12) → (∀ ts, listB tail = some ts → (∃ a c, v = .slice a (gs.length + ts.length) c) ∧ e = 0) →
      CallK Tryd.prog 22 #[str tail] W fun v120 w_9 => vExt v120 0 fun v121 => vExt v120 1 fun v122 => vAlloc Tryd.prog 23 w_9 fun v22 w_10 => vSt (some 5) v22 v121 w_10 fun w_11 =>
      joinF [1, 7, 14, 15] (fun J7 =>
        vLen .string (str tail) fun v124 => vBin (.int .i64) .eql v124 (it 4) fun v125 => vBool v125 fun g_2 => if g_2 = true then
        (vUn .not v122 fun v128 => vBool v128 fun g_3 => if g_3 = true then
          (vBin (.int .i64) .eql (it e) (it 12) fun v137 => vBool v137 fun g_4 => if g_4 = true then
            (vLen (.slice 1) v fun v140 => vBin (.int .i64) .eql v140 (it 0) fun v141 => leaveV [] w_11 fun W => K v141 W)
            else (leaveV [] w_11 fun W => K (.bool false) W))
          else (vLen .string (str tail) fun v132 => vBin (.int .i64) .rem v132 (it 4) fun v133 => vBin (.int .i64) .neq v133 (it 0) fun v134 => vBool v134 fun c_9 => if c_9 = true then
            (vBin (.int .i64) .eql (it e) (it 12) fun v137_2 => vBool v137_2 fun g_5 => if g_5 = true then
              (vLen (.slice 1) v fun v140_2 => vBin (.int .i64) .eql v140_2 (it 0) fun v141_2 => leaveV [] w_11 fun W => K v141_2 W)
              else (leaveV [] w_11 fun W => K (.bool false) W))
            else J7 [str tail, it gs.length, v, it e] [] w_11))
        else (vLen .string (str tail) fun v132_2 => vBin (.int .i64) .rem v132_2 (it 4) fun v133_2 => vBin (.int .i64) .neq v133_2 (it 0) fun v134_2 => vBool v134_2 fun c_10 => if c_10 = true then
          (vBin (.int .i64) .eql (it e) (it 12) fun v137_3 => vBool v137_3 fun g_6 => if g_6 = true then
            (vLen (.slice 1) v fun v140_3 => vBin (.int .i64) .eql v140_3 (it 0) fun v141_3 => leaveV [] w_11 fun W => K v141_3 W)
            else (leaveV [] w_11 fun W => K (.bool false) W))
          else J7 [str tail, it gs.length, v, it e] [] w_11)) (F9J7 K) := by
    intro W v e f h1 h2
    have hL := Lx.of (F := fun _ => False) f
    refine rdecode_spec (fun w2 f2 => ?_)
    have hL := hL.more f2
    repeat (first
      | refine rFA0 ?_
      | refine rExt0 ?_
      | refine rExt1 ?_
      | refine sExt30 ?_
      | refine sExt31 ?_
      | refine sExt2 ?_
      | refine rIfT ?_
      | refine rIfF ?_
      | refine rNot ?_
      | refine rLenB ?_
      | refine sLd hL (i := 0) rfl rfl ?_
      | refine sLd hL (i := 1) rfl rfl ?_
      | refine sLd hL (i := 2) rfl rfl ?_
      | refine sLd hL (i := 3) rfl rfl ?_
      | refine sLd hL (i := 4) rfl rfl ?_
      | refine sLd hL (i := 5) rfl rfl ?_
      | refine sLdN hL (i := 0) rfl rfl ?_
      | refine sLdN hL (i := 1) rfl rfl ?_
      | refine sLdN hL (i := 2) rfl rfl ?_
      | refine sLdN hL (i := 3) rfl rfl ?_
      | refine sLdN hL (i := 4) rfl rfl ?_
      | refine sLdN hL (i := 5) rfl rfl ?_
      | refine sLdS (i := 0) rfl rfl ?_
      | refine sLdS (i := 1) rfl rfl ?_
      | refine sLdS (i := 2) rfl rfl ?_
      | refine sLdS (i := 3) rfl rfl ?_
      | refine sLdS (i := 4) rfl rfl ?_
      | refine sLdS (i := 5) rfl rfl ?_
      | refine rFA ?_)
    refine sAlloc zc23 hL (fun w3 b3 hL => ?_)
    refine sStN hL (i := 0) rfl rfl (by simp) (Cd.cs_one _) (fun w4 hL => ?_)
    have f4 := hL.fr
    refine sJoin ?_
    have e1 : (tail.length : Int).tmod 4 = ((tail.length % 4 : Nat) : Int) := by
      rw [Int.tmod_eq_emod_of_nonneg (by omega)]; omega
    have none_ok : listB tail = none → vBin (.int .i64) .eql (it e) (it 12) fun v137 => vBool v137 fun g_4 => if g_4 = true then
            (vLen (.slice 1) v fun v140 => vBin (.int .i64) .eql v140 (it 0) fun v141 => leaveV [] w4 fun W => K v141 W)
            else (leaveV [] w4 fun W => K (.bool false) W) := by
      intro hnn
      obtain ⟨rfl, rfl⟩ := h1 hnn
      refine rEq <| rIfT <| rLenS <| rEq ?_
      exact hK w4 f4
    have mod_none : tail.length % 4 ≠ 0 → listB tail = none := by
      intro hm
      cases hb : listB tail with
      | none => rfl
      | some ts => exact absurd (listB_mod tail ts hb) hm
    refine rLenB <| rEq <| sIfE (fun h4 => ?_) (fun h4 => ?_)
    · have h4 : tail.length = 4 := by omega
      match htl : tail, h4 with
      | [p, q, u, t], _ =>
        subst htl
        refine rNot <| sIfN (fun hr => ?_) (fun hr => ?_)
        · refine none_ok ?_
          rw [listB]
          have : decode [p, q, u, t] = none := by rw [rdec_eq, hr]; rfl
          rw [this]
        · refine rLenB <| sRem (by decide) ?_
          rw [e1]
          refine rNe <| sIfNE (fun hm => absurd hm (by simp)) (fun _ => ?_)
          have hd : decode [p, q, u, t] = some (rdec [p, q, u, t]).1 := by rw [rdec_eq, hr]; rfl
          obtain ⟨⟨a, c, hv⟩, he⟩ := h2 [txt (rdec [p, q, u, t]).1] (by rw [listB, hd]; rfl)
          intro ρ hρ
          simp only [List.map_cons, List.map_nil, List.cons.injEq, and_true] at hρ
          obtain ⟨e1, e7, e14, e15⟩ := hρ
          unfold F9J7
          simp only [e1, e7, e14, e15]
          refine rLenB <| rNe <| rIfF ?_
          subst hv he
          refine rEq <| rIfT <| rLenS <| rAdd (by omega) (by omega) <| rEq ?_
          have : (((gs.length + [txt (rdec [p, q, u, t]).1].length : Nat) : Int) == (gs.length : Int) + 1) = true := by simp
          rw [this]
          exact hK w4 f4
    · refine rLenB <| sRem (by decide) ?_
      rw [e1]
      refine rNe <| sIfNE (fun hm => ?_) (fun hm => ?_)
      · exact none_ok (mod_none (by omega))
      · intro ρ hρ
        simp only [List.map_cons, List.map_nil, List.cons.injEq, and_true] at hρ
        obtain ⟨e1, e7, e14, e15⟩ := hρ
        unfold F9J7
        simp only [e1, e7, e14, e15]
        refine rLenB <| rNe <| sIfNE (fun _ => ?_) (fun h => absurd h (by omega))
        exact hK w4 f4
  refine list_spec (hT.fr f) (by rw [List.length_append]; omega) (fun ts hts w2 v bl hr f2 => ?_) (fun hts w2 f2 => ?_)
  · repeat (first
      | refine rFA0 ?_
      | refine rExt0 ?_
      | refine rExt1 ?_
      | refine sExt30 ?_
      | refine sExt31 ?_
      | refine sExt2 ?_
      | refine rIfT ?_
      | refine rIfF ?_
      | refine rNot ?_
      | refine rLenB ?_
      | refine sLd hL (i := 0) rfl rfl ?_
      | refine sLd hL (i := 1) rfl rfl ?_
      | refine sLd hL (i := 2) rfl rfl ?_
      | refine sLd hL (i := 3) rfl rfl ?_
      | refine sLd hL (i := 4) rfl rfl ?_
      | refine sLd hL (i := 5) rfl rfl ?_
      | refine sLdN hL (i := 0) rfl rfl ?_
      | refine sLdN hL (i := 1) rfl rfl ?_
      | refine sLdN hL (i := 2) rfl rfl ?_
      | refine sLdN hL (i := 3) rfl rfl ?_
      | refine sLdN hL (i := 4) rfl rfl ?_
      | refine sLdN hL (i := 5) rfl rfl ?_
      | refine sLdS (i := 0) rfl rfl ?_
      | refine sLdS (i := 1) rfl rfl ?_
      | refine sLdS (i := 2) rfl rfl ?_
      | refine sLdS (i := 3) rfl rfl ?_
      | refine sLdS (i := 4) rfl rfl ?_
      | refine sLdS (i := 5) rfl rfl ?_
      | refine rFA ?_)
    rw [hlb] at hts
    obtain ⟨t2, h1, h2⟩ := Option.map_eq_some_iff.1 hts
    refine fin w2 v 0 (f.more f2) (fun h => by rw [h] at h1; cases h1) (fun t3 h3 => ⟨?_, rfl⟩)
    rw [h3] at h1
    cases h1
    obtain ⟨_, _, a, c, e⟩ := hr.val
    refine ⟨a, c, ?_⟩
    rw [e, ← h2]
    simp
  · repeat (first
      | refine rFA0 ?_
      | refine rExt0 ?_
      | refine rExt1 ?_
      | refine sExt30 ?_
      | refine sExt31 ?_
      | refine sExt2 ?_
      | refine rIfT ?_
      | refine rIfF ?_
      | refine rNot ?_
      | refine rLenB ?_
      | refine sLd hL (i := 0) rfl rfl ?_
      | refine sLd hL (i := 1) rfl rfl ?_
      | refine sLd hL (i := 2) rfl rfl ?_
      | refine sLd hL (i := 3) rfl rfl ?_
      | refine sLd hL (i := 4) rfl rfl ?_
      | refine sLd hL (i := 5) rfl rfl ?_
      | refine sLdN hL (i := 0) rfl rfl ?_
      | refine sLdN hL (i := 1) rfl rfl ?_
      | refine sLdN hL (i := 2) rfl rfl ?_
      | refine sLdN hL (i := 3) rfl rfl ?_
      | refine sLdN hL (i := 4) rfl rfl ?_
      | refine sLdN hL (i := 5) rfl rfl ?_
      | refine sLdS (i := 0) rfl rfl ?_
      | refine sLdS (i := 1) rfl rfl ?_
      | refine sLdS (i := 2) rfl rfl ?_
      | refine sLdS (i := 3) rfl rfl ?_
      | refine sLdS (i := 4) rfl rfl ?_
      | refine sLdS (i := 5) rfl rfl ?_
      | refine rFA ?_)
    rw [hlb] at hts
    refine fin w2 _ 12 (f.more f2) (fun _ => ⟨rfl, rfl⟩) (fun t3 h3 => by rw [h3] at hts; cases hts)

theorem law9 {v0 : Value} {xs : List Cd} {tail : List UInt8} (hx : Codes w v0 xs) (ht : tail.length ≤ 1048576) : Ret Tryd.prog 9 #[v0, str tail] w K := by
  apply F9_ok
  unfold F9
  refine lives_spec hT (fun w1 f1 => ?_)
  refine rNot <| rIfF ?_
  obtain ⟨a0, c0, hv0⟩ := hx.shape
  have hlen0 : ∀ {K : Value → Prop}, K (it xs.length) → vLen (.slice 5) v0 K := fun k => by rw [hv0]; exact k
  have hxl := hx.len
  refine hlen0 ?_
  refine ⟨fun vs ds W => ds = [] ∧ Fr (fun _ => False) w W ∧ ∃ (i : Nat), i ≤ xs.length ∧ vs = [str tail, str ((pick (xs.take i)).map enc).flatten, str (Lib.join ((pick (xs.take i)).map txt) [10]), it (pick (xs.take i)).length, v0, it xs.length, it i], fun vs _ _ => mu7 xs.length vs, ⟨rfl, f1, 0, by omega, by simp [pick, good]; rfl⟩, ?_⟩
  rintro ρ ds W ⟨rfl, f, i, hi, hρ⟩
  rw [hρ]
  simp only [List.map_cons, List.map_nil, List.cons.injEq, and_true] at hρ
  obtain ⟨e1, e5, e6, e7, e26, e27, e28⟩ := hρ
  unfold F9L1
  simp only [e1, e5, e6, e7, e26, e27, e28]
  have pr : ∀ ys : List Cd, ∀ x ∈ pick ys, rightB x = true := fun ys x hm => good_right x (List.mem_of_mem_take hm)
  have pl : ∀ ys : List Cd, (pick ys).length ≤ 200 := fun ys => by unfold pick; rw [List.length_take]; omega
  have jl : ∀ gs : List Cd, (∀ x ∈ gs, rightB x = true) → (Lib.join (gs.map txt) [10]).length ≤ 1001 * gs.length := by
    intro gs hg
    cases gs with
    | nil => simp [Lib.join_nil]
    | cons x r =>
      have h1 := txt_len (hg x (by simp))
      have key : ∀ r : List Cd, (∀ x ∈ r, rightB x = true) → (r.map txt).flatten.length ≤ 1000 * r.length := by
        intro r hr
        induction r with
        | nil => simp
        | cons y r ih =>
          have h2 := txt_len (hr y (by simp))
          have h3 := ih (fun z hz => hr z (by simp [hz]))
          rw [List.map_cons, List.flatten_cons, List.length_append, List.length_cons]; omega
      have h2 := key r (fun z hz => hg z (by simp [hz]))
      rw [List.map_cons, Lib.join_cons, List.length_append, joinTail_len, List.length_map]
      simp only [List.length_cons, List.length_nil, Nat.zero_add, Nat.mul_one]
      omega
  refine rLt <| sIfD (fun hlt => ?_) (fun hge => ?_)
  · obtain ⟨x, hxi⟩ : ∃ x, xs[i]? = some x := ⟨_, List.getElem?_eq_getElem (by omega)⟩
    have hbd := hx.bd x (List.mem_of_getElem? hxi)
    have et : xs.take (i + 1) = xs.take i ++ [x] := by rw [List.take_add_one, hxi]; rfl
    refine hx.read W f i x hxi _ _ ?_
    have hL := Lx.of (F := fun _ => False) f
    refine sAlloc zc23 hL (fun w2 b2 hL => ?_)
    refine sStN hL (i := 0) rfl rfl (by simp) (Cd.cs_one x) (fun w3 hL => ?_)
    have hL : Lx (fun _ => False) w w3 [.blk b2 x.cs] := hL
    repeat (first
      | refine rFA0 ?_
      | refine rExt0 ?_
      | refine rExt1 ?_
      | refine sExt30 ?_
      | refine sExt31 ?_
      | refine sExt2 ?_
      | refine rIfT ?_
      | refine rIfF ?_
      | refine rNot ?_
      | refine rLenB ?_
      | refine sLd hL (i := 0) rfl rfl ?_
      | refine sLd hL (i := 1) rfl rfl ?_
      | refine sLd hL (i := 2) rfl rfl ?_
      | refine sLd hL (i := 3) rfl rfl ?_
      | refine sLd hL (i := 4) rfl rfl ?_
      | refine sLd hL (i := 5) rfl rfl ?_
      | refine sLdN hL (i := 0) rfl rfl ?_
      | refine sLdN hL (i := 1) rfl rfl ?_
      | refine sLdN hL (i := 2) rfl rfl ?_
      | refine sLdN hL (i := 3) rfl rfl ?_
      | refine sLdN hL (i := 4) rfl rfl ?_
      | refine sLdN hL (i := 5) rfl rfl ?_
      | refine sLdS (i := 0) rfl rfl ?_
      | refine sLdS (i := 1) rfl rfl ?_
      | refine sLdS (i := 2) rfl rfl ?_
      | refine sLdS (i := 3) rfl rfl ?_
      | refine sLdS (i := 4) rfl rfl ?_
      | refine sLdS (i := 5) rfl rfl ?_
      | refine rFA ?_)
    refine encode_spec (x := x) (hT.fr hL.fr) hbd.n.1 hbd.n.2 (fun w4 f4 => ?_)
    have hL := hL.more f4
    by_cases hr : rightB x = true
    · rw [if_pos hr]
      repeat (first
        | refine rFA0 ?_
        | refine rExt0 ?_
        | refine rExt1 ?_
        | refine sExt30 ?_
        | refine sExt31 ?_
        | refine sExt2 ?_
        | refine rIfT ?_
        | refine rIfF ?_
        | refine rNot ?_
        | refine rLenB ?_
        | refine sLd hL (i := 0) rfl rfl ?_
        | refine sLd hL (i := 1) rfl rfl ?_
        | refine sLd hL (i := 2) rfl rfl ?_
        | refine sLd hL (i := 3) rfl rfl ?_
        | refine sLd hL (i := 4) rfl rfl ?_
        | refine sLd hL (i := 5) rfl rfl ?_
        | refine sLdN hL (i := 0) rfl rfl ?_
        | refine sLdN hL (i := 1) rfl rfl ?_
        | refine sLdN hL (i := 2) rfl rfl ?_
        | refine sLdN hL (i := 3) rfl rfl ?_
        | refine sLdN hL (i := 4) rfl rfl ?_
        | refine sLdN hL (i := 5) rfl rfl ?_
        | refine sLdS (i := 0) rfl rfl ?_
        | refine sLdS (i := 1) rfl rfl ?_
        | refine sLdS (i := 2) rfl rfl ?_
        | refine sLdS (i := 3) rfl rfl ?_
        | refine sLdS (i := 4) rfl rfl ?_
        | refine sLdS (i := 5) rfl rfl ?_
        | refine rFA ?_)
      refine rNe <| rIfF ?_
      have hp := pl (xs.take i)
      refine rGe <| sIfD (fun h200 => ?_) (fun h200 => ?_)
      · refine rAdd (by omega) (by omega) ⟨⟨by trivial, hL.fr, i + 1, by omega, ?_⟩, by simp [mu7]; omega⟩
        have : pick (xs.take (i + 1)) = pick (xs.take i) := by
          unfold pick at h200 ⊢
          rw [List.length_take] at h200
          rw [et, good_snoc, if_pos hr, List.take_append_of_le_length (by omega)]
        rw [this]; simp
      · have hpk : pick (xs.take (i + 1)) = pick (xs.take i) ++ [x] := by
          unfold pick at h200 ⊢
          rw [List.length_take] at h200
          have q1 : (good (xs.take i) ++ [x]).length ≤ 200 := by rw [List.length_append, List.length_singleton]; omega
          have q2 : (good (xs.take i)).length ≤ 200 := by omega
          rw [et, good_snoc, if_pos hr, List.take_of_length_le q1, List.take_of_length_le q2]
        have j1 := jl _ (pr (xs.take i))
        have l1 := encs_len (pick (xs.take i))
        have htl := txt_len hr
        repeat (first
          | refine rFA0 ?_
          | refine rExt0 ?_
          | refine rExt1 ?_
          | refine sExt30 ?_
          | refine sExt31 ?_
          | refine sExt2 ?_
          | refine rIfT ?_
          | refine rIfF ?_
          | refine rNot ?_
          | refine rLenB ?_
          | refine sLd hL (i := 0) rfl rfl ?_
          | refine sLd hL (i := 1) rfl rfl ?_
          | refine sLd hL (i := 2) rfl rfl ?_
          | refine sLd hL (i := 3) rfl rfl ?_
          | refine sLd hL (i := 4) rfl rfl ?_
          | refine sLd hL (i := 5) rfl rfl ?_
          | refine sLdN hL (i := 0) rfl rfl ?_
          | refine sLdN hL (i := 1) rfl rfl ?_
          | refine sLdN hL (i := 2) rfl rfl ?_
          | refine sLdN hL (i := 3) rfl rfl ?_
          | refine sLdN hL (i := 4) rfl rfl ?_
          | refine sLdN hL (i := 5) rfl rfl ?_
          | refine sLdS (i := 0) rfl rfl ?_
          | refine sLdS (i := 1) rfl rfl ?_
          | refine sLdS (i := 2) rfl rfl ?_
          | refine sLdS (i := 3) rfl rfl ?_
          | refine sLdS (i := 4) rfl rfl ?_
          | refine sLdS (i := 5) rfl rfl ?_
          | refine rFA ?_)
        refine text_spec (x := x) (hT.fr hL.fr) hbd.n.1 hbd.n.2 (fun w5 f5 => ?_)
        have hL := hL.more f5
        rw [if_pos hr]
        repeat (first
          | refine rFA0 ?_
          | refine rExt0 ?_
          | refine rExt1 ?_
          | refine sExt30 ?_
          | refine sExt31 ?_
          | refine sExt2 ?_
          | refine rIfT ?_
          | refine rIfF ?_
          | refine rNot ?_
          | refine rLenB ?_
          | refine sLd hL (i := 0) rfl rfl ?_
          | refine sLd hL (i := 1) rfl rfl ?_
          | refine sLd hL (i := 2) rfl rfl ?_
          | refine sLd hL (i := 3) rfl rfl ?_
          | refine sLd hL (i := 4) rfl rfl ?_
          | refine sLd hL (i := 5) rfl rfl ?_
          | refine sLdN hL (i := 0) rfl rfl ?_
          | refine sLdN hL (i := 1) rfl rfl ?_
          | refine sLdN hL (i := 2) rfl rfl ?_
          | refine sLdN hL (i := 3) rfl rfl ?_
          | refine sLdN hL (i := 4) rfl rfl ?_
          | refine sLdN hL (i := 5) rfl rfl ?_
          | refine sLdS (i := 0) rfl rfl ?_
          | refine sLdS (i := 1) rfl rfl ?_
          | refine sLdS (i := 2) rfl rfl ?_
          | refine sLdS (i := 3) rfl rfl ?_
          | refine sLdS (i := 4) rfl rfl ?_
          | refine sLdS (i := 5) rfl rfl ?_
          | refine rFA ?_)
        refine sAddS (by rw [l1]; simp [enc]; omega) ?_
        have e1 : ((pick (xs.take i)).map enc).flatten ++ enc x = ((pick (xs.take (i + 1))).map enc).flatten := by rw [hpk]; simp
        have e2 := join_snoc [10] (txt x) ((pick (xs.take i)).map txt)
        have e3 : (pick (xs.take (i + 1))).map txt = (pick (xs.take i)).map txt ++ [txt x] := by rw [hpk]; simp
        rw [← e3] at e2
        have el : ((pick (xs.take i)).length : Int) + 1 = ((pick (xs.take (i + 1))).length : Int) := by rw [hpk]; simp
        have h3 : ([10] : List UInt8).length = 1 := rfl
        refine rGt <| sIfD (fun hpos => ?_) (fun hpos => ?_)
        · refine sAddS (b := [10]) (by omega) <| sAddS (by simp only [List.length_append, List.length_cons, List.length_nil]; omega) ?_
          refine rAdd (by omega) (by omega) <| rAdd (by omega) (by omega) ⟨⟨by trivial, hL.fr, i + 1, by omega, ?_⟩, by simp [mu7]; omega⟩
          rw [e1, el, e2, if_neg (by intro h; have := congrArg List.length h; rw [List.length_map, List.length_nil] at this; omega)]
          simp
        · refine sAddS (by omega) ?_
          refine rAdd (by omega) (by omega) <| rAdd (by omega) (by omega) ⟨⟨by trivial, hL.fr, i + 1, by omega, ?_⟩, by simp [mu7]; omega⟩
          have hnil : pick (xs.take i) = [] := List.length_eq_zero_iff.1 (by omega)
          rw [e1, el, e2, if_pos (by rw [hnil]; rfl), hnil]
          simp [Lib.join_nil]
    · have hr : rightB x = false := by simpa using hr
      rw [if_neg (by rw [hr]; decide)]
      repeat (first
        | refine rFA0 ?_
        | refine rExt0 ?_
        | refine rExt1 ?_
        | refine sExt30 ?_
        | refine sExt31 ?_
        | refine sExt2 ?_
        | refine rIfT ?_
        | refine rIfF ?_
        | refine rNot ?_
        | refine rLenB ?_
        | refine sLd hL (i := 0) rfl rfl ?_
        | refine sLd hL (i := 1) rfl rfl ?_
        | refine sLd hL (i := 2) rfl rfl ?_
        | refine sLd hL (i := 3) rfl rfl ?_
        | refine sLd hL (i := 4) rfl rfl ?_
        | refine sLd hL (i := 5) rfl rfl ?_
        | refine sLdN hL (i := 0) rfl rfl ?_
        | refine sLdN hL (i := 1) rfl rfl ?_
        | refine sLdN hL (i := 2) rfl rfl ?_
        | refine sLdN hL (i := 3) rfl rfl ?_
        | refine sLdN hL (i := 4) rfl rfl ?_
        | refine sLdN hL (i := 5) rfl rfl ?_
        | refine sLdS (i := 0) rfl rfl ?_
        | refine sLdS (i := 1) rfl rfl ?_
        | refine sLdS (i := 2) rfl rfl ?_
        | refine sLdS (i := 3) rfl rfl ?_
        | refine sLdS (i := 4) rfl rfl ?_
        | refine sLdS (i := 5) rfl rfl ?_
        | refine rFA ?_)
      refine rNe <| rIfT ?_
      refine rAdd (by omega) (by omega) ⟨⟨by trivial, hL.fr, i + 1, by omega, ?_⟩, by simp [mu7]; omega⟩
      have : pick (xs.take (i + 1)) = pick (xs.take i) := by
        unfold pick
        rw [et, good_snoc, if_neg (by rw [hr]; decide)]
      rw [this]; simp
  have hi : i = xs.length := by omega
  subst hi
  have hg := pr (xs.take xs.length)
  have hn := pl (xs.take xs.length)
  generalize pick (xs.take xs.length) = gs at *
  have l1 := encs_len gs
  have j1 := jl gs hg
  have hlb := listB_enc gs [] hg
  rw [List.append_nil, listB] at hlb
  refine list_spec (hT.fr f) (by omega) (fun ts hts w2 v bl hr f2 => ?_) (fun hts w2 f2 => ?_)
  rotate_left
  · rw [hlb] at hts; cases hts
  rw [hlb] at hts
  simp only [Option.map_some, List.append_nil, Option.some.injEq] at hts
  subst hts
  repeat (first
    | refine rFA0 ?_
    | refine rExt0 ?_
    | refine rExt1 ?_
    | refine sExt30 ?_
    | refine sExt31 ?_
    | refine sExt2 ?_
    | refine rIfT ?_
    | refine rIfF ?_
    | refine rNot ?_
    | refine rLenB ?_
    | refine sLd hL (i := 0) rfl rfl ?_
    | refine sLd hL (i := 1) rfl rfl ?_
    | refine sLd hL (i := 2) rfl rfl ?_
    | refine sLd hL (i := 3) rfl rfl ?_
    | refine sLd hL (i := 4) rfl rfl ?_
    | refine sLd hL (i := 5) rfl rfl ?_
    | refine sLdN hL (i := 0) rfl rfl ?_
    | refine sLdN hL (i := 1) rfl rfl ?_
    | refine sLdN hL (i := 2) rfl rfl ?_
    | refine sLdN hL (i := 3) rfl rfl ?_
    | refine sLdN hL (i := 4) rfl rfl ?_
    | refine sLdN hL (i := 5) rfl rfl ?_
    | refine sLdS (i := 0) rfl rfl ?_
    | refine sLdS (i := 1) rfl rfl ?_
    | refine sLdS (i := 2) rfl rfl ?_
    | refine sLdS (i := 3) rfl rfl ?_
    | refine sLdS (i := 4) rfl rfl ?_
    | refine sLdS (i := 5) rfl rfl ?_
    | refine rFA ?_)
  have f2' := f.more f2
  refine sJoin ?_
  refine rNe <| rIfF ?_
  obtain ⟨_, _, a2, c2, hv⟩ := hr.val
  rw [List.length_map, List.length_map] at hv
  have hlenv : ∀ {K : Value → Prop}, K (it gs.length) → vLen (.slice 1) v K := fun k => by rw [hv]; exact k
  refine hlenv <| rNe ?_
  have en : ((gs.length : Int) != gs.length) = false := by simp
  rw [en]
  intro ρ hρ
  simp only [List.map_cons, List.map_nil, List.cons.injEq, and_true] at hρ
  obtain ⟨e1, e5, e6, e7, e14, e73⟩ := hρ
  unfold F9J3
  simp only [e1, e5, e6, e7, e14, e73]
  refine rIfF ?_
  refine hlenv ?_
  have jt : ∀ k, (Lib.join ((gs.map txt).take k) [10]).length ≤ 1001 * gs.length := by
    intro k
    have := jl (gs.take k) (fun x hx => hg x (List.mem_of_mem_take hx))
    rw [List.map_take, List.length_take] at this
    have h5 : 1001 * min k gs.length ≤ 1001 * gs.length := Nat.mul_le_mul_left _ (Nat.min_le_right _ _)
    omega
  refine ⟨fun vs ds W' => ds = [] ∧ W' = w2 ∧ ∃ (i : Nat), i ≤ gs.length ∧ vs = [str tail, str (gs.map enc).flatten, str (Lib.join (gs.map txt) [10]), it gs.length, str (Lib.join ((gs.map txt).take i) [10]), v, it gs.length, it i], fun vs _ _ => mu8' gs.length vs, ⟨rfl, rfl, 0, by omega, by simp; rfl⟩, ?_⟩
  rintro ρ ds W' ⟨rfl, rfl, i, hi, hρ⟩
  rw [hρ]
  simp only [List.map_cons, List.map_nil, List.cons.injEq, and_true] at hρ
  obtain ⟨e1, e5, e6, e7, e16, e74, e75, e76⟩ := hρ
  unfold F9L2
  simp only [e1, e5, e6, e7, e16, e74, e75, e76]
  have j2 := jt i
  refine rLt <| sIfD (fun hlt => ?_) (fun hge => ?_)
  · obtain ⟨t, hti⟩ : ∃ t, (gs.map txt)[i]? = some t := ⟨_, List.getElem?_eq_getElem (by rw [List.length_map]; omega)⟩
    have et : (gs.map txt).take (i + 1) = (gs.map txt).take i ++ [t] := by rw [List.take_add_one, hti]; rfl
    have e2 := join_snoc [10] t ((gs.map txt).take i)
    rw [← et] at e2
    have htl : t.length < 1000 := by
      rw [List.getElem?_map] at hti
      obtain ⟨x, hx1, rfl⟩ := Option.map_eq_some_iff.1 hti
      exact txt_len (hg x (List.mem_of_getElem? hx1))
    have hlt2 : ((gs.map txt).take i).length = i := by rw [List.length_take, List.length_map]; omega
    have h3 : ([10] : List UInt8).length = 1 := rfl
    refine hr.rd (x := str t) (by rw [List.getElem?_map, hti]; rfl) ?_
    refine rGt <| sIfD (fun hpos => ?_) (fun hpos => ?_)
    · refine sAddS (b := [10]) (by omega) <| sAddS (by simp only [List.length_append, List.length_cons, List.length_nil]; omega) ?_
      refine rAdd (by omega) (by omega) ⟨⟨by trivial, by trivial, i + 1, by omega, ?_⟩, by simp [mu8']; omega⟩
      rw [e2, if_neg (by intro h; rw [h] at hlt2; simp at hlt2; omega)]
      simp
    · have hi0 : i = 0 := by omega
      subst hi0
      refine sAddS (by omega) ?_
      refine rAdd (by omega) (by omega) ⟨⟨by trivial, by trivial, 1, by omega, ?_⟩, by simp [mu8']; omega⟩
      rw [e2, if_pos (by simp)]
      simp [Lib.join_nil]
  have hi : i = gs.length := by omega
  subst hi
  have etake : (gs.map txt).take gs.length = gs.map txt := List.take_of_length_le (by rw [List.length_map]; exact Nat.le_refl _)
  rw [etake] at j2 ⊢
  refine build_spec (hT.fr f2') (by omega) (fun w5 f5 => ?_)
  rw [build_texts hg (by omega)]
  repeat (first
    | refine rFA0 ?_
    | refine rExt0 ?_
    | refine rExt1 ?_
    | refine sExt30 ?_
    | refine sExt31 ?_
    | refine sExt2 ?_
    | refine rIfT ?_
    | refine rIfF ?_
    | refine rNot ?_
    | refine rLenB ?_
    | refine sLd hL (i := 0) rfl rfl ?_
    | refine sLd hL (i := 1) rfl rfl ?_
    | refine sLd hL (i := 2) rfl rfl ?_
    | refine sLd hL (i := 3) rfl rfl ?_
    | refine sLd hL (i := 4) rfl rfl ?_
    | refine sLd hL (i := 5) rfl rfl ?_
    | refine sLdN hL (i := 0) rfl rfl ?_
    | refine sLdN hL (i := 1) rfl rfl ?_
    | refine sLdN hL (i := 2) rfl rfl ?_
    | refine sLdN hL (i := 3) rfl rfl ?_
    | refine sLdN hL (i := 4) rfl rfl ?_
    | refine sLdN hL (i := 5) rfl rfl ?_
    | refine sLdS (i := 0) rfl rfl ?_
    | refine sLdS (i := 1) rfl rfl ?_
    | refine sLdS (i := 2) rfl rfl ?_
    | refine sLdS (i := 3) rfl rfl ?_
    | refine sLdS (i := 4) rfl rfl ?_
    | refine sLdS (i := 5) rfl rfl ?_
    | refine rFA ?_)
  refine sJoin ?_
  refine rSNe ?_
  have ex : (!(Lib.join (gs.map txt) [10] == Lib.join (gs.map txt) [10])) = false := by simp
  rw [ex]
  refine rIfF <| rSNe ?_
  have ey : (!((gs.map enc).flatten == (gs.map enc).flatten)) = false := by simp
  rw [ey]
  refine rIfF <| rNe <| rIfF <| rNe ?_
  exact lists_tail hT hK (f2'.more f5) hg hn ht
end

end Go.Proofs.YtnmmpgeojimgoaaDoor
