/-
  Isa, part 10: texts read: opOf, read, Parse. Own work.
-/
import Derived.Test.YtnmmpgeojimgoaaDoorI9
set_option linter.unusedVariables false
set_option linter.unusedSimpArgs false
set_option maxRecDepth 100000
namespace Go.Proofs.YtnmmpgeojimgoaaDoor
open Go Go.V Go.RowKit

/-- what opOf answers -/
def IsOp (l : List UInt8) (o : Int) : Prop := (0 ≤ o ∧ o < 27 ∧ opName o = l) ∨ (o = -1 ∧ ∀ j, 0 ≤ j → j < 27 → opName j ≠ l)

theorem rField0 {a b c : Value} {K : Value → Prop} (k : K a) : vField (some (.one, 0)) (.agg #[a, b, c]) K := k

/-- isa.opOf -/
theorem opOf_spec {w : World} {l : List UInt8} {K : Value → World → Prop} (hT : Tabs w) (hK : ∀ o, IsOp l o → ∀ w', Fr (fun _ => False) w w' → K (it o) w') : CallK Tryd.prog 49 #[str l] w K := by
  apply Ret.call
  apply F49_ok
  unfold F49
  refine ⟨fun vs ds W => ds = [] ∧ Fr (fun _ => False) w W ∧ ∃ (i : Nat), vs = [str l, it i] ∧ i ≤ 27 ∧ ∀ j : Int, 0 ≤ j → j < i → opName j ≠ l,
    fun vs _ _ => match vs with | [_, .int _ i] => 27 - i.toNat | _ => 0, ⟨rfl, Fr.refl _ _, 0, rfl, by omega, fun j h1 h2 => by omega⟩, ?_⟩
  rintro ρ ds W ⟨rfl, f, i, hρ, hi, hall⟩
  rw [hρ]
  simp only [List.map_cons, List.map_nil, List.cons.injEq, and_true] at hρ
  obtain ⟨e0, e3⟩ := hρ
  unfold F49L1
  simp only [e0, e3]
  refine shape_spec (hT.fr f) (fun w1 f1 => ?_)
  have f := f.more f1
  refine rField0 <| rSNe (m := []) <| sIfNS (fun h => ?_) (fun h => ?_)
  · refine shape_spec (hT.fr f) (fun w2 f2 => ?_)
    have f := f.more f2
    have hi2 : i < 27 := by
      refine Nat.lt_of_not_le fun hc => h (opName_out (by omega))
    refine rField0 <| rSEq <| sIfS (fun e => ?_) (fun e => ?_)
    · exact hK i (.inl ⟨by omega, by omega, e⟩) w2 f
    · refine rAdd (by omega) (by omega) ?_
      refine ⟨⟨by trivial, f, i + 1, by simp, by omega, fun j h1 h2 => ?_⟩, by simp; omega⟩
      by_cases ej : j = i
      · rw [ej]; exact e
      · exact hall j h1 (by omega)
  · have hi2 : i = 27 := by
      by_cases hc : i < 27
      · exact absurd h (opName_ne (by omega) (by omega))
      · omega
    exact hK (-1) (.inr ⟨rfl, fun j h1 h2 => hall j h1 (by omega)⟩) w1 f

theorem b23_1 : (fun (a : Int) (K : Value → Prop) => vBuild Tryd.prog 23 [(0, it a)] K) = fun a K => ((1 : Nat) = 1 ∧ K (.agg #[it a, it 0, it 0, it 0, it 0])) := by kernel_rfl
theorem build23_1 {a : Int} {K : Value → Prop} (k : K (.agg #[it a, it 0, it 0, it 0, it 0])) : vBuild Tryd.prog 23 [(0, it a)] K := by
  have := congrFun (congrFun b23_1 a) K
  exact this ▸ ⟨rfl, k⟩

def cd0 : Cd := ⟨0, 0, 0, 0, 0⟩

/-- the answer that is none -/
theorem read_bad {w0 w : World} {L : List As} {i b : Nat} {cs : List Value} {K : Value → World → Prop} {u v : Value} (hL : Lx (fun _ => False) w0 w L) (hi : L[i]? = some (.blk b cs)) (hc : cs.length = 5)
    (hK : ∀ w', Fr (fun _ => False) w0 w' → K (.tuple #[cd0.v, u, v]) w') :
    vBuild Tryd.prog 23 [] fun x => vSt (some 5) (pt b 0) x w fun w' => leaveV [] w' fun W => vLd (.agg 5) (pt b 0) W fun r => K (.tuple #[r, u, v]) W := by
  refine build48e ?_
  refine sStN hL hi rfl (by simp; omega) (by intro x hx; simp at hx; rw [hx]; rfl) (fun w' hL' => ?_)
  have hlt := (List.getElem?_eq_some_iff.1 hi).1
  show vLd (.agg 5) (pt b 0) w' fun r => K (.tuple #[r, u, v]) w'
  refine sLdN hL' (i := i) (by rw [List.getElem?_set]; simp [hlt]; rfl) (by simp [spl, hc]) ?_
  have e : spl cs 0 (#[it 0, it 0, it 0, it 0, it 0] : Array Value).toList = [it 0, it 0, it 0, it 0, it 0] := by
    simp [spl, hc]
  rw [e]
  exact hK w' hL'.fr

theorem trimPrefix_r {l : List UInt8} : Lib.hasPrefix l [114] = true → l = 114 :: Lib.trimPrefix l [114] := by
  intro h
  unfold Lib.trimPrefix
  rw [if_pos h]
  cases l with
  | nil => simp [Lib.hasPrefix, List.isPrefixOf] at h
  | cons b r => simp [Lib.hasPrefix, List.isPrefixOf] at h; rw [← h]; simp
theorem trimPrefix_reg (r : List UInt8) : Lib.hasPrefix (114 :: r) [114] = true ∧ Lib.trimPrefix (114 :: r) [114] = r := by
  have h : Lib.hasPrefix (114 :: r) [114] = true := by simp [Lib.hasPrefix, List.isPrefixOf]
  refine ⟨h, ?_⟩
  unfold Lib.trimPrefix
  rw [if_pos h]; rfl

/-- the instruction of an operation and some registers -/
def mkC (op : Int) (rs : List Int) : Cd := ⟨op, rs.getD 0 0, rs.getD 1 0, rs.getD 2 0, 0⟩

theorem mkC_regs {op : Int} {rs : List Int} {R : Nat} (hR : shRegs op = R) (hR3 : R ≤ 3) (hl : rs.length = R) : regsOf (mkC op rs) = rs ∧ restZ (mkC op rs) := by
  unfold regsOf restZ mkC
  simp only
  rw [hR, Int.toNat_natCast]
  match rs, hl with
  | [], rfl => simp
  | [a], rfl => simp
  | [a, b], rfl => simp
  | [a, b, c], rfl => simp
  | a :: b :: c :: d :: r, rfl => simp at hR3

/-- isa.read -/
theorem read_spec {w : World} {l : List UInt8} {K : Value → World → Prop} (hT : Tabs w) (hl : l.length < 1000000)
    (hok : ∀ x num, Reads l x num → ∀ w', Fr (fun _ => False) w w' → K (.tuple #[x.v, str num, .bool true]) w')
    (hbad : (∀ x num, ¬ Reads l x num) → ∀ w', Fr (fun _ => False) w w' → K (.tuple #[cd0.v, str [], .bool false]) w') : CallK Tryd.prog 34 #[str l] w K := by
  apply Ret.call
  apply F34_ok
  unfold F34
  have hL := Lx.start (fun _ => False) w
  refine sAlloc zc23 hL (fun w1 b1 hL => ?_)
  refine split_spec (hT.fr hL.fr) (by omega) (fun w2 v2 hr f2 => ?_)
  have hL := hL.newRow hr (Nat.le_refl _) f2
  obtain ⟨p0, ps, hp⟩ : ∃ p0 ps, parts 32 l = p0 :: ps := by
    cases h : parts 32 l with
    | nil => exact absurd h (parts_ne _ _)
    | cons a b => exact ⟨a, b, rfl⟩
  have hplen : ∀ p ∈ parts 32 l, p.length ≤ l.length := by
    intro p hpm
    have hj := congrArg List.length (join_parts 32 l)
    have key : ∀ (ws : List (List UInt8)), p ∈ ws → p.length ≤ (Lib.join ws [32]).length := by
      intro ws hm
      cases ws with
      | nil => simp at hm
      | cons a r =>
        rw [Lib.join_cons, List.length_append, joinTail_len]
        rcases List.mem_cons.1 hm with rfl | hm
        · omega
        · have : p.length ≤ r.flatten.length := by
            have := List.Sublist.length_le (List.sublist_flatten_of_mem hm)
            exact this
          omega
    have := key _ hpm
    omega
  have hnum : (parts 32 l).length ≤ l.length + 1 := by
    have : ∀ (m : List UInt8), (parts 32 m).length ≤ m.length + 1 := by
      intro m
      induction m with
      | nil => simp [parts]
      | cons b r ih =>
        unfold parts
        split
        · simp; omega
        · split
          · rename_i h; rw [h] at ih; simp at ih ⊢; omega
          · simp
    exact this l
  refine sIdx hL (i := 0) (j := 0) rfl (x := str p0) (by rw [hp]; rfl) ?_
  refine opOf_spec (hT.fr hL.fr) (fun o ho w3 f3 => ?_)
  have hL := hL.more f3
  refine build23_1 ?_
  refine sAlloc zc23 hL (fun w4 b4 hL => ?_)
  refine sStN hL (i := 0) rfl rfl (by simp) (by intro x hx; simp at hx; rcases hx with rfl | rfl <;> rfl) (fun w5 hL => ?_)
  have hL : Lx (fun _ => False) w w5 [.blk b4 [it o, it 0, it 0, it 0, it 0], .row v2 ((parts 32 l).map str) (some w1.heap.size), .blk b1 [it 0, it 0, it 0, it 0, it 0]] := hL
  repeat (first
    | refine rFA0 ?_
    | refine rExt0 ?_
    | refine rExt1 ?_
    | refine sExt30 ?_
    | refine sExt31 ?_
    | refine sExt2 ?_
    | refine rIfT ?_
    | refine rIfF ?_
    | refine rNot ?_
    | refine rLenB ?_
    | refine sLd hL (i := 0) rfl rfl ?_
    | refine sLd hL (i := 1) rfl rfl ?_
    | refine sLd hL (i := 2) rfl rfl ?_
    | refine sLd hL (i := 3) rfl rfl ?_
    | refine sLd hL (i := 4) rfl rfl ?_
    | refine sLd hL (i := 5) rfl rfl ?_
    | refine sLdN hL (i := 0) rfl rfl ?_
    | refine sLdN hL (i := 1) rfl rfl ?_
    | refine sLdN hL (i := 2) rfl rfl ?_
    | refine sLdN hL (i := 3) rfl rfl ?_
    | refine sLdN hL (i := 4) rfl rfl ?_
    | refine sLdN hL (i := 5) rfl rfl ?_
    | refine sLdS (i := 0) rfl rfl ?_
    | refine sLdS (i := 1) rfl rfl ?_
    | refine sLdS (i := 2) rfl rfl ?_
    | refine sLdS (i := 3) rfl rfl ?_
    | refine sLdS (i := 4) rfl rfl ?_
    | refine sLdS (i := 5) rfl rfl ?_
    | refine rFA ?_)
  refine shape_spec (hT.fr hL.fr) (fun w6 f6 => ?_)
  have hL := hL.more f6
  refine sAlloc zc52 hL (fun w7 b7 hL => ?_)
  refine sStN hL (i := 0) rfl rfl (by simp) (by intro x hx; simp at hx; rcases hx with rfl | rfl | rfl <;> rfl) (fun w8 hL => ?_)
  have hL : Lx (fun _ => False) w w8 [.blk b7 [str (opName o), it (shRegs o), it (shNum o)], .blk b4 [it o, it 0, it 0, it 0, it 0], .row v2 ((parts 32 l).map str) (some w1.heap.size), .blk b1 [it 0, it 0, it 0, it 0, it 0]] := hL
  repeat (first
    | refine rFA0 ?_
    | refine rExt0 ?_
    | refine rExt1 ?_
    | refine sExt30 ?_
    | refine sExt31 ?_
    | refine sExt2 ?_
    | refine rIfT ?_
    | refine rIfF ?_
    | refine rNot ?_
    | refine rLenB ?_
    | refine sLd hL (i := 0) rfl rfl ?_
    | refine sLd hL (i := 1) rfl rfl ?_
    | refine sLd hL (i := 2) rfl rfl ?_
    | refine sLd hL (i := 3) rfl rfl ?_
    | refine sLd hL (i := 4) rfl rfl ?_
    | refine sLd hL (i := 5) rfl rfl ?_
    | refine sLdN hL (i := 0) rfl rfl ?_
    | refine sLdN hL (i := 1) rfl rfl ?_
    | refine sLdN hL (i := 2) rfl rfl ?_
    | refine sLdN hL (i := 3) rfl rfl ?_
    | refine sLdN hL (i := 4) rfl rfl ?_
    | refine sLdN hL (i := 5) rfl rfl ?_
    | refine sLdS (i := 0) rfl rfl ?_
    | refine sLdS (i := 1) rfl rfl ?_
    | refine sLdS (i := 2) rfl rfl ?_
    | refine sLdS (i := 3) rfl rfl ?_
    | refine sLdS (i := 4) rfl rfl ?_
    | refine sLdS (i := 5) rfl rfl ?_
    | refine rFA ?_)
  obtain ⟨R, hR, hR3⟩ : ∃ R : Nat, shRegs o = R ∧ R ≤ 3 := by
    rcases shRegs_cases o with e | e | e | e
    · exact ⟨0, e, by omega⟩
    · exact ⟨1, e, by omega⟩
    · exact ⟨2, e, by omega⟩
    · exact ⟨3, e, by omega⟩
  rw [hR] at hL ⊢
  refine rAdd (by omega) (by omega) ?_
  repeat (first
    | refine rFA0 ?_
    | refine rExt0 ?_
    | refine rExt1 ?_
    | refine sExt30 ?_
    | refine sExt31 ?_
    | refine sExt2 ?_
    | refine rIfT ?_
    | refine rIfF ?_
    | refine rNot ?_
    | refine rLenB ?_
    | refine sLd hL (i := 0) rfl rfl ?_
    | refine sLd hL (i := 1) rfl rfl ?_
    | refine sLd hL (i := 2) rfl rfl ?_
    | refine sLd hL (i := 3) rfl rfl ?_
    | refine sLd hL (i := 4) rfl rfl ?_
    | refine sLd hL (i := 5) rfl rfl ?_
    | refine sLdN hL (i := 0) rfl rfl ?_
    | refine sLdN hL (i := 1) rfl rfl ?_
    | refine sLdN hL (i := 2) rfl rfl ?_
    | refine sLdN hL (i := 3) rfl rfl ?_
    | refine sLdN hL (i := 4) rfl rfl ?_
    | refine sLdN hL (i := 5) rfl rfl ?_
    | refine sLdS (i := 0) rfl rfl ?_
    | refine sLdS (i := 1) rfl rfl ?_
    | refine sLdS (i := 2) rfl rfl ?_
    | refine sLdS (i := 3) rfl rfl ?_
    | refine sLdS (i := 4) rfl rfl ?_
    | refine sLdS (i := 5) rfl rfl ?_
    | refine rFA ?_)
  -- the part behind the two ways
  have main : ∀ (W : Nat), W = 1 + R + (if shNum o = 0 then 0 else 1) → ∀ (q : Bool), (q = true ↔ (opName o = [] ∨ (parts 32 l).length ≠ W)) → ∀ ρ : Env, [2, 5, 6, 7, 8, 41].map ρ = [pt b1 0, v2, pt b4 0, pt b7 0, it W, .bool q] → F34J2 K ρ [] w8 := by
    intro W hW q hq ρ hρ
    simp only [List.map_cons, List.map_nil, List.cons.injEq, and_true] at hρ
    obtain ⟨e2, e5, e6, e7, e8, e41⟩ := hρ
    unfold F34J2
    simp only [e2, e5, e6, e7, e8, e41]
    have hopb : ∀ x num, Reads l x num → x.op = o ∧ 0 ≤ o ∧ o < 27 := by
      intro x num hx
      have hw := hx.words
      rw [hp] at hw
      have e0 : p0 = opName x.op := by injection hw
      rcases ho with ⟨h1, h2, h3⟩ | ⟨h1, h2⟩
      · exact ⟨opName_inj hx.op ⟨h1, h2⟩ (by rw [h3, e0]), h1, h2⟩
      · exact absurd e0.symm (h2 x.op hx.op.1 hx.op.2)
    refine rIf (fun h => ?_) (fun h => ?_)
    · refine read_bad hL (i := 3) rfl rfl (fun w' f => hbad ?_ w' f)
      intro x num hx
      obtain ⟨e, h1, h2⟩ := hopb x num hx
      rcases hq.1 h with h3 | h3
      · exact opName_ne h1 h2 h3
      · have hw := congrArg List.length hx.words
        rw [List.length_append, List.length_cons, List.length_map, e] at hw
        have : (regsOf x).length = R := by unfold regsOf; rw [e, hR]; simp; omega
        rw [this] at hw
        by_cases h0 : shNum o = 0
        · rw [if_pos h0] at hw hW; simp at hw; omega
        · rw [if_neg h0] at hw hW; simp at hw; omega
    have hne : opName o ≠ [] ∧ (parts 32 l).length = W := by
      have : ¬ (opName o = [] ∨ (parts 32 l).length ≠ W) := fun hc => by rw [hq.2 hc] at h; cases h
      refine ⟨fun e => this (.inl e), ?_⟩
      by_cases hc : (parts 32 l).length = W
      · exact hc
      · exact absurd (.inr hc) this
    have hop : 0 ≤ o ∧ o < 27 ∧ opName o = p0 := by
      rcases ho with h | ⟨rfl, _⟩
      · exact h
      · exact absurd (opName_out (.inl (by decide))) hne.1
    refine sAlloc zc58 hL (fun w9 b9 hL => ?_)
    repeat (first
      | refine rFA0 ?_
      | refine rExt0 ?_
      | refine rExt1 ?_
      | refine sExt30 ?_
      | refine sExt31 ?_
      | refine sExt2 ?_
      | refine rIfT ?_
      | refine rIfF ?_
      | refine rNot ?_
      | refine rLenB ?_
      | refine sLd hL (i := 0) rfl rfl ?_
      | refine sLd hL (i := 1) rfl rfl ?_
      | refine sLd hL (i := 2) rfl rfl ?_
      | refine sLd hL (i := 3) rfl rfl ?_
      | refine sLd hL (i := 4) rfl rfl ?_
      | refine sLd hL (i := 5) rfl rfl ?_
      | refine sLdN hL (i := 0) rfl rfl ?_
      | refine sLdN hL (i := 1) rfl rfl ?_
      | refine sLdN hL (i := 2) rfl rfl ?_
      | refine sLdN hL (i := 3) rfl rfl ?_
      | refine sLdN hL (i := 4) rfl rfl ?_
      | refine sLdN hL (i := 5) rfl rfl ?_
      | refine sLdS (i := 0) rfl rfl ?_
      | refine sLdS (i := 1) rfl rfl ?_
      | refine sLdS (i := 2) rfl rfl ?_
      | refine sLdS (i := 3) rfl rfl ?_
      | refine sLdS (i := 4) rfl rfl ?_
      | refine sLdS (i := 5) rfl rfl ?_
      | refine rFA ?_)
    refine ⟨fun vs ds W' => ds = [] ∧ ∃ rs : List Int, rs.length ≤ R ∧ vs = [pt b1 0, v2, pt b4 0, pt b7 0, it W, pt b9 0, it R, it rs.length] ∧ (∀ r ∈ rs, 0 ≤ r ∧ r < 16) ∧ ps.take rs.length = rs.map regT ∧
        Lx (fun _ => False) w W' [.blk b9 (rs.map it ++ List.replicate (3 - rs.length) (it 0)), .blk b7 [str (opName o), it R, it (shNum o)], .blk b4 [it o, it 0, it 0, it 0, it 0], .row v2 ((parts 32 l).map str) (some w1.heap.size), .blk b1 [it 0, it 0, it 0, it 0, it 0]],
      fun vs _ _ => match vs with | [_, _, _, _, _, _, _, .int _ i] => R - i.toNat | _ => 0, ⟨rfl, [], by simp, by simp, by simp, by simp, hL⟩, ?_⟩
    rintro ρ ds W' ⟨rfl, rs, hrs, hρ, hrr, hps, hL⟩
    rw [hρ]
    simp only [List.map_cons, List.map_nil, List.cons.injEq, and_true] at hρ
    obtain ⟨e2, e5, e6, e7, e8, e9, e44, e45⟩ := hρ
    unfold F34L1
    simp only [e2, e5, e6, e7, e8, e9, e44, e45]
    refine rLt <| sIfD (fun hlt => ?_) (fun hge => ?_)
    · have hlt : rs.length < R := by omega
      refine rAdd (by omega) (by omega) ?_
      obtain ⟨p, hpj⟩ : ∃ p, ps[rs.length]? = some p := by
        refine ⟨_, List.getElem?_eq_getElem ?_⟩
        have := hne.2
        rw [hp, List.length_cons] at this
        split at hW <;> omega
      have ej : (1 : Int) + (rs.length : Int) = ((1 + rs.length : Nat) : Int) := by omega
      rw [ej]
      have hpj1 : (parts 32 l)[1 + rs.length]? = some p := by rw [hp, Nat.add_comm, List.getElem?_cons_succ]; exact hpj
      have hpl := hplen p (List.mem_of_getElem? hpj1)
      refine sIdx hL (i := 3) rfl (x := str p) (by rw [List.getElem?_map, hpj1]; rfl) ?_
      refine cutPrefix_spec ?_
      repeat (first
        | refine rFA0 ?_
        | refine rExt0 ?_
        | refine rExt1 ?_
        | refine sExt30 ?_
        | refine sExt31 ?_
        | refine sExt2 ?_
        | refine rIfT ?_
        | refine rIfF ?_
        | refine rNot ?_
        | refine rLenB ?_
        | refine sLd hL (i := 0) rfl rfl ?_
        | refine sLd hL (i := 1) rfl rfl ?_
        | refine sLd hL (i := 2) rfl rfl ?_
        | refine sLd hL (i := 3) rfl rfl ?_
        | refine sLd hL (i := 4) rfl rfl ?_
        | refine sLd hL (i := 5) rfl rfl ?_
        | refine sLdN hL (i := 0) rfl rfl ?_
        | refine sLdN hL (i := 1) rfl rfl ?_
        | refine sLdN hL (i := 2) rfl rfl ?_
        | refine sLdN hL (i := 3) rfl rfl ?_
        | refine sLdN hL (i := 4) rfl rfl ?_
        | refine sLdN hL (i := 5) rfl rfl ?_
        | refine sLdS (i := 0) rfl rfl ?_
        | refine sLdS (i := 1) rfl rfl ?_
        | refine sLdS (i := 2) rfl rfl ?_
        | refine sLdS (i := 3) rfl rfl ?_
        | refine sLdS (i := 4) rfl rfl ?_
        | refine sLdS (i := 5) rfl rfl ?_
        | refine rFA ?_)
      have bad : (∀ r : Int, 0 ≤ r → r < 16 → p ≠ regT r) → ∀ x num, ¬ Reads l x num := by
        intro hb x num hx
        obtain ⟨e, _, _⟩ := hopb x num hx
        have hw := hx.words
        rw [hp, List.cons_append] at hw
        have hw := (List.cons.inj hw).2
        have hlr : (regsOf x).length = R := by unfold regsOf; rw [e, hR]; simp; omega
        have hg := congrArg (·[rs.length]?) hw
        rw [hpj, List.getElem?_append_left (by rw [List.length_map, hlr]; exact hlt), List.getElem?_map] at hg
        obtain ⟨r, hr1, hr2⟩ := Option.map_eq_some_iff.1 hg.symm
        have := hx.regs r (List.mem_of_getElem? hr1)
        exact hb r this.1 this.2 hr2.symm
      have goneBad : ∀ {W2 : World}, Lx (fun _ => False) w W2 [.blk b9 (rs.map it ++ List.replicate (3 - rs.length) (it 0)), .blk b7 [str (opName o), it R, it (shNum o)], .blk b4 [it o, it 0, it 0, it 0, it 0], .row v2 ((parts 32 l).map str) (some w1.heap.size), .blk b1 [it 0, it 0, it 0, it 0, it 0]] → (∀ r : Int, 0 ≤ r → r < 16 → p ≠ regT r) →
          vBuild Tryd.prog 23 [] fun x => vSt (some 5) (pt b1 0) x W2 fun w' => leaveV [] w' fun W => vLd (.agg 5) (pt b1 0) W fun r => K (.tuple #[r, str [], .bool false]) W := by
        intro W2 hL hb
        exact read_bad hL (i := 4) rfl rfl (fun w' f => hbad (bad hb) w' f)
      refine atoi_spec (hT.fr hL.fr) (by
        unfold Lib.trimPrefix
        split
        · rw [List.length_drop]; omega
        · omega) (fun n hn w10 f10 => ?_) (fun hn w10 n T e _ _ f10 => ?_)
      · have hL := hL.more f10
        repeat (first
          | refine rFA0 ?_
          | refine rExt0 ?_
          | refine rExt1 ?_
          | refine sExt30 ?_
          | refine sExt31 ?_
          | refine sExt2 ?_
          | refine rIfT ?_
          | refine rIfF ?_
          | refine rNot ?_
          | refine rLenB ?_
          | refine sLd hL (i := 0) rfl rfl ?_
          | refine sLd hL (i := 1) rfl rfl ?_
          | refine sLd hL (i := 2) rfl rfl ?_
          | refine sLd hL (i := 3) rfl rfl ?_
          | refine sLd hL (i := 4) rfl rfl ?_
          | refine sLd hL (i := 5) rfl rfl ?_
          | refine sLdN hL (i := 0) rfl rfl ?_
          | refine sLdN hL (i := 1) rfl rfl ?_
          | refine sLdN hL (i := 2) rfl rfl ?_
          | refine sLdN hL (i := 3) rfl rfl ?_
          | refine sLdN hL (i := 4) rfl rfl ?_
          | refine sLdN hL (i := 5) rfl rfl ?_
          | refine sLdS (i := 0) rfl rfl ?_
          | refine sLdS (i := 1) rfl rfl ?_
          | refine sLdS (i := 2) rfl rfl ?_
          | refine sLdS (i := 3) rfl rfl ?_
          | refine sLdS (i := 4) rfl rfl ?_
          | refine sLdS (i := 5) rfl rfl ?_
          | refine rFA ?_)
        refine sIfN (fun h1 => ?_) (fun h1 => ?_)
        · refine goneBad hL fun r h2 h3 e => ?_
          rw [e] at h1
          exact absurd (trimPrefix_reg (Lib.itoa r)).1 (by unfold regT at h1; rw [h1]; decide)
        have hpr := trimPrefix_r h1
        refine sNilNe <| rIfF ?_
        have isr : ∀ r : Int, 0 ≤ r → r < 16 → p = regT r → n = r ∧ Lib.trimPrefix p [114] = Lib.itoa r := by
          intro r h2 h3 e
          have ht : Lib.trimPrefix p [114] = Lib.itoa r := by rw [e]; exact (trimPrefix_reg _).2
          rw [ht, atoi_itoa (by omega) (by omega)] at hn
          exact ⟨by injection hn with hn; exact hn.symm, ht⟩
        refine rLt <| sIfD (fun h2 => ?_) (fun h2 => ?_)
        · exact goneBad hL fun r h3 h4 e => by have := (isr r h3 h4 e).1; omega
        refine rGe <| sIfD (fun h3 => ?_) (fun h3 => ?_)
        · exact goneBad hL fun r h4 h5 e => by have := (isr r h4 h5 e).1; omega
        refine itoa_spec (hT.fr hL.fr) (by omega) (by omega) (fun w11 f11 => ?_)
        have hL := hL.more f11
        refine rSNe <| sIfNS (fun h4 => ?_) (fun h4 => ?_)
        · exact goneBad hL fun r h5 h6 e => by
            obtain ⟨e1, e2⟩ := isr r h5 h6 e
            rw [e1, e2] at h4
            exact h4 rfl
        refine rIAa (i := rs.length) (by omega) ?_
        rw [Nat.zero_add, Nat.mul_one]
        refine sSt hL (i := 0) rfl (by simp; omega) rfl (by intro c h; cases h) (fun w12 hL => ?_)
        refine rAdd (by omega) (by omega) ?_
        refine ⟨⟨by trivial, rs ++ [n], by simp; omega, by simp, ?_, ?_, ?_⟩, by simp; omega⟩
        · intro r hr
          rcases List.mem_append.1 hr with hr | hr
          · exact hrr r hr
          · rw [List.mem_singleton.1 hr]; omega
        · rw [List.length_append, List.length_singleton, List.take_add_one, hpj, hps, List.map_append]
          have : p = regT n := by rw [hpr, ← h4]; rfl
          rw [this]; rfl
        · have e9 : (rs.map it ++ List.replicate (3 - rs.length) (it 0)).set rs.length (it n) = (rs ++ [n]).map it ++ List.replicate (3 - (rs ++ [n]).length) (it 0) := by
            have e3 : 3 - rs.length = (3 - (rs.length + 1)) + 1 := by omega
            rw [e3, List.replicate_succ, List.set_append_right _ _ (by simp)]
            simp
          rw [← e9]
          exact hL
      · have hL := hL.more f10
        repeat (first
          | refine rFA0 ?_
          | refine rExt0 ?_
          | refine rExt1 ?_
          | refine sExt30 ?_
          | refine sExt31 ?_
          | refine sExt2 ?_
          | refine rIfT ?_
          | refine rIfF ?_
          | refine rNot ?_
          | refine rLenB ?_
          | refine sLd hL (i := 0) rfl rfl ?_
          | refine sLd hL (i := 1) rfl rfl ?_
          | refine sLd hL (i := 2) rfl rfl ?_
          | refine sLd hL (i := 3) rfl rfl ?_
          | refine sLd hL (i := 4) rfl rfl ?_
          | refine sLd hL (i := 5) rfl rfl ?_
          | refine sLdN hL (i := 0) rfl rfl ?_
          | refine sLdN hL (i := 1) rfl rfl ?_
          | refine sLdN hL (i := 2) rfl rfl ?_
          | refine sLdN hL (i := 3) rfl rfl ?_
          | refine sLdN hL (i := 4) rfl rfl ?_
          | refine sLdN hL (i := 5) rfl rfl ?_
          | refine sLdS (i := 0) rfl rfl ?_
          | refine sLdS (i := 1) rfl rfl ?_
          | refine sLdS (i := 2) rfl rfl ?_
          | refine sLdS (i := 3) rfl rfl ?_
          | refine sLdS (i := 4) rfl rfl ?_
          | refine sLdS (i := 5) rfl rfl ?_
          | refine rFA ?_)
        refine sIfN (fun h1 => ?_) (fun h1 => ?_)
        · refine goneBad hL fun r h2 h3 e => ?_
          rw [e] at h1
          exact absurd (trimPrefix_reg (Lib.itoa r)).1 (by unfold regT at h1; rw [h1]; decide)
        refine sIfcNe <| rIfT ?_
        refine goneBad hL fun r h2 h3 e => ?_
        have ht : Lib.trimPrefix p [114] = Lib.itoa r := by rw [e]; exact (trimPrefix_reg _).2
        exact hn r (by rw [ht]; exact atoi_itoa (by omega) (by omega))
    · have hlen : rs.length = R := by omega
      have hmk := mkC_regs (op := o) hR hR3 hlen
      have hpl : ps.length = R + (if shNum o = 0 then 0 else 1) := by
        have := hne.2
        rw [hp, List.length_cons] at this
        split at hW <;> simp [*] <;> omega
      have hcells : rs.map it ++ List.replicate (3 - rs.length) (it 0) = [it (rs.getD 0 0), it (rs.getD 1 0), it (rs.getD 2 0)] := by
        match rs, hlen with
        | [], _ => rfl
        | [a], _ => rfl
        | [a, b], _ => rfl
        | [a, b, c], _ => rfl
        | a :: b :: c :: d :: r, h => simp at h; omega
      rw [hcells] at hL
      refine ⟨fun W => Cs W b9 [it (rs.getD 0 0), it (rs.getD 1 0), it (rs.getD 2 0)], fun W => Cs W b9 [it (rs.getD 0 0), it (rs.getD 1 0), it (rs.getD 2 0)], hL.drew.get (i := 0) rfl, ?_⟩
      refine rIAa (i := 0) (by decide) ?_
      refine rLdS (it (rs.getD 0 0)) (fun W hW => ⟨_, hW, rfl⟩) ?_
      refine rIAa (i := 1) (by decide) ?_
      refine rLdS (it (rs.getD 1 0)) (fun W hW => ⟨_, hW.elim id id, rfl⟩) ?_
      refine rIAa (i := 2) (by decide) ?_
      refine rLdS (it (rs.getD 2 0)) (fun W hW => ⟨_, hW.elim id id, rfl⟩) ?_
      have hL := hL.drew
      repeat (first
        | refine rFA0 ?_
        | refine rExt0 ?_
        | refine rExt1 ?_
        | refine sExt30 ?_
        | refine sExt31 ?_
        | refine sExt2 ?_
        | refine rIfT ?_
        | refine rIfF ?_
        | refine rNot ?_
        | refine rLenB ?_
        | refine sLd hL (i := 0) rfl rfl ?_
        | refine sLd hL (i := 1) rfl rfl ?_
        | refine sLd hL (i := 2) rfl rfl ?_
        | refine sLd hL (i := 3) rfl rfl ?_
        | refine sLd hL (i := 4) rfl rfl ?_
        | refine sLd hL (i := 5) rfl rfl ?_
        | refine sLdN hL (i := 0) rfl rfl ?_
        | refine sLdN hL (i := 1) rfl rfl ?_
        | refine sLdN hL (i := 2) rfl rfl ?_
        | refine sLdN hL (i := 3) rfl rfl ?_
        | refine sLdN hL (i := 4) rfl rfl ?_
        | refine sLdN hL (i := 5) rfl rfl ?_
        | refine sLdS (i := 0) rfl rfl ?_
        | refine sLdS (i := 1) rfl rfl ?_
        | refine sLdS (i := 2) rfl rfl ?_
        | refine sLdS (i := 3) rfl rfl ?_
        | refine sLdS (i := 4) rfl rfl ?_
        | refine sLdS (i := 5) rfl rfl ?_
        | refine rFA ?_)
      refine ⟨?_, trivial⟩
      refine sSt hL (i := 2) rfl (by simp) rfl (by intro c h; cases h) (fun w10 hL => ?_)
      refine ⟨hL.get (i := 0) rfl, ?_⟩
      repeat (first
        | refine rFA0 ?_
        | refine rExt0 ?_
        | refine rExt1 ?_
        | refine sExt30 ?_
        | refine sExt31 ?_
        | refine sExt2 ?_
        | refine rIfT ?_
        | refine rIfF ?_
        | refine rNot ?_
        | refine rLenB ?_
        | refine sLd hL (i := 0) rfl rfl ?_
        | refine sLd hL (i := 1) rfl rfl ?_
        | refine sLd hL (i := 2) rfl rfl ?_
        | refine sLd hL (i := 3) rfl rfl ?_
        | refine sLd hL (i := 4) rfl rfl ?_
        | refine sLd hL (i := 5) rfl rfl ?_
        | refine sLdN hL (i := 0) rfl rfl ?_
        | refine sLdN hL (i := 1) rfl rfl ?_
        | refine sLdN hL (i := 2) rfl rfl ?_
        | refine sLdN hL (i := 3) rfl rfl ?_
        | refine sLdN hL (i := 4) rfl rfl ?_
        | refine sLdN hL (i := 5) rfl rfl ?_
        | refine sLdS (i := 0) rfl rfl ?_
        | refine sLdS (i := 1) rfl rfl ?_
        | refine sLdS (i := 2) rfl rfl ?_
        | refine sLdS (i := 3) rfl rfl ?_
        | refine sLdS (i := 4) rfl rfl ?_
        | refine sLdS (i := 5) rfl rfl ?_
        | refine rFA ?_)
      refine ⟨?_, trivial⟩
      refine sSt hL (i := 2) rfl (by simp) rfl (by intro c h; cases h) (fun w11 hL => ?_)
      refine ⟨hL.get (i := 0) rfl, ?_⟩
      repeat (first
        | refine rFA0 ?_
        | refine rExt0 ?_
        | refine rExt1 ?_
        | refine sExt30 ?_
        | refine sExt31 ?_
        | refine sExt2 ?_
        | refine rIfT ?_
        | refine rIfF ?_
        | refine rNot ?_
        | refine rLenB ?_
        | refine sLd hL (i := 0) rfl rfl ?_
        | refine sLd hL (i := 1) rfl rfl ?_
        | refine sLd hL (i := 2) rfl rfl ?_
        | refine sLd hL (i := 3) rfl rfl ?_
        | refine sLd hL (i := 4) rfl rfl ?_
        | refine sLd hL (i := 5) rfl rfl ?_
        | refine sLdN hL (i := 0) rfl rfl ?_
        | refine sLdN hL (i := 1) rfl rfl ?_
        | refine sLdN hL (i := 2) rfl rfl ?_
        | refine sLdN hL (i := 3) rfl rfl ?_
        | refine sLdN hL (i := 4) rfl rfl ?_
        | refine sLdN hL (i := 5) rfl rfl ?_
        | refine sLdS (i := 0) rfl rfl ?_
        | refine sLdS (i := 1) rfl rfl ?_
        | refine sLdS (i := 2) rfl rfl ?_
        | refine sLdS (i := 3) rfl rfl ?_
        | refine sLdS (i := 4) rfl rfl ?_
        | refine sLdS (i := 5) rfl rfl ?_
        | refine rFA ?_)
      refine ⟨?_, trivial⟩
      refine sSt hL (i := 2) rfl (by simp) rfl (by intro c h; cases h) (fun w12 hL => ?_)
      have hL : Lx (fun _ => False) w w12 [.blk b9 [it (rs.getD 0 0), it (rs.getD 1 0), it (rs.getD 2 0)], .blk b7 [str (opName o), it R, it (shNum o)], .blk b4 (mkC o rs).cs, .row v2 ((parts 32 l).map str) (some w1.heap.size), .blk b1 [it 0, it 0, it 0, it 0, it 0]] := hL
      repeat (first
        | refine rFA0 ?_
        | refine rExt0 ?_
        | refine rExt1 ?_
        | refine sExt30 ?_
        | refine sExt31 ?_
        | refine sExt2 ?_
        | refine rIfT ?_
        | refine rIfF ?_
        | refine rNot ?_
        | refine rLenB ?_
        | refine sLd hL (i := 0) rfl rfl ?_
        | refine sLd hL (i := 1) rfl rfl ?_
        | refine sLd hL (i := 2) rfl rfl ?_
        | refine sLd hL (i := 3) rfl rfl ?_
        | refine sLd hL (i := 4) rfl rfl ?_
        | refine sLd hL (i := 5) rfl rfl ?_
        | refine sLdN hL (i := 0) rfl rfl ?_
        | refine sLdN hL (i := 1) rfl rfl ?_
        | refine sLdN hL (i := 2) rfl rfl ?_
        | refine sLdN hL (i := 3) rfl rfl ?_
        | refine sLdN hL (i := 4) rfl rfl ?_
        | refine sLdN hL (i := 5) rfl rfl ?_
        | refine sLdS (i := 0) rfl rfl ?_
        | refine sLdS (i := 1) rfl rfl ?_
        | refine sLdS (i := 2) rfl rfl ?_
        | refine sLdS (i := 3) rfl rfl ?_
        | refine sLdS (i := 4) rfl rfl ?_
        | refine sLdS (i := 5) rfl rfl ?_
        | refine rFA ?_)
      have hwords : ∀ num, (if shNum o = 0 then [] else [num]) = ps.drop R → parts 32 l = opName (mkC o rs).op :: (regsOf (mkC o rs)).map regT ++ (if shNum (mkC o rs).op = 0 then [] else [num]) := by
        intro num hnum
        have eo : (mkC o rs).op = o := rfl
        rw [hmk.1, eo, hop.2.2, hp, hnum, List.cons_append]
        congr 1
        rw [hlen] at hps
        rw [← hps, List.take_append_drop]
      refine rEq <| sIfE (fun h0 => ?_) (fun h0 => ?_)
      · repeat (first
          | refine rFA0 ?_
          | refine rExt0 ?_
          | refine rExt1 ?_
          | refine sExt30 ?_
          | refine sExt31 ?_
          | refine sExt2 ?_
          | refine rIfT ?_
          | refine rIfF ?_
          | refine rNot ?_
          | refine rLenB ?_
          | refine sLd hL (i := 0) rfl rfl ?_
          | refine sLd hL (i := 1) rfl rfl ?_
          | refine sLd hL (i := 2) rfl rfl ?_
          | refine sLd hL (i := 3) rfl rfl ?_
          | refine sLd hL (i := 4) rfl rfl ?_
          | refine sLd hL (i := 5) rfl rfl ?_
          | refine sLdN hL (i := 0) rfl rfl ?_
          | refine sLdN hL (i := 1) rfl rfl ?_
          | refine sLdN hL (i := 2) rfl rfl ?_
          | refine sLdN hL (i := 3) rfl rfl ?_
          | refine sLdN hL (i := 4) rfl rfl ?_
          | refine sLdN hL (i := 5) rfl rfl ?_
          | refine sLdS (i := 0) rfl rfl ?_
          | refine sLdS (i := 1) rfl rfl ?_
          | refine sLdS (i := 2) rfl rfl ?_
          | refine sLdS (i := 3) rfl rfl ?_
          | refine sLdS (i := 4) rfl rfl ?_
          | refine sLdS (i := 5) rfl rfl ?_
          | refine rFA ?_)
        refine sStN hL (i := 4) rfl rfl (by simp) (by intro x hx; simp at hx; rcases hx with rfl | rfl | rfl | rfl | rfl <;> rfl) (fun w13 hL => ?_)
        have hf := hL.fr
        show vLd (.agg 5) (pt b1 0) w13 fun r => K (.tuple #[r, str [], .bool true]) w13
        refine rLdN (hL.get (i := 4) rfl) (by simp [spl]) ?_
        refine hok (mkC o rs) [] ⟨⟨hop.1, hop.2.1⟩, rfl, hwords [] ?_, by rw [hmk.1]; exact hrr, hmk.2, fun _ => rfl⟩ w13 hf
        rw [if_pos h0] at hpl ⊢
        rw [List.drop_of_length_le (by omega)]
      · have hnum2 : ∃ num, ps[R]? = some num ∧ ps.drop R = [num] := by
          rw [if_neg h0] at hpl
          have hlt : R < ps.length := by omega
          refine ⟨ps[R], List.getElem?_eq_getElem hlt, ?_⟩
          rw [List.drop_eq_getElem_cons hlt, List.drop_of_length_le (by omega)]
        obtain ⟨num, hn1, hn2⟩ := hnum2
        have hW2 : W = R + 2 := by rw [if_neg h0] at hW; omega
        refine ⟨fun W' => Lx (fun _ => False) w W' [.blk b9 [it (rs.getD 0 0), it (rs.getD 1 0), it (rs.getD 2 0)], .blk b7 [str (opName o), it R, it (shNum o)], .blk b4 (mkC o rs).cs, .row v2 ((parts 32 l).map str) (some w1.heap.size), .blk b1 [it 0, it 0, it 0, it 0, it 0]], fun W' => Row W' v2 ((parts 32 l).map str) (some w1.heap.size), hL.drew, ?_⟩
        refine sLdSN (i := 2) rfl rfl ?_
        refine rSub (by omega) (by omega) ?_
        have eW : (W : Int) - 1 = ((R + 1 : Nat) : Int) := by omega
        rw [eW]
        refine Row.rdS (x := str num) (hL.row (i := 3) rfl) (fun W' hW' => hW'.elim (fun h => h.row (i := 3) rfl) id) (by rw [List.getElem?_map, hp, List.getElem?_cons_succ, hn1]; rfl) ?_
        refine ⟨?_, trivial⟩
        refine sStN hL.drew (i := 4) rfl rfl (by simp) (by intro x hx; simp at hx; rcases hx with rfl | rfl | rfl | rfl | rfl <;> rfl) (fun w13 hL => ?_)
        refine ⟨hL.row (i := 3) rfl, ?_⟩
        have hf := hL.fr
        show vLd (.agg 5) (pt b1 0) w13 fun r => K (.tuple #[r, str num, .bool true]) w13
        refine rLdN (hL.get (i := 4) rfl) (by simp [spl]) ?_
        refine hok (mkC o rs) num ⟨⟨hop.1, hop.2.1⟩, rfl, hwords num ?_, by rw [hmk.1]; exact hrr, hmk.2, fun e => absurd e h0⟩ w13 hf
        rw [if_neg h0, hn2]
  refine rNe <| sIfNE (fun h0 => ?_) (fun h0 => ?_)
  · refine rAdd (by omega) (by omega) ?_
    refine sJoin ?_
    repeat (first
      | refine rFA0 ?_
      | refine rExt0 ?_
      | refine rExt1 ?_
      | refine sExt30 ?_
      | refine sExt31 ?_
      | refine sExt2 ?_
      | refine rIfT ?_
      | refine rIfF ?_
      | refine rNot ?_
      | refine rLenB ?_
      | refine sLd hL (i := 0) rfl rfl ?_
      | refine sLd hL (i := 1) rfl rfl ?_
      | refine sLd hL (i := 2) rfl rfl ?_
      | refine sLd hL (i := 3) rfl rfl ?_
      | refine sLd hL (i := 4) rfl rfl ?_
      | refine sLd hL (i := 5) rfl rfl ?_
      | refine sLdN hL (i := 0) rfl rfl ?_
      | refine sLdN hL (i := 1) rfl rfl ?_
      | refine sLdN hL (i := 2) rfl rfl ?_
      | refine sLdN hL (i := 3) rfl rfl ?_
      | refine sLdN hL (i := 4) rfl rfl ?_
      | refine sLdN hL (i := 5) rfl rfl ?_
      | refine sLdS (i := 0) rfl rfl ?_
      | refine sLdS (i := 1) rfl rfl ?_
      | refine sLdS (i := 2) rfl rfl ?_
      | refine sLdS (i := 3) rfl rfl ?_
      | refine sLdS (i := 4) rfl rfl ?_
      | refine sLdS (i := 5) rfl rfl ?_
      | refine rFA ?_)
    refine rSEq (m := []) <| sIfS (fun h => ?_) (fun h => ?_)
    · exact fun ρ hρ => main (1 + R + 1) (by rw [if_neg h0]) true (by simp [h]) ρ (by rw [hρ]; simp)
    · refine sLen hL (i := 2) rfl <| rNe ?_
      exact fun ρ hρ => main (1 + R + 1) (by rw [if_neg h0]) (((parts 32 l).length : Int) != ((1 + R + 1 : Nat) : Int)) (by simp [h]; omega) ρ (by rw [hρ]; simp)
  · refine sJoin ?_
    repeat (first
      | refine rFA0 ?_
      | refine rExt0 ?_
      | refine rExt1 ?_
      | refine sExt30 ?_
      | refine sExt31 ?_
      | refine sExt2 ?_
      | refine rIfT ?_
      | refine rIfF ?_
      | refine rNot ?_
      | refine rLenB ?_
      | refine sLd hL (i := 0) rfl rfl ?_
      | refine sLd hL (i := 1) rfl rfl ?_
      | refine sLd hL (i := 2) rfl rfl ?_
      | refine sLd hL (i := 3) rfl rfl ?_
      | refine sLd hL (i := 4) rfl rfl ?_
      | refine sLd hL (i := 5) rfl rfl ?_
      | refine sLdN hL (i := 0) rfl rfl ?_
      | refine sLdN hL (i := 1) rfl rfl ?_
      | refine sLdN hL (i := 2) rfl rfl ?_
      | refine sLdN hL (i := 3) rfl rfl ?_
      | refine sLdN hL (i := 4) rfl rfl ?_
      | refine sLdN hL (i := 5) rfl rfl ?_
      | refine sLdS (i := 0) rfl rfl ?_
      | refine sLdS (i := 1) rfl rfl ?_
      | refine sLdS (i := 2) rfl rfl ?_
      | refine sLdS (i := 3) rfl rfl ?_
      | refine sLdS (i := 4) rfl rfl ?_
      | refine sLdS (i := 5) rfl rfl ?_
      | refine rFA ?_)
    refine rSEq (m := []) <| sIfS (fun h => ?_) (fun h => ?_)
    · exact fun ρ hρ => main (1 + R) (by rw [if_pos h0, Nat.add_zero]) true (by simp [h]) ρ (by rw [hρ]; simp)
    · refine sLen hL (i := 2) rfl <| rNe ?_
      exact fun ρ hρ => main (1 + R) (by rw [if_pos h0, Nat.add_zero]) (((parts 32 l).length : Int) != ((1 + R : Nat) : Int)) (by simp [h]; omega) ρ (by rw [hρ]; simp)

end Go.Proofs.YtnmmpgeojimgoaaDoor
