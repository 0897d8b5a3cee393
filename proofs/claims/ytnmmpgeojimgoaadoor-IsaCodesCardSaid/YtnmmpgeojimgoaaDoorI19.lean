/-
  Isa, part 19: IsaCodes, IsaParses, IsaBuilds, IsaDecodes, IsaBack. Own work.
-/
import Derived.Test.YtnmmpgeojimgoaaDoorI18
set_option linter.unusedVariables false
set_option linter.unusedSimpArgs false
set_option maxRecDepth 100000
namespace Go.Proofs.YtnmmpgeojimgoaaDoor
open Go Go.V Go.RowKit

/-! ### == of two instructions -/

structure Bd (x : Cd) : Prop where
  op : -9223372036854775808 ≤ x.op ∧ x.op < 9223372036854775808
  a : -9223372036854775808 ≤ x.a ∧ x.a < 9223372036854775808
  b : -9223372036854775808 ≤ x.b ∧ x.b < 9223372036854775808
  c : -9223372036854775808 ≤ x.c ∧ x.c < 9223372036854775808
  n : -9223372036854775808 ≤ x.n ∧ x.n < 9223372036854775808

theorem right_bd {x : Cd} (h : rightB x = true) : Bd x := by
  obtain ⟨h1, h2, h3, h4⟩ := (right_iff x).1 h
  have hn := right_n h
  unfold restZ at h4
  have key : (0 ≤ x.a ∧ x.a < 16) ∧ (0 ≤ x.b ∧ x.b < 16) ∧ (0 ≤ x.c ∧ x.c < 16) := by
    rcases shRegs_cases x.op with e | e | e | e
    · rw [e] at h4; have := h4.1 (by omega); have := h4.2.1 (by omega); have := h4.2.2 (by omega); omega
    · rw [regs1 e] at h3; rw [e] at h4
      have := h3 x.a (by simp); have := h4.2.1 (by omega); have := h4.2.2 (by omega); omega
    · rw [regs2 e] at h3; rw [e] at h4
      have := h3 x.a (by simp); have := h3 x.b (by simp); have := h4.2.2 (by omega); omega
    · rw [regs3 e] at h3
      have := h3 x.a (by simp); have := h3 x.b (by simp); have := h3 x.c (by simp); omega
  exact ⟨by omega, by omega, by omega, by omega, by omega⟩
theorem bd0 : Bd cd0 := by constructor <;> decide

theorem mapM_mapO {α β γ : Type} (l : List α) (h : α → β) (f : β → Option γ) : l.mapM (fun x => f (h x)) = (l.map h).mapM f := by
  induction l with
  | nil => rfl
  | cons x r ih => rw [List.map_cons, List.mapM_cons, List.mapM_cons, ih]

noncomputable def fields23 : Array Field := match Tryd.prog.underlying 23 with
  | some (.struct fs) => fs
  | _ => #[]
theorem u23 : Tryd.prog.underlying 23 = some (.struct fields23) := by kernel_rfl
theorem u3 : Tryd.prog.underlying 3 = some (.int .i64) := by kernel_rfl
theorem f23 : fields23.toList.map (fun f => (f.type, f.offset)) = [(3, 0), (3, 1), (3, 2), (3, 3), (3, 4)] := by kernel_rfl
theorem c23 : Tryd.prog.cellsOf 23 = 5 := by kernel_rfl
theorem c3 : Tryd.prog.cellsOf 3 = 1 := by kernel_rfl
theorem n23 : (fields23.all (·.name != "_")) = true := by kernel_rfl
theorem kt23 : Tryd.prog.keyTypeAt 3 23 = true := by kernel_rfl
theorem eg23 : Tryd.prog.eqGuardType Tryd.prog.depth 23 = false := by kernel_rfl

theorem lits3 {d : Nat} {n : Int} (h : -9223372036854775808 ≤ n ∧ n < 9223372036854775808) : Tryd.prog.keyLits (d + 1) 3 [it n] = some [.int .i64 n] := by
  have hw : (Lit.int .i64 n).wf = true := by
    simp [Lit.wf, IntKind.min, IntKind.max, IntKind.signed, IntKind.bits]; omega
  unfold Program.keyLits
  simp only [u3]
  rw [if_pos ⟨trivial, hw⟩]

def Cd.lits (x : Cd) : List Lit := [.int .i64 x.op, .int .i64 x.a, .int .i64 x.b, .int .i64 x.c, .int .i64 x.n]

theorem lits23 {x : Cd} (h : Bd x) : Tryd.prog.keyLits 2 23 x.cs = some x.lits := by
  unfold Program.keyLits
  simp only [u23]
  rw [if_pos ⟨by rw [c23]; rfl, n23⟩]
  have e := mapM_mapO fields23.toList (fun f => (f.type, f.offset)) (fun p => Tryd.prog.keyLits 1 p.1 ((x.cs.drop p.2).take (Tryd.prog.cellsOf p.1)))
  rw [f23] at e
  refine (congrArg (Option.map List.flatten) e).trans ?_
  simp only [List.mapM_cons, List.mapM_nil, c3]
  have e0 : (x.cs.drop 0).take 1 = [it x.op] := rfl
  have e1 : (x.cs.drop 1).take 1 = [it x.a] := rfl
  have e2 : (x.cs.drop 2).take 1 = [it x.b] := rfl
  have e3 : (x.cs.drop 3).take 1 = [it x.c] := rfl
  have e4 : (x.cs.drop 4).take 1 = [it x.n] := rfl
  rw [e0, e1, e2, e3, e4, lits3 (d := 0) h.op, lits3 (d := 0) h.a, lits3 (d := 0) h.b, lits3 (d := 0) h.c, lits3 (d := 0) h.n]
  rfl

theorem rCdEq {x y : Cd} (hx : Bd x) (hy : Bd y) {K : Value → Prop} (k : ∀ b : Bool, (b = true ↔ x = y) → K (.bool b)) : vAggEq Tryd.prog 23 .eql x.v y.v K := by
  refine ⟨3, 2, 2, _, _, by decide, kt23, by simp [Value.formed, u23, c23], by simp [Value.formed, u23, c23], lits23 hx, lits23 hy, eg23, fun b hb => ?_⟩
  refine k b (hb.trans ?_)
  cases x; cases y
  simp [Cd.lits]

theorem rEqB {a b : Bool} {K : Value → Prop} (k : K (.bool (a == b))) : vBin .bool .eql (.bool a) (.bool b) K := k
theorem rNeB {a b : Bool} {K : Value → Prop} (k : K (.bool (!(a == b)))) : vBin .bool .neq (.bool a) (.bool b) K := k

/-! ### Bytes there and back -/

theorem shNum_cases (op : Int) : shNum op = 0 ∨ shNum op = 1 ∨ shNum op = 2 ∨ shNum op = 3 := by
  unfold shNum; repeat' split
  all_goals simp

theorem dec_enc {x : Cd} (h : rightB x = true) : ∃ p q r t, enc x = [p, q, r, t] ∧ decC p q r t = x := by
  obtain ⟨h1, h2, h3, h4⟩ := (right_iff x).1 h
  refine ⟨_, _, _, _, rfl, ?_⟩
  have key : (0 ≤ x.a ∧ x.a < 16) ∧ (0 ≤ x.b ∧ x.b < 16) ∧ (0 ≤ x.c ∧ x.c < 16) := by
    have h4 := h4
    unfold restZ at h4
    rcases shRegs_cases x.op with e | e | e | e
    · rw [e] at h4; have := h4.1 (by omega); have := h4.2.1 (by omega); have := h4.2.2 (by omega); omega
    · rw [regs1 e] at h3; rw [e] at h4
      have := h3 x.a (by simp); have := h4.2.1 (by omega); have := h4.2.2 (by omega); omega
    · rw [regs2 e] at h3; rw [e] at h4
      have := h3 x.a (by simp); have := h3 x.b (by simp); have := h4.2.2 (by omega); omega
    · rw [regs3 e] at h3
      have := h3 x.a (by simp); have := h3 x.b (by simp); have := h3 x.c (by simp); omega
  have eo : ((u8 x.op).toNat : Int) = x.op := by rw [u8, u8_of]; omega
  have ea : ((u8 x.a).toNat : Int) = x.a := by rw [u8, u8_of]; omega
  have eb : ((u8 x.b).toNat : Int) = x.b := by rw [u8, u8_of]; omega
  have ec : ((u8 x.c).toNat : Int) = x.c := by rw [u8, u8_of]; omega
  have hs := shapes x.op
  unfold restZ at h4
  unfold decC
  rw [eo]
  rcases shNum_cases x.op with e | e | e | e
  · rw [e] at h2 ⊢
    have hn : x.n = 0 := by simpa [fitsN] using h2
    simp only [show ¬ ((0 : Int) = 1) by decide, show ¬ ((0 : Int) = 3) by decide, show ¬ ((0 : Int) = 2) by decide, if_false, or_self, ea, eb, ec]
    cases x; simp only at hn; subst hn; rfl
  · rw [e] at h2 ⊢
    have hn : 0 ≤ x.n ∧ x.n < 65536 := by simpa [fitsN] using h2
    have hR : shRegs x.op = 1 := by omega
    rw [hR] at h4
    have hb := h4.2.1 (by omega)
    have hc := h4.2.2 (by omega)
    simp only [if_true, true_or, ea]
    have en : ((u8 x.n).toNat : Int) + 256 * ((u8 (x.n / 256)).toNat : Int) = x.n := by rw [u8, u8, u8_of, u8_of]; omega
    rw [en]
    cases x; simp only at hb hc; subst hb; subst hc; rfl
  · rw [e] at h2 ⊢
    have hn : 0 ≤ x.n ∧ x.n < 256 := by simpa [fitsN] using h2
    have hR : shRegs x.op = 2 := by omega
    rw [hR] at h4
    have hc := h4.2.2 (by omega)
    have en : ((u8 x.n).toNat : Int) = x.n := by rw [u8, u8_of]; omega
    simp only [show ¬ ((2 : Int) = 1) by decide, show ¬ ((2 : Int) = 3) by decide, if_false, or_self, if_true, ea, eb, en]
    cases x; simp only at hc; subst hc; rfl
  · rw [e] at h2 ⊢
    have hn : -32768 ≤ x.n ∧ x.n < 32768 := by simpa [fitsN] using h2
    have hR : shRegs x.op = 0 ∨ shRegs x.op = 1 := by omega
    have hb := h4.2.1 (by omega)
    have hc := h4.2.2 (by omega)
    simp only [show ¬ ((3 : Int) = 1) by decide, if_false, if_true, or_true, ea]
    have en : sx (((u8 x.n).toNat : Int) + 256 * ((u8 (x.n / 256)).toNat : Int)) = x.n := by
      rw [u8, u8, u8_of, u8_of]; unfold sx; split <;> omega
    rw [en]
    cases x; simp only at hb hc; subst hb; subst hc; rfl

theorem decode_enc {x : Cd} (h : rightB x = true) : decode (enc x) = some x := by
  obtain ⟨p, q, r, t, e1, e2⟩ := dec_enc h
  rw [e1, decode4, e2, if_pos h]
theorem enc_inj {x y : Cd} (hx : rightB x = true) (hy : rightB y = true) (h : enc x = enc y) : x = y := by
  have h1 := decode_enc hx
  have h2 := decode_enc hy
  rw [h, h2] at h1
  exact (Option.some.inj h1).symm

/-! ### The laws -/
section
variable {w : World} {K : Value → World → Prop} (hT : Tabs w) (hK : ∀ w', Fr (fun _ => False) w w' → K (.bool true) w')
include hT hK

theorem law3 {x : Cd} (hn1 : -9223372036854775808 ≤ x.n) (hn2 : x.n < 9223372036854775808) : Ret Tryd.prog 3 #[x.v] w K := by
  apply F3_ok
  unfold F3
  have hL := Lx.start (fun _ => False) w
  refine sBox hL (fun w1 b1 hL => ?_)
  have hL : Lx (fun _ => False) w w1 [.blk b1 x.cs] := hL
  refine lives_spec (hT.fr hL.fr) (fun w2 f2 => ?_)
  have hL := hL.more f2
  refine rNot <| rIfF ?_
  repeat (first
    | refine rFA0 ?_
    | refine rExt0 ?_
    | refine rExt1 ?_
    | refine sExt30 ?_
    | refine sExt31 ?_
    | refine sExt2 ?_
    | refine rIfT ?_
    | refine rIfF ?_
    | refine rNot ?_
    | refine rLenB ?_
    | refine sLd hL (i := 0) rfl rfl ?_
    | refine sLd hL (i := 1) rfl rfl ?_
    | refine sLd hL (i := 2) rfl rfl ?_
    | refine sLd hL (i := 3) rfl rfl ?_
    | refine sLd hL (i := 4) rfl rfl ?_
    | refine sLd hL (i := 5) rfl rfl ?_
    | refine sLdN hL (i := 0) rfl rfl ?_
    | refine sLdN hL (i := 1) rfl rfl ?_
    | refine sLdN hL (i := 2) rfl rfl ?_
    | refine sLdN hL (i := 3) rfl rfl ?_
    | refine sLdN hL (i := 4) rfl rfl ?_
    | refine sLdN hL (i := 5) rfl rfl ?_
    | refine sLdS (i := 0) rfl rfl ?_
    | refine sLdS (i := 1) rfl rfl ?_
    | refine sLdS (i := 2) rfl rfl ?_
    | refine sLdS (i := 3) rfl rfl ?_
    | refine sLdS (i := 4) rfl rfl ?_
    | refine sLdS (i := 5) rfl rfl ?_
    | refine rFA ?_)
  refine rright_spec (x := x) (fun w3 f3 => ?_)
  have hL := hL.more f3
  repeat (first
    | refine rFA0 ?_
    | refine rExt0 ?_
    | refine rExt1 ?_
    | refine sExt30 ?_
    | refine sExt31 ?_
    | refine sExt2 ?_
    | refine rIfT ?_
    | refine rIfF ?_
    | refine rNot ?_
    | refine rLenB ?_
    | refine sLd hL (i := 0) rfl rfl ?_
    | refine sLd hL (i := 1) rfl rfl ?_
    | refine sLd hL (i := 2) rfl rfl ?_
    | refine sLd hL (i := 3) rfl rfl ?_
    | refine sLd hL (i := 4) rfl rfl ?_
    | refine sLd hL (i := 5) rfl rfl ?_
    | refine sLdN hL (i := 0) rfl rfl ?_
    | refine sLdN hL (i := 1) rfl rfl ?_
    | refine sLdN hL (i := 2) rfl rfl ?_
    | refine sLdN hL (i := 3) rfl rfl ?_
    | refine sLdN hL (i := 4) rfl rfl ?_
    | refine sLdN hL (i := 5) rfl rfl ?_
    | refine sLdS (i := 0) rfl rfl ?_
    | refine sLdS (i := 1) rfl rfl ?_
    | refine sLdS (i := 2) rfl rfl ?_
    | refine sLdS (i := 3) rfl rfl ?_
    | refine sLdS (i := 4) rfl rfl ?_
    | refine sLdS (i := 5) rfl rfl ?_
    | refine rFA ?_)
  refine encode_spec (x := x) (hT.fr hL.fr) hn1 hn2 (fun w4 f4 => ?_)
  have hL := hL.more f4
  by_cases hr : rightB x = true
  · rw [if_pos hr]
    have hrg := right_regs hr
    have hrn := right_n hr
    repeat (first
      | refine rFA0 ?_
      | refine rExt0 ?_
      | refine rExt1 ?_
      | refine sExt30 ?_
      | refine sExt31 ?_
      | refine sExt2 ?_
      | refine rIfT ?_
      | refine rIfF ?_
      | refine rNot ?_
      | refine rLenB ?_
      | refine sLd hL (i := 0) rfl rfl ?_
      | refine sLd hL (i := 1) rfl rfl ?_
      | refine sLd hL (i := 2) rfl rfl ?_
      | refine sLd hL (i := 3) rfl rfl ?_
      | refine sLd hL (i := 4) rfl rfl ?_
      | refine sLd hL (i := 5) rfl rfl ?_
      | refine sLdN hL (i := 0) rfl rfl ?_
      | refine sLdN hL (i := 1) rfl rfl ?_
      | refine sLdN hL (i := 2) rfl rfl ?_
      | refine sLdN hL (i := 3) rfl rfl ?_
      | refine sLdN hL (i := 4) rfl rfl ?_
      | refine sLdN hL (i := 5) rfl rfl ?_
      | refine sLdS (i := 0) rfl rfl ?_
      | refine sLdS (i := 1) rfl rfl ?_
      | refine sLdS (i := 2) rfl rfl ?_
      | refine sLdS (i := 3) rfl rfl ?_
      | refine sLdS (i := 4) rfl rfl ?_
      | refine sLdS (i := 5) rfl rfl ?_
      | refine rFA ?_)
    refine text_spec (x := x) (hT.fr hL.fr) hn1 hn2 (fun w5 f5 => ?_)
    have hL := hL.more f5
    rw [if_pos hr]
    repeat (first
      | refine rFA0 ?_
      | refine rExt0 ?_
      | refine rExt1 ?_
      | refine sExt30 ?_
      | refine sExt31 ?_
      | refine sExt2 ?_
      | refine rIfT ?_
      | refine rIfF ?_
      | refine rNot ?_
      | refine rLenB ?_
      | refine sLd hL (i := 0) rfl rfl ?_
      | refine sLd hL (i := 1) rfl rfl ?_
      | refine sLd hL (i := 2) rfl rfl ?_
      | refine sLd hL (i := 3) rfl rfl ?_
      | refine sLd hL (i := 4) rfl rfl ?_
      | refine sLd hL (i := 5) rfl rfl ?_
      | refine sLdN hL (i := 0) rfl rfl ?_
      | refine sLdN hL (i := 1) rfl rfl ?_
      | refine sLdN hL (i := 2) rfl rfl ?_
      | refine sLdN hL (i := 3) rfl rfl ?_
      | refine sLdN hL (i := 4) rfl rfl ?_
      | refine sLdN hL (i := 5) rfl rfl ?_
      | refine sLdS (i := 0) rfl rfl ?_
      | refine sLdS (i := 1) rfl rfl ?_
      | refine sLdS (i := 2) rfl rfl ?_
      | refine sLdS (i := 3) rfl rfl ?_
      | refine sLdS (i := 4) rfl rfl ?_
      | refine sLdS (i := 5) rfl rfl ?_
      | refine rFA ?_)
    refine sJoin ?_
    repeat (first
      | refine rFA0 ?_
      | refine rExt0 ?_
      | refine rExt1 ?_
      | refine sExt30 ?_
      | refine sExt31 ?_
      | refine sExt2 ?_
      | refine rIfT ?_
      | refine rIfF ?_
      | refine rNot ?_
      | refine rLenB ?_
      | refine sLd hL (i := 0) rfl rfl ?_
      | refine sLd hL (i := 1) rfl rfl ?_
      | refine sLd hL (i := 2) rfl rfl ?_
      | refine sLd hL (i := 3) rfl rfl ?_
      | refine sLd hL (i := 4) rfl rfl ?_
      | refine sLd hL (i := 5) rfl rfl ?_
      | refine sLdN hL (i := 0) rfl rfl ?_
      | refine sLdN hL (i := 1) rfl rfl ?_
      | refine sLdN hL (i := 2) rfl rfl ?_
      | refine sLdN hL (i := 3) rfl rfl ?_
      | refine sLdN hL (i := 4) rfl rfl ?_
      | refine sLdN hL (i := 5) rfl rfl ?_
      | refine sLdS (i := 0) rfl rfl ?_
      | refine sLdS (i := 1) rfl rfl ?_
      | refine sLdS (i := 2) rfl rfl ?_
      | refine sLdS (i := 3) rfl rfl ?_
      | refine sLdS (i := 4) rfl rfl ?_
      | refine sLdS (i := 5) rfl rfl ?_
      | refine rFA ?_)
    refine right_spec (x := x) (hT.fr hL.fr) hn1 hn2 (fun w6 f6 => ?_)
    have hL := hL.more f6
    rw [hr]
    refine rNeB <| rIfF <| rEq <| rNeB <| rIfF <| rEq <| rNeB ?_
    intro ρ hρ
    simp only [List.map_cons, List.map_nil, List.cons.injEq, and_true] at hρ
    obtain ⟨e1, e3, e4, e5, e6, e7, e37⟩ := hρ
    unfold F3J1
    simp only [e1, e3, e4, e5, e6, e7, e37]
    refine rIfF <| rNot <| rIfF ?_
    repeat (first
      | refine rFA0 ?_
      | refine rExt0 ?_
      | refine rExt1 ?_
      | refine sExt30 ?_
      | refine sExt31 ?_
      | refine sExt2 ?_
      | refine rIfT ?_
      | refine rIfF ?_
      | refine rNot ?_
      | refine rLenB ?_
      | refine sLd hL (i := 0) rfl rfl ?_
      | refine sLd hL (i := 1) rfl rfl ?_
      | refine sLd hL (i := 2) rfl rfl ?_
      | refine sLd hL (i := 3) rfl rfl ?_
      | refine sLd hL (i := 4) rfl rfl ?_
      | refine sLd hL (i := 5) rfl rfl ?_
      | refine sLdN hL (i := 0) rfl rfl ?_
      | refine sLdN hL (i := 1) rfl rfl ?_
      | refine sLdN hL (i := 2) rfl rfl ?_
      | refine sLdN hL (i := 3) rfl rfl ?_
      | refine sLdN hL (i := 4) rfl rfl ?_
      | refine sLdN hL (i := 5) rfl rfl ?_
      | refine sLdS (i := 0) rfl rfl ?_
      | refine sLdS (i := 1) rfl rfl ?_
      | refine sLdS (i := 2) rfl rfl ?_
      | refine sLdS (i := 3) rfl rfl ?_
      | refine sLdS (i := 4) rfl rfl ?_
      | refine sLdS (i := 5) rfl rfl ?_
      | refine rFA ?_)
    refine rencode_spec (x := x) hrn.1 hrn.2 (fun w7 f7 => ?_)
    have hL := hL.more f7
    refine rSEq ?_
    rw [show (enc x == enc x) = true by simp]
    refine rIfT ?_
    repeat (first
      | refine rFA0 ?_
      | refine rExt0 ?_
      | refine rExt1 ?_
      | refine sExt30 ?_
      | refine sExt31 ?_
      | refine sExt2 ?_
      | refine rIfT ?_
      | refine rIfF ?_
      | refine rNot ?_
      | refine rLenB ?_
      | refine sLd hL (i := 0) rfl rfl ?_
      | refine sLd hL (i := 1) rfl rfl ?_
      | refine sLd hL (i := 2) rfl rfl ?_
      | refine sLd hL (i := 3) rfl rfl ?_
      | refine sLd hL (i := 4) rfl rfl ?_
      | refine sLd hL (i := 5) rfl rfl ?_
      | refine sLdN hL (i := 0) rfl rfl ?_
      | refine sLdN hL (i := 1) rfl rfl ?_
      | refine sLdN hL (i := 2) rfl rfl ?_
      | refine sLdN hL (i := 3) rfl rfl ?_
      | refine sLdN hL (i := 4) rfl rfl ?_
      | refine sLdN hL (i := 5) rfl rfl ?_
      | refine sLdS (i := 0) rfl rfl ?_
      | refine sLdS (i := 1) rfl rfl ?_
      | refine sLdS (i := 2) rfl rfl ?_
      | refine sLdS (i := 3) rfl rfl ?_
      | refine sLdS (i := 4) rfl rfl ?_
      | refine sLdS (i := 5) rfl rfl ?_
      | refine rFA ?_)
    refine rtext_spec (x := x) (fun r h => by have := hrg r h; omega) (by omega) (by omega) (fun w8 f8 => ?_)
    have hL := hL.more f8
    refine rSEq ?_
    rw [show (txt x == txt x) = true by simp]
    exact hK w8 hL.fr
  · have hr : rightB x = false := by simpa using hr
    rw [if_neg (by rw [hr]; decide)]
    repeat (first
      | refine rFA0 ?_
      | refine rExt0 ?_
      | refine rExt1 ?_
      | refine sExt30 ?_
      | refine sExt31 ?_
      | refine sExt2 ?_
      | refine rIfT ?_
      | refine rIfF ?_
      | refine rNot ?_
      | refine rLenB ?_
      | refine sLd hL (i := 0) rfl rfl ?_
      | refine sLd hL (i := 1) rfl rfl ?_
      | refine sLd hL (i := 2) rfl rfl ?_
      | refine sLd hL (i := 3) rfl rfl ?_
      | refine sLd hL (i := 4) rfl rfl ?_
      | refine sLd hL (i := 5) rfl rfl ?_
      | refine sLdN hL (i := 0) rfl rfl ?_
      | refine sLdN hL (i := 1) rfl rfl ?_
      | refine sLdN hL (i := 2) rfl rfl ?_
      | refine sLdN hL (i := 3) rfl rfl ?_
      | refine sLdN hL (i := 4) rfl rfl ?_
      | refine sLdN hL (i := 5) rfl rfl ?_
      | refine sLdS (i := 0) rfl rfl ?_
      | refine sLdS (i := 1) rfl rfl ?_
      | refine sLdS (i := 2) rfl rfl ?_
      | refine sLdS (i := 3) rfl rfl ?_
      | refine sLdS (i := 4) rfl rfl ?_
      | refine sLdS (i := 5) rfl rfl ?_
      | refine rFA ?_)
    refine text_spec (x := x) (hT.fr hL.fr) hn1 hn2 (fun w5 f5 => ?_)
    have hL := hL.more f5
    rw [if_neg (by rw [hr]; decide)]
    repeat (first
      | refine rFA0 ?_
      | refine rExt0 ?_
      | refine rExt1 ?_
      | refine sExt30 ?_
      | refine sExt31 ?_
      | refine sExt2 ?_
      | refine rIfT ?_
      | refine rIfF ?_
      | refine rNot ?_
      | refine rLenB ?_
      | refine sLd hL (i := 0) rfl rfl ?_
      | refine sLd hL (i := 1) rfl rfl ?_
      | refine sLd hL (i := 2) rfl rfl ?_
      | refine sLd hL (i := 3) rfl rfl ?_
      | refine sLd hL (i := 4) rfl rfl ?_
      | refine sLd hL (i := 5) rfl rfl ?_
      | refine sLdN hL (i := 0) rfl rfl ?_
      | refine sLdN hL (i := 1) rfl rfl ?_
      | refine sLdN hL (i := 2) rfl rfl ?_
      | refine sLdN hL (i := 3) rfl rfl ?_
      | refine sLdN hL (i := 4) rfl rfl ?_
      | refine sLdN hL (i := 5) rfl rfl ?_
      | refine sLdS (i := 0) rfl rfl ?_
      | refine sLdS (i := 1) rfl rfl ?_
      | refine sLdS (i := 2) rfl rfl ?_
      | refine sLdS (i := 3) rfl rfl ?_
      | refine sLdS (i := 4) rfl rfl ?_
      | refine sLdS (i := 5) rfl rfl ?_
      | refine rFA ?_)
    refine sJoin ?_
    repeat (first
      | refine rFA0 ?_
      | refine rExt0 ?_
      | refine rExt1 ?_
      | refine sExt30 ?_
      | refine sExt31 ?_
      | refine sExt2 ?_
      | refine rIfT ?_
      | refine rIfF ?_
      | refine rNot ?_
      | refine rLenB ?_
      | refine sLd hL (i := 0) rfl rfl ?_
      | refine sLd hL (i := 1) rfl rfl ?_
      | refine sLd hL (i := 2) rfl rfl ?_
      | refine sLd hL (i := 3) rfl rfl ?_
      | refine sLd hL (i := 4) rfl rfl ?_
      | refine sLd hL (i := 5) rfl rfl ?_
      | refine sLdN hL (i := 0) rfl rfl ?_
      | refine sLdN hL (i := 1) rfl rfl ?_
      | refine sLdN hL (i := 2) rfl rfl ?_
      | refine sLdN hL (i := 3) rfl rfl ?_
      | refine sLdN hL (i := 4) rfl rfl ?_
      | refine sLdN hL (i := 5) rfl rfl ?_
      | refine sLdS (i := 0) rfl rfl ?_
      | refine sLdS (i := 1) rfl rfl ?_
      | refine sLdS (i := 2) rfl rfl ?_
      | refine sLdS (i := 3) rfl rfl ?_
      | refine sLdS (i := 4) rfl rfl ?_
      | refine sLdS (i := 5) rfl rfl ?_
      | refine rFA ?_)
    refine right_spec (x := x) (hT.fr hL.fr) hn1 hn2 (fun w6 f6 => ?_)
    have hL := hL.more f6
    rw [hr]
    refine rNeB <| rIfF <| rEq <| rNeB <| rIfF <| rEq <| rNeB ?_
    intro ρ hρ
    simp only [List.map_cons, List.map_nil, List.cons.injEq, and_true] at hρ
    obtain ⟨e1, e3, e4, e5, e6, e7, e37⟩ := hρ
    unfold F3J1
    simp only [e1, e3, e4, e5, e6, e7, e37]
    refine rIfF <| rNot <| rIfT ?_
    refine rEq <| rIfT <| rEq <| rIfT <| rSEq (l := []) (m := []) <| rIfT <| rSEq (l := []) (m := []) ?_
    exact hK w6 hL.fr

theorem law4 {l : List UInt8} : Ret Tryd.prog 4 #[str l] w K := by
  apply F4_ok
  unfold F4
  refine lives_spec hT (fun w1 f1 => ?_)
  refine rNot <| rIfF ?_
  refine rLenB <| rGt <| sIfD (fun h => ?_) (fun h => ?_)
  · exact hK w1 f1
  have hL := Lx.of (F := fun _ => False) f1
  have main : ∀ (b3 b5 : Nat) (x y : Cd) (e : Int) (q : Bool) (W : World), Lx (fun _ => False) w W [.blk b5 y.cs, .blk b3 x.cs] → (q = true → e = 2 ∧ x = cd0) → (q = false → e = 0 ∧ Says l x ∧ x = y) → ∀ ρ : Env, [0, 3, 4, 5, 29].map ρ = [str l, pt b3 0, it e, pt b5 0, .bool q] → F4J1 K ρ [] W := by
    intro b3 b5 x y e q W hL hq1 hq2 ρ hρ
    simp only [List.map_cons, List.map_nil, List.cons.injEq, and_true] at hρ
    obtain ⟨e0, e3, e4, e5, e29⟩ := hρ
    unfold F4J1
    simp only [e0, e3, e4, e5, e29]
    refine sIf (fun h => ?_) (fun h => ?_)
    · obtain ⟨rfl, rfl⟩ := hq1 h
      refine rEq <| rIfT ?_
      repeat (first
        | refine rFA0 ?_
        | refine rExt0 ?_
        | refine rExt1 ?_
        | refine sExt30 ?_
        | refine sExt31 ?_
        | refine sExt2 ?_
        | refine rIfT ?_
        | refine rIfF ?_
        | refine rNot ?_
        | refine rLenB ?_
        | refine sLd hL (i := 0) rfl rfl ?_
        | refine sLd hL (i := 1) rfl rfl ?_
        | refine sLd hL (i := 2) rfl rfl ?_
        | refine sLd hL (i := 3) rfl rfl ?_
        | refine sLd hL (i := 4) rfl rfl ?_
        | refine sLd hL (i := 5) rfl rfl ?_
        | refine sLdN hL (i := 0) rfl rfl ?_
        | refine sLdN hL (i := 1) rfl rfl ?_
        | refine sLdN hL (i := 2) rfl rfl ?_
        | refine sLdN hL (i := 3) rfl rfl ?_
        | refine sLdN hL (i := 4) rfl rfl ?_
        | refine sLdN hL (i := 5) rfl rfl ?_
        | refine sLdS (i := 0) rfl rfl ?_
        | refine sLdS (i := 1) rfl rfl ?_
        | refine sLdS (i := 2) rfl rfl ?_
        | refine sLdS (i := 3) rfl rfl ?_
        | refine sLdS (i := 4) rfl rfl ?_
        | refine sLdS (i := 5) rfl rfl ?_
        | refine rFA ?_)
      refine build48e ?_
      refine rCdEq (x := cd0) (y := cd0) bd0 bd0 (fun b hb => ?_)
      rw [hb.2 rfl]
      exact hK W hL.fr
    · obtain ⟨rfl, hs, rfl⟩ := hq2 h
      have hbd := right_bd hs.1
      have hrg := right_regs hs.1
      have hrn := right_n hs.1
      refine rEq <| rIfT ?_
      repeat (first
        | refine rFA0 ?_
        | refine rExt0 ?_
        | refine rExt1 ?_
        | refine sExt30 ?_
        | refine sExt31 ?_
        | refine sExt2 ?_
        | refine rIfT ?_
        | refine rIfF ?_
        | refine rNot ?_
        | refine rLenB ?_
        | refine sLd hL (i := 0) rfl rfl ?_
        | refine sLd hL (i := 1) rfl rfl ?_
        | refine sLd hL (i := 2) rfl rfl ?_
        | refine sLd hL (i := 3) rfl rfl ?_
        | refine sLd hL (i := 4) rfl rfl ?_
        | refine sLd hL (i := 5) rfl rfl ?_
        | refine sLdN hL (i := 0) rfl rfl ?_
        | refine sLdN hL (i := 1) rfl rfl ?_
        | refine sLdN hL (i := 2) rfl rfl ?_
        | refine sLdN hL (i := 3) rfl rfl ?_
        | refine sLdN hL (i := 4) rfl rfl ?_
        | refine sLdN hL (i := 5) rfl rfl ?_
        | refine sLdS (i := 0) rfl rfl ?_
        | refine sLdS (i := 1) rfl rfl ?_
        | refine sLdS (i := 2) rfl rfl ?_
        | refine sLdS (i := 3) rfl rfl ?_
        | refine sLdS (i := 4) rfl rfl ?_
        | refine sLdS (i := 5) rfl rfl ?_
        | refine rFA ?_)
      refine rCdEq (x := x) (y := x) hbd hbd (fun b hb => ?_)
      rw [hb.2 rfl]
      refine rIfT ?_
      repeat (first
        | refine rFA0 ?_
        | refine rExt0 ?_
        | refine rExt1 ?_
        | refine sExt30 ?_
        | refine sExt31 ?_
        | refine sExt2 ?_
        | refine rIfT ?_
        | refine rIfF ?_
        | refine rNot ?_
        | refine rLenB ?_
        | refine sLd hL (i := 0) rfl rfl ?_
        | refine sLd hL (i := 1) rfl rfl ?_
        | refine sLd hL (i := 2) rfl rfl ?_
        | refine sLd hL (i := 3) rfl rfl ?_
        | refine sLd hL (i := 4) rfl rfl ?_
        | refine sLd hL (i := 5) rfl rfl ?_
        | refine sLdN hL (i := 0) rfl rfl ?_
        | refine sLdN hL (i := 1) rfl rfl ?_
        | refine sLdN hL (i := 2) rfl rfl ?_
        | refine sLdN hL (i := 3) rfl rfl ?_
        | refine sLdN hL (i := 4) rfl rfl ?_
        | refine sLdN hL (i := 5) rfl rfl ?_
        | refine sLdS (i := 0) rfl rfl ?_
        | refine sLdS (i := 1) rfl rfl ?_
        | refine sLdS (i := 2) rfl rfl ?_
        | refine sLdS (i := 3) rfl rfl ?_
        | refine sLdS (i := 4) rfl rfl ?_
        | refine sLdS (i := 5) rfl rfl ?_
        | refine rFA ?_)
      refine rtext_spec (x := x) (fun r h => by have := hrg r h; omega) (by omega) (by omega) (fun w8 f8 => ?_)
      refine rSEq ?_
      rw [show (txt x == l) = true by rw [hs.2]; simp]
      exact hK w8 (hL.more f8).fr
  refine parse_spec (hT.fr f1) (by omega) (fun x hx w2 f2 => ?_) (fun hno w2 f2 => ?_)
  · have hL := hL.more f2
    repeat (first
      | refine rFA0 ?_
      | refine rExt0 ?_
      | refine rExt1 ?_
      | refine sExt30 ?_
      | refine sExt31 ?_
      | refine sExt2 ?_
      | refine rIfT ?_
      | refine rIfF ?_
      | refine rNot ?_
      | refine rLenB ?_
      | refine sLd hL (i := 0) rfl rfl ?_
      | refine sLd hL (i := 1) rfl rfl ?_
      | refine sLd hL (i := 2) rfl rfl ?_
      | refine sLd hL (i := 3) rfl rfl ?_
      | refine sLd hL (i := 4) rfl rfl ?_
      | refine sLd hL (i := 5) rfl rfl ?_
      | refine sLdN hL (i := 0) rfl rfl ?_
      | refine sLdN hL (i := 1) rfl rfl ?_
      | refine sLdN hL (i := 2) rfl rfl ?_
      | refine sLdN hL (i := 3) rfl rfl ?_
      | refine sLdN hL (i := 4) rfl rfl ?_
      | refine sLdN hL (i := 5) rfl rfl ?_
      | refine sLdS (i := 0) rfl rfl ?_
      | refine sLdS (i := 1) rfl rfl ?_
      | refine sLdS (i := 2) rfl rfl ?_
      | refine sLdS (i := 3) rfl rfl ?_
      | refine sLdS (i := 4) rfl rfl ?_
      | refine sLdS (i := 5) rfl rfl ?_
      | refine rFA ?_)
    refine sAlloc zc23 hL (fun w3 b3 hL => ?_)
    refine sStN hL (i := 0) rfl rfl (by simp) (Cd.cs_one x) (fun w4 hL => ?_)
    have hL : Lx (fun _ => False) w w4 [.blk b3 x.cs] := hL
    refine rparse_spec (by omega) (fun y nm hy w5 f5 => ?_) (fun hy w5 y nm f5 => ?_)
    · rw [lineOf_says hx] at hy
      simp only [Option.some.injEq, Prod.mk.injEq] at hy
      obtain ⟨rfl, rfl⟩ := hy
      have hL := hL.more f5
      repeat (first
        | refine rFA0 ?_
        | refine rExt0 ?_
        | refine rExt1 ?_
        | refine sExt30 ?_
        | refine sExt31 ?_
        | refine sExt2 ?_
        | refine rIfT ?_
        | refine rIfF ?_
        | refine rNot ?_
        | refine rLenB ?_
        | refine sLd hL (i := 0) rfl rfl ?_
        | refine sLd hL (i := 1) rfl rfl ?_
        | refine sLd hL (i := 2) rfl rfl ?_
        | refine sLd hL (i := 3) rfl rfl ?_
        | refine sLd hL (i := 4) rfl rfl ?_
        | refine sLd hL (i := 5) rfl rfl ?_
        | refine sLdN hL (i := 0) rfl rfl ?_
        | refine sLdN hL (i := 1) rfl rfl ?_
        | refine sLdN hL (i := 2) rfl rfl ?_
        | refine sLdN hL (i := 3) rfl rfl ?_
        | refine sLdN hL (i := 4) rfl rfl ?_
        | refine sLdN hL (i := 5) rfl rfl ?_
        | refine sLdS (i := 0) rfl rfl ?_
        | refine sLdS (i := 1) rfl rfl ?_
        | refine sLdS (i := 2) rfl rfl ?_
        | refine sLdS (i := 3) rfl rfl ?_
        | refine sLdS (i := 4) rfl rfl ?_
        | refine sLdS (i := 5) rfl rfl ?_
        | refine rFA ?_)
      refine sAlloc zc23 hL (fun w6 b6 hL => ?_)
      refine sStN hL (i := 0) rfl rfl (by simp) (Cd.cs_one x) (fun w7 hL => ?_)
      refine sJoin ?_
      refine rNot <| rIfF <| rSNe (l := []) (m := []) ?_
      exact main b3 b6 x x 0 false w7 hL (fun h => by cases h) (fun _ => ⟨rfl, hx, rfl⟩)
    · rw [lineOf_says hx] at hy; cases hy
  · have hL := hL.more f2
    repeat (first
      | refine rFA0 ?_
      | refine rExt0 ?_
      | refine rExt1 ?_
      | refine sExt30 ?_
      | refine sExt31 ?_
      | refine sExt2 ?_
      | refine rIfT ?_
      | refine rIfF ?_
      | refine rNot ?_
      | refine rLenB ?_
      | refine sLd hL (i := 0) rfl rfl ?_
      | refine sLd hL (i := 1) rfl rfl ?_
      | refine sLd hL (i := 2) rfl rfl ?_
      | refine sLd hL (i := 3) rfl rfl ?_
      | refine sLd hL (i := 4) rfl rfl ?_
      | refine sLd hL (i := 5) rfl rfl ?_
      | refine sLdN hL (i := 0) rfl rfl ?_
      | refine sLdN hL (i := 1) rfl rfl ?_
      | refine sLdN hL (i := 2) rfl rfl ?_
      | refine sLdN hL (i := 3) rfl rfl ?_
      | refine sLdN hL (i := 4) rfl rfl ?_
      | refine sLdN hL (i := 5) rfl rfl ?_
      | refine sLdS (i := 0) rfl rfl ?_
      | refine sLdS (i := 1) rfl rfl ?_
      | refine sLdS (i := 2) rfl rfl ?_
      | refine sLdS (i := 3) rfl rfl ?_
      | refine sLdS (i := 4) rfl rfl ?_
      | refine sLdS (i := 5) rfl rfl ?_
      | refine rFA ?_)
    refine sAlloc zc23 hL (fun w3 b3 hL => ?_)
    refine sStN hL (i := 0) rfl rfl (by simp) (Cd.cs_one cd0) (fun w4 hL => ?_)
    have hL : Lx (fun _ => False) w w4 [.blk b3 cd0.cs] := hL
    refine rparse_spec (by omega) (fun y nm hy w5 f5 => ?_) (fun hy w5 y nm f5 => ?_)
    · have hL := hL.more f5
      repeat (first
        | refine rFA0 ?_
        | refine rExt0 ?_
        | refine rExt1 ?_
        | refine sExt30 ?_
        | refine sExt31 ?_
        | refine sExt2 ?_
        | refine rIfT ?_
        | refine rIfF ?_
        | refine rNot ?_
        | refine rLenB ?_
        | refine sLd hL (i := 0) rfl rfl ?_
        | refine sLd hL (i := 1) rfl rfl ?_
        | refine sLd hL (i := 2) rfl rfl ?_
        | refine sLd hL (i := 3) rfl rfl ?_
        | refine sLd hL (i := 4) rfl rfl ?_
        | refine sLd hL (i := 5) rfl rfl ?_
        | refine sLdN hL (i := 0) rfl rfl ?_
        | refine sLdN hL (i := 1) rfl rfl ?_
        | refine sLdN hL (i := 2) rfl rfl ?_
        | refine sLdN hL (i := 3) rfl rfl ?_
        | refine sLdN hL (i := 4) rfl rfl ?_
        | refine sLdN hL (i := 5) rfl rfl ?_
        | refine sLdS (i := 0) rfl rfl ?_
        | refine sLdS (i := 1) rfl rfl ?_
        | refine sLdS (i := 2) rfl rfl ?_
        | refine sLdS (i := 3) rfl rfl ?_
        | refine sLdS (i := 4) rfl rfl ?_
        | refine sLdS (i := 5) rfl rfl ?_
        | refine rFA ?_)
      refine sAlloc zc23 hL (fun w6 b6 hL => ?_)
      refine sStN hL (i := 0) rfl rfl (by simp) (Cd.cs_one y) (fun w7 hL => ?_)
      refine sJoin ?_
      refine rNot <| rIfF <| rSNe (m := []) ?_
      have hnm : nm ≠ [] := by
        rcases lineOf_cases l with ⟨x, h1, _⟩ | ⟨_, x, n, h1, h2⟩ | ⟨_, _, h2⟩
        · exact absurd h1 (hno x)
        · rw [h2] at hy
          simp only [Option.some.injEq, Prod.mk.injEq] at hy
          rw [← hy.2]; exact name_ne h1.2.2
        · rw [h2] at hy; cases hy
      have e : (!(nm == [])) = true := by simpa using hnm
      rw [e]
      exact main b3 b6 cd0 y 2 true w7 hL (fun _ => ⟨rfl, rfl⟩) (fun h => by cases h)
    · have hL := hL.more f5
      repeat (first
        | refine rFA0 ?_
        | refine rExt0 ?_
        | refine rExt1 ?_
        | refine sExt30 ?_
        | refine sExt31 ?_
        | refine sExt2 ?_
        | refine rIfT ?_
        | refine rIfF ?_
        | refine rNot ?_
        | refine rLenB ?_
        | refine sLd hL (i := 0) rfl rfl ?_
        | refine sLd hL (i := 1) rfl rfl ?_
        | refine sLd hL (i := 2) rfl rfl ?_
        | refine sLd hL (i := 3) rfl rfl ?_
        | refine sLd hL (i := 4) rfl rfl ?_
        | refine sLd hL (i := 5) rfl rfl ?_
        | refine sLdN hL (i := 0) rfl rfl ?_
        | refine sLdN hL (i := 1) rfl rfl ?_
        | refine sLdN hL (i := 2) rfl rfl ?_
        | refine sLdN hL (i := 3) rfl rfl ?_
        | refine sLdN hL (i := 4) rfl rfl ?_
        | refine sLdN hL (i := 5) rfl rfl ?_
        | refine sLdS (i := 0) rfl rfl ?_
        | refine sLdS (i := 1) rfl rfl ?_
        | refine sLdS (i := 2) rfl rfl ?_
        | refine sLdS (i := 3) rfl rfl ?_
        | refine sLdS (i := 4) rfl rfl ?_
        | refine sLdS (i := 5) rfl rfl ?_
        | refine rFA ?_)
      refine sAlloc zc23 hL (fun w6 b6 hL => ?_)
      refine sStN hL (i := 0) rfl rfl (by simp) (Cd.cs_one y) (fun w7 hL => ?_)
      refine sJoin ?_
      refine rNot <| rIfT ?_
      exact main b3 b6 cd0 y 2 true w7 hL (fun _ => ⟨rfl, rfl⟩) (fun h => by cases h)

theorem law5 {l : List UInt8} : Ret Tryd.prog 5 #[str l] w K := by
  apply F5_ok
  unfold F5
  refine lives_spec hT (fun w1 f1 => ?_)
  refine rNot <| rIfF ?_
  refine rLenB <| rGt <| sIfD (fun h => ?_) (fun h => ?_)
  · exact hK w1 f1
  refine build_spec (hT.fr f1) (by omega) (fun w2 f2 => ?_)
  repeat (first
    | refine rFA0 ?_
    | refine rExt0 ?_
    | refine rExt1 ?_
    | refine sExt30 ?_
    | refine sExt31 ?_
    | refine sExt2 ?_
    | refine rIfT ?_
    | refine rIfF ?_
    | refine rNot ?_
    | refine rLenB ?_
    | refine sLd hL (i := 0) rfl rfl ?_
    | refine sLd hL (i := 1) rfl rfl ?_
    | refine sLd hL (i := 2) rfl rfl ?_
    | refine sLd hL (i := 3) rfl rfl ?_
    | refine sLd hL (i := 4) rfl rfl ?_
    | refine sLd hL (i := 5) rfl rfl ?_
    | refine sLdN hL (i := 0) rfl rfl ?_
    | refine sLdN hL (i := 1) rfl rfl ?_
    | refine sLdN hL (i := 2) rfl rfl ?_
    | refine sLdN hL (i := 3) rfl rfl ?_
    | refine sLdN hL (i := 4) rfl rfl ?_
    | refine sLdN hL (i := 5) rfl rfl ?_
    | refine sLdS (i := 0) rfl rfl ?_
    | refine sLdS (i := 1) rfl rfl ?_
    | refine sLdS (i := 2) rfl rfl ?_
    | refine sLdS (i := 3) rfl rfl ?_
    | refine sLdS (i := 4) rfl rfl ?_
    | refine sLdS (i := 5) rfl rfl ?_
    | refine rFA ?_)
  refine rbuild_spec (l := l) (by omega) (fun w3 f3 => ?_)
  repeat (first
    | refine rFA0 ?_
    | refine rExt0 ?_
    | refine rExt1 ?_
    | refine sExt30 ?_
    | refine sExt31 ?_
    | refine sExt2 ?_
    | refine rIfT ?_
    | refine rIfF ?_
    | refine rNot ?_
    | refine rLenB ?_
    | refine sLd hL (i := 0) rfl rfl ?_
    | refine sLd hL (i := 1) rfl rfl ?_
    | refine sLd hL (i := 2) rfl rfl ?_
    | refine sLd hL (i := 3) rfl rfl ?_
    | refine sLd hL (i := 4) rfl rfl ?_
    | refine sLd hL (i := 5) rfl rfl ?_
    | refine sLdN hL (i := 0) rfl rfl ?_
    | refine sLdN hL (i := 1) rfl rfl ?_
    | refine sLdN hL (i := 2) rfl rfl ?_
    | refine sLdN hL (i := 3) rfl rfl ?_
    | refine sLdN hL (i := 4) rfl rfl ?_
    | refine sLdN hL (i := 5) rfl rfl ?_
    | refine sLdS (i := 0) rfl rfl ?_
    | refine sLdS (i := 1) rfl rfl ?_
    | refine sLdS (i := 2) rfl rfl ?_
    | refine sLdS (i := 3) rfl rfl ?_
    | refine sLdS (i := 4) rfl rfl ?_
    | refine sLdS (i := 5) rfl rfl ?_
    | refine rFA ?_)
  refine rSEq <| sIfS (fun _ => ?_) (fun h => absurd rfl h)
  refine rEq <| sIfE (fun _ => ?_) (fun h => absurd rfl h)
  refine rEq ?_
  rw [show ((buildB l).2.2 == (buildB l).2.2) = true by simp]
  exact hK w3 ((f1.more f2).more f3)

theorem law6 {l : List UInt8} : Ret Tryd.prog 6 #[str l] w K := by
  apply F6_ok
  unfold F6
  refine lives_spec hT (fun w1 f1 => ?_)
  refine rNot <| rIfF ?_
  have hL := Lx.of (F := fun _ => False) f1
  refine decode_spec (hT.fr f1) (fun w2 f2 => ?_)
  have hL := hL.more f2
  rw [rdec_eq]
  cases h2 : (rdec l).2 with
  | false =>
    simp only [Bool.false_eq_true, if_false, decV]
    repeat (first
      | refine rFA0 ?_
      | refine rExt0 ?_
      | refine rExt1 ?_
      | refine sExt30 ?_
      | refine sExt31 ?_
      | refine sExt2 ?_
      | refine rIfT ?_
      | refine rIfF ?_
      | refine rNot ?_
      | refine rLenB ?_
      | refine sLd hL (i := 0) rfl rfl ?_
      | refine sLd hL (i := 1) rfl rfl ?_
      | refine sLd hL (i := 2) rfl rfl ?_
      | refine sLd hL (i := 3) rfl rfl ?_
      | refine sLd hL (i := 4) rfl rfl ?_
      | refine sLd hL (i := 5) rfl rfl ?_
      | refine sLdN hL (i := 0) rfl rfl ?_
      | refine sLdN hL (i := 1) rfl rfl ?_
      | refine sLdN hL (i := 2) rfl rfl ?_
      | refine sLdN hL (i := 3) rfl rfl ?_
      | refine sLdN hL (i := 4) rfl rfl ?_
      | refine sLdN hL (i := 5) rfl rfl ?_
      | refine sLdS (i := 0) rfl rfl ?_
      | refine sLdS (i := 1) rfl rfl ?_
      | refine sLdS (i := 2) rfl rfl ?_
      | refine sLdS (i := 3) rfl rfl ?_
      | refine sLdS (i := 4) rfl rfl ?_
      | refine sLdS (i := 5) rfl rfl ?_
      | refine rFA ?_)
    refine sAlloc zc23 hL (fun w3 b3 hL => ?_)
    refine sStN hL (i := 0) rfl rfl (by simp) (Cd.cs_one cd0) (fun w4 hL => ?_)
    have hL : Lx (fun _ => False) w w4 [.blk b3 cd0.cs] := hL
    refine rdecode_spec (fun w5 f5 => ?_)
    have hL := hL.more f5
    rw [h2]
    repeat (first
      | refine rFA0 ?_
      | refine rExt0 ?_
      | refine rExt1 ?_
      | refine sExt30 ?_
      | refine sExt31 ?_
      | refine sExt2 ?_
      | refine rIfT ?_
      | refine rIfF ?_
      | refine rNot ?_
      | refine rLenB ?_
      | refine sLd hL (i := 0) rfl rfl ?_
      | refine sLd hL (i := 1) rfl rfl ?_
      | refine sLd hL (i := 2) rfl rfl ?_
      | refine sLd hL (i := 3) rfl rfl ?_
      | refine sLd hL (i := 4) rfl rfl ?_
      | refine sLd hL (i := 5) rfl rfl ?_
      | refine sLdN hL (i := 0) rfl rfl ?_
      | refine sLdN hL (i := 1) rfl rfl ?_
      | refine sLdN hL (i := 2) rfl rfl ?_
      | refine sLdN hL (i := 3) rfl rfl ?_
      | refine sLdN hL (i := 4) rfl rfl ?_
      | refine sLdN hL (i := 5) rfl rfl ?_
      | refine sLdS (i := 0) rfl rfl ?_
      | refine sLdS (i := 1) rfl rfl ?_
      | refine sLdS (i := 2) rfl rfl ?_
      | refine sLdS (i := 3) rfl rfl ?_
      | refine sLdS (i := 4) rfl rfl ?_
      | refine sLdS (i := 5) rfl rfl ?_
      | refine rFA ?_)
    refine sAlloc zc23 hL (fun w6 b6 hL => ?_)
    refine sStN hL (i := 0) rfl rfl (by simp) (Cd.cs_one _) (fun w7 hL => ?_)
    have hL : Lx (fun _ => False) w w7 [.blk b6 (rdec l).1.cs, .blk b3 cd0.cs] := hL
    refine rNot <| rIfT <| rEq <| rIfT ?_
    repeat (first
      | refine rFA0 ?_
      | refine rExt0 ?_
      | refine rExt1 ?_
      | refine sExt30 ?_
      | refine sExt31 ?_
      | refine sExt2 ?_
      | refine rIfT ?_
      | refine rIfF ?_
      | refine rNot ?_
      | refine rLenB ?_
      | refine sLd hL (i := 0) rfl rfl ?_
      | refine sLd hL (i := 1) rfl rfl ?_
      | refine sLd hL (i := 2) rfl rfl ?_
      | refine sLd hL (i := 3) rfl rfl ?_
      | refine sLd hL (i := 4) rfl rfl ?_
      | refine sLd hL (i := 5) rfl rfl ?_
      | refine sLdN hL (i := 0) rfl rfl ?_
      | refine sLdN hL (i := 1) rfl rfl ?_
      | refine sLdN hL (i := 2) rfl rfl ?_
      | refine sLdN hL (i := 3) rfl rfl ?_
      | refine sLdN hL (i := 4) rfl rfl ?_
      | refine sLdN hL (i := 5) rfl rfl ?_
      | refine sLdS (i := 0) rfl rfl ?_
      | refine sLdS (i := 1) rfl rfl ?_
      | refine sLdS (i := 2) rfl rfl ?_
      | refine sLdS (i := 3) rfl rfl ?_
      | refine sLdS (i := 4) rfl rfl ?_
      | refine sLdS (i := 5) rfl rfl ?_
      | refine rFA ?_)
    refine build48e ?_
    refine rCdEq (x := cd0) (y := cd0) bd0 bd0 (fun b hb => ?_)
    rw [hb.2 rfl]
    exact hK w7 hL.fr
  | true =>
    simp only [if_true, decV]
    have hright : rightB (rdec l).1 = true ∧ enc (rdec l).1 = l := by
      match l, h2 with
      | [p, q, r, t], h2 => exact ⟨h2, enc_decC p q r t⟩
      | [], h2 => cases h2
      | [_], h2 => cases h2
      | [_, _], h2 => cases h2
      | [_, _, _], h2 => cases h2
      | _ :: _ :: _ :: _ :: _ :: _, h2 => cases h2
    have hbd := right_bd hright.1
    have hrn := right_n hright.1
    repeat (first
      | refine rFA0 ?_
      | refine rExt0 ?_
      | refine rExt1 ?_
      | refine sExt30 ?_
      | refine sExt31 ?_
      | refine sExt2 ?_
      | refine rIfT ?_
      | refine rIfF ?_
      | refine rNot ?_
      | refine rLenB ?_
      | refine sLd hL (i := 0) rfl rfl ?_
      | refine sLd hL (i := 1) rfl rfl ?_
      | refine sLd hL (i := 2) rfl rfl ?_
      | refine sLd hL (i := 3) rfl rfl ?_
      | refine sLd hL (i := 4) rfl rfl ?_
      | refine sLd hL (i := 5) rfl rfl ?_
      | refine sLdN hL (i := 0) rfl rfl ?_
      | refine sLdN hL (i := 1) rfl rfl ?_
      | refine sLdN hL (i := 2) rfl rfl ?_
      | refine sLdN hL (i := 3) rfl rfl ?_
      | refine sLdN hL (i := 4) rfl rfl ?_
      | refine sLdN hL (i := 5) rfl rfl ?_
      | refine sLdS (i := 0) rfl rfl ?_
      | refine sLdS (i := 1) rfl rfl ?_
      | refine sLdS (i := 2) rfl rfl ?_
      | refine sLdS (i := 3) rfl rfl ?_
      | refine sLdS (i := 4) rfl rfl ?_
      | refine sLdS (i := 5) rfl rfl ?_
      | refine rFA ?_)
    refine sAlloc zc23 hL (fun w3 b3 hL => ?_)
    refine sStN hL (i := 0) rfl rfl (by simp) (Cd.cs_one _) (fun w4 hL => ?_)
    have hL : Lx (fun _ => False) w w4 [.blk b3 (rdec l).1.cs] := hL
    refine rdecode_spec (fun w5 f5 => ?_)
    have hL := hL.more f5
    rw [h2]
    repeat (first
      | refine rFA0 ?_
      | refine rExt0 ?_
      | refine rExt1 ?_
      | refine sExt30 ?_
      | refine sExt31 ?_
      | refine sExt2 ?_
      | refine rIfT ?_
      | refine rIfF ?_
      | refine rNot ?_
      | refine rLenB ?_
      | refine sLd hL (i := 0) rfl rfl ?_
      | refine sLd hL (i := 1) rfl rfl ?_
      | refine sLd hL (i := 2) rfl rfl ?_
      | refine sLd hL (i := 3) rfl rfl ?_
      | refine sLd hL (i := 4) rfl rfl ?_
      | refine sLd hL (i := 5) rfl rfl ?_
      | refine sLdN hL (i := 0) rfl rfl ?_
      | refine sLdN hL (i := 1) rfl rfl ?_
      | refine sLdN hL (i := 2) rfl rfl ?_
      | refine sLdN hL (i := 3) rfl rfl ?_
      | refine sLdN hL (i := 4) rfl rfl ?_
      | refine sLdN hL (i := 5) rfl rfl ?_
      | refine sLdS (i := 0) rfl rfl ?_
      | refine sLdS (i := 1) rfl rfl ?_
      | refine sLdS (i := 2) rfl rfl ?_
      | refine sLdS (i := 3) rfl rfl ?_
      | refine sLdS (i := 4) rfl rfl ?_
      | refine sLdS (i := 5) rfl rfl ?_
      | refine rFA ?_)
    refine sAlloc zc23 hL (fun w6 b6 hL => ?_)
    refine sStN hL (i := 0) rfl rfl (by simp) (Cd.cs_one _) (fun w7 hL => ?_)
    have hL : Lx (fun _ => False) w w7 [.blk b6 (rdec l).1.cs, .blk b3 (rdec l).1.cs] := hL
    refine rNot <| rIfF <| rEq <| rIfT ?_
    repeat (first
      | refine rFA0 ?_
      | refine rExt0 ?_
      | refine rExt1 ?_
      | refine sExt30 ?_
      | refine sExt31 ?_
      | refine sExt2 ?_
      | refine rIfT ?_
      | refine rIfF ?_
      | refine rNot ?_
      | refine rLenB ?_
      | refine sLd hL (i := 0) rfl rfl ?_
      | refine sLd hL (i := 1) rfl rfl ?_
      | refine sLd hL (i := 2) rfl rfl ?_
      | refine sLd hL (i := 3) rfl rfl ?_
      | refine sLd hL (i := 4) rfl rfl ?_
      | refine sLd hL (i := 5) rfl rfl ?_
      | refine sLdN hL (i := 0) rfl rfl ?_
      | refine sLdN hL (i := 1) rfl rfl ?_
      | refine sLdN hL (i := 2) rfl rfl ?_
      | refine sLdN hL (i := 3) rfl rfl ?_
      | refine sLdN hL (i := 4) rfl rfl ?_
      | refine sLdN hL (i := 5) rfl rfl ?_
      | refine sLdS (i := 0) rfl rfl ?_
      | refine sLdS (i := 1) rfl rfl ?_
      | refine sLdS (i := 2) rfl rfl ?_
      | refine sLdS (i := 3) rfl rfl ?_
      | refine sLdS (i := 4) rfl rfl ?_
      | refine sLdS (i := 5) rfl rfl ?_
      | refine rFA ?_)
    refine rCdEq (x := (rdec l).1) (y := (rdec l).1) hbd hbd (fun b hb => ?_)
    rw [hb.2 rfl]
    refine rIfT ?_
    repeat (first
      | refine rFA0 ?_
      | refine rExt0 ?_
      | refine rExt1 ?_
      | refine sExt30 ?_
      | refine sExt31 ?_
      | refine sExt2 ?_
      | refine rIfT ?_
      | refine rIfF ?_
      | refine rNot ?_
      | refine rLenB ?_
      | refine sLd hL (i := 0) rfl rfl ?_
      | refine sLd hL (i := 1) rfl rfl ?_
      | refine sLd hL (i := 2) rfl rfl ?_
      | refine sLd hL (i := 3) rfl rfl ?_
      | refine sLd hL (i := 4) rfl rfl ?_
      | refine sLd hL (i := 5) rfl rfl ?_
      | refine sLdN hL (i := 0) rfl rfl ?_
      | refine sLdN hL (i := 1) rfl rfl ?_
      | refine sLdN hL (i := 2) rfl rfl ?_
      | refine sLdN hL (i := 3) rfl rfl ?_
      | refine sLdN hL (i := 4) rfl rfl ?_
      | refine sLdN hL (i := 5) rfl rfl ?_
      | refine sLdS (i := 0) rfl rfl ?_
      | refine sLdS (i := 1) rfl rfl ?_
      | refine sLdS (i := 2) rfl rfl ?_
      | refine sLdS (i := 3) rfl rfl ?_
      | refine sLdS (i := 4) rfl rfl ?_
      | refine sLdS (i := 5) rfl rfl ?_
      | refine rFA ?_)
    refine rencode_spec (x := (rdec l).1) hrn.1 hrn.2 (fun w8 f8 => ?_)
    refine rSEq ?_
    rw [show (enc (rdec l).1 == l) = true by rw [hright.2]; simp]
    exact hK w8 (hL.more f8).fr

theorem law7 {x y : Cd} (hx1 : -9223372036854775808 ≤ x.n) (hx2 : x.n < 9223372036854775808) (hy1 : -9223372036854775808 ≤ y.n) (hy2 : y.n < 9223372036854775808) : Ret Tryd.prog 7 #[x.v, y.v] w K := by
  apply F7_ok
  unfold F7
  have hL := Lx.start (fun _ => False) w
  refine sBox hL (fun w1 b1 hL => ?_)
  refine sBox hL (fun w2 b2 hL => ?_)
  have hL : Lx (fun _ => False) w w2 [.blk b2 y.cs, .blk b1 x.cs] := hL
  refine lives_spec (hT.fr hL.fr) (fun w3 f3 => ?_)
  have hL := hL.more f3
  refine rNot <| rIfF ?_
  refine sJoin ?_
  repeat (first
    | refine rFA0 ?_
    | refine rExt0 ?_
    | refine rExt1 ?_
    | refine sExt30 ?_
    | refine sExt31 ?_
    | refine sExt2 ?_
    | refine rIfT ?_
    | refine rIfF ?_
    | refine rNot ?_
    | refine rLenB ?_
    | refine sLd hL (i := 0) rfl rfl ?_
    | refine sLd hL (i := 1) rfl rfl ?_
    | refine sLd hL (i := 2) rfl rfl ?_
    | refine sLd hL (i := 3) rfl rfl ?_
    | refine sLd hL (i := 4) rfl rfl ?_
    | refine sLd hL (i := 5) rfl rfl ?_
    | refine sLdN hL (i := 0) rfl rfl ?_
    | refine sLdN hL (i := 1) rfl rfl ?_
    | refine sLdN hL (i := 2) rfl rfl ?_
    | refine sLdN hL (i := 3) rfl rfl ?_
    | refine sLdN hL (i := 4) rfl rfl ?_
    | refine sLdN hL (i := 5) rfl rfl ?_
    | refine sLdS (i := 0) rfl rfl ?_
    | refine sLdS (i := 1) rfl rfl ?_
    | refine sLdS (i := 2) rfl rfl ?_
    | refine sLdS (i := 3) rfl rfl ?_
    | refine sLdS (i := 4) rfl rfl ?_
    | refine sLdS (i := 5) rfl rfl ?_
    | refine rFA ?_)
  refine right_spec (x := x) (hT.fr hL.fr) hx1 hx2 (fun w4 f4 => ?_)
  have hL := hL.more f4
  refine rNot <| sIfN (fun h => ?_) (fun hx => ?_)
  · intro ρ hρ
    simp only [List.map_cons, List.map_nil, List.cons.injEq, and_true] at hρ
    obtain ⟨e2, e3, e26⟩ := hρ
    unfold F7J1
    simp only [e2, e3, e26]
    refine rIfT ?_
    exact hK w4 hL.fr
  repeat (first
    | refine rFA0 ?_
    | refine rExt0 ?_
    | refine rExt1 ?_
    | refine sExt30 ?_
    | refine sExt31 ?_
    | refine sExt2 ?_
    | refine rIfT ?_
    | refine rIfF ?_
    | refine rNot ?_
    | refine rLenB ?_
    | refine sLd hL (i := 0) rfl rfl ?_
    | refine sLd hL (i := 1) rfl rfl ?_
    | refine sLd hL (i := 2) rfl rfl ?_
    | refine sLd hL (i := 3) rfl rfl ?_
    | refine sLd hL (i := 4) rfl rfl ?_
    | refine sLd hL (i := 5) rfl rfl ?_
    | refine sLdN hL (i := 0) rfl rfl ?_
    | refine sLdN hL (i := 1) rfl rfl ?_
    | refine sLdN hL (i := 2) rfl rfl ?_
    | refine sLdN hL (i := 3) rfl rfl ?_
    | refine sLdN hL (i := 4) rfl rfl ?_
    | refine sLdN hL (i := 5) rfl rfl ?_
    | refine sLdS (i := 0) rfl rfl ?_
    | refine sLdS (i := 1) rfl rfl ?_
    | refine sLdS (i := 2) rfl rfl ?_
    | refine sLdS (i := 3) rfl rfl ?_
    | refine sLdS (i := 4) rfl rfl ?_
    | refine sLdS (i := 5) rfl rfl ?_
    | refine rFA ?_)
  refine right_spec (x := y) (hT.fr hL.fr) hy1 hy2 (fun w5 f5 => ?_)
  have hL := hL.more f5
  refine rNot ?_
  intro ρ hρ
  simp only [List.map_cons, List.map_nil, List.cons.injEq, and_true] at hρ
  obtain ⟨e2, e3, e26⟩ := hρ
  unfold F7J1
  simp only [e2, e3, e26]
  refine sIfN (fun h => ?_) (fun hy => ?_)
  · exact hK w5 hL.fr
  have bx := right_bd hx
  have by' := right_bd hy
  repeat (first
    | refine rFA0 ?_
    | refine rExt0 ?_
    | refine rExt1 ?_
    | refine sExt30 ?_
    | refine sExt31 ?_
    | refine sExt2 ?_
    | refine rIfT ?_
    | refine rIfF ?_
    | refine rNot ?_
    | refine rLenB ?_
    | refine sLd hL (i := 0) rfl rfl ?_
    | refine sLd hL (i := 1) rfl rfl ?_
    | refine sLd hL (i := 2) rfl rfl ?_
    | refine sLd hL (i := 3) rfl rfl ?_
    | refine sLd hL (i := 4) rfl rfl ?_
    | refine sLd hL (i := 5) rfl rfl ?_
    | refine sLdN hL (i := 0) rfl rfl ?_
    | refine sLdN hL (i := 1) rfl rfl ?_
    | refine sLdN hL (i := 2) rfl rfl ?_
    | refine sLdN hL (i := 3) rfl rfl ?_
    | refine sLdN hL (i := 4) rfl rfl ?_
    | refine sLdN hL (i := 5) rfl rfl ?_
    | refine sLdS (i := 0) rfl rfl ?_
    | refine sLdS (i := 1) rfl rfl ?_
    | refine sLdS (i := 2) rfl rfl ?_
    | refine sLdS (i := 3) rfl rfl ?_
    | refine sLdS (i := 4) rfl rfl ?_
    | refine sLdS (i := 5) rfl rfl ?_
    | refine rFA ?_)
  refine encode_spec (x := x) (hT.fr hL.fr) hx1 hx2 (fun w6 f6 => ?_)
  have hL := hL.more f6
  rw [if_pos hx]
  repeat (first
    | refine rFA0 ?_
    | refine rExt0 ?_
    | refine rExt1 ?_
    | refine sExt30 ?_
    | refine sExt31 ?_
    | refine sExt2 ?_
    | refine rIfT ?_
    | refine rIfF ?_
    | refine rNot ?_
    | refine rLenB ?_
    | refine sLd hL (i := 0) rfl rfl ?_
    | refine sLd hL (i := 1) rfl rfl ?_
    | refine sLd hL (i := 2) rfl rfl ?_
    | refine sLd hL (i := 3) rfl rfl ?_
    | refine sLd hL (i := 4) rfl rfl ?_
    | refine sLd hL (i := 5) rfl rfl ?_
    | refine sLdN hL (i := 0) rfl rfl ?_
    | refine sLdN hL (i := 1) rfl rfl ?_
    | refine sLdN hL (i := 2) rfl rfl ?_
    | refine sLdN hL (i := 3) rfl rfl ?_
    | refine sLdN hL (i := 4) rfl rfl ?_
    | refine sLdN hL (i := 5) rfl rfl ?_
    | refine sLdS (i := 0) rfl rfl ?_
    | refine sLdS (i := 1) rfl rfl ?_
    | refine sLdS (i := 2) rfl rfl ?_
    | refine sLdS (i := 3) rfl rfl ?_
    | refine sLdS (i := 4) rfl rfl ?_
    | refine sLdS (i := 5) rfl rfl ?_
    | refine rFA ?_)
  refine text_spec (x := x) (hT.fr hL.fr) hx1 hx2 (fun w7 f7 => ?_)
  have hL := hL.more f7
  rw [if_pos hx]
  repeat (first
    | refine rFA0 ?_
    | refine rExt0 ?_
    | refine rExt1 ?_
    | refine sExt30 ?_
    | refine sExt31 ?_
    | refine sExt2 ?_
    | refine rIfT ?_
    | refine rIfF ?_
    | refine rNot ?_
    | refine rLenB ?_
    | refine sLd hL (i := 0) rfl rfl ?_
    | refine sLd hL (i := 1) rfl rfl ?_
    | refine sLd hL (i := 2) rfl rfl ?_
    | refine sLd hL (i := 3) rfl rfl ?_
    | refine sLd hL (i := 4) rfl rfl ?_
    | refine sLd hL (i := 5) rfl rfl ?_
    | refine sLdN hL (i := 0) rfl rfl ?_
    | refine sLdN hL (i := 1) rfl rfl ?_
    | refine sLdN hL (i := 2) rfl rfl ?_
    | refine sLdN hL (i := 3) rfl rfl ?_
    | refine sLdN hL (i := 4) rfl rfl ?_
    | refine sLdN hL (i := 5) rfl rfl ?_
    | refine sLdS (i := 0) rfl rfl ?_
    | refine sLdS (i := 1) rfl rfl ?_
    | refine sLdS (i := 2) rfl rfl ?_
    | refine sLdS (i := 3) rfl rfl ?_
    | refine sLdS (i := 4) rfl rfl ?_
    | refine sLdS (i := 5) rfl rfl ?_
    | refine rFA ?_)
  refine encode_spec (x := y) (hT.fr hL.fr) hy1 hy2 (fun w8 f8 => ?_)
  have hL := hL.more f8
  rw [if_pos hy]
  repeat (first
    | refine rFA0 ?_
    | refine rExt0 ?_
    | refine rExt1 ?_
    | refine sExt30 ?_
    | refine sExt31 ?_
    | refine sExt2 ?_
    | refine rIfT ?_
    | refine rIfF ?_
    | refine rNot ?_
    | refine rLenB ?_
    | refine sLd hL (i := 0) rfl rfl ?_
    | refine sLd hL (i := 1) rfl rfl ?_
    | refine sLd hL (i := 2) rfl rfl ?_
    | refine sLd hL (i := 3) rfl rfl ?_
    | refine sLd hL (i := 4) rfl rfl ?_
    | refine sLd hL (i := 5) rfl rfl ?_
    | refine sLdN hL (i := 0) rfl rfl ?_
    | refine sLdN hL (i := 1) rfl rfl ?_
    | refine sLdN hL (i := 2) rfl rfl ?_
    | refine sLdN hL (i := 3) rfl rfl ?_
    | refine sLdN hL (i := 4) rfl rfl ?_
    | refine sLdN hL (i := 5) rfl rfl ?_
    | refine sLdS (i := 0) rfl rfl ?_
    | refine sLdS (i := 1) rfl rfl ?_
    | refine sLdS (i := 2) rfl rfl ?_
    | refine sLdS (i := 3) rfl rfl ?_
    | refine sLdS (i := 4) rfl rfl ?_
    | refine sLdS (i := 5) rfl rfl ?_
    | refine rFA ?_)
  refine text_spec (x := y) (hT.fr hL.fr) hy1 hy2 (fun w9 f9 => ?_)
  have hL := hL.more f9
  rw [if_pos hy]
  repeat (first
    | refine rFA0 ?_
    | refine rExt0 ?_
    | refine rExt1 ?_
    | refine sExt30 ?_
    | refine sExt31 ?_
    | refine sExt2 ?_
    | refine rIfT ?_
    | refine rIfF ?_
    | refine rNot ?_
    | refine rLenB ?_
    | refine sLd hL (i := 0) rfl rfl ?_
    | refine sLd hL (i := 1) rfl rfl ?_
    | refine sLd hL (i := 2) rfl rfl ?_
    | refine sLd hL (i := 3) rfl rfl ?_
    | refine sLd hL (i := 4) rfl rfl ?_
    | refine sLd hL (i := 5) rfl rfl ?_
    | refine sLdN hL (i := 0) rfl rfl ?_
    | refine sLdN hL (i := 1) rfl rfl ?_
    | refine sLdN hL (i := 2) rfl rfl ?_
    | refine sLdN hL (i := 3) rfl rfl ?_
    | refine sLdN hL (i := 4) rfl rfl ?_
    | refine sLdN hL (i := 5) rfl rfl ?_
    | refine sLdS (i := 0) rfl rfl ?_
    | refine sLdS (i := 1) rfl rfl ?_
    | refine sLdS (i := 2) rfl rfl ?_
    | refine sLdS (i := 3) rfl rfl ?_
    | refine sLdS (i := 4) rfl rfl ?_
    | refine sLdS (i := 5) rfl rfl ?_
    | refine rFA ?_)
  refine decode_spec (hT.fr hL.fr) (fun w10 f10 => ?_)
  have hL := hL.more f10
  rw [decode_enc hx]
  simp only [decV]
  repeat (first
    | refine rFA0 ?_
    | refine rExt0 ?_
    | refine rExt1 ?_
    | refine sExt30 ?_
    | refine sExt31 ?_
    | refine sExt2 ?_
    | refine rIfT ?_
    | refine rIfF ?_
    | refine rNot ?_
    | refine rLenB ?_
    | refine sLd hL (i := 0) rfl rfl ?_
    | refine sLd hL (i := 1) rfl rfl ?_
    | refine sLd hL (i := 2) rfl rfl ?_
    | refine sLd hL (i := 3) rfl rfl ?_
    | refine sLd hL (i := 4) rfl rfl ?_
    | refine sLd hL (i := 5) rfl rfl ?_
    | refine sLdN hL (i := 0) rfl rfl ?_
    | refine sLdN hL (i := 1) rfl rfl ?_
    | refine sLdN hL (i := 2) rfl rfl ?_
    | refine sLdN hL (i := 3) rfl rfl ?_
    | refine sLdN hL (i := 4) rfl rfl ?_
    | refine sLdN hL (i := 5) rfl rfl ?_
    | refine sLdS (i := 0) rfl rfl ?_
    | refine sLdS (i := 1) rfl rfl ?_
    | refine sLdS (i := 2) rfl rfl ?_
    | refine sLdS (i := 3) rfl rfl ?_
    | refine sLdS (i := 4) rfl rfl ?_
    | refine sLdS (i := 5) rfl rfl ?_
    | refine rFA ?_)
  refine sAlloc zc23 hL (fun w11 b11 hL => ?_)
  refine sStN hL (i := 0) rfl rfl (by simp) (Cd.cs_one _) (fun w12 hL => ?_)
  have hL : Lx (fun _ => False) w w12 [.blk b11 x.cs, .blk b2 y.cs, .blk b1 x.cs] := hL
  have hsays : Says (txt x) x := ⟨hx, rfl⟩
  refine parse_spec (hT.fr hL.fr) (by have := txt_len hx; omega) (fun z hz w13 f13 => ?_) (fun hno => absurd hsays (hno x))
  obtain rfl := hz.uniq hsays
  have hL := hL.more f13
  repeat (first
    | refine rFA0 ?_
    | refine rExt0 ?_
    | refine rExt1 ?_
    | refine sExt30 ?_
    | refine sExt31 ?_
    | refine sExt2 ?_
    | refine rIfT ?_
    | refine rIfF ?_
    | refine rNot ?_
    | refine rLenB ?_
    | refine sLd hL (i := 0) rfl rfl ?_
    | refine sLd hL (i := 1) rfl rfl ?_
    | refine sLd hL (i := 2) rfl rfl ?_
    | refine sLd hL (i := 3) rfl rfl ?_
    | refine sLd hL (i := 4) rfl rfl ?_
    | refine sLd hL (i := 5) rfl rfl ?_
    | refine sLdN hL (i := 0) rfl rfl ?_
    | refine sLdN hL (i := 1) rfl rfl ?_
    | refine sLdN hL (i := 2) rfl rfl ?_
    | refine sLdN hL (i := 3) rfl rfl ?_
    | refine sLdN hL (i := 4) rfl rfl ?_
    | refine sLdN hL (i := 5) rfl rfl ?_
    | refine sLdS (i := 0) rfl rfl ?_
    | refine sLdS (i := 1) rfl rfl ?_
    | refine sLdS (i := 2) rfl rfl ?_
    | refine sLdS (i := 3) rfl rfl ?_
    | refine sLdS (i := 4) rfl rfl ?_
    | refine sLdS (i := 5) rfl rfl ?_
    | refine rFA ?_)
  refine sAlloc zc23 hL (fun w14 b14 hL => ?_)
  refine sStN hL (i := 0) rfl rfl (by simp) (Cd.cs_one _) (fun w15 hL => ?_)
  have hL : Lx (fun _ => False) w w15 [.blk b14 z.cs, .blk b11 z.cs, .blk b2 y.cs, .blk b1 z.cs] := hL
  refine rEq <| rIfT <| rEq <| rIfT ?_
  repeat (first
    | refine rFA0 ?_
    | refine rExt0 ?_
    | refine rExt1 ?_
    | refine sExt30 ?_
    | refine sExt31 ?_
    | refine sExt2 ?_
    | refine rIfT ?_
    | refine rIfF ?_
    | refine rNot ?_
    | refine rLenB ?_
    | refine sLd hL (i := 0) rfl rfl ?_
    | refine sLd hL (i := 1) rfl rfl ?_
    | refine sLd hL (i := 2) rfl rfl ?_
    | refine sLd hL (i := 3) rfl rfl ?_
    | refine sLd hL (i := 4) rfl rfl ?_
    | refine sLd hL (i := 5) rfl rfl ?_
    | refine sLdN hL (i := 0) rfl rfl ?_
    | refine sLdN hL (i := 1) rfl rfl ?_
    | refine sLdN hL (i := 2) rfl rfl ?_
    | refine sLdN hL (i := 3) rfl rfl ?_
    | refine sLdN hL (i := 4) rfl rfl ?_
    | refine sLdN hL (i := 5) rfl rfl ?_
    | refine sLdS (i := 0) rfl rfl ?_
    | refine sLdS (i := 1) rfl rfl ?_
    | refine sLdS (i := 2) rfl rfl ?_
    | refine sLdS (i := 3) rfl rfl ?_
    | refine sLdS (i := 4) rfl rfl ?_
    | refine sLdS (i := 5) rfl rfl ?_
    | refine rFA ?_)
  refine rCdEq (x := z) (y := z) bx bx (fun b hb => ?_)
  rw [hb.2 rfl]
  refine rIfT ?_
  repeat (first
    | refine rFA0 ?_
    | refine rExt0 ?_
    | refine rExt1 ?_
    | refine sExt30 ?_
    | refine sExt31 ?_
    | refine sExt2 ?_
    | refine rIfT ?_
    | refine rIfF ?_
    | refine rNot ?_
    | refine rLenB ?_
    | refine sLd hL (i := 0) rfl rfl ?_
    | refine sLd hL (i := 1) rfl rfl ?_
    | refine sLd hL (i := 2) rfl rfl ?_
    | refine sLd hL (i := 3) rfl rfl ?_
    | refine sLd hL (i := 4) rfl rfl ?_
    | refine sLd hL (i := 5) rfl rfl ?_
    | refine sLdN hL (i := 0) rfl rfl ?_
    | refine sLdN hL (i := 1) rfl rfl ?_
    | refine sLdN hL (i := 2) rfl rfl ?_
    | refine sLdN hL (i := 3) rfl rfl ?_
    | refine sLdN hL (i := 4) rfl rfl ?_
    | refine sLdN hL (i := 5) rfl rfl ?_
    | refine sLdS (i := 0) rfl rfl ?_
    | refine sLdS (i := 1) rfl rfl ?_
    | refine sLdS (i := 2) rfl rfl ?_
    | refine sLdS (i := 3) rfl rfl ?_
    | refine sLdS (i := 4) rfl rfl ?_
    | refine sLdS (i := 5) rfl rfl ?_
    | refine rFA ?_)
  refine rCdEq (x := z) (y := z) bx bx (fun b hb => ?_)
  rw [hb.2 rfl]
  refine rIfT ?_
  repeat (first
    | refine rFA0 ?_
    | refine rExt0 ?_
    | refine rExt1 ?_
    | refine sExt30 ?_
    | refine sExt31 ?_
    | refine sExt2 ?_
    | refine rIfT ?_
    | refine rIfF ?_
    | refine rNot ?_
    | refine rLenB ?_
    | refine sLd hL (i := 0) rfl rfl ?_
    | refine sLd hL (i := 1) rfl rfl ?_
    | refine sLd hL (i := 2) rfl rfl ?_
    | refine sLd hL (i := 3) rfl rfl ?_
    | refine sLd hL (i := 4) rfl rfl ?_
    | refine sLd hL (i := 5) rfl rfl ?_
    | refine sLdN hL (i := 0) rfl rfl ?_
    | refine sLdN hL (i := 1) rfl rfl ?_
    | refine sLdN hL (i := 2) rfl rfl ?_
    | refine sLdN hL (i := 3) rfl rfl ?_
    | refine sLdN hL (i := 4) rfl rfl ?_
    | refine sLdN hL (i := 5) rfl rfl ?_
    | refine sLdS (i := 0) rfl rfl ?_
    | refine sLdS (i := 1) rfl rfl ?_
    | refine sLdS (i := 2) rfl rfl ?_
    | refine sLdS (i := 3) rfl rfl ?_
    | refine sLdS (i := 4) rfl rfl ?_
    | refine sLdS (i := 5) rfl rfl ?_
    | refine rFA ?_)
  refine rEq <| rIfT ?_
  refine rSEq ?_
  repeat (first
    | refine rFA0 ?_
    | refine rExt0 ?_
    | refine rExt1 ?_
    | refine sExt30 ?_
    | refine sExt31 ?_
    | refine sExt2 ?_
    | refine rIfT ?_
    | refine rIfF ?_
    | refine rNot ?_
    | refine rLenB ?_
    | refine sLd hL (i := 0) rfl rfl ?_
    | refine sLd hL (i := 1) rfl rfl ?_
    | refine sLd hL (i := 2) rfl rfl ?_
    | refine sLd hL (i := 3) rfl rfl ?_
    | refine sLd hL (i := 4) rfl rfl ?_
    | refine sLd hL (i := 5) rfl rfl ?_
    | refine sLdN hL (i := 0) rfl rfl ?_
    | refine sLdN hL (i := 1) rfl rfl ?_
    | refine sLdN hL (i := 2) rfl rfl ?_
    | refine sLdN hL (i := 3) rfl rfl ?_
    | refine sLdN hL (i := 4) rfl rfl ?_
    | refine sLdN hL (i := 5) rfl rfl ?_
    | refine sLdS (i := 0) rfl rfl ?_
    | refine sLdS (i := 1) rfl rfl ?_
    | refine sLdS (i := 2) rfl rfl ?_
    | refine sLdS (i := 3) rfl rfl ?_
    | refine sLdS (i := 4) rfl rfl ?_
    | refine sLdS (i := 5) rfl rfl ?_
    | refine rFA ?_)
  refine rCdEq (x := z) (y := y) bx by' (fun b hb => ?_)
  refine rEqB ?_
  have e1 : ((enc z == enc y) == b) = true := by
    rw [beq_iff_eq, Bool.eq_iff_iff, hb, beq_iff_eq]
    exact ⟨fun h => enc_inj hx hy h, fun h => by rw [h]⟩
  rw [e1]
  refine rIfT ?_
  refine rSEq ?_
  repeat (first
    | refine rFA0 ?_
    | refine rExt0 ?_
    | refine rExt1 ?_
    | refine sExt30 ?_
    | refine sExt31 ?_
    | refine sExt2 ?_
    | refine rIfT ?_
    | refine rIfF ?_
    | refine rNot ?_
    | refine rLenB ?_
    | refine sLd hL (i := 0) rfl rfl ?_
    | refine sLd hL (i := 1) rfl rfl ?_
    | refine sLd hL (i := 2) rfl rfl ?_
    | refine sLd hL (i := 3) rfl rfl ?_
    | refine sLd hL (i := 4) rfl rfl ?_
    | refine sLd hL (i := 5) rfl rfl ?_
    | refine sLdN hL (i := 0) rfl rfl ?_
    | refine sLdN hL (i := 1) rfl rfl ?_
    | refine sLdN hL (i := 2) rfl rfl ?_
    | refine sLdN hL (i := 3) rfl rfl ?_
    | refine sLdN hL (i := 4) rfl rfl ?_
    | refine sLdN hL (i := 5) rfl rfl ?_
    | refine sLdS (i := 0) rfl rfl ?_
    | refine sLdS (i := 1) rfl rfl ?_
    | refine sLdS (i := 2) rfl rfl ?_
    | refine sLdS (i := 3) rfl rfl ?_
    | refine sLdS (i := 4) rfl rfl ?_
    | refine sLdS (i := 5) rfl rfl ?_
    | refine rFA ?_)
  refine rCdEq (x := z) (y := y) bx by' (fun b hb => ?_)
  refine rEqB ?_
  have e2 : ((txt z == txt y) == b) = true := by
    rw [beq_iff_eq, Bool.eq_iff_iff, hb, beq_iff_eq]
    exact ⟨fun h => txt_inj hx hy h, fun h => by rw [h]⟩
  rw [e2]
  exact hK w15 hL.fr
end

end Go.Proofs.YtnmmpgeojimgoaaDoor
