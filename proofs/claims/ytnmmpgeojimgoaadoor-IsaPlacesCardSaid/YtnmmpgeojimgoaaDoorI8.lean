/-
  Isa, part 8: the document's numbers and texts. Own work.
-/
import Derived.Test.YtnmmpgeojimgoaaDoorI7
set_option linter.unusedVariables false
set_option linter.unusedSimpArgs false
set_option maxRecDepth 100000
namespace Go.Proofs.YtnmmpgeojimgoaaDoor
open Go Go.V Go.RowKit

theorem dec_step (m : Nat) : Lib.decDigits m = (if m / 10 = 0 then [] else Lib.decDigits (m / 10)) ++ [UInt8.ofNat (48 + m % 10)] := by
  rw [Lib.decDigits]
  by_cases h : m < 10
  · rw [dif_pos h, if_pos (by omega), Nat.mod_eq_of_lt h]; rfl
  · rw [dif_neg h, if_neg (by omega)]

theorem bs_str1 {w : World} {b : UInt8} {K : Value → World → Prop} (hK : ∀ w', Fr (fun _ => False) w w' → K (str [b]) w') : vBuildSlice Tryd.prog 54 1 [(0, .int .u8 b.toNat)] w fun v w => vB2S v w fun v => K v w :=
  bs38_1 fun w' v hb f _ => hb.toStr (hK w' f)

/-- gatehouseref01.Digits -/
theorem digits_spec {w : World} {n : Nat} {K : Value → World → Prop} (hn : n < 9223372036854775808) (hK : ∀ w', Fr (fun _ => False) w w' → K (str (Lib.decDigits n)) w') : CallK Tryd.prog 47 #[it n] w K := by
  apply Ret.call
  apply F47_ok
  unfold F47
  refine rLt <| sIfD (fun h => absurd h (by omega)) (fun _ => ?_)
  refine ⟨fun vs ds W => ds = [] ∧ Fr (fun _ => False) w W ∧ ∃ (m : Nat) (s : List UInt8), vs = [it m, str s] ∧ m < 9223372036854775808 ∧ s.length < 100 ∧ Lib.decDigits m ++ s = Lib.decDigits n,
    fun vs _ _ => match vs with | [.int _ m, _] => m.toNat | _ => 0, ⟨rfl, Fr.refl _ _, n, [], rfl, hn, by simp, by simp⟩, ?_⟩
  rintro ρ ds W ⟨rfl, f, m, s, hρ, hm, hs, hd⟩
  rw [hρ]
  simp only [List.map_cons, List.map_nil, List.cons.injEq, and_true] at hρ
  obtain ⟨e0, e3⟩ := hρ
  unfold F47L1
  simp only [e0, e3]
  refine sRem (by decide) ?_
  have e1 : (m : Int).tmod 10 = ((m % 10 : Nat) : Int) := by
    rw [Int.tmod_eq_emod_of_nonneg (by omega)]; omega
  rw [e1]
  refine rAdd (by omega) (by omega) <| sCv ?_
  have e2 : IntKind.u8.wrap (48 + ((m % 10 : Nat) : Int)) = ((UInt8.ofNat (48 + m % 10)).toNat : Int) := by
    rw [← wrap_u8]; congr 1
  rw [e2]
  refine bs_str1 (fun w1 f1 => ?_)
  have hlen : Lib.nDigits n ≤ 20 := Lib.nDigits_le20 n (by omega)
  have hl2 := congrArg List.length hd
  rw [List.length_append, Lib.decDigits_length, Lib.decDigits_length] at hl2
  have hp := Lib.nDigits_pos m
  refine sAddS (by simp; omega) ?_
  refine sQuo (by omega) (by omega) (by decide) ?_
  have e3 : (m : Int).tdiv 10 = ((m / 10 : Nat) : Int) := by
    rw [Int.tdiv_eq_ediv_of_nonneg (by omega)]; omega
  rw [e3]
  rw [dec_step m, List.append_assoc] at hd
  refine rEq <| sIfE (fun h => ?_) (fun h => ?_)
  · have h : m / 10 = 0 := by omega
    rw [if_pos h] at hd
    have := hK w1 (f.more f1)
    rw [← hd] at this
    exact this
  · have h : m / 10 ≠ 0 := by omega
    rw [if_neg h] at hd
    refine ⟨⟨by trivial, f.more f1, m / 10, UInt8.ofNat (48 + m % 10) :: s, rfl, by omega, ?_, hd⟩, ?_⟩
    · simp; omega
    · simp only [Int.toNat_natCast]; omega

theorem r_spec {w : World} {n : Int} {K : Value → World → Prop} (h0 : 0 ≤ n) (h1 : n < 9223372036854775808) (hK : ∀ w', Fr (fun _ => False) w w' → K (str (32 :: regT n)) w') : CallK Tryd.prog 32 #[it n] w K := by
  apply Ret.call
  apply F32_ok
  unfold F32
  obtain ⟨m, rfl⟩ := Int.eq_ofNat_of_zero_le h0
  refine digits_spec (by omega) (fun w1 f1 => ?_)
  have hl := itoa_len (n := (m : Int)) (by omega) h1
  have e : Lib.itoa (m : Int) = Lib.decDigits m := by unfold Lib.itoa; rw [if_neg (by omega), Int.toNat_natCast]
  rw [e] at hl
  refine sAddS (a := [32, 114]) (by simp; omega) ?_
  have := hK w1 f1
  unfold regT at this
  rw [e] at this
  exact this

theorem number_spec {w : World} {n : Int} {K : Value → World → Prop} (h0 : -9223372036854775807 ≤ n) (h1 : n < 9223372036854775808) (hK : ∀ w', Fr (fun _ => False) w w' → K (str (Lib.itoa n)) w') : CallK Tryd.prog 33 #[it n] w K := by
  apply Ret.call
  apply F33_ok
  unfold F33
  have hl := itoa_len (n := n) (by omega) h1
  refine rLt <| sIfD (fun h => ?_) (fun h => ?_)
  · have e : Lib.itoa n = 45 :: Lib.decDigits n.natAbs := by unfold Lib.itoa; rw [if_pos h]
    show vUn .neg (it n) _
    have e1 : IntKind.i64.wrap (0 - n) = (n.natAbs : Int) := by rw [wrap_id (by omega) (by omega)]; omega
    show (fun v6 => CallK Tryd.prog 47 #[v6] w _) (it (IntKind.i64.wrap (0 - n)))
    rw [e1]
    refine digits_spec (by omega) (fun w1 f1 => ?_)
    rw [e] at hl
    refine sAddS (a := [45]) (by simpa using (show 1 + (Lib.decDigits n.natAbs).length < 9223372036854775808 by simp at hl; omega)) ?_
    have := hK w1 f1
    rw [e] at this
    exact this
  · obtain ⟨m, rfl⟩ := Int.eq_ofNat_of_zero_le (show 0 ≤ n by omega)
    refine digits_spec (by omega) (fun w1 f1 => ?_)
    have e : Lib.itoa (m : Int) = Lib.decDigits m := by unfold Lib.itoa; rw [if_neg (by omega), Int.toNat_natCast]
    have := hK w1 f1
    rw [e] at this
    exact this

theorem txt_parts (x : Cd) : txt x = opName x.op ++ (((regsOf x).map fun r => 32 :: regT r).flatten ++ if shNum x.op = 0 then [] else 32 :: Lib.itoa x.n) := by
  unfold txt txtWords
  rw [List.cons_append, Lib.join_cons]
  congr 1
  unfold Lib.joinTail
  rw [List.map_append, List.flatten_append, List.map_map]
  congr 1
  split <;> simp

theorem regs1 {x : Cd} (h : shRegs x.op = 1) : regsOf x = [x.a] := by unfold regsOf; rw [h]; rfl
theorem regs2 {x : Cd} (h : shRegs x.op = 2) : regsOf x = [x.a, x.b] := by unfold regsOf; rw [h]; rfl
theorem regs3 {x : Cd} (h : shRegs x.op = 3) : regsOf x = [x.a, x.b, x.c] := by unfold regsOf; rw [h]; rfl
theorem regs0 {x : Cd} (h : shRegs x.op = 0) : regsOf x = [] := by unfold regsOf; rw [h]; rfl

/-- gatehouseref02.Text; of what is not right too, as long as the numbers are small -/
theorem rtext_spec {w : World} {x : Cd} {K : Value → World → Prop} (hr : ∀ r ∈ regsOf x, 0 ≤ r ∧ r < 9223372036854775808) (hn1 : -9223372036854775807 ≤ x.n) (hn2 : x.n < 9223372036854775808)
    (hK : ∀ w', Fr (fun _ => False) w w' → K (str (txt x)) w') : CallK Tryd.prog 16 #[x.v] w K := by
  apply Ret.call
  apply F16_ok
  unfold F16
  have hL := Lx.start (fun _ => False) w
  refine sBox hL (fun w1 b1 hL => ?_)
  have hL : Lx (fun _ => False) w w1 [.blk b1 x.cs] := hL
  repeat (first
    | refine rFA0 ?_
    | refine rExt0 ?_
    | refine rExt1 ?_
    | refine sExt30 ?_
    | refine sExt31 ?_
    | refine sExt2 ?_
    | refine rIfT ?_
    | refine rIfF ?_
    | refine rNot ?_
    | refine rLenB ?_
    | refine sLd hL (i := 0) rfl rfl ?_
    | refine sLd hL (i := 1) rfl rfl ?_
    | refine sLd hL (i := 2) rfl rfl ?_
    | refine sLd hL (i := 3) rfl rfl ?_
    | refine sLd hL (i := 4) rfl rfl ?_
    | refine sLd hL (i := 5) rfl rfl ?_
    | refine sLdN hL (i := 0) rfl rfl ?_
    | refine sLdN hL (i := 1) rfl rfl ?_
    | refine sLdN hL (i := 2) rfl rfl ?_
    | refine sLdN hL (i := 3) rfl rfl ?_
    | refine sLdN hL (i := 4) rfl rfl ?_
    | refine sLdN hL (i := 5) rfl rfl ?_
    | refine sLdS (i := 0) rfl rfl ?_
    | refine sLdS (i := 1) rfl rfl ?_
    | refine sLdS (i := 2) rfl rfl ?_
    | refine sLdS (i := 3) rfl rfl ?_
    | refine sLdS (i := 4) rfl rfl ?_
    | refine sLdS (i := 5) rfl rfl ?_
    | refine rFA ?_)
  refine name_spec ?_
  repeat (first
    | refine rFA0 ?_
    | refine rExt0 ?_
    | refine rExt1 ?_
    | refine sExt30 ?_
    | refine sExt31 ?_
    | refine sExt2 ?_
    | refine rIfT ?_
    | refine rIfF ?_
    | refine rNot ?_
    | refine rLenB ?_
    | refine sLd hL (i := 0) rfl rfl ?_
    | refine sLd hL (i := 1) rfl rfl ?_
    | refine sLd hL (i := 2) rfl rfl ?_
    | refine sLd hL (i := 3) rfl rfl ?_
    | refine sLd hL (i := 4) rfl rfl ?_
    | refine sLd hL (i := 5) rfl rfl ?_
    | refine sLdN hL (i := 0) rfl rfl ?_
    | refine sLdN hL (i := 1) rfl rfl ?_
    | refine sLdN hL (i := 2) rfl rfl ?_
    | refine sLdN hL (i := 3) rfl rfl ?_
    | refine sLdN hL (i := 4) rfl rfl ?_
    | refine sLdN hL (i := 5) rfl rfl ?_
    | refine sLdS (i := 0) rfl rfl ?_
    | refine sLdS (i := 1) rfl rfl ?_
    | refine sLdS (i := 2) rfl rfl ?_
    | refine sLdS (i := 3) rfl rfl ?_
    | refine sLdS (i := 4) rfl rfl ?_
    | refine sLdS (i := 5) rfl rfl ?_
    | refine rFA ?_)
  refine rshape_spec ?_
  rw [txt_parts] at hK
  have hnl := opName_len x.op
  have hil := itoa_len (n := x.n) (by omega) hn2
  have hreg : ∀ r ∈ regsOf x, (regT r).length ≤ 22 := by
    intro r h
    have h1 := hr r h
    have := itoa_len (n := r) (by omega) h1.2
    simp [regT]; omega
  refine joinOne (L := [pt b1 0, str (opName x.op), it (rSh x.op), .bool (decide (rSh x.op = 1) || decide (rSh x.op = 6))]) (ds := []) (w := w1) ?_ ?_
  · refine rEq <| rIf (fun h => ⟨by simp at h; simp [h], rfl, rfl⟩) (fun h => rEq ⟨by simp at h; simp [h]; rfl, rfl, rfl⟩)
  intro ρ hρ
  simp only [List.map_cons, List.map_nil, List.cons.injEq, and_true] at hρ
  obtain ⟨e1, e3, e9, e10⟩ := hρ
  unfold F16J2
  simp only [e1, e3, e9, e10]
  have ew : (32 : UInt8) :: Lib.itoa x.n = [32] ++ Lib.itoa x.n := rfl
  refine rIf (fun h => ?_) (fun h => ?_)
  · have h : rSh x.op = 1 ∨ rSh x.op = 6 := by simpa using h
    have hs : shRegs x.op = 1 ∧ shNum x.op ≠ 0 := by
      rcases shapes x.op with ⟨a, b, c⟩ | ⟨a, b, c⟩ | ⟨a, b, c⟩ | ⟨a, b, c⟩ | ⟨a, b, c⟩ | ⟨a, b, c⟩ | ⟨a, b, c⟩ <;> omega
    rw [regs1 hs.1] at hr hreg hK
    rw [if_neg hs.2] at hK
    have ha := hr x.a (by simp)
    have hla := hreg x.a (by simp)
    refine sDraw hL ?_
    repeat (first
      | refine rFA0 ?_
      | refine rExt0 ?_
      | refine rExt1 ?_
      | refine sExt30 ?_
      | refine sExt31 ?_
      | refine sExt2 ?_
      | refine rIfT ?_
      | refine rIfF ?_
      | refine rNot ?_
      | refine rLenB ?_
      | refine sLd hL (i := 0) rfl rfl ?_
      | refine sLd hL (i := 1) rfl rfl ?_
      | refine sLd hL (i := 2) rfl rfl ?_
      | refine sLd hL (i := 3) rfl rfl ?_
      | refine sLd hL (i := 4) rfl rfl ?_
      | refine sLd hL (i := 5) rfl rfl ?_
      | refine sLdN hL (i := 0) rfl rfl ?_
      | refine sLdN hL (i := 1) rfl rfl ?_
      | refine sLdN hL (i := 2) rfl rfl ?_
      | refine sLdN hL (i := 3) rfl rfl ?_
      | refine sLdN hL (i := 4) rfl rfl ?_
      | refine sLdN hL (i := 5) rfl rfl ?_
      | refine sLdS (i := 0) rfl rfl ?_
      | refine sLdS (i := 1) rfl rfl ?_
      | refine sLdS (i := 2) rfl rfl ?_
      | refine sLdS (i := 3) rfl rfl ?_
      | refine sLdS (i := 4) rfl rfl ?_
      | refine sLdS (i := 5) rfl rfl ?_
      | refine rFA ?_)
    refine ⟨r_spec ha.1 ha.2 (fun w2 f2 => ?_), trivial⟩
    have hL := hL.drew.more f2
    refine ⟨hL, ?_⟩
    refine sAddS (by simp; omega) ?_
    refine sAddS (b := [32]) (by simp; omega) ?_
    refine ⟨number_spec hn1 hn2 (fun w3 f3 => ?_), trivial⟩
    have hL := hL.more f3
    refine ⟨hL, ?_⟩
    refine sAddS (by simp; omega) ?_
    have := hK w3 hL.fr
    simpa [leaveV] using this
  have h : ¬ (rSh x.op = 1 ∨ rSh x.op = 6) := by simpa using h
  refine rEq <| sIfE (fun h2 => ?_) (fun h2 => ?_)
  · have hs : shRegs x.op = 2 ∧ shNum x.op = 0 := by
      rcases shapes x.op with ⟨a, b, c⟩ | ⟨a, b, c⟩ | ⟨a, b, c⟩ | ⟨a, b, c⟩ | ⟨a, b, c⟩ | ⟨a, b, c⟩ | ⟨a, b, c⟩ <;> omega
    rw [regs2 hs.1] at hr hreg hK
    rw [if_pos hs.2] at hK
    have ha := hr x.a (by simp)
    have hla := hreg x.a (by simp)
    have hb := hr x.b (by simp)
    have hlb := hreg x.b (by simp)
    refine sDraw hL ?_
    repeat (first
      | refine rFA0 ?_
      | refine rExt0 ?_
      | refine rExt1 ?_
      | refine sExt30 ?_
      | refine sExt31 ?_
      | refine sExt2 ?_
      | refine rIfT ?_
      | refine rIfF ?_
      | refine rNot ?_
      | refine rLenB ?_
      | refine sLd hL (i := 0) rfl rfl ?_
      | refine sLd hL (i := 1) rfl rfl ?_
      | refine sLd hL (i := 2) rfl rfl ?_
      | refine sLd hL (i := 3) rfl rfl ?_
      | refine sLd hL (i := 4) rfl rfl ?_
      | refine sLd hL (i := 5) rfl rfl ?_
      | refine sLdN hL (i := 0) rfl rfl ?_
      | refine sLdN hL (i := 1) rfl rfl ?_
      | refine sLdN hL (i := 2) rfl rfl ?_
      | refine sLdN hL (i := 3) rfl rfl ?_
      | refine sLdN hL (i := 4) rfl rfl ?_
      | refine sLdN hL (i := 5) rfl rfl ?_
      | refine sLdS (i := 0) rfl rfl ?_
      | refine sLdS (i := 1) rfl rfl ?_
      | refine sLdS (i := 2) rfl rfl ?_
      | refine sLdS (i := 3) rfl rfl ?_
      | refine sLdS (i := 4) rfl rfl ?_
      | refine sLdS (i := 5) rfl rfl ?_
      | refine rFA ?_)
    refine ⟨r_spec ha.1 ha.2 (fun w2 f2 => ?_), trivial⟩
    have hL := hL.drew.more f2
    refine ⟨hL, ?_⟩
    refine sAddS (by simp; omega) ?_
    refine ⟨r_spec hb.1 hb.2 (fun w3 f3 => ?_), trivial⟩
    have hL := hL.more f3
    refine ⟨hL, ?_⟩
    refine sAddS (by simp; omega) ?_
    have := hK w3 hL.fr
    simpa [leaveV] using this
  refine rEq <| sIfE (fun h3 => ?_) (fun h3 => ?_)
  · have hs : shRegs x.op = 3 ∧ shNum x.op = 0 := by
      rcases shapes x.op with ⟨a, b, c⟩ | ⟨a, b, c⟩ | ⟨a, b, c⟩ | ⟨a, b, c⟩ | ⟨a, b, c⟩ | ⟨a, b, c⟩ | ⟨a, b, c⟩ <;> omega
    rw [regs3 hs.1] at hr hreg hK
    rw [if_pos hs.2] at hK
    have ha := hr x.a (by simp)
    have hla := hreg x.a (by simp)
    have hb := hr x.b (by simp)
    have hlb := hreg x.b (by simp)
    have hc := hr x.c (by simp)
    have hlc := hreg x.c (by simp)
    refine sDraw hL ?_
    repeat (first
      | refine rFA0 ?_
      | refine rExt0 ?_
      | refine rExt1 ?_
      | refine sExt30 ?_
      | refine sExt31 ?_
      | refine sExt2 ?_
      | refine rIfT ?_
      | refine rIfF ?_
      | refine rNot ?_
      | refine rLenB ?_
      | refine sLd hL (i := 0) rfl rfl ?_
      | refine sLd hL (i := 1) rfl rfl ?_
      | refine sLd hL (i := 2) rfl rfl ?_
      | refine sLd hL (i := 3) rfl rfl ?_
      | refine sLd hL (i := 4) rfl rfl ?_
      | refine sLd hL (i := 5) rfl rfl ?_
      | refine sLdN hL (i := 0) rfl rfl ?_
      | refine sLdN hL (i := 1) rfl rfl ?_
      | refine sLdN hL (i := 2) rfl rfl ?_
      | refine sLdN hL (i := 3) rfl rfl ?_
      | refine sLdN hL (i := 4) rfl rfl ?_
      | refine sLdN hL (i := 5) rfl rfl ?_
      | refine sLdS (i := 0) rfl rfl ?_
      | refine sLdS (i := 1) rfl rfl ?_
      | refine sLdS (i := 2) rfl rfl ?_
      | refine sLdS (i := 3) rfl rfl ?_
      | refine sLdS (i := 4) rfl rfl ?_
      | refine sLdS (i := 5) rfl rfl ?_
      | refine rFA ?_)
    refine ⟨r_spec ha.1 ha.2 (fun w2 f2 => ?_), trivial⟩
    have hL := hL.drew.more f2
    refine ⟨hL, ?_⟩
    refine sAddS (by simp; omega) ?_
    refine ⟨r_spec hb.1 hb.2 (fun w3 f3 => ?_), trivial⟩
    have hL := hL.more f3
    refine ⟨hL, ?_⟩
    refine sAddS (by simp; omega) ?_
    refine ⟨r_spec hc.1 hc.2 (fun w4 f4 => ?_), trivial⟩
    have hL := hL.more f4
    refine ⟨hL, ?_⟩
    refine sAddS (by simp; omega) ?_
    have := hK w4 hL.fr
    simpa [leaveV] using this
  refine rEq <| sIfE (fun h4 => ?_) (fun h4 => ?_)
  · have hs : shRegs x.op = 2 ∧ shNum x.op ≠ 0 := by
      rcases shapes x.op with ⟨a, b, c⟩ | ⟨a, b, c⟩ | ⟨a, b, c⟩ | ⟨a, b, c⟩ | ⟨a, b, c⟩ | ⟨a, b, c⟩ | ⟨a, b, c⟩ <;> omega
    rw [regs2 hs.1] at hr hreg hK
    rw [if_neg hs.2] at hK
    have ha := hr x.a (by simp)
    have hla := hreg x.a (by simp)
    have hb := hr x.b (by simp)
    have hlb := hreg x.b (by simp)
    refine sDraw hL ?_
    repeat (first
      | refine rFA0 ?_
      | refine rExt0 ?_
      | refine rExt1 ?_
      | refine sExt30 ?_
      | refine sExt31 ?_
      | refine sExt2 ?_
      | refine rIfT ?_
      | refine rIfF ?_
      | refine rNot ?_
      | refine rLenB ?_
      | refine sLd hL (i := 0) rfl rfl ?_
      | refine sLd hL (i := 1) rfl rfl ?_
      | refine sLd hL (i := 2) rfl rfl ?_
      | refine sLd hL (i := 3) rfl rfl ?_
      | refine sLd hL (i := 4) rfl rfl ?_
      | refine sLd hL (i := 5) rfl rfl ?_
      | refine sLdN hL (i := 0) rfl rfl ?_
      | refine sLdN hL (i := 1) rfl rfl ?_
      | refine sLdN hL (i := 2) rfl rfl ?_
      | refine sLdN hL (i := 3) rfl rfl ?_
      | refine sLdN hL (i := 4) rfl rfl ?_
      | refine sLdN hL (i := 5) rfl rfl ?_
      | refine sLdS (i := 0) rfl rfl ?_
      | refine sLdS (i := 1) rfl rfl ?_
      | refine sLdS (i := 2) rfl rfl ?_
      | refine sLdS (i := 3) rfl rfl ?_
      | refine sLdS (i := 4) rfl rfl ?_
      | refine sLdS (i := 5) rfl rfl ?_
      | refine rFA ?_)
    refine ⟨r_spec ha.1 ha.2 (fun w2 f2 => ?_), trivial⟩
    have hL := hL.drew.more f2
    refine ⟨hL, ?_⟩
    refine sAddS (by simp; omega) ?_
    refine ⟨r_spec hb.1 hb.2 (fun w3 f3 => ?_), trivial⟩
    have hL := hL.more f3
    refine ⟨hL, ?_⟩
    refine sAddS (by simp; omega) ?_
    refine sAddS (b := [32]) (by simp; omega) ?_
    refine ⟨number_spec hn1 hn2 (fun w4 f4 => ?_), trivial⟩
    have hL := hL.more f4
    refine ⟨hL, ?_⟩
    refine sAddS (by simp; omega) ?_
    have := hK w4 hL.fr
    simpa [leaveV] using this
  refine rEq <| sIfE (fun h5 => ?_) (fun h5 => ?_)
  · have hs : shRegs x.op = 0 ∧ shNum x.op ≠ 0 := by
      rcases shapes x.op with ⟨a, b, c⟩ | ⟨a, b, c⟩ | ⟨a, b, c⟩ | ⟨a, b, c⟩ | ⟨a, b, c⟩ | ⟨a, b, c⟩ | ⟨a, b, c⟩ <;> omega
    rw [regs0 hs.1] at hr hreg hK
    rw [if_neg hs.2] at hK
    refine sAddS (b := [32]) (by simp; omega) ?_
    repeat (first
      | refine rFA0 ?_
      | refine rExt0 ?_
      | refine rExt1 ?_
      | refine sExt30 ?_
      | refine sExt31 ?_
      | refine sExt2 ?_
      | refine rIfT ?_
      | refine rIfF ?_
      | refine rNot ?_
      | refine rLenB ?_
      | refine sLd hL (i := 0) rfl rfl ?_
      | refine sLd hL (i := 1) rfl rfl ?_
      | refine sLd hL (i := 2) rfl rfl ?_
      | refine sLd hL (i := 3) rfl rfl ?_
      | refine sLd hL (i := 4) rfl rfl ?_
      | refine sLd hL (i := 5) rfl rfl ?_
      | refine sLdN hL (i := 0) rfl rfl ?_
      | refine sLdN hL (i := 1) rfl rfl ?_
      | refine sLdN hL (i := 2) rfl rfl ?_
      | refine sLdN hL (i := 3) rfl rfl ?_
      | refine sLdN hL (i := 4) rfl rfl ?_
      | refine sLdN hL (i := 5) rfl rfl ?_
      | refine sLdS (i := 0) rfl rfl ?_
      | refine sLdS (i := 1) rfl rfl ?_
      | refine sLdS (i := 2) rfl rfl ?_
      | refine sLdS (i := 3) rfl rfl ?_
      | refine sLdS (i := 4) rfl rfl ?_
      | refine sLdS (i := 5) rfl rfl ?_
      | refine rFA ?_)
    refine number_spec hn1 hn2 (fun w3 f3 => ?_)
    refine sAddS (by simp; omega) ?_
    have := hK w3 (hL.more f3).fr
    simpa [leaveV] using this
  · have hs : shRegs x.op = 0 ∧ shNum x.op = 0 := by
      rcases shapes x.op with ⟨a, b, c⟩ | ⟨a, b, c⟩ | ⟨a, b, c⟩ | ⟨a, b, c⟩ | ⟨a, b, c⟩ | ⟨a, b, c⟩ | ⟨a, b, c⟩ <;> omega
    rw [regs0 hs.1] at hK
    rw [if_pos hs.2] at hK
    have := hK w1 hL.fr
    simpa [leaveV] using this

end Go.Proofs.YtnmmpgeojimgoaaDoor
