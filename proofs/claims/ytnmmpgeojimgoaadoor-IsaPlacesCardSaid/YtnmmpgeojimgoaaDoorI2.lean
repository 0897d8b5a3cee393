/-
  Isa, part 2: instructions that are right, their bytes. Own work.
-/
import Derived.Test.YtnmmpgeojimgoaaDoorI1
set_option linter.unusedVariables false
set_option linter.unusedSimpArgs false
set_option maxRecDepth 100000
set_option maxRecDepth 100000
namespace Go.Proofs.YtnmmpgeojimgoaaDoor
open Go Go.V Go.RowKit

structure Cd where
  op : Int
  a : Int
  b : Int
  c : Int
  n : Int

abbrev Cd.cs (x : Cd) : List Value := [it x.op, it x.a, it x.b, it x.c, it x.n]
abbrev Cd.v (x : Cd) : Value := .agg #[it x.op, it x.a, it x.b, it x.c, it x.n]

def fitsN (k n : Int) : Bool := if k = 1 then decide (0 ≤ n ∧ n < 65536) else if k = 2 then decide (0 ≤ n ∧ n < 256) else if k = 3 then decide (-32768 ≤ n ∧ n < 32768) else n == 0
def regOk (regs i r : Int) : Bool := if i < regs then decide (0 ≤ r ∧ r < 16) else r == 0
def rightB (x : Cd) : Bool := decide (0 ≤ x.op ∧ x.op < 27) && fitsN (shNum x.op) x.n && (regOk (shRegs x.op) 0 x.a && (regOk (shRegs x.op) 1 x.b && regOk (shRegs x.op) 2 x.c))

theorem wrap_i16 (n : Int) : IntKind.i16.wrap n = if n % 65536 ≥ 32768 then n % 65536 - 65536 else n % 65536 := by
  simp [IntKind.wrap, IntKind.signed, IntKind.bits]

theorem rShrI {n : Int} {i : Nat} (hi : i ≤ 64) {K : Value → Prop} (k : K (it (n / 2 ^ i))) : vBin (.int .i64) .shr (it n) (.int .u64 i) K := by
  refine ⟨by omega, ?_⟩
  have e : min ((i : Nat) : Int).toNat IntKind.i64.bits = i := by
    have : IntKind.i64.bits = 64 := rfl
    rw [Int.toNat_natCast, this]; omega
  rw [e, Int.fdiv_eq_ediv_of_nonneg _ (Int.pow_nonneg (by omega))]
  exact k

theorem isaFits {w : World} {k n : Int} {K : Value → World → Prop} (hn1 : -9223372036854775808 ≤ n) (hn2 : n < 9223372036854775808) (hK : K (.bool (fitsN k n)) w) : CallK Tryd.prog 31 #[it k, it n] w K := by
  apply Ret.call
  apply F31_ok
  unfold F31
  unfold fitsN at hK
  refine rEq <| rIf (fun h => ?_) (fun h => ?_)
  · have h : k = 1 := by simpa using h
    rw [if_pos h] at hK
    refine rShrI (i := 16) (by decide) <| rEq ?_
    have e : (n / 2 ^ 16 == 0) = decide (0 ≤ n ∧ n < 65536) := by
      rw [Bool.eq_iff_iff]; simp only [beq_iff_eq, decide_eq_true_eq]; omega
    rw [e]; exact hK
  have h : ¬ k = 1 := by simpa using h
  rw [if_neg h] at hK
  refine rEq <| rIf (fun h => ?_) (fun h => ?_)
  · have h : k = 2 := by simpa using h
    rw [if_pos h] at hK
    refine rShrI (i := 8) (by decide) <| rEq ?_
    have e : (n / 2 ^ 8 == 0) = decide (0 ≤ n ∧ n < 256) := by
      rw [Bool.eq_iff_iff]; simp only [beq_iff_eq, decide_eq_true_eq]; omega
    rw [e]; exact hK
  have h : ¬ k = 2 := by simpa using h
  rw [if_neg h] at hK
  refine rEq <| rIf (fun h => ?_) (fun h => ?_)
  · have h : k = 3 := by simpa using h
    rw [if_pos h] at hK
    refine rCv <| rCv <| rEq ?_
    rw [wrap_i16, wrap_id (by split <;> omega) (by split <;> omega)]
    have e : (n == if n % 65536 ≥ 32768 then n % 65536 - 65536 else n % 65536) = decide (-32768 ≤ n ∧ n < 32768) := by
      rw [Bool.eq_iff_iff]; simp only [beq_iff_eq, decide_eq_true_eq]; split <;> omega
    rw [e]; exact hK
  have h : ¬ k = 3 := by simpa using h
  rw [if_neg h] at hK
  exact rEq hK

theorem b129 : (fun (a b c : Int) (K : Value → Prop) => vBuild Tryd.prog 58 [(0, it a), (1, it b), (2, it c)] K) = fun a b c K => ((1 : Nat) = 1 ∧ (1 : Nat) = 1 ∧ (1 : Nat) = 1 ∧ K (.agg #[it a, it b, it c])) := by kernel_rfl
theorem build129 {a b c : Int} {K : Value → Prop} (k : K (.agg #[it a, it b, it c])) : vBuild Tryd.prog 58 [(0, it a), (1, it b), (2, it c)] K := by
  have := congrFun (congrFun (congrFun (congrFun b129 a) b) c) K
  exact this ▸ ⟨rfl, rfl, rfl, k⟩

theorem rIxA {cs : Array Value} {len i : Nat} {v : Value} {kd : IntKind} {K : Value → Prop} (hi : i < len) (hv : cs.toList[i]? = some v) (k : K v) : vIx (.arr len 1) .one (.agg cs) (.int kd i) K := by
  refine ⟨by omega, by omega, ?_⟩
  unfold vPart
  rw [Int.toNat_natCast, Nat.mul_one]
  simp only [hv]
  exact k

theorem regOk_def (R i r : Int) : regOk R i r = if i < R then decide (0 ≤ r ∧ r < 16) else r == 0 := rfl

/-- isa.Right -/
theorem right_spec {w : World} {x : Cd} {K : Value → World → Prop} (hT : Tabs w) (hn1 : -9223372036854775808 ≤ x.n) (hn2 : x.n < 9223372036854775808) (hK : ∀ w', Fr (fun _ => False) w w' → K (.bool (rightB x)) w') : CallK Tryd.prog 14 #[x.v] w K := by
  apply Ret.call
  apply F14_ok
  unfold F14
  refine rBoxA ?_
  intro w1 c1 f1 s1
  refine rFA0 <| rLd c1 rfl ?_
  refine shape_spec (hT.fr f1) ?_
  intro w2 f2
  have c2 := c1.fr f2 id
  refine rAllocT zc100 ?_
  intro w3 h3 f3 s3
  have d3 : Cs w3 w2.heap.size [str [], it 0, it 0] := ⟨_, h3⟩
  have c3 := c2.fr f3 id
  have hs := (f1.more f2).size
  refine rStN d3 rfl (by simp) (by intro x hx; simp at hx; rcases hx with rfl | rfl | rfl <;> rfl) ?_
  intro w4 u4
  have d4 : Cs w4 w2.heap.size [str (opName x.op), it (shRegs x.op), it (shNum x.op)] := u4.cs
  have c4 := c3.up u4 (by have := c2.lt; omega)
  have f4 : Fr (fun _ => False) w w4 := ((f1.more f2).more f3).trans u4.fr fun k hk e => by omega
  refine joinOne (L := [pt w.heap.size 0, pt w2.heap.size 0, .bool (!(decide (0 ≤ x.op ∧ x.op < 27) && fitsN (shNum x.op) x.n))]) (ds := []) (w := w4) ?_ ?_
  · refine rFA0 <| rLd d4 rfl <| rSEq (m := []) <| rIf (fun h => ⟨?_, rfl, rfl⟩) (fun h => ?_)
    · have h : opName x.op = [] := by simpa using h
      have hn : ¬ (0 ≤ x.op ∧ x.op < 27) := fun ⟨h0, h1⟩ => opName_ne h0 h1 h
      rw [decide_eq_false hn]
      rfl
    · have h : opName x.op ≠ [] := by simpa using h
      have hn : 0 ≤ x.op ∧ x.op < 27 := by
        refine Decidable.byContradiction fun hc => h (opName_out (by omega))
      refine rFA0 <| rLd d4 rfl <| rFA0 <| rLd c4 rfl ?_
      refine isaFits hn1 hn2 ?_
      refine rNot ⟨?_, rfl, rfl⟩
      rw [decide_eq_true hn]; rfl
  intro ρ hρ
  simp only [List.map_cons, List.map_nil, List.cons.injEq, and_true] at hρ
  obtain ⟨e1, e3, e19⟩ := hρ
  unfold F14J1
  rw [e1, e3, e19]
  unfold rightB at hK
  generalize (decide (0 ≤ x.op ∧ x.op < 27) && fitsN (shNum x.op) x.n) = q at *
  refine rIf (fun h => ?_) (fun h => ?_)
  · have : q = false := by simpa using h
    subst this
    exact hK w4 f4
  have : q = true := by simpa using h
  subst this
  rw [Bool.true_and] at hK
  refine rFA0 <| rLd c4 rfl <| rFA0 <| rLd c4 rfl <| rFA0 <| rLd c4 rfl <| build129 ?_
  generalize hR : shRegs x.op = R at *
  refine ⟨fun vs ds W => ds = [] ∧ W = w4 ∧ ∃ (i : Nat), i ≤ 3 ∧ vs = [pt w2.heap.size 0, .agg #[it x.a, it x.b, it x.c], it i] ∧ ∀ (j : Nat) (r : Int), j < i → [x.a, x.b, x.c][j]? = some r → regOk R j r = true,
    fun vs _ _ => match vs with | [_, _, .int _ i] => 3 - i.toNat | _ => 0, ⟨rfl, rfl, 0, by omega, rfl, fun j r hj => by omega⟩, ?_⟩
  rintro ρ ds W ⟨rfl, rfl, i, hi, hρ, hall⟩
  have hρ0 := hρ
  simp only [List.map_cons, List.map_nil, List.cons.injEq, and_true] at hρ
  obtain ⟨e3', e26, e27⟩ := hρ
  unfold F14L1
  rw [hρ0, e3', e26, e27]
  refine rLt <| rIf (fun hlt => ?_) (fun hge => ?_)
  · have hlt : i < 3 := by
      have : (i : Int) < 3 := by simpa using hlt
      omega
    obtain ⟨r, hr⟩ : ∃ r, [x.a, x.b, x.c][i]? = some r := ⟨_, List.getElem?_eq_getElem (by simpa using hlt)⟩
    have hv : (#[it x.a, it x.b, it x.c] : Array Value).toList[i]? = some (it r) := by
      have : (#[it x.a, it x.b, it x.c] : Array Value).toList = [x.a, x.b, x.c].map it := rfl
      rw [this, List.getElem?_map, hr]; rfl
    have hbad : regOk R i r = false → (regOk R 0 x.a && (regOk R 1 x.b && regOk R 2 x.c)) = false := by
      intro hb
      have h3 : i = 0 ∨ i = 1 ∨ i = 2 := by omega
      rcases h3 with rfl | rfl | rfl
      · have : x.a = r := by simpa using hr
        subst this
        have hb : regOk R 0 x.a = false := hb
        rw [hb]; rfl
      · have : x.b = r := by simpa using hr
        subst this
        have hb : regOk R 1 x.b = false := hb
        rw [hb]; simp
      · have : x.c = r := by simpa using hr
        subst this
        have hb : regOk R 2 x.c = false := hb
        rw [hb]; simp
    have hfalse : regOk R i r = false → K (.bool false) W := fun hb => by
      have := hK W f4
      rw [hbad hb] at this
      exact this
    have hgo : regOk R i r = true → (∃ i' : Nat, i' ≤ 3 ∧ [pt w2.heap.size 0, Value.agg #[it x.a, it x.b, it x.c], it ((i : Int) + 1)] = [pt w2.heap.size 0, .agg #[it x.a, it x.b, it x.c], it i'] ∧ ∀ (j : Nat) (r : Int), j < i' → [x.a, x.b, x.c][j]? = some r → regOk R j r = true) := by
      intro hg
      refine ⟨i + 1, by omega, by simp, fun j r' hj hr' => ?_⟩
      by_cases e : j = i
      · subst e
        rw [hr] at hr'
        cases hr'
        exact hg
      · exact hall j r' (by omega) hr'
    have hm : 3 - ((i : Int) + 1).toNat < 3 - (i : Int).toNat := by omega
    refine rIxA hlt hv ?_
    refine rFA0 <| rLd d4 rfl <| rLt <| rIf (fun h1 => ?_) (fun h1 => ?_)
    · have h1 : (i : Int) < R := by simpa using h1
      refine rLt <| rIf (fun h2 => ?_) (fun h2 => ?_)
      · refine hfalse ?_
        have h2 : r < 0 := by simpa using h2
        rw [regOk_def, if_pos h1]; simp; omega
      have h2 : ¬ r < 0 := by simpa using h2
      refine rGe <| rIf (fun h3 => ?_) (fun h3 => ?_)
      · refine hfalse ?_
        have h3 : (16 : Int) ≤ r := by simpa using h3
        rw [regOk_def, if_pos h1]; simp; omega
      have h3 : ¬ (16 : Int) ≤ r := by simpa using h3
      refine rFA0 <| rLd d4 rfl <| rGe <| rIf (fun h4 => ?_) (fun h4 => ?_)
      · have h4 : R ≤ (i : Int) := by simpa using h4
        omega
      refine rAdd (by omega) (by omega) ?_
      refine ⟨⟨rfl, rfl, hgo ?_⟩, hm⟩
      rw [regOk_def, if_pos h1]; simp; omega
    · have h1 : ¬ (i : Int) < R := by simpa using h1
      refine rFA0 <| rLd d4 rfl <| rGe <| rIf (fun h4 => ?_) (fun h4 => ?_)
      · refine rNe <| rIf (fun h5 => ?_) (fun h5 => ?_)
        · refine hfalse ?_
          rw [regOk_def, if_neg h1]
          simpa using h5
        refine rAdd (by omega) (by omega) ?_
        refine ⟨⟨rfl, rfl, hgo ?_⟩, hm⟩
        rw [regOk_def, if_neg h1]
        simpa using h5
      · have h4 : ¬ R ≤ (i : Int) := by simpa using h4
        omega
  · have hi : i = 3 := by
      have : ¬ (i : Int) < 3 := by simpa using hge
      omega
    subst hi
    have := hK W f4
    rw [hall 0 x.a (by omega) rfl |> (fun h => (h : regOk R 0 x.a = true)), hall 1 x.b (by omega) rfl |> (fun h => (h : regOk R 1 x.b = true)), hall 2 x.c (by omega) rfl |> (fun h => (h : regOk R 2 x.c = true))] at this
    exact this

def u8 (n : Int) : UInt8 := UInt8.ofNat (n % 256).toNat

theorem wrap_u8i (n : Int) : IntKind.u8.wrap n = ((u8 n).toNat : Int) := by
  have e : IntKind.u8.wrap n = n % 256 := by simp [IntKind.wrap, IntKind.signed, IntKind.bits]
  rw [e, u8, u8_of]; omega

theorem u8_toNat (b : UInt8) : u8 b.toNat = b := by
  apply UInt8.toNat.inj
  rw [u8, u8_of]
  have := b.toNat_lt
  omega

def enc (x : Cd) : List UInt8 :=
  [u8 x.op, u8 x.a, if shNum x.op = 1 ∨ shNum x.op = 3 then u8 x.n else u8 x.b, if shNum x.op = 1 ∨ shNum x.op = 3 then u8 (x.n / 256) else if shNum x.op = 2 then u8 x.n else u8 x.c]

theorem zc119 : zc Tryd.prog 50 = some #[.int .u8 0, .int .u8 0, .int .u8 0, .int .u8 0] := by kernel_rfl
theorem b119 : (fun (a b c d : Int) (K : Value → Prop) => vBuild Tryd.prog 50 [(0, .int .u8 a), (1, .int .u8 b), (2, .int .u8 c), (3, .int .u8 d)] K) = fun a b c d K => ((1 : Nat) = 1 ∧ (1 : Nat) = 1 ∧ (1 : Nat) = 1 ∧ (1 : Nat) = 1 ∧ K (.agg #[.int .u8 a, .int .u8 b, .int .u8 c, .int .u8 d])) := by kernel_rfl
theorem build119 {a b c d : Int} {K : Value → Prop} (k : K (.agg #[.int .u8 a, .int .u8 b, .int .u8 c, .int .u8 d])) : vBuild Tryd.prog 50 [(0, .int .u8 a), (1, .int .u8 b), (2, .int .u8 c), (3, .int .u8 d)] K := by
  have := congrFun (congrFun (congrFun (congrFun (congrFun b119 a) b) c) d) K
  exact this ▸ ⟨rfl, rfl, rfl, rfl, k⟩

/-- four bytes of an array, as a string -/
theorem four_str {w : World} {b : Nat} {p q r s : UInt8} {K : Value → World → Prop} (h : Cs w b [.int .u8 p.toNat, .int .u8 q.toNat, .int .u8 r.toNat, .int .u8 s.toNat]) (k : K (str [p, q, r, s]) w) :
    vSlice (.arr 4 1) (pt b 0) none none fun v => vB2S v w fun v => K v w := by
  refine rSlA0 (by decide) ?_
  refine b2s_at (l := [p, q, r, s]) h rfl (fun j x hj => ?_) k
  rw [Nat.zero_add]
  match j, hj with
  | 0, hj => cases hj; rfl
  | 1, hj => cases hj; rfl
  | 2, hj => cases hj; rfl
  | 3, hj => cases hj; rfl
  | j + 4, hj => simp at hj

theorem encV_eq (x : Cd) : (if rightB x = true then Value.tuple #[str (enc x), it 0] else .tuple #[str [], it 12]) = if rightB x = true then Value.tuple #[str (enc x), it 0] else .tuple #[str [], it 12] := rfl

/-- isa.Encode -/
theorem encode_spec {w : World} {x : Cd} {K : Value → World → Prop} (hT : Tabs w) (hn1 : -9223372036854775808 ≤ x.n) (hn2 : x.n < 9223372036854775808) (hK : ∀ w', Fr (fun _ => False) w w' → K (if rightB x = true then .tuple #[str (enc x), it 0] else .tuple #[str [], it 12]) w') : CallK Tryd.prog 12 #[x.v] w K := by
  apply Ret.call
  apply F12_ok
  unfold F12
  refine rBoxA ?_
  intro w1 c1 f1 s1
  refine rLdN c1 (by simp) ?_
  refine right_spec (x := x) (hT.fr f1) hn1 hn2 ?_
  intro w2 f2
  have c2 := c1.fr f2 id
  have f02 := f1.more f2
  refine rNot <| rIf (fun h => ?_) (fun h => ?_)
  · have h : rightB x = false := by simpa using h
    rw [h] at hK
    exact hK w2 f02
  have h : rightB x = true := by simpa using h
  rw [h] at hK
  refine rFA0 <| rLd c2 rfl <| rCv <| rFA0 <| rLd c2 rfl <| rCv <| rFA0 <| rLd c2 rfl <| rCv <| rFA0 <| rLd c2 rfl <| rCv ?_
  rw [wrap_u8i, wrap_u8i, wrap_u8i, wrap_u8i]
  refine build119 ?_
  refine rAllocT zc119 ?_
  intro w3 h3 f3 s3
  have d3 : Cs w3 w2.heap.size [.int .u8 0, .int .u8 0, .int .u8 0, .int .u8 0] := ⟨_, h3⟩
  have c3 := c2.fr f3 id
  refine rStN d3 rfl (by simp) (by intro x hx; simp at hx; rcases hx with rfl | rfl | rfl | rfl <;> rfl) ?_
  intro w4 u4
  have hs := f02.size
  have hlt := c2.lt
  have d4 : Cs w4 w2.heap.size [.int .u8 (u8 x.op).toNat, .int .u8 (u8 x.a).toNat, .int .u8 (u8 x.b).toNat, .int .u8 (u8 x.c).toNat] := u4.cs
  have c4 := c3.up u4 (by omega)
  have f4 : Fr (fun _ => False) w w4 := (f02.more f3).trans u4.fr fun k hk e => by omega
  refine rFA0 <| rLd c4 rfl ?_
  refine shape_spec (hT.fr f4) ?_
  intro w5 f5
  have c5 := c4.fr f5 id
  have d5 := d4.fr f5 id
  have f05 := f4.more f5
  have hb : w.heap.size ≤ w2.heap.size := by omega
  have hne : w.heap.size ≠ w2.heap.size := by omega
  clear c1 c2 c3 c4 d3 d4 u4 h3
  generalize w2.heap.size = b at *
  have hK := fun w' f => hK w' f
  unfold enc at hK
  simp only [if_pos] at hK
  show vField (some (.one, 2)) (.agg #[str (opName x.op), it (shRegs x.op), it (shNum x.op)]) _
  show joinF _ _ _
  generalize shNum x.op = k at *
  refine joinOne (L := [pt w.heap.size 0, pt b 0, it k, .bool (decide (k = 1 ∨ k = 3))]) (ds := []) (w := w5) ?_ ?_
  · refine rEq <| rIf (fun h => ⟨?_, rfl, rfl⟩) (fun h => rEq ⟨?_, rfl, rfl⟩)
    · rw [h]
      have h : k = 1 := by simpa using h
      simp [h]
    · have h : ¬ k = 1 := by simpa using h
      simp [h]; rfl
  intro ρ hρ
  simp only [List.map_cons, List.map_nil, List.cons.injEq, and_true] at hρ
  obtain ⟨e1, e4, e24, e25⟩ := hρ
  unfold F12J2
  rw [e1, e4, e24, e25]
  refine rIf (fun hk => ?_) (fun hk => ?_)
  · have hk : k = 1 ∨ k = 3 := by simpa using hk
    simp only [if_pos hk] at hK
    refine ⟨fun W => Cs W w.heap.size x.cs, fun W => Cs W w.heap.size x.cs, c5, ?_⟩
    refine rFA0 <| rLdS (it x.n) (fun W hW => ⟨_, hW, rfl⟩) <| rCv ?_
    refine rFA0 <| rLdS (it x.n) (fun W hW => ⟨_, hW.elim id id, rfl⟩) ?_
    refine rShrI (i := 8) (by decide) <| rCv ?_
    rw [wrap_u8i, wrap_u8i]
    have e256 : x.n / 2 ^ 8 = x.n / 256 := rfl
    rw [e256]
    refine rIAa (i := 2) (by decide) ⟨?_, trivial⟩
    refine rSt d5.drew (by simp) rfl (by simp) ?_
    intro w6 u6
    have c6 := c5.drew.up u6 hne
    have f6 : Fr (fun _ => False) w w6 := f05.drew.trans u6.fr fun k hk e => by omega
    refine ⟨c6, ?_⟩
    refine rIAa (i := 3) (by decide) ⟨?_, trivial⟩
    refine rSt u6.cs (by simp) rfl (by simp) ?_
    intro w7 u7
    have f7 : Fr (fun _ => False) w w7 := f6.trans u7.fr fun k hk e => by omega
    have d7 : Cs w7 b [.int .u8 (u8 x.op).toNat, .int .u8 (u8 x.a).toNat, .int .u8 (u8 x.n).toNat, .int .u8 (u8 (x.n / 256)).toNat] := u7.cs
    refine four_str (K := fun v w => leaveV [] w fun W => K (.tuple #[v, it 0]) W) d7 ?_
    exact hK w7 f7
  have hk : ¬ (k = 1 ∨ k = 3) := by simpa using hk
  simp only [if_neg hk] at hK
  refine rEq <| rIf (fun h2 => ?_) (fun h2 => ?_)
  · have h2 : k = 2 := by simpa using h2
    simp only [if_pos h2] at hK
    refine rFA0 <| rLd c5 rfl <| rCv ?_
    rw [wrap_u8i]
    refine rIAa (i := 3) (by decide) ?_
    refine rSt d5 (by simp) rfl (by simp) ?_
    intro w6 u6
    have f6 : Fr (fun _ => False) w w6 := f05.trans u6.fr fun k hk e => by omega
    have d6 : Cs w6 b [.int .u8 (u8 x.op).toNat, .int .u8 (u8 x.a).toNat, .int .u8 (u8 x.b).toNat, .int .u8 (u8 x.n).toNat] := u6.cs
    refine four_str (K := fun v w => leaveV [] w fun W => K (.tuple #[v, it 0]) W) d6 ?_
    exact hK w6 f6
  · have h2 : ¬ k = 2 := by simpa using h2
    simp only [if_neg h2] at hK
    refine four_str (K := fun v w => leaveV [] w fun W => K (.tuple #[v, it 0]) W) d5 ?_
    exact hK w5 f05

end Go.Proofs.YtnmmpgeojimgoaaDoor
