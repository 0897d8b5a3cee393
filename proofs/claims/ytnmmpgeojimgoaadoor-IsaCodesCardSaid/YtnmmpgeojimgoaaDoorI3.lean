/-
  Isa, part 3: instructions out of their bytes. Own work.
-/
import Derived.Test.YtnmmpgeojimgoaaDoorI2
set_option linter.unusedVariables false
set_option linter.unusedSimpArgs false
set_option maxRecDepth 100000
set_option maxRecDepth 100000
namespace Go.Proofs.YtnmmpgeojimgoaaDoor
open Go Go.V Go.RowKit

/-- the number that 16 bits are, with a sign -/
def sx (m : Int) : Int := if m ≥ 32768 then m - 65536 else m

def decC (p q r s : UInt8) : Cd :=
  if shNum p.toNat = 1 then ⟨p.toNat, q.toNat, 0, 0, r.toNat + 256 * s.toNat⟩
  else if shNum p.toNat = 3 then ⟨p.toNat, q.toNat, 0, 0, sx (r.toNat + 256 * s.toNat)⟩
  else if shNum p.toNat = 2 then ⟨p.toNat, q.toNat, r.toNat, 0, s.toNat⟩
  else ⟨p.toNat, q.toNat, r.toNat, s.toNat, 0⟩

def decode : List UInt8 → Option Cd
  | [p, q, r, s] => if rightB (decC p q r s) = true then some (decC p q r s) else none
  | _ => none

theorem decode4 (p q r s : UInt8) : decode [p, q, r, s] = if rightB (decC p q r s) = true then some (decC p q r s) else none := rfl

def decV : Option Cd → Value
  | some x => .tuple #[x.v, it 0]
  | none => .tuple #[.agg #[it 0, it 0, it 0, it 0, it 0], it 12]

theorem u8_eq {n : Int} {b : UInt8} (h : n % 256 = b.toNat) : u8 n = b := by
  have := u8_toNat b
  rw [← this]
  unfold u8
  rw [h]
  have := b.toNat_lt
  congr 2
  omega

theorem decC_op (p q r s : UInt8) : (decC p q r s).op = p.toNat := by
  unfold decC
  repeat' split
  all_goals rfl
theorem decC_a (p q r s : UInt8) : (decC p q r s).a = q.toNat := by
  unfold decC
  repeat' split
  all_goals rfl
theorem decC_n (p q r s : UInt8) : -32768 ≤ (decC p q r s).n ∧ (decC p q r s).n < 65536 := by
  have h1 := r.toNat_lt
  have h2 := s.toNat_lt
  unfold decC
  split
  · simp only; omega
  split
  · simp only; unfold sx; split <;> omega
  split
  · simp only; omega
  · simp only; omega

theorem enc_decC (p q r s : UInt8) : enc (decC p q r s) = [p, q, r, s] := by
  have h1 := r.toNat_lt
  have h2 := s.toNat_lt
  unfold enc
  rw [decC_op, decC_a, u8_toNat, u8_toNat]
  unfold decC
  by_cases h : shNum p.toNat = 1
  · simp only [h, if_pos, true_or]
    rw [u8_eq (b := r) (by omega), u8_eq (b := s) (by omega)]
  · rw [if_neg h]
    by_cases h3 : shNum p.toNat = 3
    · simp only [h3, if_pos, or_true, if_true]
      have : sx (r.toNat + 256 * s.toNat) % 256 = r.toNat ∧ sx (r.toNat + 256 * s.toNat) / 256 % 256 = s.toNat := by
        unfold sx; split <;> omega
      rw [u8_eq (b := r) this.1, u8_eq (b := s) this.2]
    · rw [if_neg h3]
      have hor : ¬ (shNum p.toNat = 1 ∨ shNum p.toNat = 3) := by omega
      rw [if_neg hor, if_neg hor]
      by_cases h2 : shNum p.toNat = 2
      · simp only [h2, if_pos]
        rw [u8_toNat, u8_toNat]
      · simp only [if_neg h2]
        rw [u8_toNat, u8_toNat]

theorem zc48 : zc Tryd.prog 23 = some #[it 0, it 0, it 0, it 0, it 0] := by kernel_rfl
theorem b48 : (fun (a b : Int) (K : Value → Prop) => vBuild Tryd.prog 23 [(0, it a), (1, it b)] K) = fun a b K => ((1 : Nat) = 1 ∧ (1 : Nat) = 1 ∧ K (.agg #[it a, it b, it 0, it 0, it 0])) := by kernel_rfl
theorem build48 {a b : Int} {K : Value → Prop} (k : K (.agg #[it a, it b, it 0, it 0, it 0])) : vBuild Tryd.prog 23 [(0, it a), (1, it b)] K := by
  have := congrFun (congrFun (congrFun b48 a) b) K
  exact this ▸ ⟨rfl, rfl, k⟩
theorem b48e : (fun (K : Value → Prop) => vBuild Tryd.prog 23 [] K) = fun K => K (.agg #[it 0, it 0, it 0, it 0, it 0]) := by kernel_rfl
theorem build48e {K : Value → Prop} (k : K (.agg #[it 0, it 0, it 0, it 0, it 0])) : vBuild Tryd.prog 23 [] K := by
  have := congrFun b48e K
  exact this ▸ k

theorem or_nat (k : IntKind) {x y : Nat} (hx : x < 2 ^ k.bits) (hy : y < 2 ^ k.bits) (hk : k.wrap ((x ||| y : Nat) : Int) = ((x ||| y : Nat) : Int)) : bitsI k (· ||| ·) (x : Int) (y : Int) = ((x ||| y : Nat) : Int) := by
  unfold bitsI
  have h1 : (BitVec.ofInt k.bits (x : Int)) = BitVec.ofNat k.bits x := by
    apply BitVec.eq_of_toNat_eq; simp [BitVec.toNat_ofInt]
  have h2 : (BitVec.ofInt k.bits (y : Int)) = BitVec.ofNat k.bits y := by
    apply BitVec.eq_of_toNat_eq; simp [BitVec.toNat_ofInt]
  have h3 : (BitVec.ofNat k.bits x ||| BitVec.ofNat k.bits y).toNat = x ||| y := by
    rw [BitVec.toNat_or, BitVec.toNat_ofNat, BitVec.toNat_ofNat, Nat.mod_eq_of_lt hx, Nat.mod_eq_of_lt hy]
  show k.wrap ((BitVec.ofInt k.bits (x : Int) ||| BitVec.ofInt k.bits (y : Int)).toNat : Int) = _
  rw [h1, h2, h3, hk]

theorem or_byte {x y : Nat} (hx : x < 256) : x ||| (y * 256) = x + 256 * y := by
  have := or_add (x := x) (b := y) (i := 8) hx
  rw [show (2 : Nat) ^ 8 = 256 from rfl] at this
  omega

theorem wrap_u16 {n : Int} (h0 : 0 ≤ n) (h1 : n < 65536) : IntKind.u16.wrap n = n := by
  have e : IntKind.u16.wrap n = n % 65536 := by simp [IntKind.wrap, IntKind.signed, IntKind.bits]
  rw [e]; omega

theorem rLow {s : List UInt8} {x y : UInt8} (hs : s[3]? = some y) {K : Value → Prop} (k : K (it (x.toNat + 256 * y.toNat))) :
    vConv (.int .i64) (.int .u8 x.toNat) fun a => vIx .string .bad (str s) (it 3) fun b' => vConv (.int .i64) b' fun b => vBin (.int .i64) .shl b (.int .u64 8) fun c => vBin (.int .i64) .or a c K := by
  have h1 := x.toNat_lt
  have h2 := y.toNat_lt
  refine rCv <| rIxS (k := 3) hs <| rCv ?_
  rw [wrap_id (by omega) (by omega), wrap_id (by omega) (by omega)]
  refine ⟨by decide, ?_⟩
  have e : min (8 : Int).toNat IntKind.i64.bits = 8 := by decide
  rw [e, show ((2 : Int) ^ 8) = 256 from rfl, wrap_id (by omega) (by omega)]
  refine ⟨rfl, ?_⟩
  have e1 : (y.toNat : Int) * 256 = ((y.toNat * 256 : Nat) : Int) := by omega
  rw [e1, or_nat .i64 (by show _ < 2 ^ 64; omega) (by show _ < 2 ^ 64; omega) (by rw [or_byte h1]; exact wrap_id (by omega) (by omega)), or_byte h1]
  have e2 : ((x.toNat + 256 * y.toNat : Nat) : Int) = (x.toNat : Int) + 256 * y.toNat := by omega
  rw [e2]
  exact k

theorem rLow16 {s : List UInt8} {x y : UInt8} (hs : s[3]? = some y) {K : Value → Prop} (k : K (it (sx (x.toNat + 256 * y.toNat)))) :
    vConv (.int .u16) (.int .u8 x.toNat) fun a => vIx .string .bad (str s) (it 3) fun b' => vConv (.int .u16) b' fun b => vBin (.int .u16) .shl b (.int .u64 8) fun c => vBin (.int .u16) .or a c fun d => vConv (.int .i16) d fun e => vConv (.int .i64) e K := by
  have h1 := x.toNat_lt
  have h2 := y.toNat_lt
  refine rCv <| rIxS (k := 3) hs <| rCv ?_
  rw [wrap_u16 (by omega) (by omega), wrap_u16 (by omega) (by omega)]
  refine ⟨by decide, ?_⟩
  have e : min (8 : Int).toNat IntKind.u16.bits = 8 := by decide
  rw [e, show ((2 : Int) ^ 8) = 256 from rfl, wrap_u16 (by omega) (by omega)]
  refine ⟨rfl, ?_⟩
  have e1 : (y.toNat : Int) * 256 = ((y.toNat * 256 : Nat) : Int) := by omega
  rw [e1, or_nat .u16 (by show _ < 2 ^ 16; omega) (by show _ < 2 ^ 16; omega) (by rw [or_byte h1]; exact wrap_u16 (by omega) (by omega)), or_byte h1]
  have e2 : ((x.toNat + 256 * y.toNat : Nat) : Int) = (x.toNat : Int) + 256 * y.toNat := by omega
  rw [e2]
  refine rCv <| rCv ?_
  rw [wrap_i16, wrap_id (by split <;> omega) (by split <;> omega)]
  have e3 : (if ((x.toNat : Int) + 256 * y.toNat) % 65536 ≥ 32768 then ((x.toNat : Int) + 256 * y.toNat) % 65536 - 65536 else ((x.toNat : Int) + 256 * y.toNat) % 65536) = sx (x.toNat + 256 * y.toNat) := by
    unfold sx
    have : ((x.toNat : Int) + 256 * y.toNat) % 65536 = x.toNat + 256 * y.toNat := by omega
    rw [this]
  rw [e3]
  exact k

theorem rB64 {x : UInt8} {K : Value → Prop} (k : K (it x.toNat)) : vConv (.int .i64) (.int .u8 x.toNat) K := by
  have h1 := x.toNat_lt
  refine rCv ?_
  rw [wrap_id (by omega) (by omega)]
  exact k

theorem rShNum {op : Int} {K : Value → Prop} (k : K (it (shNum op))) : vField (some (.one, 2)) (shapeV op) K := k

/-- isa.Decode -/
theorem decode_spec {w : World} {s : List UInt8} {K : Value → World → Prop} (hT : Tabs w) (hK : ∀ w', Fr (fun _ => False) w w' → K (decV (decode s)) w') : CallK Tryd.prog 21 #[str s] w K := by
  apply Ret.call
  apply F21_ok
  unfold F21
  refine rAllocT zc48 ?_
  intro w1 h1 f1 s1
  have c1 : Cs w1 w.heap.size [it 0, it 0, it 0, it 0, it 0] := ⟨_, h1⟩
  have hbad : ∀ w', Cs w' w.heap.size [it 0, it 0, it 0, it 0, it 0] → Fr (fun _ => False) w w' → decode s = none →
      vBuild Tryd.prog 23 [] fun v10 => vSt (some 5) (pt w.heap.size 0) v10 w' fun w_2 => leaveV [] w_2 fun W => vLd (.agg 5) (pt w.heap.size 0) W fun r => K (.tuple #[r, it 12]) W := by
    intro w' hc hf hd
    refine build48e ?_
    refine rStN hc rfl (by simp) (by intro x hx; simp at hx; rcases hx with rfl; rfl) ?_
    intro w3 u3
    show vLd (.agg 5) (pt w.heap.size 0) w3 fun r => K (.tuple #[r, it 12]) w3
    refine rLdN u3.cs (by simp [spl]) ?_
    have := hK w3 (hf.trans u3.fr fun k hk e => by omega)
    rw [hd] at this
    exact this
  refine rLenB <| rNe <| rIf (fun h => ?_) (fun h => ?_)
  · have h : (s.length : Int) ≠ 4 := by simpa using h
    refine hbad w1 c1 f1 ?_
    unfold decode
    split
    · simp at h
    · rfl
  have h : (s.length : Int) = 4 := by simpa using h
  match s, h with
  | [p, q, r, t], _ => ?_
  clear h
  have hS : ∀ k : Nat, vIx .string .bad (str [p, q, r, t]) (it k) = vIx .string .bad (str [p, q, r, t]) (it k) := fun _ => rfl
  refine ⟨fun W => Cs W w.heap.size [it 0, it 0, it 0, it 0, it 0], c1, ?_⟩
  refine rIxS (k := 0) (b := p) rfl <| rB64 <| rIxS (k := 1) (b := q) rfl <| rB64 <| build48 ⟨?_, trivial⟩
  refine rAllocT zc48 ?_
  intro w3 h3 f3 s3
  have d3 : Cs w3 w1.drew.heap.size [it 0, it 0, it 0, it 0, it 0] := ⟨_, h3⟩
  have c3 := c1.drew.fr f3 id
  refine ⟨c3, ?_, trivial⟩
  refine rStN d3 rfl (by simp) (by intro x hx; simp at hx; rcases hx with rfl | rfl | rfl <;> rfl) ?_
  intro w4 u4
  have hlt := c1.lt
  have hb0 : w1.drew.heap.size = w1.heap.size := rfl
  have d4 : Cs w4 w1.drew.heap.size [it p.toNat, it q.toNat, it 0, it 0, it 0] := u4.cs
  have c4 := c3.up u4 (by omega)
  have f4 : Fr (fun _ => False) w w4 := ((f1.drew).more f3).trans u4.fr fun k hk e => by omega
  have hb : w.heap.size ≤ w1.drew.heap.size := by omega
  have hne : w.heap.size ≠ w1.drew.heap.size := by omega
  clear c1 c3 d3 u4 h1 h3
  generalize w1.drew.heap.size = b at *
  -- what is decoded
  refine ⟨fun vs ds W => vs = [str [p, q, r, t], pt w.heap.size 0, pt b 0] ∧ ds = [] ∧ Fr (fun _ => False) w W ∧ Cs W w.heap.size [it 0, it 0, it 0, it 0, it 0] ∧ Cs W b (decC p q r t).cs, ?_, ?_⟩
  · refine rFA0 <| rLd d4 rfl ?_
    refine shape_spec (hT.fr f4) ?_
    intro w5 f5
    have c5 := c4.fr f5 id
    have d5 := d4.fr f5 id
    have f05 := f4.more f5
    refine rShNum <| rEq <| rIf (fun hk => ?_) (fun hk => ?_)
    · have hk : shNum p.toNat = 1 := by simpa using hk
      refine ⟨fun _ => True, trivial, ?_⟩
      refine rIxS (k := 2) (b := r) rfl ?_
      refine rLow (y := t) rfl ?_
      refine rFA0 ⟨?_, trivial⟩
      refine rSt d5.drew (by simp) rfl (by simp) ?_
      intro w6 u6
      refine ⟨rfl, rfl, f05.drew.trans u6.fr fun k hk e => by omega, c5.drew.up u6 hne, ?_⟩
      have : decC p q r t = ⟨p.toNat, q.toNat, 0, 0, r.toNat + 256 * t.toNat⟩ := by unfold decC; rw [if_pos hk]
      rw [this]
      exact u6.cs
    have hk : ¬ shNum p.toNat = 1 := by simpa using hk
    refine rEq <| rIf (fun hk3 => ?_) (fun hk3 => ?_)
    · have hk3 : shNum p.toNat = 3 := by simpa using hk3
      refine ⟨fun _ => True, trivial, ?_⟩
      refine rIxS (k := 2) (b := r) rfl ?_
      refine rLow16 (y := t) rfl ?_
      refine rFA0 ⟨?_, trivial⟩
      refine rSt d5.drew (by simp) rfl (by simp) ?_
      intro w6 u6
      refine ⟨rfl, rfl, f05.drew.trans u6.fr fun k hk e => by omega, c5.drew.up u6 hne, ?_⟩
      have : decC p q r t = ⟨p.toNat, q.toNat, 0, 0, sx (r.toNat + 256 * t.toNat)⟩ := by unfold decC; rw [if_neg hk, if_pos hk3]
      rw [this]
      exact u6.cs
    have hk3 : ¬ shNum p.toNat = 3 := by simpa using hk3
    refine rEq <| rIf (fun hk2 => ?_) (fun hk2 => ?_)
    · have hk2 : shNum p.toNat = 2 := by simpa using hk2
      refine ⟨fun _ => True, trivial, ?_⟩
      refine rIxS (k := 2) (b := r) rfl <| rB64 <| rIxS (k := 3) (b := t) rfl <| rB64 <| rFA0 ⟨?_, trivial⟩
      refine rSt d5.drew (by simp) rfl (by simp) ?_
      intro w6 u6
      refine rFA0 ⟨?_, trivial⟩
      refine rSt u6.cs (by simp) rfl (by simp) ?_
      intro w7 u7
      refine ⟨rfl, rfl, (f05.drew.trans u6.fr fun k hk e => by omega).trans u7.fr fun k hk e => by omega, (c5.drew.up u6 hne).up u7 hne, ?_⟩
      have : decC p q r t = ⟨p.toNat, q.toNat, r.toNat, 0, t.toNat⟩ := by unfold decC; rw [if_neg hk, if_neg hk3, if_pos hk2]
      rw [this]
      exact u7.cs
    have hk2 : ¬ shNum p.toNat = 2 := by simpa using hk2
    refine ⟨fun _ => True, trivial, ?_⟩
    refine rIxS (k := 2) (b := r) rfl <| rB64 <| rIxS (k := 3) (b := t) rfl <| rB64 <| rFA0 ⟨?_, trivial⟩
    refine rSt d5.drew (by simp) rfl (by simp) ?_
    intro w6 u6
    refine rFA0 ⟨?_, trivial⟩
    refine rSt u6.cs (by simp) rfl (by simp) ?_
    intro w7 u7
    refine ⟨rfl, rfl, (f05.drew.trans u6.fr fun k hk e => by omega).trans u7.fr fun k hk e => by omega, (c5.drew.up u6 hne).up u7 hne, ?_⟩
    have : decC p q r t = ⟨p.toNat, q.toNat, r.toNat, t.toNat, 0⟩ := by unfold decC; rw [if_neg hk, if_neg hk3, if_neg hk2]
    rw [this]
    exact u7.cs
  rintro ρ ds W ⟨hρ, rfl, fW, cW, dW⟩
  simp only [List.map_cons, List.map_nil, List.cons.injEq, and_true] at hρ
  obtain ⟨e0, e2, e4⟩ := hρ
  unfold F21J1
  rw [e0, e2, e4]
  refine rLdN dW (by simp) ?_
  have hn := decC_n p q r t
  refine encode_spec (x := decC p q r t) (hT.fr fW) (by omega) (by omega) ?_
  intro w6 f6
  have c6 := cW.fr f6 id
  have d6 := dW.fr f6 id
  have f06 := fW.more f6
  by_cases hr : rightB (decC p q r t) = true
  · rw [if_pos hr]
    refine rExt0 <| rExt1 <| rNe <| rIfF ?_
    rw [enc_decC]
    refine rSNe ?_
    rw [beq_self_eq_true]
    refine rIfF ?_
    refine rLdN d6 (by simp) ?_
    refine rStN c6 rfl (by simp) (by intro x hx; simp at hx; rcases hx with rfl | rfl | rfl | rfl | rfl <;> rfl) ?_
    intro w7 u7
    show vLd (.agg 5) (pt w.heap.size 0) w7 fun r => K (.tuple #[r, it 0]) w7
    refine rLdN u7.cs (by simp [spl]) ?_
    have := hK w7 (f06.trans u7.fr fun k hk e => by omega)
    have hd : decode [p, q, r, t] = some (decC p q r t) := by rw [decode4, if_pos hr]
    rw [hd] at this
    exact this
  · rw [if_neg hr]
    refine rExt0 <| rExt1 <| rNe <| rIfT ?_
    exact hbad w6 c6 f06 (by rw [decode4, if_neg hr])

end Go.Proofs.YtnmmpgeojimgoaaDoor
