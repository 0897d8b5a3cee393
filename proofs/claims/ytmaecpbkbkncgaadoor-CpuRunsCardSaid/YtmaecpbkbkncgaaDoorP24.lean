/-
  Pages, part 24: numbers and their eight bytes. Own work.
-/
import Derived.Test.YtmaecpbkbkncgaaDoorP23
set_option linter.unusedVariables false
set_option linter.unusedSimpArgs false
set_option maxRecDepth 100000
namespace Go.Proofs.YtmaecpbkbkncgaaDoor
open Go Go.V Go.RowKit

/-- the number that bytes are, the lowest first -/
def wv : List UInt8 → Nat
  | [] => 0
  | b :: r => b.toNat + 256 * wv r

theorem wv_lt (l : List UInt8) : wv l < 256 ^ l.length := by
  induction l with
  | nil => decide
  | cons b r ih =>
    have := b.toNat_lt
    simp only [wv, List.length_cons, Nat.pow_succ]
    omega

theorem wv_app (l r : List UInt8) : wv (l ++ r) = wv l + 256 ^ l.length * wv r := by
  induction l with
  | nil => simp [wv]
  | cons b l ih =>
    simp only [List.cons_append, wv, ih, List.length_cons, Nat.pow_succ, Nat.mul_add]
    have : 256 * (256 ^ l.length * wv r) = 256 ^ l.length * 256 * wv r := by
      rw [Nat.mul_comm (256 ^ l.length) 256, Nat.mul_assoc]
    omega

def eight (x : Nat) : List UInt8 := (List.range 8).map fun i => UInt8.ofNat (x / 256 ^ i)

theorem eight_len (x : Nat) : (eight x).length = 8 := by simp [eight]

theorem u8_of (n : Nat) : (UInt8.ofNat n).toNat = n % 256 := by simp

theorem wrap_u64 {n : Int} (h0 : 0 ≤ n) (h1 : n < 18446744073709551616) : IntKind.u64.wrap n = n := by
  have e : IntKind.u64.wrap n = n % 18446744073709551616 := by simp [IntKind.wrap, IntKind.signed, IntKind.bits]
  rw [e]; omega

theorem wrap_u8 (n : Nat) : IntKind.u8.wrap n = ((UInt8.ofNat n).toNat : Nat) := by
  have e : IntKind.u8.wrap (n : Int) = (n : Int) % 256 := by simp [IntKind.wrap, IntKind.signed, IntKind.bits]
  rw [e, u8_of]; omega

theorem or_add {x b i : Nat} (h : x < 2 ^ i) : x ||| b * 2 ^ i = x + b * 2 ^ i := by
  rw [Nat.or_comm, Nat.mul_comm, ← Nat.two_pow_add_eq_or_of_lt h, Nat.add_comm]

theorem rCv {k k' : IntKind} {n : Int} {K : Value → Prop} (h : K (.int k (k.wrap n))) : vConv (.int k) (.int k' n) K := h

theorem rShl64 {b : Nat} {i : Nat} (hb : b < 256) (hi : i < 8) {K : Value → Prop} (k : K (.int .u64 ((b * 2 ^ (8 * i) : Nat) : Int))) :
    vBin (.int .u64) .shl (.int .u64 b) (it ((8 * i : Nat) : Int)) K := by
  refine ⟨by omega, ?_⟩
  have e : min ((8 * i : Nat) : Int).toNat IntKind.u64.bits = 8 * i := by
    have : IntKind.u64.bits = 64 := rfl
    rw [Int.toNat_natCast, this]; omega
  rw [e]
  have hp : 2 ^ (8 * i) ≤ 2 ^ 56 := Nat.pow_le_pow_right (by decide) (by omega)
  have hm : b * 2 ^ (8 * i) ≤ 255 * 2 ^ 56 := Nat.mul_le_mul (by omega) hp
  have e2 : (b : Int) * 2 ^ (8 * i) = ((b * 2 ^ (8 * i) : Nat) : Int) := by push_cast; rfl
  rw [e2, wrap_u64 (by omega) (by omega)]
  exact k

theorem rOr64 {x y : Nat} (hx : x < 18446744073709551616) (hy : y < 18446744073709551616) {K : Value → Prop} (k : K (.int .u64 ((x ||| y : Nat) : Int))) :
    vBin (.int .u64) .or (.int .u64 x) (.int .u64 y) K := by
  refine ⟨rfl, ?_⟩
  have : bitsI .u64 (· ||| ·) (x : Int) (y : Int) = ((x ||| y : Nat) : Int) := by
    unfold bitsI
    have h1 : (BitVec.ofInt IntKind.u64.bits (x : Int)) = BitVec.ofNat 64 x := by
      apply BitVec.eq_of_toNat_eq; simp [IntKind.bits, BitVec.toNat_ofInt]
    have h2 : (BitVec.ofInt IntKind.u64.bits (y : Int)) = BitVec.ofNat 64 y := by
      apply BitVec.eq_of_toNat_eq; simp [IntKind.bits, BitVec.toNat_ofInt]
    rw [h1, h2]
    have h3 : (BitVec.ofNat 64 x ||| BitVec.ofNat 64 y).toNat = x ||| y := by
      rw [BitVec.toNat_or, BitVec.toNat_ofNat, BitVec.toNat_ofNat, Nat.mod_eq_of_lt (by omega), Nat.mod_eq_of_lt (by omega)]
    have h4 : x ||| y < 2 ^ 64 := Nat.or_lt_two_pow (by omega) (by omega)
    show IntKind.u64.wrap ((BitVec.ofNat 64 x ||| BitVec.ofNat 64 y).toNat : Int) = _
    rw [h3, wrap_u64 (by omega) (by omega)]
  rw [this]; exact k

theorem rMul8 {i : Nat} (hi : i < 1000) {K : Value → Prop} (k : K (it ((8 * i : Nat) : Int))) : vBin (.int .i64) .mul (it 8) (it i) K := by
  refine ⟨rfl, ?_⟩
  have : (8 : Int) * (i : Int) = ((8 * i : Nat) : Int) := by omega
  rw [this, wrap_id (by omega) (by omega)]; exact k

theorem pow_256 (i : Nat) : 256 ^ i = 2 ^ (8 * i) := by rw [Nat.pow_mul]

theorem wv_take {l : List UInt8} {i : Nat} {b : UInt8} (hb : l[i]? = some b) : wv (l.take (i + 1)) = wv (l.take i) + b.toNat * 2 ^ (8 * i) := by
  have hi := (List.getElem?_eq_some_iff.1 hb).1
  rw [List.take_add_one, hb]
  simp only [Option.toList_some]
  rw [wv_app]
  simp only [wv, Nat.mul_zero, Nat.add_zero, List.length_take]
  rw [Nat.min_eq_left (by omega), pow_256, Nat.mul_comm]

theorem wv_drop {l : List UInt8} {i : Nat} {b : UInt8} (hb : l[i]? = some b) : wv (l.drop i) = wv (l.drop (i + 1)) * 256 + b.toNat := by
  have hi := (List.getElem?_eq_some_iff.1 hb).1
  rw [List.drop_eq_getElem_cons hi]
  have : l[i] = b := by rw [List.getElem?_eq_getElem hi] at hb; exact Option.some.inj hb
  rw [this]
  simp only [wv]
  omega

end Go.Proofs.YtmaecpbkbkncgaaDoor
