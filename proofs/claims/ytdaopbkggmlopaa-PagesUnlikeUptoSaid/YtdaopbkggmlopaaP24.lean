/-
  Pages, part 24: numbers and their eight bytes. Own work.
-/
import Derived.Test.YtdaopbkggmlopaaP23
set_option linter.unusedVariables false
set_option linter.unusedSimpArgs false
namespace Go.Proofs.Ytdaopbkggmlopaa
open Go Go.V Go.RowKit

/-- the number that bytes are, the lowest first -/
def wv : List UInt8 → Nat
  | [] => 0
  | b :: r => b.toNat + 256 * wv r

theorem wv_lt (l : List UInt8) : wv l < 256 ^ l.length := by
  induction l with
  | nil => decide
  | cons b r ih =>
    have := b.toNat_lt
    simp only [wv, List.length_cons, Nat.pow_succ]
    omega

theorem wv_app (l r : List UInt8) : wv (l ++ r) = wv l + 256 ^ l.length * wv r := by
  induction l with
  | nil => simp [wv]
  | cons b l ih =>
    simp only [List.cons_append, wv, ih, List.length_cons, Nat.pow_succ, Nat.mul_add]
    have : 256 * (256 ^ l.length * wv r) = 256 ^ l.length * 256 * wv r := by
      rw [Nat.mul_comm (256 ^ l.length) 256, Nat.mul_assoc]
    omega

def eight (x : Nat) : List UInt8 := (List.range 8).map fun i => UInt8.ofNat (x / 256 ^ i)

theorem eight_len (x : Nat) : (eight x).length = 8 := by simp [eight]

theorem u8_of (n : Nat) : (UInt8.ofNat n).toNat = n % 256 := by simp

theorem wrap_u64 {n : Int} (h0 : 0 ≤ n) (h1 : n < 18446744073709551616) : IntKind.u64.wrap n = n := by
  have e : IntKind.u64.wrap n = n % 18446744073709551616 := by simp [IntKind.wrap, IntKind.signed, IntKind.bits]
  rw [e]; omega

theorem wrap_u8 (n : Nat) : IntKind.u8.wrap n = ((UInt8.ofNat n).toNat : Nat) := by
  have e : IntKind.u8.wrap (n : Int) = (n : Int) % 256 := by simp [IntKind.wrap, IntKind.signed, IntKind.bits]
  rw [e, u8_of]; omega

theorem or_add {x b i : Nat} (h : x < 2 ^ i) : x ||| b * 2 ^ i = x + b * 2 ^ i := by
  rw [Nat.or_comm, Nat.mul_comm, ← Nat.two_pow_add_eq_or_of_lt h, Nat.add_comm]

theorem rCv {k k' : IntKind} {n : Int} {K : Value → Prop} (h : K (.int k (k.wrap n))) : vConv (.int k) (.int k' n) K := h

theorem rShl64 {b : Nat} {i : Nat} (hb : b < 256) (hi : i < 8) {K : Value → Prop} (k : K (.int .u64 ((b * 2 ^ (8 * i) : Nat) : Int))) :
    vBin (.int .u64) .shl (.int .u64 b) (it ((8 * i : Nat) : Int)) K := by
  refine ⟨by omega, ?_⟩
  have e : min ((8 * i : Nat) : Int).toNat IntKind.u64.bits = 8 * i := by
    have : IntKind.u64.bits = 64 := rfl
    rw [Int.toNat_natCast, this]; omega
  rw [e]
  have hp : 2 ^ (8 * i) ≤ 2 ^ 56 := Nat.pow_le_pow_right (by decide) (by omega)
  have hm : b * 2 ^ (8 * i) ≤ 255 * 2 ^ 56 := Nat.mul_le_mul (by omega) hp
  have e2 : (b : Int) * 2 ^ (8 * i) = ((b * 2 ^ (8 * i) : Nat) : Int) := by push_cast; rfl
  rw [e2, wrap_u64 (by omega) (by omega)]
  exact k

theorem rOr64 {x y : Nat} (hx : x < 18446744073709551616) (hy : y < 18446744073709551616) {K : Value → Prop} (k : K (.int .u64 ((x ||| y : Nat) : Int))) :
    vBin (.int .u64) .or (.int .u64 x) (.int .u64 y) K := by
  refine ⟨rfl, ?_⟩
  have : bitsI .u64 (· ||| ·) (x : Int) (y : Int) = ((x ||| y : Nat) : Int) := by
    unfold bitsI
    have h1 : (BitVec.ofInt IntKind.u64.bits (x : Int)) = BitVec.ofNat 64 x := by
      apply BitVec.eq_of_toNat_eq; simp [IntKind.bits, BitVec.toNat_ofInt]
    have h2 : (BitVec.ofInt IntKind.u64.bits (y : Int)) = BitVec.ofNat 64 y := by
      apply BitVec.eq_of_toNat_eq; simp [IntKind.bits, BitVec.toNat_ofInt]
    rw [h1, h2]
    have h3 : (BitVec.ofNat 64 x ||| BitVec.ofNat 64 y).toNat = x ||| y := by
      rw [BitVec.toNat_or, BitVec.toNat_ofNat, BitVec.toNat_ofNat, Nat.mod_eq_of_lt (by omega), Nat.mod_eq_of_lt (by omega)]
    have h4 : x ||| y < 2 ^ 64 := Nat.or_lt_two_pow (by omega) (by omega)
    show IntKind.u64.wrap ((BitVec.ofNat 64 x ||| BitVec.ofNat 64 y).toNat : Int) = _
    rw [h3, wrap_u64 (by omega) (by omega)]
  rw [this]; exact k

theorem rMul8 {i : Nat} (hi : i < 1000) {K : Value → Prop} (k : K (it ((8 * i : Nat) : Int))) : vBin (.int .i64) .mul (it 8) (it i) K := by
  refine ⟨rfl, ?_⟩
  have : (8 : Int) * (i : Int) = ((8 * i : Nat) : Int) := by omega
  rw [this, wrap_id (by omega) (by omega)]; exact k

theorem pow_256 (i : Nat) : 256 ^ i = 2 ^ (8 * i) := by rw [Nat.pow_mul]

theorem wv_take {l : List UInt8} {i : Nat} {b : UInt8} (hb : l[i]? = some b) : wv (l.take (i + 1)) = wv (l.take i) + b.toNat * 2 ^ (8 * i) := by
  have hi := (List.getElem?_eq_some_iff.1 hb).1
  rw [List.take_add_one, hb]
  simp only [Option.toList_some]
  rw [wv_app]
  simp only [wv, Nat.mul_zero, Nat.add_zero, List.length_take]
  rw [Nat.min_eq_left (by omega), pow_256, Nat.mul_comm]

theorem wv_drop {l : List UInt8} {i : Nat} {b : UInt8} (hb : l[i]? = some b) : wv (l.drop i) = wv (l.drop (i + 1)) * 256 + b.toNat := by
  have hi := (List.getElem?_eq_some_iff.1 hb).1
  rw [List.drop_eq_getElem_cons hi]
  have : l[i] = b := by rw [List.getElem?_eq_getElem hi] at hb; exact Option.some.inj hb
  rw [this]
  simp only [wv]
  omega

/-- pages' Word -/
theorem word21 {w0 w : World} {g : Gh} {n : Nat} {c : Nat → UInt8} {a : Int} {K : Value → World → Prop} (h : Own w0 w g n c) (ha1 : -9223372036854775808 ≤ a) (ha2 : a < 9223372036854775808)
    (hK : ∀ w', Own w0 w' g n c → Fr (fun _ => False) w w' → K (.tuple #[.int .u64 (wv (if fitsE n a 8 = 0 then seg c a.toNat 8 else [])), it (fitsE n a 8)]) w') : CallK Try.prog 21 #[pt g.b 0, it a] w K := by
  apply Ret.call
  apply F21_ok
  unfold F21
  refine h.read (k' := 8) ha1 ha2 ?_
  intro w1 h1 f1
  have e8 : ((8 : Int).toNat) = 8 := rfl
  rw [e8]
  have hl8 : (if fitsE n a 8 = 0 then seg c a.toNat 8 else []).length ≤ 8 := by split <;> simp [seg_len]
  have hK := hK w1 h1 f1
  generalize fitsE n a 8 = f at *
  generalize (if f = 0 then seg c a.toNat 8 else []) = l at *
  refine rExt0 <| rExt1 <| rLenB ?_
  refine ⟨fun vs ds W => ds = [] ∧ W = w1 ∧ ∃ i : Nat, i ≤ l.length ∧ vs = [str l, it f, .int .u64 (wv (l.take i)), it l.length, it i],
    fun vs _ _ => match vs with | [_, _, _, _, .int _ i] => l.length - i.toNat | _ => 0, ⟨rfl, rfl, 0, by omega, rfl⟩, ?_⟩
  rintro ρ ds W ⟨rfl, rfl, i, hi, hρ⟩
  have hρ0 := hρ
  simp only [List.map_cons, List.map_nil, List.cons.injEq, and_true] at hρ
  obtain ⟨e6, e7, e8, e17, e18⟩ := hρ
  unfold F21L1
  rw [hρ0, e6, e7, e8, e17, e18]
  refine rLt <| rIf (fun hlt => ?_) (fun hge => ?_)
  · have hlt : i < l.length := by simpa using hlt
    have hb := List.getElem?_eq_getElem hlt
    have hlb := (l[i]).toNat_lt
    refine rIxS hb ?_
    refine rCv ?_
    have ew : IntKind.u64.wrap ((l[i]).toNat : Int) = ((l[i]).toNat : Int) := wrap_u64 (by omega) (by omega)
    rw [ew]
    refine rMul8 (by omega) <| rShl64 (by omega) (by omega) ?_
    have hx := wv_lt (l.take i)
    rw [pow_256] at hx
    have hx' : wv (l.take i) < 2 ^ (8 * i) := by
      have : (l.take i).length = i := by simp; omega
      rw [this] at hx; exact hx
    have hp : 2 ^ (8 * i) ≤ 2 ^ 56 := Nat.pow_le_pow_right (by decide) (by omega)
    have hm : (l[i]).toNat * 2 ^ (8 * i) ≤ 255 * 2 ^ 56 := Nat.mul_le_mul (by omega) hp
    refine rOr64 (by omega) (by omega) ?_
    rw [or_add hx', ← wv_take hb]
    refine rAdd (by omega) (by omega) ?_
    have ei : (i : Int) + 1 = ((i + 1 : Nat) : Int) := by omega
    rw [ei]
    refine ⟨⟨rfl, rfl, i + 1, by omega, rfl⟩, ?_⟩
    show l.length - ((i + 1 : Nat) : Int).toNat < l.length - ((i : Nat) : Int).toNat
    simp; omega
  · have hi : i = l.length := by
      have : ¬ i < l.length := by simpa using hge
      omega
    subst hi
    rw [List.take_length]
    exact hK

/-- ref.Word -/
theorem word34 {w : World} {v : Value} {l : List UInt8} {bl : Option Nat} {a : Int} {K : Value → World → Prop} (h : Bs w v l bl) (hl : l.length ≤ 1048576) (ha1 : -9223372036854775808 ≤ a) (ha2 : a < 9223372036854775808)
    (hK : K (.tuple #[.int .u64 (wv (if fitsE l.length a 8 = 0 then (l.drop a.toNat).take 8 else [])), it (fitsE l.length a 8)]) w) : CallK Try.prog 34 #[v, it a] w K := by
  apply Ret.call
  apply F34_ok
  unfold F34
  refine read30 (k := 8) h hl ha1 ha2 ?_
  have e8 : ((8 : Int).toNat) = 8 := rfl
  rw [e8]
  have hl8 : (if fitsE l.length a 8 = 0 then (l.drop a.toNat).take 8 else []).length ≤ 8 := by split <;> simp; omega
  generalize fitsE l.length a 8 = f at *
  generalize (if f = 0 then (l.drop a.toNat).take 8 else []) = s at *
  refine rExt0 <| rExt1 <| rLenB <| rSub (by omega) (by omega) ?_
  refine ⟨fun vs ds W => ds = [] ∧ W = w ∧ ∃ i : Nat, i ≤ s.length ∧ vs = [str s, it f, .int .u64 (wv (s.drop i)), it ((i : Int) - 1)],
    fun vs _ _ => match vs with | [_, _, _, .int _ i] => (i + 1).toNat | _ => 0, ⟨rfl, rfl, s.length, by omega, by rw [List.drop_length]; rfl⟩, ?_⟩
  rintro ρ ds W ⟨rfl, rfl, i, hi, hρ⟩
  have hρ0 := hρ
  simp only [List.map_cons, List.map_nil, List.cons.injEq, and_true] at hρ
  obtain ⟨e6, e7, e8, e9⟩ := hρ
  unfold F34L1
  rw [hρ0, e6, e7, e8, e9]
  refine rGe <| rIf (fun hlt => ?_) (fun hge => ?_)
  · have hlt : 0 < i := by have : (0 : Int) ≤ (i : Int) - 1 := by simpa using hlt
                           omega
    obtain ⟨j, rfl⟩ : ∃ j, i = j + 1 := ⟨i - 1, by omega⟩
    have ej : ((j + 1 : Nat) : Int) - 1 = (j : Int) := by omega
    rw [ej]
    have hjl : j < s.length := by omega
    have hb := List.getElem?_eq_getElem hjl
    have hlb := (s[j]).toNat_lt
    have hx := wv_lt (s.drop (j + 1))
    have hx' : 256 ^ (s.drop (j + 1)).length ≤ 256 ^ 7 := Nat.pow_le_pow_right (by decide) (by simp; omega)
    refine ⟨rfl, ?_⟩
    have em : ((wv (s.drop (j + 1)) : Nat) : Int) * 256 = ((wv (s.drop (j + 1)) * 256 : Nat) : Int) := by omega
    rw [em, wrap_u64 (by omega) (by omega)]
    refine rIxS hb ?_
    refine rCv ?_
    have ew : IntKind.u64.wrap ((s[j]).toNat : Int) = ((s[j]).toNat : Int) := wrap_u64 (by omega) (by omega)
    rw [ew]
    refine ⟨rfl, ?_⟩
    have ea : ((wv (s.drop (j + 1)) * 256 : Nat) : Int) + ((s[j]).toNat : Int) = ((wv (s.drop j) : Nat) : Int) := by rw [wv_drop hb]; omega
    have hx2 := wv_lt (s.drop j)
    have hx3 : 256 ^ (s.drop j).length ≤ 256 ^ 8 := Nat.pow_le_pow_right (by decide) (by simp; omega)
    rw [ea, wrap_u64 (by omega) (by omega)]
    refine rSub (by omega) (by omega) ?_
    refine ⟨⟨rfl, rfl, j, by omega, rfl⟩, ?_⟩
    show ((j : Int) - 1 + 1).toNat < ((j : Int) + 1).toNat
    omega
  · have hi : i = 0 := by have : ¬ (0 : Int) ≤ (i : Int) - 1 := by simpa using hge
                          omega
    subst hi
    exact hK

end Go.Proofs.Ytdaopbkggmlopaa
