/-
  Cpu, part 4: numbers and bytes; what operations make of two numbers. Own work.
-/
import Derived.Test.YtmaecpbkbkncgaaDoorC3
set_option linter.unusedVariables false
set_option linter.unusedSimpArgs false
set_option maxRecDepth 100000
namespace Go.Proofs.YtmaecpbkbkncgaaDoor
open Go Go.V Go.RowKit

abbrev ut (n : Nat) : Value := .int .u64 (n : Int)

theorem wrap_u64m (n : Int) : IntKind.u64.wrap n = n % 18446744073709551616 := by simp [IntKind.wrap, IntKind.signed, IntKind.bits]
theorem wrap_u64n (n : Nat) : IntKind.u64.wrap (n : Int) = ((n % 18446744073709551616 : Nat) : Int) := by
  rw [wrap_u64m]; omega

section
variable {K : Value → Prop}
theorem rShrU {x i : Nat} (hi : i ≤ 64) (k : K (ut (x / 2 ^ i))) : vBin (.int .u64) .shr (ut x) (ut i) K := by
  refine ⟨by omega, ?_⟩
  have e : min ((i : Nat) : Int).toNat IntKind.u64.bits = i := by
    have : IntKind.u64.bits = 64 := rfl
    rw [Int.toNat_natCast, this]; omega
  rw [e, Int.fdiv_eq_ediv_of_nonneg _ (Int.pow_nonneg (by omega))]
  have e2 : (x : Int) / 2 ^ i = ((x / 2 ^ i : Nat) : Int) := by push_cast; rfl
  rw [e2]
  exact k
theorem rShrY {x y : Nat} (k : K (ut (x / 2 ^ (min y 64)))) : vBin (.int .u64) .shr (ut x) (ut y) K := by
  refine ⟨by omega, ?_⟩
  have e : min ((y : Nat) : Int).toNat IntKind.u64.bits = min y 64 := by rw [Int.toNat_natCast]; rfl
  rw [e, Int.fdiv_eq_ediv_of_nonneg _ (Int.pow_nonneg (by omega))]
  have e2 : (x : Int) / 2 ^ (min y 64) = ((x / 2 ^ (min y 64) : Nat) : Int) := by push_cast; rfl
  rw [e2]
  exact k
theorem rShlY {x y : Nat} (k : K (ut (x * 2 ^ (min y 64) % 18446744073709551616))) : vBin (.int .u64) .shl (ut x) (ut y) K := by
  refine ⟨by omega, ?_⟩
  have e : min ((y : Nat) : Int).toNat IntKind.u64.bits = min y 64 := by rw [Int.toNat_natCast]; rfl
  rw [e]
  have e2 : (x : Int) * 2 ^ (min y 64) = ((x * 2 ^ (min y 64) : Nat) : Int) := by push_cast; rfl
  rw [e2, wrap_u64n]
  exact k
theorem rAddU {x y : Nat} (k : K (ut ((x + y) % 18446744073709551616))) : vBin (.int .u64) .add (ut x) (ut y) K := by
  refine ⟨rfl, ?_⟩
  rw [← Int.natCast_add, wrap_u64n]; exact k
theorem rMulU {x y : Nat} (k : K (ut (x * y % 18446744073709551616))) : vBin (.int .u64) .mul (ut x) (ut y) K := by
  refine ⟨rfl, ?_⟩
  rw [← Int.natCast_mul, wrap_u64n]; exact k
theorem rSubU {x y : Nat} (hy : y < 18446744073709551616) (k : K (ut ((x + (18446744073709551616 - y)) % 18446744073709551616))) : vBin (.int .u64) .sub (ut x) (ut y) K := by
  refine ⟨rfl, ?_⟩
  have : IntKind.u64.wrap ((x : Int) - y) = (((x + (18446744073709551616 - y)) % 18446744073709551616 : Nat) : Int) := by
    rw [wrap_u64m]; omega
  rw [this]; exact k
theorem rQuoU {x y : Nat} (hx : x < 18446744073709551616) (hy : y ≠ 0) (k : K (ut (x / y))) : vBin (.int .u64) .quo (ut x) (ut y) K := by
  refine ⟨rfl, by omega, ?_⟩
  have e : Int.tdiv (x : Int) y = ((x / y : Nat) : Int) := by rw [Int.tdiv_eq_ediv_of_nonneg (Int.natCast_nonneg _)]; simp
  have : x / y < 18446744073709551616 := Nat.lt_of_le_of_lt (Nat.div_le_self _ _) hx
  rw [e, wrap_u64n, Nat.mod_eq_of_lt this]; exact k
theorem rRemU {x y : Nat} (hy : y ≠ 0) (k : K (ut (x % y))) : vBin (.int .u64) .rem (ut x) (ut y) K := by
  refine ⟨rfl, by omega, ?_⟩
  have e : Int.tmod (x : Int) y = ((x % y : Nat) : Int) := by rw [Int.tmod_eq_emod_of_nonneg (Int.natCast_nonneg _)]; simp
  rw [e]; exact k
theorem ofInt64 {x : Nat} : (BitVec.ofInt IntKind.u64.bits (x : Int)) = BitVec.ofNat 64 x := by
  apply BitVec.eq_of_toNat_eq; simp [IntKind.bits, BitVec.toNat_ofInt]
theorem rOrU {x y : Nat} (hx : x < 18446744073709551616) (hy : y < 18446744073709551616) (k : K (ut (x ||| y))) : vBin (.int .u64) .or (ut x) (ut y) K := rOr64 hx hy k
theorem rAndU {x y : Nat} (hx : x < 18446744073709551616) (hy : y < 18446744073709551616) (k : K (ut (x &&& y))) : vBin (.int .u64) .and (ut x) (ut y) K := by
  refine ⟨rfl, ?_⟩
  have : bitsI .u64 (· &&& ·) (x : Int) (y : Int) = ((x &&& y : Nat) : Int) := by
    unfold bitsI
    rw [ofInt64, ofInt64]
    have h3 : (BitVec.ofNat 64 x &&& BitVec.ofNat 64 y).toNat = x &&& y := by
      rw [BitVec.toNat_and, BitVec.toNat_ofNat, BitVec.toNat_ofNat, Nat.mod_eq_of_lt (by omega), Nat.mod_eq_of_lt (by omega)]
    have h4 : x &&& y < 2 ^ 64 := Nat.and_lt_two_pow _ (by omega)
    show IntKind.u64.wrap ((BitVec.ofNat 64 x &&& BitVec.ofNat 64 y).toNat : Int) = _
    rw [h3, wrap_u64 (by omega) (by omega)]
  rw [this]; exact k
theorem rXorU {x y : Nat} (hx : x < 18446744073709551616) (hy : y < 18446744073709551616) (k : K (ut (x ^^^ y))) : vBin (.int .u64) .xor (ut x) (ut y) K := by
  refine ⟨rfl, ?_⟩
  have : bitsI .u64 (· ^^^ ·) (x : Int) (y : Int) = ((x ^^^ y : Nat) : Int) := by
    unfold bitsI
    rw [ofInt64, ofInt64]
    have h3 : (BitVec.ofNat 64 x ^^^ BitVec.ofNat 64 y).toNat = x ^^^ y := by
      rw [BitVec.toNat_xor, BitVec.toNat_ofNat, BitVec.toNat_ofNat, Nat.mod_eq_of_lt (by omega), Nat.mod_eq_of_lt (by omega)]
    have h4 : x ^^^ y < 2 ^ 64 := Nat.xor_lt_two_pow (by omega) (by omega)
    show IntKind.u64.wrap ((BitVec.ofNat 64 x ^^^ BitVec.ofNat 64 y).toNat : Int) = _
    rw [h3, wrap_u64 (by omega) (by omega)]
  rw [this]; exact k
theorem rEqU {x y : Nat} (k : K (.bool (decide (x = y)))) : vBin (.int .u64) .eql (ut x) (ut y) K := by
  refine ⟨rfl, ?_⟩
  have : ((x : Int) == (y : Int)) = decide (x = y) := by rw [Bool.eq_iff_iff]; simp only [beq_iff_eq, decide_eq_true_eq]; omega
  rw [this]; exact k
theorem rNeU {x y : Nat} (k : K (.bool (!decide (x = y)))) : vBin (.int .u64) .neq (ut x) (ut y) K := by
  refine ⟨rfl, ?_⟩
  have : ((x : Int) != (y : Int)) = !decide (x = y) := by rw [Bool.eq_iff_iff]; simp only [bne_iff_ne, ne_eq, Bool.not_eq_true', decide_eq_false_iff_not]; omega
  rw [this]; exact k
theorem rLtU {x y : Nat} (k : K (.bool (decide (x < y)))) : vBin (.int .u64) .lss (ut x) (ut y) K := by
  refine ⟨rfl, ?_⟩
  have : decide ((x : Int) < (y : Int)) = decide (x < y) := by rw [Bool.eq_iff_iff]; simp
  rw [this]; exact k
theorem rGtU {x y : Nat} (k : K (.bool (decide (y < x)))) : vBin (.int .u64) .gtr (ut x) (ut y) K := by
  refine ⟨rfl, ?_⟩
  have : decide ((y : Int) < (x : Int)) = decide (y < x) := by rw [Bool.eq_iff_iff]; simp
  rw [this]; exact k
theorem rGeU {x y : Nat} (k : K (.bool (decide (y ≤ x)))) : vBin (.int .u64) .geq (ut x) (ut y) K := by
  refine ⟨rfl, ?_⟩
  have : decide ((y : Int) ≤ (x : Int)) = decide (y ≤ x) := by rw [Bool.eq_iff_iff]; simp
  rw [this]; exact k
end

theorem wv_eight (x : Nat) (h : x < 18446744073709551616) : wv (eight x) = x := by
  have e : eight x = [UInt8.ofNat (x / 256 ^ 0), UInt8.ofNat (x / 256 ^ 1), UInt8.ofNat (x / 256 ^ 2), UInt8.ofNat (x / 256 ^ 3), UInt8.ofNat (x / 256 ^ 4), UInt8.ofNat (x / 256 ^ 5), UInt8.ofNat (x / 256 ^ 6), UInt8.ofNat (x / 256 ^ 7)] := rfl
  rw [e]
  simp only [wv, u8_of]
  omega

theorem div_step (x i : Nat) : x / 256 ^ i / 2 ^ 8 = x / 256 ^ (i + 1) := by
  show x / 256 ^ i / 256 = _
  rw [Nat.pow_succ, ← Nat.div_div_eq_div_mul]

/-- cpu.bytes -/
theorem bytes_spec {w : World} {x n : Nat} {K : Value → World → Prop} (hn : n ≤ 8) (hK : ∀ w', Fr (fun _ => False) w w' → K (str ((eight x).take n)) w') : CallK Tryd.prog 45 #[ut x, it n] w K := by
  apply Ret.call
  apply F45_ok
  unfold F45
  refine mk38 (by omega) ?_
  intro w1 v h1 f1 s1
  refine h1.lenE ?_
  have hl : ((List.replicate n 0 : List UInt8).length : Int) = n := by simp
  rw [hl]
  refine ⟨fun vs ds W => ds = [] ∧ ∃ (i : Nat), i ≤ n ∧ vs = [ut (x / 256 ^ i), v, it n, it i] ∧ Bs W v ((eight x).take i ++ List.replicate (n - i) 0) (some w.heap.size) ∧ Fr (fun _ => False) w W,
    fun vs _ _ => match vs with | [_, _, _, .int _ i] => n - i.toNat | _ => 0, ⟨rfl, 0, by omega, by simp, by simpa using h1, f1⟩, ?_⟩
  rintro ρ ds W ⟨rfl, i, hi, hρ, hB, fr⟩
  have hρ0 := hρ
  simp only [List.map_cons, List.map_nil, List.cons.injEq, and_true] at hρ
  obtain ⟨e0, e5, e10, e11⟩ := hρ
  unfold F45L1
  rw [hρ0, e0, e5, e10, e11]
  refine rLt <| rIf (fun hlt => ?_) (fun hge => ?_)
  · have hlt : i < n := by
      have : (i : Int) < n := by simpa using hlt
      omega
    refine rCv ?_
    rw [wrap_u8]
    refine Bs.write hB (i := i) (x := UInt8.ofNat (x / 256 ^ i)) (by simp [eight_len]; omega) ?_
    intro w2 hB2 f2 s2
    refine rShrU (i := 8) (by decide) ?_
    rw [div_step]
    refine rAdd (by omega) (by omega) ?_
    have ei : (i : Int) + 1 = ((i + 1 : Nat) : Int) := by omega
    rw [ei]
    refine ⟨⟨rfl, i + 1, by omega, rfl, ?_, fr.trans f2 fun k hk e => by omega⟩, ?_⟩
    · have : ((eight x).take i ++ List.replicate (n - i) 0).set i (UInt8.ofNat (x / 256 ^ i)) = (eight x).take (i + 1) ++ List.replicate (n - (i + 1)) 0 := by
        have hl : ((eight x).take i).length = i := by simp [eight_len]; omega
        rw [List.set_append_right _ _ (by omega), hl, Nat.sub_self, eight_take (by omega)]
        have : n - i = (n - (i + 1)) + 1 := by omega
        rw [this, List.replicate_succ]
        simp
      rw [← this]
      exact hB2
    · show n - ((i + 1 : Nat) : Int).toNat < n - ((i : Nat) : Int).toNat
      simp; omega
  · have hi : i = n := by
      have : ¬ (i : Int) < n := by simpa using hge
      omega
    subst hi
    rw [Nat.sub_self] at hB
    simp only [List.replicate_zero, List.append_nil] at hB
    exact hB.toStr (hK W fr)

theorem wv_bound {s : List UInt8} {j : Nat} (hs : s.length ≤ 8) (hj : 1 ≤ j) : wv (s.drop j) < 72057594037927936 := by
  have h := wv_lt (s.drop j)
  have : 256 ^ (s.drop j).length ≤ 256 ^ 7 := Nat.pow_le_pow_right (by decide) (by simp; omega)
  exact Nat.lt_of_lt_of_le h this

/-- cpu.number -/
theorem number_spec {w : World} {s : List UInt8} {K : Value → World → Prop} (hs : s.length ≤ 8) (hK : K (ut (wv s)) w) : CallK Tryd.prog 46 #[str s] w K := by
  apply Ret.call
  apply F46_ok
  unfold F46
  refine rLenB <| rSub (by omega) (by omega) ?_
  refine ⟨fun vs ds W => ds = [] ∧ W = w ∧ ∃ (j : Nat), j ≤ s.length ∧ vs = [str s, ut (wv (s.drop j)), it ((j : Int) - 1)],
    fun vs _ _ => match vs with | [_, _, .int _ i] => (i + 1).toNat | _ => 0, ⟨rfl, rfl, s.length, Nat.le_refl _, by simp [wv]⟩, ?_⟩
  rintro ρ ds W ⟨rfl, rfl, j, hj, hρ⟩
  have hρ0 := hρ
  simp only [List.map_cons, List.map_nil, List.cons.injEq, and_true] at hρ
  obtain ⟨e0, e3, e4⟩ := hρ
  unfold F46L1
  rw [hρ0, e0, e3, e4]
  refine rGe <| rIf (fun hlt => ?_) (fun hge => ?_)
  · have hlt : 1 ≤ j := by
      have : (0 : Int) ≤ (j : Int) - 1 := by simpa using hlt
      omega
    obtain ⟨i, rfl⟩ : ∃ i, j = i + 1 := ⟨j - 1, by omega⟩
    have ei : ((i + 1 : Nat) : Int) - 1 = (i : Int) := by omega
    rw [ei]
    have hb := wv_bound (j := i + 1) hs hlt
    obtain ⟨b, hbi⟩ : ∃ b, s[i]? = some b := ⟨_, List.getElem?_eq_getElem (by omega)⟩
    have hb2 := b.toNat_lt
    refine rShlY (y := 8) ?_
    have e8 : wv (s.drop (i + 1)) * 2 ^ (min 8 64) % 18446744073709551616 = wv (s.drop (i + 1)) * 256 := by
      have : 2 ^ (min 8 64) = 256 := by decide
      rw [this]; omega
    rw [e8]
    refine rIxS hbi <| rCv ?_
    rw [wrap_u64n, Nat.mod_eq_of_lt (by omega)]
    refine rOrU (by omega) (by omega) ?_
    rw [Nat.or_comm, or_byte hb2]
    have ew : b.toNat + 256 * wv (s.drop (i + 1)) = wv (s.drop i) := by rw [wv_drop hbi]; omega
    rw [ew]
    refine rSub (by omega) (by omega) ?_
    refine ⟨⟨rfl, rfl, i, by omega, rfl⟩, ?_⟩
    show ((i : Int) - 1 + 1).toNat < ((i : Int) + 1).toNat
    omega
  · have hj : j = 0 := by
      have : ¬ (0 : Int) ≤ (j : Int) - 1 := by simpa using hge
      omega
    subst hj
    exact hK

/-- gatehouseref06.value -/
theorem value_spec {w : World} {s : List UInt8} {K : Value → World → Prop} (hs : s.length ≤ 8) (hK : K (ut (wv s)) w) : CallK Tryd.prog 59 #[str s] w K := by
  apply Ret.call
  apply F59_ok
  unfold F59
  refine rLenB <| rSub (by omega) (by omega) ?_
  refine ⟨fun vs ds W => ds = [] ∧ W = w ∧ ∃ (j : Nat), j ≤ s.length ∧ vs = [str s, ut (wv (s.drop j)), it ((j : Int) - 1)],
    fun vs _ _ => match vs with | [_, _, .int _ i] => (i + 1).toNat | _ => 0, ⟨rfl, rfl, s.length, Nat.le_refl _, by simp [wv]⟩, ?_⟩
  rintro ρ ds W ⟨rfl, rfl, j, hj, hρ⟩
  have hρ0 := hρ
  simp only [List.map_cons, List.map_nil, List.cons.injEq, and_true] at hρ
  obtain ⟨e0, e3, e4⟩ := hρ
  unfold F59L1
  rw [hρ0, e0, e3, e4]
  refine rGe <| rIf (fun hlt => ?_) (fun hge => ?_)
  · have hlt : 1 ≤ j := by
      have : (0 : Int) ≤ (j : Int) - 1 := by simpa using hlt
      omega
    obtain ⟨i, rfl⟩ : ∃ i, j = i + 1 := ⟨j - 1, by omega⟩
    have ei : ((i + 1 : Nat) : Int) - 1 = (i : Int) := by omega
    rw [ei]
    have hb := wv_bound (j := i + 1) hs hlt
    obtain ⟨b, hbi⟩ : ∃ b, s[i]? = some b := ⟨_, List.getElem?_eq_getElem (by omega)⟩
    have hb2 := b.toNat_lt
    refine rMulU (y := 256) ?_
    rw [Nat.mod_eq_of_lt (by omega)]
    refine rIxS hbi <| rCv ?_
    rw [wrap_u64n, Nat.mod_eq_of_lt (a := b.toNat) (by omega)]
    refine rAddU ?_
    have ew : (wv (s.drop (i + 1)) * 256 + b.toNat) % 18446744073709551616 = wv (s.drop i) := by rw [wv_drop hbi]; omega
    rw [ew]
    refine rSub (by omega) (by omega) ?_
    refine ⟨⟨rfl, rfl, i, by omega, rfl⟩, ?_⟩
    show ((i : Int) - 1 + 1).toNat < ((i : Int) + 1).toNat
    omega
  · have hj : j = 0 := by
      have : ¬ (0 : Int) ≤ (j : Int) - 1 := by simpa using hge
      omega
    subst hj
    exact hK

/-- what an operation makes of two numbers -/
def reck (op : Int) (x y : Nat) : Nat :=
  if op = 6 then (x + y) % 18446744073709551616
  else if op = 7 then (x + (18446744073709551616 - y)) % 18446744073709551616
  else if op = 8 then x * y % 18446744073709551616
  else if op = 9 then (if y = 0 then 18446744073709551615 else x / y)
  else if op = 10 then (if y = 0 then x else x % y)
  else if op = 11 then x &&& y
  else if op = 12 then x ||| y
  else if op = 13 then x ^^^ y
  else if op = 14 then x * 2 ^ (min y 64) % 18446744073709551616
  else if op = 15 then x / 2 ^ (min y 64)
  else if op = 16 then (if x < y then 1 else 0)
  else if x = y then 1 else 0

theorem ite_lt {p : Prop} [Decidable p] {a b n : Nat} (ha : a < n) (hb : b < n) : (if p then a else b) < n := by split <;> assumption

theorem reck_lt {op : Int} {x y : Nat} (hx : x < 18446744073709551616) (hy : y < 18446744073709551616) : reck op x y < 18446744073709551616 :=
  have h5 : x ||| y < 18446744073709551616 := Nat.or_lt_two_pow (n := 64) hx hy
  have h6 : x ^^^ y < 18446744073709551616 := Nat.xor_lt_two_pow (n := 64) hx hy
  have hm : 0 < 18446744073709551616 := by decide
  have h01 : ∀ (p : Prop) [Decidable p], (if p then 1 else 0) < 18446744073709551616 := fun p _ => ite_lt (by decide) (by decide)
  ite_lt (Nat.mod_lt _ hm) <| ite_lt (Nat.mod_lt _ hm) <| ite_lt (Nat.mod_lt _ hm) <| ite_lt (ite_lt (by decide) (Nat.lt_of_le_of_lt (Nat.div_le_self _ _) hx)) <|
    ite_lt (ite_lt hx (Nat.lt_of_le_of_lt (Nat.mod_le _ _) hx)) <| ite_lt (Nat.and_lt_two_pow (n := 64) _ hy) <| ite_lt h5 <| ite_lt h6 <| ite_lt (Nat.mod_lt _ hm) <|
    ite_lt (Nat.lt_of_le_of_lt (Nat.div_le_self _ _) hx) <| ite_lt (h01 _) (h01 _)

theorem flag_spec {w : World} {b : Bool} {K : Value → World → Prop} (hK : K (ut (if b = true then 1 else 0)) w) : CallK Tryd.prog 47 #[.bool b] w K := by
  apply Ret.call
  apply F47_ok
  unfold F47
  cases b
  · exact rIfF hK
  · exact rIfT hK

/-- cpu.reckon -/
theorem reckon_spec {w : World} {op : Int} {x y : Nat} {K : Value → World → Prop} (hx : x < 18446744073709551616) (hy : y < 18446744073709551616) (hK : K (ut (reck op x y)) w) : CallK Tryd.prog 29 #[it op, ut x, ut y] w K := by
  apply Ret.call
  apply F29_ok
  unfold F29
  unfold reck at hK
  have E : ∀ {n : Int} {A B : Prop}, (op = n → A) → (¬ op = n → B) → vBin (.int .i64) .eql (it op) (it n) fun v => vBool v fun c => if c = true then A else B :=
    fun ha hb => rEq <| rIf (fun h => ha (by simpa using h)) (fun h => hb (by simpa using h))
  refine E (fun h => ?_) (fun h => ?_)
  · rw [if_pos h] at hK; exact rAddU hK
  rw [if_neg h] at hK
  refine E (fun h => ?_) (fun h => ?_)
  · rw [if_pos h] at hK; exact rSubU hy hK
  rw [if_neg h] at hK
  refine E (fun h => ?_) (fun h => ?_)
  · rw [if_pos h] at hK; exact rMulU hK
  rw [if_neg h] at hK
  refine E (fun h => ?_) (fun h => ?_)
  · rw [if_pos h] at hK
    refine rEqU (y := 0) <| rIf (fun h => ?_) (fun h => ?_)
    · rw [if_pos (by simpa using h)] at hK; exact hK
    · have h : ¬ y = 0 := by simpa using h
      rw [if_neg h] at hK; exact rQuoU hx h hK
  rw [if_neg h] at hK
  refine E (fun h => ?_) (fun h => ?_)
  · rw [if_pos h] at hK
    refine rEqU (y := 0) <| rIf (fun h => ?_) (fun h => ?_)
    · rw [if_pos (by simpa using h)] at hK; exact hK
    · have h : ¬ y = 0 := by simpa using h
      rw [if_neg h] at hK; exact rRemU h hK
  rw [if_neg h] at hK
  refine E (fun h => ?_) (fun h => ?_)
  · rw [if_pos h] at hK; exact rAndU hx hy hK
  rw [if_neg h] at hK
  refine E (fun h => ?_) (fun h => ?_)
  · rw [if_pos h] at hK; exact rOrU hx hy hK
  rw [if_neg h] at hK
  refine E (fun h => ?_) (fun h => ?_)
  · rw [if_pos h] at hK; exact rXorU hx hy hK
  rw [if_neg h] at hK
  refine E (fun h => ?_) (fun h => ?_)
  · rw [if_pos h] at hK; exact rShlY hK
  rw [if_neg h] at hK
  refine E (fun h => ?_) (fun h => ?_)
  · rw [if_pos h] at hK; exact rShrY hK
  rw [if_neg h] at hK
  refine E (fun h => ?_) (fun h => ?_)
  · rw [if_pos h] at hK
    refine rLtU <| flag_spec ?_
    simpa using hK
  rw [if_neg h] at hK
  refine rEqU <| flag_spec ?_
  simpa using hK

end Go.Proofs.YtmaecpbkbkncgaaDoor
