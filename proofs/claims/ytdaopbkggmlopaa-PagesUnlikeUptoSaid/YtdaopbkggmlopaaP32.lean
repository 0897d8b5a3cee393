/-
  Pages, part 32: the law PagesWords: it returns true. Own work.
-/
import Derived.Test.YtdaopbkggmlopaaP31
set_option linter.unusedVariables false
set_option linter.unusedSimpArgs false
namespace Go.Proofs.Ytdaopbkggmlopaa
open Go Go.V Go.RowKit

theorem rModG {n : Int} {M : Nat} (h0 : 0 < M) (h1 : M < 4611686018427387904) {K : Value → Prop} (hK : ∀ N : Nat, N < M → K (it N)) :
    vConv (.int .u64) (it n) fun v17 => vBin (.int .u64) .rem v17 (.int .u64 M) fun v18 => vConv (.int .i64) v18 K := by
  show vBin (.int .u64) .rem (.int .u64 (IntKind.u64.wrap n)) (.int .u64 M) (fun v18 => vConv (.int .i64) v18 K)
  refine ⟨rfl, by omega, ?_⟩
  have h0' : 0 ≤ IntKind.u64.wrap n := by
    simp only [IntKind.wrap, IntKind.signed, IntKind.bits, Bool.false_and]
    have : (0 : Int) ≤ n % 2 ^ 64 := Int.emod_nonneg _ (by decide)
    simpa using this
  obtain ⟨u, hu⟩ := Int.eq_ofNat_of_zero_le h0'
  rw [hu]
  have hlt := Nat.mod_lt u h0
  have e1 : (u : Int).tmod (M : Int) = ((u % M : Nat) : Int) := by
    rw [Int.tmod_eq_emod_of_nonneg (Int.natCast_nonneg _)]; rfl
  show K (.int .i64 (IntKind.i64.wrap ((u : Int).tmod M)))
  rw [e1, wrap_id (by omega) (by omega)]
  exact hK _ hlt

theorem wv_bytes (x : Nat) : ∀ k, wv ((List.range k).map fun i => UInt8.ofNat (x / 256 ^ i)) = x % 256 ^ k
  | 0 => by simp [wv, Nat.mod_one]
  | k + 1 => by
    rw [List.range_succ, List.map_append, wv_app, wv_bytes x k]
    simp only [List.map_cons, List.map_nil, wv, List.length_map, List.length_range, u8_of, Nat.mul_zero, Nat.add_zero]
    rw [Nat.mod_pow_succ]

theorem wv_eight {x : Nat} (h : x < 18446744073709551616) : wv (eight x) = x := by
  unfold eight
  rw [wv_bytes, Nat.mod_eq_of_lt (by omega)]

theorem eight_inj {x y : Nat} (hx : x < 18446744073709551616) (hy : y < 18446744073709551616) (h : eight x = eight y) : x = y := by
  rw [← wv_eight hx, ← wv_eight hy, h]

theorem eight_get {x i : Nat} (h : i < 8) : (eight x)[i]? = some (UInt8.ofNat (x / 256 ^ i)) := by
  simp [eight, h]

theorem wrc_twice {c : Nat → UInt8} {a : Nat} {s t : List UInt8} (h : s.length = t.length) : wrc (wrc c a s) a t = wrc c a t := by
  funext i
  unfold wrc
  by_cases h1 : a ≤ i
  · rw [if_pos h1, if_pos h1, if_pos h1]
    by_cases h2 : i - a < t.length
    · rw [List.getElem?_eq_getElem h2]; rfl
    · rw [List.getElem?_eq_none (l := t) (by omega), List.getElem?_eq_none (l := s) (by omega)]; rfl
  · rw [if_neg h1, if_neg h1, if_neg h1]

theorem wrc_at {c : Nat → UInt8} {a i : Nat} {s : List UInt8} {b : UInt8} (h : s[i]? = some b) : wrc c a s (a + i) = b := by
  unfold wrc
  rw [if_pos (by omega), Nat.add_sub_cancel_left, h]; rfl

theorem unl_self {n : Nat} {c d : Nat → UInt8} (p : Nat) : unl n n c d p = !pgEq c d p := by unfold unl; simp

/-- two rows that are unlike in eight bytes at most -/
theorem unl_eight {N A x y : Nat} {c : Nat → UInt8} (hx : x < 18446744073709551616) (hy : y < 18446744073709551616) (hA : A + 8 ≤ N) :
    ((List.range ((N + 63) / 64)).filter (unl N N (wrc c A (eight x)) (wrc (wrc c A (eight x)) A (eight y)))).length = 0 ↔ x = y := by
  rw [wrc_twice (by rw [eight_len, eight_len])]
  rw [List.length_eq_zero_iff, List.filter_eq_nil_iff]
  constructor
  · intro h
    apply eight_inj hx hy
    apply List.ext_getElem?
    intro i
    by_cases hi : i < 8
    · have h1 := eight_get (x := x) hi
      have h2 := eight_get (x := y) hi
      have := h ((A + i) / 64) (by simp; omega)
      rw [unl_self] at this
      have hp : pgEq (wrc c A (eight x)) (wrc c A (eight y)) ((A + i) / 64) = true := by
        cases hq : pgEq (wrc c A (eight x)) (wrc c A (eight y)) ((A + i) / 64)
        · rw [hq] at this; exact absurd rfl this
        · rfl
      have := pgEq_iff.1 hp ((A + i) % 64) (Nat.mod_lt _ (by decide))
      rw [Nat.div_add_mod, wrc_at h1, wrc_at h2] at this
      rw [h1, h2, this]
    · rw [List.getElem?_eq_none (by rw [eight_len]; omega), List.getElem?_eq_none (by rw [eight_len]; omega)]
  · rintro rfl p _
    rw [unl_self]
    have : pgEq (wrc c A (eight x)) (wrc c A (eight x)) p = true := pgEq_iff.2 fun _ _ => rfl
    rw [this]
    simp

theorem rEq64 {a b : Int} {K : Value → Prop} (k : K (.bool (a == b))) : vBin (.int .u64) .eql (.int .u64 a) (.int .u64 b) K := ⟨rfl, k⟩
theorem rNe64 {a b : Int} {K : Value → Prop} (k : K (.bool (a != b))) : vBin (.int .u64) .neq (.int .u64 a) (.int .u64 b) K := ⟨rfl, k⟩
theorem rBEq {a b : Bool} {K : Value → Prop} (k : K (.bool (a == b))) : vBin .bool .eql (.bool a) (.bool b) K := k

/-- the eight bytes, one by one; the copy -/
theorem law7_tail {w0 w : World} {g : Gh} {N A x y : Nat} {c : Nat → UInt8} {K : Value → World → Prop} (hx : x < 18446744073709551616) (hy : y < 18446744073709551616) (h : Own w0 w g N (wrc c A (eight x))) (hA : A + 8 ≤ N) (hAl : A < 4096)
    (hK : ∀ w', Fr (fun _ => False) w0 w' → K (.bool true) w') : ∀ (ρ : Env), [1, 2, 3, 9, 14].map ρ = [it A, .int .u64 x, .int .u64 y, pt g.b 0, str (eight x)] → F7J3 K ρ [] w := by
  intro ρ hρ
  simp only [List.map_cons, List.map_nil, List.cons.injEq, and_true] at hρ
  obtain ⟨q1, q2, q3, q9, q14⟩ := hρ
  unfold F7J3
  rw [q1, q2, q3, q9, q14]
  refine ⟨fun vs ds W => ds = [] ∧ W = w ∧ ∃ i : Nat, i ≤ 8 ∧ vs = [it A, .int .u64 x, .int .u64 y, pt g.b 0, str (eight x), it i],
    fun vs _ _ => match vs with | [_, _, _, _, _, .int _ i] => 8 - i.toNat | _ => 0, ⟨rfl, rfl, 0, by omega, rfl⟩, ?_⟩
  rintro ρ ds W ⟨rfl, rfl, i, hi, hρ⟩
  have hρ0 := hρ
  simp only [List.map_cons, List.map_nil, List.cons.injEq, and_true] at hρ
  obtain ⟨q1, q2, q3, q9, q14, q15⟩ := hρ
  unfold F7L1
  rw [hρ0, q1, q2, q3, q9, q14, q15]
  refine rLt <| rIf (fun hlt => ?_) (fun hge => ?_)
  · have hlt : i < 8 := by
      have : (i : Int) < 8 := by simpa using hlt
      omega
    refine rIxS (eight_get hlt) <| rMul8 (by omega) <| rCv ?_
    rw [wrap_u64 (by omega) (by omega)]
    refine ⟨by omega, rCv ?_⟩
    have e : min ((8 * i : Nat) : Int).toNat IntKind.u64.bits = 8 * i := by
      have : IntKind.u64.bits = 64 := rfl
      rw [Int.toNat_natCast, this]; omega
    have ed : ((x : Nat) : Int).fdiv (2 ^ (8 * i)) = ((x / 256 ^ i : Nat) : Int) := by
      rw [pow_256, Int.fdiv_eq_ediv_of_nonneg _ (Int.le_of_lt (Int.pow_pos (by decide)))]
      push_cast; rfl
    rw [e, ed, wrap_u8]
    refine rNe8 ?_
    rw [ine_refl]
    refine rIfF <| rAdd (by omega) (by omega) ?_
    have ei : (i : Int) + 1 = ((i + 1 : Nat) : Int) := by omega
    rw [ei]
    refine ⟨⟨rfl, rfl, i + 1, by omega, rfl⟩, ?_⟩
    show 8 - ((i + 1 : Nat) : Int).toNat < 8 - ((i : Nat) : Int).toNat
    simp; omega
  · refine copy15 h ?_
    intro w6 g6 s6 o6 f6 ff6 fs6
    refine setword20 o6 hy (by omega) (by omega) ?_
    intro w7 g7 evo h7
    have hz : fitsE N A 8 = 0 := by unfold fitsE; rw [if_neg (by omega)]
    rw [hz] at h7 ⊢
    rw [if_pos rfl, Int.toNat_natCast] at h7
    refine rNe <| rIfF ?_
    have s7 : Own w0 w7 g.shut N (wrc c A (eight x)) := s6.keep evo.fr (fun k hk => o6.mine k (.inl hk)) (fun k hk hf => by
      have h1 := ff6 k hf
      have h2 : g.sees k := by
        rcases hk with hk | hk
        · exact .inl (shut_foot hk)
        · exact .inr hk
      have := h.sees_lt k h2
      omega)
    have hword := word21 (a := (A : Int)) (K := fun v111 w_8 => vExt v111 0 fun v112 => vExt v111 1 fun v113 => vBin (.int .u64) .eql v112 (.int .u64 x) fun v116 => vBool v116 fun g_1 => if g_1 = true then
        (CallK Try.prog 18 #[pt g.shut.b 0, pt g6.b 0] w_8 fun v120 w_9 => vLen (.slice 1) v120 fun v121 => vBin (.int .i64) .eql v121 (.int .i64 0) fun v122 => vBin (.int .u64) .eql (.int .u64 x) (.int .u64 y) fun v125 => vBin .bool .eql v122 v125 fun v126 =>
          vBool v116 fun b => leaveV [] w_9 fun W => K (bif b then v126 else (.bool false)) W)
        else (vBool v116 fun b_2 => leaveV [] w_8 fun W => K (bif b_2 then undef else (.bool false)) W)) s7 (by omega) (by omega)
    refine hword ?_
    intro w8 s8 f8
    rw [hz, if_pos rfl]
    have e8 : seg (wrc c A (eight x)) (A : Int).toNat 8 = eight x := by
      have := seg_wrc (c := c) (a := A) (s := eight x)
      rw [eight_len] at this
      rw [Int.toNat_natCast]; exact this
    rw [e8, wv_eight hx]
    refine rExt0 <| rExt1 <| rEq64 ?_
    rw [ieq_refl]
    refine rIfT ?_
    rw [← evo.b]
    refine unlike18 s8 (h7.more f8) ?_
    intro w9 v9 bl9 r9 hb9 f9
    obtain ⟨_, _, a, cp, rfl⟩ := r9.val
    refine rLenS <| rEq <| rEq64 <| rBEq ?_
    have key := unl_eight (N := N) (A := A) (c := c) hx hy hA
    have hcond : ((((List.range (max ((N + 63) / 64) ((N + 63) / 64))).filter (unl N N (wrc c A (eight x)) (wrc (wrc c A (eight x)) A (eight y)))).map fun (i : Nat) => it i).length = 0) ↔ x = y := by
      rw [List.length_map, Nat.max_self]; exact key
    generalize ((((List.range (max ((N + 63) / 64) ((N + 63) / 64))).filter (unl N N (wrc c A (eight x)) (wrc (wrc c A (eight x)) A (eight y)))).map fun (i : Nat) => it i).length) = L at hcond ⊢
    have hfin : ((((L : Nat) : Int) == 0) == (((x : Nat) : Int) == (y : Int))) = true := by
      by_cases hL : L = 0
      · have := hcond.1 hL
        subst this; subst hL
        simp
      · have : x ≠ y := fun e => hL (hcond.2 e)
        have h1 : (((L : Nat) : Int) == 0) = false := by simp; omega
        have h2 : (((x : Nat) : Int) == (y : Int)) = false := by simp; omega
        rw [h1, h2]; rfl
    rw [hfin]
    exact hK w9 (s8.more f9).fr

theorem law7 {w : World} {n a : Int} {x y : Nat} {K : Value → World → Prop} (hx : x < 18446744073709551616) (hy : y < 18446744073709551616) (ha1 : -9223372036854775808 ≤ a) (ha2 : a < 9223372036854775808)
    (hK : ∀ w', Fr (fun _ => False) w w' → K (.bool true) w') : Ret Try.prog 7 #[it n, it a, .int .u64 x, .int .u64 y] w K := by
  apply F7_ok
  unfold F7
  refine lives_spec ?_
  intro w1 f1
  refine rNot <| rIfF <| rModG (M := 200) (by decide) (by decide) ?_
  intro N hN
  refine Own.new (w0 := w) f1 (fun h => by omega) ?_
  intro m hm _ w2 g h
  have hm : m = N := by omega
  subst hm
  refine rExt0 <| rExt1 <| rNe <| rIfF ?_
  refine setword20 h hx ha1 ha2 ?_
  intro w3 g3 evo h3
  rw [← evo.b]
  refine word21 h3 ha1 ha2 ?_
  intro w4 h4 f4
  refine rExt0 <| rExt1 ?_
  rcases fitsE_cases m a 8 with hz | hz
  · obtain ⟨A, k, rfl, hk, hA⟩ := fitsE_nat hz
    have hk : k = 8 := by omega
    subst hk
    rw [hz] at h3 h4 ⊢
    rw [if_pos rfl, Int.toNat_natCast] at h3 h4
    rw [if_pos rfl, Int.toNat_natCast, if_pos rfl]
    have e8 : seg (wrc (fun _ => 0) A (eight x)) A 8 = eight x := by
      have := seg_wrc (c := fun _ => 0) (a := A) (s := eight x)
      rw [eight_len] at this
      exact this
    rw [e8, wv_eight hx]
    refine ⟨fun vs ds W => vs = [it A, .int .u64 x, .int .u64 y, pt g3.b 0, it 0, .int .u64 x, it 0] ∧ ds = [] ∧ W = w4, ?_, ?_⟩
    · refine ⟨fun vs ds W => vs = [it A, .int .u64 x, .int .u64 y, pt g3.b 0, it 0, .int .u64 x, it 0, .bool false] ∧ ds = [] ∧ W = w4, ?_, ?_⟩
      · refine rLt ?_
        have d1 : decide ((A : Int) < 0) = false := by simp
        rw [d1]
        refine rIfF <| rGt ?_
        have d2 : decide ((m : Int) < (A : Int)) = false := by simp; omega
        rw [d2]
        refine rBool <| rIfF <| rSub (by omega) (by omega) <| rLt ?_
        have d3 : decide ((m : Int) - (A : Int) < 8) = false := by simp; omega
        rw [d3]
        exact rBool ⟨rfl, rfl, rfl⟩
      · rintro ρ ds W ⟨hρ, rfl, rfl⟩
        simp only [List.map_cons, List.map_nil, List.cons.injEq, and_true] at hρ
        obtain ⟨q1, q2, q3, q9, q11, q12, q13, q52⟩ := hρ
        unfold F7J6
        rw [q1, q2, q3, q9, q11, q12, q13, q52]
        exact rIfF ⟨rfl, rfl, rfl⟩
    · rintro ρ ds W ⟨hρ, rfl, rfl⟩
      simp only [List.map_cons, List.map_nil, List.cons.injEq, and_true] at hρ
      obtain ⟨q1, q2, q3, q9, q11, q12, q13⟩ := hρ
      unfold F7J1
      rw [q1, q2, q3, q9, q11, q12, q13]
      refine ⟨fun vs ds V => vs = [it A, .int .u64 x, .int .u64 y, pt g3.b 0] ∧ ds = [] ∧ V = W, ?_, ?_⟩
      · refine rNe <| rIfF <| rNe <| rBool <| rIfF <| rNe64 ?_
        rw [ine_refl (x : Int)]
        exact rBool <| rIfF ⟨rfl, rfl, rfl⟩
      · rintro ρ ds V ⟨hρ, rfl, rfl⟩
        simp only [List.map_cons, List.map_nil, List.cons.injEq, and_true] at hρ
        obtain ⟨q1, q2, q3, q9⟩ := hρ
        unfold F7J2
        rw [q1, q2, q3, q9]
        refine h4.read (k' := 8) (by omega) (by omega) ?_
        intro w5 h5 f5
        rw [hz, if_pos rfl, Int.toNat_natCast]
        have e8' : ((8 : Int).toNat) = 8 := rfl
        rw [e8', e8]
        refine rExt0 <| rExt1 ?_
        refine ⟨fun vs ds V => vs = [it A, .int .u64 x, .int .u64 y, pt g3.b 0, str (eight x)] ∧ ds = [] ∧ V = w5, ?_, ?_⟩
        · refine rNe <| rIfF <| rLenB ?_
          rw [eight_len]
          exact rNe <| rBool <| rIfF ⟨rfl, rfl, rfl⟩
        · rintro ρ ds V ⟨hρ, rfl, rfl⟩
          exact law7_tail hx hy h5 hA (by omega) hK ρ hρ
  · rw [hz] at h3 h4 ⊢
    rw [if_neg (by decide)]
    have hbad : a < 0 ∨ (m : Int) < a ∨ (m : Int) - a < 8 := by
      unfold fitsE at hz
      split at hz
      · omega
      · cases hz
    have w0' : wv [] = 0 := rfl
    rw [w0']
    refine ⟨fun _ _ _ => False, ?_, fun _ _ _ h => h.elim⟩
    refine ⟨fun vs ds W => vs = [it a, .int .u64 x, .int .u64 y, pt g3.b 0, it 9, .int .u64 0, it 9, .bool true] ∧ ds = [] ∧ W = w4, ?_, ?_⟩
    · refine rLt ?_
      by_cases h1 : a < 0
      · have d1 : decide (a < 0) = true := by simpa using h1
        rw [d1]
        exact rIfT <| rBool <| rIfT <| rBool ⟨rfl, rfl, rfl⟩
      · have d1 : decide (a < 0) = false := by simpa using h1
        rw [d1]
        refine rIfF <| rGt ?_
        by_cases h2 : (m : Int) < a
        · have d2 : decide ((m : Int) < a) = true := by simpa using h2
          rw [d2]
          exact rBool <| rIfT <| rBool ⟨rfl, rfl, rfl⟩
        · have d2 : decide ((m : Int) < a) = false := by simpa using h2
          rw [d2]
          refine rBool <| rIfF <| rSub (by omega) (by omega) <| rLt ?_
          have d3 : decide ((m : Int) - a < 8) = true := by simp; omega
          rw [d3]
          exact rBool ⟨rfl, rfl, rfl⟩
    · rintro ρ ds W ⟨hρ, rfl, rfl⟩
      simp only [List.map_cons, List.map_nil, List.cons.injEq, and_true] at hρ
      obtain ⟨q1, q2, q3, q9, q11, q12, q13, q52⟩ := hρ
      unfold F7J6
      rw [q1, q2, q3, q9, q11, q12, q13, q52]
      refine rIfT <| rEq <| rIfT <| rEq <| rBool <| rIfT <| rEq64 <| rBool ?_
      exact hK W h4.fr

end Go.Proofs.Ytdaopbkggmlopaa
