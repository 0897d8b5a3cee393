/-
  Pages, part 2: the small functions; pieces. Own work.
-/
import Derived.Test.YtmaecpbkbkncgaaDoorP1
set_option linter.unusedVariables false
set_option linter.unusedSimpArgs false
set_option maxRecDepth 100000
namespace Go.Proofs.YtmaecpbkbkncgaaDoor
open Go Go.V


/-- a block of one number -/
def Bi (w : World) (k : Nat) (n : Int) : Prop := Cs w k [it n]

theorem rem_nat {a : Nat} {K : Value → Prop} (k : K (it (a % 64 : Nat))) : vBin (.int .i64) .rem (it a) (it 64) K := by
  refine ⟨rfl, by decide, ?_⟩
  have : Int.tmod (a : Int) 64 = ((a % 64 : Nat) : Int) := by rw [Int.tmod_eq_emod_of_nonneg (by omega)]; simp
  rw [this]; exact k

theorem quo_nat {a : Nat} (ha : a < 9223372036854775808) {K : Value → Prop} (k : K (it (a / 64 : Nat))) : vBin (.int .i64) .quo (it a) (it 64) K := by
  refine ⟨rfl, by decide, ?_⟩
  have : Int.tdiv (a : Int) 64 = ((a / 64 : Nat) : Int) := by rw [Int.tdiv_eq_ediv_of_nonneg (by omega)]; simp
  rw [this, wrap_id (by omega) (by omega)]; exact k


theorem b65 : (fun (a b : Int) (K : Value → Prop) => vBuild Tryd.prog 68 [(0, it a), (1, it b)] K) = fun a b K => ((1 : Nat) = 1 ∧ (1 : Nat) = 1 ∧ K (.agg #[it a, it b])) := by kernel_rfl
theorem build65 {a b : Int} {K : Value → Prop} (k : K (.agg #[it a, it b])) : vBuild Tryd.prog 68 [(0, it a), (1, it b)] K := by
  have := congrFun (congrFun (congrFun b65 a) b) K
  simp only at this
  rw [this]; exact ⟨trivial, trivial, k⟩

theorem Cs.cell {w : World} {b o : Nat} {cs : List Value} {v : Value} (h : Cs w b cs) (hv : cs[o]? = some v) : w.cell? ⟨b, o, none⟩ = some v := by
  obtain ⟨T, h⟩ := h
  simp [World.cell?, h, hv]

/-- the iterator: J holds at each place, with how much is left -/
theorem pieces_spec {l kn ka a0 n0 : Nat} {w : World} {K : Value → World → Prop} (J : Nat → Nat → World → Prop) (hne : kn ≠ ka) (hb : a0 + n0 < 4611686018427387904)
    (hn : Bi w kn n0) (ha : Bi w ka a0) (hJ : J a0 n0 w)
    (hR : ∀ a n w, a + n = a0 + n0 → 0 < n → Bi w kn n → Bi w ka a → J a n w →
      Round Tryd.prog l #[it (a / 64 : Nat), .agg #[it (a % 64 : Nat), it (min (a % 64 + n) 64 : Nat)]] w fun v w' => v = .bool true ∧ Bi w' kn n ∧ Bi w' ka a ∧
        ∀ w2 w3, Up w' ka [it (a + (min (a % 64 + n) 64 - a % 64) : Nat)] w2 → Up w2 kn [it (n - (min (a % 64 + n) 64 - a % 64) : Nat)] w3 →
          J (a + (min (a % 64 + n) 64 - a % 64)) (n - (min (a % 64 + n) 64 - a % 64)) w3)
    (hK : ∀ w, Bi w kn 0 → Bi w ka (a0 + n0 : Nat) → J (a0 + n0) 0 w → K (.tuple #[]) w) :
    Ret Tryd.prog 42 #[.func (.yield l) #[] #[], pt kn 0, pt ka 0] w K := by
  apply F42_ok
  refine ⟨fun vs ds w => vs = [.func (.yield l) #[] #[], pt kn 0, pt ka 0] ∧ ds = [] ∧ ∃ a n : Nat, a + n = a0 + n0 ∧ Bi w kn n ∧ Bi w ka a ∧ J a n w,
    fun vs ds w => match w.cell? ⟨kn, 0, none⟩ with | some (.int _ n) => n.toNat | _ => 0, ⟨rfl, rfl, a0, n0, rfl, hn, ha, hJ⟩, ?_⟩
  rintro ρ ds w ⟨hρ, rfl, a, n, hs, hn, ha, hJ⟩
  simp only [List.map_cons, List.map_nil, List.cons.injEq, and_true] at hρ
  obtain ⟨e0, e1, e2⟩ := hρ
  unfold F42L1
  simp only [List.map, e0, e1, e2]
  refine rLd hn rfl <| rGt <| rIf (fun h0 => ?_) (fun h0 => ?_)
  · have h0 : 0 < n := by simpa using h0
    refine rLd ha rfl <| rem_nat <| rLd hn rfl <| rAdd (by omega) (by omega) ?_
    refine rMin2 ?_
    have em : (if (64 : Int) < ((a % 64 : Nat) : Int) + (n : Int) then (64 : Int) else ((a % 64 : Nat) : Int) + (n : Int)) = ((min (a % 64 + n) 64 : Nat) : Int) := by
      split <;> omega
    rw [em]
    refine rLd ha rfl <| quo_nat (by omega) ?_
    refine build65 ?_
    have hr := hR a n w hs h0 hn ha hJ
    refine Round.mono hr ?_
    rintro v w' ⟨rfl, hn', ha', hJ'⟩
    refine rNot <| rIfF ?_
    refine rLd ha' rfl <| rSub (by omega) (by omega) <| rAdd (by omega) (by omega) ?_
    have ed : ((a : Int) + (((min (a % 64 + n) 64 : Nat) : Int) - ((a % 64 : Nat) : Int))) = ((a + (min (a % 64 + n) 64 - a % 64) : Nat) : Int) := by omega
    rw [ed]
    refine rSt ha' (by simp) rfl (by simp) ?_
    intro w2 u2
    have hn2 := hn'.up u2 hne
    refine rLd hn2 rfl <| rSub (by omega) (by omega) <| rSub (by omega) (by omega) ?_
    have ed2 : ((n : Int) - (((min (a % 64 + n) 64 : Nat) : Int) - ((a % 64 : Nat) : Int))) = ((n - (min (a % 64 + n) 64 - a % 64) : Nat) : Int) := by omega
    rw [ed2]
    refine rSt hn2 (by simp) rfl (by simp) ?_
    intro w3 u3
    refine ⟨⟨trivial, trivial, a + (min (a % 64 + n) 64 - a % 64), n - (min (a % 64 + n) 64 - a % 64), by omega, u3.cs, u2.cs.up u3 (Ne.symm hne), hJ' w2 w3 u2 u3⟩, ?_⟩
    rw [Cs.cell u3.cs (v := it (n - (min (a % 64 + n) 64 - a % 64) : Nat)) rfl, Cs.cell hn (v := it n) rfl]
    simp
    omega
  · have h0 : n = 0 := by simpa using h0
    subst h0
    refine hK _ hn ?_ ?_
    · rw [← hs]; exact ha
    · rw [← hs]; exact hJ

/-! ### fits, Len, Pages, zero, pieces -/

theorem ldE {w : World} {b o : Nat} {cs : List Value} {v : Value} (h : Cs w b cs) (hv : cs[o]? = some v) (K : Value → Prop) : vLd .one (.pointer (some ⟨b, o, none⟩)) w K = K v := by
  obtain ⟨T, h⟩ := h
  simp [vLd, ld1, World.cell?, h, hv]

def fitsE (n : Nat) (at' k : Int) : Int := if at' < 0 ∨ k < 0 ∨ (n : Int) < at' ∨ n - at' < k then 9 else 0

theorem fits_spec {w : World} {b n : Nat} {lv ov : Value} {at' k : Int} {K : Value → World → Prop} (h : Cs w b [it n, lv, ov]) (hn : n ≤ 4096) (ha : -9223372036854775808 ≤ at') (ha2 : at' < 9223372036854775808) (hK : K (it (fitsE n at' k)) w) :
    Ret Tryd.prog 24 #[pt b 0, it at', it k] w K := by
  apply F24_ok
  have hl := ldE (o := 0) h rfl
  unfold fitsE at hK
  by_cases h1 : at' < 0
  · simp [h1] at hK
    simp [F24, vPtr, vEqB, vBool, vBin, vInt, vNilP, vNil, vFA, addr_add, hl, h1, hK]
  by_cases h2 : k < 0
  · simp [h1, h2] at hK
    simp [F24, vPtr, vEqB, vBool, vBin, vInt, vNilP, vNil, vFA, addr_add, hl, h1, h2, hK]
  by_cases h3 : (n : Int) < at'
  · have h3' : ¬ at' ≤ n := by omega
    simp [h1, h2, h3] at hK
    simp [F24, vPtr, vEqB, vBool, vBin, vInt, vNilP, vNil, vFA, addr_add, hl, h1, h2, h3, h3', hK]
  have hw : IntKind.i64.wrap ((n : Int) - at') = n - at' := wrap_id (by omega) (by omega)
  by_cases h4 : (n : Int) - at' < k
  · have h4' : ¬ k ≤ n - at' := by omega
    simp [h1, h2, h3, h4] at hK
    simp [F24, vPtr, vEqB, vBool, vBin, vInt, vNilP, vNil, vFA, addr_add, hl, h1, h2, h3, h4, h4', hw, hK]
  · simp [h1, h2, h3, h4] at hK
    simp [F24, vPtr, vEqB, vBool, vBin, vInt, vNilP, vNil, vFA, addr_add, hl, h1, h2, h3, h4, hw, hK]

theorem len_spec {w : World} {b n : Nat} {lv ov : Value} {K : Value → World → Prop} (h : Cs w b [it n, lv, ov]) (hK : K (it n) w) : Ret Tryd.prog 33 #[pt b 0] w K := by
  apply F33_ok
  have hl := ldE (o := 0) h rfl
  simp [F33, vPtr, vEqB, vBool, vNilP, vNil, vFA, addr_add, hl, hK]

theorem pages_spec {w : World} {b n : Nat} {lv ov : Value} {K : Value → World → Prop} (h : Cs w b [it n, lv, ov]) (hn : n ≤ 4096) (hK : K (it ((n + 63) / 64 : Nat)) w) : Ret Tryd.prog 38 #[pt b 0] w K := by
  apply F38_ok
  unfold F38
  refine (len_spec h ?_).call
  refine rAdd (by omega) (by omega) <| rSub (by omega) (by omega) ?_
  have e : (n : Int) + 64 - 1 = ((n + 63 : Nat) : Int) := by omega
  rw [e]
  exact quo_nat (by omega) hK

end Go.Proofs.YtmaecpbkbkncgaaDoor
