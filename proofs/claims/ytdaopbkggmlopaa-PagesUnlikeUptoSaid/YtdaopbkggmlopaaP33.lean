/-
  Pages, part 33: the document's Unlike. Own work.
-/
import Derived.Test.YtdaopbkggmlopaaP32
import Derived.Test.YtdaopbkggmlopaaP20
set_option linter.unusedVariables false
set_option linter.unusedSimpArgs false
namespace Go.Proofs.Ytdaopbkggmlopaa
open Go Go.V Go.RowKit

/-- are two rows unlike at a place? -/
def unA (a b : List UInt8) (i : Nat) : Bool := (decide (i < a.length) != decide (i < b.length)) || (decide (i < a.length) && (cont a i != cont b i))

def unR (a b : List UInt8) (p : Nat) : Bool := (List.range 64).any fun j => unA a b (64 * p + j)

theorem unR_step (a b : List UInt8) (p j : Nat) : ((List.range (j + 1)).any fun j => unA a b (64 * p + j)) = (((List.range j).any fun j => unA a b (64 * p + j)) || unA a b (64 * p + j)) := by
  rw [List.range_succ, List.any_append]
  simp

theorem Bs.ldH {w0 : World} {v : Value} {l : List UInt8} {bl : Option Nat} (h : Bs w0 v l bl) {i : Nat} {x : UInt8} (hx : l[i]? = some x) {kd : IntKind} {K : Value → Prop} (k : K (.int .u8 x.toNat)) :
    vIA (.slice 1) v (.int kd i) fun p => vLdS (fun W => W.heap = w0.heap) .one p K :=
  Row.ldH h (x := .int .u8 x.toNat) (by simp [bts, hx]) k

theorem u8ne {x y : UInt8} : (((x.toNat : Nat) : Int) != ((y.toNat : Nat) : Int)) = (x != y) := by
  by_cases h : x = y
  · subst h; simp
  · have h1 : (x != y) = true := by simpa using h
    have h2 : x.toNat ≠ y.toNat := fun e => h (UInt8.toNat.inj e)
    rw [h1]
    simp only [bne_iff_ne, ne_eq, Int.ofNat_inj]; exact h2

theorem cont_get {l : List UInt8} {i : Nat} (h : i < l.length) : l[i]? = some (cont l i) := by
  unfold cont; rw [List.getElem?_eq_getElem h]; rfl

theorem inner19 {W : World} {v1 v2 v5 : Value} {a b : List UInt8} {b1 b2 : Option Nat} {p : Nat} {ag1 : List Value → List Nat → World → Prop} (h1 : Bs W v1 a b1) (h2 : Bs W v2 b b2) (hp : p < 64) (ha : a.length ≤ 4096) (hb : b.length ≤ 4096)
    (G : Value → World → Prop) (told : unR a b p = true → ∀ W', W'.heap = W.heap → W'.os = W.os → W'.tape = W.tape → W'.output = W.output → ∀ K' : Value → World → Prop, (∀ v' w', G v' w' → K' v' w') →
      vBuildSlice Try.prog 32 1 [(0, it p)] W' fun v52 w_2 => vAppend Try.prog 32 32 v5 v52 w_2 K')
    (hT : ∀ v' w', G v' w' → ag1 [v1, v2, v', it ((p + 1 : Nat) : Int)] [] w')
    (hF : unR a b p = false → ∀ W', W'.heap = W.heap → W'.os = W.os → W'.tape = W.tape → W'.output = W.output → ag1 [v1, v2, v5, it ((p + 1 : Nat) : Int)] [] W') :
    loopF [0, 1, 5, 6, 7, 8] [v1, v2, v5, it p, .bool false, it ((64 * p : Nat) : Int)] [] W (F19L2 ag1) := by
  refine ⟨fun vs ds V => ds = [] ∧ ∃ j : Nat, j ≤ 64 ∧ vs = [v1, v2, v5, it p, .bool ((List.range j).any fun j => unA a b (64 * p + j)), it ((64 * p + j : Nat) : Int)] ∧ V.heap = W.heap ∧ V.os = W.os ∧ V.tape = W.tape ∧ V.output = W.output,
    fun vs _ _ => match vs with | [_, _, _, _, _, .int _ i] => 5000 - i.toNat | _ => 0, ⟨rfl, 0, by omega, rfl, rfl, rfl, rfl, rfl⟩, ?_⟩
  rintro ρ ds V ⟨rfl, j, hj, hρ, e1, e2, e3, e4⟩
  have hρ0 := hρ
  simp only [List.map_cons, List.map_nil, List.cons.injEq, and_true] at hρ
  obtain ⟨q0, q1, q5, q6, q7, q8⟩ := hρ
  unfold F19L2
  rw [hρ0, q0, q1, q5, q6, q7, q8]
  refine rMul (a := 64) (by omega) <| rAdd (by omega) (by omega) <| rLt <| rIf (fun hlt => ?_) (fun hge => ?_)
  · have hlt : j < 64 := by
      have : ((64 * p + j : Nat) : Int) < ((64 * p : Nat) : Int) + 64 := by simpa using hlt
      omega
    have k1 : Bs V v1 a b1 := by
      cases b1 with
      | none => exact h1
      | some q => obtain ⟨r, x1, T, x2⟩ := h1; exact ⟨r, x1, T, by rw [e1]; exact x2⟩
    have k2 : Bs V v2 b b2 := by
      cases b2 with
      | none => exact h2
      | some q => obtain ⟨r, x1, T, x2⟩ := h2; exact ⟨r, x1, T, by rw [e1]; exact x2⟩
    have dec : (5000 - ((64 * p + j + 1 : Nat) : Int).toNat) < 5000 - ((64 * p + j : Nat) : Int).toNat := by simp; omega
    have ej : ((64 * p + j : Nat) : Int) + 1 = ((64 * p + j + 1 : Nat) : Int) := by omega
    have next : ∀ x : Bool, x = (((List.range j).any fun j => unA a b (64 * p + j)) || unA a b (64 * p + j)) → (([] : List Nat) = [] ∧ ∃ j_1 : Nat, j_1 ≤ 64 ∧ [v1, v2, v5, it p, .bool x, it ((64 * p + j + 1 : Nat) : Int)] = [v1, v2, v5, it p, .bool ((List.range j_1).any fun j => unA a b (64 * p + j)), it ((64 * p + j_1 : Nat) : Int)] ∧ V.drew.heap = W.heap ∧ V.drew.os = W.os ∧ V.drew.tape = W.tape ∧ V.drew.output = W.output) :=
      fun x hx => ⟨rfl, j + 1, by omega, by rw [unR_step, hx]; rfl, e1, e2, e3, e4⟩
    refine ⟨fun W' => W'.heap = V.heap, rfl, ?_⟩
    refine k1.lenE <| rLt <| k2.lenE <| rLt <| rBNe ?_
    have da : decide (((64 * p + j : Nat) : Int) < ((a.length : Nat) : Int)) = decide (64 * p + j < a.length) := by simp only [Int.ofNat_lt]
    have db : decide (((64 * p + j : Nat) : Int) < ((b.length : Nat) : Int)) = decide (64 * p + j < b.length) := by simp only [Int.ofNat_lt]
    rw [da, db]
    by_cases hla : 64 * p + j < a.length
    · by_cases hlb : 64 * p + j < b.length
      · have d1 := decide_eq_true hla
        have d2 := decide_eq_true hlb
        rw [d1, d2]
        refine rIfF <| k1.lenE <| rLt ?_
        rw [da, d1]
        refine rIfT <| k1.ldH (cont_get hla) <| k2.ldH (cont_get hlb) <| rNe8 ?_
        rw [u8ne]
        have hu : unA a b (64 * p + j) = (cont a (64 * p + j) != cont b (64 * p + j)) := by unfold unA; rw [d1, d2]; simp
        refine rBool <| rBool ?_
        show vBool (.bool (cont a (64 * p + j) != cont b (64 * p + j))) _
        cases hc : (cont a (64 * p + j) != cont b (64 * p + j))
        · refine rIfF <| rAdd (by omega) (by omega) ?_
          rw [ej]
          exact ⟨next _ (by rw [hu, hc]; simp), dec⟩
        · refine rIfT <| rAdd (by omega) (by omega) ?_
          rw [ej]
          exact ⟨next _ (by rw [hu, hc]; simp), dec⟩
      · have d1 := decide_eq_true hla
        have d2 := decide_eq_false hlb
        rw [d1, d2]
        refine rIfT <| rBool <| rIfT <| rAdd (by omega) (by omega) ?_
        rw [ej]
        exact ⟨next _ (by unfold unA; rw [d1, d2]; simp), dec⟩
    · by_cases hlb : 64 * p + j < b.length
      · have d1 := decide_eq_false hla
        have d2 := decide_eq_true hlb
        rw [d1, d2]
        refine rIfT <| rBool <| rIfT <| rAdd (by omega) (by omega) ?_
        rw [ej]
        exact ⟨next _ (by unfold unA; rw [d1, d2]; simp), dec⟩
      · have d1 := decide_eq_false hla
        have d2 := decide_eq_false hlb
        rw [d1, d2]
        refine rIfF <| k1.lenE <| rLt ?_
        rw [da, d1]
        refine rIfF <| rBool <| rBool <| rIfF <| rAdd (by omega) (by omega) ?_
        rw [ej]
        exact ⟨next _ (by unfold unA; rw [d1, d2]; simp), dec⟩
  · have hj : j = 64 := by
      have : ¬ ((64 * p + j : Nat) : Int) < ((64 * p : Nat) : Int) + 64 := by simpa using hge
      omega
    subst hj
    have ep : (p : Int) + 1 = ((p + 1 : Nat) : Int) := by omega
    show vBool (.bool (unR a b p)) _
    cases hc : unR a b p
    · refine rIfF <| rAdd (by omega) (by omega) ?_
      rw [ep]
      exact hF hc V e1 e2 e3 e4
    · refine rIfT ?_
      refine told hc V e1 e2 e3 e4 _ fun u w h => ?_
      refine rAdd (by omega) (by omega) ?_
      rw [ep]
      exact hT u w h

end Go.Proofs.Ytdaopbkggmlopaa
