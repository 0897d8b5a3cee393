/-
  Pages, part 17: the law PagesWrites: it returns true. Own work.
-/
import Derived.Test.YtdaopbkggmlopaaP16
set_option linter.unusedVariables false
set_option linter.unusedSimpArgs false
namespace Go.Proofs.Ytdaopbkggmlopaa
open Go Go.V Go.RowKit

def J2law (w : World) (N : Nat) (a : Int) (c : Nat → UInt8) (s : List UInt8) (vs : List Value) (ds : List Nat) (W : World) : Prop :=
  vs = [it N, it a, str s, str (seg c 0 N), it (fitsE N a s.length), str (seg (if fitsE N a s.length = 0 then wrc c a.toNat s else c) 0 N)] ∧ ds = [] ∧ Fr (fun _ => False) w W

theorem law3_mid {w : World} {N : Nat} {a : Int} {c : Nat → UInt8} {s : List UInt8} {K : Value → World → Prop} (ha1 : -9223372036854775808 ≤ a) (ha2 : a < 9223372036854775808) (hN : N ≤ 4096) (hK : ∀ w', Fr (fun _ => False) w w' → K (.bool true) w') :
    ∀ (ρ : Env) (ds : List Nat) (W : World), J2law w N a c s ([0, 1, 3, 11, 12, 13].map ρ) ds W → F3J2 K ρ ds W := by
  rintro ρ ds W ⟨hρ, rfl, fr⟩
  simp only [List.map_cons, List.map_nil, List.cons.injEq, and_true] at hρ
  obtain ⟨e0, e1, e3, e11, e12, e13⟩ := hρ
  unfold F3J2
  rw [e0, e1, e3, e11, e12, e13]
  by_cases hf : fitsE N a s.length = 0
  · rw [if_pos hf]
    refine ⟨J3at w N a s (seg c 0 N) (seg (wrc c a.toNat s) 0 N), ?_, law3_end ha2 hN hK⟩
    obtain ⟨h0, h1⟩ := fitsE_zero hf
    have d1 : decide (a < 0) = false := by simp; omega
    have d2 : decide ((N : Int) < a) = false := by simp; omega
    refine rLt ?_
    rw [d1]
    refine rIfF <| rGt ?_
    rw [d2]
    refine rBool <| rIfF <| rLenB <| rSub (by omega) (by omega) <| rGt ?_
    have d3 : decide ((N : Int) - a < (s.length : Int)) = false := by simp; omega
    rw [d3]
    refine rBool <| rIfF ?_
    exact ⟨rfl, rfl, fr, hf⟩
  · have h9 : fitsE N a s.length = 9 := by unfold fitsE at hf ⊢; split at hf <;> simp_all
    rw [if_neg hf, h9]
    refine ⟨fun _ _ _ => False, ?_, fun _ _ _ h => h.elim⟩
    have fin : vBin (.int .i64) .eql (it 9) (it 9) fun v95 => vBool v95 fun g_3 => if g_3 = true then (vBin .string .eql (str (seg c 0 N)) (str (seg c 0 N)) fun v99 => vBool v95 fun b_3 => leaveV [] W fun W => K (bif b_3 then v99 else (.bool false)) W)
        else (vBool v95 fun b_4 => leaveV [] W fun W => K (bif b_4 then undef else (.bool false)) W) := by
      refine rEq <| rIfT <| rSEq ?_
      rw [beq_self_list]
      exact hK W fr
    by_cases h1 : a < 0
    · have d1 : decide (a < 0) = true := by simpa using h1
      refine rLt ?_
      rw [d1]
      exact rIfT <| rBool <| rIfT <| rBool <| rIfT fin
    · have d1 : decide (a < 0) = false := by simpa using h1
      refine rLt ?_
      rw [d1]
      refine rIfF <| rGt ?_
      by_cases h2 : (N : Int) < a
      · have d2 : decide ((N : Int) < a) = true := by simpa using h2
        rw [d2]
        exact rBool <| rIfT <| rBool <| rIfT fin
      · have d2 : decide ((N : Int) < a) = false := by simpa using h2
        rw [d2]
        refine rBool <| rIfF <| rLenB <| rSub (by omega) (by omega) <| rGt ?_
        have d3 : decide ((N : Int) - a < (s.length : Int)) = true := by
          have : ¬ (fitsE N a s.length = 0) := hf
          unfold fitsE at this
          simp only [decide_eq_true_eq]
          split at this
          · rename_i h; omega
          · exact absurd rfl this
        rw [d3]
        exact rBool <| rIfT fin

def J1law (w : World) (N : Nat) (a : Int) (c : Nat → UInt8) (s : List UInt8) (b : Nat) (vs : List Value) (ds : List Nat) (W : World) : Prop :=
  vs = [it N, it a, str s, pt b 0, str (seg c 0 N)] ∧ ds = [] ∧ ∃ g, g.b = b ∧ Own w W g N c

theorem law3_fore {w : World} {N b : Nat} {a : Int} {c : Nat → UInt8} {s : List UInt8} {K : Value → World → Prop} (ha1 : -9223372036854775808 ≤ a) (ha2 : a < 9223372036854775808) (hN : N ≤ 4096) (hK : ∀ w', Fr (fun _ => False) w w' → K (.bool true) w') :
    ∀ (ρ : Env) (ds : List Nat) (W : World), J1law w N a c s b ([0, 1, 3, 9, 11].map ρ) ds W → F3J1 K ρ ds W := by
  rintro ρ ds W ⟨hρ, rfl, g, hb, h⟩
  simp only [List.map_cons, List.map_nil, List.cons.injEq, and_true] at hρ
  obtain ⟨e0, e1, e3, e9, e11⟩ := hρ
  unfold F3J1
  rw [e0, e1, e3, e9, e11, ← hb]
  refine bs41_1 ?_
  intro w2 c2 f2 s2
  refine (h.more f2).write ha1 ha2 (parts_one c2) ?_
  intro w3 g3 hb3 h3
  rw [← hb3]
  refine h3.read (a' := 0) (k' := N) (by omega) (by omega) ?_
  intro w4 h4 f4
  have e := fits_true (Nat.le_refl N)
  rw [if_pos e, e]
  refine rExt0 <| rExt1 ?_
  refine ⟨J2law w N a c s, ?_, law3_mid ha1 ha2 hN hK⟩
  have ez : ((0 : Int).toNat) = 0 := rfl
  have en : ((N : Int).toNat) = N := by simp
  rw [ez, en]
  refine rNe <| rIfF <| rLenB ?_
  rw [seg_len]
  refine rNe ?_
  have d : (((N : Nat) : Int) != (N : Int)) = false := by simp
  rw [d]
  refine rBool <| rIfF ?_
  exact ⟨rfl, rfl, h4.fr⟩

theorem law3 {w : World} {n a : Int} {b4 s : List UInt8} {K : Value → World → Prop} (ha1 : -9223372036854775808 ≤ a) (ha2 : a < 9223372036854775808) (hK : ∀ w', Fr (fun _ => False) w w' → K (.bool true) w') :
    Ret Try.prog 3 #[it n, it a, str b4, str s] w K := by
  apply F3_ok
  unfold F3
  refine lives_spec ?_
  intro w1 f1
  refine rNot <| rIfF <| rMod ?_
  intro N hN
  refine Own.new (w0 := w) f1 (fun h => by omega) ?_
  intro m hm _ w2 g h
  have hm : m = N := by omega
  subst hm
  refine rExt0 <| rExt1 <| rNe <| rIfF <| rLenB <| rMin2 ?_
  have em : (if (m : Int) < (b4.length : Int) then (m : Int) else (b4.length : Int)) = ((min m b4.length : Nat) : Int) := by split <;> omega
  rw [em]
  refine rSlStrHi (by omega) <| bs41_1 ?_
  intro w3 c3 f3 s3
  have hlen : (b4.take (min m b4.length)).length = min m b4.length := by simp
  generalize hb1 : b4.take (min m b4.length) = b1 at c3 hlen
  have hle : b1.length ≤ m := by omega
  refine (h.more f3).write (a' := 0) (by omega) (by omega) (parts_one c3) ?_
  intro w4 g4 hg4 h4
  have e := fits_true hle
  rw [if_pos e] at h4
  rw [e]
  refine rNe <| rIfF ?_
  rw [← hg4]
  refine h4.read (a' := 0) (k' := m) (by omega) (by omega) ?_
  intro w5 h5 f5
  have e := fits_true (Nat.le_refl m)
  rw [if_pos e, e]
  have ez : ((0 : Int).toNat) = 0 := rfl
  have en : ((m : Int).toNat) = m := by simp
  rw [ez, en]
  rw [ez] at h5
  refine rExt0 <| rExt1 ?_
  refine ⟨J1law w m a (wrc (fun _ => 0) 0 b1) s g4.b, ?_, law3_fore ha1 ha2 hN hK⟩
  refine rNe <| rIfF <| rLenB ?_
  rw [seg_len]
  refine rNe ?_
  have d : (((m : Nat) : Int) != (m : Int)) = false := by simp
  rw [d]
  refine rBool <| rIfF <| rLenB <| rSlStrHi (by rw [seg_len]; exact hle) <| rSNe ?_
  have et : (seg (wrc (fun _ => 0) 0 b1) 0 m).take b1.length = b1 := by rw [seg_take hle, seg_wrc]
  rw [et, beq_self_list]
  refine rBool <| rIfF ?_
  exact ⟨rfl, rfl, g4, rfl, h5⟩

end Go.Proofs.Ytdaopbkggmlopaa
