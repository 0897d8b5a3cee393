/-
  Pages, part 20: the law PagesSizes: its loop; it returns true. Own work.
-/
import Derived.Test.YtdaopbkggmlopaaP19
set_option linter.unusedVariables false
set_option linter.unusedSimpArgs false
namespace Go.Proofs.Ytdaopbkggmlopaa
open Go Go.V Go.RowKit

theorem rBNe {a b : Bool} {K : Value → Prop} (k : K (.bool (!(a == b)))) : vBin .bool .neq (.bool a) (.bool b) K := k

/-- a slice of ints that stands in w -/
def Ints (w : World) (v : Value) (xs : List Int) : Prop :=
  (∃ a c, v = .slice a xs.length c) ∧ ∀ W, Fr (fun _ => False) w W → ∀ (i : Nat) x, xs[i]? = some x → ∀ K : Value → Prop, K (it x) → vIA (.slice 1) v (it i) fun p => vLd .one p W K

theorem law4_loop {w0 w : World} {s1 : List UInt8} {b n0 left0 : Nat} {v41 : Value} {xs : List Int} {K : Value → World → Prop} (hx : Ints w0 v41 xs) (hk : Keep w0 w b n0 left0 s1) (hK : ∀ w', Fr (fun _ => False) w0 w' → K (.bool true) w') :
    loopF [0, 5, 7, 8, 41, 42, 43] [str s1, pt b 0, it left0, it n0, v41, it xs.length, it 0] [] w (F4L1 K) := by
  refine ⟨fun vs ds W => ds = [] ∧ ∃ i left n : Nat, i ≤ 20 ∧ vs = [str s1, pt b 0, it left, it n, v41, it xs.length, it i] ∧ Keep w0 W b n left s1,
    fun vs _ _ => match vs with | [_, _, _, _, _, _, .int _ i] => xs.length - i.toNat | _ => 0, ⟨rfl, 0, left0, n0, by omega, rfl, hk⟩, ?_⟩
  rintro ρ ds W ⟨rfl, i, left, n, hi, hρ, hkW⟩
  have hρ0 := hρ
  simp only [List.map_cons, List.map_nil, List.cons.injEq, and_true] at hρ
  obtain ⟨e0, e5, e7, e8, e41, e42, e43⟩ := hρ
  have hkW0 := hkW
  obtain ⟨⟨g, c, rfl, h, hz, hs⟩, hl, hlen⟩ := hkW
  unfold F4L1
  rw [hρ0, e0, e5, e7, e8, e41, e42, e43]
  refine rLt <| rIf (fun hlt => ?_) (fun _ => hK W h.fr)
  have hlt : i < xs.length := by simpa using hlt
  refine hx.2 W h.fr i xs[i] (List.getElem?_eq_getElem hlt) _ ?_
  generalize xs[i] = x
  refine rGe <| rIf (fun _ => hK W h.fr) (fun h20 => ?_)
  have h20 : i < 20 := by
    have : (i : Int) < 20 := by simpa using h20
    omega
  have next : ∀ (W' : World) (n' left' : Nat), Keep w0 W' g.b n' left' s1 → ∀ ρ : Env, [0, 5, 7, 8, 41, 42, 43].map ρ = [str s1, pt g.b 0, it left', it n', v41, it xs.length, it i] →
      F4J5 K (fun vs ds W' => (ds = [] ∧ ∃ i left n : Nat, i ≤ 20 ∧ vs = [str s1, pt g.b 0, it left, it n, v41, it xs.length, it i] ∧ Keep w0 W' g.b n left s1) ∧
        (match vs with | [_, _, _, _, _, _, .int _ i] => xs.length - i.toNat | _ => 0) < (match [str s1, pt g.b 0, it left, it n, v41, it xs.length, it i] with | [_, _, _, _, _, _, .int _ i] => xs.length - i.toNat | _ => 0)) ρ [] W' := by
    intro W' n' left' hk' ρ hρ
    refine law4_behind hk' (by omega) ?_ ρ hρ
    intro W2 hk2
    have e : (i : Int) + 1 = ((i + 1 : Nat) : Int) := by omega
    rw [e]
    refine ⟨⟨rfl, i + 1, left', n', by omega, rfl, hk2⟩, ?_⟩
    show xs.length - ((i + 1 : Nat) : Int).toNat < xs.length - ((i : Nat) : Int).toNat
    simp
    omega
  refine h.resize ?_ ?_
  · intro hbad W' h'
    refine rEq <| rGe ?_
    have hk' : Keep w0 W' g.b n left s1 := ⟨⟨g, c, rfl, h', hz, hs⟩, hl, hlen⟩
    refine rIf (fun hx0 => ?_) (fun hx0 => ?_)
    · have hx0 : 0 ≤ x := by simpa using hx0
      refine rLe ?_
      have d : decide (x ≤ 4096) = false := by simp; omega
      have d0 : decide (0 ≤ x) = true := by simpa using hx0
      rw [d, d0]
      refine rBool <| rBNe <| rIfF <| rNe <| rIfT <| rNe <| rBool <| rBool <| rIfF ?_
      refine ⟨fun vs ds V => vs = [str s1, pt g.b 0, it left, it n, v41, it xs.length, it i] ∧ ds = [] ∧ V = W', ?_, ?_⟩
      · exact rEq <| rIfF ⟨rfl, rfl, rfl⟩
      · rintro ρ ds V ⟨hρ, rfl, rfl⟩
        exact next _ n left hk' ρ hρ
    · have d0 : decide (0 ≤ x) = false := hx0
      rw [d0]
      refine rBool <| rBNe <| rIfF <| rNe <| rIfT <| rNe <| rBool <| rBool <| rIfF ?_
      refine ⟨fun vs ds V => vs = [str s1, pt g.b 0, it left, it n, v41, it xs.length, it i] ∧ ds = [] ∧ V = W', ?_, ?_⟩
      · exact rEq <| rIfF ⟨rfl, rfl, rfl⟩
      · rintro ρ ds V ⟨hρ, rfl, rfl⟩
        exact next _ n left hk' ρ hρ
  · rintro m rfl hm W' g' hb' h'
    have d0 : decide ((0 : Int) ≤ (m : Int)) = true := by simp
    have d : decide ((m : Int) ≤ 4096) = true := by simp; omega
    refine rEq <| rGe ?_
    rw [d0]
    refine rIfT <| rLe ?_
    rw [d]
    refine rBool <| rBNe <| rIfF <| rNe <| rIfF <| rBool <| rBool <| rIfF ?_
    refine ⟨fun vs ds V => vs = [str s1, pt g.b 0, it (min left m : Nat), it m, v41, it xs.length, it i] ∧ ds = [] ∧ V = W', ?_, ?_⟩
    · refine rEq <| rIfT <| rMin2 ?_
      have em : (if (m : Int) < (left : Int) then (m : Int) else (left : Int)) = ((min left m : Nat) : Int) := by split <;> omega
      rw [em]
      exact ⟨rfl, rfl, rfl⟩
    · rintro ρ ds V ⟨hρ, rfl, rfl⟩
      refine next _ m (min left m) ⟨⟨g', _, hb', h', ?_, ?_⟩, by omega, by omega⟩ ρ hρ
      · intro k hk
        split
        · exact hz k (by omega)
        · rfl
      · rw [seg_congr (d := c) (fun k _ hk => by rw [if_pos (by omega)])]
        rw [← seg_take (n := left) (by omega), hs, List.take_take, Nat.min_eq_left (by omega)]

end Go.Proofs.Ytdaopbkggmlopaa
