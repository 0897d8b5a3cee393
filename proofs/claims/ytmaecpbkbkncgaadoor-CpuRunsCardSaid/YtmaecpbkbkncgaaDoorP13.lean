/-
  Pages, part 13: Resize, whole; New. Own work.
-/
import Derived.Test.YtmaecpbkbkncgaaDoorP12
set_option linter.unusedVariables false
set_option linter.unusedSimpArgs false
set_option maxRecDepth 100000
namespace Go.Proofs.YtmaecpbkbkncgaaDoor
open Go Go.V Go.RowKit

theorem resize_spec {w : World} {g : Gh} {n : Nat} {c : Nat → UInt8} {n' : Int} {K : Value → World → Prop} (h : By w g n c) (hn : n ≤ 4096) (hps : g.ps.length = (n + 63) / 64) (hz : ∀ i, n ≤ i → c i = 0)
    (hbad : n' < 0 ∨ 4096 < n' → ∀ w', Fr (fun _ => False) w w' → K (it 1) w')
    (hok : ∀ m : Nat, n' = m → m ≤ 4096 → ∀ w' g', Evo w g w' g' → By w' g' m (fun i => if i < m then c i else 0) → g'.ps.length = (m + 63) / 64 → K (it 0) w') :
    Ret Tryd.prog 22 #[pt g.b 0, it n'] w K := by
  have hbw := h.lt
  obtain ⟨lv, ov, hd, hl, ho⟩ := h.hd
  apply F22_ok
  unfold F22
  refine rBox rfl ?_
  intro w1 c1 f1 s1
  refine rLd c1 rfl <| rPNil' <| rIfF ?_
  refine ⟨fun vs ds W => vs = [it n', pt w.heap.size 0, undef, undef, .bool (decide (n' < 0 ∨ 4096 < n'))] ∧ ds = [] ∧ W = w1, ?_, ?_⟩
  · refine rLt <| rIf (fun h1 => ?_) (fun h1 => ?_)
    · have h1 : n' < 0 := by simpa using h1
      exact ⟨by rw [decide_eq_true (.inl h1)], rfl, rfl⟩
    · have h1 : ¬ n' < 0 := by simpa using h1
      refine rGt ⟨?_, rfl, rfl⟩
      have : decide (n' < 0 ∨ 4096 < n') = decide (4096 < n') := by simp [h1]
      rw [this]
  · rintro ρ ds W ⟨hρ, rfl, rfl⟩
    simp only [List.map_cons, List.map_nil, List.cons.injEq, and_true] at hρ
    obtain ⟨e1, e2, _, _, e10⟩ := hρ
    unfold F22J1
    rw [e10]
    by_cases hb : n' < 0 ∨ 4096 < n'
    · rw [decide_eq_true hb]
      exact rIfT (hbad hb W f1)
    rw [decide_eq_false hb]
    refine rIfF ?_
    obtain ⟨m, rfl⟩ := Int.eq_ofNat_of_zero_le (show 0 ≤ n' by omega)
    have hm : m ≤ 4096 := by omega
    refine ⟨J2at w g n m w.heap.size c, ?_, resize_tail hn hm hps (hok m rfl hm)⟩
    rw [e1, e2]
    have hd1 := hd.fr f1 id
    refine rLd c1 rfl <| rNil <| rFA0 <| rLd hd1 rfl <| rLt <| rIf (fun hlt => ?_) (fun hge => ?_)
    · have hlt : m < n := by simpa using hlt
      refine rLd c1 rfl <| rNil <| rFA0 <| rLd hd1 rfl <| rSub (by omega) (by omega) ?_
      have e : (n : Int) - m = ((n - m : Nat) : Int) := by omega
      rw [e]
      have := (resize_range (J2 := J2at w g n m w.heap.size c) h hn hlt hps hz f1 s1 c1 e1 e2 (fun _ _ _ h => h)).call
      rw [e1, e2] at this
      exact this
    · have hge : ¬ m < n := by simpa using hge
      refine ⟨rfl, g, c, h.fr f1 (fun _ _ => id), ⟨f1.mono (fun _ _ => False.elim), rfl, fun _ => .inl, fun _ h => .inl (.inr h)⟩, rfl, c1, fun hk => by have := hbw _ hk; omega, ?_, hz, .inl rfl, by simp⟩
      intro i hi
      split
      · rfl
      · exact hz i (by omega)

theorem b60 : (fun (K : Value → Prop) => vBuild Tryd.prog 61 [] K) = fun K => K (.agg #[it 0, .slice none 0 0, .slice none 0 0]) := by kernel_rfl

theorem new_spec {w : World} {n' : Int} {K : Value → World → Prop}
    (hbad : n' < 0 ∨ 4096 < n' → ∀ w', Fr (fun _ => False) w w' → K (.tuple #[.pointer none, it 1]) w')
    (hok : ∀ m : Nat, n' = m → m ≤ 4096 → ∀ w' g, Fr (fun _ => False) w w' → (∀ k, g.sees k → w.heap.size ≤ k) → By w' g m (fun _ => 0) → g.ps.length = (m + 63) / 64 → K (.tuple #[pt g.b 0, it 0]) w') :
    Ret Tryd.prog 11 #[it n'] w K := by
  apply F11_ok
  unfold F11
  have := congrFun b60 (fun v6 => vBox 61 v6 w fun v7 w => CallK Tryd.prog 22 #[v7, it n'] w fun v10 w_2 => vBin (.int .i64) .neq v10 (.int .i64 0) fun v12 => vBool v12 fun c => if c = true then (K (.tuple #[(.pointer none), v10]) w_2) else K (.tuple #[v7, (.int .i64 0)]) w_2)
  simp only at this
  rw [this]
  have hc : Cs (w.alloc (.cells #[it 0, .slice none 0 0, .slice none 0 0] 61 (0, 0))) w.heap.size [it 0, .slice none 0 0, .slice none 0 0] := Cs.new' w #[it 0, .slice none 0 0, .slice none 0 0] 61
  have f1 : Fr (fun _ => False) w (w.alloc (.cells #[it 0, .slice none 0 0, .slice none 0 0] 61 (0, 0))) := (Fr.refl _ w).alloc _
  have s1 : (w.alloc (.cells #[it 0, .slice none 0 0, .slice none 0 0] 61 (0, 0))).heap.size = w.heap.size + 1 := by simp
  show CallK Tryd.prog 22 #[pt w.heap.size 0, it n'] (w.alloc (.cells #[it 0, .slice none 0 0, .slice none 0 0] 61 (0, 0))) _
  generalize hw1 : w.alloc (.cells #[it 0, .slice none 0 0, .slice none 0 0] 61 (0, 0)) = w1 at hc f1 s1
  have hby : By w1 ⟨w.heap.size, [], [], none, none⟩ 0 (fun _ => 0) := by
    refine ⟨⟨_, _, hc, ⟨rfl, rfl⟩, ⟨rfl, rfl⟩⟩, by simp, rfl, by simp, by simp, by simp, by simp⟩
  refine (resize_spec (g := ⟨w.heap.size, [], [], none, none⟩) hby (by omega) rfl (fun _ _ => rfl) ?_ ?_).call
  · intro hb w' f'
    refine rNe <| rIf (fun _ => ?_) (fun hf => absurd hf (by decide))
    exact hbad hb w' (f1.more f')
  · intro m hm hle w' g' evo hby' hlen
    refine rNe <| rIf (fun hf => absurd hf (by decide)) (fun _ => ?_)
    have e : (fun i => if i < m then (fun _ => (0 : UInt8)) i else 0) = fun _ => 0 := by funext i; simp
    rw [e] at hby'
    have hsz : ∀ k, Gh.foot ⟨w.heap.size, [], [], none, none⟩ k → w.heap.size ≤ k := by
      rintro k (hk | hk | hk | ⟨i, hi, _⟩)
      · simp only at hk; omega
      · cases hk
      · cases hk
      · simp at hi
    have := hok m hm hle w' g' (f1.trans evo.fr (fun x hx hf => by have := hsz x hf; omega)) ?_ hby' hlen
    · rw [evo.b] at this
      exact this
    · rintro k (hk | hk)
      · rcases evo.foot k hk with h | h
        · exact hsz k h
        · omega
      · rcases evo.sees k hk with (h | h) | h
        · exact hsz k h
        · simp at h
        · omega

end Go.Proofs.YtmaecpbkbkncgaaDoor
