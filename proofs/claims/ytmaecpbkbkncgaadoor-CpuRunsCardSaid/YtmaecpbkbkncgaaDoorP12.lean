/-
  Pages, part 12: Resize, whole; New. Own work.
-/
import Derived.Test.YtmaecpbkbkncgaaDoorP11
set_option linter.unusedVariables false
set_option linter.unusedSimpArgs false
set_option maxRecDepth 100000
namespace Go.Proofs.YtmaecpbkbkncgaaDoor
open Go Go.V Go.RowKit

theorem By.congr {w : World} {g : Gh} {n : Nat} {c d : Nat → UInt8} (h : By w g n c) (hc : ∀ i, i < 64 * g.ps.length → c i = d i) : By w g n d := by
  obtain ⟨h1, h4, h5, h6, h7, h8, h9⟩ := h
  refine ⟨h1, fun i q hq => ?_, h5, h6, h7, h8, h9⟩
  have hi := (List.getElem?_eq_some_iff.1 hq).1
  rw [← pgc_congr (c := c) (d := d) (fun j hj => hc _ (by omega))]
  exact h4 i q hq

theorem By.setn {w w' : World} {g : Gh} {n m : Nat} {c : Nat → UInt8} {lv ov : Value} (h : By w g n c) (hd : Cs w g.b [it n, lv, ov]) (hu : Up w g.b [it m, lv, ov] w') : By w' g m c ∧ Evo w g w' g := by
  have evo : Evo w g w' g := ⟨hu.fr.mono (fun x _ e => .inl e), rfl, fun _ => .inl, fun _ h => .inl (.inr h)⟩
  obtain ⟨⟨lv0, ov0, h1, h2, h3⟩, h4, h5, h6, h7, h8, h9⟩ := h
  obtain ⟨T1, e1⟩ := h1
  obtain ⟨T2, e2⟩ := hd
  rw [e1] at e2
  simp at e2
  obtain ⟨⟨rfl, rfl⟩, rfl⟩ := e2
  refine ⟨⟨⟨lv0, ov0, hu.cs, h2.fr hu.fr (fun k hk => (h6 k hk).1), h3.fr hu.fr (fun k hk => (h7 k hk).1)⟩, fun i q hq => (h4 i q hq).up hu (fun e => h8 (e ▸ List.mem_of_getElem? hq)), h5, h6, h7, h8, h9⟩, evo⟩

/-- what stands where Resize's ways meet -/
def J2at (w : World) (g : Gh) (n m v2 : Nat) (c : Nat → UInt8) (vs : List Value) (ds : List Nat) (W : World) : Prop :=
  vs = [it m, pt v2 0] ∧ ∃ g1 cm, By W g1 n cm ∧ Evo w g W g1 ∧ g1.ps.length = g.ps.length ∧ Cs W v2 [pt g.b 0] ∧ ¬ g1.sees v2 ∧ (∀ i, i < 64 * ((m + 63) / 64) → cm i = if i < m then c i else 0) ∧ (∀ i, n ≤ i → cm i = 0) ∧
    (ds = [] ∨ ∃ D, ds = [D]) ∧ ∀ D ∈ ds, w.heap.size ≤ D ∧ W.heap[D]? = some (.deferred (some [])) ∧ ¬ g1.sees D

theorem resize_tail {w : World} {g : Gh} {n m v2 : Nat} {c : Nat → UInt8} {K : Value → World → Prop} (hn : n ≤ 4096) (hm : m ≤ 4096) (hps : g.ps.length = (n + 63) / 64)
    (hok : ∀ w' g', Evo w g w' g' → By w' g' m (fun i => if i < m then c i else 0) → g'.ps.length = (m + 63) / 64 → K (it 0) w') :
    ∀ (ρ : Env) (ds : List Nat) (W : World), J2at w g n m v2 c ([1, 2].map ρ) ds W → F22J2 K ρ ds W := by
  rintro ρ ds W ⟨hρ, g1, cm, hby, evo, hlen, hv2, nv, hc1, hc2, hds0, hds⟩
  simp only [List.map_cons, List.map_nil, List.cons.injEq, and_true] at hρ
  obtain ⟨e1, e2⟩ := hρ
  obtain ⟨lv, ov, hd, hl, ho⟩ := hby.hd
  unfold F22J2
  rw [e1, e2]
  refine rLd hv2 rfl <| rNil <| rFA0 ?_
  rw [← evo.b]
  refine rSt hd (by simp) rfl (by simp) ?_
  intro W1 u1
  obtain ⟨hby1, evo1⟩ := hby.setn hd u1
  have hv1 : Cs W1 v2 [pt g1.b 0] := by rw [evo.b]; exact hv2.up u1 (fun e => nv (e ▸ .inl (.inl rfl)))
  have evo01 := evo.trans evo1
  refine loop_ok hby1 hm hv1 nv (by omega) (fun i hi => hc2 i (by omega)) (fun D hD => ⟨evo1.fr.get (hds D hD).2.1 (fun e => (hds D hD).2.2 (.inl e)), (hds D hD).2.2⟩) ?_
  intro w' g' hby' evo' hlen' hds'
  have evo02 := evo01.trans evo'
  have hby'' := hby'.congr (d := fun i => if i < m then c i else 0) (fun i hi => hc1 i (by omega))
  rcases hds0 with rfl | ⟨D, rfl⟩
  · exact hok w' g' evo02 hby'' hlen'
  · obtain ⟨k1, k2⟩ := hds' D (by simp)
    refine ⟨k1, ?_⟩
    have frD : Fr (fun k => k = D) w' (w'.putObj D (.deferred none)) := (Fr.refl _ _).put _ fun _ => rfl
    exact hok _ g' (evo02.then frD (fun x hx e => by have := (hds D (by simp)).1; omega)) (hby''.fr frD (fun k hk e => k2 (e ▸ hk))) hlen'

theorem resize_range {w w1 : World} {g : Gh} {n m : Nat} {c : Nat → UInt8} {ρ : Env} {J2 : List Value → List Nat → World → Prop} (h : By w g n c) (hn : n ≤ 4096) (hm : m < n) (hps : g.ps.length = (n + 63) / 64) (hz : ∀ i, n ≤ i → c i = 0)
    (f1 : Fr (fun _ => False) w w1) (s1 : w1.heap.size = w.heap.size + 1) (hv2 : Cs w1 w.heap.size [pt g.b 0]) (e1 : ρ 1 = it m) (e2 : ρ 2 = pt w.heap.size 0) (hJ : ∀ vs ds W, J2at w g n m w.heap.size c vs ds W → J2 vs ds W) :
    Ret Tryd.prog 25 #[it m, it ((n - m : Nat) : Int)] w1 fun v30 w_2 =>
      rangeF Tryd.prog none [2] [(ρ 2)] [31, 32] F22R1a F22R1b v30 [] w_2 (fun ds w_5 => J2 [(ρ 1), (ρ 2)] ds w_5) (fun _ _ => False) [] := by
  have hbw := h.lt
  apply F25_ok
  unfold F25
  refine rBox rfl ?_
  intro w2 c2 f2 s2
  refine rBox rfl ?_
  intro w3 c3 f3 s3
  rw [e1, e2]
  have f13 := f2.more f3
  have f03 := f1.more f13
  refine range_pieces (a0 := m) (n0 := n - m) (fun a k W => m ≤ a ∧ a + k = n ∧ ∃ g1 cm, Evo w g W g1 ∧ By W g1 n cm ∧ g1.ps.length = g.ps.length ∧ (∀ k, g1.sees k → g.sees k ∨ w3.heap.size + 2 ≤ k) ∧ Cs W w.heap.size [pt g.b 0] ∧
      (∀ i, i < m → cm i = c i) ∧ (∀ i, n ≤ i → cm i = 0) ∧ (a = m ∨ a % 64 = 0 ∨ k = 0) ∧ (a ≠ m → 0 < m % 64 → ∀ i, m ≤ i → i < 64 * (m / 64 + 1) → cm i = 0))
    rfl c3 (c2.fr f3 id) (by omega) (by omega)
    ⟨Nat.le_refl _, by omega, g, c, ⟨f03.mono (fun _ _ => False.elim), rfl, fun _ => .inl, fun _ h => .inl (.inr h)⟩, h.fr f03 (fun _ _ => id), rfl, fun _ => .inl, hv2.fr f13 id, fun _ _ => rfl, hz, .inl rfl, fun e => absurd rfl e⟩ ?_ ?_ ?_
  · rintro a k W W' ⟨h1, h2, g1, cm, evo, hby, hlen, hsee, hv, q1, q2, q3, q4⟩ hfr
    have nin : ∀ x, x < w.heap.size + 1 → ¬ (x = w2.heap.size ∨ x = w1.heap.size ∨ (w3.heap.size ≤ x ∧ x < w3.heap.size + 2)) := fun x hx hx2 => by omega
    refine ⟨h1, h2, g1, cm, evo.then hfr (fun x hx e => absurd e (nin x (by omega))), hby.fr hfr (fun k hk e => ?_), hlen, hsee, hv.fr hfr (nin _ (by omega)), q1, q2, q3, q4⟩
    rcases hsee k hk with h | h
    · exact nin k (by have := hbw k h; omega) e
    · omega
  · rintro rec ρb a k W hsel hs hk hsz ⟨h1, h2, g1, cm, evo, hby, hlen, hsee, hv, q1, q2, q3, q4⟩ hL Q hQ
    simp only [List.map_cons, List.map_nil, List.cons.injEq, and_true] at hsel
    obtain ⟨p1, p2, p3, p4, p5⟩ := piece_facts (a := a) hk
    unfold F22R1a
    refine rAllocT zc65 ?_
    intro W1 k1 g1' z1
    refine rStN (n := 2) ⟨68, k1⟩ rfl (by simp) (by simp [Value.oneCell']) ?_
    intro W2 u2
    have fW2 : Fr (fun _ => False) W W2 := g1'.trans u2.fr (fun x hx e => by omega)
    have hs2 : W2.heap.size = W.heap.size + 1 := by rw [u2.size, z1]
    refine ⟨rfl, rfl, fW2.get hL id, ?_⟩
    have f4 : Fr (fun k => k = w3.heap.size + 1) W2 (W2.putObj (w3.heap.size + 1) (.loop { rec with state := .busy })) := (Fr.refl _ _).put _ fun _ => rfl
    have fp : Fr (fun _ => False) (W.putObj (w3.heap.size + 1) (.loop { rec with state := .busy })) (W2.putObj (w3.heap.size + 1) (.loop { rec with state := .busy })) := fW2.putBoth (lt_of_blk hL) _
    generalize hW3 : W2.putObj (w3.heap.size + 1) (.loop { rec with state := .busy }) = W3 at f4 fp
    have hs3 : W3.heap.size = W.heap.size + 1 := by rw [← hW3]; simp [hs2]
    have fW3 : Fr (fun k => k = w3.heap.size + 1) W W3 := (fW2.mono (fun _ _ => False.elim)).trans f4 (fun _ _ => id)
    have nl : ∀ k, g1.sees k → k < W.heap.size ∧ k ≠ w3.heap.size + 1 ∧ k ≠ w.heap.size ∧ k ≠ w2.heap.size ∧ k ≠ w1.heap.size ∧ k ≠ w3.heap.size := fun k hk => by
      have hlt := hby.lt k hk
      rcases hsee k hk with h | h
      · have := hbw k h; omega
      · omega
    have hby3 := hby.fr fW3 (fun k hk e => (nl k hk).2.1 e)
    have evo3 : Evo w g W3 g1 := evo.then fW3 (fun x hx e => by omega)
    have hv3 : Cs W3 w.heap.size [pt g.b 0] := hv.fr fW3 (by omega)
    have hkx : Cs W3 W.heap.size [it (a % 64 : Nat), it (min (a % 64 + k) 64 : Nat)] := u2.cs.fr f4 (by omega)
    have hmin : min (a % 64 + k) 64 = a % 64 + dl a k := p5.symm
    by_cases hlo : a % 64 = 0
    · -- nothing is cleared
      unfold F22R1b
      refine rIAa (i := 0) (by decide) <| rLd hkx rfl <| rGt <| rIf (fun hf => absurd hf (by simp; omega)) (fun _ => ?_)
      refine hQ W3 (fp.mono (fun _ _ => False.elim)) ⟨by omega, by omega, g1, cm, evo3, hby3, hlen, hsee, hv3, q1, q2, ?_, ?_⟩
      · by_cases hkk : k - dl a k = 0
        · exact .inr (.inr hkk)
        · refine .inr (.inl ?_)
          unfold dl at *
          omega
      · intro _ hm64 i hi1 hi2
        by_cases hma : a = m
        · omega
        · exact q4 hma hm64 i hi1 hi2
    · -- the first page's rest
      have ham : a = m := by rcases q3 with e | e | e <;> omega
      refine clr_round (kx := W.heap.size) (v2 := w.heap.size) (p := a / 64) (by omega) p1 (by omega) (by omega) hby3 hsel rfl rfl (by rw [evo.b]; exact hv3) hkx (fun hk => (nl _ hk).2.2.1 rfl) (fun hk => by have := (nl _ hk).1; omega) ?_
      intro W' g' hby' evo' hlen'
      have hsees' : ∀ x, g'.sees x → g1.sees x ∨ W3.heap.size ≤ x := by
        rintro x (hx | hx)
        · exact (evo'.foot x hx).imp .inl id
        · exact evo'.sees x hx
      have frW : Fr (fun k => k ≠ w2.heap.size ∧ k ≠ w1.heap.size ∧ k ≠ w3.heap.size ∧ k ≠ w3.heap.size + 1) (W.putObj (w3.heap.size + 1) (.loop { rec with state := .busy })) W' := by
        refine (fp.mono (fun _ _ => False.elim)).trans evo'.fr ?_
        intro x hx e
        have := nl x (.inl e)
        omega
      refine hQ W' frW ⟨by omega, by omega, g', _, evo3.trans evo', hby', by omega, ?_, hv3.fr evo'.fr (fun e => (nl _ (.inl e)).2.2.1 rfl), ?_, ?_, ?_, ?_⟩
      · intro x hx
        rcases hsees' x hx with h | h
        · exact hsee x h
        · exact .inr (by omega)
      · intro i hi
        unfold zrc
        rw [if_neg (by omega)]
        exact q1 i hi
      · intro i hi
        unfold zrc
        split
        · rfl
        · exact q2 i hi
      · by_cases hkk : k - dl a k = 0
        · exact .inr (.inr hkk)
        · refine .inr (.inl ?_)
          unfold dl at *
          omega
      · intro _ hm64 i hi1 hi2
        unfold zrc
        split
        · rfl
        · rename_i hni
          refine q2 i ?_
          unfold dl at *
          omega
  · rintro W ⟨h1, h2, g1, cm, evo, hby, hlen, hsee, hv, q1, q2, q3, q4⟩ hD
    refine hJ _ _ _ ⟨rfl, g1, cm, hby, evo, hlen, hv, ?_, ?_, q2, .inr ⟨_, rfl⟩, ?_⟩
    · intro hk
      rcases hsee _ hk with h | h
      · have := hbw _ h; omega
      · omega
    · intro i hi
      by_cases him : i < m
      · rw [if_pos him]; exact q1 i him
      · rw [if_neg him]
        exact q4 (by omega) (by omega) i (by omega) (by omega)
    · intro D hD'
      have : D = w3.heap.size := by simpa using hD'
      subst this
      refine ⟨by omega, hD, fun hk => ?_⟩
      rcases hsee _ hk with h | h
      · have := hbw _ h; omega
      · omega

end Go.Proofs.YtmaecpbkbkncgaaDoor
