/-
  Pages, part 7: Write, whole. Own work.
-/
import Derived.Test.YtmaecpbkbkncgaaDoorP6
set_option linter.unusedVariables false
set_option linter.unusedSimpArgs false
set_option maxRecDepth 100000
namespace Go.Proofs.YtmaecpbkbkncgaaDoor
open Go Go.V Go.RowKit

/-- the parts of a Write, joined -/
def Parts (w : World) (parts : Value) (s : List UInt8) : Prop :=
  ∀ (K : Value → World → Prop) w1, Fr (fun _ => False) w w1 → (∀ w', Fr (fun _ => False) w1 w' → K (str s) w') → Ret Tryd.prog 23 #[parts, str []] w1 K

theorem putAll2 (ρ : Env) (i j : Nat) (x y : Value) : putAll ρ [i, j] [x, y] = put (put ρ (some i) x) (some j) y := rfl

theorem Fr.then2 {F G : Nat → Prop} {a b c : World} (h : Fr F a b) (k : Fr G b c) : Fr (fun x => F x ∨ G x) a c :=
  (h.mono fun _ _ => .inl).trans k fun _ _ => .inr

theorem wr_spec {w : World} {g : Gh} {n : Nat} {c : Nat → UInt8} {a' : Int} {parts : Value} {s : List UInt8} {K : Value → World → Prop} (h : By w g n c) (hn : n ≤ 4096) (hps : n ≤ 64 * g.ps.length)
    (ha1 : -9223372036854775808 ≤ a') (ha2 : a' < 9223372036854775808) (hp : Parts w parts s)
    (hK : ∀ w' g', Evo w g w' g' → g'.ps.length = g.ps.length → By w' g' n (if fitsE n a' s.length = 0 then wrc c a'.toNat s else c) → K (it (fitsE n a' s.length)) w') :
    Ret Tryd.prog 12 #[pt g.b 0, it a', parts] w K := by
  obtain ⟨lv, ov, hd, hrow, hrow2⟩ := h.hd
  have hbw := h.lt
  apply F12_ok
  unfold F12
  refine rBox rfl ?_
  intro w1 c1 fr1 s1
  refine (hp _ w1 fr1 ?_).call
  intro w2 fr2
  refine rAllocT zc9 ?_
  intro w3 k3 fr3 s3
  refine rSt ⟨9, k3⟩ (by simp) rfl (by simp) ?_
  intro w4 u4
  have hz2 := fr2.size
  have fr4 : Fr (fun _ => False) w2 w4 := fr3.trans u4.fr (fun x hx e => by omega)
  have fr04 : Fr (fun _ => False) w w4 := (fr1.more fr2).more fr4
  have hs4 : w4.heap.size = w2.heap.size + 1 := by rw [u4.size, s3]
  have hc1 : Cs w4 w.heap.size [pt g.b 0] := (c1.fr fr2 id).fr fr4 id
  refine rLd hc1 rfl <| rLd u4.cs rfl <| rLenB ?_
  refine (fits_spec (hd.fr fr04 id) hn ha1 ha2 ?_).call
  refine rNe <| rIf (fun he => ?_) (fun he => ?_)
  · have he : fitsE n a' s.length ≠ 0 := by simpa using he
    refine hK w4 g ⟨fr04.mono (fun _ _ => False.elim), rfl, fun _ => .inl, fun _ h => .inl (.inr h)⟩ rfl ?_
    rw [if_neg he]
    exact h.fr fr04 (fun _ _ => id)
  · have he : fitsE n a' s.length = 0 := by simpa using he
    rw [he] at hK
    have hf : 0 ≤ a' ∧ a' ≤ n ∧ (s.length : Int) ≤ n - a' := by
      unfold fitsE at he
      split at he
      · cases he
      · omega
    obtain ⟨a0, rfl⟩ := Int.eq_ofNat_of_zero_le hf.1
    have hfit : a0 + s.length ≤ n := by omega
    refine rLd u4.cs rfl <| rLenB ?_
    apply Ret.call
    apply F25_ok
    unfold F25
    refine rBox rfl ?_
    intro w5 c5 fr5 s5
    refine rBox rfl ?_
    intro w6 c6 fr6 s6
    have fr46 := fr5.more fr6
    have fr06 := fr04.more fr46
    have hz1 := fr1.size
    have hlt46 : w4.heap.size ≤ w6.heap.size := fr46.size
    refine range_pieces (a0 := a0) (n0 := s.length) (fun a m W => a0 ≤ a ∧ a + m = a0 + s.length ∧ ∃ g1, Evo w g W g1 ∧ By W g1 n (wrc c a0 (s.take (a - a0))) ∧ g1.ps.length = g.ps.length ∧
        (∀ k, g1.sees k → g.sees k ∨ w6.heap.size + 2 ≤ k) ∧ Cs W w.heap.size [pt g.b 0] ∧ Cs W w2.heap.size [str (s.drop (a - a0))])
      rfl c6 (c5.fr fr6 id) (by omega) (by omega) ⟨Nat.le_refl _, rfl, g, ⟨fr06.mono (fun _ _ => False.elim), rfl, fun _ => .inl, fun _ h => .inl (.inr h)⟩, ?_, rfl, fun _ => .inl, hc1.fr fr46 id, ?_⟩ ?_ ?_ ?_
    · have := h.fr fr06 (fun _ _ => id)
      rw [Nat.sub_self, List.take_zero, wrc_nil]
      exact this
    · rw [Nat.sub_self, List.drop_zero]
      exact u4.cs.fr fr46 id
    · rintro a m W W' ⟨h1, h2, g1, evo, hby, hlen, hsee, hv3, hv7⟩ hfr
      have nin : ∀ x, x < w.heap.size + 1 ∨ x = w2.heap.size → ¬ (x = w5.heap.size ∨ x = w4.heap.size ∨ (w6.heap.size ≤ x ∧ x < w6.heap.size + 2)) := fun x hx hx2 => by omega
      refine ⟨h1, h2, g1, evo.then hfr (fun x hx e => absurd e (nin x (.inl (by omega)))), hby.fr hfr (fun k hk e => ?_), hlen, hsee, hv3.fr hfr (nin _ (.inl (by omega))), hv7.fr hfr (nin _ (.inr rfl))⟩
      rcases hsee k hk with h | h
      · exact nin k (.inl (by have := hbw k h; omega)) e
      · omega
    · rintro rec ρb a m W hsel hs hm hsz ⟨h1, h2, g1, evo, hby, hlen, hsee, hv3, hv7⟩ hL Q hQ
      simp only [List.map_cons, List.map_nil, List.cons.injEq, and_true] at hsel
      obtain ⟨e3, e7⟩ := hsel
      unfold F12R1a
      refine rAllocT zc65 ?_
      intro W1 k1 f1 z1
      refine rStN (n := 2) ⟨68, k1⟩ rfl (by simp) (by simp [Value.oneCell']) ?_
      intro W2 u2
      have fW2 : Fr (fun _ => False) W W2 := f1.trans u2.fr (fun x hx e => by omega)
      have hs2 : W2.heap.size = W.heap.size + 1 := by rw [u2.size, z1]
      refine ⟨rfl, rfl, fW2.get hL id, ?_⟩
      have f3 : Fr (fun k => k = w6.heap.size + 1) W2 (W2.putObj (w6.heap.size + 1) (.loop { rec with state := .busy })) := (Fr.refl _ _).put _ fun _ => rfl
      have fp : Fr (fun _ => False) (W.putObj (w6.heap.size + 1) (.loop { rec with state := .busy })) (W2.putObj (w6.heap.size + 1) (.loop { rec with state := .busy })) := fW2.putBoth (lt_of_blk hL) _
      generalize hW3 : W2.putObj (w6.heap.size + 1) (.loop { rec with state := .busy }) = W3 at f3 fp
      have hs3 : W3.heap.size = W.heap.size + 1 := by rw [← hW3]; simp [hs2]
      have fW3 : Fr (fun k => k = w6.heap.size + 1) W W3 := (fW2.mono (fun _ _ => False.elim)).trans f3 (fun _ _ => id)
      have nl : ∀ k, g1.sees k → k < W.heap.size ∧ k ≠ w6.heap.size + 1 ∧ k ≠ w.heap.size ∧ k ≠ w2.heap.size ∧ k ≠ w5.heap.size ∧ k ≠ w4.heap.size ∧ k ≠ w6.heap.size := fun k hk => by
        have hlt := hby.lt k hk
        rcases hsee k hk with h | h
        · have := hbw k h; omega
        · omega
      have hb1 : pt g.b 0 = pt g1.b 0 := by rw [evo.b]
      refine wr_round (w := w) (w4 := w6) (W2 := W2) (g := g) (g1 := g1) (kx := W.heap.size) (v3 := w.heap.size) (v7 := w2.heap.size) hm h2 h1 hn (by omega) (by omega) (hby.fr fW3 (fun k hk e => (nl k hk).2.1 e))
        e3 e7 rfl rfl ?_ ?_ ?_ ?_ ?_ ?_ (by omega) (by omega) ?_
      · rw [← hb1]; exact hv3.fr fW3 (by omega)
      · exact hv7.fr fW3 (by omega)
      · exact u2.cs.fr f3 (by omega)
      · exact fun hk => (nl _ hk).2.2.1 rfl
      · exact fun hk => (nl _ hk).2.2.2.1 rfl
      · exact fun hk => by have := (nl _ hk).1; omega
      · intro W' g' hby' hb' hlen' hsees' hfoot' fr' hv7'
        have nf : ∀ x, (x < w.heap.size + 1 ∧ ¬ g1.foot x) ∨ x = w5.heap.size ∨ x = w4.heap.size ∨ x = w6.heap.size ∨ x = w6.heap.size + 1 → ¬ (g1.foot x ∨ x = w2.heap.size) := fun x hx hx2 => by
          rcases hx2 with h | h
          · have := nl x (.inl h)
            rcases hx with hx | hx | hx | hx | hx
            · exact hx.2 h
            all_goals omega
          · omega
        have frW : Fr (fun k => k ≠ w5.heap.size ∧ k ≠ w4.heap.size ∧ k ≠ w6.heap.size ∧ k ≠ w6.heap.size + 1) (W.putObj (w6.heap.size + 1) (.loop { rec with state := .busy })) W' := by
          refine (fp.mono (fun _ _ => False.elim)).trans fr' ?_
          intro x hx e
          refine ⟨fun h => nf x (by simp [h]) e, fun h => nf x (by simp [h]) e, fun h => nf x (by simp [h]) e, fun h => nf x (by simp [h]) e⟩
        refine hQ W' frW ⟨by omega, by unfold dl; omega, g', ?_, hby', by omega, ?_, ?_, hv7'⟩
        · have evo1 : Evo w g W3 g1 := evo.then fW3 (fun x hx e => by omega)
          refine ⟨evo1.fr.trans fr' (fun x hx e => ?_), hb'.trans evo.b, fun k hk => ?_, fun k hk => ?_⟩
          · rcases e with e | e
            · rcases evo.foot x e with h | h
              · exact h
              · omega
            · omega
          · rcases hfoot' k hk with h | h
            · exact evo.foot k h
            · exact .inr (by omega)
          · rcases hsees' k (.inr hk) with h | h
            · rcases hsee k h with h | h
              · exact .inl h
              · exact .inr (by omega)
            · exact .inr (by omega)
        · intro k hk
          rcases hsees' k hk with h | h
          · exact hsee k h
          · exact .inr (by omega)
        · refine (hv3.fr fW3 (by omega)).fr fr' (nf _ (.inl ⟨by omega, fun h => (nl _ (.inl h)).2.2.1 rfl⟩))
    · rintro W ⟨h1, h2, g1, evo, hby, hlen, hsee, hv3, hv7⟩ hD
      refine ⟨hD, ?_⟩
      have frD : Fr (fun k => k = w6.heap.size) W (W.putObj w6.heap.size (.deferred none)) := (Fr.refl _ _).put _ fun _ => rfl
      refine hK _ g1 (evo.then frD (fun x hx e => by omega)) hlen ?_
      rw [if_pos rfl]
      have e : a0 + s.length - a0 = s.length := by omega
      rw [e, List.take_length] at hby
      exact hby.fr frD (fun k hk e => by
        rcases hsee k hk with h | h
        · have := hbw k h; omega
        · omega)

end Go.Proofs.YtmaecpbkbkncgaaDoor
