/-
  Pages, part 3: a range over pieces; strings.Join; the builder. Own work.
-/
import Derived.Test.YtmaecpbkbkncgaaDoorP2
import Derived.Test.YtmaecpbkbkncgaaDoorShelf
set_option linter.unusedVariables false
set_option linter.unusedSimpArgs false
set_option maxRecDepth 100000
namespace Go.Proofs.YtmaecpbkbkncgaaDoor
open Go Go.V

/-- how many bytes a piece has -/
def dl (a m : Nat) : Nat := min (a % 64 + m) 64 - a % 64

theorem range_pieces {sel : List Nat} {init : List Value} {ps : List Nat} {asg : Option Nat → Env → World → QV → Prop} {bdy : Option Nat → Env → World → (Exit → World → Prop) → Prop}
    {ds : List Nat} {w : World} {Kn Kr : List Nat → World → Prop} {Kx : List (Nat × (List Nat → World → Prop))} {kn ka a0 n0 : Nat} (J : Nat → Nat → World → Prop)
    (hps : ps.length = 2) (hn : Bi w kn n0) (ha : Bi w ka a0) (hne : kn ≠ ka) (hb : a0 + n0 < 4611686018427387904) (hJ : J a0 n0 w)
    (hst : ∀ a m W W', J a m W → Fr (fun k => k = kn ∨ k = ka ∨ (w.heap.size ≤ k ∧ k < w.heap.size + 2)) W W' → J a m W')
    (hR : ∀ (rec : Loop) (ρb : Env) (a m : Nat) (W : World), sel.map ρb = init → a + m = a0 + n0 → 0 < m → w.heap.size + 2 ≤ W.heap.size → J a m W → W.heap[w.heap.size + 1]? = some (.loop rec) →
      ∀ Q : Exit → World → Prop, (∀ W2, Fr (fun k => k ≠ kn ∧ k ≠ ka ∧ k ≠ w.heap.size ∧ k ≠ w.heap.size + 1) (W.putObj (w.heap.size + 1) (.loop { rec with state := .busy })) W2 → J (a + dl a m) (m - dl a m) W2 → Q .normal W2) →
      asg (some (w.heap.size + 1)) (putAll ρb ps [it (a / 64 : Nat), .agg #[it (a % 64 : Nat), it (min (a % 64 + m) 64 : Nat)]]) W fun e ρ1 ds1 W1 =>
        e = .normal ∧ ds1 = [] ∧ W1.heap[w.heap.size + 1]? = some (.loop rec) ∧ bdy (some (w.heap.size + 1)) ρ1 (W1.putObj (w.heap.size + 1) (.loop { rec with state := .busy })) Q)
    (hK : ∀ W, J (a0 + n0) 0 W → W.heap[w.heap.size]? = some (.deferred (some [])) → Kn (w.heap.size :: ds) W) :
    rangeF Tryd.prog none sel init ps asg bdy (.func (.func 42) #[] #[pt kn 0, pt ka 0]) ds w Kn Kr Kx := by
  intro rec ρb hrs hrp hsel hround
  have hkn : kn < w.heap.size := hn.lt
  have hka : ka < w.heap.size := ha.lt
  have frD : Fr (fun _ => False) w (w.alloc (.deferred (some []))) := (Fr.refl _ w).alloc _
  have fr0 : Fr (fun _ => False) w ((w.alloc (.deferred (some []))).alloc (.loop rec)) := frD.alloc _
  have hD0 : ((w.alloc (.deferred (some []))).alloc (.loop rec)).heap[w.heap.size]? = some (.deferred (some [])) := by
    rw [blk_lt _ _ _ (by simp)]; exact World.alloc_heap_new _ _
  have hL0 : ((w.alloc (.deferred (some []))).alloc (.loop rec)).heap[w.heap.size + 1]? = some (.loop rec) := by
    have := World.alloc_heap_new (w.alloc (.deferred (some []))) (.loop rec)
    simpa using this
  refine pieces_spec (fun a m W => J a m W ∧ W.heap[w.heap.size]? = some (.deferred (some [])) ∧ W.heap[w.heap.size + 1]? = some (.loop rec)) hne hb (hn.fr fr0 id) (ha.fr fr0 id)
    ⟨hst _ _ _ _ hJ (fr0.mono fun _ _ => False.elim), hD0, hL0⟩ ?_ ?_
  · rintro a m W hs hm hbn hba ⟨hJ, hD, hL⟩
    have hsz : w.heap.size + 2 ≤ W.heap.size := by have := lt_of_blk hL; omega
    refine hround [_, _] W _ ?_
    refine ⟨by simp [hps], hL, hR rec ρb a m W hsel hs hm hsz hJ hL _ ?_⟩
    intro W2 hfr hJ2
    have hbusy : W2.heap[w.heap.size + 1]? = some (.loop { rec with state := .busy }) := hfr.get (World.putObj_heap_same (lt_of_blk hL)) (fun h => h.2.2.2 rfl)
    refine ⟨hbusy, ?_⟩
    have hrec : ({ rec with state := .ready, pending := none } : Loop) = rec := by
      cases rec; simp only at hrs hrp; subst hrs hrp; rfl
    show (_ = _) ∧ _
    simp only [Option.isNone_none, if_true]
    rw [hrec]
    have keep : ∀ k, k ≠ w.heap.size + 1 → (k = kn ∨ k = ka ∨ k = w.heap.size) → k < W.heap.size → (W2.putObj (w.heap.size + 1) (.loop rec)).heap[k]? = W.heap[k]? := by
      intro k h1 h2 h3
      rw [World.putObj_heap_other h1, hfr.same k (by simpa using h3) (by rintro ⟨a, b, c, d⟩; rcases h2 with h | h | h <;> contradiction), World.putObj_heap_other h1]
    have frL : Fr (fun k => k = kn ∨ k = ka ∨ (w.heap.size ≤ k ∧ k < w.heap.size + 2)) W2 (W2.putObj (w.heap.size + 1) (.loop rec)) := (Fr.refl _ W2).put _ fun _ => .inr (.inr ⟨by omega, by omega⟩)
    refine ⟨trivial, hbn.same (keep kn (by omega) (.inl rfl) hbn.lt), hba.same (keep ka (by omega) (.inr (.inl rfl)) hba.lt), ?_⟩
    intro w2 w3 u2 u3
    have hDk := keep w.heap.size (by omega) (.inr (.inr rfl)) (by omega)
    have hL3 : (W2.putObj (w.heap.size + 1) (.loop rec)).heap[w.heap.size + 1]? = some (.loop rec) := World.putObj_heap_same (lt_of_blk hbusy)
    refine ⟨hst _ _ _ _ hJ2 ((frL.trans (u2.fr.mono (G := fun k => k = kn ∨ k = ka ∨ (w.heap.size ≤ k ∧ k < w.heap.size + 2)) fun _ _ h => .inr (.inl h)) fun _ _ => id).trans (u3.fr.mono (G := fun k => k = kn ∨ k = ka ∨ (w.heap.size ≤ k ∧ k < w.heap.size + 2)) fun _ _ h => .inl h) fun _ _ => id), ?_, ?_⟩
    · exact u3.fr.get (u2.fr.get (hDk.trans hD) (by omega)) (by omega)
    · exact u3.fr.get (u2.fr.get hL3 (by omega)) (by omega)
  · rintro W hbn hba ⟨hJ, hD, hL⟩
    refine ⟨rec.state, rec.pending, hL, by rw [hrs]; simp, ?_⟩
    rw [hrp]
    have frL : Fr (fun k => k = kn ∨ k = ka ∨ (w.heap.size ≤ k ∧ k < w.heap.size + 2)) W (W.putObj (w.heap.size + 1) (.loop { rec with state := .exhausted, pending := none })) := (Fr.refl _ W).put _ fun _ => .inr (.inr ⟨by omega, by omega⟩)
    refine hK _ (hst _ _ _ _ hJ frL) ?_
    rw [World.putObj_heap_other (by omega)]
    exact hD

end Go.Proofs.YtmaecpbkbkncgaaDoor
