/-
  Pages, part 11: Resize: clearing. Own work.
-/
import Derived.Test.YtmaecpbkbkncgaaDoorP10
set_option linter.unusedVariables false
set_option linter.unusedSimpArgs false
set_option maxRecDepth 100000
namespace Go.Proofs.YtmaecpbkbkncgaaDoor
open Go Go.V Go.RowKit

/-- zeros from x to y -/
def zrc (c : Nat → UInt8) (x y : Nat) (i : Nat) : UInt8 := if x ≤ i ∧ i < y then 0 else c i

theorem repZ_one (v : Value) (n : Nat) : repZ [v] n = List.replicate n v := by
  unfold repZ
  induction n with
  | zero => rfl
  | succ n ih => simp [List.replicate_succ, ih]

theorem zrc_page {c : Nat → UInt8} {p lo hi : Nat} (h1 : lo ≤ hi) (h2 : hi ≤ 64) : spl (pgc c p) lo (repZ [.int .u8 0] (hi - lo)) = pgc (zrc c (64 * p + lo) (64 * p + hi)) p := by
  rw [repZ_one]
  apply List.ext_getElem?
  intro i
  unfold spl
  have hlen : (List.replicate (hi - lo) (Value.int .u8 0)).length = hi - lo := by simp
  by_cases hi' : i < 64
  · have hr : (pgc (zrc c (64 * p + lo) (64 * p + hi)) p)[i]? = some (.int .u8 (zrc c (64 * p + lo) (64 * p + hi) (64 * p + i)).toNat) := by simp [pgc, hi']
    have hr0 : (pgc c p)[i]? = some (.int .u8 (c (64 * p + i)).toNat) := by simp [pgc, hi']
    rw [hr]
    by_cases h3 : i < lo
    · rw [List.append_assoc, List.getElem?_append_left (by simp [pgc_len]; omega), List.getElem?_take_of_lt h3, hr0]
      unfold zrc
      rw [if_neg (by omega)]
    · by_cases h4 : i < hi
      · rw [List.getElem?_append_left (by simp [pgc_len]; omega), List.getElem?_append_right (by simp [pgc_len]; omega)]
        have hl1 : (List.take lo (pgc c p)).length = lo := by simp [pgc_len]; omega
        rw [hl1, List.getElem?_replicate, if_pos (by omega)]
        unfold zrc
        rw [if_pos (by omega)]
        rfl
      · rw [List.getElem?_append_right (by simp [pgc_len]; omega)]
        have hl1 : (List.take lo (pgc c p) ++ List.replicate (hi - lo) (Value.int .u8 0)).length = hi := by simp [pgc_len]; omega
        rw [hl1, List.getElem?_drop, hlen]
        have e : lo + (hi - lo) + (i - hi) = i := by omega
        rw [e, hr0]
        unfold zrc
        rw [if_neg (by omega)]
  · rw [List.getElem?_eq_none (by simp [pgc_len]; omega), List.getElem?_eq_none (by simp [pgc_len]; omega)]

theorem rClear {w : World} {q off n cp : Nat} {cs : List Value} {K : Value → World → Prop} (h : Cs w q cs) (hl : off + n ≤ cs.length) (h0 : 0 < n)
    (hK : ∀ w', Up w q (spl cs off (repZ [.int .u8 0] n)) w' → K (.tuple #[]) w') : vClear Tryd.prog 42 (.slice (some ⟨q, off, none⟩) n cp) w K := by
  unfold vClear
  simp only [t38, z5]
  refine ⟨fun e => by omega, fun _ => ?_⟩
  obtain ⟨T, h⟩ := h
  unfold stN
  simp only [h]
  refine ⟨trivial, by simp [repZ_one]; omega, by simp, ?_, ?_⟩
  · intro x hx
    simp [repZ_one] at hx
    rw [hx.2]; rfl
  · exact hK _ (Up.of_put h)

/-- one round's clearing -/
theorem clr_round {W : World} {g1 : Gh} {n p lo hi kx v2 : Nat} {c : Nat → UInt8} {ρ : Env} {Q : Exit → World → Prop} {rr : Option Nat} (h0 : 0 < lo) (h1 : lo < hi) (h2 : hi ≤ 64) (hp : p < g1.ps.length)
    (hby : By W g1 n c) (e2 : ρ 2 = pt v2 0) (e5 : ρ 5 = it p) (e6 : ρ 6 = pt kx 0) (hv2 : Cs W v2 [pt g1.b 0]) (hkx : Cs W kx [it lo, it hi]) (n2 : ¬ g1.sees v2) (nx : ¬ g1.sees kx)
    (hQ : ∀ W' g', By W' g' n (zrc c (64 * p + lo) (64 * p + hi)) → Evo W g1 W' g' → g'.ps.length = g1.ps.length → Q .normal W') : F22R1b rr ρ W Q := by
  unfold F22R1b
  rw [e2, e5, e6]
  refine rIAa (i := 0) (by decide) <| rLd hkx rfl <| rGt <| rIf (fun _ => ?_) (fun hf => absurd hf (by simp; omega))
  refine ⟨fun V => Cs V v2 [pt g1.b 0] ∧ Cs V kx [it lo, it hi], ⟨hv2, hkx⟩, ?_⟩
  refine rLdS (pt g1.b 0) (fun V hV => ⟨_, hV.1, rfl⟩) ?_
  refine rIAa (i := 0) (by decide) <| rLdS (it lo) (fun V hV => ⟨_, hV.2, rfl⟩) ?_
  refine rIAa (i := 1) (by decide) <| rLdS (it hi) (fun V hV => ⟨_, hV.2, rfl⟩) ⟨?_, trivial⟩
  refine (own_spec (w := W.drew) (hby.fr (Fr.refl (fun _ => False) _).drew (fun _ _ => id)) hp ?_).call
  intro W5 q g' hby5 evo hlen hq how
  have evo : Evo W g1 W5 g' := Evo.before (F := fun _ => False) (Fr.refl _ W).drew evo (fun _ _ => False.elim)
  have nf : ∀ k, ¬ g1.sees k → ¬ g1.foot k := fun k h h2 => h (.inl h2)
  have hqs : ∀ k, ¬ g1.sees k → k < W.heap.size → k ≠ q := fun k h1 h2 e => by
    rcases evo.sees q (List.mem_of_getElem? hq) with h | h
    · exact h1 (e ▸ h)
    · omega
  refine ⟨⟨hv2.fr evo.fr (nf _ n2), hkx.fr evo.fr (nf _ nx)⟩, ?_⟩
  refine rNil <| rSlA (by omega) (by omega) (by omega) ⟨?_, trivial⟩
  refine rClear (hby5.pgs _ _ hq) (by rw [pgc_len]; omega) (by omega) ?_
  intro W6 u6
  rw [zrc_page (by omega) h2] at u6
  have hby6 := hby5.setpage hq how u6 (fun i hi j hj => by unfold zrc; rw [if_neg (by omega)])
  refine ⟨⟨(hv2.fr evo.fr (nf _ n2)).up u6 (hqs _ n2 hv2.lt), (hkx.fr evo.fr (nf _ nx)).up u6 (hqs _ nx hkx.lt)⟩, ?_⟩
  refine hQ W6 g' hby6 ⟨evo.fr.trans u6.fr (fun x hx e => ?_), evo.b, evo.foot, evo.sees⟩ hlen
  subst e
  rcases evo.foot x (.inr (.inr (.inr ⟨_, how, hq⟩))) with h | h
  · exact h
  · omega

end Go.Proofs.YtmaecpbkbkncgaaDoor
