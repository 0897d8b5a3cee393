/-
  Pages, part 6: Write. Own work.
-/
import Derived.Test.YtmaecpbkbkncgaaDoorP5
set_option linter.unusedVariables false
set_option linter.unusedSimpArgs false
set_option maxRecDepth 100000
namespace Go.Proofs.YtmaecpbkbkncgaaDoor
open Go Go.V Go.RowKit

/-- the bytes s from a on -/
def wrc (c : Nat → UInt8) (a : Nat) (s : List UInt8) (i : Nat) : UInt8 := if a ≤ i then (s[i - a]?).getD (c i) else c i

theorem wrc_nil (c : Nat → UInt8) (a : Nat) : wrc c a [] = c := by
  funext i; unfold wrc; simp

theorem rCopyStr {w : World} {q off n cp : Nat} {cs : List Value} {l : List UInt8} {K : Value → World → Prop} (h : Cs w q cs) (hl : off + n ≤ cs.length) (hn : n ≤ l.length)
    (hK : ∀ w', Up w q (spl cs off (bts (l.take n))) w' → K (it n) w') : vCopy Tryd.prog 42 (.slice (some ⟨q, off, none⟩) n cp) (str l) w K := by
  obtain ⟨i, hi, his, hib⟩ := i5
  unfold vCopy
  simp only [t38, hi, his]
  have e : min (lenV (str l)) n = n := by simp [lenV, ByteArray.size]; omega
  rw [e]
  refine ⟨rfl, ?_⟩
  show stMaybe w _ 0 (bts (l.take n)) _
  simp only [stMaybe, addr_add, Nat.add_zero]
  obtain ⟨T, h⟩ := h
  unfold stN
  simp only [h]
  have hb : (bts (l.take n)).length = n := by rw [bts_len, List.length_take]; omega
  refine ⟨trivial, by rw [hb]; simpa using hl, by simp, bts_one _, ?_⟩
  exact hK _ (Up.of_put h)

theorem By.setpage {w w' : World} {g : Gh} {n p q : Nat} {c d : Nat → UInt8} (h : By w g n c) (hq : g.ps[p]? = some q) (ho : g.ow[p]? = some true) (hu : Up w q (pgc d p) w')
    (hd : ∀ i, i ≠ p → ∀ j, j < 64 → d (64 * i + j) = c (64 * i + j)) : By w' g n d := by
  obtain ⟨⟨lv, ov, h1, h2, h3⟩, h4, h5, h6, h7, h8, h9⟩ := h
  have hm : q ∈ g.ps := List.mem_of_getElem? hq
  refine ⟨⟨lv, ov, h1.up hu (fun e => h8 (e ▸ hm)), h2.fr hu.fr (fun k hk e => (h6 k hk).2.2 (e ▸ hm)), h3.fr hu.fr (fun k hk e => (h7 k hk).2 (e ▸ hm))⟩, ?_, h5, h6, h7, h8, h9⟩
  intro i r hr
  by_cases e : i = p
  · subst e
    rw [hq] at hr
    cases hr
    exact hu.cs
  · have := (h4 i r hr).up hu (fun er => e (h9 p i q ho hq (er ▸ hr)).symm)
    rwa [pgc_congr (hd i e)]

theorem wrc_step {c : Nat → UInt8} {s : List UInt8} {a0 a m : Nat} (h0 : a0 ≤ a) (hm : 0 < m) (hs : a + m = a0 + s.length) :
    spl (pgc (wrc c a0 (s.take (a - a0))) (a / 64)) (a % 64) (bts ((s.drop (a - a0)).take (dl a m))) = pgc (wrc c a0 (s.take (a + dl a m - a0))) (a / 64) := by
  obtain ⟨q1, q2, q3, q4, q5⟩ := piece_facts (a := a) hm
  have hlen : (bts ((s.drop (a - a0)).take (dl a m))).length = dl a m := by rw [bts_len]; simp; omega
  apply List.ext_getElem?
  intro i
  unfold spl
  by_cases hi : i < 64
  · have hr : (pgc (wrc c a0 (s.take (a + dl a m - a0))) (a / 64))[i]? = some (.int .u8 (wrc c a0 (s.take (a + dl a m - a0)) (64 * (a / 64) + i)).toNat) := by simp [pgc, hi]
    have hr0 : (pgc (wrc c a0 (s.take (a - a0))) (a / 64))[i]? = some (.int .u8 (wrc c a0 (s.take (a - a0)) (64 * (a / 64) + i)).toNat) := by simp [pgc, hi]
    rw [hr]
    by_cases h1 : i < a % 64
    · rw [List.append_assoc, List.getElem?_append_left (by simp [pgc_len]; omega), List.getElem?_take_of_lt h1, hr0]
      congr 3
      unfold wrc
      split
      · rw [List.getElem?_take_of_lt (by omega), List.getElem?_take_of_lt (by omega)]
      · rfl
    · by_cases h2 : i < a % 64 + dl a m
      · rw [List.getElem?_append_left (by simp [pgc_len, hlen]; omega), List.getElem?_append_right (by simp [pgc_len]; omega)]
        have hl1 : (List.take (a % 64) (pgc (wrc c a0 (s.take (a - a0))) (a / 64))).length = a % 64 := by simp [pgc_len]; omega
        rw [hl1]
        have hj : i - a % 64 < dl a m := by omega
        have e1 : a0 ≤ 64 * (a / 64) + i := by omega
        have e2 : 64 * (a / 64) + i - a0 < s.length := by omega
        have e3 : a - a0 + (i - a % 64) = 64 * (a / 64) + i - a0 := by omega
        simp only [bts, List.getElem?_map, wrc, if_pos e1]
        rw [List.getElem?_take_of_lt hj, List.getElem?_drop, List.getElem?_take_of_lt (by omega), e3, List.getElem?_eq_getElem e2]
        rfl
      · rw [List.getElem?_append_right (by simp [pgc_len, hlen]; omega)]
        have hl1 : (List.take (a % 64) (pgc (wrc c a0 (s.take (a - a0))) (a / 64)) ++ bts ((s.drop (a - a0)).take (dl a m))).length = a % 64 + dl a m := by simp [pgc_len, hlen]; omega
        rw [hl1, List.getElem?_drop, hlen]
        have e : a % 64 + dl a m + (i - (a % 64 + dl a m)) = i := by omega
        rw [e, hr0]
        congr 3
        unfold wrc
        split
        · rw [List.getElem?_eq_none (by simp; omega), List.getElem?_eq_none (by simp; omega)]
        · rfl
  · rw [List.getElem?_eq_none (by simp [pgc_len, hlen]; omega), List.getElem?_eq_none (by simp [pgc_len]; omega)]

theorem wrc_other {c : Nat → UInt8} {s : List UInt8} {a0 a m : Nat} (h0 : a0 ≤ a) (hm : 0 < m) (hs : a + m = a0 + s.length) :
    ∀ i, i ≠ a / 64 → ∀ j, j < 64 → wrc c a0 (s.take (a + dl a m - a0)) (64 * i + j) = wrc c a0 (s.take (a - a0)) (64 * i + j) := by
  obtain ⟨q1, q2, q3, q4, q5⟩ := piece_facts (a := a) hm
  intro i hi j hj
  unfold wrc
  split
  · by_cases h : 64 * i + j < a
    · rw [List.getElem?_take_of_lt (by omega), List.getElem?_take_of_lt (by omega)]
    · have : a + dl a m ≤ 64 * i + j := by omega
      rw [List.getElem?_eq_none (by simp; omega), List.getElem?_eq_none (by simp; omega)]
  · rfl

theorem zc9 : zc Tryd.prog 9 = some #[.string ⟨#[]⟩] := by kernel_rfl

/-- one round of Write -/
theorem wr_round {w w4 W W2 : World} {g g1 : Gh} {n a0 a m kx v3 v7 : Nat} {c : Nat → UInt8} {s : List UInt8} {ρ : Env} {Q : Exit → World → Prop} {rr : Option Nat}
    (hm : 0 < m) (hs : a + m = a0 + s.length) (h0 : a0 ≤ a) (hn : n ≤ 4096) (han : a + m ≤ n) (hps : n ≤ 64 * g1.ps.length)
    (hby : By W g1 n (wrc c a0 (s.take (a - a0)))) (e3 : ρ 3 = pt v3 0) (e7 : ρ 7 = pt v7 0) (e9 : ρ 9 = it (a / 64 : Nat)) (e10 : ρ 10 = pt kx 0)
    (hv3 : Cs W v3 [pt g1.b 0]) (hv7 : Cs W v7 [str (s.drop (a - a0))]) (hkx : Cs W kx [it (a % 64 : Nat), it (min (a % 64 + m) 64 : Nat)])
    (n3 : ¬ g1.sees v3) (n7 : ¬ g1.sees v7) (nx : ¬ g1.sees kx) (n37 : v3 ≠ v7) (n7x : kx ≠ v7)
    (hQ : ∀ W' g', By W' g' n (wrc c a0 (s.take (a + dl a m - a0))) → g'.b = g1.b → g'.ps.length = g1.ps.length → (∀ k, g'.sees k → g1.sees k ∨ W.heap.size ≤ k) → (∀ k, g'.foot k → g1.foot k ∨ W.heap.size ≤ k) →
      Fr (fun k => g1.foot k ∨ k = v7) W W' → Cs W' v7 [str (s.drop (a + dl a m - a0))] → Q .normal W') :
    F12R1b rr ρ W Q := by
  obtain ⟨q1, q2, q3, q4, q5⟩ := piece_facts (a := a) hm
  have hp : a / 64 < g1.ps.length := by omega
  unfold F12R1b
  rw [e3, e7, e9, e10]
  have hsl : (s.drop (a - a0)).length = m := by simp; omega
  refine ⟨fun V => Cs V v3 [pt g1.b 0] ∧ Cs V v7 [str (s.drop (a - a0))] ∧ Cs V kx [it (a % 64 : Nat), it (min (a % 64 + m) 64 : Nat)], ⟨hv3, hv7, hkx⟩, ?_⟩
  refine rLdS _ (fun V hV => ⟨_, hV.2.1, rfl⟩) <| rLdS _ (fun V hV => ⟨_, hV.1, rfl⟩) ?_
  refine rIAa (i := 0) (by decide) <| rLdS (it (a % 64 : Nat)) (fun V hV => ⟨_, hV.2.2, rfl⟩) ?_
  refine rIAa (i := 1) (by decide) <| rLdS (it (min (a % 64 + m) 64 : Nat)) (fun V hV => ⟨_, hV.2.2, rfl⟩) ?_
  refine rLdS _ (fun V hV => ⟨_, hV.2.1, rfl⟩) ?_
  refine ⟨?_, trivial⟩
  refine (own_spec (w := W.drew) (hby.fr (Fr.refl (fun _ => False) _).drew (fun _ _ => id)) hp ?_).call
  intro W5 q g' hby5 evo hlen hq how
  have ff : Fr g1.foot W W5 := (Fr.refl _ W).drew.trans evo.fr fun _ _ => id
  have nf : ∀ k, ¬ g1.sees k → ¬ g1.foot k := fun k h h2 => h (.inl h2)
  have hq7 : q ≠ v7 := fun e => by
    have := hv7.lt
    rcases evo.sees q (List.mem_of_getElem? hq) with h | h
    · exact n7 (e ▸ h)
    · have : W.heap.size ≤ q := h
      omega
  have hqs : ∀ k, ¬ g1.sees k → k < W.heap.size → k ≠ q := fun k h1 h2 e => by
    rcases evo.sees q (List.mem_of_getElem? hq) with h | h
    · exact h1 (e ▸ h)
    · have : W.heap.size ≤ q := h
      omega
  refine ⟨⟨hv3.fr ff (nf _ n3), hv7.fr ff (nf _ n7), hkx.fr ff (nf _ nx)⟩, ?_⟩
  refine rNil <| rSlA (by omega) (by omega) (by omega) ?_
  refine ⟨?_, trivial⟩
  refine rCopyStr (hby5.pgs _ _ hq) (by rw [pgc_len]; omega) (by rw [hsl]; unfold dl at q3; omega) ?_
  intro W6 u6
  have e6 := wrc_step (c := c) h0 hm hs
  have edl : min (a % 64 + m) 64 - a % 64 = dl a m := rfl
  rw [edl, e6] at u6
  have hby6 := hby5.setpage hq how u6 (wrc_other h0 hm hs)
  have hv7' := (hv7.fr ff (nf _ n7)).up u6 (Ne.symm hq7)
  refine ⟨⟨(hv3.fr ff (nf _ n3)).up u6 (hqs _ n3 hv3.lt), hv7', (hkx.fr ff (nf _ nx)).up u6 (hqs _ nx hkx.lt)⟩, ?_⟩
  rw [edl]
  refine rSlStrLo (by rw [hsl]; exact q3) ?_
  refine ⟨?_, trivial⟩
  refine rSt hv7' (by simp) rfl (by simp) ?_
  intro W7 u7
  have hs7 : s.drop (a + dl a m - a0) = (s.drop (a - a0)).drop (dl a m) := by
    rw [List.drop_drop]; congr 1; omega
  have hsees : ∀ k, g'.sees k → g1.sees k ∨ W.heap.size ≤ k := by
    rintro k (hk | hk)
    · exact (evo.foot k hk).imp .inl id
    · exact evo.sees k hk
  have hn7 : ¬ g'.sees v7 := fun h => (hsees v7 h).elim n7 (fun h => by have := hv7.lt; omega)
  refine hQ W7 g' (hby6.fr u7.fr (fun k hk e => hn7 (e ▸ hk))) evo.b hlen hsees evo.foot ?_ (by rw [hs7]; exact u7.cs)
  have f6 : Fr (fun k => g1.foot k ∨ k = v7) W W6 := (ff.mono fun _ _ => .inl).trans u6.fr (fun x hx e => by
    subst e
    rcases evo.foot x (.inr (.inr (.inr ⟨_, how, hq⟩))) with h | h
    · exact .inl h
    · have : W.heap.size ≤ x := h
      omega)
  exact f6.trans u7.fr fun x _ e => .inr e

end Go.Proofs.YtmaecpbkbkncgaaDoor
