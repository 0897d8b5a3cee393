/-
  Pages, part 6: Write. Own work.
-/
import Derived.Test.YtdkklhnleppfcaaGreatSg17
set_option linter.unusedVariables false
set_option linter.unusedSimpArgs false

set_option linter.unusedVariables false
set_option linter.unusedSimpArgs false
set_option maxRecDepth 100000
namespace Go.Proofs.YtdkklhnleppfcaaGreat
open Go Go.V Go.RowKit

def wrc (c : Nat → UInt8) (a : Nat) (s : List UInt8) (i : Nat) : UInt8 := if a ≤ i then (s[i - a]?).getD (c i) else c i

theorem wrc_nil (c : Nat → UInt8) (a : Nat) : wrc c a [] = c := by
  funext i; unfold wrc; simp

theorem rCopyStr {w : World} {q off n cp : Nat} {cs : List Value} {l : List UInt8} {K : Value → World → Prop} (h : Cs w q cs) (hl : off + n ≤ cs.length) (hn : n ≤ l.length)
    (hK : ∀ w', Up w q (spl cs off (bts (l.take n))) w' → K (it n) w') : vCopy Tryz.prog 283 (.slice (some ⟨q, off, none⟩) n cp) (str l) w K := by
  obtain ⟨i, hi, his, hib⟩ := i5
  unfold vCopy
  simp only [t38, hi, his]
  have e : min (lenV (str l)) n = n := by simp [lenV, ByteArray.size]; omega
  rw [e]
  refine ⟨rfl, ?_⟩
  show stMaybe w _ 0 (bts (l.take n)) _
  simp only [stMaybe, addr_add, Nat.add_zero]
  obtain ⟨T, h⟩ := h
  unfold stN
  simp only [h]
  have hb : (bts (l.take n)).length = n := by rw [bts_len, List.length_take]; omega
  refine ⟨trivial, by rw [hb]; simpa using hl, by simp, bts_one _, ?_⟩
  exact hK _ (Up.of_put h)

theorem By.setpage {w w' : World} {g : Gh} {n p q : Nat} {c d : Nat → UInt8} (h : By w g n c) (hq : g.ps[p]? = some q) (ho : g.ow[p]? = some true) (hu : Up w q (pgc d p) w')
    (hd : ∀ i, i ≠ p → ∀ j, j < 64 → d (64 * i + j) = c (64 * i + j)) : By w' g n d := by
  obtain ⟨⟨lv, ov, h1, h2, h3⟩, h4, h5, h6, h7, h8, h9⟩ := h
  have hm : q ∈ g.ps := List.mem_of_getElem? hq
  refine ⟨⟨lv, ov, h1.up hu (fun e => h8 (e ▸ hm)), h2.fr hu.fr (fun k hk e => (h6 k hk).2.2 (e ▸ hm)), h3.fr hu.fr (fun k hk e => (h7 k hk).2 (e ▸ hm))⟩, ?_, h5, h6, h7, h8, h9⟩
  intro i r hr
  by_cases e : i = p
  · subst e
    rw [hq] at hr
    cases hr
    exact hu.cs
  · have := (h4 i r hr).up hu (fun er => e (h9 p i q ho hq (er ▸ hr)).symm)
    rwa [pgc_congr (hd i e)]

theorem wrc_step {c : Nat → UInt8} {s : List UInt8} {a0 a m : Nat} (h0 : a0 ≤ a) (hm : 0 < m) (hs : a + m = a0 + s.length) :
    spl (pgc (wrc c a0 (s.take (a - a0))) (a / 64)) (a % 64) (bts ((s.drop (a - a0)).take (dl a m))) = pgc (wrc c a0 (s.take (a + dl a m - a0))) (a / 64) := by
  obtain ⟨q1, q2, q3, q4, q5⟩ := piece_facts (a := a) hm
  have hlen : (bts ((s.drop (a - a0)).take (dl a m))).length = dl a m := by rw [bts_len]; simp; omega
  apply List.ext_getElem?
  intro i
  unfold spl
  by_cases hi : i < 64
  · have hr : (pgc (wrc c a0 (s.take (a + dl a m - a0))) (a / 64))[i]? = some (.int .u8 (wrc c a0 (s.take (a + dl a m - a0)) (64 * (a / 64) + i)).toNat) := by simp [pgc, hi]
    have hr0 : (pgc (wrc c a0 (s.take (a - a0))) (a / 64))[i]? = some (.int .u8 (wrc c a0 (s.take (a - a0)) (64 * (a / 64) + i)).toNat) := by simp [pgc, hi]
    rw [hr]
    by_cases h1 : i < a % 64
    · rw [List.append_assoc, List.getElem?_append_left (by simp [pgc_len]; omega), List.getElem?_take_of_lt h1, hr0]
      congr 3
      unfold wrc
      split
      · rw [List.getElem?_take_of_lt (by omega), List.getElem?_take_of_lt (by omega)]
      · rfl
    · by_cases h2 : i < a % 64 + dl a m
      · rw [List.getElem?_append_left (by simp [pgc_len, hlen]; omega), List.getElem?_append_right (by simp [pgc_len]; omega)]
        have hl1 : (List.take (a % 64) (pgc (wrc c a0 (s.take (a - a0))) (a / 64))).length = a % 64 := by simp [pgc_len]; omega
        rw [hl1]
        have hj : i - a % 64 < dl a m := by omega
        have e1 : a0 ≤ 64 * (a / 64) + i := by omega
        have e2 : 64 * (a / 64) + i - a0 < s.length := by omega
        have e3 : a - a0 + (i - a % 64) = 64 * (a / 64) + i - a0 := by omega
        simp only [bts, List.getElem?_map, wrc, if_pos e1]
        rw [List.getElem?_take_of_lt hj, List.getElem?_drop, List.getElem?_take_of_lt (by omega), e3, List.getElem?_eq_getElem e2]
        rfl
      · rw [List.getElem?_append_right (by simp [pgc_len, hlen]; omega)]
        have hl1 : (List.take (a % 64) (pgc (wrc c a0 (s.take (a - a0))) (a / 64)) ++ bts ((s.drop (a - a0)).take (dl a m))).length = a % 64 + dl a m := by simp [pgc_len, hlen]; omega
        rw [hl1, List.getElem?_drop, hlen]
        have e : a % 64 + dl a m + (i - (a % 64 + dl a m)) = i := by omega
        rw [e, hr0]
        congr 3
        unfold wrc
        split
        · rw [List.getElem?_eq_none (by simp; omega), List.getElem?_eq_none (by simp; omega)]
        · rfl
  · rw [List.getElem?_eq_none (by simp [pgc_len, hlen]; omega), List.getElem?_eq_none (by simp [pgc_len]; omega)]

theorem wrc_other {c : Nat → UInt8} {s : List UInt8} {a0 a m : Nat} (h0 : a0 ≤ a) (hm : 0 < m) (hs : a + m = a0 + s.length) :
    ∀ i, i ≠ a / 64 → ∀ j, j < 64 → wrc c a0 (s.take (a + dl a m - a0)) (64 * i + j) = wrc c a0 (s.take (a - a0)) (64 * i + j) := by
  obtain ⟨q1, q2, q3, q4, q5⟩ := piece_facts (a := a) hm
  intro i hi j hj
  unfold wrc
  split
  · by_cases h : 64 * i + j < a
    · rw [List.getElem?_take_of_lt (by omega), List.getElem?_take_of_lt (by omega)]
    · have : a + dl a m ≤ 64 * i + j := by omega
      rw [List.getElem?_eq_none (by simp; omega), List.getElem?_eq_none (by simp; omega)]
  · rfl

theorem zc9 : zc Tryz.prog 9 = some #[.string ⟨#[]⟩] := by kernel_rfl

theorem wr_round {w w4 W W2 : World} {g g1 : Gh} {n a0 a m kx v3 v7 : Nat} {c : Nat → UInt8} {s : List UInt8} {ρ : Env} {Q : Exit → World → Prop} {rr : Option Nat}
    (hm : 0 < m) (hs : a + m = a0 + s.length) (h0 : a0 ≤ a) (hn : n ≤ 4096) (han : a + m ≤ n) (hps : n ≤ 64 * g1.ps.length)
    (hby : By W g1 n (wrc c a0 (s.take (a - a0)))) (e3 : ρ 3 = pt v3 0) (e7 : ρ 7 = pt v7 0) (e9 : ρ 9 = it (a / 64 : Nat)) (e10 : ρ 10 = pt kx 0)
    (hv3 : Cs W v3 [pt g1.b 0]) (hv7 : Cs W v7 [str (s.drop (a - a0))]) (hkx : Cs W kx [it (a % 64 : Nat), it (min (a % 64 + m) 64 : Nat)])
    (n3 : ¬ g1.sees v3) (n7 : ¬ g1.sees v7) (nx : ¬ g1.sees kx) (n37 : v3 ≠ v7) (n7x : kx ≠ v7)
    (hQ : ∀ W' g', By W' g' n (wrc c a0 (s.take (a + dl a m - a0))) → g'.b = g1.b → g'.ps.length = g1.ps.length → (∀ k, g'.sees k → g1.sees k ∨ W.heap.size ≤ k) → (∀ k, g'.foot k → g1.foot k ∨ W.heap.size ≤ k) →
      Fr (fun k => g1.foot k ∨ k = v7) W W' → Cs W' v7 [str (s.drop (a + dl a m - a0))] → Q .normal W') :
    F133R1b rr ρ W Q := by
  obtain ⟨q1, q2, q3, q4, q5⟩ := piece_facts (a := a) hm
  have hp : a / 64 < g1.ps.length := by omega
  unfold F133R1b
  rw [e3, e7, e9, e10]
  have hsl : (s.drop (a - a0)).length = m := by simp; omega
  refine ⟨fun V => Cs V v3 [pt g1.b 0] ∧ Cs V v7 [str (s.drop (a - a0))] ∧ Cs V kx [it (a % 64 : Nat), it (min (a % 64 + m) 64 : Nat)], ⟨hv3, hv7, hkx⟩, ?_⟩
  refine rLdS _ (fun V hV => ⟨_, hV.2.1, rfl⟩) <| rLdS _ (fun V hV => ⟨_, hV.1, rfl⟩) ?_
  refine rIAa (i := 0) (by decide) <| rLdS (it (a % 64 : Nat)) (fun V hV => ⟨_, hV.2.2, rfl⟩) ?_
  refine rIAa (i := 1) (by decide) <| rLdS (it (min (a % 64 + m) 64 : Nat)) (fun V hV => ⟨_, hV.2.2, rfl⟩) ?_
  refine rLdS _ (fun V hV => ⟨_, hV.2.1, rfl⟩) ?_
  refine ⟨?_, trivial⟩
  refine (own_spec (w := W.drew) (hby.fr (Fr.refl (fun _ => False) _).drew (fun _ _ => id)) hp ?_).call
  intro W5 q g' hby5 evo hlen hq how
  have ff : Fr g1.foot W W5 := (Fr.refl _ W).drew.trans evo.fr fun _ _ => id
  have nf : ∀ k, ¬ g1.sees k → ¬ g1.foot k := fun k h h2 => h (.inl h2)
  have hq7 : q ≠ v7 := fun e => by
    have := hv7.lt
    rcases evo.sees q (List.mem_of_getElem? hq) with h | h
    · exact n7 (e ▸ h)
    · have : W.heap.size ≤ q := h
      omega
  have hqs : ∀ k, ¬ g1.sees k → k < W.heap.size → k ≠ q := fun k h1 h2 e => by
    rcases evo.sees q (List.mem_of_getElem? hq) with h | h
    · exact h1 (e ▸ h)
    · have : W.heap.size ≤ q := h
      omega
  refine ⟨⟨hv3.fr ff (nf _ n3), hv7.fr ff (nf _ n7), hkx.fr ff (nf _ nx)⟩, ?_⟩
  refine rNil <| rSlA (by omega) (by omega) (by omega) ?_
  refine ⟨?_, trivial⟩
  refine rCopyStr (hby5.pgs _ _ hq) (by rw [pgc_len]; omega) (by rw [hsl]; unfold dl at q3; omega) ?_
  intro W6 u6
  have e6 := wrc_step (c := c) h0 hm hs
  have edl : min (a % 64 + m) 64 - a % 64 = dl a m := rfl
  rw [edl, e6] at u6
  have hby6 := hby5.setpage hq how u6 (wrc_other h0 hm hs)
  have hv7' := (hv7.fr ff (nf _ n7)).up u6 (Ne.symm hq7)
  refine ⟨⟨(hv3.fr ff (nf _ n3)).up u6 (hqs _ n3 hv3.lt), hv7', (hkx.fr ff (nf _ nx)).up u6 (hqs _ nx hkx.lt)⟩, ?_⟩
  rw [edl]
  refine rSlStrLo (by rw [hsl]; exact q3) ?_
  refine ⟨?_, trivial⟩
  refine rSt hv7' (by simp) rfl (by simp) ?_
  intro W7 u7
  have hs7 : s.drop (a + dl a m - a0) = (s.drop (a - a0)).drop (dl a m) := by
    rw [List.drop_drop]; congr 1; omega
  have hsees : ∀ k, g'.sees k → g1.sees k ∨ W.heap.size ≤ k := by
    rintro k (hk | hk)
    · exact (evo.foot k hk).imp .inl id
    · exact evo.sees k hk
  have hn7 : ¬ g'.sees v7 := fun h => (hsees v7 h).elim n7 (fun h => by have := hv7.lt; omega)
  refine hQ W7 g' (hby6.fr u7.fr (fun k hk e => hn7 (e ▸ hk))) evo.b hlen hsees evo.foot ?_ (by rw [hs7]; exact u7.cs)
  have f6 : Fr (fun k => g1.foot k ∨ k = v7) W W6 := (ff.mono fun _ _ => .inl).trans u6.fr (fun x hx e => by
    subst e
    rcases evo.foot x (.inr (.inr (.inr ⟨_, how, hq⟩))) with h | h
    · exact .inl h
    · have : W.heap.size ≤ x := h
      omega)
  exact f6.trans u7.fr fun x _ e => .inr e

end Go.Proofs.YtdkklhnleppfcaaGreat

/-
  Pages, part 7: Write, whole. Own work.
-/
set_option linter.unusedVariables false
set_option linter.unusedSimpArgs false
set_option maxRecDepth 100000
namespace Go.Proofs.YtdkklhnleppfcaaGreat
open Go Go.V Go.RowKit

def Parts (w : World) (parts : Value) (s : List UInt8) : Prop :=
  ∀ (K : Value → World → Prop) w1, Fr (fun _ => False) w w1 → (∀ w', Fr (fun _ => False) w1 w' → K (str s) w') → Ret Tryz.prog 209 #[parts, str []] w1 K

theorem wr_spec {w : World} {g : Gh} {n : Nat} {c : Nat → UInt8} {a' : Int} {parts : Value} {s : List UInt8} {K : Value → World → Prop} (h : By w g n c) (hn : n ≤ 4096) (hps : n ≤ 64 * g.ps.length)
    (ha1 : -9223372036854775808 ≤ a') (ha2 : a' < 9223372036854775808) (hp : Parts w parts s)
    (hK : ∀ w' g', Evo w g w' g' → g'.ps.length = g.ps.length → By w' g' n (if fitsE n a' s.length = 0 then wrc c a'.toNat s else c) → K (it (fitsE n a' s.length)) w') :
    Ret Tryz.prog 133 #[pt g.b 0, it a', parts] w K := by
  obtain ⟨lv, ov, hd, hrow, hrow2⟩ := h.hd
  have hbw := h.lt
  apply F133_ok
  unfold F133
  refine rBox rfl ?_
  intro w1 c1 fr1 s1
  refine (hp _ w1 fr1 ?_).call
  intro w2 fr2
  refine rAllocT zc9 ?_
  intro w3 k3 fr3 s3
  refine rSt ⟨9, k3⟩ (by simp) rfl (by simp) ?_
  intro w4 u4
  have hz2 := fr2.size
  have fr4 : Fr (fun _ => False) w2 w4 := fr3.trans u4.fr (fun x hx e => by omega)
  have fr04 : Fr (fun _ => False) w w4 := (fr1.more fr2).more fr4
  have hs4 : w4.heap.size = w2.heap.size + 1 := by rw [u4.size, s3]
  have hc1 : Cs w4 w.heap.size [pt g.b 0] := (c1.fr fr2 id).fr fr4 id
  refine rLd hc1 rfl <| rLd u4.cs rfl <| rLenB ?_
  refine (fits_spec (hd.fr fr04 id) hn ha1 ha2 ?_).call
  refine rNe <| rIf (fun he => ?_) (fun he => ?_)
  · have he : fitsE n a' s.length ≠ 0 := by simpa using he
    refine hK w4 g ⟨fr04.mono (fun _ _ => False.elim), rfl, fun _ => .inl, fun _ h => .inl (.inr h)⟩ rfl ?_
    rw [if_neg he]
    exact h.fr fr04 (fun _ _ => id)
  · have he : fitsE n a' s.length = 0 := by simpa using he
    rw [he] at hK
    have hf : 0 ≤ a' ∧ a' ≤ n ∧ (s.length : Int) ≤ n - a' := by
      unfold fitsE at he
      split at he
      · cases he
      · omega
    obtain ⟨a0, rfl⟩ := Int.eq_ofNat_of_zero_le hf.1
    have hfit : a0 + s.length ≤ n := by omega
    refine rLd u4.cs rfl <| rLenB ?_
    apply Ret.call
    apply F150_ok
    unfold F150
    refine rBox rfl ?_
    intro w5 c5 fr5 s5
    refine rBox rfl ?_
    intro w6 c6 fr6 s6
    have fr46 := fr5.more fr6
    have fr06 := fr04.more fr46
    have hz1 := fr1.size
    have hlt46 : w4.heap.size ≤ w6.heap.size := fr46.size
    refine range_pieces (a0 := a0) (n0 := s.length) (fun a m W => a0 ≤ a ∧ a + m = a0 + s.length ∧ ∃ g1, Evo w g W g1 ∧ By W g1 n (wrc c a0 (s.take (a - a0))) ∧ g1.ps.length = g.ps.length ∧
        (∀ k, g1.sees k → g.sees k ∨ w6.heap.size + 2 ≤ k) ∧ Cs W w.heap.size [pt g.b 0] ∧ Cs W w2.heap.size [str (s.drop (a - a0))])
      rfl c6 (c5.fr fr6 id) (by omega) (by omega) ⟨Nat.le_refl _, rfl, g, ⟨fr06.mono (fun _ _ => False.elim), rfl, fun _ => .inl, fun _ h => .inl (.inr h)⟩, ?_, rfl, fun _ => .inl, hc1.fr fr46 id, ?_⟩ ?_ ?_ ?_
    · have := h.fr fr06 (fun _ _ => id)
      rw [Nat.sub_self, List.take_zero, wrc_nil]
      exact this
    · rw [Nat.sub_self, List.drop_zero]
      exact u4.cs.fr fr46 id
    · rintro a m W W' ⟨h1, h2, g1, evo, hby, hlen, hsee, hv3, hv7⟩ hfr
      have nin : ∀ x, x < w.heap.size + 1 ∨ x = w2.heap.size → ¬ (x = w5.heap.size ∨ x = w4.heap.size ∨ (w6.heap.size ≤ x ∧ x < w6.heap.size + 2)) := fun x hx hx2 => by omega
      refine ⟨h1, h2, g1, evo.then hfr (fun x hx e => absurd e (nin x (.inl (by omega)))), hby.fr hfr (fun k hk e => ?_), hlen, hsee, hv3.fr hfr (nin _ (.inl (by omega))), hv7.fr hfr (nin _ (.inr rfl))⟩
      rcases hsee k hk with h | h
      · exact nin k (.inl (by have := hbw k h; omega)) e
      · omega
    · rintro rec ρb a m W hsel hs hm hsz ⟨h1, h2, g1, evo, hby, hlen, hsee, hv3, hv7⟩ hL Q hQ
      simp only [List.map_cons, List.map_nil, List.cons.injEq, and_true] at hsel
      obtain ⟨e3, e7⟩ := hsel
      unfold F133R1a
      refine rAllocT zc65 ?_
      intro W1 k1 f1 z1
      refine rStN (n := 2) ⟨288, k1⟩ rfl (by simp) (by simp [Value.oneCell']) ?_
      intro W2 u2
      have fW2 : Fr (fun _ => False) W W2 := f1.trans u2.fr (fun x hx e => by omega)
      have hs2 : W2.heap.size = W.heap.size + 1 := by rw [u2.size, z1]
      refine ⟨rfl, rfl, fW2.get hL id, ?_⟩
      have f3 : Fr (fun k => k = w6.heap.size + 1) W2 (W2.putObj (w6.heap.size + 1) (.loop { rec with state := .busy })) := (Fr.refl _ _).put _ fun _ => rfl
      have fp : Fr (fun _ => False) (W.putObj (w6.heap.size + 1) (.loop { rec with state := .busy })) (W2.putObj (w6.heap.size + 1) (.loop { rec with state := .busy })) := fW2.putBoth (lt_of_blk hL) _
      generalize hW3 : W2.putObj (w6.heap.size + 1) (.loop { rec with state := .busy }) = W3 at f3 fp
      have hs3 : W3.heap.size = W.heap.size + 1 := by rw [← hW3]; simp [hs2]
      have fW3 : Fr (fun k => k = w6.heap.size + 1) W W3 := (fW2.mono (fun _ _ => False.elim)).trans f3 (fun _ _ => id)
      have nl : ∀ k, g1.sees k → k < W.heap.size ∧ k ≠ w6.heap.size + 1 ∧ k ≠ w.heap.size ∧ k ≠ w2.heap.size ∧ k ≠ w5.heap.size ∧ k ≠ w4.heap.size ∧ k ≠ w6.heap.size := fun k hk => by
        have hlt := hby.lt k hk
        rcases hsee k hk with h | h
        · have := hbw k h; omega
        · omega
      have hb1 : pt g.b 0 = pt g1.b 0 := by rw [evo.b]
      refine wr_round (w := w) (w4 := w6) (W2 := W2) (g := g) (g1 := g1) (kx := W.heap.size) (v3 := w.heap.size) (v7 := w2.heap.size) hm h2 h1 hn (by omega) (by omega) (hby.fr fW3 (fun k hk e => (nl k hk).2.1 e))
        e3 e7 rfl rfl ?_ ?_ ?_ ?_ ?_ ?_ (by omega) (by omega) ?_
      · rw [← hb1]; exact hv3.fr fW3 (by omega)
      · exact hv7.fr fW3 (by omega)
      · exact u2.cs.fr f3 (by omega)
      · exact fun hk => (nl _ hk).2.2.1 rfl
      · exact fun hk => (nl _ hk).2.2.2.1 rfl
      · exact fun hk => by have := (nl _ hk).1; omega
      · intro W' g' hby' hb' hlen' hsees' hfoot' fr' hv7'
        have nf : ∀ x, (x < w.heap.size + 1 ∧ ¬ g1.foot x) ∨ x = w5.heap.size ∨ x = w4.heap.size ∨ x = w6.heap.size ∨ x = w6.heap.size + 1 → ¬ (g1.foot x ∨ x = w2.heap.size) := fun x hx hx2 => by
          rcases hx2 with h | h
          · have := nl x (.inl h)
            rcases hx with hx | hx | hx | hx | hx
            · exact hx.2 h
            all_goals omega
          · omega
        have frW : Fr (fun k => k ≠ w5.heap.size ∧ k ≠ w4.heap.size ∧ k ≠ w6.heap.size ∧ k ≠ w6.heap.size + 1) (W.putObj (w6.heap.size + 1) (.loop { rec with state := .busy })) W' := by
          refine (fp.mono (fun _ _ => False.elim)).trans fr' ?_
          intro x hx e
          refine ⟨fun h => nf x (by simp [h]) e, fun h => nf x (by simp [h]) e, fun h => nf x (by simp [h]) e, fun h => nf x (by simp [h]) e⟩
        refine hQ W' frW ⟨by omega, by unfold dl; omega, g', ?_, hby', by omega, ?_, ?_, hv7'⟩
        · have evo1 : Evo w g W3 g1 := evo.then fW3 (fun x hx e => by omega)
          refine ⟨evo1.fr.trans fr' (fun x hx e => ?_), hb'.trans evo.b, fun k hk => ?_, fun k hk => ?_⟩
          · rcases e with e | e
            · rcases evo.foot x e with h | h
              · exact h
              · omega
            · omega
          · rcases hfoot' k hk with h | h
            · exact evo.foot k h
            · exact .inr (by omega)
          · rcases hsees' k (.inr hk) with h | h
            · rcases hsee k h with h | h
              · exact .inl h
              · exact .inr (by omega)
            · exact .inr (by omega)
        · intro k hk
          rcases hsees' k hk with h | h
          · exact hsee k h
          · exact .inr (by omega)
        · refine (hv3.fr fW3 (by omega)).fr fr' (nf _ (.inl ⟨by omega, fun h => (nl _ (.inl h)).2.2.1 rfl⟩))
    · rintro W ⟨h1, h2, g1, evo, hby, hlen, hsee, hv3, hv7⟩ hD
      refine ⟨hD, ?_⟩
      have frD : Fr (fun k => k = w6.heap.size) W (W.putObj w6.heap.size (.deferred none)) := (Fr.refl _ _).put _ fun _ => rfl
      refine hK _ g1 (evo.then frD (fun x hx e => by omega)) hlen ?_
      rw [if_pos rfl]
      have e : a0 + s.length - a0 = s.length := by omega
      rw [e, List.take_length] at hby
      exact hby.fr frD (fun k hk e => by
        rcases hsee k hk with h | h
        · have := hbw k h; omega
        · omega)

end Go.Proofs.YtdkklhnleppfcaaGreat

/-
  Pages, part 8: Resize: its loop. Own work.
-/
set_option linter.unusedVariables false
set_option linter.unusedSimpArgs false
set_option maxRecDepth 100000
namespace Go.Proofs.YtdkklhnleppfcaaGreat
open Go Go.V Go.RowKit

end Go.Proofs.YtdkklhnleppfcaaGreat

/-
  Pages, part 9: Resize: a round of its loop, and the loop's end. Own work.
-/
set_option linter.unusedVariables false
set_option linter.unusedSimpArgs false
set_option maxRecDepth 100000
namespace Go.Proofs.YtdkklhnleppfcaaGreat
open Go Go.V Go.RowKit

end Go.Proofs.YtdkklhnleppfcaaGreat

/-
  Pages, part 10: Resize: its loop's end, its loop. Own work.
-/
set_option linter.unusedVariables false
set_option linter.unusedSimpArgs false
set_option maxRecDepth 100000
namespace Go.Proofs.YtdkklhnleppfcaaGreat
open Go Go.V Go.RowKit

end Go.Proofs.YtdkklhnleppfcaaGreat

/-
  Pages, part 11: Resize: clearing. Own work.
-/
set_option linter.unusedVariables false
set_option linter.unusedSimpArgs false
set_option maxRecDepth 100000
namespace Go.Proofs.YtdkklhnleppfcaaGreat
open Go Go.V Go.RowKit

theorem repZ_one (v : Value) (n : Nat) : repZ [v] n = List.replicate n v := by
  unfold repZ
  induction n with
  | zero => rfl
  | succ n ih => simp [List.replicate_succ, ih]

end Go.Proofs.YtdkklhnleppfcaaGreat
