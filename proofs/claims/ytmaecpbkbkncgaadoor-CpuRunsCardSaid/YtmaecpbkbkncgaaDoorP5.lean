/-
  Pages, part 5: Read. Own work.
-/
import Derived.Test.YtmaecpbkbkncgaaDoorP4
set_option linter.unusedVariables false
set_option linter.unusedSimpArgs false
set_option maxRecDepth 100000
namespace Go.Proofs.YtmaecpbkbkncgaaDoor
open Go Go.V Go.RowKit

/-- n bytes from a on -/
def seg (c : Nat → UInt8) (a n : Nat) : List UInt8 := (List.range n).map fun i => c (a + i)

theorem seg_len (c : Nat → UInt8) (a n : Nat) : (seg c a n).length = n := by simp [seg]
theorem seg_get (c : Nat → UInt8) (a n i : Nat) : (seg c a n)[i]? = if i < n then some (c (a + i)) else none := by
  simp [seg, List.getElem?_map, List.getElem?_range]
  split <;> simp_all
theorem seg_app (c : Nat → UInt8) (a n m : Nat) : seg c a (n + m) = seg c a n ++ seg c (a + n) m := by
  simp [seg, List.range_add, Nat.add_assoc]

theorem zc70 : zc Tryd.prog 81 = some #[.pointer none, .slice none 0 0] := by kernel_rfl
theorem zc65 : zc Tryd.prog 68 = some #[.int .i64 0, .int .i64 0] := by kernel_rfl

/-- how a page's number and places are a place's -/
theorem piece_facts {a m : Nat} (hm : 0 < m) : a % 64 < min (a % 64 + m) 64 ∧ 0 < dl a m ∧ dl a m ≤ m ∧ 64 * (a / 64) + a % 64 = a ∧ a % 64 + dl a m = min (a % 64 + m) 64 := by
  unfold dl
  omega

theorem pgc_seg {c : Nat → UInt8} {a m : Nat} (hm : 0 < m) : ((pgc c (a / 64)).drop (a % 64)).take (min (a % 64 + m) 64 - a % 64) = bts (seg c a (dl a m)) := by
  obtain ⟨h1, h2, h3, h4, h5⟩ := piece_facts (a := a) hm
  apply List.ext_getElem?
  intro i
  rw [List.getElem?_take]
  simp only [pgc, bts, List.getElem?_drop, List.getElem?_map, seg_get]
  have e : min (a % 64 + m) 64 - a % 64 = dl a m := rfl
  rw [e]
  by_cases hi : i < dl a m
  · rw [if_pos hi, if_pos hi]
    have : a % 64 + i < 64 := by omega
    rw [List.getElem?_range this]
    have e2 : 64 * (a / 64) + (a % 64 + i) = a + i := by omega
    simp [e2]
  · rw [if_neg hi, if_neg hi]; rfl

theorem read_spec {w : World} {g : Gh} {n : Nat} {c : Nat → UInt8} {a' k' : Int} {K : Value → World → Prop} (h : By w g n c) (hn : n ≤ 4096) (hps : n ≤ 64 * g.ps.length)
    (ha1 : -9223372036854775808 ≤ a') (ha2 : a' < 9223372036854775808)
    (hK : ∀ w', Fr (fun _ => False) w w' → K (.tuple #[str (if fitsE n a' k' = 0 then seg c a'.toNat k'.toNat else []), it (fitsE n a' k')]) w') :
    Ret Tryd.prog 15 #[pt g.b 0, it a', it k'] w K := by
  obtain ⟨lv, ov, hd, hrow, hrow2⟩ := h.hd
  have hbw := h.lt
  apply F15_ok
  unfold F15
  refine rBox rfl ?_
  intro w1 c1 fr1 s1
  have hd1 := hd.fr fr1 id
  refine rLd c1 rfl ?_
  refine (fits_spec hd1 hn ha1 ha2 ?_).call
  refine rNe <| rIf (fun he => ?_) (fun he => ?_)
  · have he : fitsE n a' k' ≠ 0 := by simpa using he
    have := hK w1 fr1
    rw [if_neg he] at this
    exact this
  · have he : fitsE n a' k' = 0 := by simpa using he
    rw [he] at hK
    have hf : 0 ≤ a' ∧ 0 ≤ k' ∧ a' ≤ n ∧ k' ≤ n - a' := by
      unfold fitsE at he
      split at he
      · cases he
      · omega
    obtain ⟨a0, rfl⟩ := Int.eq_ofNat_of_zero_le hf.1
    obtain ⟨n0, rfl⟩ := Int.eq_ofNat_of_zero_le hf.2.1
    have hfit : a0 + n0 ≤ n := by omega
    refine rAllocT zc70 ?_
    intro w2 hbld fr2 s2
    apply Ret.call
    apply F25_ok
    unfold F25
    refine rBox rfl ?_
    intro w3 c3 fr3 s3
    refine rBox rfl ?_
    intro w4 c4 fr4 s4
    have fr13 := (fr1.more fr2).more fr3
    have fr14 := fr13.more fr4
    have hbb : w4.heap[w1.heap.size]? = some (.cells #[.pointer none, .slice none 0 0] 81 (0, 0)) := fr4.get (fr3.get hbld id) id
    have hc1 : Cs w4 w.heap.size [pt g.b 0] := ((c1.fr fr2 id).fr fr3 id).fr fr4 id
    refine range_pieces (a0 := a0) (n0 := n0) (fun a m W => a0 ≤ a ∧ Fr (fun _ => False) w W ∧ Cs W w.heap.size [pt g.b 0] ∧ ∃ lb, Bld W w1.heap.size (seg c a0 (a - a0)) lb ∧ ∀ k, lb = some k → w4.heap.size + 2 ≤ k)
      rfl c4 (c3.fr fr4 id) (by omega) (by omega) ⟨Nat.le_refl _, fr14, hc1, none, ⟨by simp, _, _, [], .inl rfl, hbb, ⟨rfl, by simp [seg, bts], rfl⟩, by simp⟩, by simp⟩ ?_ ?_ ?_
    · rintro a m W W' ⟨h1, h2, h3, lb, h4, h5⟩ hfr
      refine ⟨h1, h2.trans hfr (fun x hx hx2 => by omega), h3.fr hfr (by omega), lb, h4.fr hfr (by omega) (fun k hk => ?_), h5⟩
      have := h5 k hk
      omega
    · rintro rec ρb a m W hsel hs hm hsz ⟨h1, h2, h3, lb, h4, h5⟩ hL Q hQ
      simp only [List.map_cons, List.map_nil, List.cons.injEq, and_true] at hsel
      obtain ⟨e3, e9⟩ := hsel
      obtain ⟨q1, q2, q3, q4, q5⟩ := piece_facts (a := a) hm
      unfold F15R1a
      refine rAllocT zc65 ?_
      intro W1 k1 f1 z1
      refine rStN (n := 2) ⟨68, k1⟩ rfl (by simp) (by simp [Value.oneCell']) ?_
      intro W2 u2
      have hW : w.heap.size + 4 ≤ W.heap.size := by omega
      have fW2 : Fr (fun _ => False) W W2 := f1.trans u2.fr (fun x hx e => by omega)
      have hs2 : W2.heap.size = W.heap.size + 1 := by rw [u2.size, z1]
      have hL2 := fW2.get hL id
      refine ⟨rfl, rfl, hL2, ?_⟩
      unfold F15R1b
      have f3 : Fr (fun k => k = w4.heap.size + 1) W2 (W2.putObj (w4.heap.size + 1) (.loop { rec with state := .busy })) := (Fr.refl _ _).put _ fun _ => rfl
      generalize hW3 : W2.putObj (w4.heap.size + 1) (.loop { rec with state := .busy }) = W3 at f3
      have hs3 : W3.heap.size = W.heap.size + 1 := by rw [← hW3]; simp [hs2]
      have fwW3 : Fr (fun _ => False) w W3 := (h2.more fW2).trans f3 (fun x hx e => by omega)
      have hcs : Cs W3 w.heap.size [pt g.b 0] := (h3.fr fW2 id).fr f3 (by omega)
      have hv11 : Cs W3 W.heap.size [it (a % 64 : Nat), it (min (a % 64 + m) 64 : Nat)] := u2.cs.fr f3 (by omega)
      have hby3 := h.fr fwW3 (fun _ _ => id)
      have hd3 := hd.fr fwW3 id
      have hr3 := hrow.fr fwW3 (fun _ _ => id)
      have hbld := (h4.fr fW2 id (fun _ _ => id)).fr f3 (by omega) (fun k hk => by have := h5 k hk; omega)
      have hp : a / 64 < g.ps.length := by omega
      have hq : g.ps[a / 64]? = some g.ps[a / 64] := List.getElem?_eq_getElem hp
      have hlr : ∃ l lr, g.lb = some l ∧ lv = sv l g.ps.length (g.ps.length + lr) ∧ ∃ rest, Cs W3 l (g.ps.map (pt · 0) ++ rest) := by
        cases hlb : g.lb with
        | none => rw [hlb] at hr3; have := hr3.2; simp at this; rw [this] at hp; simp at hp
        | some l => rw [hlb] at hr3; obtain ⟨rest, e, hl⟩ := hr3; exact ⟨l, rest.length, rfl, by simpa using e, rest, hl⟩
      obtain ⟨l, lr, hlb, rfl, rest, hl3⟩ := hlr
      refine ⟨fun V => Cs V w.heap.size [pt g.b 0] ∧ Cs V g.b [it n, sv l g.ps.length (g.ps.length + lr), ov] ∧ Cs V l (g.ps.map (pt · 0) ++ rest) ∧ Cs V W.heap.size [it (a % 64 : Nat), it (min (a % 64 + m) 64 : Nat)], ⟨hcs, hd3, hl3, hv11⟩, ?_⟩
      show vLdS _ _ (ρb 3) _
      rw [e3]
      refine rLdS _ (fun V hV => ⟨_, hV.1, rfl⟩) <| rNil <| rFA0 <| rLdS _ (fun V hV => ⟨_, hV.2.1, rfl⟩) ?_
      refine rIA hp ?_
      rw [Nat.mul_one]
      refine rLdS (pt g.ps[a / 64] 0) (fun V hV => ⟨_, hV.2.2.1, by simp [List.getElem?_append, hp]⟩) <| rNil ?_
      refine rIAa (i := 0) (by decide) <| rLdS (it (a % 64 : Nat)) (fun V hV => ⟨_, hV.2.2.2, rfl⟩) ?_
      refine rIAa (i := 1) (by decide) <| rLdS (it (min (a % 64 + m) 64 : Nat)) (fun V hV => ⟨_, hV.2.2.2, rfl⟩) ?_
      refine rSlA (by omega) (by omega) (by omega) ?_
      refine ⟨?_, trivial⟩
      show CallK _ _ #[ρb 9, _] _ _
      rw [e9]
      have hpg := hby3.pgs _ _ hq
      have hlt := fun k hk => hbw k hk
      have hqlt : g.ps[a / 64] < w.heap.size := hlt _ (.inr (List.getElem_mem hp))
      have hlbW : ∀ k, lb = some k → k < W.heap.size := h4.lt
      refine (write_spec (w := W3.drew) (hbld.fr (Fr.refl _ _).drew id (fun _ _ => id)) hpg (by rw [pgc_len]; omega) (by omega) (pgc_seg hm) (by omega) (by rw [seg_len]; omega) ?_).call
      intro v W4 lb4 hbld4 f4 hlb4
      have f4 : Fr (fun k => k = w1.heap.size ∨ lb = some k) W3 W4 := (Fr.refl _ W3).drew.trans f4 fun _ _ => id
      have hnl : ∀ k, lb = some k → w4.heap.size + 2 ≤ k := h5
      have fp : Fr (fun _ => False) (W.putObj (w4.heap.size + 1) (.loop { rec with state := .busy })) W3 := hW3 ▸ fW2.putBoth (lt_of_blk hL) _
      have notin : ∀ x, x < w4.heap.size + 2 → x ≠ w1.heap.size → ¬ (x = w1.heap.size ∨ lb = some x) := fun x h1 h2 h3 => h3.elim h2 fun e => by have := hnl x e; omega
      have hgb := hlt g.b (.inl (.inl rfl))
      have hll := hlt l (.inl (.inr (.inl hlb)))
      refine ⟨⟨hcs.fr f4 (notin _ (by omega) (by omega)), hd3.fr f4 (notin _ (by omega) (by omega)), hl3.fr f4 (notin _ (by omega) (by omega)), hv11.fr f4 ?_⟩, hQ W4 ?_ ⟨by omega, ?_, hcs.fr f4 (notin _ (by omega) (by omega)), lb4, ?_, ?_⟩⟩
      · rintro (e | e)
        · omega
        · have := hlbW _ e; omega
      · refine fp.mono (G := fun k => k ≠ w3.heap.size ∧ k ≠ w2.heap.size ∧ k ≠ w4.heap.size ∧ k ≠ w4.heap.size + 1) (fun _ _ => False.elim) |>.trans f4 ?_
        rintro x _ (e | e)
        · omega
        · have := hnl x e; omega
      · exact fwW3.trans f4 fun x hx e => notin x (by omega) (by omega) e
      · have e : a + dl a m - a0 = (a - a0) + dl a m := by omega
        have e2 : a0 + (a - a0) = a := by omega
        rw [e, seg_app, e2]
        exact hbld4
      · intro k hk
        rcases hlb4 k hk with e | e
        · exact hnl k e
        · have : W3.heap.size ≤ k := e
          omega
    · rintro W ⟨h1, h2, h3, lb, h4, h5⟩ hD
      have e : a0 + n0 - a0 = n0 := by omega
      rw [e] at h4
      refine (string_spec h4 (by rw [seg_len]; omega) ?_).call
      intro w' fr
      have hD' : w'.heap[w4.heap.size]? = some (.deferred (some [])) := fr.get hD (fun e => by have := h5 _ e; omega)
      refine ⟨hD', ?_⟩
      have := hK (w'.putObj w4.heap.size (.deferred none)) ((h2.trans fr (fun x hx hx2 => by have := h5 _ hx2; omega)).put _ (fun hx => by omega))
      rw [if_pos rfl] at this
      exact this

end Go.Proofs.YtmaecpbkbkncgaaDoor
