/-
  Isa, part 17: the document's Build, whole; List. Own work.
-/
import Derived.Test.YtnmmpgeojimgoaaDoorI16
set_option linter.unusedVariables false
set_option linter.unusedSimpArgs false
set_option maxRecDepth 100000
namespace Go.Proofs.YtnmmpgeojimgoaaDoor
open Go Go.V Go.RowKit

theorem Cd.cs_one (x : Cd) : ∀ y ∈ x.cs, y.oneCell' = true := by
  intro y hy
  simp only [Cd.cs, List.mem_cons, List.not_mem_nil, or_false] at hy
  rcases hy with rfl | rfl | rfl | rfl | rfl <;> rfl

def mu5 (n : Nat) (vs : List Value) : Nat := match vs with
  | [_, _, _, _, .int _ i] => n - i.toNat
  | _ => 0
def mu8 (n : Nat) (vs : List Value) : Nat := match vs with
  | [_, _, _, _, _, _, _, .int _ i] => n - i.toNat
  | _ => 0
def mu9 (n : Nat) (vs : List Value) : Nat := match vs with
  | [_, _, _, _, _, _, _, _, .int _ i] => n - i.toNat
  | _ => 0

theorem firstBad_snoc (pl : List (List UInt8 × Nat)) (x : Ln) : ∀ a : List Ln, firstBad pl (a ++ [x]) = match firstBad pl a with | some n => some n | none => if x.name ≠ [] ∧ find x.name pl = none then some x.no else none
  | [] => by simp [firstBad]
  | y :: a => by
    rw [List.cons_append]
    unfold firstBad
    by_cases h : y.name ≠ [] ∧ find y.name pl = none
    · rw [if_pos h, if_pos h]
    · rw [if_neg h, if_neg h]; exact firstBad_snoc pl x a

theorem foundK_false {pl : List (List UInt8 × Nat)} {x : Ln} : foundK pl x = false ↔ (x.name ≠ [] ∧ find x.name pl = none) := by
  unfold foundK
  simp

theorem firstBad_pos {pl : List (List UInt8 × Nat)} {n : Nat} : ∀ {a : List Ln}, (∀ x ∈ a, 0 < x.no) → firstBad pl a = some n → 0 < n
  | [], _, h => by cases h
  | x :: r, hp, h => by
    unfold firstBad at h
    split at h
    · cases h; exact hp x (by simp)
    · exact firstBad_pos (fun y hy => hp y (by simp [hy])) h

/-- gatehouseref02.Build: the numbers of the names, the bytes -/
theorem rbuild_end {w W : World} {K : Value → World → Prop} {codes names places at' nos v : Value} {bc bn bp ba bo bl : Option Nat} {out : List Ln} {pl : List (List UInt8 × Nat)} {ps : List (List UInt8)}
    (hL : Lx (fun _ => False) w W (bldL codes names places at' nos bc bn bp ba bo out pl v ps bl)) (hpl : pl.length < 1000000) (hol : out.length ≤ 1024)
    (hg : ∀ x ∈ out, rightB x.code = true ∧ (x.name ≠ [] → shNum x.code.op = 3) ∧ 0 < x.no) (hpb : ∀ p ∈ pl, p.2 ≤ out.length)
    (hK : ∀ w', Fr (fun _ => False) w w' → K (match firstBad pl out with | some n => .tuple #[str [], it n, it 4] | none => .tuple #[str (outBytes pl 0 out), it 0, it 0]) w') :
    loopF [10, 11, 12, 13, 23, 24, 127, 128, 129] [names, places, at', nos, str [], it 0, codes, it out.length, it 0] [] W (F20L4 K) := by
  refine ⟨fun vs ds W' => ds = [] ∧ ∃ (i : Nat) (s : List UInt8) (bad : Nat), i ≤ out.length ∧ vs = [names, places, at', nos, str s, it bad, codes, it out.length, it i] ∧ bad = (firstBad pl (out.take i)).getD 0 ∧ s.length ≤ 4 * i ∧ (bad = 0 → s = outBytes pl 0 (out.take i)) ∧
      Lx (fun _ => False) w W' (bldL codes names places at' nos bc bn bp ba bo out pl v ps bl),
    fun vs _ _ => mu9 out.length vs, ⟨rfl, 0, [], 0, by omega, rfl, by simp [firstBad], by simp, fun _ => by simp [outBytes], hL⟩, ?_⟩
  clear hL
  rintro ρ ds W ⟨rfl, i, s, bad, hi, hρ, hbad, hsl, hsb, hL⟩
  rw [hρ]
  simp only [List.map_cons, List.map_nil, List.cons.injEq, and_true] at hρ
  obtain ⟨e10, e11, e12, e13, e23, e24, e127, e128, e129⟩ := hρ
  unfold F20L4
  simp only [e10, e11, e12, e13, e23, e24, e127, e128, e129]
  refine rLt <| sIfD (fun hlt => ?_) (fun hge => ?_)
  · obtain ⟨x, hx⟩ : ∃ x, out[i]? = some x := ⟨_, List.getElem?_eq_getElem (by omega)⟩
    have hxm := List.mem_of_getElem? hx
    have et : out.take (i + 1) = out.take i ++ [x] := by rw [List.take_add_one, hx]; rfl
    have hlt2 : (out.take i).length = i := by rw [List.length_take]; omega
    obtain ⟨g1, g2, g3⟩ := hg x hxm
    refine (hL.rowM (i := 0) rfl).at (i := i) (x := x.code.cs) (by rw [List.getElem?_map, hx]; rfl) (fun q cs hq hc he hle _ => ?_)
    refine rLdN hc hle ?_
    rw [he]
    refine sAlloc zc23 hL (fun w5 b5 hL => ?_)
    refine sStN hL (i := 0) rfl rfl (by simp) (by intro y hy; simp at hy; rcases hy with rfl | rfl | rfl | rfl | rfl <;> rfl) (fun w6 hL => ?_)
    have hL : Lx (fun _ => False) w w6 (.blk b5 x.code.cs :: bldL codes names places at' nos bc bn bp ba bo out pl v ps bl) := hL
    refine sIdx hL (i := 2) rfl (x := str x.name) (by rw [List.getElem?_map, hx]; rfl) ?_
    refine rSEq (m := []) ?_
    refine sLen hL (i := 3) rfl ?_
    rw [List.length_map]
    refine fix_loop hx hL hpl (by omega) (fun p hp => by have := hpb p hp; omega) (by omega) (fun W2 s2 bad2 hb hs2 hz hL2 => ?_) g3 (fun y hy hf => ?_)
    · refine ⟨⟨by trivial, i + 1, s2, bad2, by omega, by simp, ?_, by omega, fun hz2 => ?_, hL2⟩, by simp [mu9]; omega⟩
      · rw [et, firstBad_snoc, hb]
        cases hfb : firstBad pl (out.take i) with
        | some n =>
          have hn0 : 0 < n := firstBad_pos (fun y hy => (hg y (List.take_subset _ _ hy)).2.2) hfb
          rw [hfb] at hbad
          rw [if_neg (fun hc => by have := hc.2; simp at hbad; omega)]
          exact hbad
        | none =>
          rw [hfb] at hbad
          have hb0 : bad = 0 := hbad
          simp only
          by_cases hf : foundK pl x = false
          · rw [if_pos ⟨hf, hb0⟩, if_pos (foundK_false.1 hf)]; rfl
          · rw [if_neg (fun hc => hf hc.1), if_neg (fun hc => hf (foundK_false.2 hc)), hb0]; rfl
      · have hb0 : bad = 0 := by
          rw [hb] at hz2
          split at hz2
          · omega
          · exact hz2
        rw [et, outBytes_app, hlt2, Nat.zero_add, ← hsb hb0, hz hz2]
        have : rightB (fixN pl i x) = true := fixN_right hol (by omega) hpb g1 g2
        unfold encB
        rw [if_pos this]
    · have := right_n (fixN_right hol (by omega) hpb g1 g2 : rightB (fixN pl i x) = true)
      rw [← fixK_eq hf, hy] at this
      exact this
  · have hi : i = out.length := by omega
    subst hi
    rw [List.take_length] at hbad hsb
    have hK := hK W hL.fr
    cases hfb : firstBad pl out with
    | some n =>
      have hn0 : 0 < n := firstBad_pos (fun y hy => (hg y hy).2.2) hfb
      rw [hfb] at hbad hK
      have hbn : bad = n := hbad
      subst hbn
      refine rGt <| sIfD (fun _ => ?_) (fun h => absurd h (by omega))
      exact hK
    | none =>
      rw [hfb] at hbad hK
      have hb0 : bad = 0 := hbad
      refine rGt <| sIfD (fun h => absurd h (by omega)) (fun _ => ?_)
      rw [hsb hb0]
      exact hK

/-- gatehouseref02.Build -/
theorem rbuild_spec {w : World} {l : List UInt8} {K : Value → World → Prop} (hl : l.length < 100000)
    (hK : ∀ w', Fr (fun _ => False) w w' → K (.tuple #[str (buildB l).1, it (buildB l).2.1, it (buildB l).2.2]) w') : CallK Tryd.prog 20 #[str l] w K := by
  apply Ret.call
  apply F20_ok
  unfold F20
  have hL := Lx.start (fun _ => False) w
  refine words_spec 10 (by decide) (by omega) (fun w1 v bl hr ho f1 => ?_)
  have hL := hL.add (a := .row v ((parts 10 l).map str) bl) f1 hr ho
  have hpl := parts_len (c := 10) l
  have hsm := fun p => parts_small (c := 10) (l := l) (p := p)
  unfold buildB at hK
  generalize hps : parts 10 l = ps at *
  refine sLen hL (i := 0) rfl ?_
  rw [List.length_map]
  refine ⟨fun vs ds W => ds = [] ∧ W = w1 ∧ ∃ (i : Nat), i ≤ ps.length ∧ vs = [v, it ((ps.take i).countP isIns : Nat), v, it ps.length, it i], fun vs _ _ => mu5 ps.length vs, ⟨rfl, rfl, 0, by omega, by simp⟩, ?_⟩
  rintro ρ ds W ⟨rfl, rfl, i, hi, hρ⟩
  rw [hρ]
  simp only [List.map_cons, List.map_nil, List.cons.injEq, and_true] at hρ
  obtain ⟨e5, e6, e32, e33, e34⟩ := hρ
  unfold F20L1
  simp only [e5, e6, e32, e33, e34]
  have hcl : (ps.take i).countP isIns ≤ i := by
    have := List.countP_le_length (p := isIns) (l := ps.take i)
    rw [List.length_take] at this; omega
  refine rLt <| sIfD (fun hlt => ?_) (fun hge => ?_)
  · obtain ⟨p, hp⟩ : ∃ p, ps[i]? = some p := ⟨_, List.getElem?_eq_getElem (by omega)⟩
    have hpm := hsm p (List.mem_of_getElem? hp)
    have et : ps.take (i + 1) = ps.take i ++ [p] := by rw [List.take_add_one, hp]; rfl
    refine sIdx hL (i := 0) rfl (x := str p) (by rw [List.getElem?_map, hp]; rfl) ?_
    have nxt : isIns p = false → [v, it ((ps.take i).countP isIns : Nat), v, it ps.length, it ((i : Int) + 1)] = [v, it ((ps.take (i + 1)).countP isIns : Nat), v, it ps.length, it ((i + 1 : Nat) : Int)] := by
      intro h
      rw [et, List.countP_append, List.countP_singleton, h]; simp
    refine rSNe (m := []) <| sIfNS (fun h => ?_) (fun h => ?_)
    · obtain ⟨b, hb, hk1, hk2⟩ := suffix_last h
      have hpos := List.length_pos_iff.2 h
      refine rLenB <| rSub (by omega) (by omega) ?_
      have e1 : (p.length : Int) - 1 = ((p.length - 1 : Nat) : Int) := by omega
      rw [e1]
      refine rIxS hb <| rNe8 <| sIfNE (fun h2 => ?_) (fun h2 => ?_)
      · have hsf : Lib.hasSuffix p [58] = false := by
          cases hc : Lib.hasSuffix p [58] with
          | false => rfl
          | true => exact absurd (by rw [hk1.1 hc]; rfl) h2
        refine rAdd (by omega) (by omega) <| rAdd (by omega) (by omega) ⟨⟨by trivial, by trivial, i + 1, by omega, ?_⟩, by simp [mu5]; omega⟩
        have : isIns p = true := by unfold isIns; rw [hsf]; simp [h]
        rw [et, List.countP_append, List.countP_singleton, this]; simp
      · have hsf : Lib.hasSuffix p [58] = true := hk1.2 (UInt8.toNat.inj (by have : (58 : UInt8).toNat = 58 := rfl; omega))
        refine rAdd (by omega) (by omega) ⟨⟨by trivial, by trivial, i + 1, by omega, nxt ?_⟩, by simp [mu5]; omega⟩
        unfold isIns; rw [hsf]; simp
    · refine rAdd (by omega) (by omega) ⟨⟨by trivial, by trivial, i + 1, by omega, nxt ?_⟩, by simp [mu5]; omega⟩
      unfold isIns; rw [h]; simp
  have hi : i = ps.length := by omega
  subst hi
  rw [List.take_length]
  refine rGt <| sIfD (fun h => ?_) (fun hcnt => ?_)
  · rw [if_pos (by omega)] at hK
    exact hK W hL.fr
  rw [if_neg (by omega)] at hK
  refine sLen hL (i := 0) rfl ?_
  rw [List.length_map]
  have hL : Lx (fun _ => False) w W (bldL (.slice none 0 0) (.slice none 0 0) (.slice none 0 0) (.slice none 0 0) (.slice none 0 0) none none none none none [] [] v ps bl) := ((((hL.nilRow).nilRow).nilRow).nilRow).nilRowM 5
  refine ⟨fun vs ds W => ds = [] ∧ ∃ (i : Nat) (out : List Ln) (pl : List (List UInt8 × Nat)) (codes names places at' nos : Value) (bc bn bp ba bo : Option Nat), i ≤ ps.length ∧ vs = [codes, names, places, at', nos, v, it ps.length, it i] ∧
      scan 0 ps [] [] = scan i (ps.drop i) out pl ∧ out.length ≤ i ∧ pl.length ≤ i ∧ Lx (fun _ => False) w W (bldL codes names places at' nos bc bn bp ba bo out pl v ps bl),
    fun vs _ _ => mu8 ps.length vs, ⟨rfl, 0, [], [], _, _, _, _, _, _, _, _, _, _, by omega, rfl, rfl, by simp, by simp, hL⟩, ?_⟩
  clear hL
  rintro ρ ds W ⟨rfl, i, out, pl, codes, names, places, at', nos, bc, bn, bp, ba, bo, hi, hρ, hsc, hol, hpll, hL⟩
  rw [hρ]
  simp only [List.map_cons, List.map_nil, List.cons.injEq, and_true] at hρ
  obtain ⟨e9, e10, e11, e12, e13, e53, e54, e55⟩ := hρ
  unfold F20L2
  simp only [e9, e10, e11, e12, e13, e53, e54, e55]
  refine rLt <| sIfD (fun hlt => ?_) (fun hge => ?_)
  · obtain ⟨p, hp⟩ : ∃ p, ps[i]? = some p := ⟨_, List.getElem?_eq_getElem (by omega)⟩
    have hpm := hsm p (List.mem_of_getElem? hp)
    have hdrop : ps.drop i = p :: ps.drop (i + 1) := by
      have hlt : i < ps.length := by omega
      rw [List.drop_eq_getElem_cons hlt]
      congr 1
      rw [List.getElem?_eq_getElem hlt] at hp
      exact Option.some.inj hp
    rw [hdrop, scan_cons] at hsc
    have ei : (i : Int) + 1 = ((i + 1 : Nat) : Int) := by omega
    have hbad : scan 0 ps [] [] = .inl (i + 1) → ∀ W2, Fr (fun _ => False) w W2 → K (.tuple #[str [], it ((i : Int) + 1), it 2]) W2 := by
      intro h W2 f
      have := hK W2 f
      rw [h] at this
      rw [ei]
      exact this
    refine sIdx hL (i := 5) rfl (x := str p) (by rw [List.getElem?_map, hp]; rfl) ?_
    refine rSEq (m := []) <| sIfS (fun h => ?_) (fun h => ?_)
    · rw [if_pos h] at hsc
      refine rAdd (by omega) (by omega) ⟨⟨by trivial, i + 1, out, pl, _, _, _, _, _, _, _, _, _, _, by omega, by rw [ei], hsc, by omega, by omega, hL⟩, by simp [mu8]; omega⟩
    rw [if_neg h] at hsc
    obtain ⟨b, hb, hk1, hk2⟩ := suffix_last h
    have hpos := List.length_pos_iff.2 h
    have e1 : (p.length : Int) - 1 = ((p.length - 1 : Nat) : Int) := by omega
    refine rLenB <| rSub (by omega) (by omega) ?_
    rw [e1]
    refine rIxS hb <| rEq8 <| sIfE (fun h2 => ?_) (fun h2 => ?_)
    · have hsf : Lib.hasSuffix p [58] = true := hk1.2 (UInt8.toNat.inj (by have : (58 : UInt8).toNat = 58 := rfl; omega))
      rw [if_pos hsf, hk2 hsf] at hsc
      refine rLenB <| rSub (by omega) (by omega) ?_
      rw [e1]
      refine rSlStrHi (by omega) ?_
      refine sLen hL (i := 2) rfl ?_
      rw [List.length_map]
      refine lab_loop hL (by rw [List.length_take]; omega) (by omega) (by omega) (by omega) (fun hc => ?_) (fun hc W2 p2 a2 bp2 ba2 hL2 => ?_)
      · rw [if_pos hc] at hsc
        exact hbad hsc W hL.fr
      · rw [if_neg hc] at hsc
        exact ⟨⟨by trivial, i + 1, out, _, codes, names, p2, a2, nos, bc, bn, bp2, ba2, bo, by omega, by rw [ei], hsc, by omega, by simp; omega, hL2⟩, by simp [mu8]; omega⟩
    · have hsf : Lib.hasSuffix p [58] = false := by
        cases hc : Lib.hasSuffix p [58] with
        | false => rfl
        | true => exact absurd (by rw [hk1.1 hc]; rfl) h2
      rw [if_neg (by rw [hsf]; decide)] at hsc
      refine rparse_spec (by omega) (fun x nm hlo w3 f3 => ?_) (fun hlo w3 x nm f3 => ?_)
      · have hL := hL.more f3
        rw [hlo] at hsc
        repeat (first
          | refine rFA0 ?_
          | refine rExt0 ?_
          | refine rExt1 ?_
          | refine sExt30 ?_
          | refine sExt31 ?_
          | refine sExt2 ?_
          | refine rIfT ?_
          | refine rIfF ?_
          | refine rNot ?_
          | refine rLenB ?_
          | refine sLd hL (i := 0) rfl rfl ?_
          | refine sLd hL (i := 1) rfl rfl ?_
          | refine sLd hL (i := 2) rfl rfl ?_
          | refine sLd hL (i := 3) rfl rfl ?_
          | refine sLd hL (i := 4) rfl rfl ?_
          | refine sLd hL (i := 5) rfl rfl ?_
          | refine sLdN hL (i := 0) rfl rfl ?_
          | refine sLdN hL (i := 1) rfl rfl ?_
          | refine sLdN hL (i := 2) rfl rfl ?_
          | refine sLdN hL (i := 3) rfl rfl ?_
          | refine sLdN hL (i := 4) rfl rfl ?_
          | refine sLdN hL (i := 5) rfl rfl ?_
          | refine sLdS (i := 0) rfl rfl ?_
          | refine sLdS (i := 1) rfl rfl ?_
          | refine sLdS (i := 2) rfl rfl ?_
          | refine sLdS (i := 3) rfl rfl ?_
          | refine sLdS (i := 4) rfl rfl ?_
          | refine sLdS (i := 5) rfl rfl ?_
          | refine rFA ?_)
        refine sAlloc zc23 hL (fun w4 b4 hL => ?_)
        refine sStN hL (i := 0) rfl rfl (by simp) (by intro y hy; simp at hy; rcases hy with rfl | rfl | rfl | rfl | rfl <;> rfl) (fun w5 hL => ?_)
        have hL : Lx (fun _ => False) w w5 (.blk b4 x.cs :: bldL codes names places at' nos bc bn bp ba bo out pl v ps bl) := hL
        repeat (first
          | refine rFA0 ?_
          | refine rExt0 ?_
          | refine rExt1 ?_
          | refine sExt30 ?_
          | refine sExt31 ?_
          | refine sExt2 ?_
          | refine rIfT ?_
          | refine rIfF ?_
          | refine rNot ?_
          | refine rLenB ?_
          | refine sLd hL (i := 0) rfl rfl ?_
          | refine sLd hL (i := 1) rfl rfl ?_
          | refine sLd hL (i := 2) rfl rfl ?_
          | refine sLd hL (i := 3) rfl rfl ?_
          | refine sLd hL (i := 4) rfl rfl ?_
          | refine sLd hL (i := 5) rfl rfl ?_
          | refine sLdN hL (i := 0) rfl rfl ?_
          | refine sLdN hL (i := 1) rfl rfl ?_
          | refine sLdN hL (i := 2) rfl rfl ?_
          | refine sLdN hL (i := 3) rfl rfl ?_
          | refine sLdN hL (i := 4) rfl rfl ?_
          | refine sLdN hL (i := 5) rfl rfl ?_
          | refine sLdS (i := 0) rfl rfl ?_
          | refine sLdS (i := 1) rfl rfl ?_
          | refine sLdS (i := 2) rfl rfl ?_
          | refine sLdS (i := 3) rfl rfl ?_
          | refine sLdS (i := 4) rfl rfl ?_
          | refine sLdS (i := 5) rfl rfl ?_
          | refine rFA ?_)
        refine sAppM eC (by decide) hL (i := 1) rfl rfl rfl (Cd.cs_one x) (by simp; omega) (fun w6 v6 bl6 hL hne => ?_)
        refine sApp1 eS hL (i := 2) rfl rfl (by simp; omega) (fun w7 v7 bl7 hL hne => ?_)
        refine rAdd (by omega) (by omega) ?_
        rw [ei]
        refine sApp1 eI hL (i := 5) rfl rfl (by simp; omega) (fun w8 v8 bl8 hL hne => ?_)
        refine rAdd (by omega) (by omega) ⟨⟨by trivial, i + 1, out ++ [⟨i + 1, x, nm⟩], pl, v6, v7, places, at', v8, bl6, bl7, bp, ba, bl8, by omega, by rw [ei], hsc, by simp; omega, by omega, ?_⟩, by simp [mu8]; omega⟩
        have hL := hL.sub (List.Sublist.cons _ (List.Sublist.refl _))
        unfold bldL
        rw [List.map_append, List.map_append, List.map_append]
        exact hL
      · have hL := hL.more f3
        rw [hlo] at hsc
        repeat (first
          | refine rFA0 ?_
          | refine rExt0 ?_
          | refine rExt1 ?_
          | refine sExt30 ?_
          | refine sExt31 ?_
          | refine sExt2 ?_
          | refine rIfT ?_
          | refine rIfF ?_
          | refine rNot ?_
          | refine rLenB ?_
          | refine sLd hL (i := 0) rfl rfl ?_
          | refine sLd hL (i := 1) rfl rfl ?_
          | refine sLd hL (i := 2) rfl rfl ?_
          | refine sLd hL (i := 3) rfl rfl ?_
          | refine sLd hL (i := 4) rfl rfl ?_
          | refine sLd hL (i := 5) rfl rfl ?_
          | refine sLdN hL (i := 0) rfl rfl ?_
          | refine sLdN hL (i := 1) rfl rfl ?_
          | refine sLdN hL (i := 2) rfl rfl ?_
          | refine sLdN hL (i := 3) rfl rfl ?_
          | refine sLdN hL (i := 4) rfl rfl ?_
          | refine sLdN hL (i := 5) rfl rfl ?_
          | refine sLdS (i := 0) rfl rfl ?_
          | refine sLdS (i := 1) rfl rfl ?_
          | refine sLdS (i := 2) rfl rfl ?_
          | refine sLdS (i := 3) rfl rfl ?_
          | refine sLdS (i := 4) rfl rfl ?_
          | refine sLdS (i := 5) rfl rfl ?_
          | refine rFA ?_)
        refine sAlloc zc23 hL (fun w4 b4 hL => ?_)
        refine sStN hL (i := 0) rfl rfl (by simp) (by intro y hy; simp at hy; rcases hy with rfl | rfl | rfl | rfl | rfl <;> rfl) (fun w5 hL => ?_)
        repeat (first
          | refine rFA0 ?_
          | refine rExt0 ?_
          | refine rExt1 ?_
          | refine sExt30 ?_
          | refine sExt31 ?_
          | refine sExt2 ?_
          | refine rIfT ?_
          | refine rIfF ?_
          | refine rNot ?_
          | refine rLenB ?_
          | refine sLd hL (i := 0) rfl rfl ?_
          | refine sLd hL (i := 1) rfl rfl ?_
          | refine sLd hL (i := 2) rfl rfl ?_
          | refine sLd hL (i := 3) rfl rfl ?_
          | refine sLd hL (i := 4) rfl rfl ?_
          | refine sLd hL (i := 5) rfl rfl ?_
          | refine sLdN hL (i := 0) rfl rfl ?_
          | refine sLdN hL (i := 1) rfl rfl ?_
          | refine sLdN hL (i := 2) rfl rfl ?_
          | refine sLdN hL (i := 3) rfl rfl ?_
          | refine sLdN hL (i := 4) rfl rfl ?_
          | refine sLdN hL (i := 5) rfl rfl ?_
          | refine sLdS (i := 0) rfl rfl ?_
          | refine sLdS (i := 1) rfl rfl ?_
          | refine sLdS (i := 2) rfl rfl ?_
          | refine sLdS (i := 3) rfl rfl ?_
          | refine sLdS (i := 4) rfl rfl ?_
          | refine sLdS (i := 5) rfl rfl ?_
          | refine rFA ?_)
        refine rAdd (by omega) (by omega) ?_
        exact hbad hsc w5 hL.fr
  · have hi : i = ps.length := by omega
    subst hi
    rw [List.drop_length, scan_nil] at hsc
    obtain ⟨hg, hpb, hcount⟩ := scan_good _ _ _ _ _ _ hsc (by simp) (by simp)
    simp only [hsc] at hK
    refine (hL.rowM (i := 0) rfl).lenE ?_
    rw [List.length_map]
    refine rbuild_end hL (by omega) (by simp at hcount; omega) hg hpb (fun w' f => ?_)
    have := hK w' f
    cases hfb : firstBad pl out with
    | some n => simp only [hfb] at this; exact this
    | none => simp only [hfb] at this; exact this

end Go.Proofs.YtnmmpgeojimgoaaDoor
