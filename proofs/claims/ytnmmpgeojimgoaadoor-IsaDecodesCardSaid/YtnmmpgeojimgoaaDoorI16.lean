/-
  Isa, part 16: the document's Build. Own work.
-/
import Derived.Test.YtnmmpgeojimgoaaDoorI15
set_option linter.unusedVariables false
set_option linter.unusedSimpArgs false
set_option maxRecDepth 100000
namespace Go.Proofs.YtnmmpgeojimgoaaDoor
open Go Go.V Go.RowKit

/-! ### Plain -/

theorem scan_good : ∀ (ps : List (List UInt8)) (i : Nat) (out : List Ln) (pl : List (List UInt8 × Nat)) (out' : List Ln) (pl' : List (List UInt8 × Nat)), scan i ps out pl = .inr (out', pl') →
    (∀ x ∈ out, rightB x.code = true ∧ (x.name ≠ [] → shNum x.code.op = 3) ∧ 0 < x.no) → (∀ p ∈ pl, p.2 ≤ out.length) →
    (∀ x ∈ out', rightB x.code = true ∧ (x.name ≠ [] → shNum x.code.op = 3) ∧ 0 < x.no) ∧ (∀ p ∈ pl', p.2 ≤ out'.length) ∧ out'.length = out.length + ps.countP isIns
  | [], i, out, pl, out', pl', h, hr, hp => by
    rw [scan_nil] at h
    simp only [Sum.inr.injEq, Prod.mk.injEq] at h
    rw [← h.1, ← h.2]; exact ⟨hr, hp, by simp⟩
  | s :: r, i, out, pl, out', pl', h, hr, hp => by
    rw [scan_cons] at h
    split at h
    · rename_i hs
      obtain ⟨a, b, c⟩ := scan_good r _ _ _ _ _ h hr hp
      refine ⟨a, b, ?_⟩
      rw [c, List.countP_cons, hs]; simp [isIns]
    rename_i hs
    split at h
    · rename_i hc
      split at h
      · cases h
      · obtain ⟨a, b, c⟩ := scan_good r _ _ _ _ _ h hr (fun p hp' => by
          rcases List.mem_append.1 hp' with hp' | hp'
          · exact hp p hp'
          · rw [List.mem_singleton.1 hp']; exact Nat.le_refl _)
        refine ⟨a, b, ?_⟩
        rw [c, List.countP_cons]; simp [isIns, hc]
    rename_i hc
    have hins : isIns s = true := by
      unfold isIns
      have : Lib.hasSuffix s [58] = false := by simpa using hc
      rw [this]; simp [hs]
    have go : ∀ (y : Ln), rightB y.code = true → (y.name ≠ [] → shNum y.code.op = 3) → 0 < y.no → scan (i + 1) r (out ++ [y]) pl = .inr (out', pl') → (∀ x ∈ out', rightB x.code = true ∧ (x.name ≠ [] → shNum x.code.op = 3) ∧ 0 < x.no) ∧ (∀ p ∈ pl', p.2 ≤ out'.length) ∧ out'.length = out.length + (s :: r).countP isIns := by
      intro y h1 h2 h3 h
      obtain ⟨a, b, c⟩ := scan_good r _ _ _ _ _ h (fun x hx => by
        rcases List.mem_append.1 hx with hx | hx
        · exact hr x hx
        · rw [List.mem_singleton.1 hx]; exact ⟨h1, h2, h3⟩) (fun p hp' => by have := hp p hp'; simp; omega)
      refine ⟨a, b, ?_⟩
      rw [c, List.countP_cons, hins, List.length_append]; simp; omega
    rcases lineOf_cases s with ⟨x, h1, h2⟩ | ⟨_, x, nm, h1, h2⟩ | ⟨_, _, h2⟩
    · rw [h2] at h
      exact go ⟨i + 1, x, []⟩ h1.1 (fun h => absurd rfl h) (by simp) h
    · rw [h2] at h
      exact go ⟨i + 1, x, nm⟩ (calls_right h1) (fun _ => h1.2.1) (by simp) h
    · rw [h2] at h
      cases h

theorem find_le {nm : List UInt8} {n m : Nat} : ∀ {pl : List (List UInt8 × Nat)}, (∀ p ∈ pl, p.2 ≤ n) → find nm pl = some m → m ≤ n
  | [], _, h => by cases h
  | (k, v) :: r, hp, h => by
    unfold find at h
    split at h
    · cases h; exact hp (k, _) (by simp)
    · exact find_le (fun p hp' => hp p (by simp [hp'])) h

theorem fixN_right {pl : List (List UInt8 × Nat)} {i n : Nat} {x : Ln} (hn : n ≤ 1024) (hi : i < n) (hp : ∀ p ∈ pl, p.2 ≤ n) (hr : rightB x.code = true) (hs : x.name ≠ [] → shNum x.code.op = 3) : rightB (fixN pl i x) = true := by
  unfold fixN
  split
  · exact hr
  · rename_i h
    have h3 := hs h
    obtain ⟨h1, h2, h4, h5⟩ := (right_iff _).1 hr
    refine (right_iff _).2 ⟨h1, ?_, h4, h5⟩
    simp only
    rw [h3]
    have : (find x.name pl).getD 0 ≤ n := by
      cases hf : find x.name pl with
      | none => simp
      | some m => exact find_le hp hf
    simp [fitsN]
    omega

theorem find_any (p : List UInt8) : ∀ pl : List (List UInt8 × Nat), (pl.any fun q => q.1 == p) = (find p pl).isSome
  | [] => rfl
  | (k, v) :: r => by
    unfold find
    rw [List.any_cons]
    by_cases h : p = k
    · rw [if_pos h]; simp [h]
    · have h' : (k == p) = false := by simpa using fun e => h e.symm
      rw [if_neg h, h', Bool.false_or, find_any p r]

theorem find_snoc (nm : List UInt8) (q : List UInt8 × Nat) : ∀ pl : List (List UInt8 × Nat), find nm (pl ++ [q]) = match find nm pl with | some a => some a | none => if nm = q.1 then some q.2 else none
  | [] => by obtain ⟨k, v⟩ := q; simp [find]
  | (k, v) :: r => by
    rw [List.cons_append]
    unfold find
    by_cases h : nm = k
    · rw [if_pos h, if_pos h]
    · rw [if_neg h, if_neg h]; exact find_snoc nm q r

theorem suffix_last {s : List UInt8} (h : s ≠ []) : ∃ b, s[s.length - 1]? = some b ∧ (Lib.hasSuffix s [58] = true ↔ b = 58) ∧ (Lib.hasSuffix s [58] = true → Lib.trimSuffix s [58] = s.take (s.length - 1)) := by
  have hlen := List.length_pos_iff.2 h
  obtain ⟨b, hb⟩ : ∃ b, s[s.length - 1]? = some b := ⟨_, List.getElem?_eq_getElem (by omega)⟩
  have hs : s = s.take (s.length - 1) ++ [b] := by
    have e := List.take_add_one (l := s) (i := s.length - 1)
    rw [hb, show s.length - 1 + 1 = s.length by omega, List.take_length] at e
    exact e
  have key : Lib.hasSuffix s [58] = true ↔ b = 58 := by
    unfold Lib.hasSuffix
    rw [List.isSuffixOf_iff_suffix]
    constructor
    · rintro ⟨t, ht⟩
      rw [hs] at ht
      have := (List.append_inj' ht rfl).2
      simp at this
      exact this.symm
    · rintro rfl
      exact ⟨_, hs.symm⟩
  refine ⟨b, hb, key, fun hc => ?_⟩
  unfold Lib.trimSuffix
  rw [if_pos hc]
  rfl

/-! ### The walk -/

def bldL (codes names places at' nos : Value) (bc bn bp ba bo : Option Nat) (out : List Ln) (pl : List (List UInt8 × Nat)) (v : Value) (ps : List (List UInt8)) (bl : Option Nat) : List As :=
  [.rowM 5 codes (out.map fun x => x.code.cs) bc, .row names (out.map fun x => str x.name) bn, .row places (pl.map fun p => str p.1) bp, .row at' (pl.map fun p => it p.2) ba, .row nos (out.map fun x => it x.no) bo, .row v (ps.map str) bl]

def mu14 (n : Nat) (vs : List Value) : Nat := match vs with
  | [_, _, _, _, _, _, _, _, _, _, _, _, _, .int _ i] => n - i.toNat
  | _ => 0

/-- is the name there already? -/
theorem lab_loop {w W : World} {K : Value → World → Prop} {ag2 : List Value → List Nat → World → Prop} {codes names places at' nos v : Value} {bc bn bp ba bo bl : Option Nat} {out : List Ln} {pl : List (List UInt8 × Nat)} {ps : List (List UInt8)} {p : List UInt8} {i n : Nat}
    (hL : Lx (fun _ => False) w W (bldL codes names places at' nos bc bn bp ba bo out pl v ps bl)) (hp : p.length < 1000000) (hpl : pl.length < 1000000) (hol : out.length < 1000000) (hi : i < 1000000)
    (hbad : ((find p pl).isSome = true ∨ nameB p = false) → K (.tuple #[str [], it (i + 1), it 2]) W)
    (hgo : ¬ ((find p pl).isSome = true ∨ nameB p = false) → ∀ W2 places2 at2 bp2 ba2, Lx (fun _ => False) w W2 (bldL codes names places2 at2 nos bc bn bp2 ba2 bo out (pl ++ [(p, out.length)]) v ps bl) → ag2 [codes, names, places2, at2, nos, v, it n, it (i + 1)] [] W2) :
    loopF [9, 10, 11, 12, 13, 14, 16, 17, 53, 54, 55, 73, 74, 75] [codes, names, places, at', nos, it i, str p, .bool false, v, it n, it i, places, it pl.length, it 0] [] W (F20L3 K ag2) := by
  refine ⟨fun vs ds W' => ds = [] ∧ W' = W ∧ ∃ (k : Nat), k ≤ pl.length ∧ vs = [codes, names, places, at', nos, it i, str p, .bool ((pl.take k).any fun q => q.1 == p), v, it n, it i, places, it pl.length, it k],
    fun vs _ _ => mu14 pl.length vs, ⟨rfl, rfl, 0, by omega, by simp⟩, ?_⟩
  rintro ρ ds W' ⟨rfl, rfl, k, hk, hρ⟩
  rw [hρ]
  simp only [List.map_cons, List.map_nil, List.cons.injEq, and_true] at hρ
  obtain ⟨e9, e10, e11, e12, e13, e14, e16, e17, e53, e54, e55, e73, e74, e75⟩ := hρ
  unfold F20L3
  simp only [e9, e10, e11, e12, e13, e14, e16, e17, e53, e54, e55, e73, e74, e75]
  refine rLt <| sIfD (fun hlt => ?_) (fun hge => ?_)
  · obtain ⟨q, hq⟩ : ∃ q, pl[k]? = some q := ⟨_, List.getElem?_eq_getElem (by omega)⟩
    have et : pl.take (k + 1) = pl.take k ++ [q] := by rw [List.take_add_one, hq]; rfl
    refine sIdx hL (i := 2) rfl (x := str q.1) (by rw [List.getElem?_map, hq]; rfl) ?_
    refine sIf (fun h => ?_) (fun h => ?_)
    · refine rAdd (by omega) (by omega) ⟨⟨by trivial, by trivial, k + 1, by omega, ?_⟩, by simp [mu14]; omega⟩
      rw [et, List.any_append, h]; simp
    · refine rSEq <| rAdd (by omega) (by omega) ⟨⟨by trivial, by trivial, k + 1, by omega, ?_⟩, by simp [mu14]; omega⟩
      rw [et, List.any_append, h]; simp
  · have hk : k = pl.length := by omega
    subst hk
    rw [List.take_length, find_any]
    have main : ∀ q : Bool, (q = true ↔ ((find p pl).isSome = true ∨ nameB p = false)) → ∀ ρ : Env, [9, 10, 11, 12, 13, 14, 16, 53, 54, 55, 91].map ρ = [codes, names, places, at', nos, it i, str p, v, it n, it i, .bool q] → F20J5 K ag2 ρ [] W' := by
      intro q hq ρ hρ
      simp only [List.map_cons, List.map_nil, List.cons.injEq, and_true] at hρ
      obtain ⟨e9, e10, e11, e12, e13, e14, e16, e53, e54, e55, e91⟩ := hρ
      unfold F20J5
      simp only [e9, e10, e11, e12, e13, e14, e16, e53, e54, e55, e91]
      refine sIf (fun h => ?_) (fun h => ?_)
      · refine rAdd (by omega) (by omega) ?_
        exact hbad (hq.1 h)
      · have hno : ¬ ((find p pl).isSome = true ∨ nameB p = false) := fun hc => by rw [hq.2 hc] at h; cases h
        refine sApp1 eS hL (i := 2) rfl rfl (by simp; omega) (fun w5 v5 bl5 hL hne => ?_)
        refine (hL.rowM (i := 0) rfl).lenE ?_
        rw [List.length_map]
        refine sApp1 eI hL (i := 3) rfl rfl (by simp; omega) (fun w6 v6 bl6 hL hne => ?_)
        refine rAdd (by omega) (by omega) ?_
        have := hgo hno w6 v5 v6 bl5 bl6 (by
          unfold bldL
          rw [List.map_append, List.map_append]
          exact hL)
        exact this
    refine sJoin ?_
    refine sIf (fun h => ?_) (fun h => ?_)
    · exact main true ⟨fun _ => .inl h, fun _ => rfl⟩
    · refine named_spec (by omega) ?_
      refine rNot ?_
      exact main (!nameB p) ⟨fun h2 => .inr (by simpa using h2), fun h2 => by
        rcases h2 with h2 | h2
        · rw [h] at h2; cases h2
        · rw [h2]; rfl⟩

/-- the place of a name, up to some place -/
def fixK (pl : List (List UInt8 × Nat)) (i : Nat) (x : Ln) : Cd := if x.name = [] then x.code else match find x.name pl with
  | some a => { x.code with n := (a : Int) - i - 1 }
  | none => x.code
def foundK (pl : List (List UInt8 × Nat)) (x : Ln) : Bool := (x.name == []) || (find x.name pl).isSome

theorem fixK_eq {pl : List (List UInt8 × Nat)} {i : Nat} {x : Ln} (h : foundK pl x = true) : fixK pl i x = fixN pl i x := by
  unfold fixK fixN
  unfold foundK at h
  by_cases hn : x.name = []
  · rw [if_pos hn, if_pos hn]
  · rw [if_neg hn, if_neg hn]
    have : (find x.name pl).isSome = true := by
      have e : (x.name == []) = false := by simpa using hn
      rw [e, Bool.false_or] at h; exact h
    obtain ⟨a, ha⟩ := Option.isSome_iff_exists.1 this
    rw [ha]; rfl

def mu15 (n : Nat) (vs : List Value) : Nat := match vs with
  | [_, _, _, _, _, _, _, _, _, _, _, _, _, _, .int _ i] => n - i.toNat
  | _ => 0

/-- an instruction's number out of the places -/
theorem fix_loop {w W : World} {ag4 : List Value → List Nat → World → Prop} {codes names places at' nos v : Value} {bc bn bp ba bo bl : Option Nat} {out : List Ln} {pl : List (List UInt8 × Nat)} {ps : List (List UInt8)} {s : List UInt8} {bad i b : Nat} {x : Ln}
    (hx : out[i]? = some x) (hL : Lx (fun _ => False) w W (.blk b x.code.cs :: bldL codes names places at' nos bc bn bp ba bo out pl v ps bl)) (hpl : pl.length < 1000000) (hol : out.length < 1000000) (hpb : ∀ p ∈ pl, p.2 < 1000000) (hs : s.length < 10000000)
    (hgo : ∀ W2 (s2 : List UInt8) (bad2 : Nat), bad2 = (if foundK pl x = false ∧ bad = 0 then x.no else bad) → s2.length ≤ s.length + 4 → (bad2 = 0 → s2 = s ++ enc (fixN pl i x)) → Lx (fun _ => False) w W2 (bldL codes names places at' nos bc bn bp ba bo out pl v ps bl) →
      ag4 [names, places, at', nos, str s2, it bad2, codes, it out.length, it (i + 1)] [] W2)
    (hno : 0 < x.no) (hr : ∀ y, fixK pl i x = y → foundK pl x = true → -32768 ≤ y.n ∧ y.n < 65536) :
    loopF [10, 11, 12, 13, 23, 24, 25, 26, 27, 127, 128, 129, 139, 140, 141] [names, places, at', nos, str s, it bad, it i, pt b 0, .bool (x.name == []), codes, it out.length, it i, places, it pl.length, it 0] [] W (F20L5 ag4) := by
  have hi : i < out.length := (List.getElem?_eq_some_iff.1 hx).1
  refine ⟨fun vs ds W' => ds = [] ∧ ∃ (k : Nat), k ≤ pl.length ∧ vs = [names, places, at', nos, str s, it bad, it i, pt b 0, .bool (foundK (pl.take k) x), codes, it out.length, it i, places, it pl.length, it k] ∧
      Lx (fun _ => False) w W' (.blk b (fixK (pl.take k) i x).cs :: bldL codes names places at' nos bc bn bp ba bo out pl v ps bl),
    fun vs _ _ => mu15 pl.length vs, ⟨rfl, 0, by omega, by simp [foundK, find], ?_⟩, ?_⟩
  · have : fixK (pl.take 0) i x = x.code := by unfold fixK; simp [find]
    rw [this]; exact hL
  clear hL
  rintro ρ ds W ⟨rfl, k, hk, hρ, hL⟩
  rw [hρ]
  simp only [List.map_cons, List.map_nil, List.cons.injEq, and_true] at hρ
  obtain ⟨e10, e11, e12, e13, e23, e24, e25, e26, e27, e127, e128, e129, e139, e140, e141⟩ := hρ
  unfold F20L5
  simp only [e10, e11, e12, e13, e23, e24, e25, e26, e27, e127, e128, e129, e139, e140, e141]
  refine rLt <| sIfD (fun hlt => ?_) (fun hge => ?_)
  · obtain ⟨q, hq⟩ : ∃ q, pl[k]? = some q := ⟨_, List.getElem?_eq_getElem (by omega)⟩
    have et : pl.take (k + 1) = pl.take k ++ [q] := by rw [List.take_add_one, hq]; rfl
    have hqb := hpb q (List.mem_of_getElem? hq)
    refine sIdx hL (i := 3) rfl (x := str q.1) (by rw [List.getElem?_map, hq]; rfl) ?_
    have main : ∀ c : Bool, (c = true ↔ (foundK (pl.take k) x = false ∧ q.1 = x.name)) → ∀ ρ : Env, [10, 11, 12, 13, 23, 24, 25, 26, 27, 28, 127, 128, 129, 139, 140, 141, 155].map ρ = [names, places, at', nos, str s, it bad, it i, pt b 0, .bool (foundK (pl.take k) x), it k, codes, it out.length, it i, places, it pl.length, it k, .bool c] →
        F20J8 (fun vs ds' w' => (ds' = [] ∧ ∃ (k : Nat), k ≤ pl.length ∧ vs = [names, places, at', nos, str s, it bad, it i, pt b 0, .bool (foundK (pl.take k) x), codes, it out.length, it i, places, it pl.length, it k] ∧
          Lx (fun _ => False) w w' (.blk b (fixK (pl.take k) i x).cs :: bldL codes names places at' nos bc bn bp ba bo out pl v ps bl)) ∧ mu15 pl.length vs < mu15 pl.length [names, places, at', nos, str s, it bad, it i, pt b 0, .bool (foundK (pl.take k) x), codes, it out.length, it i, places, it pl.length, it k]) ρ [] W := by
      intro c hc ρ hρ
      simp only [List.map_cons, List.map_nil, List.cons.injEq, and_true] at hρ
      obtain ⟨e10, e11, e12, e13, e23, e24, e25, e26, e27, e28, e127, e128, e129, e139, e140, e141, e155⟩ := hρ
      unfold F20J8
      simp only [e10, e11, e12, e13, e23, e24, e25, e26, e27, e28, e127, e128, e129, e139, e140, e141, e155]
      refine sIf (fun h => ?_) (fun h => ?_)
      · obtain ⟨h1, h2⟩ := hc.1 h
        unfold foundK at h1
        simp only [Bool.or_eq_false_iff, beq_eq_false_iff_ne, Option.isSome_eq_false_iff, Option.isNone_iff_eq_none] at h1
        have hf : find x.name (pl.take (k + 1)) = some q.2 := by
          rw [et, find_snoc, h1.2]
          simp only
          rw [if_pos h2.symm]
        refine sIdx hL (i := 4) rfl (x := it q.2) (by rw [List.getElem?_map, hq]; rfl) ?_
        refine rSub (by omega) (by omega) <| rSub (by omega) (by omega) ?_
        repeat (first
          | refine rFA0 ?_
          | refine rExt0 ?_
          | refine rExt1 ?_
          | refine sExt30 ?_
          | refine sExt31 ?_
          | refine sExt2 ?_
          | refine rIfT ?_
          | refine rIfF ?_
          | refine rNot ?_
          | refine rLenB ?_
          | refine sLd hL (i := 0) rfl rfl ?_
          | refine sLd hL (i := 1) rfl rfl ?_
          | refine sLd hL (i := 2) rfl rfl ?_
          | refine sLd hL (i := 3) rfl rfl ?_
          | refine sLd hL (i := 4) rfl rfl ?_
          | refine sLd hL (i := 5) rfl rfl ?_
          | refine sLdN hL (i := 0) rfl rfl ?_
          | refine sLdN hL (i := 1) rfl rfl ?_
          | refine sLdN hL (i := 2) rfl rfl ?_
          | refine sLdN hL (i := 3) rfl rfl ?_
          | refine sLdN hL (i := 4) rfl rfl ?_
          | refine sLdN hL (i := 5) rfl rfl ?_
          | refine sLdS (i := 0) rfl rfl ?_
          | refine sLdS (i := 1) rfl rfl ?_
          | refine sLdS (i := 2) rfl rfl ?_
          | refine sLdS (i := 3) rfl rfl ?_
          | refine sLdS (i := 4) rfl rfl ?_
          | refine sLdS (i := 5) rfl rfl ?_
          | refine rFA ?_)
        refine sSt hL (i := 0) rfl (by simp) rfl (by intro c h; cases h) (fun w6 hL => ?_)
        refine rAdd (by omega) (by omega) ⟨⟨by trivial, k + 1, by omega, ?_, ?_⟩, by simp [mu15]; omega⟩
        · have : foundK (pl.take (k + 1)) x = true := by unfold foundK; rw [hf]; simp
          rw [this]; simp
        · have e1 : fixK (pl.take (k + 1)) i x = { x.code with n := (q.2 : Int) - i - 1 } := by
            unfold fixK; rw [if_neg h1.1, hf]
          have e2 : fixK (pl.take k) i x = x.code := by unfold fixK; rw [if_neg h1.1, h1.2]
          rw [e2] at hL
          rw [e1]
          exact hL
      · refine rAdd (by omega) (by omega) ⟨⟨by trivial, k + 1, by omega, ?_, ?_⟩, by simp [mu15]; omega⟩
        · have : foundK (pl.take (k + 1)) x = foundK (pl.take k) x := by
            have hn : ¬ (foundK (pl.take k) x = false ∧ q.1 = x.name) := fun hcc => by rw [hc.2 hcc] at h; cases h
            unfold foundK at hn ⊢
            rw [et, find_snoc]
            cases hf : find x.name (pl.take k) with
            | some a => rfl
            | none =>
              rw [hf] at hn
              simp only
              by_cases e : x.name = q.1
              · rw [if_pos e]
                have hne : (x.name == []) = true := by
                  cases hx2 : (x.name == []) with
                  | true => rfl
                  | false => exact absurd ⟨by rw [hx2]; rfl, e.symm⟩ hn
                rw [hne]; rfl
              · rw [if_neg e]
          rw [this]; simp
        · have : fixK (pl.take (k + 1)) i x = fixK (pl.take k) i x := by
            have hn : ¬ (foundK (pl.take k) x = false ∧ q.1 = x.name) := fun hcc => by rw [hc.2 hcc] at h; cases h
            unfold foundK at hn
            unfold fixK
            by_cases hx2 : x.name = []
            · rw [if_pos hx2, if_pos hx2]
            · rw [if_neg hx2, if_neg hx2, et, find_snoc]
              have e0 : (x.name == []) = false := by simpa using hx2
              rw [e0, Bool.false_or] at hn
              cases hf : find x.name (pl.take k) with
              | some a => rfl
              | none =>
                rw [hf] at hn
                simp only
                by_cases e : x.name = q.1
                · exact absurd ⟨rfl, e.symm⟩ hn
                · rw [if_neg e]
          rw [this]
          exact hL
    refine sJoin ?_
    refine rNot <| sIfN (fun h => ?_) (fun h => ?_)
    · refine sIdx hL (i := 2) (j := i) rfl (x := str x.name) (by rw [List.getElem?_map, hx]; rfl) ?_
      refine rSEq ?_
      exact main (q.1 == x.name) ⟨fun e => ⟨h, by simpa using e⟩, fun e => by simpa using e.2⟩
    · exact main false ⟨fun e => (by cases e), fun e => (by rw [h] at e; cases e.1)⟩
  · have hk : k = pl.length := by omega
    subst hk
    rw [List.take_length] at hL ⊢
    have fin : ∀ bad2 : Nat, bad2 = (if foundK pl x = false ∧ bad = 0 then x.no else bad) → ∀ ρ : Env, [10, 11, 12, 13, 23, 24, 26, 127, 128, 129].map ρ = [names, places, at', nos, str s, it bad2, pt b 0, codes, it out.length, it i] → F20J9 ag4 ρ [] W := by
      intro bad2 hb ρ hρ
      simp only [List.map_cons, List.map_nil, List.cons.injEq, and_true] at hρ
      obtain ⟨e10, e11, e12, e13, e23, e24, e26, e127, e128, e129⟩ := hρ
      unfold F20J9
      simp only [e10, e11, e12, e13, e23, e24, e26, e127, e128, e129]
      refine rEq <| sIfE (fun h => ?_) (fun h => ?_)
      · have h : bad2 = 0 := by omega
        have hfd : foundK pl x = true := by
          cases hf : foundK pl x with
          | true => rfl
          | false =>
            rw [hf] at hb
            by_cases e : bad = 0
            · rw [if_pos ⟨rfl, e⟩] at hb; omega
            · rw [if_neg (fun hc => e hc.2)] at hb; omega
        have hfx := fixK_eq (i := i) hfd
        have hb2 := hr _ rfl hfd
        repeat (first
          | refine rFA0 ?_
          | refine rExt0 ?_
          | refine rExt1 ?_
          | refine sExt30 ?_
          | refine sExt31 ?_
          | refine sExt2 ?_
          | refine rIfT ?_
          | refine rIfF ?_
          | refine rNot ?_
          | refine rLenB ?_
          | refine sLd hL (i := 0) rfl rfl ?_
          | refine sLd hL (i := 1) rfl rfl ?_
          | refine sLd hL (i := 2) rfl rfl ?_
          | refine sLd hL (i := 3) rfl rfl ?_
          | refine sLd hL (i := 4) rfl rfl ?_
          | refine sLd hL (i := 5) rfl rfl ?_
          | refine sLdN hL (i := 0) rfl rfl ?_
          | refine sLdN hL (i := 1) rfl rfl ?_
          | refine sLdN hL (i := 2) rfl rfl ?_
          | refine sLdN hL (i := 3) rfl rfl ?_
          | refine sLdN hL (i := 4) rfl rfl ?_
          | refine sLdN hL (i := 5) rfl rfl ?_
          | refine sLdS (i := 0) rfl rfl ?_
          | refine sLdS (i := 1) rfl rfl ?_
          | refine sLdS (i := 2) rfl rfl ?_
          | refine sLdS (i := 3) rfl rfl ?_
          | refine sLdS (i := 4) rfl rfl ?_
          | refine sLdS (i := 5) rfl rfl ?_
          | refine rFA ?_)
        refine rencode_spec (x := fixK pl i x) hb2.1 hb2.2 (fun w7 f7 => ?_)
        have hL := hL.more f7
        refine sAddS (by simp [enc]; omega) ?_
        refine rAdd (by omega) (by omega) ?_
        exact hgo w7 (s ++ enc (fixK pl i x)) bad2 hb (by simp [enc]) (fun _ => by rw [hfx]) (hL.sub (List.Sublist.cons _ (List.Sublist.refl _)))
      · refine rAdd (by omega) (by omega) ?_
        exact hgo W s bad2 hb (by omega) (fun e => absurd e (by omega)) (hL.sub (List.Sublist.cons _ (List.Sublist.refl _)))
    refine sJoin <| sJoin ?_
    have mid : ∀ c : Bool, (c = true ↔ (foundK pl x = false ∧ bad = 0)) → ∀ ρ : Env, [10, 11, 12, 13, 23, 24, 25, 26, 127, 128, 129, 170].map ρ = [names, places, at', nos, str s, it bad, it i, pt b 0, codes, it out.length, it i, .bool c] →
        F20J10 (fun vs ds W => ∀ ρ : Env, [10, 11, 12, 13, 23, 24, 26, 127, 128, 129].map ρ = vs → F20J9 ag4 ρ ds W) ρ [] W := by
      intro c hc ρ hρ
      simp only [List.map_cons, List.map_nil, List.cons.injEq, and_true] at hρ
      obtain ⟨e10, e11, e12, e13, e23, e24, e25, e26, e127, e128, e129, e170⟩ := hρ
      unfold F20J10
      simp only [e10, e11, e12, e13, e23, e24, e25, e26, e127, e128, e129, e170]
      refine sIf (fun h => ?_) (fun h => ?_)
      · refine sIdx hL (i := 5) (j := i) rfl (x := it x.no) (by rw [List.getElem?_map, hx]; rfl) ?_
        exact fin x.no (by rw [if_pos (hc.1 h)])
      · exact fin bad (by rw [if_neg (fun hcc => by rw [hc.2 hcc] at h; cases h)])
    refine rNot <| sIfN (fun h => ?_) (fun h => ?_)
    · refine rEq ?_
      exact mid ((bad : Int) == 0) ⟨fun e => ⟨h, by simpa using e⟩, fun e => by simpa using e.2⟩
    · exact mid false ⟨fun e => (by cases e), fun e => (by rw [h] at e; cases e.1)⟩

end Go.Proofs.YtnmmpgeojimgoaaDoor
