/-
  Cpu, part 13: CpuLittle. Own work.
-/
import Derived.Test.YtmaecpbkbkncgaaDoorC12
set_option linter.unusedVariables false
set_option linter.unusedSimpArgs false
set_option maxRecDepth 100000
namespace Go.Proofs.YtmaecpbkbkncgaaDoor
open Go Go.V Go.RowKit

/-- no register is another one, Pc aside -/
def Keeps (r r' : List Nat) : Prop := ∀ i : Int, 0 ≤ i → i < 16 → rg r' i = rg r i

/-- how little a step does -/
def Little (r : List Nat) (l : List UInt8) (x : List Nat × List UInt8 × Int) : Prop :=
  (x.2.2 = 0 ∧ ((x.2.1 = l ∧ ∃ a : Int, ∀ i : Int, 0 ≤ i → i < 16 → i ≠ a → rg x.1 i = rg r i) ∨ (Keeps r x.1 ∧ ∃ y : Nat, ∀ j : Nat, ¬ (y ≤ j ∧ j < y + 8) → x.2.1[j]? = l[j]?))) ∨
  (x.2.2 = 1 ∧ x.2.1 = l ∧ Keeps r x.1 ∧ rg x.1 16 = (rg r 16 + 4) % 18446744073709551616) ∨
  (1 < x.2.2 ∧ x.2.2 ≤ 4 ∧ x.1 = r ∧ x.2.1 = l)

theorem goP_keeps {r : List Nat} (hr : r.length = 17) (x : Nat) : Keeps r (goP r x) := by
  intro i h0 h1
  unfold goP
  rw [rg_put (by decide) (by decide) h0 hr, if_neg (by omega)]

theorem little_go {r : List Nat} {l : List UInt8} (hr : r.length = 17) (x : Nat) : Little r l (goP r x, l, 0) :=
  .inl ⟨rfl, .inl ⟨rfl, 0, fun i h0 h1 _ => goP_keeps hr x i h0 h1⟩⟩

theorem little_put {r : List Nat} {l : List UInt8} (hr : r.length = 17) {a : Int} (ha : 0 ≤ a ∧ a < 16) (v x : Nat) : Little r l (goP (putP r a v) x, l, 0) := by
  refine .inl ⟨rfl, .inl ⟨rfl, a, fun i h0 h1 hne => ?_⟩⟩
  have := goP_keeps (r := putP r a v) (by rw [putP_len, hr]) x i h0 h1
  show rg (goP (putP r a v) x) i = rg r i
  rw [this, rg_put ha.1 (by omega) h0 hr, if_neg (fun e => hne e.symm)]

theorem little_same {r : List Nat} {l : List UInt8} {x : Int} (h : 1 < x ∧ x ≤ 4) : Little r l (r, l, x) := .inr (.inr ⟨h.1, h.2, rfl, rfl⟩)

theorem little_moves {r : List Nat} {l : List UInt8} {c : Cd} (hr : r.length = 17) (ha : 0 ≤ c.a ∧ c.a < 16) (x : Nat) : Little r l (goP (movesP r l c).1 x, (movesP r l c).2.1, 0) := by
  unfold movesP
  split
  · refine .inl ⟨rfl, .inr ⟨goP_keeps hr x, addrP r c, fun j hj => ?_⟩⟩
    show (stR l (addrP r c) ((eight (rg r c.a)).take (sizeP c.op))).1[j]? = l[j]?
    have hlen : ((eight (rg r c.a)).take (sizeP c.op)).length ≤ 8 := by rw [List.length_take, eight_len]; omega
    unfold stR
    split
    · rename_i hf
      rw [wrl_get hf, if_neg (by omega)]
    · rfl
  · split
    · exact little_put hr ha _ _
    · exact little_go hr x

theorem doP_little {r : List Nat} {l : List UInt8} {c : Cd} (hr : r.length = 17) (hc : rightB c = true) : Little r l (doP r l c) := by
  obtain ⟨_, _, ha, _, _⟩ := right_regs hc
  have M := @iteP _ (Little r l)
  unfold doP
  refine M (fun _ => little_same (by decide)) fun _ => M (fun _ => little_go hr _) fun _ => M (fun _ => ?_) fun _ => M (fun _ => little_put hr ha _ _) fun _ => M (fun _ => little_put hr ha _ _) fun _ => M (fun _ => little_put hr ha _ _) fun _ => M (fun _ => M (fun _ => little_moves hr ha _) fun _ => little_same (by decide)) fun _ => M (fun _ => little_go hr _) fun _ => M (fun _ => little_go hr _) fun _ => M (fun _ => little_go hr _) fun _ => M (fun _ => little_put hr ha _ _) fun _ => M (fun _ => little_go hr _) fun _ => little_put hr ha _ _
  refine .inr (.inl ⟨rfl, rfl, goP_keeps hr _, ?_⟩)
  show rg (goP r (nextP r)) 16 = _
  unfold goP
  rw [rg_put (by decide) (by decide) (by decide) hr, if_pos rfl]
  rfl

theorem stepP_little {r : List Nat} (hr : r.length = 17) (l : List UInt8) : Little r l (stepP r l) := by
  unfold stepP
  split
  · exact little_same (by decide)
  · split
    · exact little_same (by decide)
    · rename_i hd
      exact doP_little hr (decode_right hd).1

/-! ### What the law counts -/

def cnt (r r' : List Nat) : Nat → Nat
  | 0 => 0
  | i + 1 => cnt r r' i + if rg r' i ≠ rg r i then 1 else 0

theorem cnt_none {r r' : List Nat} (h : Keeps r r') : ∀ i, i ≤ 16 → cnt r r' i = 0
  | 0, _ => rfl
  | i + 1, hi => by
    rw [cnt, cnt_none h i (by omega), if_neg (by rw [h i (by omega) (by omega)]; exact fun e => e rfl)]

theorem cnt_le (r r' : List Nat) : ∀ i, cnt r r' i ≤ i
  | 0 => Nat.le_refl _
  | i + 1 => by
    have := cnt_le r r' i
    rw [cnt]
    split <;> omega

theorem cnt_one {r r' : List Nat} {a : Int} (h : ∀ i : Int, 0 ≤ i → i < 16 → i ≠ a → rg r' i = rg r i) : ∀ i : Nat, i ≤ 16 → (i ≤ a → cnt r r' i = 0) ∧ cnt r r' i ≤ 1
  | 0, _ => ⟨fun _ => rfl, Nat.zero_le _⟩
  | i + 1, hi => by
    have ih := cnt_one h i (by omega)
    by_cases ha : (i : Int) = a
    · have h0 := ih.1 (by omega)
      have h1 : cnt r r' (i + 1) ≤ 1 := by
        rw [cnt, h0]
        split <;> omega
      exact ⟨fun hh => by omega, h1⟩
    · have e : cnt r r' (i + 1) = cnt r r' i := by
        rw [cnt, if_neg (by rw [h i (by omega) (by omega) ha]; exact fun e => e rfl)]
        rfl
      rw [e]
      exact ⟨fun hh => ih.1 (by omega), ih.2⟩

/-- the first and the last place where they are unlike, of the first i -/
def Ends (l l' : List UInt8) (i : Nat) (f t : Int) : Prop :=
  (f = -1 ∧ t = -1 ∧ ∀ j, j < i → l[j]? = l'[j]?) ∨ (0 ≤ f ∧ f ≤ t ∧ t < i ∧ l[f.toNat]? ≠ l'[f.toNat]? ∧ l[t.toNat]? ≠ l'[t.toNat]?)

/-- CpuLittle, what is told in the end -/
theorem little_end {w V : World} {r r' : List Nat} {l l' : List UInt8} {n : Nat} {what f t : Int} {q3 q7 : Nat} {K : Value → World → Prop} {s a b : Value} (hr : St r) (hr' : St r') (hL : Little r l (r', l', what)) (hn : n = if what = 0 then 1 else 0)
    (hE : Ends l l' l.length f t) (hl2 : l'.length = l.length) (c3 : Cs V q3 (stc r)) (c7 : Cs V q7 (stc r')) (hK : K (.bool true) V) :
    joinF [3, 7, 8, 9, 11, 12, 13] (fun J4 => joinF [3, 7, 8, 9, 11, 12, 13, 70] (fun J5 => vBin (.int .i64) .neq (it what) (.int .i64 0) fun v66 => vBool v66 fun g => if g = true then
      (vBin (.int .i64) .neq (it what) (.int .i64 1) fun v69 => J5 [pt q3 0, pt q7 0, it n, it what, it (cnt r r' 16), it f, it t, v69] [] V)
      else (J5 [pt q3 0, pt q7 0, it n, it what, it (cnt r r' 16), it f, it t, (.bool false)] [] V)) (F6J5 J4 K)) (F6J4 K) := by
  have hsame : l' = l → f = -1 ∧ t = -1 := by
    rintro rfl
    rcases hE with ⟨h1, h2, _⟩ | ⟨_, _, _, h, _⟩
    · exact ⟨h1, h2⟩
    · exact absurd rfl h
  refine ⟨fun vs ds W => vs = [pt q3 0, pt q7 0, it n, it what, it (cnt r r' 16), it f, it t] ∧ ds = [] ∧ W = V ∧ (what = 0 ∨ what = 1), ?_, ?_⟩
  · refine joinOne (L := [pt q3 0, pt q7 0, it n, it what, it (cnt r r' 16), it f, it t, .bool (decide (what ≠ 0 ∧ what ≠ 1))]) (ds := []) (w := V) ?_ ?_
    · refine rNe <| rIf (fun h => rNe ⟨?_, rfl, rfl⟩) (fun h => ⟨?_, rfl, rfl⟩)
      · have h : what ≠ 0 := by simpa using h
        have : (what != 1) = decide (what ≠ 0 ∧ what ≠ 1) := by
          rw [Bool.eq_iff_iff]; simp [h]
        rw [this]
      · have h : what = 0 := by simpa using h
        simp [h]
    intro ρ hρ
    simp only [List.map_cons, List.map_nil, List.cons.injEq, and_true] at hρ
    obtain ⟨e3, e7, e8, e9, e11, e12, e13, e70⟩ := hρ
    unfold F6J5
    rw [e3, e7, e8, e9, e11, e12, e13, e70]
    refine rIf (fun h => ?_) (fun h => ?_)
    · have h : what ≠ 0 ∧ what ≠ 1 := by simpa using h
      rcases hL with ⟨h0, _⟩ | ⟨h1, _⟩ | ⟨h1, h2, h3, h4⟩
      · exact absurd h0 h.1
      · exact absurd h1 h.2
      · simp only at h1 h2 h3 h4
        subst h3
        obtain ⟨hf, ht⟩ := hsame h4
        rw [hn, if_neg h.1, hf]
        refine rEq <| rIfT <| ld17 hr c7 <| ld17 hr c3 <| rStEq hr hr ?_
        rw [decide_eq_true rfl]
        refine rIfT <| rLt <| rIfT <| rGt ?_
        rw [decide_eq_true (by omega)]
        refine rIfT <| rLe ?_
        rw [decide_eq_true (by omega)]
        exact hK
    · have h : ¬ (what ≠ 0 ∧ what ≠ 1) := by simpa using h
      exact ⟨rfl, rfl, rfl, by omega⟩
  rintro ρ ds W ⟨hρ, rfl, rfl, hw⟩
  simp only [List.map_cons, List.map_nil, List.cons.injEq, and_true] at hρ
  obtain ⟨e3, e7, e8, e9, e11, e12, e13⟩ := hρ
  unfold F6J4
  rw [e3, e7, e8, e9, e11, e12, e13]
  refine rEq <| rIf (fun h => ?_) (fun h => ?_)
  · have h : what = 1 := by simpa using h
    subst h
    rcases hL with ⟨h0, _⟩ | ⟨_, h2, h3, h4⟩ | ⟨h1, _⟩
    · cases h0
    · simp only at h2 h3 h4
      obtain ⟨hf, ht⟩ := hsame h2
      rw [hn, if_neg (by decide), cnt_none h3 16 (by omega), hf]
      refine rEq <| rIfT <| rEq <| rIfT <| rLt <| rIfT <| rFA0 <| rLd c7 (hr'.cell (i := 16) (by decide)) <| rFA0 <| rLd c3 (hr.cell (i := 16) (by decide)) <| rAddU (y := 4) ?_
      rw [h4]
      refine rEqU ?_
      rw [decide_eq_true rfl]
      exact hK
    · exact absurd h1 (show ¬ (1 : Int) < 1 by decide)
  · have h : what = 0 := by
      have : ¬ what = 1 := by simpa using h
      omega
    subst h
    rw [hn, if_pos rfl]
    rcases hL with ⟨_, h2⟩ | ⟨h1, _⟩ | ⟨h1, _⟩
    · simp only at h2
      rcases h2 with ⟨h2, x, hx⟩ | ⟨h2, y, hy⟩
      · obtain ⟨hf, ht⟩ := hsame h2
        have hc : cnt r r' 16 ≤ 1 := (cnt_one hx 16 (by omega)).2
        rw [hf, ht]
        refine rEq <| rIfT <| rLe ?_
        rw [decide_eq_true (by omega)]
        refine rIfT <| rSub (by decide) (by decide) <| rLt <| rIfT <| rEq <| rIf (fun _ => hK) (fun _ => rLt hK)
      · rw [cnt_none h2 16 (by omega)]
        refine rEq <| rIfT <| rLe <| rIfT ?_
        have hft : -9223372036854775808 ≤ t - f ∧ t - f < 8 := by
          rcases hE with ⟨h1, h2, _⟩ | ⟨h1, h2, h3, h4, h5⟩
          · omega
          · have q1 : y ≤ f.toNat ∧ f.toNat < y + 8 := Decidable.byContradiction fun hc => h4 (hy _ hc).symm
            have q2 : y ≤ t.toNat ∧ t.toNat < y + 8 := Decidable.byContradiction fun hc => h5 (hy _ hc).symm
            omega
        refine rSub (by omega) (by omega) <| rLt ?_
        rw [decide_eq_true (by omega)]
        exact rIfT <| rEq <| rIfT hK
    · cases h1
    · exact absurd h1 (show ¬ (1 : Int) < 0 by decide)

/-- CpuLittle -/
theorem law6 {w : World} {s : List UInt8} {r : List Nat} {K : Value → World → Prop} (hT : Tabs w) (hr : St r) (hK : ∀ w', Fr (fun _ => False) w w' → K (.bool true) w') : Ret Tryd.prog 6 #[str s, stv r] w K := by
  apply F6_ok
  unfold F6
  refine rBoxA ?_
  intro w1 c1' f1 s1
  have c1 : Cs w1 w.heap.size (stc r) := c1'
  refine lives_spec (hT.fr f1) ?_
  intro w2 f2
  have f02 := f1.more f2
  have c2 := c1.fr f2 id
  refine rNot <| rIfF <| memory_spec ?_
  intro w3 g o3
  have c3 := c2.fr o3.fr id
  have hml := memP_len s
  generalize memP s = l at *
  refine rPNil' <| rIfF <| all_spec o3 ?_
  intro w4 f4
  have c4 := c3.fr f4 id
  have n4 : ¬ g.sees w.heap.size := fun h => by have := o3.mine _ h; have := c2.lt; omega
  refine ld17 hr c4 ?_
  refine over_spec (n := 1) (hT.fr f02) (o3.more f4) hr (by decide) (by decide) ?_
  rw [show (1 : Int).toNat = 1 from rfl]
  intro w5 g5 ev5 o5 hst5
  have c5 := c4.fr ev5.fr fun h => n4 (.inl h)
  refine rT0 <| rT1 <| rT2 <| newSt hst5 ?_
  intro w7 f7 c7 s7
  have d7 := c5.fr f7 id
  have o7 := o5.more f7
  rw [← ev5.b]
  refine all_spec o7 ?_
  intro w8 f8
  have c8 := c7.fr f8 id
  have d8 := d7.fr f8 id
  have f8all : Fr (fun _ => False) w w8 := (f02.more o7.fr).more f8
  have hone := over_one r l
  have hst1 : (overP 1 0 r l).1 = (stepP r l).1 := by rw [hone]; split <;> rfl
  have hme1 : (overP 1 0 r l).2.1 = (stepP r l).2.1 := by rw [hone]; split <;> rfl
  have hwh1 : (overP 1 0 r l).2.2.2 = (stepP r l).2.2 := by
    rw [hone]; split
    · rename_i h; exact h.symm
    · rfl
  have hct1 : (overP 1 0 r l).2.2.1 = if (stepP r l).2.2 = 0 then 1 else 0 := by rw [hone]; split <;> rfl
  have hL := stepP_little hr.len l
  have hl2 := stepP_len r l
  rw [hme1, hwh1, hct1]
  rw [hst1] at c8 hst5
  generalize hS : stepP r l = S at *
  obtain ⟨r', l', what⟩ := S
  simp only at *
  generalize hn : (if what = 0 then 1 else 0 : Nat) = n at *
  refine ⟨fun vs ds V => ds = [] ∧ (Fr (fun _ => False) w8 V) ∧ ∃ i : Nat, i ≤ 16 ∧ vs = [pt w.heap.size 0, str l, pt w5.heap.size 0, it n, it what, str l', it (cnt r r' i), it (-1), it (-1), it i], fun vs _ _ => match vs with | [_, _, _, _, _, _, _, _, _, .int _ i] => 16 - i.toNat | _ => 0, ⟨rfl, Fr.refl _ _, 0, by decide, rfl⟩, ?_⟩
  rintro ρ ds V ⟨rfl, fV, i, hi, hρ⟩
  have hρ0 := hρ
  simp only [List.map_cons, List.map_nil, List.cons.injEq, and_true] at hρ
  obtain ⟨e3, e6, e7, e8, e9, e10, e11, e12, e13, e33⟩ := hρ
  unfold F6L1
  rw [hρ0, e3, e6, e7, e8, e9, e10, e11, e12, e13, e33]
  have cV := c8.fr fV id
  have dV := d8.fr fV id
  refine rLt <| rIf (fun hlt => ?_) (fun hge => ?_)
  · have hlt : i < 16 := by
      have : (i : Int) < 16 := by simpa using hlt
      omega
    refine ⟨fun W => Cs W w5.heap.size (stc r') ∧ Cs W w.heap.size (stc r), ⟨cV.drew, dV.drew⟩, ?_⟩
    refine rFA0 <| rIAr (a := i) (by omega) (by omega) <| rLdS _ (fun W hW => ⟨_, hW.1, hst5.cell (by omega)⟩) <| rFA0 <| rIAr (a := i) (by omega) (by omega) <| rLdS _ (fun W hW => ⟨_, hW.2, hr.cell (by omega)⟩) <| rNeU ?_
    have hc1 := cnt_le r r' i
    have hdf : Fr (fun _ => False) w8 V.drew := fV.drew
    have ei : (i : Int) + 1 = ((i + 1 : Nat) : Int) := by omega
    refine rIf (fun hx => ?_) (fun hx => ?_)
    · have hx : ¬ rg r' i = rg r i := by simpa using hx
      refine rAdd (by omega) (by omega) <| rAdd (by omega) (by omega) ?_
      have ec : (cnt r r' i : Int) + 1 = (cnt r r' (i + 1) : Int) := by rw [cnt, if_pos hx]; omega
      rw [ec, ei]
      refine ⟨⟨rfl, hdf, i + 1, by omega, rfl⟩, ?_⟩
      show 16 - ((i + 1 : Nat) : Int).toNat < 16 - ((i : Nat) : Int).toNat
      omega
    · have hx : rg r' i = rg r i := by simpa using hx
      refine rAdd (by omega) (by omega) ?_
      have ec : cnt r r' (i + 1) = cnt r r' i := by rw [cnt, if_neg (fun e => e hx)]; rfl
      rw [ei, ← ec]
      refine ⟨⟨rfl, hdf, i + 1, by omega, rfl⟩, ?_⟩
      show 16 - ((i + 1 : Nat) : Int).toNat < 16 - ((i : Nat) : Int).toNat
      omega
  · have hi : i = 16 := by
      have : ¬ (i : Int) < 16 := by simpa using hge
      omega
    subst hi
    clear hρ0 e3 e6 e7 e8 e9 e10 e11 e12 e13 e33
    refine ⟨fun vs ds U => ds = [] ∧ (Fr (fun _ => False) w8 U) ∧ ∃ (i : Nat) (f t : Int), i ≤ l.length ∧ Ends l l' i f t ∧ vs = [pt w.heap.size 0, str l, pt w5.heap.size 0, it n, it what, str l', it (cnt r r' 16), it f, it t, it i], fun vs _ _ => match vs with | [_, _, _, _, _, _, _, _, _, .int _ i] => l.length - i.toNat | _ => 0, ⟨rfl, fV, 0, -1, -1, Nat.zero_le _, .inl ⟨rfl, rfl, fun j hj => by omega⟩, rfl⟩, ?_⟩
    rintro ρ ds U ⟨rfl, fU, i, f, t, hi, hE, hρ⟩
    have hρ0 := hρ
    simp only [List.map_cons, List.map_nil, List.cons.injEq, and_true] at hρ
    obtain ⟨e3, e6, e7, e8, e9, e10, e11, e12, e13, e15⟩ := hρ
    unfold F6L2
    rw [hρ0, e3, e6, e7, e8, e9, e10, e11, e12, e13, e15]
    refine rLenB <| rLt <| rIf (fun hlt => ?_) (fun hge => ?_)
    · have hlt : i < l.length := by
        have : (i : Int) < l.length := by simpa using hlt
        omega
      obtain ⟨x, hx⟩ : ∃ x, l[i]? = some x := ⟨_, List.getElem?_eq_getElem hlt⟩
      obtain ⟨y, hy⟩ : ∃ y, l'[i]? = some y := ⟨_, List.getElem?_eq_getElem (by omega)⟩
      refine ⟨fun _ => True, trivial, rIxS hx <| rIxS hy <| rNe8 ?_⟩
      have ei : (i : Int) + 1 = ((i + 1 : Nat) : Int) := by omega
      have hme : l.length - ((i + 1 : Nat) : Int).toNat < l.length - ((i : Nat) : Int).toNat := by omega
      have hdf : Fr (fun _ => False) w8 U.drew := fU.drew
      refine rIf (fun hne => ?_) (fun heq => ?_)
      · have hne : l[i]? ≠ l'[i]? := by
          rw [hx, hy]
          intro e
          cases e
          simp at hne
        refine rLt <| rIf (fun hf => ?_) (fun hf => ?_)
        · have hf : f < 0 := by simpa using hf
          refine rAdd (by omega) (by omega) ?_
          rw [ei]
          refine ⟨⟨rfl, hdf, i + 1, i, i, by omega, .inr ⟨by omega, by omega, by omega, ?_, ?_⟩, rfl⟩, hme⟩
          · rw [Int.toNat_natCast]; exact hne
          · rw [Int.toNat_natCast]; exact hne
        · have hf : ¬ f < 0 := by simpa using hf
          rcases hE with ⟨h1, _⟩ | ⟨h1, h2, h3, h4, h5⟩
          · omega
          refine rAdd (by omega) (by omega) ?_
          rw [ei]
          refine ⟨⟨rfl, hdf, i + 1, f, i, by omega, .inr ⟨h1, by omega, by omega, h4, ?_⟩, rfl⟩, hme⟩
          rw [Int.toNat_natCast]; exact hne
      · have heq : x = y := by
          have : (x.toNat : Int) = y.toNat := by simpa using heq
          exact UInt8.toNat.inj (by omega)
        subst heq
        refine rAdd (by omega) (by omega) ?_
        rw [ei]
        refine ⟨⟨rfl, hdf, i + 1, f, t, by omega, ?_, rfl⟩, hme⟩
        rcases hE with ⟨h1, h2, h3⟩ | ⟨h1, h2, h3, h4, h5⟩
        · refine .inl ⟨h1, h2, fun j hj => ?_⟩
          by_cases e : j = i
          · rw [e, hx, hy]
          · exact h3 j (by omega)
        · exact .inr ⟨h1, h2, by omega, h4, h5⟩
    · have hi : i = l.length := by
        have : ¬ (i : Int) < l.length := by simpa using hge
        omega
      subst hi
      exact little_end (s := .nilIface) (a := .nilIface) (b := .nilIface) (w := w) hr hst5 hL hn.symm hE hl2 (d8.fr fU id) (c8.fr fU id) (hK U (f8all.more fU))

end Go.Proofs.YtmaecpbkbkncgaaDoor
