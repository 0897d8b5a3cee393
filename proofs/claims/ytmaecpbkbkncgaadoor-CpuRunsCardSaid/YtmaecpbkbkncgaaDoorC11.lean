/-
  Cpu, part 11: CpuMoves. Own work.
-/
import Derived.Test.YtmaecpbkbkncgaaDoorC10
set_option linter.unusedVariables false
set_option linter.unusedSimpArgs false
set_option maxRecDepth 100000
namespace Go.Proofs.YtmaecpbkbkncgaaDoor
open Go Go.V Go.RowKit

theorem rg_put {r : List Nat} {i j : Int} {v : Nat} (hi0 : 0 ≤ i) (hi : i < 17) (hj : 0 ≤ j) (hr : r.length = 17) : rg (putP r i v) j = if i = j then v else rg r j := by
  unfold rg putP
  rw [List.getElem?_set]
  by_cases h : i = j
  · subst h
    rw [if_pos rfl, if_pos rfl, if_pos (by omega)]; rfl
  · rw [if_neg h, if_neg (by omega)]

theorem putP_len (r : List Nat) (i : Int) (v : Nat) : (putP r i v).length = r.length := by simp [putP]

theorem wrl_before {l s : List UInt8} {x a k : Nat} (h : x + s.length ≤ l.length) (ha : a + k ≤ x) : ((wrl l x s).drop a).take k = (l.drop a).take k := by
  apply List.ext_getElem?
  intro i
  rw [List.getElem?_take, List.getElem?_take]
  split
  · rw [List.getElem?_drop, List.getElem?_drop, wrl_get h, if_neg (by omega)]
  · rfl

theorem wrl_at {l s : List UInt8} {x : Nat} (h : x + s.length ≤ l.length) : ((wrl l x s).drop x).take s.length = s := by
  apply List.ext_getElem?
  intro i
  rw [List.getElem?_take]
  split
  · rename_i hi
    rw [List.getElem?_drop, wrl_get h, if_pos (by omega)]
    congr 1
    omega
  · rw [List.getElem?_eq_none (by omega)]

theorem rSAdd {a b : List UInt8} {K : Value → Prop} (h : a.length + b.length < 9223372036854775808) (k : K (str (a ++ b))) : vBin .string .add (str a) (str b) K := by
  show (⟨a.toArray⟩ : ByteArray).size + (⟨b.toArray⟩ : ByteArray).size < 9223372036854775808 ∧ K (.string (⟨a.toArray⟩ ++ ⟨b.toArray⟩))
  have : (⟨a.toArray⟩ : ByteArray) ++ ⟨b.toArray⟩ = ⟨(a ++ b).toArray⟩ := by
    have h : ((⟨a.toArray⟩ : ByteArray) ++ ⟨b.toArray⟩).data = (a ++ b).toArray := by simp
    cases hb : (⟨a.toArray⟩ : ByteArray) ++ ⟨b.toArray⟩
    rw [hb] at h
    simpa using h
  rw [this]
  exact ⟨by simpa [ByteArray.size] using h, k⟩

/-- what a text of one step does -/
theorem stepP_of {r : List Nat} {l s : List UInt8} {c : Cd} (h : ldP l (rg r 16) 4 = some s) (hd : decode s = some c) : stepP r l = doP r l c := by
  unfold stepP
  rw [h]
  simp only [hd]

theorem d21 : decode [21, 1, 2, 0] = some ⟨21, 1, 2, 0, 0⟩ := by kernel_rfl
theorem d20 : decode [20, 3, 2, 0] = some ⟨20, 3, 2, 0, 0⟩ := by kernel_rfl
theorem d19 : decode [19, 1, 2, 0] = some ⟨19, 1, 2, 0, 0⟩ := by kernel_rfl
theorem d18 : decode [18, 3, 2, 0] = some ⟨18, 3, 2, 0, 0⟩ := by kernel_rfl

/-- a store by a register, and a load -/
theorem do_store {r : List Nat} {l : List UInt8} {op a b : Int} (ho : op = 19 ∨ op = 21) : doP r l ⟨op, a, b, 0, 0⟩ =
    if (stR l (rg r b % 18446744073709551616) ((eight (rg r a)).take (sizeP op))).2 = 0 then (goP r (nextP r), (stR l (rg r b % 18446744073709551616) ((eight (rg r a)).take (sizeP op))).1, 0) else (r, l, 3) := by
  unfold doP
  simp only
  rw [if_neg (by omega), if_neg (by omega), if_neg (by omega), if_neg (by omega), if_neg (by omega), if_neg (by omega), if_pos (by omega)]
  unfold movesP
  simp only [if_pos ho, beq_iff_eq]
  rfl

theorem do_load {r : List Nat} {l : List UInt8} {op a b : Int} (ho : op = 18 ∨ op = 20) : doP r l ⟨op, a, b, 0, 0⟩ =
    match ldP l (rg r b % 18446744073709551616) (sizeP op) with
    | some s => (goP (putP r a (wv s)) (nextP r), l, 0)
    | none => (r, l, 3) := by
  unfold doP
  simp only
  rw [if_neg (by omega), if_neg (by omega), if_neg (by omega), if_neg (by omega), if_neg (by omega), if_neg (by omega), if_pos (by omega)]
  unfold movesP
  simp only [if_neg (show ¬ (op = 19 ∨ op = 21) by omega)]
  have e : addrP r ⟨op, a, b, 0, 0⟩ = rg r b % 18446744073709551616 := rfl
  rw [e]
  cases ldP l (rg r b % 18446744073709551616) (sizeP op) <;> rfl

/-- the state of the law -/
def mst (x y : Nat) : List Nat := putP (putP (List.replicate 17 0) 1 x) 2 y

theorem mst_ok {x y : Nat} (hx : x < 18446744073709551616) (hy : y < 18446744073709551616) : St (mst x y) := (St.zero.put hx).put hy

theorem mst_16 (x y : Nat) : rg (mst x y) 16 = 0 := rfl
theorem mst_1 (x y : Nat) : rg (mst x y) 1 = x := rfl
theorem mst_2 (x y : Nat) : rg (mst x y) 2 = y := rfl

theorem two_steps {o1 o2 : UInt8} {p1 p2 : Int} {k : Nat} (h1 : p1 = 19 ∨ p1 = 21) (h2 : p2 = 18 ∨ p2 = 20) (hk1 : sizeP p1 = k) (hk2 : sizeP p2 = k) (d1 : decode [o1, 1, 2, 0] = some ⟨p1, 1, 2, 0, 0⟩) (d2 : decode [o2, 3, 2, 0] = some ⟨p2, 3, 2, 0, 0⟩)
    {x y : Nat} (hx : x < 18446744073709551616) (hy : y < 18446744073709551616) (z : List UInt8) (l : List UInt8) (hl : l = [o1, 1, 2, 0, o2, 3, 2, 0] ++ z) :
    (l.length < y + k → overP 2 0 (mst x y) l = (mst x y, l, 0, 3)) ∧
    (y + k ≤ l.length → 8 ≤ y → rg (overP 2 0 (mst x y) l).1 3 = wv ((eight x).take k) ∧ rg (overP 2 0 (mst x y) l).1 16 = 8 ∧ (overP 2 0 (mst x y) l).2.2.1 = 2 ∧ (overP 2 0 (mst x y) l).2.2.2 = 0) := by
  have hll : l.length = 8 + z.length := by rw [hl]; simp; omega
  have hk8 : k ≤ 8 := by rw [← hk1]; exact sizeP_le _
  have hlen : ((eight x).take k).length = k := by rw [List.length_take, eight_len]; omega
  have hld : ldP l (rg (mst x y) 16) 4 = some [o1, 1, 2, 0] := by
    rw [mst_16]
    unfold ldP
    rw [if_pos (by omega), hl]
    rfl
  have hs := stepP_of hld d1
  rw [do_store h1, mst_1, mst_2, hk1, Nat.mod_eq_of_lt hy] at hs
  constructor
  · intro hf
    have hst : stR l y ((eight x).take k) = (l, 9) := by
      unfold stR
      rw [if_neg (by rw [hlen]; omega)]
    rw [hst, if_neg (show ¬ (9 : Int) = 0 by decide)] at hs
    rw [overP_end (by rw [hs]; show ¬ (3 : Int) = 0; decide), hs]
  · intro hf h8
    have hst : stR l y ((eight x).take k) = (wrl l y ((eight x).take k), 0) := by
      unfold stR
      rw [if_pos (by rw [hlen]; omega)]
    rw [hst, if_pos rfl] at hs
    rw [overP_go (by rw [hs]), hs]
    have hn : nextP (mst x y) = 4 := by unfold nextP; rw [mst_16]
    rw [hn]
    simp only
    generalize hr1 : goP (mst x y) 4 = r1
    have l17 : r1.length = 17 := by rw [← hr1]; simp [goP, putP, mst]
    have r16 : rg r1 16 = 4 := by rw [← hr1]; rfl
    have r2 : rg r1 2 = y := by rw [← hr1]; rfl
    have hw : (wrl l y ((eight x).take k)).length = l.length := wrl_len (by rw [hlen]; omega)
    have hld2 : ldP (wrl l y ((eight x).take k)) (rg r1 16) 4 = some [o2, 3, 2, 0] := by
      rw [r16]
      unfold ldP
      rw [if_pos (by rw [hw]; omega), wrl_before (by rw [hlen]; omega) (by omega), hl]
      rfl
    have hs2 := stepP_of hld2 d2
    rw [do_load h2, r2, hk2, Nat.mod_eq_of_lt hy] at hs2
    have hld3 : ldP (wrl l y ((eight x).take k)) y k = some ((eight x).take k) := by
      unfold ldP
      rw [if_pos (by rw [hw]; omega)]
      have := wrl_at (l := l) (s := (eight x).take k) (x := y) (by rw [hlen]; omega)
      rw [hlen] at this
      rw [this]
    simp only [hld3] at hs2
    rw [overP_go (by rw [hs2]), hs2]
    have hn2 : nextP r1 = 8 := by unfold nextP; rw [r16]
    rw [hn2]
    refine ⟨?_, ?_, rfl, rfl⟩
    · show rg (goP (putP r1 3 (wv ((eight x).take k))) 8) 3 = _
      unfold goP
      rw [rg_put (by decide) (by decide) (by decide) (by rw [putP_len, l17]), if_neg (by decide), rg_put (by decide) (by decide) (by decide) l17, if_pos rfl]
    · show rg (goP (putP r1 3 (wv ((eight x).take k))) 8) 16 = _
      unfold goP
      rw [rg_put (by decide) (by decide) (by decide) (by rw [putP_len, l17]), if_pos rfl]

theorem rRemI {n : Int} {K : Value → Prop} (k : K (it (n.tmod 2))) : vBin (.int .i64) .rem (it n) (.int .i64 2) K := ⟨rfl, by decide, k⟩

/-- CpuMoves, once it is known which way -/
theorem moves_law {w W : World} {o1 o2 : UInt8} {p1 p2 : Int} {k N x y : Nat} {K : Value → World → Prop} (h1 : p1 = 19 ∨ p1 = 21) (h2 : p2 = 18 ∨ p2 = 20) (hk1 : sizeP p1 = k) (hk2 : sizeP p2 = k) (d1 : decode [o1, 1, 2, 0] = some ⟨p1, 1, 2, 0, 0⟩) (d2 : decode [o2, 3, 2, 0] = some ⟨p2, 3, 2, 0, 0⟩)
    (hx : x < 18446744073709551616) (hy : y < 18446744073709551616) (hN : N < 200) (hk0 : 0 < k) (hwant : wv ((eight x).take k) = if k = 1 then x % 256 else x) (hT : Tabs W) (f : Fr (fun _ => False) w W) (hK : ∀ w', Fr (fun _ => False) w w' → K (.bool true) w')
    {ρ : Env} (e0 : ρ 0 = it ((64 + N : Nat) : Int)) (e1 : ρ 1 = ut y) (e2 : ρ 2 = ut x) (e9 : ρ 9 = str [o1, 1, 2, 0, o2, 3, 2, 0]) (e10 : ρ 10 = ut k) : F8J1 K ρ [] W := by
  unfold F8J1
  rw [e0, e1, e2, e9, e10]
  refine rLenB <| rSub (by simp; omega) (by simp; omega) ?_
  have e8 : ((64 + N : Nat) : Int) - (([o1, 1, 2, 0, o2, 3, 2, 0] : List UInt8).length : Int) = ((56 + N : Nat) : Int) := by simp; omega
  rw [e8]
  refine mk38 (by omega) ?_
  intro w2 v b2 f2 s2
  refine b2.toStr ?_
  refine rSAdd (by simp; omega) ?_
  refine memory_spec ?_
  intro w3 g o3
  generalize hl : ([o1, 1, 2, 0, o2, 3, 2, 0] ++ List.replicate (56 + N) 0 : List UInt8) = l at *
  have hll : l.length = 64 + N := by rw [← hl]; simp; omega
  have hm : memP l = l := by unfold memP; rw [List.take_of_length_le (by omega)]
  rw [hm] at o3
  have f3 := f2.more o3.fr
  have f03 := f.more f3
  refine rPNil' <| rIfF <| build25e <| newSt St.zero ?_
  intro w5 f5 c5 s5
  have hlt := o3.ge
  refine rFA0 <| rIAr (a := 1) (by decide) (by decide) <| rSt c5 (by simp) rfl (by simp) ?_
  intro w6 u6
  have c6 := u6.cs
  refine rFA0 <| rIAr (a := 2) (by decide) (by decide) <| rSt c6 (by simp) rfl (by simp) ?_
  intro w7 u7
  have c7 : Cs w7 w3.heap.size (stc (mst x y)) := by
    have := u7.cs
    rw [stc_put (List.replicate 17 0) 1 x, stc_put _ 2 y] at this
    exact this
  have hns : ¬ g.sees w3.heap.size := fun h => by have := hlt _ h; omega
  have f37 : Fr (fun _ => False) w3 w7 := (f5.trans u6.fr fun k hk e => by omega).trans u7.fr fun k hk e => by omega
  have o7 := o3.more f37
  have hst := mst_ok hx hy
  refine ld17 hst c7 ?_
  have hT7 := (hT.fr f2)
  refine over_spec (n := 2) hT7 o7 hst (by decide) (by decide) ?_
  rw [show (2 : Int).toNat = 2 from rfl]
  intro w8 g' ev8 o8 hst8
  have c8 := c7.fr ev8.fr fun h => hns (.inl h)
  refine rT0 <| rT1 <| rT2 <| newSt hst8 ?_
  intro w10 f10 c10 s10
  have c10' := c8.fr f10 id
  have hfin := hK w10 ((f.more (f2.more o8.fr)).more f10)
  have H := two_steps h1 h2 hk1 hk2 d1 d2 hx hy (List.replicate (56 + N) 0) l hl.symm
  generalize hO : overP 2 0 (mst x y) l = O at *
  refine joinOne (L := [ut y, ut x, ut k, pt w3.heap.size 0, pt w8.heap.size 0, it O.2.2.1, it O.2.2.2, .bool (decide (l.length < y + k))]) (ds := []) (w := w10) ?_ ?_
  · have cv : ∀ {Q : Value → Prop}, Q (ut (64 + N)) → vConv (.int .u64) (it ((64 + N : Nat) : Int)) Q := by
      intro Q q
      refine rCv ?_
      rw [wrap_u64n, Nat.mod_eq_of_lt (by omega)]
      exact q
    refine cv <| rGtU <| rIf (fun h => ⟨?_, rfl, rfl⟩) (fun h => cv <| rSubU hy <| rGtU ⟨?_, rfl, rfl⟩)
    · have h : 64 + N < y := by simpa using h
      rw [decide_eq_true (by omega)]
    · have h : ¬ 64 + N < y := by simpa using h
      have : decide ((64 + N + (18446744073709551616 - y)) % 18446744073709551616 < k) = decide (l.length < y + k) := by
        rw [Bool.eq_iff_iff]
        simp only [decide_eq_true_eq]
        omega
      rw [this]
  intro ρ hρ
  simp only [List.map_cons, List.map_nil, List.cons.injEq, and_true] at hρ
  obtain ⟨e1, e2, e10, e12, e13, e14, e15, e63⟩ := hρ
  unfold F8J2
  rw [e1, e2, e10, e12, e13, e14, e15, e63]
  refine rIf (fun hb => ?_) (fun hb => ?_)
  · have hb : l.length < y + k := by simpa using hb
    rw [H.1 hb] at c10 ⊢
    refine rEq <| rIfT <| rEq <| rIfT <| ld17 hst c10 <| ld17 hst c10' <| rStEq hst hst ?_
    rw [decide_eq_true rfl]
    exact hfin
  have hb : ¬ l.length < y + k := by simpa using hb
  refine rLtU (y := 8) <| rIf (fun _ => hfin) (fun h8 => ?_)
  have h8 : ¬ y < 8 := by simpa using h8
  obtain ⟨q1, q2, q3, q4⟩ := H.2 (by omega) (by omega)
  refine joinOne (L := [pt w8.heap.size 0, it O.2.2.1, it O.2.2.2, ut (wv ((eight x).take k))]) (ds := []) (w := w10) ?_ ?_
  · refine rEqU (y := 1) <| rIf (fun h => rRemU (y := 256) (by decide) ⟨?_, rfl, rfl⟩) (fun h => ⟨?_, rfl, rfl⟩)
    · have h : k = 1 := by simpa using h
      rw [hwant, if_pos h]
    · have h : ¬ k = 1 := by simpa using h
      rw [hwant, if_neg h]
  intro ρ hρ
  simp only [List.map_cons, List.map_nil, List.cons.injEq, and_true] at hρ
  obtain ⟨e13, e14, e15, e16⟩ := hρ
  unfold F8J3
  rw [e13, e14, e15, e16, q3, q4]
  refine rEq <| rIfT <| rEq <| rIfT <| rFA0 <| rIAr (a := 3) (by decide) (by decide) <| rLd c10 (hst8.cell (i := 3) (by decide)) ?_
  rw [q1]
  refine rEqU ?_
  rw [decide_eq_true rfl]
  refine rIfT <| rFA0 <| rLd c10 (hst8.cell (i := 16) (by decide)) ?_
  rw [q2]
  refine rEqU (y := 8) ?_
  exact hfin

/-- CpuMoves -/
theorem law8 {w : World} {n m : Int} {x y : Nat} {K : Value → World → Prop} (hT : Tabs w) (hx : x < 18446744073709551616) (hy : y < 18446744073709551616) (hK : ∀ w', Fr (fun _ => False) w w' → K (.bool true) w') : Ret Tryd.prog 8 #[it n, ut y, ut x, it m] w K := by
  apply F8_ok
  unfold F8
  refine lives_spec hT ?_
  intro w1 f1
  refine rNot <| rIfF <| rMod200 fun N hN => rAdd (by omega) (by omega) ?_
  have e : (64 : Int) + (N : Int) = ((64 + N : Nat) : Int) := by omega
  rw [e]
  refine ⟨fun vs ds W => ds = [] ∧ W = w1 ∧ (vs = [it ((64 + N : Nat) : Int), ut y, ut x, str [19, 1, 2, 0, 18, 3, 2, 0], ut 1] ∨ vs = [it ((64 + N : Nat) : Int), ut y, ut x, str [21, 1, 2, 0, 20, 3, 2, 0], ut 8]), ?_, ?_⟩
  · exact rRemI <| rEq <| rIf (fun _ => ⟨rfl, rfl, .inl rfl⟩) (fun _ => ⟨rfl, rfl, .inr rfl⟩)
  rintro ρ ds W ⟨rfl, rfl, hρ⟩
  have hT1 := hT.fr f1
  rcases hρ with hρ | hρ
  · simp only [List.map_cons, List.map_nil, List.cons.injEq, and_true] at hρ
    obtain ⟨e0, e1, e2, e9, e10⟩ := hρ
    refine moves_law (o1 := 19) (o2 := 18) (k := 1) (.inl rfl) (.inl rfl) rfl rfl d19 d18 hx hy hN (by decide) ?_ hT1 f1 hK e0 e1 e2 e9 e10
    have : (eight x).take 1 = [UInt8.ofNat (x / 256 ^ 0)] := rfl
    rw [this]
    simp [wv]
  · simp only [List.map_cons, List.map_nil, List.cons.injEq, and_true] at hρ
    obtain ⟨e0, e1, e2, e9, e10⟩ := hρ
    refine moves_law (o1 := 21) (o2 := 20) (k := 8) (.inr rfl) (.inr rfl) rfl rfl d21 d20 hx hy hN (by decide) ?_ hT1 f1 hK e0 e1 e2 e9 e10
    rw [List.take_of_length_le (by rw [eight_len]; omega), wv_eight x hx, if_neg (by decide)]

end Go.Proofs.YtmaecpbkbkncgaaDoor
